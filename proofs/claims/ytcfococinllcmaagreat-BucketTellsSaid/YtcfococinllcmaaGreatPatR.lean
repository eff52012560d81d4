/- pattern's reach: a contract. -/
import Derived.Test.YtcfococinllcmaaGreatPatW
import Derived.Test.YtcfococinllcmaaGreatPatP
import Derived.Test.YtcfococinllcmaaGreatAppRd
import Derived.Maps.OwnOps
import Derived.Maps.Ext
import Derived.Sort.OwnSorted
namespace Go.Proofs.YtcfococinllcmaaGreat
open Go.RowKit Go.Sort Go.Maps

/-! slices of ints: what a sort leaves -/
theorem sortI_own (g cap : Nat) (zs : List Int) (w : World) {cur : Array Value} {e0 : TypeId} (hg : w.heap[g]? = some (.cells cur e0 (0, 0))) (hH : Holds (Value.int .i64) w g 0 zs.toArray) (hsz : zs.length ≤ 1000000) :
    Calls Tryz.prog 96 #[.slice (some ⟨g, 0, none⟩) zs.length cap] w fun e w' =>
      e = .returned (.tuple #[]) ∧ w'.heap[g]? = some (.cells (putCells (Value.int .i64) 0 (zs.mergeSort fun x y => decide (x ≤ y)).toArray cur) e0 (0, 0)) ∧ Below g w w' := by
  have hlt : g < w.heap.size := (Array.getElem?_eq_some_iff.1 hg).1
  refine (Tryz.slices_Sort_int g 0 cap zs w hH hlt (by omega)).mono ?_
  rintro e w' ⟨rfl, n, os, rfl⟩
  refine ⟨rfl, ?_, rfl, rfl, rfl, by simp, fun k hk => ?_⟩
  · rw [heap_grow_old _ _ (by simpa using hlt)]
    simp [putRow, mapBlock, Sort.ahead, Array.getElem?_modify, hg, onCells]
  · rw [heap_grow_old _ _ (by simp; omega)]
    have : g ≠ k := by omega
    simp [putRow, mapBlock, Sort.ahead, Array.getElem?_modify, this]
theorem holdsI_own {w : World} {g : Nat} {cur : Array Value} {e : TypeId} {ids : List Int} (hb : w.heap[g]? = some (.cells cur e (0, 0))) (ht : cur.toList.take ids.length = ids.map (Value.int .i64)) : Holds (Value.int .i64) w g 0 ids.toArray := by
  intro j hj
  have hj' : j < ids.length := by simpa using hj
  refine ⟨?_, by simp [World.frozen?, hb]⟩
  have h1 : (cur.toList.take ids.length)[j]? = (ids.map (Value.int .i64))[j]? := by rw [ht]
  rw [List.getElem?_take_of_lt hj'] at h1
  simp only [World.cell?, hb, Nat.zero_add]
  simp only [Option.isSome_none, Bool.false_eq_true, if_false]
  rw [← Array.getElem?_toList, h1]
  simp [hj']
theorem putI_take (cur : Array Value) (ts : List Int) (h : ts.length ≤ cur.size) : (putCells (Value.int .i64) 0 ts.toArray cur).toList.take ts.length = ts.map (Value.int .i64) := by
  apply List.ext_getElem?
  intro j
  by_cases hj : j < ts.length
  · rw [List.getElem?_take_of_lt hj, Array.getElem?_toList, List.getElem?_map]
    simp [putCells, hj, show j < cur.size by omega]
  · rw [List.getElem?_take_eq_none (by omega), List.getElem?_eq_none (by simp; omega)]
/-- the ints of a list of numbers, in row -/
def intsN (l : List Nat) : List Int := l.map fun (n : Nat) => (n : Int)
theorem freeC_ints (l : List Nat) : freeC l = (intsN l).map (Value.int .i64) := by simp [freeC, intsN]
def sortN (l : List Nat) : List Nat := l.mergeSort fun x y => decide (x ≤ y)
theorem intsN_sort (l : List Nat) : (intsN l).mergeSort (fun x y => decide (x ≤ y)) = intsN (sortN l) := by
  refine List.Perm.eq_of_pairwise (le := fun x y : Int => x ≤ y) (fun a b _ _ h1 h2 => Int.le_antisymm h1 h2) ?_ ?_ ?_
  · have h := List.pairwise_mergeSort (le := fun (x y : Int) => decide (x ≤ y)) (fun a b c h1 h2 => by simp at h1 h2 ⊢; omega) (fun a b => by simp; omega) (intsN l)
    exact h.imp (fun h => by simpa using h)
  · have h := List.pairwise_mergeSort (le := fun (x y : Nat) => decide (x ≤ y)) (fun a b c h1 h2 => by simp at h1 h2 ⊢; omega) (fun a b => by simp; omega) l
    unfold intsN sortN
    rw [List.pairwise_map]
    exact h.imp (fun h => by simp at h ⊢; omega)
  · exact (List.mergeSort_perm _ _).trans ((List.mergeSort_perm l _).map _).symm
theorem mem_sortN {l : List Nat} {k : Nat} : k ∈ sortN l ↔ k ∈ l := (List.mergeSort_perm l _).mem_iff
theorem len_sortN (l : List Nat) : (sortN l).length = l.length := (List.mergeSort_perm l _).length_eq
/-- rising, each once -/
def RisingN (l : List Nat) : Prop := l.Pairwise (· < ·)
theorem rising_sort {l : List Nat} (h : l.Nodup) : RisingN (sortN l) := by
  have h1 := List.pairwise_mergeSort (le := fun (x y : Nat) => decide (x ≤ y)) (fun a b c h1 h2 => by simp at h1 h2 ⊢; omega) (fun a b => by simp; omega) l
  have h2 : (sortN l).Nodup := (List.mergeSort_perm l _).nodup_iff.2 h
  exact (h1.and h2).imp (fun h => by simp at h; omega)
/-! a set of numbers, as a map of bools -/
def SeenAt (w : World) (b n : Nat) (S : Nat → Bool) : Prop := ∃ D : DataW Unit, w.ownsMap Tryz.prog 3 (plainElem Tryz.prog 4) b n D ∧ IsMap D ∧ ∀ k : Nat, D.atKey (.int .i64 k) (.lit (.bool false)) = .lit (.bool (S k))
theorem lawI : Keyed Tryz.prog 3 := int_keyed Tryz.underlying3
theorem keyI (k : Nat) (h : k ≤ 1000000) : keyOf Tryz.prog 3 (.int .i64 (k : Int)) = some (.int .i64 (k : Int)) := keyOf_int_mk Tryz.underlying3 (by simp [Lit.wf, IntKind.min, IntKind.max, IntKind.signed, IntKind.bits]; omega)
theorem SeenAt.made (w : World) : SeenAt (w.alloc (.map #[] 0)) w.heap.size 0 (fun _ => false) := ⟨.map [], World.ownsMap_made _ _ _ _, isMap_empty, fun _ => rfl⟩
theorem SeenAt.lt {w : World} {b n : Nat} {S : Nat → Bool} (h : SeenAt w b n S) : b < w.heap.size := by
  obtain ⟨D, h, _⟩ := h
  exact h.lt
theorem SeenAt.kept {w w' : World} {b n : Nat} {S : Nat → Bool} {row : Option Nat} (h : SeenAt w b n S) (hg : w.grownBy w' row) (hne : some b ≠ row) : SeenAt w' b n S := by
  obtain ⟨D, h1, h2⟩ := h
  exact ⟨D, h1.kept hg hne, h2⟩
set_option maxRecDepth 100000 in
theorem SeenAt.look {w : World} {b n : Nat} {S : Nat → Bool} (h : SeenAt w b n S) (k : Nat) (hk : k ≤ 1000000) : (Instr.lookup 234 (.map (some b)) (.int .i64 (k : Int)) false).run Tryz.prog w = .ok (.bool (S k)) w := by
  obtain ⟨D, h1, _, h3⟩ := h
  obtain ⟨v, ps, hr, hv⟩ := h1.lookup lawI Tryz.underlying234 (Tryz.zeroValue4 w) (zd := .lit (.bool false)) (zp := []) (plainElem_bool Tryz.underlying4 false) (keyI k hk)
  rw [h3 k] at hv
  have : v = .bool (S k) := by
    unfold plainElem at hv
    rw [Tryz.underlying4] at hv
    split at hv
    · rename_i h1 h2; simp at hv; rw [hv.1]
    all_goals (first | cases hv | simp_all)
  rw [hr, this]
theorem SeenAt.put {w' : World} {b n : Nat} {D : DataW Unit} {S : Nat → Bool} (hD : IsMap D) (hS : ∀ k : Nat, D.atKey (.int .i64 k) (.lit (.bool false)) = .lit (.bool (S k))) (k : Nat) (h : w'.ownsMap Tryz.prog 3 (plainElem Tryz.prog 4) b n (D.put (.int .i64 (k : Int)) (.lit (.bool true)))) : SeenAt w' b n (fun j => S j || decide (j = k)) := by
  refine ⟨_, h, hD.put _ _, fun j => ?_⟩
  by_cases hj : j = k
  · subst hj
    rw [atKey_put_same hD (show WideAt.IsKeyLit (.int .i64 (j : Int)) from trivial)]; simp
  · rw [atKey_put_other (by simp; omega), hS j]; simp [hj]
theorem wpList_append_rd2 {P : Program} {w : World} {ops : Array Oper} {rest : List Oper} {o : Oper} {a : Act} {Q : Exit → Act → World → Prop} (hgd : o.guard = none) (s x : Operand) (t : TypeId)
    (ho : o.op = .call { callee := .builtin .append, args := #[s, x], argTypes := #[t, t] })
    (base : Nat) (e : TypeId) (i : TypeInfo) (z : Value) (size bytes : Nat) (ht : P.underlying t = some (.slice e)) (hi : P.info? e = some i) (hz : i.zero = some z)
    (hsize : i.size = size) (hby : i.bytes = bytes) (hzs : z.cells.size = size) (hsz : 0 < size)
    (v : Value) (n : Nat) (xs : List Value) (hs : a.eval s = v) (hown : w.ownsRow base e size v n xs)
    (u : Value) (m : Nat) (news : List Value) (hx : a.eval x = u) (hu : RdAt w u m size news) (h1 : ∀ y ∈ news, y.oneCell' = true)
    (h63 : n + m ≤ maxLen) (hbytes : (n + m) * bytes ≤ 140737488355328) (hbase : base ≤ w.heap.size)
    (h : ∀ v' w', w'.ownsRow base e size v' (n + m) (xs ++ news) → w.grownBy w' v.ownBlock → (v'.ownBlock = v.ownBlock ∨ v'.ownBlock = some w.heap.size) → wpList P ops Q rest (a.put o.dst v') w') : wpList P ops Q (o :: rest) a w := by
  refine wpList_plain hgd fun K hK => ?_
  obtain ⟨v', w', hr, h2, h3, h4⟩ := run_append_rd (P := P) w t o.type base e i z size bytes ht hi hz hsize hby hzs hsz v n xs hown u m news hu h1 h63 hbytes hbase
  unfold Oper.wp execOp
  simp only [ho, resolve, invoke, builtin, Sem.run_bind, Sem.run_pure, Result.andThen_ok, List.map_toArray, List.map_cons, List.map_nil, hs, hx, hr]
  exact hK _ _ (h v' w' h2 h3 h4)
/-- a row without its last element -/
theorem ownsRow_pop {w : World} {base : Nat} {e : TypeId} {g n cap : Nat} {xs : List Value} {x : Value} (h : w.ownsRow base e 1 (.slice (some ⟨g, 0, none⟩) (n + 1) cap) (n + 1) (xs ++ [x])) : w.ownsRow base e 1 (.slice (some ⟨g, 0, none⟩) n cap) n xs ∧ w.cell? ⟨g, n, none⟩ = some x ∧ n + 1 ≤ cap := by
  have hxl : xs.length = n := by have := h.1; simp at this; omega
  have hc := (ownsRow_cell h (g := g) (j := n) (u := x) rfl (by rw [List.getElem?_append_right (by omega)]; simp [hxl])).1
  rcases h.2 with ⟨h1, _⟩ | ⟨g', cap', cur, he, hb, hg, hle, hcap, hsz, htk⟩
  · simp at h1
  · simp only [Value.slice.injEq, Option.some.injEq, Addr.mk.injEq] at he
    obtain ⟨⟨rfl, _, _⟩, _, rfl⟩ := he
    refine ⟨⟨by simp [hxl], .inr ⟨g, cap, cur, rfl, hb, hg, by omega, hcap, hsz, ?_⟩⟩, hc, hle⟩
    have h2 : cur.toList.take (n * 1) = (cur.toList.take ((n + 1) * 1)).take n := by rw [List.take_take]; congr 1; omega
    rw [h2, htk, ← hxl, List.take_left]
theorem run_clear_map (w : World) (T : TypeId) (k e ty : TypeId) {P : Program} (ht : P.underlying T = some (.map k e)) {b : Nat} {es : Array MapEntry} {clock : Nat} (hb : w.heap[b]? = some (.map es clock)) :
    ∃ w', (Builtin.clear_ #[T] ty #[.map (some b)]).run P w = .ok (.tuple #[]) w' ∧ w.grownBy w' (some b) := by
  refine ⟨{ w with heap := w.heap.setIfInBounds b (.map #[] clock) }, ?_, ⟨rfl, rfl, rfl, by simp, fun k _ hk => ?_⟩⟩
  · simp [Builtin.clear_, run_underlying ht, Result.andThen]
    simp [getObj, setObj, Sem.run, hb]
  · have : b ≠ k := fun e => hk (by rw [e])
    simp [this]
def lenV : Value → Nat
  | .slice _ n _ => n
  | _ => 0
/-- what reach carries round by round -/
structure ReAt (w : World) (m : Nat) (sts : List St) (l out todo : List Nat) (vo vt : Value) (wr : World) : Prop where
  ge : w.heap.size ≤ m
  below : Below w.heap.size w wr
  inv : ReInv sts l out todo
  seen : ∃ n, n ≤ out.length ∧ SeenAt wr m n (fun k => decide (k ∈ out))
  ro : wr.ownsRow w.heap.size 3 1 vo out.length (freeC out)
  rt : wr.ownsRow w.heap.size 3 1 vt todo.length (freeC todo)
  mo : vo.ownBlock ≠ some m
  mt : vt.ownBlock ≠ some m
  ot : vo.ownBlock = none ∨ vo.ownBlock ≠ vt.ownBlock
  len : todo.length ≤ l.length + out.length * tot sts
theorem ReAt.bound {w : World} {m : Nat} {sts : List St} {l out todo : List Nat} {vo vt : Value} {wr : World} (h : ReAt w m sts l out todo vo vt wr) : out.length ≤ sts.length := nodup_lt h.inv.nd h.inv.bo
theorem freeC_snoc (l : List Nat) (k : Nat) : freeC (l ++ [k]) = freeC l ++ [.int .i64 k] := by simp [freeC]
theorem freeC_app (l r : List Nat) : freeC (l ++ r) = freeC l ++ freeC r := by simp [freeC]
theorem own_len {w : World} {base : Nat} {e : TypeId} {size : Nat} {v : Value} {n : Nat} {xs : List Value} (h : w.ownsRow base e size v n xs) : lenV v = n := by
  rcases h.2 with ⟨rfl, rfl⟩ | ⟨g, cap, _, rfl, _⟩ <;> rfl
theorem own_shape {w : World} {base : Nat} {e : TypeId} {size : Nat} {v : Value} {n : Nat} {xs : List Value} (h : w.ownsRow base e size v n xs) : ∃ a c, v = .slice a n c ∧ (0 < n → ∃ g, a = some ⟨g, 0, none⟩) := by
  rcases h.2 with ⟨rfl, rfl⟩ | ⟨g, cap, _, rfl, _⟩
  · exact ⟨_, _, rfl, fun h => absurd h (Nat.lt_irrefl _)⟩
  · exact ⟨_, _, rfl, fun _ => ⟨g, rfl⟩⟩
/-- slices.Sort of a row of the call's own -/
theorem sort_row (w : World) (base n : Nat) (l : List Nat) (v : Value) (hn : l.length = n) (h : w.ownsRow base 3 1 v n (freeC l)) (hl : n ≤ 1000000) :
    Calls Tryz.prog 96 #[v] w fun e w' => e = .returned (.tuple #[]) ∧ w'.ownsRow base 3 1 v n (freeC (sortN l)) ∧ Below base w w' := by
  subst hn
  rcases Nat.eq_zero_or_pos l.length with h0 | h0
  · have hnil : l = [] := List.length_eq_zero_iff.1 h0
    subst hnil
    obtain ⟨a, c, rfl, _⟩ := own_shape h
    refine (Tryz.slices_Sort_int_none a c w).mono ?_
    rintro e w' ⟨rfl, rfl⟩
    exact ⟨rfl, by simpa [sortN] using h, Below.refl _ _⟩
  · rcases h.2 with ⟨_, h1⟩ | ⟨g, cap, cur, rfl, hb, hg, hle, hcap, hsz, htk⟩
    · omega
    · have hil : (intsN l).length = l.length := by simp [intsN]
      have htk' : cur.toList.take (intsN l).length = (intsN l).map (Value.int .i64) := by rw [hil, ← freeC_ints, ← htk]; congr 1; omega
      have hk := sortI_own g cap (intsN l) w hg (holdsI_own hg htk') (by omega)
      rw [hil, intsN_sort] at hk
      refine hk.mono ?_
      rintro e w' ⟨rfl, h2, h3⟩
      refine ⟨rfl, ⟨?_, .inr ⟨g, cap, _, rfl, hb, h2, hle, hcap, by simpa [putCells] using hsz, ?_⟩⟩, h3.mono hb⟩
      · simp [freeC, len_sortN]
      · have hsl : (intsN (sortN l)).length = l.length := by simp [intsN, len_sortN]
        have := putI_take cur (intsN (sortN l)) (by rw [hsl]; omega)
        rw [hsl] at this
        rw [Nat.mul_one, this, freeC_ints]
theorem mul_le_bound {a b c d : Nat} (h1 : a ≤ c) (h2 : b ≤ d) : a * b ≤ c * d := Nat.mul_le_mul h1 h2
/-- the states' cells, in whatever later world -/
theorem PatAt.cells {w : World} {a : Nat} {s : ByteArray} {sts : List St} {st en : Nat} (h : PatAt w a s sts st en) : ∃ sa sn sc, w.cell? ⟨a, 1, none⟩ = some (.slice sa sn sc) ∧ w.cell? ⟨a, 0, none⟩ = some (.string s) ∧ w.cell? ⟨a, 2, none⟩ = some (.int .i64 st) ∧ w.cell? ⟨a, 3, none⟩ = some (.int .i64 en) ∧ a < w.heap.size ∧
    ∀ (k : Nat) (hk : k < sts.length), ∃ r cap pv fv, (.slice sa sn sc : Value) = .slice (some ⟨r, 0, none⟩) sts.length cap ∧ r < w.heap.size ∧ w.cell? ⟨r, k * 3, none⟩ = some pv ∧ w.cell? ⟨r, k * 3 + 1, none⟩ = some (.int .i64 (sts[k].next : Nat)) ∧ w.cell? ⟨r, k * 3 + 2, none⟩ = some fv ∧
      PtrAt w (fun _ => True) sts[k] pv ∧ w.ownsRow 0 3 1 fv sts[k].free.length (freeC sts[k].free) := by
  obtain ⟨sv, es, h⟩ := h
  obtain ⟨sa, sn, sc, rfl⟩ := ownsRow_slice h.row
  refine ⟨sa, sn, sc, by rw [cell_of_row _ _ _ _ _ _ h.blk]; rfl, by rw [cell_of_row _ _ _ _ _ _ h.blk]; rfl, by rw [cell_of_row _ _ _ _ _ _ h.blk]; rfl, by rw [cell_of_row _ _ _ _ _ _ h.blk]; rfl, (Array.getElem?_eq_some_iff.1 h.blk).1, fun k hk => ?_⟩
  obtain ⟨r, cap, he, _, hlt⟩ := h.row.form (by omega)
  have hx : sts[k]? = some sts[k] := List.getElem?_eq_getElem hk
  obtain ⟨e, hee⟩ : ∃ e, es[k]? = some e := ⟨_, List.getElem?_eq_getElem (by rw [h.len]; exact hk)⟩
  obtain ⟨q0, q1, q2⟩ := stC_at sts es k _ e hx hee
  have hb : (Value.slice sa sn sc).ownBlock = some r := by rw [he]; rfl
  exact ⟨r, cap, e.1, e.2, he, hlt, (ownsRow_cell h.row hb q0).1, (ownsRow_cell h.row hb q1).1, (ownsRow_cell h.row hb q2).1, h.ptr k _ e hx hee, (h.free k _ e hx hee).1⟩
theorem own_lt {w : World} {base : Nat} {e : TypeId} {size : Nat} {v : Value} {n : Nat} {xs : List Value} (h : w.ownsRow base e size v n xs) {k : Nat} (hk : v.ownBlock = some k) : k < w.heap.size := (h.lt k hk).2
/-- one number is new: the relation behind it -/
theorem ReAt.more {w : World} {m : Nat} {sts : List St} {l out t : List Nat} {k gt tc go oc : Nat} {vo vt' : Value} {wr w1 w2 w3 : World} {o : Obj} (hw : SWf sts) (h : ReAt w m sts l out (t ++ [k]) vo (.slice (some ⟨gt, 0, none⟩) (t.length + 1) tc) wr) (hk : k ∉ out)
    (n : Nat) (hn : n ≤ out.length) (hs1 : SeenAt w1 m (n + 1) (fun j => decide (j ∈ out) || decide (j = k))) (hg1 : wr.grownBy w1 (some m))
    (ho2 : w2.ownsRow w.heap.size 3 1 (.slice (some ⟨go, 0, none⟩) (out.length + 1) oc) (out.length + 1) (freeC out ++ [.int .i64 k])) (hg2 : (w1.alloc o).grownBy w2 vo.ownBlock) (ha2 : vo.ownBlock = some go ∨ go = w1.heap.size + 1)
    (hr3 : w3.ownsRow w.heap.size 3 1 vt' (t.length + (frees sts k).length) (freeC t ++ freeC (frees sts k))) (hg3 : w2.grownBy w3 (some gt)) (ha3 : vt'.ownBlock = some gt ∨ vt'.ownBlock = some w2.heap.size) :
    ReAt w m sts l (out ++ [k]) (t ++ frees sts k) (.slice (some ⟨go, 0, none⟩) (out.length + 1) oc) vt' w3 := by
  have hgm := (own_lt h.rt rfl : gt < wr.heap.size)
  obtain ⟨n0, _, hs0⟩ := h.seen
  have hml := hs0.lt
  have hg1s := hg1.size
  have hg2s : w1.heap.size + 1 ≤ w2.heap.size := by have := hg2.size; rw [World.size_alloc] at this; exact this
  have hgom : go ≠ m := by
    rcases ha2 with e | e
    · exact fun e' => h.mo (e' ▸ e)
    · omega
  have hgt : gt ≠ m := fun e => h.mt (by rw [← e]; rfl)
  have hgog : go ≠ gt := by
    rcases ha2 with e | e
    · rcases h.ot with h1 | h1
      · rw [h1] at e; cases e
      · exact fun e' => h1 (by rw [e, e']; rfl)
    · omega
  have hvom : vo.ownBlock ≠ some m := h.mo
  have hbase : ∀ j, (Value.slice (some ⟨gt, 0, none⟩) (t.length + 1) tc).ownBlock = some j → w.heap.size ≤ j := fun j e => (h.rt.lt j e).1
  have b1 : Below w.heap.size w w1 := h.below.grown hg1 h.below.size (fun j e => by cases e; exact h.ge)
  have b1' : Below w.heap.size w (w1.alloc o) := b1.alloc b1.size o
  have b2 : Below w.heap.size w w2 := b1'.grown hg2 b1'.size (fun j e => (h.ro.lt j e).1)
  have b3 : Below w.heap.size w w3 := b2.grown hg3 b2.size (fun j e => by cases e; exact hbase gt rfl)
  refine ⟨h.ge, b3, h.inv.new hw hk, ⟨n + 1, by simp; omega, ?_⟩, ?_, ?_, ?_, ?_, ?_, ?_⟩
  · have hs2 : SeenAt w2 m (n + 1) (fun j => decide (j ∈ out) || decide (j = k)) := SeenAt.kept (row := vo.ownBlock) (SeenAt.kept (row := none) hs1 (World.grownBy_alloc w1 o none) (by simp)) hg2 (fun e => hvom e.symm)
    have hs3 := SeenAt.kept (row := some gt) hs2 hg3 (fun e => hgt (Option.some.inj e).symm)
    have hf : (fun j => decide (j ∈ out ++ [k])) = (fun j => decide (j ∈ out) || decide (j = k)) := by
      funext j
      rw [Bool.eq_iff_iff]
      simp
    rw [hf]
    exact hs3
  · rw [List.length_append, freeC_snoc]
    exact ho2.kept hg3 (.inr (fun e => hgog (Option.some.inj e)))
  · rw [List.length_append, freeC_app]
    exact hr3
  · exact fun e => hgom (Option.some.inj e)
  · rcases ha3 with e | e
    · rw [e]; exact fun e' => hgt (Option.some.inj e')
    · rw [e]; exact fun e' => by have := Option.some.inj e'; omega
  · refine .inr (fun e => ?_)
    rcases ha3 with e' | e'
    · rw [e'] at e; exact hgog (Option.some.inj e)
    · rw [e'] at e
      have h5 : go = w2.heap.size := Option.some.inj e
      have h4 := own_lt ho2 (k := go) rfl
      omega
  · have h1 := h.len
    have h2 := frees_len sts k
    simp only [List.length_append, List.length_cons, List.length_nil] at h1 ⊢
    rw [Nat.add_mul]
    omega
set_option maxHeartbeats 6400000 in
set_option maxRecDepth 100000 in
theorem reach_is (w : World) (a : Nat) (s : ByteArray) (sts : List St) (st en : Nat) (l : List Nat) (v : Value) (hp : PatAt w a s sts st en) (hw : SWf sts) (hN : tot sts ≤ 100000) (hv : RdAt w v l.length 1 (freeC l)) (hl : ∀ j ∈ l, j < sts.length) (hll : l.length ≤ 1000000) :
    Calls Tryz.prog 158 #[.pointer (some ⟨a, 0, none⟩), v] w fun e w' => ∃ v' out, e = .returned v' ∧ w'.ownsRow w.heap.size 3 1 v' out.length (freeC out) ∧ Below w.heap.size w w' ∧ RisingN out ∧ ∀ k, k ∈ out ↔ Cl sts l k := by
  have hNl : sts.length ≤ 100000 := Nat.le_trans (len_tot _) hN
  obtain ⟨sa, sn, sc, c1, _, _, _, halt, hst⟩ := hp.cells
  obtain ⟨i0, hi, hz0, hz1, hz2⟩ := info_parts info_intP
  have HW := Lib.hid hw
  have HST := Lib.hid hst
  have hmm := @run_makeMap Tryz.prog
  have hba := alloc_below w (.map #[] 0)
  have hS0 := SeenAt.made w
  have hcl : ∀ W, Below w.heap.size w W → Calls Tryz.prog 171 #[v] W fun e w' => ∃ v', e = .returned v' ∧ w'.ownsRow W.heap.size 3 1 v' l.length (freeC l) ∧ Below W.heap.size W w' := fun W hW => by
    have hvW := hv.later hW
    rcases Nat.eq_zero_or_pos l.length with h0 | h0
    · have hnil : l = [] := List.length_eq_zero_iff.1 h0
      subst hnil
      rcases hvW.2 with ⟨rfl, _⟩ | ⟨ad, c, rfl, _, _⟩
      · refine (Tryz.slices_Clone_int_nil 0 0 W).mono ?_
        rintro e w' ⟨rfl, rfl⟩
        exact ⟨_, rfl, World.ownsRow_nil _ _ _ _, Below.refl _ _⟩
      · refine (Tryz.slices_Clone_int_zero ad c W).mono ?_
        rintro e w' ⟨v', rfl, h1, _, h2⟩
        exact ⟨v', rfl, h1, h2⟩
    · obtain ⟨b, o, c, rfl, hcc, _, hcell⟩ := hvW.some h0
      have hil : (intsN l).length = l.length := by simp [intsN]
      have hlen : l.length = (intsN l).length := hil.symm
      refine (Tryz.slices_Clone_int b o l.length c (intsN l) W (by omega) (by omega) (fun j hj => ?_)).mono ?_
      · refine hcell j _ ?_
        rw [freeC_ints, List.getElem?_map, List.getD_eq_getElem?_getD, List.getElem?_eq_getElem hj]; rfl
      · rintro e w' ⟨v', rfl, h1, _, h2⟩
        rw [hlen, List.take_length, ← freeC_ints, ← hlen] at h1
        exact ⟨v', rfl, h1, h2⟩
  have HCL := Lib.hid hcl
  have HLt := Lib.hid hl
  clear hp hw hl hv hcl hst
  go_enter Tryz.func158, Tryz.ntmps158
  go_wp2_with fail
  refine (HCL.out _ hba).mono ?_
  rintro e w1 ⟨vt, rfl, hrt, hb1⟩
  rw [World.size_alloc] at hrt
  have hre : ReAt w w.heap.size sts l [] l (.slice none 0 0) vt w1 := by
    refine ⟨Nat.le_refl _, hba.trans (hb1.mono (by rw [World.size_alloc]; omega)), ReInv.start sts l HLt.out, ⟨0, Nat.zero_le _, ?_⟩, World.ownsRow_nil _ _ _ _, own_base hrt (by omega), by simp [Value.ownBlock], fun e => ?_, .inl rfl, by simp⟩
    · exact SeenAt.kept (row := none) (by simpa using hS0) (below_grown hb1 none) (by simp)
    · have := (hrt.lt _ e).1; omega
  have HRE := Lib.hid hre
  clear hba hS0 hre hrt hb1 hmm HCL HLt
  go_wp2
  go_loopw [6, 7] (fun vo vt wr => ∃ out todo, ReAt w w.heap.size sts l out todo vo vt wr) (fun vo vt _ => (sts.length - lenV vo) * (tot sts + 1) + lenV vt)
  case atStart => exact ⟨[], l, HRE.out⟩
  case round =>
    clear HRE
    obtain ⟨out, todo, hR⟩ := hrel
    have hob := hR.bound
    rcases List.eq_nil_or_concat todo with rfl | ⟨t, k, rfl⟩
    · have HR := Lib.hid hR
      obtain ⟨n, hn, hS⟩ := hR.seen
      obtain ⟨D, hD, hDm, _⟩ := hS
      obtain ⟨es, clock, hbk, _⟩ := hD
      obtain ⟨wc, hclr, hgc⟩ := run_clear_map wr 234 3 4 0 Tryz.underlying234 hbk
      obtain ⟨ta, tc, rfl, _⟩ := own_shape hR.rt
      have hks := sort_row wc w.heap.size out.length out u6 rfl (hR.ro.kept hgc (.inr hR.mo)) (by omega)
      have HGC := Lib.hid hgc
      obtain ⟨oa, oc, rfl, _⟩ := own_shape hR.ro
      clear hR hn hDm hbk hgc
      go_wp2_with fail
      refine hks.mono ?_
      rintro e w2 ⟨rfl, hro2, hb2⟩
      go_wp2
      go_ret
      have hbc : Below w.heap.size w wc := HR.out.below.grown HGC.out HR.out.below.size (fun k e => by cases e; exact HR.out.ge)
      refine ⟨_, sortN out, rfl, by rw [len_sortN]; exact hro2, hbc.trans (hb2), rising_sort HR.out.inv.nd, fun k => by rw [mem_sortN]; exact HR.out.inv.done k⟩
    · have hkt : k < sts.length := hR.inv.bt k (by simp)
      have htl := hR.len
      have hmul : out.length * tot sts ≤ 100000 * 100000 := Nat.mul_le_mul (by omega) hN
      simp only [List.concat_eq_append] at hR
      obtain ⟨ta, tc, rfl, hta⟩ := own_shape hR.rt
      obtain ⟨gt, rfl⟩ := hta (by simp)
      have hrt := hR.rt
      have htn : (t ++ [k]).length = t.length + 1 := by simp
      simp only [htn] at hR hrt ⊢
      rw [freeC_snoc] at hrt
      obtain ⟨hpop, hck, hcap⟩ := ownsRow_pop hrt
      obtain ⟨n, hn, hS⟩ := hR.seen
      have hlk := hS.look k (by omega)
      have HR := Lib.hid hR
      obtain ⟨oa, oc, rfl, _⟩ := own_shape hR.ro
      have hb := hR.below
      have hml := hS.lt
      have hge := hR.ge
      have hol : lenV (.slice oa out.length oc) = out.length := rfl
      have HS := Lib.hid hS
      have HN := Lib.hid hn
      simp only [List.length_concat] at htl
      have hil : (0 : Int) ≤ (t.length : Int) := by omega
      have htc : (t.length : Int) + 1 ≤ (tc : Int) := by omega
      have htm : (t.length : Int) ≤ (tc : Int) := by omega
      clear hR hrt hS hn hcap
      by_cases hk : k ∈ out
      · rw [decide_eq_true hk] at hlk
        have HK := Lib.hid hk
        have HPOP := Lib.hid hpop
        clear hk hpop
        go_wp2
        go_roundw
        case rel =>
          refine ⟨out, t, HR.out.ge, HR.out.below, HR.out.inv.seen HK.out, HR.out.seen, HR.out.ro, HPOP.out, HR.out.mo, HR.out.mt, HR.out.ot, by have := HR.out.len; simp at this; omega⟩
        case measure => simp [lenV]
      · rw [decide_eq_false hk] at hlk
        have HK := Lib.hid hk
        obtain ⟨D, hD, hDm, hDa⟩ := HS.out
        obtain ⟨r, cap, pv, fv, hsv, hrl, _, _, hcf, _, hfr⟩ := HST.out k hkt
        simp only [Value.slice.injEq] at hsv
        obtain ⟨hsa, hsn, hsc⟩ := hsv
        subst hsa hsn hsc
        have hft : sts[k].free.length ≤ 100000 := Nat.le_trans (free_tot sts _ (List.getElem_mem hkt)) hN
        have HFE : Hid (frees sts k = sts[k].free) := Lib.hid (by unfold frees; rw [List.getElem?_eq_getElem hkt])
        have HDM := Lib.hid hDm
        have HDA := Lib.hid hDa
        have HHD := Lib.hid hD
        have hone : ∀ u ∈ ([.int .i64 k] : List Value), u.oneCell' = true := by
          intro u hu; simp at hu; subst hu; rfl
        have hkey := keyI k (by omega)
        have hval : plainElem (H := Unit) Tryz.prog 4 (.bool true) = some (.lit (.bool true), []) := plainElem_bool Tryz.underlying4 true
        have hff : ∀ y ∈ freeC sts[k].free, y.oneCell' = true := by
          intro y hy
          obtain ⟨q, _, rfl⟩ := List.mem_map.1 hy
          rfl
        have HFR := Lib.hid hfr
        have hk0 : (0 : Int) ≤ (k : Int) := by omega
        have hk1 : (k : Int) < (sts.length : Int) := by omega
        have HPOP := Lib.hid hpop
        clear hk hDm hDa hpop hfr
        have hnn := HN.out
        have HOT : Hid ((Value.slice (some ⟨gt, 0, none⟩) t.length tc).ownBlock ≠ (Value.slice oa out.length oc).ownBlock) := Lib.hid (by
          rcases HR.out.ot with e | e
          · rw [e]; simp [Value.ownBlock]
          · exact fun e' => e e'.symm)
        go_wp2_with (first
          | (at_mapUpdate; (refine wpList_mapUpdate_own _ rfl _ _ _ 234 rfl 3 4 lawI Tryz.underlying234 _ w.heap.size n D rfl HHD.out (by unfold maxLen; omega) _ _ _ rfl rfl hkey _ [] hval ?_); intro w1 hown1 hgrow1; have HO1 := Lib.hid (SeenAt.put HDM.out HDA.out k hown1); have HG1 := Lib.hid hgrow1; have hro1 := (HR.out.ro.kept hgrow1 (.inr HR.out.mo)).alloc (.cells #[.int .i64 k] 3); have hnb1 : (w1.alloc (.cells #[.int .i64 k] 3)).heap[w1.heap.size]? = some (.cells #[.int .i64 k] 3 (0, 0)) := heap_alloc_new _ _; have HNB1 := Lib.hid hnb1; have hb1 := hb.grown hgrow1 hb.size (fun j e => by cases e; exact hge); have HBS1 : Hid (w.heap.size ≤ (w1.alloc (.cells #[.int .i64 k] 3)).heap.size) := Lib.hid (by rw [World.size_alloc]; have := hb1.size; omega); have HSZ1 := Lib.hid (World.size_alloc w1 (.cells #[.int .i64 k] 3)); clear hown1 hgrow1 hnb1)
          | (at_builtin; (refine wpList_append_lies _ rfl (.tmp 32) (.tmp 34) 32 rfl w.heap.size 3 i0 (.int .i64 0) 1 8 Tryz.underlying32 hi hz0 hz1 hz2 rfl (by decide) _ out.length (freeC out) rfl hro1 ⟨w1.heap.size, 0, none⟩ 1 1 [.int .i64 k] rfl rfl (World.news_of_block HNB1.out) hone (by decide) (by unfold maxLen; omega) (by omega) HBS1.out (w1.heap.size + 1) HSZ1.out ?_); intro go cp w2 hown2 hgrow2 hat2 hlt2; have HO2 := Lib.hid (And.intro hown2 (And.intro hgrow2 hat2)); have hb2 := (hb1.alloc hb1.size (.cells #[.int .i64 k] 3)).grown hgrow2 HBS1.out (fun j e => (HR.out.ro.lt j e).1); have c1' := keep_cell c1 hb2 halt; have cf' := keep_cell hcf hb2 hrl; have hrt2 := ((HPOP.out.kept HG1.out (.inr HR.out.mt)).alloc (.cells #[.int .i64 k] 3)).kept hgrow2 (.inr HOT.out); have hrd := (RdAt.own HFR.out).later hb2; clear hown2 hgrow2 hat2 hro1)
          | (at_builtin; (refine wpList_append_rd2 rfl (.tmp 36) (.tmp 44) 32 rfl w.heap.size 3 i0 (.int .i64 0) 1 8 Tryz.underlying32 hi hz0 hz1 hz2 rfl (by decide) _ t.length (freeC t) rfl hrt2 _ sts[k].free.length (freeC sts[k].free) rfl hrd hff (by unfold maxLen; omega) (by omega) hb2.size ?_); intro v3 w3 hown3 hgrow3 hat3; have HO3 := Lib.hid (And.intro hown3 (And.intro hgrow3 hat3)); clear hown3 hgrow3 hat3))
        go_roundw
        case rel =>
          obtain ⟨h2a, h2b, h2c⟩ := HO2.out
          obtain ⟨h3a, h3b, h3c⟩ := HO3.out
          rw [← HFE.out] at h3a
          exact ⟨out ++ [k], t ++ frees sts k, HR.out.more HW.out HK.out n HN.out HO1.out HG1.out h2a h2b h2c h3a h3b h3c⟩
        case measure =>
          have hne : out.length < sts.length := by
            have := (HR.out.more HW.out HK.out n HN.out HO1.out HG1.out HO2.out.1 HO2.out.2.1 HO2.out.2.2 (by rw [HFE.out]; exact HO3.out.1) HO3.out.2.1 HO3.out.2.2).bound
            rw [List.length_append] at this; simp only [List.length_cons, List.length_nil] at this; omega
          have hf := free_tot sts _ (List.getElem_mem hkt)
          have h3 : lenV v3 = t.length + sts[k].free.length := own_len HO3.out.1
          rw [h3]
          simp only [lenV]
          obtain ⟨dd, hdd⟩ : ∃ dd, sts.length - out.length = dd + 1 := ⟨sts.length - out.length - 1, by omega⟩
          rw [show sts.length - (out.length + 1) = dd by omega, hdd, Nat.add_mul]
          omega
end Go.Proofs.YtcfococinllcmaaGreat
