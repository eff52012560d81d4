/- alert.Id: a contract. -/
import Derived.Test.YtipnhpfpppblhaaConv
import Derived.Test.YtipnhpfpppblhaaShaOf
import Derived.Test.YtipnhpfpppblhaaFields
import Derived.Test.YtipnhpfpppblhaaBox2
namespace Go.Proofs.Ytipnhpfpppblhaa
open Go.RowKit

/-- the bytes of a field, of an alert -/
def fldB (f : Fld) : List Int := byL f.1 ++ [61] ++ byL f.2 ++ [0]
def idB (src : ByteArray) (fl : List Fld) : List Int := byL src ++ [0] ++ fl.flatMap fldB
theorem idB_take {fl : List Fld} {k : Nat} (src : ByteArray) (h : k < fl.length) : idB src (fl.take (k + 1)) = idB src (fl.take k) ++ fldB fl[k] := by
  unfold idB
  rw [List.take_succ_eq_append_getElem h, List.flatMap_append]; simp
theorem idB_le (src : ByteArray) (fl : List Fld) (k : Nat) : (idB src (fl.take k)).length ≤ (idB src fl).length := by
  have : idB src fl = idB src (fl.take k) ++ (fl.drop k).flatMap fldB := by
    unfold idB
    rw [List.append_assoc _ _ ((fl.drop k).flatMap fldB), ← List.flatMap_append, List.take_append_drop]
  rw [this, List.length_append]; omega
theorem idB_byte (src : ByteArray) (fl : List Fld) : ByteL (idB src fl) := by
  intro x hx
  simp only [idB, List.mem_append, List.mem_flatMap, fldB] at hx
  rcases hx with (h | h) | ⟨f, _, ((h | h) | h) | h⟩
  · exact byL_byte src x h
  · obtain rfl := List.mem_singleton.1 h; omega
  · exact byL_byte f.1 x h
  · obtain rfl := List.mem_singleton.1 h; omega
  · exact byL_byte f.2 x h
  · obtain rfl := List.mem_singleton.1 h; omega
theorem wpList_append_cv {w W : World} {ops : Array Oper} {rest : List Oper} {o : Oper} {a : Act} {Q : Exit → Act → World → Prop} (hgd : o.guard = none) (s x : Operand)
    (ho : o.op = .call { callee := .builtin .append, args := #[s, x], argTypes := #[103, 103] }) (i0 : TypeInfo)
    (hi : Try.prog.info? 5 = some i0) (hz0 : i0.zero = some (.int .u8 0)) (hz1 : i0.size = 1) (hz2 : i0.bytes = 1)
    (str : ByteArray) (hs : a.eval s = .slice (some ⟨w.heap.size, 0, none⟩) str.size (cvC w str)) (hw : Below (cvW w str).heap.size (cvW w str) W) (hl : str.size ≤ 4000000)
    (u : Value) (c : Int) (hx : a.eval x = u) (hu : RdAt W u 1 1 [V8 c])
    (h : ∀ a' c' w', ByAt w' (.slice (some a') (str.size + 1) c') (byL str ++ [c]) → Below w.heap.size w w' → a'.block < w'.heap.size → wpList Try.prog ops Q rest (a.put o.dst (.slice (some a') (str.size + 1) c')) w') : wpList Try.prog ops Q (o :: rest) a W := by
  refine wpList_plain hgd fun K hK => ?_
  obtain ⟨a', c', w', hr, h2, h3, h4, _⟩ := run_append_cv w W str hw hl c u hu o.type i0 hi hz0 hz1 hz2
  unfold Oper.wp execOp
  simp only [ho, resolve, invoke, builtin, Sem.run_bind, Sem.run_pure, Result.andThen_ok, List.map_toArray, List.map_cons, List.map_nil, hs, hx, hr]
  exact hK _ _ (h a' c' w' h2 h3 h4)
theorem own_ltA {a : Addr} {n c m : Nat} (h : a.block < m) : ∀ p, (Value.slice (some a) n c).ownBlock = some p → p < m := by
  intro p hp
  have : a.block = p := by simpa [Value.ownBlock] using hp
  rw [← this]; exact h
theorem by_one (w : World) (x : Int) : ByAt (w.alloc (.cells #[V8 x] 5)) (.slice (some ⟨w.heap.size, 0, none⟩) 1 1) [x] := rd_one8 w (V8 x) 5
/-- what is laid together -/
theorem pieces_at (w : World) (v : Value) (bs : List Int) (hv : ByAt w v bs) (n u : ByteArray) :
    SlsAt ((((((cvW w n).alloc (.cells #[V8 61] 5))) |> fun w2 => ((cvW w2 u).alloc (.cells #[V8 0] 5)) |> fun w4 => w4.alloc (.cells #[v, .slice (some ⟨w.heap.size, 0, none⟩) n.size (cvC w n), .slice (some ⟨(cvW w n).heap.size, 0, none⟩) 1 1, .slice (some ⟨w2.heap.size, 0, none⟩) u.size (cvC w2 u), .slice (some ⟨(cvW w2 u).heap.size, 0, none⟩) 1 1] 103))))
      ⟨((cvW ((cvW w n).alloc (.cells #[V8 61] 5)) u).alloc (.cells #[V8 0] 5)).heap.size, 0, none⟩
      [(v, bs), (.slice (some ⟨w.heap.size, 0, none⟩) n.size (cvC w n), byL n), (.slice (some ⟨(cvW w n).heap.size, 0, none⟩) 1 1, [61]), (.slice (some ⟨((cvW w n).alloc (.cells #[V8 61] 5)).heap.size, 0, none⟩) u.size (cvC ((cvW w n).alloc (.cells #[V8 61] 5)) u), byL u), (.slice (some ⟨(cvW ((cvW w n).alloc (.cells #[V8 61] 5)) u).heap.size, 0, none⟩) 1 1, [0])] := by
  dsimp only
  have b1 := cv_below w n
  have b2 := alloc_below (cvW w n) (.cells #[V8 61] 5)
  have r1 := cv_at w n
  have r2 := by_one (cvW w n) 61
  have s1 := cv_size w n
  have s2 : ((cvW w n).alloc (.cells #[V8 61] 5)).heap.size = (cvW w n).heap.size + 1 := World.size_alloc _ _
  generalize (cvW w n).alloc (.cells #[V8 61] 5) = w2 at *
  have b3 := cv_below w2 u
  have b4 := alloc_below (cvW w2 u) (.cells #[V8 0] 5)
  have r3 := cv_at w2 u
  have r4 := by_one (cvW w2 u) 0
  have s3 := cv_size w2 u
  have s4 : ((cvW w2 u).alloc (.cells #[V8 0] 5)).heap.size = (cvW w2 u).heap.size + 1 := World.size_alloc _ _
  generalize (cvW w2 u).alloc (.cells #[V8 0] 5) = w4 at *
  generalize hQ : (#[v, .slice (some ⟨w.heap.size, 0, none⟩) n.size (cvC w n), .slice (some ⟨(cvW w n).heap.size, 0, none⟩) 1 1, .slice (some ⟨w2.heap.size, 0, none⟩) u.size (cvC w2 u), .slice (some ⟨(cvW w2 u).heap.size, 0, none⟩) 1 1] : Array Value) = Q
  have b5 := alloc_below w4 (.cells Q 103)
  have hsz : w4.heap.size < (w4.alloc (.cells Q 103)).heap.size := by rw [World.size_alloc]; omega
  have hcell : ∀ j, (w4.alloc (.cells Q 103)).cell? ⟨w4.heap.size, 0 + j, none⟩ = Q[j]? := fun j => by rw [Nat.zero_add]; exact World.cell?_alloc_at _ _ _ _ rfl
  have b24 := b3.trans (b4.mono (by omega))
  have b25 := b24.trans (b5.mono (by omega))
  have b12 := b1.trans (b2.mono (by omega))
  have e0 : ByAt (w4.alloc (.cells Q 103)) v bs := hv.later (b12.trans (b25.mono (by omega)))
  have e1 := (r1.later b2).later b25
  have e2 := r2.later b25
  have e3 := (r3.later b4).later b5
  have e4 := r4.later b5
  refine ⟨w4.heap.size, 0, rfl, hsz, fun j hj => ?_⟩
  match j, hj with
  | 0, _ => exact ⟨by rw [hcell, ← hQ]; rfl, e0⟩
  | 1, _ => exact ⟨by rw [hcell, ← hQ]; rfl, e1⟩
  | 2, _ => exact ⟨by rw [hcell, ← hQ]; rfl, e2⟩
  | 3, _ => exact ⟨by rw [hcell, ← hQ]; rfl, e3⟩
  | 4, _ => exact ⟨by rw [hcell, ← hQ]; rfl, e4⟩
set_option maxHeartbeats 1600000 in
set_option maxRecDepth 100000 in
theorem id_any (src : ByteArray) (fl : List Fld) (lv : Int) (c : Nat) (fr til : Int) (v : Value) (w : World) (hv : FldsAt w v fl) (hl : (idB src fl).length ≤ 4000000) :
    Calls Try.prog 26 #[.agg #[.string src, v, .int .i64 lv, .int .u32 c, .int .i64 fr, .int .i64 til]] w fun e w' => e = .returned (.int .u64 (shortL (idB src fl))) ∧ Below w.heap.size w w' := by
  obtain ⟨fa, fc, rfl, hfc, hfr⟩ := RdAt.shape hv
  obtain ⟨i0, hi, hz0, hz1, hz2⟩ := info_parts info_u8
  have HF := Lib.hid hfr
  clear hfr hv
  have hsl : src.size ≤ 4000000 := by have := idB_le src fl 0; simp [idB, byL_len] at this hl; omega
  have hfl : fl.length ≤ 4000000 := by
    have : fl.length ≤ (fl.flatMap fldB).length := by
      clear hl HF hfc
      induction fl with
      | nil => simp
      | cons f l ih => simp only [List.flatMap_cons, List.length_append, fldB, List.length_cons, List.length_nil]; omega
    unfold idB at hl
    rw [List.length_append] at hl
    omega
  have kc := fun W => cv_run W src
  have HL := Lib.hid hl
  clear hl
  go_enter Try.func26, Try.ntmps26
  go_upto_region 1 with fail
  have hbx := alloc_below w (.cells #[.string src, .slice fa fl.length fc, .int .i64 lv, .int .u32 c, .int .i64 fr, .int .i64 til] 36)
  have hbox := box6 (Below.refl (w.alloc (.cells #[.string src, .slice fa fl.length fc, .int .i64 lv, .int .u32 c, .int .i64 fr, .int .i64 til] 36)).heap.size _)
  obtain ⟨⟨x0, x1, x2, x3, x4, x5⟩, hlt0, _⟩ := hbox
  generalize w.alloc (.cells #[.string src, .slice fa fl.length fc, .int .i64 lv, .int .u32 c, .int .i64 fr, .int .i64 til] 36) = w0 at *
  have hlt := Lib.hid hlt0
  clear hlt0
  have hcb := (cv_below w0 src)
  have hal := alloc_below (cvW w0 src) (.cells #[V8 0] 5)
  have hrd := rd_one8 (cvW w0 src) (V8 0) 5
  go_wp2_with (at_builtin; (refine wpList_append_cv (w := w0) rfl (.tmp 8) (.tmp 9) rfl i0 hi hz0 hz1 hz2 src rfl hal hsl _ 0 rfl hrd ?_); intro a1 c1 w1 hby1 hb1 hlt1; have hX1 := keep_cell x1 hb1 hlt.out)
  have hB1 := hbx.trans (hb1.mono (Nat.le_of_lt hlt.out))
  have hby1' := Lib.hid hby1
  have hlt1' := Lib.hid hlt1
  clear x0 x1 x2 x3 x4 x5 hcb hal hrd hby1 hlt1 hb1 hbx
  have HL2 := HL.out
  have hN0 : Hid (src.size + 1 = (idB src (fl.take 0)).length) := Lib.hid (by simp [idB, byL_len])
  have hby2 : Hid (ByAt w1 (.slice (some a1) (src.size + 1) c1) (idB src (fl.take 0))) := Lib.hid (by have := hby1'.out; simpa [idB] using this)
  have hown2 := Lib.hid (own_ltA (n := src.size + 1) (c := c1) hlt1'.out)
  clear hby1' HL2 hlt1'
  generalize hnn : src.size + 1 = nn at *
  clear hnn
  have hB1' := Lib.hid hB1
  clear hB1 hX1
  go_loopw [3, 14] (fun s i wr => ∃ (k n c' : Nat) (a' : Option Addr), k ≤ fl.length ∧ i = .int .i64 k ∧ s = .slice a' n c' ∧ Hid (n = (idB src (fl.take k)).length) ∧ Hid (ByAt wr (.slice a' n c') (idB src (fl.take k))) ∧ Hid (∀ p, (Value.slice a' n c').ownBlock = some p → p < wr.heap.size) ∧ Hid (Below w.heap.size w wr)) (fun _ i _ => fl.length - (intOf i).toNat)
  case atStart => exact ⟨0, nn, c1, some a1, Nat.zero_le _, rfl, rfl, hN0, hby2, hown2, hB1'⟩
  case round =>
    clear hN0 hby2 hown2 hB1'
    obtain ⟨k, n, c', a', hk, rfl, rfl, HN, HB, HO, Hb⟩ := hrel
    by_cases hkl : k < fl.length
    · obtain ⟨b, o, rfl, hb, hcell⟩ := HF.out (by omega)
      obtain ⟨x, hxe⟩ : ∃ x, fl[k].1 = x := ⟨_, rfl⟩
      obtain ⟨y, hye⟩ : ∃ y, fl[k].2 = y := ⟨_, rfl⟩
      obtain ⟨hx0, hy0⟩ := fldCells_at fl k hkl
      rw [hxe] at hx0
      rw [hye] at hy0
      have hcx : wr.cell? ⟨b, o + k * 2, none⟩ = some (.string x) := keep_cell (hcell _ _ hx0) Hb.out hb
      have hcy : wr.cell? ⟨b, o + k * 2 + 1, none⟩ = some (.string y) := keep_cell (hcell _ _ hy0) Hb.out hb
      have hE : Hid (fldB fl[k] = byL x ++ [61] ++ byL y ++ [0]) := Lib.hid (by unfold fldB; rw [hxe, hye])
      have kcx := fun W => cv_run W x
      have kcy := fun W => cv_run W y
      clear hcell hxe hye hx0 hy0
      go_upto_region 5 with fail
      have hbx := box2 (Below.refl (wr.alloc (.cells #[.string x, .string y] 48)).heap.size _)
      obtain ⟨y0, y1, hlw, hbw⟩ := hbx
      have HBa : ByAt (wr.alloc (.cells #[.string x, .string y] 48)) (.slice a' n c') (idB src (fl.take k)) := HB.out.later hbw
      change Code.wp _ _ _ _ (wr.alloc (.cells #[.string x, .string y] 48))
      generalize wr.alloc (.cells #[.string x, .string y] 48) = wa at *
      have b1 := (cv_below wa x).trans ((alloc_below (cvW wa x) (.cells #[V8 61] 5)).mono (by rw [cv_size]; omega))
      have y1' := keep_cell y1 b1 hlw
      have hps := pieces_at wa _ _ HBa x y
      dsimp only at hps
      have hE2 : sumL [((Value.slice a' n c'), idB src (fl.take k)), (.slice (some ⟨wa.heap.size, 0, none⟩) x.size (cvC wa x), byL x), (.slice (some ⟨(cvW wa x).heap.size, 0, none⟩) 1 1, [61]), (.slice (some ⟨((cvW wa x).alloc (.cells #[V8 61] 5)).heap.size, 0, none⟩) y.size (cvC ((cvW wa x).alloc (.cells #[V8 61] 5)) y), byL y), (.slice (some ⟨(cvW ((cvW wa x).alloc (.cells #[V8 61] 5)) y).heap.size, 0, none⟩) 1 1, [0])] = idB src (fl.take (k + 1)) := by
        rw [idB_take src hkl, hE.out]; simp only [sumL, List.flatMap_cons, List.flatMap_nil, List.append_nil, List.append_assoc]
      have hlen := idB_le src fl (k + 1)
      have hpos : 0 < (idB src (fl.take (k + 1))).length := by unfold idB; simp only [List.length_append, List.length_cons]; omega
      have hcc := concat_any _ _ 5 _ hps (by rw [hE2]; exact hpos) (by rw [hE2]; have := HL.out; omega) (by simp)
      rw [hE2] at hcc
      have kcx1 := cv_run wa x
      have kcy1 := cv_run ((cvW wa x).alloc (.cells #[V8 61] 5)) y
      have hsz := cv_below wa x
      clear hps hE2 HBa hpos b1 y1 hlen hlw HN HB HO HF hE hb kcx kcy
      generalize hwb : cvW wa x = wb at *
      generalize hwd : cvW (wb.alloc (.cells #[V8 61] 5)) y = wd at *
      generalize cvC wa x = cx at *
      generalize cvC (wb.alloc (.cells #[V8 61] 5)) y = cy at *
      simp only [World.size_alloc] at hcc kcy1
      have HCC := Lib.hid hcc
      have HY := Lib.hid hbw
      have HWB := Lib.hid hwb
      have HWD := Lib.hid hwd
      clear hcc hbw hwb hwd hsz
      go_wp2_with fail
      refine HCC.out.mono ?_
      rintro e w2 ⟨v2, rfl, hown, hb2⟩
      have q1 : Below wa.heap.size wa wb := by rw [← HWB.out]; exact cv_below wa x
      have q2 := alloc_below wb (.cells #[V8 61] 5)
      have q3 : Below (wb.alloc (.cells #[V8 61] 5)).heap.size (wb.alloc (.cells #[V8 61] 5)) wd := by rw [← HWD.out]; exact cv_below _ y
      have q4 := alloc_below wd (.cells #[V8 0] 5)
      have q5 := ((q1.trans (q2.mono q1.size)).trans (q3.mono (by have := q1.size; have := q2.size; omega))).trans (q4.mono (by have := q1.size; have := q2.size; have := q3.size; omega))
      have q6 := q5.trans ((alloc_below _ (.cells #[.slice a' n c', .slice (some ⟨wa.heap.size, 0, none⟩) x.size cx, .slice (some ⟨wb.heap.size, 0, none⟩) 1 1, .slice (some ⟨wb.heap.size + 1, 0, none⟩) y.size cy, .slice (some ⟨wd.heap.size, 0, none⟩) 1 1] 103)).mono q5.size)
      have q6s := q6.size
      simp only [World.size_alloc] at q6s
      have q7 := HY.out.trans ((q6.trans (hb2.mono q6s)).mono HY.out.size)
      have hB2 := Hb.out.trans (q7.mono Hb.out.size)
      obtain ⟨a2, c2, rfl, _, _⟩ := RdAt.shape (RdAt.own hown)
      have hO2 : ∀ p, (Value.slice a2 (idB src (fl.take (k + 1))).length c2).ownBlock = some p → p < w2.heap.size := fun p hp => (hown.lt p hp).2
      have hBy : ByAt w2 (.slice a2 (idB src (fl.take (k + 1))).length c2) (idB src (fl.take (k + 1))) := RdAt.own hown
      have HO2 := Lib.hid hO2
      have HBy := Lib.hid hBy
      have HB2 := Lib.hid hB2
      obtain ⟨nx, hnx⟩ : ∃ z, (idB src (fl.take (k + 1))).length = z := ⟨_, rfl⟩
      rw [hnx] at HO2 HBy
      have HNX := Lib.hid hnx
      clear q1 q2 q3 q4 q5 q6 q6s q7 hown hb2 hO2 hBy hB2 HCC HY HWB HWD kcx1 kcy1 y0 y1' hcx hcy Hb
      try rw [hnx]
      clear hnx
      go_wp2
      go_roundw
      case rel => exact ⟨k + 1, nx, c2, a2, by omega, by go_num, rfl, Lib.hid HNX.out.symm, HBy, HO2, HB2⟩
      case measure => (simp [intOf]; try omega)
    · obtain rfl : k = fl.length := by omega
      have hbs : ByAt wr (.slice a' n c') (idB src fl) := by have := HB.out; rwa [List.take_length] at this
      have hn : n = (idB src fl).length := by have := HN.out; rwa [List.take_length] at this
      subst hn
      have hsh := short_any (idB src fl) (.slice a' (idB src fl).length c') wr hbs (idB_byte src fl) HO.out (by have := HL.out; omega)
      have HSH := Lib.hid hsh
      clear hsh hbs HB HN HO
      go_wp2_with fail
      refine HSH.out.mono ?_
      rintro e w2 ⟨rfl, hb2⟩
      have hB2 := Hb.out.trans (hb2.mono Hb.out.size)
      go_wp2
      go_ret
      exact ⟨rfl, hB2⟩
end Go.Proofs.Ytipnhpfpppblhaa
