/- silences in a list's map: the model, the map's reading. -/
import Derived.Test.YtcfococinllcmaaGreatMtAll
import Derived.Test.YtcfococinllcmaaGreatAlCut
import Derived.Maps.Ext
import Derived.Maps.OwnOps
import Derived.Maps.RangeWalk
import Derived.Lib.SlMapFilter
import Derived.Lib.SlKeysI
import Derived.Test.YtcfococinllcmaaGreatHeld
namespace Go.Proofs.YtcfococinllcmaaGreat
open Go.RowKit Go.Maps

/-- a silence as it is kept: its number, its matchers' slice, what that reads as, its times, its label -/
structure Sil where
  id : Int
  mv : Option Addr × Nat × Nat
  ms : List Mt
  fr : Int
  til : Int
  lv : Int
  c : Nat
abbrev Sil.v (s : Sil) : Value := .agg #[.slice s.mv.1 s.mv.2.1 s.mv.2.2, .int .i64 s.fr, .int .i64 s.til, .int .i64 s.lv, .int .u32 s.c]
/-- how a map's element reads: itself, where it is a silence's -/
noncomputable def RV (v : Value) : Option (DataW Value × List MemPlace) := @ite _ (∃ s : Sil, v = s.v) (Classical.propDecidable _) (some (.held v, [])) none
theorem RV_sil (s : Sil) : RV s.v = some (.held s.v, []) := if_pos ⟨s, rfl⟩
theorem RV_inv {v : Value} {y : DataW Value × List MemPlace} (h : RV v = some y) : ∃ s : Sil, v = s.v ∧ y = (.held v, []) := by
  unfold RV at h
  split at h
  · rename_i hs
    obtain ⟨s, hs⟩ := hs
    exact ⟨s, hs, (Option.some.inj h).symm⟩
  · cases h
abbrev kI (x : Int) : Lit := .int .i64 x
def enS (s : Sil) : Lit × DataW Value := (kI s.id, .held s.v)
def DS (S : List Sil) : DataW Value := .map (S.map enS)
/-- numbers rise -/
abbrev UpS (S : List Sil) : Prop := S.Pairwise (fun s t => s.id < t.id)
theorem DS_canon {S : List Sil} (h : UpS S) : Canon (DS S) :=
  ⟨_, rfl, List.pairwise_map.2 (h.imp fun {a b} hab => by simpa [enS, Lit.before] using hab), fun p hp => by
    obtain ⟨s, _, rfl⟩ := List.mem_map.1 hp
    trivial⟩
theorem DS_apart {S : List Sil} (h : UpS S) : (S.map enS).Pairwise (fun p q => p.1 ≠ q.1) :=
  List.pairwise_map.2 (h.imp fun {a b} hab e => by
    simp only [enS, kI, Lit.int.injEq, true_and] at e
    omega)
theorem DS_has (S : List Sil) (x : Int) : has (DS S) (kI x) = S.any fun s => s.id == x := by
  show (S.map enS).any _ = _
  rw [List.any_map]
  congr 1
  funext s
  simp only [Function.comp, enS, Lit.sameKey]
  rw [Bool.eq_iff_iff]
  simp
theorem DS_at {S : List Sil} (h : UpS S) {s : Sil} (hs : s ∈ S) (z : DataW Value) : (DS S).atKey (kI s.id) z = .held s.v :=
  WideAt.atKey_mem z (by trivial) (DS_apart h) (List.mem_map.2 ⟨s, hs, rfl⟩)
theorem DS_size (S : List Sil) : Maps.size (DS S) = S.length := by
  show (S.map enS).length = _
  simp
theorem DS_keys (S : List Sil) : intKeys (DS S) = S.map (·.id) := by
  show (S.map enS).map _ = _
  rw [List.map_map]
  rfl
theorem DS_none {S : List Sil} {x : Int} (hx : ∀ s ∈ S, s.id ≠ x) : has (DS S) (kI x) = false := by
  rw [DS_has, List.any_eq_false]
  intro s hs
  simpa using hx s hs
/-- a new number, above all -/
theorem DS_snoc {S : List Sil} {s : Sil} (h : UpS (S ++ [s])) (hc : Canon ((DS S).put (kI s.id) (.held s.v))) : (DS S).put (kI s.id) (.held s.v) = DS (S ++ [s]) := by
  have hS : UpS S := (List.pairwise_append.1 h).1
  have hm : IsMap (DS S) := ⟨_, rfl⟩
  have hne : ∀ t ∈ S, t.id ≠ s.id := fun t ht e => by
    have := (List.pairwise_append.1 h).2.2 t ht s (by simp)
    omega
  refine ext hc (DS_canon h) (fun k => ?_) (fun k z hk => ?_)
  · by_cases e : k = kI s.id
    · subst e
      rw [has_put_same hm (by trivial), DS_has]
      simp
    · rw [has_put_other e]
      show (S.map enS).any _ = ((S ++ [s]).map enS).any _
      rw [List.map_append, List.any_append]
      have : ([s].map enS).any (fun p => p.1.sameKey k) = false := by
        simp only [List.map_cons, List.map_nil, List.any_cons, List.any_nil, Bool.or_false]
        cases hh : (enS s).1.sameKey k
        · rfl
        · exact absurd (WideAt.sameKey_eq hh).symm e
      rw [this, Bool.or_false]
  · by_cases e : k = kI s.id
    · subst e
      rw [atKey_put_same hm (by trivial), DS_at h (by simp)]
    · rw [atKey_put_other e]
      rw [has_put_other e] at hk
      obtain ⟨p, hp, hpk⟩ := List.any_eq_true.1 hk
      obtain ⟨t, ht, rfl⟩ := List.mem_map.1 hp
      have := WideAt.sameKey_eq hpk
      rw [← this]
      show (DS S).atKey (kI t.id) z = (DS (S ++ [s])).atKey (kI t.id) z
      rw [DS_at hS ht, DS_at h (List.mem_append_left _ ht)]
/-- one that is there is laid anew -/
def setS (S : List Sil) (s : Sil) : List Sil := S.map fun t => if t.id = s.id then s else t
theorem setS_ids (S : List Sil) (s : Sil) : (setS S s).map (·.id) = S.map (·.id) := by
  unfold setS
  rw [List.map_map]
  apply List.map_congr_left
  intro t _
  simp only [Function.comp]
  split
  · rename_i h; exact h.symm
  · rfl
theorem upS_ids {S T : List Sil} (h : S.map (·.id) = T.map (·.id)) (hT : UpS T) : UpS S := by
  have : (T.map (·.id)).Pairwise (· < ·) := List.pairwise_map.2 hT
  rw [← h] at this
  exact List.pairwise_map.1 this
theorem mem_setS {S : List Sil} {s t : Sil} (h : t ∈ setS S s) : t = s ∨ t ∈ S := by
  obtain ⟨u, hu, rfl⟩ := List.mem_map.1 h
  split
  · exact .inl rfl
  · exact .inr hu
theorem DS_set {S : List Sil} {s : Sil} (h : UpS S) (hs : ∃ t ∈ S, t.id = s.id) (hc : Canon ((DS S).put (kI s.id) (.held s.v))) : (DS S).put (kI s.id) (.held s.v) = DS (setS S s) := by
  have hU : UpS (setS S s) := upS_ids (setS_ids S s) h
  have hm : IsMap (DS S) := ⟨_, rfl⟩
  obtain ⟨t, ht, hti⟩ := hs
  have hin : s ∈ setS S s := List.mem_map.2 ⟨t, ht, by rw [if_pos hti]⟩
  have hk : ∀ k, has (DS (setS S s)) k = has (DS S) k := fun k => by
    show ((setS S s).map enS).any _ = (S.map enS).any _
    rw [List.any_map, List.any_map]
    unfold setS
    rw [List.any_map]
    congr 1
    funext u
    simp only [Function.comp]
    split
    · rename_i h; simp [enS, h]
    · rfl
  refine ext hc (DS_canon hU) (fun k => ?_) (fun k z hkk => ?_)
  · rw [hk]
    by_cases e : k = kI s.id
    · subst e
      rw [has_put_same hm (by trivial), DS_has]
      exact (List.any_eq_true.2 ⟨t, ht, by simpa using hti⟩).symm
    · rw [has_put_other e]
  · by_cases e : k = kI s.id
    · subst e
      rw [atKey_put_same hm (by trivial), DS_at hU hin]
    · rw [atKey_put_other e]
      rw [has_put_other e] at hkk
      obtain ⟨p, hp, hpk⟩ := List.any_eq_true.1 hkk
      obtain ⟨u, hu, rfl⟩ := List.mem_map.1 hp
      have := WideAt.sameKey_eq hpk
      rw [← this]
      have hne : u.id ≠ s.id := fun e1 => e (by rw [← this]; show kI u.id = _; rw [e1])
      show (DS S).atKey (kI u.id) z = (DS (setS S s)).atKey (kI u.id) z
      rw [DS_at h hu, DS_at hU (List.mem_map.2 ⟨u, hu, by rw [if_neg hne]⟩)]
theorem DS_del (S : List Sil) (x : Int) : (DS S).del (kI x) = DS (S.filter fun s => !(s.id == x)) := by
  show DataW.map ((S.map enS).filter fun p => !p.1.sameKey (kI x)) = DataW.map ((S.filter _).map enS)
  rw [List.filter_map]
  congr 2
  apply List.filter_congr
  intro s _
  simp only [Function.comp, enS, Lit.sameKey]
  rw [Bool.eq_iff_iff]
  simp
/-- what DeleteFunc strikes -/
noncomputable def pdS (p : Sil → Bool) (_ : Lit) (d : DataW Value) : Bool := @decide (∃ s : Sil, d = .held s.v ∧ p s = true) (Classical.propDecidable _)
theorem DS_delf (S : List Sil) (p : Sil → Bool) (hp : ∀ s t : Sil, s.v = t.v → p s = p t) : Lib.deleteFuncD (pdS p) (DS S) = DS (S.filter fun s => !p s) := by
  show DataW.map ((S.map enS).filter _) = DataW.map ((S.filter _).map enS)
  rw [List.filter_map]
  congr 2
  apply List.filter_congr
  intro s _
  simp only [Function.comp, enS]
  congr 1
  unfold pdS
  rw [Bool.eq_iff_iff, @decide_eq_true_iff _ (Classical.propDecidable _)]
  constructor
  · rintro ⟨t, ht, h1⟩
    rw [hp s t (DataW.held.inj ht)]; exact h1
  · intro h
    exact ⟨s, rfl, h⟩
theorem pdS_held (p : Sil → Bool) (hp : ∀ s t : Sil, s.v = t.v → p s = p t) (k : Lit) (s : Sil) : pdS p k (.held s.v) = p s := by
  unfold pdS
  rw [Bool.eq_iff_iff, @decide_eq_true_iff _ (Classical.propDecidable _)]
  constructor
  · rintro ⟨t, ht, h1⟩
    rw [hp s t (DataW.held.inj ht)]; exact h1
  · intro h
    exact ⟨s, rfl, h⟩
/-- what is kept of a world, but for a list and its map -/
structure Kp (lp m : Nat) (w w' : World) : Prop where
  os : w'.os = w.os
  tape : w'.tape = w.tape
  output : w'.output = w.output
  size : w.heap.size ≤ w'.heap.size
  block : ∀ b, b < w.heap.size → b ≠ lp → b ≠ m → w'.heap[b]? = w.heap[b]?
theorem Kp.refl (lp m : Nat) (w : World) : Kp lp m w w := ⟨rfl, rfl, rfl, Nat.le_refl _, fun _ _ _ _ => rfl⟩
theorem Kp.trans {lp m : Nat} {a b c : World} (h : Kp lp m a b) (k : Kp lp m b c) : Kp lp m a c :=
  ⟨k.os.trans h.os, k.tape.trans h.tape, k.output.trans h.output, Nat.le_trans h.size k.size, fun i hi h1 h2 => (k.block i (Nat.lt_of_lt_of_le hi h.size) h1 h2).trans (h.block i hi h1 h2)⟩
theorem Kp.of_below {lp m : Nat} {w w' : World} (h : Below w.heap.size w w') : Kp lp m w w' := ⟨h.os, h.tape, h.output, h.size, fun b hb _ _ => h.block b hb⟩
theorem Kp.of_map {lp m : Nat} {w w' : World} (h : w.grownBy w' (some m)) : Kp lp m w w' := ⟨h.os, h.tape, h.output, h.size, fun b hb _ h2 => h.block b hb (fun e => h2 (Option.some.inj e))⟩
theorem Kp.below {lp m base : Nat} {w w' : World} (h : Kp lp m w w') (h1 : base ≤ lp) (h2 : base ≤ m) (h3 : base ≤ w.heap.size) : Below base w w' :=
  ⟨h.os, h.tape, h.output, h.size, fun b hb => h.block b (Nat.lt_of_lt_of_le hb h3) (by omega) (by omega)⟩
theorem Kp.cell {lp m : Nat} {w w' : World} (h : Kp lp m w w') {b o : Nat} {v : Value} (hv : w.cell? ⟨b, o, none⟩ = some v) (h1 : b ≠ lp) (h2 : b ≠ m) : w'.cell? ⟨b, o, none⟩ = some v :=
  (World.cell?_of_block (a := ⟨b, o, none⟩) (h.block b (cell_lt hv) h1 h2)).trans hv
theorem Kp.rd {lp m : Nat} {w w' : World} (h : Kp lp m w w') {v : Value} {n k : Nat} {xs : List Value} (hv : RdAt w v n k xs) (hb : ∀ q, v.ownBlock = some q → q ≠ lp ∧ q ≠ m) : RdAt w' v n k xs := by
  refine ⟨hv.1, ?_⟩
  rcases hv.2 with h1 | ⟨a, c, rfl, hc, hr⟩
  · exact .inl h1
  · refine .inr ⟨a, c, rfl, hc, fun hn => ?_⟩
    obtain ⟨b, o, rfl, hlt, hcell⟩ := hr hn
    have := hb b rfl
    exact ⟨b, o, rfl, Nat.lt_of_lt_of_le hlt h.size, fun j x hx => h.cell (hcell j x hx) this.1 this.2⟩
theorem cell_keepS {w w' : World} {b o : Nat} {v : Value} {row : Option Nat} (h : w.cell? ⟨b, o, none⟩ = some v) (hg : w.grownBy w' row) (hr : row ≠ some b) : w'.cell? ⟨b, o, none⟩ = some v :=
  (World.cell?_of_block (a := ⟨b, o, none⟩) (hg.block b (cell_lt h) (fun e => hr e.symm))).trans h
theorem there_same {w w' : World} {g n : Nat} (h : w.there g 0 n) (hk : w'.heap[g]? = w.heap[g]?) : w'.there g 0 n := fun j hj => by
  obtain ⟨h1, h2⟩ := h j hj
  exact ⟨by rw [World.cell?_of_block (a := ⟨g, 0 + j, none⟩) hk]; exact h1, by rw [World.frozen?_of_block (a := ⟨g, 0 + j, none⟩) hk]; exact h2⟩
/-- a list of silences in memory: its block, its map's -/
structure SlAt (w : World) (lp m n : Nat) (S : List Sil) (last : Int) : Prop where
  h0 : w.cell? ⟨lp, 0, none⟩ = some (.map (some m))
  h1 : w.cell? ⟨lp, 1, none⟩ = some (.int .i64 last)
  own : w.ownsMap Tryz.prog 3 RV m n (DS S)
  up : UpS S
  ids : ∀ s ∈ S, 1 ≤ s.id ∧ s.id ≤ last
  ms : ∀ s ∈ S, MtsAt w (SV s.mv) s.ms ∧ MtsFit s.ms ∧ s.ms.length ≤ 12 ∧ ∀ q, (SV s.mv).ownBlock = some q → q ≠ lp ∧ q ≠ m
  th : w.there lp 0 2
  few : last ≤ 1000000
  len : n ≤ 1000000
theorem SlAt.ne {w : World} {lp m n : Nat} {S : List Sil} {last : Int} (h : SlAt w lp m n S last) : lp ≠ m := fun e => by
  obtain ⟨es, clock, hb, _⟩ := h.own
  have := h.h0
  rw [e] at this
  simp [World.cell?, hb] at this
theorem SlAt.later {w w' : World} {lp m n : Nat} {S : List Sil} {last : Int} (h : SlAt w lp m n S last) (hb : Below w.heap.size w w') : SlAt w' lp m n S last :=
  ⟨keep_cell h.h0 hb (cell_lt h.h0), keep_cell h.h1 hb (cell_lt h.h1), h.own.kept (row := none) ⟨hb.os, hb.tape, hb.output, hb.size, fun k hk _ => hb.block k hk⟩ (by simp), h.up, h.ids, fun s hs => ⟨(h.ms s hs).1.later hb, (h.ms s hs).2⟩, there_later h.th hb (cell_lt h.h0), h.few, h.len⟩
theorem SlAt.wf {w : World} {lp m n : Nat} {S : List Sil} {last : Int} (h : SlAt w lp m n S last) {s : Sil} (hs : s ∈ S) : (Lit.int .i64 s.id).wf = true := by
  have := h.ids s hs
  have := h.few
  simp [Lit.wf, IntKind.min, IntKind.max, IntKind.signed, IntKind.bits]
  omega
end Go.Proofs.YtcfococinllcmaaGreat
