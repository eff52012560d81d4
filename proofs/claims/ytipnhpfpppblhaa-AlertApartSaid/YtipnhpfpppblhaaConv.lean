/- []byte(text): what lies in memory; one byte appended to it. -/
import Derived.Test.YtipnhpfpppblhaaConcat8
import Derived.Lib.ConvBytes
import Derived.Lib.JoinLaws
namespace Go.Proofs.Ytipnhpfpppblhaa
open Go.RowKit

/-- a text's bytes -/
def byL (s : ByteArray) : List Int := (B s).map (fun c => (c.toNat : Int))
theorem byL_len (s : ByteArray) : (byL s).length = s.size := by simp [byL]
theorem byL_byte (s : ByteArray) : ByteL (byL s) := by
  intro x hx
  simp only [byL, List.mem_map] at hx
  obtain ⟨c, _, rfl⟩ := hx
  have := c.toNat_lt
  omega
/-- the world behind the conversion -/
def cvW (w : World) (s : ByteArray) : World := Lib.bytesWorld w 5 s
def cvC (w : World) (s : ByteArray) : Nat := grownCap w s.size 0 5
theorem cv_run (w : World) (s : ByteArray) : (convert 9 103 (.string s)).run Try.prog w = .ok (.slice (some ⟨w.heap.size, 0, none⟩) s.size (cvC w s)) (cvW w s) :=
  Lib.run_convert_string_bytes (P := Try.prog) w 9 103 5 s Try.underlying9 Try.underlying103 Try.underlying5
theorem cv_below (w : World) (s : ByteArray) : Below w.heap.size w (cvW w s) :=
  ⟨rfl, rfl, rfl, by rw [cvW, Lib.bytesWorld_size]; omega, fun k hk => Lib.bytesWorld_at_old w _ s k hk⟩
theorem cv_size (w : World) (s : ByteArray) : (cvW w s).heap.size = w.heap.size + 1 := Lib.bytesWorld_size _ _ _
theorem cv_cap (w : World) (s : ByteArray) : s.size ≤ cvC w s := grownCap_ge w s.size 0 _
theorem byL_at (s : ByteArray) (j : Nat) (y : Value) (h : ((byL s).map V8)[j]? = some y) : j < s.size ∧ y = .int .u8 (s.data.toList.getD j 0).toNat := by
  rw [List.getElem?_map, Option.map_eq_some_iff] at h
  obtain ⟨x, hx, rfl⟩ := h
  have hj := (List.getElem?_eq_some_iff.1 hx).1
  rw [byL_len] at hj
  refine ⟨hj, ?_⟩
  simp only [byL, List.getElem?_map, Option.map_eq_some_iff] at hx
  obtain ⟨c, hc, rfl⟩ := hx
  rw [List.getD_eq_getElem?_getD, hc]; rfl
theorem cv_at (w : World) (s : ByteArray) : ByAt (cvW w s) (.slice (some ⟨w.heap.size, 0, none⟩) s.size (cvC w s)) (byL s) := by
  have h := RdAt.mk (w := cvW w s) (b := w.heap.size) (o := 0) (n := s.size) (c := cvC w s) (k := 1) (xs := (byL s).map V8) (by simp [byL_len]) (cv_cap w s) (by rw [cv_size]; omega) (fun j y hj => by
    obtain ⟨h1, rfl⟩ := byL_at s j y hj
    rw [Nat.zero_add]
    exact Lib.bytesWorld_cell w 5 s j h1)
  unfold ByAt
  rw [byL_len]
  exact h
theorem cv_free (w : World) (s : ByteArray) (j : Nat) (hj : j < cvC w s) : ((cvW w s).cell? ⟨w.heap.size, j, none⟩).isSome = true ∧ (cvW w s).frozen? ⟨w.heap.size, j, none⟩ = false := by
  have hg := Lib.bytesWorld_at_new w 5 s
  have hs : (Lib.bytesCells w 5 s).size = cvC w s := by
    have := cv_cap w s
    unfold cvC at *
    simp [Lib.bytesCells]; omega
  constructor
  · rw [World.cell?, cvW, hg]
    simp [hs, hj]
  · rw [World.frozen?, cvW, hg]
    simp [hs]; omega
/-- one byte more -/
theorem run_append_cv (w W : World) (s : ByteArray) (hw : Below (cvW w s).heap.size (cvW w s) W) (hs : s.size ≤ 4000000) (x : Int) (u : Value) (hu : RdAt W u 1 1 [V8 x]) (ty : TypeId) (i0 : TypeInfo)
    (hi : Try.prog.info? 5 = some i0) (hz0 : i0.zero = some (.int .u8 0)) (hz1 : i0.size = 1) (hz2 : i0.bytes = 1) :
    ∃ a' c' w', (Builtin.append_ #[103, 103] ty #[.slice (some ⟨w.heap.size, 0, none⟩) s.size (cvC w s), u]).run Try.prog W = .ok (.slice (some a') (s.size + 1) c') w' ∧
      ByAt w' (.slice (some a') (s.size + 1) c') (byL s ++ [x]) ∧ Below w.heap.size w w' ∧ a'.block < w'.heap.size ∧ w.heap.size ≤ a'.block := by
  have hlt : w.heap.size < (cvW w s).heap.size := by rw [cv_size]; omega
  have hb0 : Below w.heap.size w W := (cv_below w s).trans (hw.mono (Nat.le_of_lt hlt))
  obtain ⟨b, o, c, rfl, hc, hbl, hcell⟩ := RdAt.some hu (by decide)
  have hx0 : W.cell? ⟨b, o, none⟩ = some (V8 x) := hcell 0 _ rfl
  have hat := (cv_at w s).later hw
  have holds : ∀ j y, ((byL s).map V8)[j]? = some y → W.cell? ⟨w.heap.size, j, none⟩ = some y := fun j y hj => by
    obtain ⟨h1, rfl⟩ := byL_at s j y hj
    rw [hw.cell (p := ⟨w.heap.size, j, none⟩) hlt]
    exact Lib.bytesWorld_cell w 5 s j h1
  have hbig : w.heap.size < W.heap.size := Nat.lt_of_lt_of_le hlt hw.size
  have key : ∀ w' (g c' : Nat), s.size + 1 ≤ c' → g < w'.heap.size → (∀ j y, ((byL s ++ [x]).map V8)[j]? = some y → w'.cell? ⟨g, j, none⟩ = some y) → ByAt w' (.slice (some ⟨g, 0, none⟩) (s.size + 1) c') (byL s ++ [x]) := fun w' g c' h1 h2 h3 => by
    have h := RdAt.mk (w := w') (b := g) (o := 0) (n := s.size + 1) (c := c') (k := 1) (xs := (byL s ++ [x]).map V8) (by simp [byL_len]) h1 h2 (fun j y hj => by rw [Nat.zero_add]; exact h3 j y hj)
    unfold ByAt
    rw [show (byL s ++ [x]).length = s.size + 1 by simp [byL_len]]
    exact h
  have hsrc : Src Try.prog i0.size 103 (.slice (some ⟨b, o, none⟩) 1 c) 1 [V8 x] W := by
    rw [hz1]
    exact Src.ofSlice W Try.underlying103 _ _ _ [V8 x] rfl (fun j y hj => by
      have hj0 : j = 0 := by have := (List.getElem?_eq_some_iff.1 hj).1; simpa using this
      subst hj0
      have : V8 x = y := by simpa using hj
      subst this
      simpa [Addr.add] using hx0) (by simp [Value.oneCell'])
  rcases Nat.lt_or_ge s.size (cvC w s) with hroom | hroom
  · obtain ⟨hf1, hf2⟩ := cv_free w s s.size hroom
    have hq1 : (W.cell? ⟨w.heap.size, s.size, none⟩).isSome = true := by rw [hw.cell (p := ⟨w.heap.size, s.size, none⟩) hlt]; exact hf1
    have hq2 : W.frozen? ⟨w.heap.size, s.size, none⟩ = false := by rw [World.frozen?_of_block (a := ⟨w.heap.size, s.size, none⟩) (hw.block _ hlt)]; exact hf2
    have hr := run_append_room_src (P := Try.prog) (w := W) 103 103 ty 5 i0 Try.underlying103 hi w.heap.size 0 s.size (cvC w s) _ 1 [V8 x] hsrc hroom
      (fun j hj => by have : j = 0 := by simpa using hj
                      subst this; simpa [hz1] using hq1) (fun j hj => by have : j = 0 := by simpa using hj
                                                                         subst this; simpa [hz1] using hq2)
    refine ⟨_, _, _, hr, ?_, ?_, ?_, Nat.le_refl _⟩
    · refine key _ _ _ hroom ?_ (fun j y hj => ?_)
      · simp [World.setCells]; exact hbig
      · simp only [World.setCells, hz1, Nat.mul_one, Nat.zero_add]
        rw [List.map_append] at hj
        by_cases hjs : j < s.size
        · rw [List.getElem?_append_left (by simpa [byL_len] using hjs)] at hj
          rw [World.cell?_setCell_other _ _ _ _ (by intro e; cases e; omega)]
          exact holds j y hj
        · have hjl := (List.getElem?_eq_some_iff.1 hj).1
          have : j = s.size := by simp [byL_len] at hjl; omega
          subst this
          rw [List.getElem?_append_right (by simp [byL_len])] at hj
          have hy : V8 x = y := by simpa [byL_len] using hj
          rw [World.cell?_setCell_same' _ _ _ hq1, hy]
    · refine hb0.trans ?_
      simp only [World.setCells]
      exact below_setCell W _ _ _ (Nat.le_refl _)
    · simp [World.setCells]; exact hbig
  · have e1 : cvC w s = s.size := Nat.le_antisymm hroom (cv_cap w s)
    have hr := run_append_grow (P := Try.prog) W 103 ty 5 i0 (.int .u8 0) Try.underlying103 hi hz0 ⟨w.heap.size, 0, none⟩ s.size (cvC w s) ((byL s).map V8) (by simp [byL_len, hz1])
      (fun j y hj => by rw [Addr.add_mid, Nat.zero_add]; exact holds j y hj) ⟨b, o, none⟩ 1 c [V8 x] (by simp [hz1]) (fun j y hj => by
        have hj0 : j = 0 := by have := (List.getElem?_eq_some_iff.1 hj).1; simpa using this
        subst hj0
        have : V8 x = y := by simpa using hj
        subst this
        simpa [Addr.add] using hx0) (by omega) (by omega) (growslice_fits (by omega) (by rw [hz2]; omega))
    have hge := grownCap_ge W (s.size + 1) (cvC w s) 5
    refine ⟨_, _, _, hr, ?_, ?_, ?_, Nat.le_of_lt hbig⟩
    · refine key _ _ _ hge (by simp) (fun j y hj => ?_)
      have e2 : (W.drew.alloc (.cells (((byL s).map V8).toArray ++ [V8 x].toArray ++ Builtin.zeroCells (Value.int .u8 0).cells (grownCap W (s.size + 1) (cvC w s) 5 - (s.size + 1))) 5)).cell? ⟨W.heap.size, j, none⟩ = _ := World.cell?_alloc_new W.drew _ _ j
      rw [e2]
      rw [List.map_append] at hj
      have hjl := (List.getElem?_eq_some_iff.1 hj).1
      rw [Array.getElem?_append_left (by simpa using hjl)]
      simpa using hj
    · exact hb0.trans (((Below.refl _ _).drew).alloc (Nat.le_of_lt hbig) _)
    · simp
end Go.Proofs.Ytipnhpfpppblhaa
