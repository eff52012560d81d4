/- The pattern's builder, said plainly: states, the reading of a class, of an atom, of a row. No program in sight. -/
import Derived.Test.YtipnhpfpppblhaaBase
namespace Go.Proofs.Ytipnhpfpppblhaa
open Go.RowKit

/-- a state: by which bytes one goes on to next, or, by none, to all of free -/
structure St where
  set : Option (Nat → Bool)
  next : Nat
  free : List Nat
/-- what a builder has: how far, the first error, the states -/
structure Bs where
  pos : Nat
  err : Int
  sts : List St
def byteM (s : ByteArray) (k : Nat) : Nat := if h : k < s.size then (s[k]'h).toNat else 0
theorem byteM_lt (s : ByteArray) (k : Nat) : byteM s k < 256 := by
  unfold byteM; split
  · exact UInt8.toNat_lt _
  · omega
def peekM (s : ByteArray) (b : Bs) : Option Nat := if b.err = 0 ∧ b.pos < s.size then some (byteM s b.pos) else none
def failM (b : Bs) (e : Int) : Bs := if b.err = 0 then { b with err := e } else b
theorem failM_pos (b : Bs) (e : Int) : (failM b e).pos = b.pos := by unfold failM; split <;> rfl
theorem failM_sts (b : Bs) (e : Int) : (failM b e).sts = b.sts := by unfold failM; split <;> rfl
def stepM (b : Bs) : Bs := { b with pos := b.pos + 1 }
def nodeM (b : Bs) : Bs := { b with sts := b.sts ++ [⟨none, 0, []⟩] }
def addF : List St → Nat → Nat → List St
  | [], _, _ => []
  | x :: l, 0, t => { x with free := x.free ++ [t] } :: l
  | x :: l, k + 1, t => x :: addF l k t
def freeM (b : Bs) (f t : Nat) : Bs := { b with sts := addF b.sts f t }
def oneM (b : Bs) (S : Nat → Bool) : Bs × (Nat × Nat) := ({ b with sts := b.sts ++ [⟨some S, b.sts.length + 1, []⟩, ⟨none, 0, []⟩] }, (b.sts.length, b.sts.length + 1))
/-- a byte of a class -/
def signM (s : ByteArray) (b : Bs) : Bs × Nat :=
  match peekM s b with
  | none => (failM (stepM b) 2, 0)
  | some c => if c = 92 then
      match peekM s (stepM b) with
      | none => (failM (stepM (stepM b)) 2, 0)
      | some d => (stepM (stepM b), d)
    else (stepM b, c)
def rangeB (s : ByteArray) (b : Bs) : Bool := decide (peekM s b = some 45) && (decide (b.pos + 1 < s.size) && !decide (byteM s (b.pos + 1) = 93))
def rangeM (s : ByteArray) (b : Bs) (lo : Nat) : Bs × Nat := if rangeB s b = true then signM s (stepM b) else (b, lo)
def addS (S : Nat → Bool) (lo hi : Nat) : Nat → Bool := fun c => S c || (decide (lo ≤ c) && decide (c ≤ hi))
def noS : Nat → Bool := fun _ => false
def turnS (S : Nat → Bool) : Nat → Bool := fun c => !S c
def oneS (c : Nat) : Nat → Bool := addS noS c c
def loopM (s : ByteArray) : Nat → Bool → Bs → (Nat → Bool) → Bs × (Nat → Bool)
  | 0, _, b, S => (b, S)
  | n + 1, first, b, S =>
    match peekM s b with
    | none => (failM b 2, S)
    | some d => if d = 93 then (if first then (failM b 2, S) else (stepM b, S)) else
      let x := signM s b
      let y := rangeM s x.1 x.2
      loopM s n false (if y.2 < x.2 then failM y.1 2 else y.1) (addS S x.2 y.2)
def classM (s : ByteArray) (b : Bs) : Bs × (Nat → Bool) :=
  if peekM s b = some 94 then
    let r := loopM s (s.size + 1) true (stepM b) noS
    (r.1, turnS r.2)
  else loopM s (s.size + 1) true b noS
def postB (c : Nat) : Bool := decide (c = 42) || decide (c = 43) || decide (c = 63)
def oddB (c : Nat) : Bool := postB c || decide (c = 124) || decide (c = 40) || decide (c = 41) || decide (c = 91) || decide (c = 93) || decide (c = 92) || decide (c = 46)
/-- as often as is told behind it -/
def timesM (s : ByteArray) (b : Bs) (x : Nat × Nat) : Bs × (Nat × Nat) :=
  match peekM s b with
  | none => (b, x)
  | some c => if postB c = true then
      let f := b.sts.length
      let t := b.sts.length + 1
      let b1 := freeM (freeM (nodeM (nodeM (stepM b))) f x.1) x.2 t
      let b2 := if c = 43 then b1 else freeM b1 f t
      let b3 := if c = 63 then b2 else freeM b2 x.2 x.1
      (b3, (f, t))
    else (b, x)
/-- behind a group -/
def closeM (s : ByteArray) (b : Bs) : Bs := stepM (if peekM s b = some 41 then b else failM b 2)
theorem closeM_pos (s : ByteArray) (b : Bs) : (closeM s b).pos = b.pos + 1 := by
  unfold closeM stepM; dsimp only; split <;> simp [failM_pos]
theorem closeM_sts (s : ByteArray) (b : Bs) : (closeM s b).sts = b.sts := by
  unfold closeM stepM; dsimp only; split <;> simp [failM_sts]
inductive Md where
  | either
  | alts (p : Nat × Nat)
  | row
  | parts (p : Nat × Nat)
  | atom
def runM (s : ByteArray) : Nat → Md → Nat → Bs → Bs × (Nat × Nat)
  | 0, _, _, b => (b, (0, 0))
  | n + 1, .either, d, b => runM s n (.alts (b.sts.length, b.sts.length + 1)) d (nodeM (nodeM b))
  | n + 1, .alts p, d, b =>
    let r := runM s n .row d b
    let b2 := freeM (freeM r.1 p.1 r.2.1) r.2.2 p.2
    if peekM s b2 = some 124 then runM s n (.alts p) d (stepM b2) else (b2, p)
  | n + 1, .row, d, b => runM s n (.parts (b.sts.length, b.sts.length)) d (nodeM b)
  | n + 1, .parts p, d, b =>
    match peekM s b with
    | none => (b, p)
    | some c => if c = 124 ∨ c = 41 then (b, p) else
      let r := runM s n .atom d b
      let t := timesM s r.1 r.2
      runM s n (.parts (p.1, t.2.2)) d (freeM t.1 p.2 t.2.1)
  | n + 1, .atom, d, b =>
    let c := byteM s b.pos
    let b1 := stepM b
    if c = 40 then
      (if d = 8 then oneM (failM b1 3) noS else
        let r := runM s n .either (d + 1) b1
        (closeM s r.1, r.2))
    else if c = 91 then oneM (classM s b1).1 (classM s b1).2
    else if c = 46 then oneM b1 (turnS noS)
    else if c = 92 then
      (match peekM s b1 with
       | none => oneM (stepM (failM b1 2)) (oneS 0)
       | some e => oneM (stepM b1) (oneS e))
    else if oddB c = true then oneM (failM b1 2) noS
    else oneM b1 (oneS c)

/-! lengths, places -/
theorem addF_len (l : List St) (f t : Nat) : (addF l f t).length = l.length := by
  induction l generalizing f with
  | nil => rfl
  | cons x l ih => cases f <;> simp [addF, ih]
/-- how many states, and ways between them without a byte -/
def tot (l : List St) : Nat := (l.map fun x => 1 + x.free.length).sum
theorem tot_app (l r : List St) : tot (l ++ r) = tot l + tot r := by simp [tot]
theorem len_tot (l : List St) : l.length ≤ tot l := by
  induction l with
  | nil => simp
  | cons x l ih => simp [tot] at ih ⊢; omega
theorem tot_addF (l : List St) (f t : Nat) : tot (addF l f t) ≤ tot l + 1 := by
  induction l generalizing f with
  | nil => simp [addF, tot]
  | cons x l ih =>
    cases f with
    | zero => simp [addF, tot]; omega
    | succ f => have := ih f; simp [addF, tot] at this ⊢; omega
theorem free_tot (l : List St) (x : St) (h : x ∈ l) : x.free.length ≤ tot l := by
  induction l with
  | nil => cases h
  | cons y l ih =>
    rcases List.mem_cons.1 h with rfl | h
    · simp [tot]; omega
    · have := ih h; simp [tot] at this ⊢; omega
theorem peekM_some {s : ByteArray} {b : Bs} {c : Nat} (h : peekM s b = some c) : b.err = 0 ∧ b.pos < s.size ∧ c = byteM s b.pos := by
  unfold peekM at h
  split at h
  · rename_i h'; exact ⟨h'.1, h'.2, (Option.some.inj h).symm⟩
  · cases h
theorem failM_err {b : Bs} {e : Int} (he : e ≠ 0) : (failM b e).err ≠ 0 := by
  unfold failM; split
  · exact he
  · rename_i h; exact h
theorem peek_err {s : ByteArray} {b : Bs} (h : b.err ≠ 0) : peekM s b = none := by
  unfold peekM; rw [if_neg (fun h' => h h'.1)]
theorem signM_len (s : ByteArray) (b : Bs) : (signM s b).1.sts = b.sts := by
  unfold signM
  split
  · rw [failM_sts]; rfl
  · split
    · split
      · rw [failM_sts]; rfl
      · rfl
    · rfl
theorem signM_pos (s : ByteArray) (b : Bs) (h : b.pos < s.size) : b.pos < (signM s b).1.pos ∧ (signM s b).1.pos ≤ s.size + 1 := by
  unfold signM
  split
  · rw [failM_pos]; simp [stepM]; omega
  · split
    · split
      · rw [failM_pos]; simp [stepM]; omega
      · simp [stepM]; omega
    · simp [stepM]; omega
theorem signM_lt (s : ByteArray) (b : Bs) : (signM s b).2 < 256 := by
  unfold signM
  split
  · simp
  · rename_i c hc
    split
    · split
      · simp
      · rename_i d hd
        rw [(peekM_some hd).2.2]; exact byteM_lt _ _
    · rw [(peekM_some hc).2.2]; exact byteM_lt _ _
theorem rangeM_len (s : ByteArray) (b : Bs) (lo : Nat) : (rangeM s b lo).1.sts = b.sts := by
  unfold rangeM; split
  · rw [signM_len]; rfl
  · rfl
theorem rangeB_pos {s : ByteArray} {b : Bs} (h : rangeB s b = true) : b.pos + 1 < s.size := by
  unfold rangeB at h
  simp only [Bool.and_eq_true, decide_eq_true_eq] at h
  exact h.2.1
theorem rangeM_pos (s : ByteArray) (b : Bs) (lo : Nat) : b.pos ≤ (rangeM s b lo).1.pos ∧ ((rangeM s b lo).1.pos ≤ s.size + 1 ∨ (rangeM s b lo).1.pos = b.pos) := by
  unfold rangeM; split
  · rename_i h
    have := signM_pos s (stepM b) (rangeB_pos h)
    simp only [stepM] at this ⊢; omega
  · simp
theorem rangeM_lt (s : ByteArray) (b : Bs) (lo : Nat) (h : lo < 256) : (rangeM s b lo).2 < 256 := by
  unfold rangeM; split
  · exact signM_lt _ _
  · exact h
theorem loopM_len (s : ByteArray) (n : Nat) : ∀ (first : Bool) (b : Bs) (S : Nat → Bool), (loopM s n first b S).1.sts = b.sts := by
  induction n with
  | zero => intros; rfl
  | succ n ih =>
    intro first b S
    rw [loopM]
    split
    · rw [failM_sts]
    · split
      · split
        · rw [failM_sts]
        · rfl
      · rw [ih]
        split
        · rw [failM_sts, rangeM_len, signM_len]
        · rw [rangeM_len, signM_len]
theorem loopM_pos (s : ByteArray) (n : Nat) : ∀ (first : Bool) (b : Bs) (S : Nat → Bool), b.pos ≤ (loopM s n first b S).1.pos ∧ (b.pos ≤ s.size + 1 → (loopM s n first b S).1.pos ≤ s.size + 1) := by
  induction n with
  | zero => intros; exact ⟨Nat.le_refl _, fun h => h⟩
  | succ n ih =>
    intro first b S
    rw [loopM]
    split
    · rw [failM_pos]; exact ⟨Nat.le_refl _, fun h => h⟩
    · rename_i d hd
      have hp := (peekM_some hd).2.1
      split
      · split
        · rw [failM_pos]; exact ⟨Nat.le_refl _, fun h => h⟩
        · simp [stepM]; omega
      · have h1 := signM_pos s b hp
        have h2 := rangeM_pos s (signM s b).1 (signM s b).2
        have h3 := ih false (if (rangeM s (signM s b).1 (signM s b).2).2 < (signM s b).2 then failM (rangeM s (signM s b).1 (signM s b).2).1 2 else (rangeM s (signM s b).1 (signM s b).2).1) (addS S (signM s b).2 (rangeM s (signM s b).1 (signM s b).2).2)
        have h4 : (if (rangeM s (signM s b).1 (signM s b).2).2 < (signM s b).2 then failM (rangeM s (signM s b).1 (signM s b).2).1 2 else (rangeM s (signM s b).1 (signM s b).2).1).pos = (rangeM s (signM s b).1 (signM s b).2).1.pos := by split <;> simp [failM_pos]
        rw [h4] at h3
        dsimp only
        exact ⟨by omega, fun h => h3.2 (by omega)⟩
theorem classM_len (s : ByteArray) (b : Bs) : (classM s b).1.sts = b.sts := by
  unfold classM; split
  · exact (loopM_len _ _ _ _ _).trans rfl
  · exact loopM_len _ _ _ _ _
theorem classM_pos (s : ByteArray) (b : Bs) : b.pos ≤ (classM s b).1.pos ∧ (b.pos ≤ s.size → (classM s b).1.pos ≤ s.size + 1) := by
  unfold classM; split
  · have := loopM_pos s (s.size + 1) true (stepM b) noS
    simp only [stepM] at this ⊢
    exact ⟨by omega, fun h => this.2 (by omega)⟩
  · have := loopM_pos s (s.size + 1) true b noS
    exact ⟨this.1, fun h => this.2 (by omega)⟩
/-- what a builder's steps keep -/
structure Gd (b b' : Bs) (c : Nat) : Prop where
  pos : b.pos ≤ b'.pos
  len : b.sts.length ≤ b'.sts.length
  tot : tot b'.sts ≤ tot b.sts + c + 6 * (b'.pos - b.pos)
theorem Gd.trans {a b c : Bs} {m n : Nat} (h : Gd a b m) (h' : Gd b c n) : Gd a c (m + n) := by
  obtain ⟨h1, h2, h3⟩ := h
  obtain ⟨h4, h5, h6⟩ := h'
  exact ⟨by omega, by omega, by omega⟩
theorem gd_refl (b : Bs) : Gd b b 0 := ⟨Nat.le_refl _, Nat.le_refl _, by omega⟩
theorem gd_node (b : Bs) : Gd b (nodeM b) 1 := ⟨Nat.le_refl _, by simp [nodeM], by simp [nodeM, tot]⟩
theorem gd_free (b : Bs) (f t : Nat) : Gd b (freeM b f t) 1 := ⟨Nat.le_refl _, by simp [freeM, addF_len], by have := tot_addF b.sts f t; simp only [freeM]; omega⟩
theorem gd_fail (b : Bs) (e : Int) : Gd b (failM b e) 0 := ⟨by rw [failM_pos]; exact Nat.le_refl _, by rw [failM_sts]; exact Nat.le_refl _, by rw [failM_sts, failM_pos]; omega⟩
theorem gd_step (b : Bs) (m : Nat) (hm : m ≤ 6) {c : Bs} (h : Gd (stepM b) c m) : Gd b c 0 := by
  obtain ⟨h1, h2, h3⟩ := h
  simp only [stepM] at h1 h2 h3
  exact ⟨by omega, h2, by omega⟩
theorem gd_step' {a b : Bs} {m k : Nat} (h : Gd a b m) (hk : m ≤ k + 6) : Gd a (stepM b) k := by
  obtain ⟨h1, h2, h3⟩ := h
  exact ⟨by simp [stepM]; omega, by simpa [stepM] using h2, by simp only [stepM]; omega⟩
theorem gd_one (b : Bs) (S : Nat → Bool) : Gd b (oneM b S).1 2 := ⟨Nat.le_refl _, by simp [oneM], by simp [oneM, tot]⟩
theorem Gd.weak {a b : Bs} {m k : Nat} (h : Gd a b m) (hk : m ≤ k) : Gd a b k := ⟨h.pos, h.len, by have := h.tot; omega⟩
theorem gd_times (s : ByteArray) (b : Bs) (x : Nat × Nat) : Gd b (timesM s b x).1 0 := by
  unfold timesM
  split
  · exact gd_refl b
  · split
    · dsimp only
      refine gd_step b 6 (Nat.le_refl _) ?_
      have h1 := (((gd_node (stepM b)).trans (gd_node _)).trans (gd_free _ b.sts.length x.1)).trans (gd_free _ x.2 (b.sts.length + 1))
      split
      · split
        · exact h1.weak (by omega)
        · exact (h1.trans (gd_free _ _ _)).weak (by omega)
      · split
        · exact (h1.trans (gd_free _ _ _)).weak (by omega)
        · exact ((h1.trans (gd_free _ _ _)).trans (gd_free _ _ _)).weak (by omega)
    · exact gd_refl b
theorem times_part (s : ByteArray) (b : Bs) (x : Nat × Nat) (hx : x.1 < b.sts.length ∧ x.2 < b.sts.length) : (timesM s b x).2.1 < (timesM s b x).1.sts.length ∧ (timesM s b x).2.2 < (timesM s b x).1.sts.length := by
  unfold timesM
  split
  · exact hx
  · split
    · dsimp only
      have e : ∀ b f t, (freeM b f t).sts.length = b.sts.length := fun b f t => by simp [freeM, addF_len]
      split <;> split <;> simp [e, nodeM, stepM]
    · exact hx
def costM : Md → Nat
  | .either => 5
  | .alts _ => 3
  | .row => 1
  | .parts _ => 0
  | .atom => 0
def partOk : Md → Bs → Prop
  | .alts p, b => p.1 < b.sts.length ∧ p.2 < b.sts.length
  | .parts p, b => p.1 < b.sts.length ∧ p.2 < b.sts.length
  | .atom, _ => True
  | _, _ => True
/-- fuel that serves -/
def fuelM (s : ByteArray) (b : Bs) : Md → Nat
  | .either => 8 * (s.size - b.pos) + 5
  | .alts _ => 8 * (s.size - b.pos) + 4
  | .row => 8 * (s.size - b.pos) + 3
  | .parts _ => 8 * (s.size - b.pos) + 2
  | .atom => 8 * (s.size - b.pos) + 1
structure RunOk (s : ByteArray) (md : Md) (d : Nat) (b : Bs) (r : Bs × (Nat × Nat)) : Prop where
  gd : Gd b r.1 (costM md)
  p1 : r.2.1 < r.1.sts.length
  p2 : r.2.2 < r.1.sts.length
  top : r.1.pos ≤ s.size + 12 - d
  more : md = .atom → b.pos < r.1.pos ∧ tot r.1.sts + 1 ≤ tot b.sts + 6 * (r.1.pos - b.pos)
theorem runM_ok (s : ByteArray) (n : Nat) : ∀ (md : Md) (d : Nat) (b : Bs), d ≤ 8 → b.pos ≤ s.size + 12 - d → (md = .atom → b.pos < s.size) → partOk md b → fuelM s b md ≤ n → RunOk s md d b (runM s n md d b) := by
  induction n with
  | zero => intro md d b _ _ _ _ hn; cases md <;> simp [fuelM] at hn
  | succ n ih =>
    intro md d b hd hp ha hk hn
    cases md with
    | either =>
      simp only [fuelM] at hn
      have h := ih (.alts (b.sts.length, b.sts.length + 1)) d (nodeM (nodeM b)) hd hp (fun h => by cases h) ⟨by simp [nodeM], by simp [nodeM]⟩ (by simp only [fuelM, nodeM]; omega)
      obtain ⟨h1, h2, h3, h4, _⟩ := h
      rw [runM]
      exact ⟨(((gd_node b).trans (gd_node _)).trans h1).weak (by simp [costM]), h2, h3, h4, fun h => by cases h⟩
    | alts p =>
      simp only [fuelM] at hn
      obtain ⟨hp1, hp2⟩ := hk
      have h := ih .row d b hd hp (fun h => by cases h) trivial (by simp only [fuelM]; omega)
      obtain ⟨h1, h2, h3, h4, _⟩ := h
      have g := (h1.trans (gd_free _ p.1 (runM s n .row d b).2.1)).trans (gd_free _ (runM s n .row d b).2.2 p.2)
      have hl : (freeM (freeM (runM s n .row d b).1 p.1 (runM s n .row d b).2.1) (runM s n .row d b).2.2 p.2).sts.length = (runM s n .row d b).1.sts.length := by simp [freeM, addF_len]
      have hg := g.len
      rw [runM]
      split
      · rename_i hpk
        obtain ⟨q1, q2, _⟩ := peekM_some hpk
        have hpp : (freeM (freeM (runM s n .row d b).1 p.1 (runM s n .row d b).2.1) (runM s n .row d b).2.2 p.2).pos = (runM s n .row d b).1.pos := rfl
        have hpos := h1.pos
        have h := ih (.alts p) d (stepM (freeM (freeM (runM s n .row d b).1 p.1 (runM s n .row d b).2.1) (runM s n .row d b).2.2 p.2)) hd (by simp only [stepM]; omega) (fun h => by cases h) ⟨by simp only [stepM]; omega, by simp only [stepM]; omega⟩ (by simp only [fuelM, stepM]; omega)
        obtain ⟨k1, k2, k3, k4, _⟩ := h
        refine ⟨?_, k2, k3, k4, fun h => by cases h⟩
        have g2 := gd_step' g (k := 0) (by simp [costM])
        exact (g2.trans k1).weak (by simp [costM])
      · exact ⟨g.weak (by simp [costM]), by have := h1.len; dsimp only; omega, by have := h1.len; dsimp only; omega, h4, fun h => by cases h⟩
    | row =>
      simp only [fuelM] at hn
      have h := ih (.parts (b.sts.length, b.sts.length)) d (nodeM b) hd hp (fun h => by cases h) ⟨by simp [nodeM], by simp [nodeM]⟩ (by simp only [fuelM, nodeM]; omega)
      obtain ⟨h1, h2, h3, h4, _⟩ := h
      rw [runM]
      exact ⟨((gd_node b).trans h1).weak (by simp [costM]), h2, h3, h4, fun h => by cases h⟩
    | parts p =>
      simp only [fuelM] at hn
      obtain ⟨hp1, hp2⟩ := hk
      rw [runM]
      split
      · exact ⟨(gd_refl b).weak (by simp [costM]), hp1, hp2, hp, fun h => by cases h⟩
      · rename_i c hc
        split
        · exact ⟨(gd_refl b).weak (by simp [costM]), hp1, hp2, hp, fun h => by cases h⟩
        · dsimp only
          have hps := (peekM_some hc).2.1
          have h := ih .atom d b hd hp (fun _ => hps) trivial (by simp only [fuelM]; omega)
          obtain ⟨h1, h2, h3, h4, h5⟩ := h
          obtain ⟨h6, h7⟩ := h5 rfl
          have gt := gd_times s (runM s n .atom d b).1 (runM s n .atom d b).2
          have pt := times_part s (runM s n .atom d b).1 (runM s n .atom d b).2 ⟨h2, h3⟩
          have tp : (timesM s (runM s n .atom d b).1 (runM s n .atom d b).2).1.pos ≤ s.size + 12 - d := by
            unfold timesM
            split
            · exact h4
            · rename_i c' hc'
              have := (peekM_some hc').2.1
              split
              · have e : ∀ b f t, (freeM b f t).pos = b.pos := fun _ _ _ => rfl
                dsimp only
                split <;> split <;> simp only [e, nodeM, stepM] <;> omega
              · exact h4
          generalize hr : runM s n .atom d b = r at *
          generalize ht : timesM s r.1 r.2 = t at *
          have hfl : (freeM t.1 p.2 t.2.1).sts.length = t.1.sts.length := by simp [freeM, addF_len]
          have hgl := gt.len
          have hgp := gt.pos
          have h1l := h1.len
          have h := ih (.parts (p.1, t.2.2)) d (freeM t.1 p.2 t.2.1) hd tp (fun h => by cases h) ⟨by rw [hfl]; show p.1 < _; omega, by rw [hfl]; exact pt.2⟩ (by simp only [fuelM, freeM]; omega)
          obtain ⟨k1, k2, k3, k4, _⟩ := h
          refine ⟨?_, k2, k3, k4, fun h => by cases h⟩
          have g1 : Gd r.1 (freeM t.1 p.2 t.2.1) 1 := (gt.trans (gd_free _ _ _)).weak (by omega)
          obtain ⟨a1, a2, a3⟩ := g1.trans k1
          exact ⟨by omega, by omega, by simp [costM] at a3 ⊢; omega⟩
    | atom =>
      simp only [fuelM] at hn
      have hps := ha rfl
      rw [runM]
      have fin : ∀ (b' : Bs) (S : Nat → Bool), Gd (stepM b) b' 0 → b'.pos ≤ s.size + 2 → RunOk s .atom d b (oneM b' S) := by
        intro b' S hg hp'
        obtain ⟨g1, g2, g3⟩ := hg.trans (gd_one b' S)
        simp only [stepM] at g1 g2 g3
        refine ⟨⟨by omega, g2, by simp [costM]; omega⟩, by simp [oneM], by simp [oneM], ?_, fun _ => ⟨by omega, by omega⟩⟩
        show b'.pos ≤ _
        omega
      have hsp : (stepM b).pos = b.pos + 1 := rfl
      split
      · split
        · exact fin _ _ (gd_fail _ _) (by rw [failM_pos, hsp]; omega)
        · rename_i hd8
          have h := ih .either (d + 1) (stepM b) (by omega) (by rw [hsp]; omega) (fun h => by cases h) trivial (by simp only [fuelM, stepM]; omega)
          obtain ⟨h1, h2, h3, h4, _⟩ := h
          generalize runM s n .either (d + 1) (stepM b) = r at *
          obtain ⟨g1, g2, g3⟩ := h1
          simp only [stepM, costM] at g1 g2 g3
          have hcp := closeM_pos s r.1
          have hcs := closeM_sts s r.1
          exact ⟨⟨by dsimp only; omega, by dsimp only; rw [hcs]; exact g2, by simp only [costM]; rw [hcs]; omega⟩, by dsimp only; rw [hcs]; exact h2, by dsimp only; rw [hcs]; exact h3, by dsimp only; omega, fun _ => ⟨by dsimp only; omega, by dsimp only; rw [hcs]; omega⟩⟩
      · split
        · have hc := classM_pos s (stepM b)
          refine fin _ _ ⟨hc.1, by rw [classM_len]; exact Nat.le_refl _, by rw [classM_len]; omega⟩ ?_
          have := hc.2 (by rw [hsp]; omega)
          omega
        · split
          · exact fin _ _ (gd_refl _) (by rw [hsp]; omega)
          · split
            · split
              · exact fin _ _ (gd_step' (gd_fail _ _) (by omega)) (by simp only [stepM, failM_pos]; omega)
              · exact fin _ _ (gd_step' (gd_refl _) (by omega)) (by simp only [stepM]; omega)
            · split
              · exact fin _ _ (gd_fail _ _) (by rw [failM_pos, hsp]; omega)
              · exact fin _ _ (gd_refl _) (by rw [hsp]; omega)
end Go.Proofs.Ytipnhpfpppblhaa
