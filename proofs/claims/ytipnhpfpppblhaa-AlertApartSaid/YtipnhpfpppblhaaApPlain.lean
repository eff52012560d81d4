/- Alerts that may be: what Apart puts. Plain. -/
import Derived.Test.YtipnhpfpppblhaaApPut
import Derived.Test.YtipnhpfpppblhaaAlRight
import Derived.Test.YtipnhpfpppblhaaAls
import Derived.Test.YtipnhpfpppblhaaAlId
namespace Go.Proofs.Ytipnhpfpppblhaa
open Go.RowKit Go.Maps

theorem nameL_len {s : ByteArray} (h : nameL (B s) = true) : s.size ≤ 12 := by
  unfold nameL at h
  simp only [Bool.and_eq_true, decide_eq_true_eq] at h
  have := h.1.1.2
  rwa [len_B] at this
theorem rightF_at {l : List Fld} (h : rightF l = true) : l.length ≤ 8 ∧ ∀ j (hj : j < l.length), nameL (B l[j].1) = true ∧ l[j].2.size ≤ 200 := by
  unfold rightF at h
  simp only [Bool.and_eq_true, decide_eq_true_eq, List.all_eq_true, List.mem_range] at h
  refine ⟨h.1, fun j hj => ?_⟩
  have := h.2 j hj
  unfold fldOk at this
  simp only [Bool.and_eq_true, decide_eq_true_eq] at this
  have e : l.getD j default = l[j] := by rw [List.getD_eq_getElem?_getD, List.getElem?_eq_getElem hj]; rfl
  rw [e] at this
  exact ⟨this.1.1, this.1.2⟩
theorem flat_le (l : List Fld) (h : ∀ f ∈ l, f.1.size ≤ 12 ∧ f.2.size ≤ 200) : (l.flatMap fldB).length ≤ l.length * 214 := by
  induction l with
  | nil => simp
  | cons f l ih =>
    have h1 := ih (fun g hg => h g (List.mem_cons_of_mem _ hg))
    obtain ⟨h2, h3⟩ := h f List.mem_cons_self
    rw [List.flatMap_cons, List.length_append, List.length_cons]
    have : (fldB f).length = f.1.size + 1 + f.2.size + 1 := by simp [fldB, byL_len]; omega
    omega
theorem whoA_iff {src : ByteArray} {fl : List Fld} {lv : Int} : whoA src fl lv = true ↔ nameL (B src) = true ∧ 0 < fl.length ∧ rightF fl = true ∧ rightL lv = true := by
  unfold whoA
  simp only [Bool.and_eq_true, decide_eq_true_eq, and_assoc]
theorem idB_bound {src : ByteArray} {fl : List Fld} {lv : Int} (h : whoA src fl lv = true) : (idB src fl).length ≤ 4000000 := by
  obtain ⟨h1, _, h3, _⟩ := whoA_iff.1 h
  have h4 := nameL_len h1
  obtain ⟨h5, h6⟩ := rightF_at h3
  have h7 := flat_le fl (fun f hf => by
    obtain ⟨j, hj, rfl⟩ := List.getElem_of_mem hf
    obtain ⟨a, b⟩ := h6 j hj
    exact ⟨nameL_len a, b⟩)
  unfold idB
  simp only [List.length_append, byL_len, List.length_cons, List.length_nil]
  omega
theorem rightA_who {x : Al} (h : rightA x = true) : whoA x.src x.fl x.lv = true := by
  unfold rightA at h
  simp only [Bool.and_eq_true] at h
  exact h.1.1
theorem rightL_iff {l : Int} : rightL l = true ↔ 0 ≤ l ∧ l ≤ 7 := by simp [rightL]
theorem wfL_of {l : Int} {c : Nat} (h : rightL l = true) (hc : c < 4294967296) : wfL (l, c) := by
  obtain ⟨h1, h2⟩ := rightL_iff.1 h
  refine ⟨?_, ?_⟩ <;> simp [Lit.wf, IntKind.min, IntKind.max, IntKind.signed, IntKind.bits] <;> omega
theorem orN_lt (c d : Nat) : orN c d < 4294967296 := (BitVec.ofNat 32 c ||| BitVec.ofNat 32 d).isLt
theorem joinL_right (a b : Int × Nat) : rightL (joinL a b).1 = true ∧ (joinL a b).2 < 4294967296 := by
  unfold joinL
  split
  · rename_i h
    simp only [Bool.and_eq_true] at h
    obtain ⟨h1, h2⟩ := h
    rw [rightL_iff] at h1 h2
    refine ⟨rightL_iff.2 (by dsimp only; omega), orN_lt _ _⟩
  · exact ⟨by decide, by decide⟩
theorem raisedL_right (rs : List Nmd) (nm : ByteArray) {l : Int × Nat} (h : rightL l.1 = true) (hc : l.2 < 4294967296) : rightL (raisedL rs nm l).1 = true ∧ (raisedL rs nm l).2 < 4294967296 := by
  unfold raisedL
  split
  · exact joinL_right _ _
  · exact ⟨h, hc⟩
theorem raisedL_wf (rs : List Nmd) (nm : ByteArray) {l : Int × Nat} (h : rightL l.1 = true) (hc : l.2 < 4294967296) : wfL (raisedL rs nm l) := by
  obtain ⟨h1, h2⟩ := raisedL_right rs nm h hc
  exact wfL_of h1 h2
/-- an alert's id -/
def idA (x : Al) : Int := shortL (idB x.src x.fl)
theorem shortL_wf (bs : List Int) : (Lit.int .u64 (shortL bs)).wf = true := by
  have : 0 ≤ shortL bs ∧ shortL bs ≤ 18446744073709551615 := by
    unfold shortL
    rw [shortK, shortS]
    show 0 ≤ IntKind.u64.wrap _ ∧ IntKind.u64.wrap _ ≤ _
    simp only [IntKind.wrap, IntKind.bits, IntKind.signed]
    simp
    omega
  simp [Lit.wf, IntKind.min, IntKind.max, IntKind.signed, IntKind.bits]; omega
/-- what is put for an alert, for alerts -/
def putsA (rs : List Nmd) (x : Al) : List ((Int × Nat) × Int) := if rightA x then ((x.lv, x.c), idA x) :: x.fl.map (fun f => (raisedL rs f.1 (x.lv, x.c), idA x)) else []
def putsL (rs : List Nmd) (l : List Al) : List ((Int × Nat) × Int) := l.flatMap (putsA rs)
theorem putsL_succ {rs : List Nmd} {l : List Al} {k : Nat} (h : k < l.length) : putsL rs (l.take (k + 1)) = putsL rs (l.take k) ++ putsA rs l[k] := by
  unfold putsL
  rw [List.take_succ_eq_append_getElem h, List.flatMap_append]; simp
/-- a label's distinct ids are no more than the alerts -/
theorem nodup_len {α : Type} [DecidableEq α] : ∀ (a b : List α), a.Nodup → (∀ x ∈ a, x ∈ b) → a.length ≤ b.length
  | [], _, _, _ => Nat.zero_le _
  | x :: a, b, hn, h => by
    obtain ⟨h1, h2⟩ := List.nodup_cons.1 hn
    have := nodup_len a (b.erase x) h2 (fun y hy => (List.mem_erase_of_ne (fun e => h1 (by subst e; exact hy))).2 (h y (List.mem_cons_of_mem _ hy)))
    rw [List.length_erase_of_mem (h x List.mem_cons_self)] at this
    have hb := List.length_pos_of_mem (h x List.mem_cons_self)
    rw [List.length_cons]; omega
theorem uKeys_own {P : Program} {k : TypeId} {R : Value → Option (DataW Unit × List MemPlace)} {w : World} {b n : Nat} {D : DataW Unit} (hown : w.ownsMap P k R b n D) (K : Keyed P k) (hk : P.underlying k = some (.int .u64)) :
    (uKeys D).Nodup ∧ (∀ i, i ∈ uKeys D ↔ has D (.int .u64 i) = true) ∧ (uKeys D).length = Maps.size D := by
  obtain ⟨es, hD, hpw, _⟩ := hown.entries K
  obtain ⟨es', hD', hko⟩ := hown.keysOf
  obtain rfl : es = es' := by rw [hD] at hD'; simpa using hD'
  subst hD
  have hk' : ∀ p ∈ es, ∃ x, p.1 = Lit.int .u64 x := fun p hp => by obtain ⟨v, hv⟩ := hko p hp; obtain ⟨x, _, hx, _⟩ := keyOf_u64 hk hv; exact ⟨x, hx⟩
  refine ⟨?_, fun x => ?_, by simp [uKeys, Maps.size]⟩
  · show (es.map fun p => uOf p.1).Nodup
    refine List.pairwise_map.2 (hpw.imp_of_mem fun {p q} hp' hq' hne e => hne ?_)
    obtain ⟨a, ha⟩ := hk' p hp'
    obtain ⟨b, hb⟩ := hk' q hq'
    rw [ha, hb] at e ⊢
    exact congrArg _ e
  · rw [has_eq, List.any_eq_true]
    show x ∈ es.map (fun p => uOf p.1) ↔ _
    rw [List.mem_map]
    constructor
    · rintro ⟨p, hp', rfl⟩
      obtain ⟨a, ha⟩ := hk' p hp'
      exact ⟨p, hp', by rw [ha]; simp [Lit.sameKey, uOf]⟩
    · rintro ⟨p, hp', hs⟩
      obtain ⟨a, ha⟩ := hk' p hp'
      rw [ha] at hs
      exact ⟨p, hp', by rw [ha]; simpa [Lit.sameKey, uOf] using hs⟩
set_option maxRecDepth 100000 in
theorem keyOf_inv0 {v : Value} {kl : Lit} (h : keyOf Try.prog 34 v = some kl) : ∃ (xs : Array Value) (L : List Lit), v = .agg xs ∧ Try.prog.keyLits (Try.prog.types.size + 1) 34 xs.toList = some L ∧ kl = .string (keyBytes L) :=
  keyOf_top wideT h
set_option maxRecDepth 100000 in
theorem keyOf_inv {v : Value} {kl : Lit} (h : keyOf Try.prog 34 v = some kl) : ∃ x, v = LabP x ∧ wfL x ∧ kl = kL x := by
  have hc : Try.prog.cellsOf 34 = 2 := by kernel_rfl
  have hci : Try.prog.cellsOf 3 = 1 := by kernel_rfl
  have hcu : Try.prog.cellsOf 32 = 1 := by kernel_rfl
  obtain ⟨n, hn⟩ := typesT
  obtain ⟨xs, L, rfl, hl, rfl⟩ := keyOf_inv0 h
  clear h
  generalize Try.prog.types.size = N at *
  subst hn
  simp only [Program.keyLits, Try.underlying34, hc] at hl
  split at hl
  · rename_i hlen
    obtain ⟨a, b, rfl⟩ : ∃ a b, xs = #[a, b] := by
      obtain ⟨l⟩ := xs
      obtain ⟨h1, _⟩ := hlen
      match l, h1 with
      | [a, b], _ => exact ⟨a, b, rfl⟩
    simp [hci, hcu, Try.underlying3, Try.underlying32] at hl
    have ha : ∃ l, a = .int .i64 l ∧ (Lit.int .i64 l).wf = true := by
      cases a <;> simp [Option.bind_eq_some_iff] at hl
      rename_i q l
      obtain ⟨_, ⟨⟨rfl, h2⟩, _⟩, _⟩ := hl
      exact ⟨l, rfl, h2⟩
    obtain ⟨l, rfl, hl1⟩ := ha
    have hb : ∃ c, b = .int .u32 c ∧ (Lit.int .u32 c).wf = true := by
      cases b <;> simp [Option.bind_eq_some_iff] at hl
      rename_i q c
      obtain ⟨_, _, _, ⟨_, ⟨⟨rfl, h2⟩, _⟩, _⟩, _⟩ := hl
      exact ⟨c, rfl, h2⟩
    obtain ⟨c, rfl, hc1⟩ := hb
    have h0 : 0 ≤ c := by
      simp [Lit.wf, IntKind.min, IntKind.signed] at hc1; omega
    obtain ⟨cn, rfl⟩ : ∃ cn : Nat, c = cn := ⟨c.toNat, by omega⟩
    simp [hl1, hc1] at hl
    exact ⟨(l, cn), rfl, ⟨hl1, hc1⟩, by rw [← hl]; rfl⟩
  · cases hl
end Go.Proofs.Ytipnhpfpppblhaa
