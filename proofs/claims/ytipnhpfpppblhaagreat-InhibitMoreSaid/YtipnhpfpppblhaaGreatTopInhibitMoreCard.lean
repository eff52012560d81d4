/- InhibitMore: the card: whatever the arguments, the law returns true and its arguments read as they did. No condition. -/
import Derived.Test.YtipnhpfpppblhaaGreatTopInhibitMoreCardP3
import Derived.SliceStrings
import Derived.Test.YtipnhpfpppblhaaGreatHeldT
import Derived.Deep.Onto
import Derived.Lib.Walk
import Derived.Test.YtipnhpfpppblhaaGreatAls
import Derived.Test.YtipnhpfpppblhaaGreatAppRd
import Derived.Test.YtipnhpfpppblhaaGreatBox2
import Derived.Test.YtipnhpfpppblhaaGreatInfoInt
import Derived.Maps.AppendAt
import Derived.Test.YtipnhpfpppblhaaGreatFrame12

/- Arguments: policies, whole; alerts; labels. -/
namespace Go.Proofs.YtipnhpfpppblhaaGreat
open Go.RowKit Go.WideShapes Go.ChangeShapes Go.Deep
theorem nmdCells_eq (l : List Nmd) : nmdCells l = cellsG nmdC l := by
  induction l with
  | nil => rfl
  | cons x l ih => simp only [nmdCells, cellsG, ih]
theorem mtCells_eq (l : List Mt) : mtCells l = cellsG mtC l := by
  induction l with
  | nil => rfl
  | cons x l ih => simp only [mtCells, cellsG, ih]; rfl
section
variable {H : Type} {enc : TypeId × Value → H} {P : Program} {W : World} {base : Nat} {spare : Nat → Bool} {held : Bool}
theorem row_cellsG {a : Addr} {len size : Nat} {f : Nat → List Value} (h0 : 0 < size) (hlen : ∀ i, i < len → (f i).length = size) (hat : ∀ i, i < len → ∀ j, j < size → W.cell? (a.add (i * size + j)) = (f i)[j]?) (hp : 0 < len) :
    ∃ b o, a = ⟨b, o, none⟩ ∧ b < W.heap.size ∧ ∀ i, i < len → ∀ j x, (f i)[j]? = some x → W.cell? ⟨b, o + (i * size + j), none⟩ = some x := by
  obtain ⟨b, off, spot⟩ := a
  obtain ⟨x0, hx0⟩ : ∃ x, (f 0)[0]? = some x := ⟨_, List.getElem?_eq_getElem (by rw [hlen 0 hp]; exact h0)⟩
  have hc := hat 0 hp 0 h0
  rw [hx0] at hc
  have hspot : spot = none := by simpa [Addr.add] using World.cell?_spot hc
  subst hspot
  refine ⟨b, off, rfl, by have := cell_ltA hc; simpa [Addr.add] using this, fun i hi j x hx => ?_⟩
  have hj : j < size := by have := (List.getElem?_eq_some_iff.1 hx).1; rw [hlen i hi] at this; exact this
  have := hat i hi j hj
  rw [add_off, hx] at this
  exact this
theorem rows_of_trod {α : Type} [Inhabited α] (f : α → List Value) (k : Nat) (hk : ∀ x, (f x).length = k) (h0 : 0 < k) {t e : TypeId} {fs : Array Field} {fuel : Nat} {v : Value} {x : DataW H × List MemPlace}
    (ht : P.underlying t = some (.slice e)) (he : P.underlying e = some (.struct fs)) (hC : P.cellsOf e = k) (Q : α → Prop)
    (hel : ∀ (es : List Value) (n : Nat), es.length = k → (∀ (j : Nat) (fd : Field), fs[j]? = some fd → ∃ y, DataW.trod enc P W base spare held n fd.type ((es.drop fd.offset).take (P.cellsOf fd.type)) = some y) → ∃ x, f x = es ∧ Q x)
    (h : DataW.trod enc P W base spare held fuel t [v] = some x) :
    ∃ (l : List α) (a : Option Addr) (c : Nat), v = .slice a l.length c ∧ l.length ≤ c ∧ c ≤ maxLen ∧ RdAt W v l.length k (cellsG f l) ∧ ∀ x ∈ l, Q x := by
  rcases open_slice_structs ht he h with hcs | ⟨a, len, cap, hcs, hl, hm, hf⟩
  · cases hcs
    exact ⟨[], none, 0, rfl, Nat.le_refl _, Nat.zero_le _, RdAt.nil W k, fun _ h => by cases h⟩
  · cases hcs
    rw [hC] at hf
    have hone : ∀ i, i < len → ∃ s : α, (∀ j, j < k → W.cell? (a.add (i * k + j)) = (f s)[j]?) ∧ Q s := by
      intro i hi
      obtain ⟨es, n, hlen, hat, hfs⟩ := hf i hi
      obtain ⟨x, hx, hq⟩ := hel es n hlen hfs
      exact ⟨x, by rw [hx]; exact hat, hq⟩
    obtain ⟨g, hg⟩ : ∃ g : Nat → α, ∀ i, i < len → (∀ j, j < k → W.cell? (a.add (i * k + j)) = (f (g i))[j]?) ∧ Q (g i) :=
      ⟨fun i => if h : i < len then Classical.choose (hone i h) else default, fun i h => by have := Classical.choose_spec (hone i h); simpa only [dif_pos h] using this⟩
    have hgl : ((List.range len).map g).length = len := by simp
    refine ⟨(List.range len).map g, some a, cap, by rw [hgl], by omega, hm, ⟨by rw [cellsG_len hk], .inr ⟨a, cap, by rw [hgl], by omega, fun hn => ?_⟩⟩, fun s hs => ?_⟩
    · rw [hgl] at hn
      obtain ⟨b, o, rfl, hlt, hcell⟩ := row_cellsG (f := fun i => f (g i)) (size := k) h0 (fun _ _ => hk _) (fun i hi => (hg i hi).1) hn
      refine ⟨b, o, rfl, hlt, fun j x hj => ?_⟩
      have hjl := (List.getElem?_eq_some_iff.1 hj).1
      rw [cellsG_len hk, hgl] at hjl
      have hr : j % k < k := Nat.mod_lt _ h0
      have hjk : j / k * k + j % k = j := by rw [Nat.mul_comm]; exact Nat.div_add_mod j k
      have hmk : j / k < len := Nat.div_lt_of_lt_mul (by rw [Nat.mul_comm]; exact hjl)
      obtain ⟨y, hy⟩ : ∃ y, (f (g (j / k)))[j % k]? = some y := ⟨_, List.getElem?_eq_getElem (by rw [hk]; exact hr)⟩
      have hq := cellsG_at hk ((List.range len).map g) (j / k) (by rw [hgl]; exact hmk) (j % k) y (by simpa using hy)
      rw [hjk, hj] at hq
      obtain rfl := Option.some.inj hq
      have := hcell (j / k) hmk (j % k) x hy
      rwa [hjk] at this
    · obtain ⟨i, hi, rfl⟩ := List.mem_map.1 hs
      exact (hg i (List.mem_range.1 hi)).2
end
instance : Inhabited Mt := ⟨⟨⟨#[]⟩, 0, ⟨#[]⟩⟩⟩
instance : Inhabited PRt := ⟨⟨⟨#[]⟩, [], 0, 0, 0, [], undef, undef⟩⟩
instance : Inhabited PIh := ⟨⟨[], 0, 0, [], [], undef, undef, undef⟩⟩
set_option maxRecDepth 100000 in
theorem mtsG_of_trod {H : Type} {enc : TypeId × Value → H} {W : World} {n : Nat} {v : Value} {x : DataW H × List MemPlace} (h : DataW.trod enc Tryz.prog W 0 (fun _ => true) true n 49 [v] = some x) : ∃ l, MtsAt W v l ∧ l.length ≤ maxLen ∧ MtsFit l := by
  have hcs1 : Tryz.prog.cellsOf 9 = 1 := by kernel_rfl
  have hci : Tryz.prog.cellsOf 3 = 1 := by kernel_rfl
  obtain ⟨l, a, c, hv, h1, h2, h3, h4⟩ := rows_of_trod mtC 3 (fun _ => rfl) (by decide) Tryz.underlying49 Tryz.underlying92 (by kernel_rfl) MtFit (fun es n hlen hfs => by
    match es, hlen with
    | [e0, e1, e2], _ =>
      obtain ⟨y0, t0⟩ := hfs 0 _ rfl
      obtain ⟨y1, t1⟩ := hfs 1 _ rfl
      obtain ⟨y2, t2⟩ := hfs 2 _ rfl
      obtain ⟨s0, q0, _, z0⟩ := DataW.trod_string Tryz.underlying9 t0
      obtain ⟨k1, q1, _, _⟩ := DataW.trod_int Tryz.underlying3 t1
      obtain ⟨s2, q2, _, z2⟩ := DataW.trod_string Tryz.underlying9 t2
      simp [hcs1] at q0 q2
      simp [hci] at q1
      subst q0 q1 q2
      exact ⟨⟨s0, k1, s2⟩, rfl, z0, z2⟩) h
  exact ⟨l, by unfold MtsAt; rw [mtCells_eq]; exact h3, Nat.le_trans h1 h2, h4⟩
set_option maxRecDepth 100000 in
theorem nmdsG_of_trod {H : Type} {enc : TypeId × Value → H} {W : World} {n : Nat} {v : Value} {x : DataW H × List MemPlace} (h : DataW.trod enc Tryz.prog W 0 (fun _ => true) true n 22 [v] = some x) : ∃ l, NmdsAt W v l ∧ NmdWide l := by
  have hcs1 : Tryz.prog.cellsOf 9 = 1 := by kernel_rfl
  have hcl : Tryz.prog.cellsOf 36 = 2 := by kernel_rfl
  obtain ⟨l, a, c, hv, h1, h2, h3, h4⟩ := rows_of_trod nmdC 3 (fun _ => rfl) (by decide) Tryz.underlying22 Tryz.underlying120 (by kernel_rfl) (fun y => y.2.2 < 4294967296 ∧ y.1.size ≤ maxLen) (fun es n hlen hfs => by
    match es, hlen with
    | [e0, e1, e2], _ =>
      obtain ⟨y0, t0⟩ := hfs 0 _ rfl
      obtain ⟨y1, t1⟩ := hfs 1 _ rfl
      obtain ⟨s0, q0, _, z0⟩ := DataW.trod_string Tryz.underlying9 t0
      simp [hcs1] at q0
      subst q0
      have t1' : DataW.trod enc Tryz.prog W 0 (fun _ => true) true n 36 [e1, e2] = some y1 := by simpa [hcl] using t1
      obtain ⟨l, c, r1, r2, hc⟩ := lab_of_trod t1'
      subst r1 r2
      exact ⟨(s0, l, c), rfl, hc, z0⟩) h
  exact ⟨l, by unfold NmdsAt; rw [nmdCells_eq]; exact h3, Nat.le_trans h1 h2, fun x hx => (h4 x hx).1, fun x hx => (h4 x hx).2⟩
set_option maxRecDepth 100000 in
theorem strsG_of_trod {H : Type} {enc : TypeId × Value → H} {W : World} {n : Nat} {v : Value} {x : DataW H × List MemPlace} (h : DataW.trod enc Tryz.prog W 0 (fun _ => true) true n 48 [v] = some x) : ∃ l, StrsG W v l ∧ StrsFit l := by
  rcases open_strings Tryz.underlying48 Tryz.underlying9 (by kernel_rfl) h with ⟨hcs, _⟩ | ⟨a, len, cap, ss, hcs, _, hl, hm, hz, _, hcell, hws⟩
  · cases hcs
    exact ⟨[], RdAt.nil W 1, Nat.zero_le _, by simp⟩
  · cases hcs
    simp only [if_true] at hz
    have hlen : (ss.take len).length = len := by rw [List.length_take]; omega
    refine ⟨ss.take len, ⟨by simp, .inr ⟨a, cap, by rw [hlen], by omega, fun hn => ?_⟩⟩, by rw [hlen]; omega, fun x hx => hws x (List.mem_of_mem_take hx)⟩
    rw [hlen] at hn
    obtain ⟨b, off, spot⟩ := a
    have hspot : spot = none := by simpa [Addr.add] using World.cell?_spot (hcell 0 (by omega))
    subst hspot
    have hall : ∀ j, j < ss.length → W.cell? ⟨b, off + j, none⟩ = some (.string (ss.getD j ByteArray.empty)) := fun j hj => by rw [← Go.WideShapes.add_plain]; exact hcell j hj
    refine ⟨b, off, rfl, cell_ltA (a := ⟨b, off + 0, none⟩) (hall 0 (by omega)), fun j x hx => ?_⟩
    rw [List.getElem?_map, Option.map_eq_some_iff] at hx
    obtain ⟨y, hy, rfl⟩ := hx
    have hj : j < len := by have := (List.getElem?_eq_some_iff.1 hy).1; rw [hlen] at this; exact this
    rw [hall j (by omega)]
    rw [List.getElem?_take_of_lt hj] at hy
    simp [List.getD, hy]
set_option maxRecDepth 100000 in
theorem rts_of_trod {H : Type} {enc : TypeId × Value → H} {W : World} {n : Nat} {v : Value} {x : DataW H × List MemPlace} (h : DataW.trod enc Tryz.prog W 0 (fun _ => true) true n 23 [v] = some x) : ∃ l, RtsAt W v l ∧ l.length ≤ maxLen ∧ ∀ r ∈ l, RtFit r := by
  have hcs1 : Tryz.prog.cellsOf 9 = 1 := by kernel_rfl
  have hci : Tryz.prog.cellsOf 3 = 1 := by kernel_rfl
  have hcm : Tryz.prog.cellsOf 49 = 1 := by kernel_rfl
  have hcn : Tryz.prog.cellsOf 48 = 1 := by kernel_rfl
  obtain ⟨l, a, c, hv, h1, h2, h3, h4⟩ := rows_of_trod rtC 6 (fun _ => rfl) (by decide) Tryz.underlying23 Tryz.underlying84 (by kernel_rfl) (fun r => RtIn W r ∧ RtFit r) (fun es n hlen hfs => by
    match es, hlen with
    | [e0, e1, e2, e3, e4, e5], _ =>
      obtain ⟨y0, t0⟩ := hfs 0 _ rfl
      obtain ⟨y1, t1⟩ := hfs 1 _ rfl
      obtain ⟨y2, t2⟩ := hfs 2 _ rfl
      obtain ⟨y3, t3⟩ := hfs 3 _ rfl
      obtain ⟨y4, t4⟩ := hfs 4 _ rfl
      obtain ⟨y5, t5⟩ := hfs 5 _ rfl
      obtain ⟨s0, q0, _, z0⟩ := DataW.trod_string Tryz.underlying9 t0
      obtain ⟨k2, q2, _, _⟩ := DataW.trod_int Tryz.underlying3 t2
      obtain ⟨k3, q3, _, _⟩ := DataW.trod_int Tryz.underlying3 t3
      obtain ⟨k4, q4, _, _⟩ := DataW.trod_int Tryz.underlying3 t4
      simp [hcs1] at q0
      simp [hci] at q2 q3 q4
      subst q0 q2 q3 q4
      have t1' : DataW.trod enc Tryz.prog W 0 (fun _ => true) true n 48 [e1] = some y1 := by simpa [hcn] using t1
      have t5' : DataW.trod enc Tryz.prog W 0 (fun _ => true) true n 49 [e5] = some y5 := by simpa [hcm] using t5
      obtain ⟨bs, b1, b2⟩ := strsG_of_trod t1'
      obtain ⟨ms, m1, m2, m3⟩ := mtsG_of_trod t5'
      exact ⟨⟨s0, bs, k2, k3, k4, ms, e1, e5⟩, rfl, ⟨b1, m1⟩, ⟨z0, b2, m3, m2⟩⟩) h
  exact ⟨l, ⟨h3, fun r hr => (h4 r hr).1⟩, Nat.le_trans h1 h2, fun r hr => (h4 r hr).2⟩
set_option maxRecDepth 100000 in
theorem ihs_of_trod {H : Type} {enc : TypeId × Value → H} {W : World} {n : Nat} {v : Value} {x : DataW H × List MemPlace} (h : DataW.trod enc Tryz.prog W 0 (fun _ => true) true n 24 [v] = some x) : ∃ l, IhsAt W v l ∧ l.length ≤ maxLen ∧ ∀ r ∈ l, IhFit r := by
  have hcl : Tryz.prog.cellsOf 36 = 2 := by kernel_rfl
  have hcm : Tryz.prog.cellsOf 49 = 1 := by kernel_rfl
  have hcn : Tryz.prog.cellsOf 48 = 1 := by kernel_rfl
  obtain ⟨l, a, c, hv, h1, h2, h3, h4⟩ := rows_of_trod ihC 5 (fun _ => rfl) (by decide) Tryz.underlying24 Tryz.underlying51 (by kernel_rfl) (fun r => IhIn W r ∧ IhFit r) (fun es n hlen hfs => by
    match es, hlen with
    | [e0, e1, e2, e3, e4], _ =>
      obtain ⟨y0, t0⟩ := hfs 0 _ rfl
      obtain ⟨y1, t1⟩ := hfs 1 _ rfl
      obtain ⟨y2, t2⟩ := hfs 2 _ rfl
      obtain ⟨y3, t3⟩ := hfs 3 _ rfl
      have t0' : DataW.trod enc Tryz.prog W 0 (fun _ => true) true n 48 [e0] = some y0 := by simpa [hcn] using t0
      have t1' : DataW.trod enc Tryz.prog W 0 (fun _ => true) true n 36 [e1, e2] = some y1 := by simpa [hcl] using t1
      have t2' : DataW.trod enc Tryz.prog W 0 (fun _ => true) true n 49 [e3] = some y2 := by simpa [hcm] using t2
      have t3' : DataW.trod enc Tryz.prog W 0 (fun _ => true) true n 49 [e4] = some y3 := by simpa [hcm] using t3
      obtain ⟨bs, b1, b2⟩ := strsG_of_trod t0'
      obtain ⟨l, c, r1, r2, hc⟩ := lab_of_trod t1'
      obtain ⟨fs, f1, f2, f3⟩ := mtsG_of_trod t2'
      obtain ⟨ms, m1, m2, m3⟩ := mtsG_of_trod t3'
      subst r1 r2
      exact ⟨⟨bs, l, c, fs, ms, e0, e3, e4⟩, rfl, ⟨b1, f1, m1⟩, ⟨b2, hc, f3, m3, f2, m2⟩⟩) h
  exact ⟨l, ⟨h3, fun r hr => (h4 r hr).1⟩, Nat.le_trans h1 h2, fun r hr => (h4 r hr).2⟩
def ArgPolD (w : World) (v : Value) (x : PV) (p : PD) : Prop := v = x.v ∧ PolAt w x p ∧ PolFitD p
theorem polD_of_trod {H : Type} {enc : TypeId × Value → H} {W : World} {n : Nat} {e0 e1 e2 e3 e4 e5 : Value} {x : DataW H × List MemPlace} (h : DataW.trod enc Tryz.prog W 0 (fun _ => true) true n 26 [e0, e1, e2, e3, e4, e5] = some x) : ∃ x p, ArgPolD W (.agg #[e0, e1, e2, e3, e4, e5]) x p := by
  have hcn : Tryz.prog.cellsOf 22 = 1 := by kernel_rfl
  have hcr : Tryz.prog.cellsOf 23 = 1 := by kernel_rfl
  have hci : Tryz.prog.cellsOf 24 = 1 := by kernel_rfl
  obtain ⟨ys, n', hn', hy, hlen, hyl, hf⟩ := DataW.trod_struct Tryz.underlying26 h
  have t0 := hf 0 _ rfl
  have t1 := hf 1 _ rfl
  have t2 := hf 2 _ rfl
  have t3 := hf 3 _ rfl
  have t4 := hf 4 _ rfl
  have t5 := hf 5 _ rfl
  match ys, hyl with
  | [y0, y1, y2, y3, y4, y5], _ =>
    have t0' : DataW.trod enc Tryz.prog W 0 (fun _ => true) true n' 22 [e0] = some y0 := by simpa [hcn] using t0
    have t1' : DataW.trod enc Tryz.prog W 0 (fun _ => true) true n' 22 [e1] = some y1 := by simpa [hcn] using t1
    have t2' : DataW.trod enc Tryz.prog W 0 (fun _ => true) true n' 22 [e2] = some y2 := by simpa [hcn] using t2
    have t3' : DataW.trod enc Tryz.prog W 0 (fun _ => true) true n' 22 [e3] = some y3 := by simpa [hcn] using t3
    have t4' : DataW.trod enc Tryz.prog W 0 (fun _ => true) true n' 23 [e4] = some y4 := by simpa [hcr] using t4
    have t5' : DataW.trod enc Tryz.prog W 0 (fun _ => true) true n' 24 [e5] = some y5 := by simpa [hci] using t5
    obtain ⟨l0, a0, b0⟩ := nmdsG_of_trod t0'
    obtain ⟨l1, a1, b1⟩ := nmdsG_of_trod t1'
    obtain ⟨l2, a2, b2⟩ := nmdsG_of_trod t2'
    obtain ⟨l3, a3, b3⟩ := nmdsG_of_trod t3'
    obtain ⟨l4, a4, b4, c4⟩ := rts_of_trod t4'
    obtain ⟨l5, a5, b5, c5⟩ := ihs_of_trod t5'
    exact ⟨⟨e0, e1, e2, e3, e4, e5⟩, ⟨l0, l1, l2, l3, l4, l5⟩, rfl, ⟨a0, a1, a2, a3, a4, a5⟩, ⟨b0, b1, b2, b3, b4, c4, b5, c5⟩⟩
end Go.Proofs.YtipnhpfpppblhaaGreat

/- lychgateref08.Cut on a policy that is known whole. -/
namespace Go.Proofs.YtipnhpfpppblhaaGreat
open Go.RowKit Go.WideShapes Go.ChangeShapes Go.Deep
def PD.cut (p : PD) : PD := ⟨p.so.take 14, p.re.take 14, p.pe.take 14, p.ra.take 14, p.ro.take 14, p.ih.take 14⟩
theorem nmdG_take {w : World} {a : Option Addr} {c : Nat} {l : List Nmd} (h : NmdsAt w (.slice a l.length c) l) : NmdsAt w (.slice a (l.take 14).length c) (l.take 14) := by
  unfold NmdsAt at *
  rw [nmdCells_eq] at *
  have := rdG_take (f := nmdC) (fun _ => rfl) h 14
  rwa [show min l.length 14 = (l.take 14).length by rw [List.length_take, Nat.min_comm]] at this
theorem wide_take {l : List Nmd} (h : NmdWide l) : NmdWide (l.take 14) := ⟨by rw [List.length_take]; have := h.1; omega, fun x hx => h.2.1 x (List.mem_of_mem_take hx), fun x hx => h.2.2 x (List.mem_of_mem_take hx)⟩
theorem cutD_fit {p : PD} (h : PolFitD p) : PolFitD p.cut :=
  ⟨wide_take h.h0, wide_take h.h1, wide_take h.h2, wide_take h.h3, (by show (p.ro.take 14).length ≤ _; rw [List.length_take]; have := h.l4; omega), fun r hr => h.h4 r (List.mem_of_mem_take hr), (by show (p.ih.take 14).length ≤ _; rw [List.length_take]; have := h.l5; omega), fun r hr => h.h5 r (List.mem_of_mem_take hr)⟩
structure PA where
  a0 : Option Addr
  c0 : Nat
  a1 : Option Addr
  c1 : Nat
  a2 : Option Addr
  c2 : Nat
  a3 : Option Addr
  c3 : Nat
  a4 : Option Addr
  c4 : Nat
  a5 : Option Addr
  c5 : Nat
abbrev PA.pv (x : PA) (p : PD) : PV := ⟨.slice x.a0 p.so.length x.c0, .slice x.a1 p.re.length x.c1, .slice x.a2 p.pe.length x.c2, .slice x.a3 p.ra.length x.c3, .slice x.a4 p.ro.length x.c4, .slice x.a5 p.ih.length x.c5⟩
theorem pol_shape {w : World} {v : PV} {p : PD} (h : PolAt w v p) : ∃ x : PA, v = x.pv p ∧ p.so.length ≤ x.c0 ∧ p.re.length ≤ x.c1 ∧ p.pe.length ≤ x.c2 ∧ p.ra.length ≤ x.c3 ∧ p.ro.length ≤ x.c4 ∧ p.ih.length ≤ x.c5 := by
  obtain ⟨v0, v1, v2, v3, v4, v5⟩ := v
  obtain ⟨a0, c0, e0, l0, _⟩ := RdAt.shape h.h0
  obtain ⟨a1, c1, e1, l1, _⟩ := RdAt.shape h.h1
  obtain ⟨a2, c2, e2, l2, _⟩ := RdAt.shape h.h2
  obtain ⟨a3, c3, e3, l3, _⟩ := RdAt.shape h.h3
  obtain ⟨a4, c4, e4, l4, _⟩ := RdAt.shape h.h4.1
  obtain ⟨a5, c5, e5, l5, _⟩ := RdAt.shape h.h5.1
  dsimp only at e0 e1 e2 e3 e4 e5
  subst e0 e1 e2 e3 e4 e5
  exact ⟨⟨a0, c0, a1, c1, a2, c2, a3, c3, a4, c4, a5, c5⟩, rfl, l0, l1, l2, l3, l4, l5⟩
theorem pol_cut {w : World} {x : PA} {p : PD} (h : PolAt w (x.pv p) p) : PolAt w (x.pv p.cut) p.cut := by
  refine ⟨nmdG_take h.h0, nmdG_take h.h1, nmdG_take h.h2, nmdG_take h.h3, ⟨?_, fun r hr => h.h4.2 r (List.mem_of_mem_take hr)⟩, ⟨?_, fun r hr => h.h5.2 r (List.mem_of_mem_take hr)⟩⟩
  · have := rdG_take (f := rtC) rtC_len h.h4.1 14
    rwa [show min p.ro.length 14 = (p.ro.take 14).length by rw [List.length_take, Nat.min_comm]] at this
  · have := rdG_take (f := ihC) ihC_len h.h5.1 14
    rwa [show min p.ih.length 14 = (p.ih.take 14).length by rw [List.length_take, Nat.min_comm]] at this
/-! ### capacities -/
def PCap (x : PV) : Prop := (∃ a n c, x.v0 = .slice a n c ∧ c ≤ maxLen) ∧ (∃ a n c, x.v1 = .slice a n c ∧ c ≤ maxLen) ∧ (∃ a n c, x.v2 = .slice a n c ∧ c ≤ maxLen) ∧ (∃ a n c, x.v3 = .slice a n c ∧ c ≤ maxLen) ∧ (∃ a n c, x.v4 = .slice a n c ∧ c ≤ maxLen) ∧ (∃ a n c, x.v5 = .slice a n c ∧ c ≤ maxLen)
section
variable {H : Type} {enc : TypeId × Value → H} {P : Program} {w : World} {base : Nat} {spare : Nat → Bool} {held : Bool}
theorem slice_of_trodC {t e : TypeId} {fuel : Nat} {v : Value} {x : DataW H × List MemPlace} (ht : P.underlying t = some (.slice e)) (h : DataW.trod enc P w base spare held fuel t [v] = some x) :
    ∃ a n c, v = .slice a n c ∧ c ≤ maxLen := by
  rcases open_slice ht h with ⟨h0, _⟩ | ⟨a, len, cap, m, n, D, Pl, hcs, hb, hl, hm, hmm, hx, hi⟩
  · cases h0; exact ⟨none, 0, 0, rfl, Nat.zero_le _⟩
  · cases hcs; exact ⟨some a, len, cap, rfl, hm⟩
end
def ArgPolC (w : World) (v : Value) (x : PV) (p : PD) : Prop := ArgPolD w v x p ∧ PCap x
set_option maxRecDepth 100000 in
theorem polC_of_arg {H : Type} {enc : TypeId × Value → H} {W : World} {base : Nat} {v : Value} {d : DataW H} {p : List MemPlace} (hval : Value.okWide Tryz.prog W .any base 26 v) (h : DataW.Trod enc Tryz.prog W 0 (fun _ => true) true 26 v d p) : ∃ x y, ArgPolC W v x y := by
  have hcn : Tryz.prog.cellsOf 22 = 1 := by kernel_rfl
  have hcr : Tryz.prog.cellsOf 23 = 1 := by kernel_rfl
  have hci : Tryz.prog.cellsOf 24 = 1 := by kernel_rfl
  obtain ⟨cs, rfl, hsz, _⟩ : ∃ cs, v = .agg cs ∧ cs.size = Tryz.prog.cellsOf 26 ∧ Row.okWide Tryz.prog W .any base 26 cs := by
    simpa [Value.okWide, Tryz.underlying26] using hval
  rw [show Tryz.prog.cellsOf 26 = 6 by kernel_rfl] at hsz
  obtain ⟨fuel, hf⟩ := h
  obtain ⟨l⟩ := cs
  match l, hsz with
  | [e0, e1, e2, e3, e4, e5], _ =>
    obtain ⟨x, y, hxy⟩ := polD_of_trod hf
    obtain ⟨ys, n', hn', hy, hlen, hyl, hg⟩ := DataW.trod_struct Tryz.underlying26 hf
    have t0 := hg 0 _ rfl
    have t1 := hg 1 _ rfl
    have t2 := hg 2 _ rfl
    have t3 := hg 3 _ rfl
    have t4 := hg 4 _ rfl
    have t5 := hg 5 _ rfl
    match ys, hyl with
    | [y0, y1, y2, y3, y4, y5], _ =>
      have s0 := slice_of_trodC Tryz.underlying22 (show DataW.trod enc Tryz.prog W 0 (fun _ => true) true n' 22 [e0] = some y0 by simpa [hcn, Value.cells] using t0)
      have s1 := slice_of_trodC Tryz.underlying22 (show DataW.trod enc Tryz.prog W 0 (fun _ => true) true n' 22 [e1] = some y1 by simpa [hcn, Value.cells] using t1)
      have s2 := slice_of_trodC Tryz.underlying22 (show DataW.trod enc Tryz.prog W 0 (fun _ => true) true n' 22 [e2] = some y2 by simpa [hcn, Value.cells] using t2)
      have s3 := slice_of_trodC Tryz.underlying22 (show DataW.trod enc Tryz.prog W 0 (fun _ => true) true n' 22 [e3] = some y3 by simpa [hcn, Value.cells] using t3)
      have s4 := slice_of_trodC Tryz.underlying23 (show DataW.trod enc Tryz.prog W 0 (fun _ => true) true n' 23 [e4] = some y4 by simpa [hcr, Value.cells] using t4)
      have s5 := slice_of_trodC Tryz.underlying24 (show DataW.trod enc Tryz.prog W 0 (fun _ => true) true n' 24 [e5] = some y5 by simpa [hci, Value.cells] using t5)
      refine ⟨x, y, hxy, ?_⟩
      have he := hxy.1
      obtain ⟨v0, v1, v2, v3, v4, v5⟩ := x
      simp only [PV.v, Value.agg.injEq, Array.mk.injEq, List.cons.injEq, and_true] at he
      obtain ⟨rfl, rfl, rfl, rfl, rfl, rfl⟩ := he
      exact ⟨s0, s1, s2, s3, s4, s5⟩
theorem rcutD_any (x : PA) (p : PD) (w : World) (h : PolAt w (x.pv p) p) (hc : PCap (x.pv p)) :
    Calls Tryz.prog 10 #[(x.pv p).v, .int .i64 14] w fun e w' => e = .returned (x.pv p.cut).v ∧ Below w.heap.size w w' := by
  have cap : ∀ {a : Option Addr} {n c : Nat}, (∃ a' n' c', Value.slice a n c = .slice a' n' c' ∧ c' ≤ maxLen) → c ≤ maxLen := by
    rintro a n c ⟨a', n', c', h1, h2⟩
    simp only [Value.slice.injEq] at h1
    rw [h1.2.2]; exact h2
  have le : ∀ {v : Value} {a : Option Addr} {n c k : Nat} {xs : List Value}, v = .slice a n c → RdAt w v n k xs → n ≤ c := by
    rintro v a n c k xs rfl h1
    obtain ⟨a', c', h2, h3, _⟩ := RdAt.shape h1
    simp only [Value.slice.injEq] at h2
    rw [h2.2.2]; exact h3
  obtain ⟨q0, q1, q2, q3, q4, q5⟩ := hc
  have hh := rcut_any x.a0 x.a1 x.a2 x.a3 x.a4 x.a5 p.so.length p.re.length p.pe.length p.ra.length p.ro.length p.ih.length x.c0 x.c1 x.c2 x.c3 x.c4 x.c5 w ⟨le rfl h.h0, cap q0⟩ ⟨le rfl h.h1, cap q1⟩ ⟨le rfl h.h2, cap q2⟩ ⟨le rfl h.h3, cap q3⟩ ⟨le rfl h.h4.1, cap q4⟩ ⟨le rfl h.h5.1, cap q5⟩
  refine hh.mono ?_
  rintro e w' ⟨rfl, hb⟩
  refine ⟨?_, hb⟩
  unfold PD.cut
  dsimp only [PA.pv, PV.v]
  simp only [List.length_take]
  rw [Nat.min_comm p.so.length, Nat.min_comm p.re.length, Nat.min_comm p.pe.length, Nat.min_comm p.ra.length, Nat.min_comm p.ro.length, Nat.min_comm p.ih.length]
end Go.Proofs.YtipnhpfpppblhaaGreat

/- inhibit.Quiet: a contract. -/
namespace Go.Proofs.YtipnhpfpppblhaaGreat
open Go.RowKit Go.Maps
def idxTo {α : Type} (f : α → Bool) (l : List α) (k : Nat) : List Int := ((List.range k).filter fun i => (l[i]?.map f).getD false).map fun (i : Nat) => (i : Int)
def idxF {α : Type} (f : α → Bool) (l : List α) : List Int := idxTo f l l.length
theorem idxTo_step {α : Type} (f : α → Bool) (l : List α) {k : Nat} (h : k < l.length) : idxTo f l (k + 1) = idxTo f l k ++ (if f l[k] then [(k : Int)] else []) := by
  unfold idxTo
  rw [List.range_succ, List.filter_append, List.map_append]
  congr 1
  rw [List.filter_cons, List.getElem?_eq_getElem h]
  cases hf : f l[k] <;> simp [hf]
theorem idxTo_len {α : Type} (f : α → Bool) (l : List α) (k : Nat) : (idxTo f l k).length ≤ k := by
  unfold idxTo
  rw [List.length_map]
  exact Nat.le_trans (List.length_filter_le _ _) (by simp)
noncomputable def ruleQ (ra : List Nmd) (l : List (Al × Value)) (a : Al) (t : Int × Nat) (now : Int) (x : PIh) : Bool := flowsL x.lv x.c t.1 t.2 && byM x l (idA a) (cutAl ra a t).fl now
noncomputable def quietX (p : PD) (l : List (Al × Value)) (a : Al) (t : Int × Nat) (now : Int) : List Int := if rightA a && decide (checkP p = 0) && cutOk p.ra a.fl (a.lv, a.c) t then idxF (ruleQ p.ra l a t now) p.ih else []
noncomputable def quietK (p : PD) (l : List (Al × Value)) (k : Int) (t : Int × Nat) (now : Int) : List Int := if 0 ≤ k then (match l[k.toNat]? with | some a => quietX p l a.1 t now | none => []) else []
theorem quietK_neg {p : PD} {l : List (Al × Value)} {k : Int} {t : Int × Nat} {now : Int} (h : k < 0) : quietK p l k t now = [] := by unfold quietK; rw [if_neg (by omega)]
theorem quietK_far {p : PD} {l : List (Al × Value)} {k : Int} {t : Int × Nat} {now : Int} (h : (l.length : Int) ≤ k) : quietK p l k t now = [] := by unfold quietK; rw [if_pos (by omega), List.getElem?_eq_none (by omega)]
theorem quietK_at {p : PD} {l : List (Al × Value)} {j : Nat} {t : Int × Nat} {now : Int} (h : j < l.length) : quietK p l (j : Int) t now = quietX p l l[j].1 t now := by unfold quietK; rw [if_pos (by omega), Int.toNat_natCast, List.getElem?_eq_getElem h]
theorem check_zero {p : PD} (h : checkP p = 0) : p.ih.length ≤ 12 ∧ ∀ x ∈ p.ih, badIh x = false := by
  unfold checkP at h
  split at h
  · cases h
  · rename_i hl
    split at h
    · cases h
    · split at h
      · cases h
      · split at h
        · cases h
        · rename_i hi
          refine ⟨(longs_no (by simpa using hl)).2, fun x hx => ?_⟩
          rw [Bool.not_eq_true, List.any_eq_false] at hi
          simpa using hi x hx
structure QPt (w : World) (v0 v1 v2 v3 v4 v5 : Value) (tl : Int) (tc : Nat) (W : World) : Prop where
  p : C6 w.heap.size v0 v1 v2 v3 v4 v5 W
  t0 : W.cell? ⟨w.heap.size + 1, 0, none⟩ = some (.int .i64 tl)
  t1 : W.cell? ⟨w.heap.size + 1, 1, none⟩ = some (.int .u32 tc)
  ge : w.heap.size + 1 < W.heap.size
  below : Below w.heap.size w W
theorem QPt.later {w W W' : World} {v0 v1 v2 v3 v4 v5 : Value} {tl : Int} {tc : Nat} (h : QPt w v0 v1 v2 v3 v4 v5 tl tc W) (hb : Below W.heap.size W W') : QPt w v0 v1 v2 v3 v4 v5 tl tc W' := by
  have h1 := h.ge
  exact ⟨h.p.later hb (by omega), keep_cell h.t0 hb h1, keep_cell h.t1 hb h1, Nat.lt_of_lt_of_le h1 hb.size, h.below.trans (hb.mono h.below.size)⟩
theorem QPt.grown {w W W' : World} {row : Option Nat} {v0 v1 v2 v3 v4 v5 : Value} {tl : Int} {tc : Nat} (h : QPt w v0 v1 v2 v3 v4 v5 tl tc W) (hg : W.grownBy W' row) (hr : ∀ r, row = some r → w.heap.size + 1 < r) : QPt w v0 v1 v2 v3 v4 v5 tl tc W' := by
  have n0 : ∀ b, b ≤ w.heap.size + 1 → some b ≠ row := fun b hb e => by have := hr b e.symm; omega
  obtain ⟨⟨a0, a1, a2, a3, a4, a5⟩, t0, t1, ge, hb⟩ := h
  exact ⟨⟨hg.cell a0 (n0 w.heap.size (by omega)), hg.cell a1 (n0 w.heap.size (by omega)), hg.cell a2 (n0 w.heap.size (by omega)), hg.cell a3 (n0 w.heap.size (by omega)), hg.cell a4 (n0 w.heap.size (by omega)), hg.cell a5 (n0 w.heap.size (by omega))⟩, hg.cell t0 (n0 (w.heap.size + 1) (by omega)), hg.cell t1 (n0 (w.heap.size + 1) (by omega)), Nat.lt_of_lt_of_le ge hg.size, hb.grown hg hb.size (fun r e => by have := hr r e; omega)⟩
theorem qpt_new (w : World) (v0 v1 v2 v3 v4 v5 : Value) (tl : Int) (tc : Nat) (s t : TypeId) : QPt w v0 v1 v2 v3 v4 v5 tl tc ((w.alloc (.cells #[v0, v1, v2, v3, v4, v5] s)).alloc (.cells #[.int .i64 tl, .int .u32 tc] t)) := by
  obtain ⟨W1, h1⟩ : ∃ z, w.alloc (.cells #[v0, v1, v2, v3, v4, v5] s) = z := ⟨_, rfl⟩
  obtain ⟨W2, h2⟩ : ∃ z, W1.alloc (.cells #[.int .i64 tl, .int .u32 tc] t) = z := ⟨_, rfl⟩
  rw [h1, h2]
  have s1 : W1.heap.size = w.heap.size + 1 := by rw [← h1, World.size_alloc]
  have b1 : Below w.heap.size w W1 := by rw [← h1]; exact alloc_below _ _
  have b2 : Below W1.heap.size W1 W2 := by rw [← h2]; exact alloc_below _ _
  have hc0 : W2.cell? ⟨W1.heap.size, 0, none⟩ = some (.int .i64 tl) := by rw [← h2]; exact World.cell?_alloc_at _ _ _ _ rfl
  have hc1 : W2.cell? ⟨W1.heap.size, 1, none⟩ = some (.int .u32 tc) := by rw [← h2]; exact World.cell?_alloc_at _ _ _ _ rfl
  have x6 : C6 w.heap.size v0 v1 v2 v3 v4 v5 W1 := by rw [← h1]; exact box6n w _ _ _ _ _ _ _
  refine ⟨x6.later b2 (by omega), by rw [← s1]; exact hc0, by rw [← s1]; exact hc1, by rw [← h2, World.size_alloc]; omega, b1.trans (b2.mono (by omega))⟩
theorem cutAl_in {rs : List Nmd} {x m : Al} {t : Int × Nat} (h : cutAl rs x t = m) : (∀ f ∈ m.fl, f ∈ x.fl) ∧ m.fl.length ≤ x.fl.length := by
  rw [← h]
  unfold cutAl
  split
  · exact ⟨fun f hf => (List.mem_filter.1 hf).1, vis_le _ _ _ _⟩
  · exact ⟨fun f hf => (by cases hf), Nat.zero_le _⟩
theorem infoInt13 : (Tryz.prog.info? 3).map (fun i => (i.zero, i.size, i.bytes)) = some (some (.int .i64 0), 1, 8) := by kernel_rfl
set_option maxHeartbeats 6400000 in
set_option maxRecDepth 100000 in
theorem iquiet_any (v : PV) (p : PD) (l : List (Al × Value)) (lv : Value) (k : Int) (tl : Int) (tc : Nat) (now : Int) (w : World) (hp : PolAt w v p) (hpf : PolFitD p) (hl : AlsAt w lv l) (hlen : l.length ≤ maxLen) :
    Calls Tryz.prog 13 #[v.v, lv, .int .i64 k, Lab tl tc, .int .i64 now] w fun e w' => ∃ r, e = .returned r ∧ w'.ownsRow w.heap.size 3 1 r (quietK p l k (tl, tc) now).length ((quietK p l k (tl, tc) now).map I) ∧ Below w.heap.size w w' := by
  have kk := fun W (h : Below w.heap.size w W) => pcheck_any v p W (hp.later h) hpf
  have KBY := Lib.hid (fun (x : PIh) (hx : x ∈ p.ih) (hok : badIh x = false) (id : Int) (c : Al) (fa : Option Addr) (fc : Nat) (W : World) (h : Below w.heap.size w W) (hc : FldsAt W (.slice fa c.fl.length fc) c.fl) (hcf : FldsFit c.fl) (hcl : c.fl.length ≤ 8) => by_any x l id c lv fa fc now W ((hp.h5.2 x hx).later h) (hpf.h5 x hx) hok (hl.later h) hlen hc hcf (by omega))
  have KCHK := Lib.hid (check_zero (p := p))
  obtain ⟨v0, v1, v2, v3, v4, v5⟩ := v
  obtain ⟨h0, h1, h2, h3, ⟨h4, _⟩, h5, h5b⟩ := hp
  have KFI := Lib.hid hpf.h5
  dsimp only at h0 h1 h2 h3 h4 h5 kk
  obtain ⟨a0, c0, rfl, _, _⟩ := RdAt.shape h0
  obtain ⟨a1, c1, rfl, _, _⟩ := RdAt.shape h1
  obtain ⟨a2, c2, rfl, _, _⟩ := RdAt.shape h2
  obtain ⟨a3, c3, rfl, _, _⟩ := RdAt.shape h3
  obtain ⟨a4, c4, rfl, _, _⟩ := RdAt.shape h4
  obtain ⟨a5, c5, rfl, _, hir⟩ := RdAt.shape h5
  have KIR := Lib.hid hir
  have KIN := Lib.hid h5b
  obtain ⟨i0, hi, hz0, hz1, hz2⟩ := info_parts infoInt13
  clear hir h5b
  obtain ⟨la, lc, rfl, hlc, hlr⟩ := RdAt.shape hl.row
  have HLR := Lib.hid hlr
  have HFL := Lib.hid hl.fld
  have KCUT : Hid (∀ (x m : Al) (ok : Bool) (fa : Option Addr) (fc : Nat) (W : World), Below w.heap.size w W → FldsAt W (.slice fa x.fl.length fc) x.fl → x.fl.length ≤ 8 → cutOk p.ra x.fl (x.lv, x.c) (tl, tc) = ok → cutAl p.ra x (tl, tc) = m →
      Calls Tryz.prog 20 #[.agg #[.slice a0 p.so.length c0, .slice a1 p.re.length c1, .slice a2 p.pe.length c2, .slice a3 p.ra.length c3, .slice a4 p.ro.length c4, .slice a5 p.ih.length c5], .agg #[.string x.src, .slice fa x.fl.length fc, .int .i64 x.lv, .int .u32 x.c, .int .i64 x.fr, .int .i64 x.til], Lab tl tc] W fun e w' =>
        ∃ pa pc, e = .returned (.tuple #[.agg #[.string m.src, .slice pa m.fl.length pc, .int .i64 m.lv, .int .u32 m.c, .int .i64 m.fr, .int .i64 m.til], .bool ok]) ∧ FldsAt w' (.slice pa m.fl.length pc) m.fl ∧ (∀ q, (Value.slice pa m.fl.length pc).ownBlock = some q → W.heap.size ≤ q) ∧ Below W.heap.size W w') :=
    Lib.hid (fun x m ok fa fc W hW hF hx hok hm => cut_l (a0, p.so.length, c0) (a1, p.re.length, c1) (a2, p.pe.length, c2) (a4, p.ro.length, c4) (a5, p.ih.length, c5) p.ra (.slice a3 p.ra.length c3) x (.slice fa x.fl.length fc) (tl, tc) m ok W (h3.later hW) hpf.h3.1 hF (by omega) hok hm)
  have KK := Lib.hid kk
  obtain ⟨W0, hW0⟩ : ∃ z, (w.alloc (.cells #[.slice a0 p.so.length c0, .slice a1 p.re.length c1, .slice a2 p.pe.length c2, .slice a3 p.ra.length c3, .slice a4 p.ro.length c4, .slice a5 p.ih.length c5] 26)).alloc (.cells #[.int .i64 tl, .int .u32 tc] 36) = z := ⟨_, rfl⟩
  have HS0 : Hid (QPt w (.slice a0 p.so.length c0) (.slice a1 p.re.length c1) (.slice a2 p.pe.length c2) (.slice a3 p.ra.length c3) (.slice a4 p.ro.length c4) (.slice a5 p.ih.length c5) tl tc W0) := Lib.hid (by rw [← hW0]; exact qpt_new w _ _ _ _ _ _ _ _ _ _)
  have HW0 := Lib.hid hW0
  unfold maxLen at hlen
  clear kk h0 h1 h2 h3 h4 h5 hW0 hlr
  go_enter Tryz.func13, Tryz.ntmps13
  go_upto_region 1 with fail
  rw [HW0.out]
  clear HW0
  by_cases hk0 : k < 0
  · have HQ : Hid (quietK p l k (tl, tc) now = []) := Lib.hid (quietK_neg hk0)
    go_wp2
    go_ret
    exact ⟨_, rfl, by rw [HQ.out]; exact World.ownsRow_nil _ _ _ _, HS0.out.below⟩
  by_cases hk1 : (l.length : Int) ≤ k
  · have HQ : Hid (quietK p l k (tl, tc) now = []) := Lib.hid (quietK_far hk1)
    go_wp2
    go_ret
    exact ⟨_, rfl, by rw [HQ.out]; exact World.ownsRow_nil _ _ _ _, HS0.out.below⟩
  obtain ⟨j, rfl⟩ : ∃ j : Nat, k = (j : Int) := ⟨k.toNat, by omega⟩
  have hj : j < l.length := by omega
  have HQ : Hid (quietK p l (j : Int) (tl, tc) now = quietX p l l[j].1 (tl, tc) now) := Lib.hid (quietK_at hj)
  obtain ⟨hfk, hfit⟩ := HFL.out _ (List.getElem_mem hj)
  have hQX : quietX p l l[j].1 (tl, tc) now = if rightA l[j].1 && decide (checkP p = 0) && cutOk p.ra l[j].1.fl (l[j].1.lv, l[j].1.c) (tl, tc) then idxF (ruleQ p.ra l l[j].1 (tl, tc) now) p.ih else [] := rfl
  rw [hQX] at HQ
  clear hQX
  obtain ⟨b, o, rfl, hbl, hcell⟩ := HLR.out (by omega)
  have hat := alCells_at l j hj
  have e0 := hcell _ _ (hat 0 _ rfl)
  have e1 := hcell _ _ (hat 1 _ rfl)
  have e2 := hcell _ _ (hat 2 _ rfl)
  have e3 := hcell _ _ (hat 3 _ rfl)
  have e4 := hcell _ _ (hat 4 _ rfl)
  have e5 := hcell _ _ (hat 5 _ rfl)
  rw [Nat.add_zero] at e0
  rw [← Nat.add_assoc] at e1 e2 e3 e4 e5
  have HX : Hid (l[j] = l[j]) := rfl
  generalize l[j] = y at *
  obtain ⟨⟨src, fl, alv, ac, fr, til⟩, fv⟩ := y
  dsimp only at *
  obtain ⟨fa, fc, rfl, hfc, _⟩ := RdAt.shape hfk
  have HE := Lib.hid (And.intro e0 (And.intro e1 (And.intro e2 (And.intro e3 (And.intro e4 e5)))))
  have HFK := Lib.hid hfk
  have HFIT := Lib.hid hfit
  have hk2 : (0 : Int) ≤ (j : Int) := by omega
  have hk3 : (j : Int) < (l.length : Int) := by omega
  have KEEP : Hid (∀ {q : Nat} {u : Value} {V : World}, w.cell? ⟨b, q, none⟩ = some u → Below w.heap.size w V → V.cell? ⟨b, q, none⟩ = some u) := Lib.hid (fun h hV => keep_cell h hV hbl)
  obtain ⟨p0, p1, p2, p3, p4, p5⟩ := HE.out
  have p0 := KEEP.out p0 HS0.out.below
  have p1 := KEEP.out p1 HS0.out.below
  have p2 := KEEP.out p2 HS0.out.below
  have p3 := KEEP.out p3 HS0.out.below
  have p4 := KEEP.out p4 HS0.out.below
  have p5 := KEEP.out p5 HS0.out.below
  have kr := aright_any src fl alv ac fr til _ W0 hfit.src (hfk.later HS0.out.below) hfit.fl hfit.len
  have hR : rightA ⟨src, fl, alv, ac, fr, til⟩ = (whoA src fl alv && beginsA fr && endsA fr til) := rfl
  rw [← hR] at kr
  have HR8 : Hid (rightA ⟨src, fl, alv, ac, fr, til⟩ = true → fl.length ≤ 8 ∧ (idB src fl).length ≤ 4000000) := Lib.hid (fun h => ⟨rightA_len h, idB_bound (rightA_who h)⟩)
  clear hR e0 e1 e2 e3 e4 e5 hcell hat hfk hfit HX
  cases hra : rightA ⟨src, fl, alv, ac, fr, til⟩
  · rw [hra] at kr HQ
    have HN : Hid (quietK p l (j : Int) (tl, tc) now = []) := Lib.hid (by rw [HQ.out]; rfl)
    clear hra HR8
    go_wp2_with fail
    refine kr.mono ?_
    rintro e w1 ⟨rfl, hb1⟩
    have HB := Lib.hid (HS0.out.below.trans (hb1.mono HS0.out.below.size))
    clear kr hb1 p0 p1 p2 p3 p4 p5
    go_wp2
    go_ret
    exact ⟨_, rfl, by rw [HN.out]; exact World.ownsRow_nil _ _ _ _, HB.out⟩
  rw [hra] at kr HQ
  obtain ⟨hr8, hid8⟩ := HR8.out hra
  have HID8 := Lib.hid hid8
  clear HR8 hid8
  go_wp2_with fail
  refine kr.mono ?_
  rintro e w1 ⟨rfl, hb1⟩
  have HS1 := Lib.hid (HS0.out.later hb1)
  clear kr hb1 p0 p1 p2 p3 p4 p5 HS0
  obtain ⟨q0, q1, q2, q3, q4, q5⟩ := HS1.out.p
  have kk := KK.out w1 HS1.out.below
  cases hck : decide (checkP p = 0)
  · have hne : checkP p ≠ 0 := of_decide_eq_false hck
    rw [hck] at HQ
    have HN : Hid (quietK p l (j : Int) (tl, tc) now = []) := Lib.hid (by rw [HQ.out]; rfl)
    generalize checkP p = ck at *
    go_wp2_with fail
    refine kk.mono ?_
    rintro e w2 ⟨rfl, hb2⟩
    have HB := Lib.hid (HS1.out.below.trans (hb2.mono HS1.out.below.size))
    clear kk hb2 q0 q1 q2 q3 q4 q5
    go_wp2
    go_ret
    exact ⟨_, rfl, by rw [HN.out]; exact World.ownsRow_nil _ _ _ _, HB.out⟩
  have hck0 : checkP p = 0 := of_decide_eq_true hck
  rw [hck] at HQ
  rw [hck0] at kk
  have HCK := Lib.hid (KCHK.out hck0)
  clear hck hck0 KCHK
  go_wp2_with fail
  refine kk.mono ?_
  rintro e w2 ⟨rfl, hb2⟩
  have HS2 := Lib.hid (HS1.out.later hb2)
  clear kk hb2 q0 q1 q2 q3 q4 q5 HS1 KK
  go_upto_region 3 with fail
  obtain ⟨m, hm⟩ : ∃ m, cutAl p.ra ⟨src, fl, alv, ac, fr, til⟩ (tl, tc) = m := ⟨_, rfl⟩
  obtain ⟨ok, hok⟩ : ∃ z, cutOk p.ra fl (alv, ac) (tl, tc) = z := ⟨_, rfl⟩
  have hru : ∀ x, ruleQ p.ra l ⟨src, fl, alv, ac, fr, til⟩ (tl, tc) now x = (flowsL x.lv x.c tl tc && byM x l (shortL (idB src fl)) (cutAl p.ra ⟨src, fl, alv, ac, fr, til⟩ (tl, tc)).fl now) := fun x => rfl
  rw [hm] at hru
  have HIN := Lib.hid (cutAl_in hm)
  have CM0 := Lib.hid (fun W (h : Below w.heap.size w W) => KCUT.out ⟨src, fl, alv, ac, fr, til⟩ m ok fa fc W h (HFK.out.later h) hr8 hok hm)
  rw [hok] at HQ
  obtain ⟨us, uL, ql, qc, uf, ut⟩ := m
  dsimp only at CM0 HIN hru
  have HRU := Lib.hid hru
  generalize ruleQ p.ra l ⟨src, fl, alv, ac, fr, til⟩ (tl, tc) now = F at *
  have CM := Lib.hid (fun W (h : Below w2.heap.size w2 W) => CM0.out W (HS2.out.below.trans (h.mono HS2.out.below.size)))
  have hlq : w.heap.size < w2.heap.size := by have := HS2.out.ge; omega
  have hlt : w.heap.size + 1 < w2.heap.size := HS2.out.ge
  have hlb : b < w2.heap.size := by omega
  obtain ⟨p0, p1, p2, p3, p4, p5⟩ := HE.out
  have p0 := KEEP.out p0 HS2.out.below
  have p1 := KEEP.out p1 HS2.out.below
  have p2 := KEEP.out p2 HS2.out.below
  have p3 := KEEP.out p3 HS2.out.below
  have p4 := KEEP.out p4 HS2.out.below
  have p5 := KEEP.out p5 HS2.out.below
  obtain ⟨q0, q1, q2, q3, q4, q5⟩ := HS2.out.p
  have t0 := HS2.out.t0
  have t1 := HS2.out.t1
  clear hru hm hok KCUT CM0
  go_cut [11, 12] (fun s11 s12 wx => ∃ gu ua ud, s11 = .pointer (some ⟨gu, 0, none⟩) ∧ s12 = .bool ok ∧ C6 gu (.string us) (.slice ua uL.length ud) (.int .i64 ql) (.int .u32 qc) (.int .i64 uf) (.int .i64 ut) wx ∧ FldsAt wx (.slice ua uL.length ud) uL ∧ gu < wx.heap.size ∧ Below w2.heap.size w2 wx)
  case first =>
    refine wp_region_held_drew (S := (fun W => W.cell? ⟨w.heap.size, 0, none⟩ = some (.slice a0 p.so.length c0) ∧ W.cell? ⟨w.heap.size, 1, none⟩ = some (.slice a1 p.re.length c1) ∧ W.cell? ⟨w.heap.size, 2, none⟩ = some (.slice a2 p.pe.length c2) ∧ W.cell? ⟨w.heap.size, 3, none⟩ = some (.slice a3 p.ra.length c3) ∧ W.cell? ⟨w.heap.size, 4, none⟩ = some (.slice a4 p.ro.length c4) ∧ W.cell? ⟨w.heap.size, 5, none⟩ = some (.slice a5 p.ih.length c5) ∧ W.cell? ⟨b, o + j * 6, none⟩ = some (.string src) ∧ W.cell? ⟨b, o + j * 6 + 1, none⟩ = some (.slice fa fl.length fc) ∧ W.cell? ⟨b, o + j * 6 + 2, none⟩ = some (.int .i64 alv) ∧ W.cell? ⟨b, o + j * 6 + 3, none⟩ = some (.int .u32 ac) ∧ W.cell? ⟨b, o + j * 6 + 4, none⟩ = some (.int .i64 fr) ∧ W.cell? ⟨b, o + j * 6 + 5, none⟩ = some (.int .i64 til) ∧ W.cell? ⟨w.heap.size + 1, 0, none⟩ = some (.int .i64 tl) ∧ W.cell? ⟨w.heap.size + 1, 1, none⟩ = some (.int .u32 tc))) (by kernel_rfl) ⟨q0, q1, q2, q3, q4, q5, p0, p1, p2, p3, p4, p5, t0, t1⟩ (fun hHeld => ?_)
    have hd : Below w2.heap.size w2 w2.drew := (Below.refl _ _).drew
    generalize w2.drew = wd at *
    refine held_take (i := 0) (v := ?_) rfl rfl (by kernel_rfl) (by kernel_rfl) (by kernel_rfl) (fun _ _ _ h => h) (by rfl) hHeld ?_ ?_
    rotate_left
    · rintro wh ⟨z0, z1, z2, z3, z4, z5, z6, z7, z8, z9, z10, z11, z12, z13⟩
      go_simp
      (try with_reducible rfl)
    simp only [Act.put, List.setIfInBounds_toArray, List.set_cons_zero, List.set_cons_succ]
    refine held_take (i := 1) (v := ?_) rfl rfl (by kernel_rfl) (by kernel_rfl) (by kernel_rfl) (fun _ _ _ h => h) (by rfl) hHeld ?_ ?_
    rotate_left
    · rintro wh ⟨z0, z1, z2, z3, z4, z5, z6, z7, z8, z9, z10, z11, z12, z13⟩
      go_simp
      (try with_reducible rfl)
    simp only [Act.put, List.setIfInBounds_toArray, List.set_cons_zero, List.set_cons_succ]
    refine held_take (i := 2) (v := ?_) rfl rfl (by kernel_rfl) (by kernel_rfl) (by kernel_rfl) (fun _ _ _ h => h) (by rfl) hHeld ?_ ?_
    rotate_left
    · rintro wh ⟨z0, z1, z2, z3, z4, z5, z6, z7, z8, z9, z10, z11, z12, z13⟩
      go_simp
      (try with_reducible rfl)
    simp only [Act.put, List.setIfInBounds_toArray, List.set_cons_zero, List.set_cons_succ]
    refine held_take (i := 3) (v := ?_) rfl rfl (by kernel_rfl) (by kernel_rfl) (by kernel_rfl) (fun _ _ _ h => h) (by rfl) hHeld ?_ ?_
    rotate_left
    · rintro wh ⟨z0, z1, z2, z3, z4, z5, z6, z7, z8, z9, z10, z11, z12, z13⟩
      go_simp
      (try with_reducible rfl)
    simp only [Act.put, List.setIfInBounds_toArray, List.set_cons_zero, List.set_cons_succ]
    refine held_take (i := 4) (v := ?_) rfl rfl (by kernel_rfl) (by kernel_rfl) (by kernel_rfl) (fun _ _ _ h => h) (by rfl) hHeld ?_ ?_
    rotate_left
    · rintro wh ⟨z0, z1, z2, z3, z4, z5, z6, z7, z8, z9, z10, z11, z12, z13⟩
      go_simp
      (try with_reducible rfl)
    simp only [Act.put, List.setIfInBounds_toArray, List.set_cons_zero, List.set_cons_succ]
    refine held_take (i := 5) (v := ?_) rfl rfl (by kernel_rfl) (by kernel_rfl) (by kernel_rfl) (fun _ _ _ h => h) (by rfl) hHeld ?_ ?_
    rotate_left
    · rintro wh ⟨z0, z1, z2, z3, z4, z5, z6, z7, z8, z9, z10, z11, z12, z13⟩
      go_simp
      (try with_reducible rfl)
    simp only [Act.put, List.setIfInBounds_toArray, List.set_cons_zero, List.set_cons_succ]
    refine held_two (i := 6) (j := 10) rfl rfl (by kernel_rfl) (fun K hK => ?_) (fun K hK => ?_)
    · go_simp; go_at_call 20; refine (CM.out _ hd).mono ?_; rintro e w_1 ⟨ua, ud, rfl, hF_1, hO_1, hb_1⟩
      have hB_1 := hd.trans (hb_1.mono hd.size)
      refine hK.out _ _ ⟨keep_cell q0 hB_1 hlq, keep_cell q1 hB_1 hlq, keep_cell q2 hB_1 hlq, keep_cell q3 hB_1 hlq, keep_cell q4 hB_1 hlq, keep_cell q5 hB_1 hlq, keep_cell p0 hB_1 hlb, keep_cell p1 hB_1 hlb, keep_cell p2 hB_1 hlb, keep_cell p3 hB_1 hlb, keep_cell p4 hB_1 hlb, keep_cell p5 hB_1 hlb, keep_cell t0 hB_1 hlt, keep_cell t1 hB_1 hlt⟩ (fun hHeld => ?_)
      clear hK K
      (try simp only [Act.put, List.setIfInBounds_toArray, List.set_cons_zero, List.set_cons_succ])
      refine held_take (i := 7) (v := ?_) rfl rfl (by kernel_rfl) (by kernel_rfl) (by kernel_rfl) (fun _ _ _ h => h) (by rfl) hHeld ?_ ?_
      rotate_left
      · rintro wh ⟨z0, z1, z2, z3, z4, z5, z6, z7, z8, z9, z10, z11, z12, z13⟩
        go_simp
        (try with_reducible rfl)
      simp only [Act.put, List.setIfInBounds_toArray, List.set_cons_zero, List.set_cons_succ]
      refine held_take (i := 8) (v := ?_) rfl rfl (by kernel_rfl) (by kernel_rfl) (by kernel_rfl) (fun _ _ _ h => h) (by rfl) hHeld ?_ ?_
      rotate_left
      · rintro wh ⟨z0, z1, z2, z3, z4, z5, z6, z7, z8, z9, z10, z11, z12, z13⟩
        go_simp
        (try with_reducible rfl)
      simp only [Act.put, List.setIfInBounds_toArray, List.set_cons_zero, List.set_cons_succ]
      refine held_take (i := 9) (v := ?_) rfl rfl (by kernel_rfl) (by kernel_rfl) (by kernel_rfl) (fun _ _ _ h => h) (by rfl) hHeld ?_ ?_
      rotate_left
      · rintro wh ⟨z0, z1, z2, z3, z4, z5, z6, z7, z8, z9, z10, z11, z12, z13⟩
        go_simp
        (try with_reducible rfl)
      simp only [Act.put, List.setIfInBounds_toArray, List.set_cons_zero, List.set_cons_succ]
      refine held_step (i := 10) rfl (by kernel_rfl) (fun K hK => ?_)
      have hb_2 := alloc_below w_1 (.cells #[.string ⟨#[]⟩, .slice none 0 0, .int .i64 0, .int .u32 0, .int .i64 0, .int .i64 0] 54)
      have hT_2 := box_there (Below.refl (w_1.alloc (.cells #[.string ⟨#[]⟩, .slice none 0 0, .int .i64 0, .int .u32 0, .int .i64 0, .int .i64 0] 54)).heap.size (w_1.alloc (.cells #[.string ⟨#[]⟩, .slice none 0 0, .int .i64 0, .int .u32 0, .int .i64 0, .int .i64 0] 54)))
      have hL_2 : w_1.heap.size < (w_1.alloc (.cells #[.string ⟨#[]⟩, .slice none 0 0, .int .i64 0, .int .u32 0, .int .i64 0, .int .i64 0] 54)).heap.size := by rw [World.size_alloc]; omega
      have hG_2 := hB_1.size
      have hB_2 := hB_1.trans (hb_2.mono hB_1.size)
      have hP_2 := hF_1.later (below_puts (g := w_1.heap.size) (o := 0) hb_2 (Nat.le_refl _) [.string us, .slice ua uL.length ud, .int .i64 ql, .int .u32 qc, .int .i64 uf, .int .i64 ut])
      go_simp
      refine hK.out _ _ ⟨keep_cell q0 hB_2 hlq, keep_cell q1 hB_2 hlq, keep_cell q2 hB_2 hlq, keep_cell q3 hB_2 hlq, keep_cell q4 hB_2 hlq, keep_cell q5 hB_2 hlq, keep_cell p0 hB_2 hlb, keep_cell p1 hB_2 hlb, keep_cell p2 hB_2 hlb, keep_cell p3 hB_2 hlb, keep_cell p4 hB_2 hlb, keep_cell p5 hB_2 hlb, keep_cell t0 hB_2 hlt, keep_cell t1 hB_2 hlt⟩ (fun hHeld => ?_)
      clear hK K
      (try simp only [Act.put, List.setIfInBounds_toArray, List.set_cons_zero, List.set_cons_succ])
      generalize w_1.alloc (.cells #[.string ⟨#[]⟩, .slice none 0 0, .int .i64 0, .int .u32 0, .int .i64 0, .int .i64 0] 54) = w_2 at *
      have r0 := there_free hT_2 0 (by decide)
      have r1 := there_free hT_2 1 (by decide)
      have r2 := there_free hT_2 2 (by decide)
      have r3 := there_free hT_2 3 (by decide)
      have r4 := there_free hT_2 4 (by decide)
      have r5 := there_free hT_2 5 (by decide)
      obtain ⟨y0, hy0⟩ := there_cell hT_2 0 (by decide)
      obtain ⟨y1, hy1⟩ := there_cell hT_2 1 (by decide)
      obtain ⟨y2, hy2⟩ := there_cell hT_2 2 (by decide)
      obtain ⟨y3, hy3⟩ := there_cell hT_2 3 (by decide)
      obtain ⟨y4, hy4⟩ := there_cell hT_2 4 (by decide)
      obtain ⟨y5, hy5⟩ := there_cell hT_2 5 (by decide)
      have HB_3 : Hid (Below w2.heap.size w2 (w_2.setCells w_1.heap.size 0 [.string us, .slice ua uL.length ud, .int .i64 ql, .int .u32 qc, .int .i64 uf, .int .i64 ut])) := Lib.hid (below_puts (g := w_1.heap.size) (o := 0) hB_2 hG_2 [.string us, .slice ua uL.length ud, .int .i64 ql, .int .u32 qc, .int .i64 uf, .int .i64 ut])
      have HZ_3 := Lib.hid (below_puts_base (g := w_1.heap.size) (o := 0) (Below.refl 0 w_2) (Nat.zero_le _) [.string us, .slice ua uL.length ud, .int .i64 ql, .int .u32 qc, .int .i64 uf, .int .i64 ut]).size
      have HC_3 := Lib.hid (c6_puts w_2 w_1.heap.size (.string us) (.slice ua uL.length ud) (.int .i64 ql) (.int .u32 qc) (.int .i64 uf) (.int .i64 ut) hT_2)
      have HF_3 : Hid (FldsAt (w_2.setCells w_1.heap.size 0 [.string us, .slice ua uL.length ud, .int .i64 ql, .int .u32 qc, .int .i64 uf, .int .i64 ut]) (.slice ua uL.length ud) uL) := Lib.hid hP_2
      refine held_step (i := 11) rfl (by kernel_rfl) (fun K hK => ?_)
      go_simp
      refine hK.out _ (w_2.setCells w_1.heap.size 0 [.string us, .slice ua uL.length ud, .int .i64 ql, .int .u32 qc, .int .i64 uf, .int .i64 ut]) ⟨keep_cell q0 HB_3.out hlq, keep_cell q1 HB_3.out hlq, keep_cell q2 HB_3.out hlq, keep_cell q3 HB_3.out hlq, keep_cell q4 HB_3.out hlq, keep_cell q5 HB_3.out hlq, keep_cell p0 HB_3.out hlb, keep_cell p1 HB_3.out hlb, keep_cell p2 HB_3.out hlb, keep_cell p3 HB_3.out hlb, keep_cell p4 HB_3.out hlb, keep_cell p5 HB_3.out hlb, keep_cell t0 HB_3.out hlt, keep_cell t1 HB_3.out hlt⟩ (fun hHeld => ?_)
      clear hK K
      (try simp only [Act.put, List.setIfInBounds_toArray, List.set_cons_zero, List.set_cons_succ])
      generalize (w_2.setCells w_1.heap.size 0 [.string us, .slice ua uL.length ud, .int .i64 ql, .int .u32 qc, .int .i64 uf, .int .i64 ut]) = w_3 at *
      refine held_take (i := 12) (v := ?_) rfl rfl (by kernel_rfl) (by kernel_rfl) (by kernel_rfl) (fun _ _ _ h => h) (by rfl) hHeld ?_ ?_
      rotate_left
      · rintro wh ⟨z0, z1, z2, z3, z4, z5, z6, z7, z8, z9, z10, z11, z12, z13⟩
        go_simp
        (try with_reducible rfl)
      simp only [Act.put, List.setIfInBounds_toArray, List.set_cons_zero, List.set_cons_succ]
      refine wpAnyH_done (by kernel_rfl) ?_ _
      go_wp2
      go_meet
      exact ⟨w_1.heap.size, ua, ud, rfl, rfl, HC_3.out, HF_3.out, Nat.lt_of_lt_of_le hL_2 HZ_3.out, HB_3.out⟩
    · have hb_4 := alloc_below wd (.cells #[.string ⟨#[]⟩, .slice none 0 0, .int .i64 0, .int .u32 0, .int .i64 0, .int .i64 0] 54)
      have hT_4 := box_there (Below.refl (wd.alloc (.cells #[.string ⟨#[]⟩, .slice none 0 0, .int .i64 0, .int .u32 0, .int .i64 0, .int .i64 0] 54)).heap.size (wd.alloc (.cells #[.string ⟨#[]⟩, .slice none 0 0, .int .i64 0, .int .u32 0, .int .i64 0, .int .i64 0] 54)))
      have hL_4 : wd.heap.size < (wd.alloc (.cells #[.string ⟨#[]⟩, .slice none 0 0, .int .i64 0, .int .u32 0, .int .i64 0, .int .i64 0] 54)).heap.size := by rw [World.size_alloc]; omega
      have hG_4 := hd.size
      have hB_4 := hd.trans (hb_4.mono hd.size)
      go_simp
      refine hK.out _ _ ⟨keep_cell q0 hB_4 hlq, keep_cell q1 hB_4 hlq, keep_cell q2 hB_4 hlq, keep_cell q3 hB_4 hlq, keep_cell q4 hB_4 hlq, keep_cell q5 hB_4 hlq, keep_cell p0 hB_4 hlb, keep_cell p1 hB_4 hlb, keep_cell p2 hB_4 hlb, keep_cell p3 hB_4 hlb, keep_cell p4 hB_4 hlb, keep_cell p5 hB_4 hlb, keep_cell t0 hB_4 hlt, keep_cell t1 hB_4 hlt⟩ (fun hHeld => ?_)
      clear hK K
      (try simp only [Act.put, List.setIfInBounds_toArray, List.set_cons_zero, List.set_cons_succ])
      generalize wd.alloc (.cells #[.string ⟨#[]⟩, .slice none 0 0, .int .i64 0, .int .u32 0, .int .i64 0, .int .i64 0] 54) = w_4 at *
      refine held_step (i := 6) rfl (by kernel_rfl) (fun K hK => ?_)
      go_simp; go_at_call 20; refine (CM.out _ hB_4).mono ?_; rintro e w_5 ⟨ua, ud, rfl, hF_5, hO_5, hb_5⟩
      have hB_5 := hB_4.trans (hb_5.mono hB_4.size)
      have hTA_5 := there_later hT_4 hb_5 hL_4
      have hLA_5 := Nat.lt_of_lt_of_le hL_4 hb_5.size
      have hFar_5 : ∀ q, (Value.slice ua uL.length ud).ownBlock = some q → q ≠ wd.heap.size := fun q hq => by have := hO_5 q hq; have := hL_4; omega
      refine hK.out _ _ ⟨keep_cell q0 hB_5 hlq, keep_cell q1 hB_5 hlq, keep_cell q2 hB_5 hlq, keep_cell q3 hB_5 hlq, keep_cell q4 hB_5 hlq, keep_cell q5 hB_5 hlq, keep_cell p0 hB_5 hlb, keep_cell p1 hB_5 hlb, keep_cell p2 hB_5 hlb, keep_cell p3 hB_5 hlb, keep_cell p4 hB_5 hlb, keep_cell p5 hB_5 hlb, keep_cell t0 hB_5 hlt, keep_cell t1 hB_5 hlt⟩ (fun hHeld => ?_)
      clear hK K
      (try simp only [Act.put, List.setIfInBounds_toArray, List.set_cons_zero, List.set_cons_succ])
      refine held_take (i := 7) (v := ?_) rfl rfl (by kernel_rfl) (by kernel_rfl) (by kernel_rfl) (fun _ _ _ h => h) (by rfl) hHeld ?_ ?_
      rotate_left
      · rintro wh ⟨z0, z1, z2, z3, z4, z5, z6, z7, z8, z9, z10, z11, z12, z13⟩
        go_simp
        (try with_reducible rfl)
      simp only [Act.put, List.setIfInBounds_toArray, List.set_cons_zero, List.set_cons_succ]
      refine held_take (i := 8) (v := ?_) rfl rfl (by kernel_rfl) (by kernel_rfl) (by kernel_rfl) (fun _ _ _ h => h) (by rfl) hHeld ?_ ?_
      rotate_left
      · rintro wh ⟨z0, z1, z2, z3, z4, z5, z6, z7, z8, z9, z10, z11, z12, z13⟩
        go_simp
        (try with_reducible rfl)
      simp only [Act.put, List.setIfInBounds_toArray, List.set_cons_zero, List.set_cons_succ]
      refine held_take (i := 9) (v := ?_) rfl rfl (by kernel_rfl) (by kernel_rfl) (by kernel_rfl) (fun _ _ _ h => h) (by rfl) hHeld ?_ ?_
      rotate_left
      · rintro wh ⟨z0, z1, z2, z3, z4, z5, z6, z7, z8, z9, z10, z11, z12, z13⟩
        go_simp
        (try with_reducible rfl)
      simp only [Act.put, List.setIfInBounds_toArray, List.set_cons_zero, List.set_cons_succ]
      have r0 := there_free hTA_5 0 (by decide)
      have r1 := there_free hTA_5 1 (by decide)
      have r2 := there_free hTA_5 2 (by decide)
      have r3 := there_free hTA_5 3 (by decide)
      have r4 := there_free hTA_5 4 (by decide)
      have r5 := there_free hTA_5 5 (by decide)
      obtain ⟨y0, hy0⟩ := there_cell hTA_5 0 (by decide)
      obtain ⟨y1, hy1⟩ := there_cell hTA_5 1 (by decide)
      obtain ⟨y2, hy2⟩ := there_cell hTA_5 2 (by decide)
      obtain ⟨y3, hy3⟩ := there_cell hTA_5 3 (by decide)
      obtain ⟨y4, hy4⟩ := there_cell hTA_5 4 (by decide)
      obtain ⟨y5, hy5⟩ := there_cell hTA_5 5 (by decide)
      have HB_6 : Hid (Below w2.heap.size w2 (w_5.setCells wd.heap.size 0 [.string us, .slice ua uL.length ud, .int .i64 ql, .int .u32 qc, .int .i64 uf, .int .i64 ut])) := Lib.hid (below_puts (g := wd.heap.size) (o := 0) hB_5 hG_4 [.string us, .slice ua uL.length ud, .int .i64 ql, .int .u32 qc, .int .i64 uf, .int .i64 ut])
      have HZ_6 := Lib.hid (below_puts_base (g := wd.heap.size) (o := 0) (Below.refl 0 w_5) (Nat.zero_le _) [.string us, .slice ua uL.length ud, .int .i64 ql, .int .u32 qc, .int .i64 uf, .int .i64 ut]).size
      have HC_6 := Lib.hid (c6_puts w_5 wd.heap.size (.string us) (.slice ua uL.length ud) (.int .i64 ql) (.int .u32 qc) (.int .i64 uf) (.int .i64 ut) hTA_5)
      have HF_6 : Hid (FldsAt (w_5.setCells wd.heap.size 0 [.string us, .slice ua uL.length ud, .int .i64 ql, .int .u32 qc, .int .i64 uf, .int .i64 ut]) (.slice ua uL.length ud) uL) := Lib.hid (rd_puts hF_5 hFar_5 [.string us, .slice ua uL.length ud, .int .i64 ql, .int .u32 qc, .int .i64 uf, .int .i64 ut])
      refine held_step (i := 11) rfl (by kernel_rfl) (fun K hK => ?_)
      go_simp
      refine hK.out _ (w_5.setCells wd.heap.size 0 [.string us, .slice ua uL.length ud, .int .i64 ql, .int .u32 qc, .int .i64 uf, .int .i64 ut]) ⟨keep_cell q0 HB_6.out hlq, keep_cell q1 HB_6.out hlq, keep_cell q2 HB_6.out hlq, keep_cell q3 HB_6.out hlq, keep_cell q4 HB_6.out hlq, keep_cell q5 HB_6.out hlq, keep_cell p0 HB_6.out hlb, keep_cell p1 HB_6.out hlb, keep_cell p2 HB_6.out hlb, keep_cell p3 HB_6.out hlb, keep_cell p4 HB_6.out hlb, keep_cell p5 HB_6.out hlb, keep_cell t0 HB_6.out hlt, keep_cell t1 HB_6.out hlt⟩ (fun hHeld => ?_)
      clear hK K
      (try simp only [Act.put, List.setIfInBounds_toArray, List.set_cons_zero, List.set_cons_succ])
      generalize (w_5.setCells wd.heap.size 0 [.string us, .slice ua uL.length ud, .int .i64 ql, .int .u32 qc, .int .i64 uf, .int .i64 ut]) = w_6 at *
      refine held_take (i := 12) (v := ?_) rfl rfl (by kernel_rfl) (by kernel_rfl) (by kernel_rfl) (fun _ _ _ h => h) (by rfl) hHeld ?_ ?_
      rotate_left
      · rintro wh ⟨z0, z1, z2, z3, z4, z5, z6, z7, z8, z9, z10, z11, z12, z13⟩
        go_simp
        (try with_reducible rfl)
      simp only [Act.put, List.setIfInBounds_toArray, List.set_cons_zero, List.set_cons_succ]
      refine wpAnyH_done (by kernel_rfl) ?_ _
      go_wp2
      go_meet
      exact ⟨wd.heap.size, ua, ud, rfl, rfl, HC_6.out, HF_6.out, Nat.lt_of_lt_of_le hLA_5 HZ_6.out, HB_6.out⟩
  case rest =>
    obtain ⟨gu, ua, ud, rfl, rfl, hX, hF, hlu, hbu⟩ := hcut
    have HS3 := Lib.hid (HS2.out.later hbu)
    have HX := Lib.hid hX
    have HF := Lib.hid hF
    have HLU := Lib.hid hlu
    clear CM q0 q1 q2 q3 q4 q5 t0 t1 p0 p1 p2 p3 p4 p5 hX hF hlu hbu HS2 hlq hlt hlb
    cases ok
    · have HN : Hid (quietK p l (j : Int) (tl, tc) now = []) := Lib.hid (by rw [HQ.out]; rfl)
      go_wp2
      go_ret
      exact ⟨_, rfl, by rw [HN.out]; exact World.ownsRow_nil _ _ _ _, HS3.out.below⟩
    · have HN : Hid (quietK p l (j : Int) (tl, tc) now = idxTo F p.ih p.ih.length) := Lib.hid (by rw [HQ.out]; rfl)
      obtain ⟨p0, p1, p2, p3, p4, p5⟩ := HE.out
      have p0 := KEEP.out p0 HS3.out.below
      have p1 := KEEP.out p1 HS3.out.below
      have p2 := KEEP.out p2 HS3.out.below
      have p3 := KEEP.out p3 HS3.out.below
      have p4 := KEEP.out p4 HS3.out.below
      have p5 := KEEP.out p5 HS3.out.below
      have kid := id_any src fl alv ac fr til _ wc (HFK.out.later HS3.out.below) HID8.out
      generalize shortL (idB src fl) = sid at *
      go_wp2_with fail
      refine kid.mono ?_
      rintro e w4 ⟨rfl, hb4⟩
      have HS4 := Lib.hid (HS3.out.later hb4)
      have HX4 := Lib.hid (HX.out.later hb4 HLU.out)
      have HF4 := Lib.hid (HF.out.later hb4)
      have HLU4 := Lib.hid (Nat.lt_of_lt_of_le HLU.out hb4.size)
      clear kid hb4 p0 p1 p2 p3 p4 p5 HS3 HX HF HLU HQ
      obtain ⟨q0, q1, q2, q3, q4, q5⟩ := HS4.out.p
      go_wp2
      clear q0 q1 q2 q3 q4 q5
      go_loopw [13, 58] (fun s13 i wr => ∃ (n : Nat), i = .int .i64 n ∧ n ≤ p.ih.length ∧ Hid (wr.ownsRow w4.heap.size 3 1 s13 (idxTo F p.ih n).length ((idxTo F p.ih n).map I)) ∧ Hid (Below w4.heap.size w4 wr)) (fun _ i _ => p.ih.length - (intOf i).toNat)
      case atStart => exact ⟨0, rfl, Nat.zero_le _, Lib.hid (World.ownsRow_nil _ _ _ _), Lib.hid (Below.refl _ _)⟩
      case round =>
        obtain ⟨n, rfl, hn, HO, HB⟩ := hrel
        by_cases hnl : n < p.ih.length
        · obtain ⟨b5, o5, rfl, hb5, hc5⟩ := KIR.out (by omega)
          have hBw := HS4.out.below.trans (HB.out.mono HS4.out.below.size)
          have hat := fun i v h => cellsG_at ihC_len p.ih n hnl i v h
          have z0 := keep_cell (hc5 _ _ (hat 0 _ rfl)) hBw hb5
          have z1 := keep_cell (hc5 _ _ (hat 1 _ rfl)) hBw hb5
          have z2 := keep_cell (hc5 _ _ (hat 2 _ rfl)) hBw hb5
          have z3 := keep_cell (hc5 _ _ (hat 3 _ rfl)) hBw hb5
          have z4 := keep_cell (hc5 _ _ (hat 4 _ rfl)) hBw hb5
          rw [Nat.add_zero] at z0
          rw [← Nat.add_assoc] at z1 z2 z3 z4
          have hmem := List.getElem_mem hnl
          have hin := KIN.out _ hmem
          have hbad := HCK.out.2 _ hmem
          have HST := Lib.hid (idxTo_step F p.ih hnl)
          have hlen12 := HCK.out.1
          have hil := idxTo_len F p.ih n
          have KB := Lib.hid (fun (c : Al) fa fc W h1 h2 h3 h4 => KBY.out _ hmem hbad sid c fa fc W h1 h2 h3 h4)
          have HFX := Lib.hid (HRU.out p.ih[n])
          generalize p.ih[n] = x at *
          obtain ⟨bys, xlv, xc, frm, whn, bv, fv, wv⟩ := x
          dsimp only at *
          obtain ⟨ba, bc, hba, _, _⟩ := RdAt.shape hin.b
          dsimp only at hba
          subst hba
          obtain ⟨ra, rc, hra, _, _⟩ := RdAt.shape hin.f
          dsimp only at hra
          subst hra
          obtain ⟨wa, wc, hwa, _, _⟩ := RdAt.shape hin.m
          dsimp only at hwa
          subst hwa
          have HBW := Lib.hid hBw
          obtain ⟨W5, hW5⟩ : ∃ z, wr.alloc (.cells #[.slice ba bys.length bc, .int .i64 xlv, .int .u32 xc, .slice ra frm.length rc, .slice wa whn.length wc] 51) = z := ⟨_, rfl⟩
          have hx5 : C5 wr.heap.size (.slice ba bys.length bc) (.int .i64 xlv) (.int .u32 xc) (.slice ra frm.length rc) (.slice wa whn.length wc) W5 := by rw [← hW5]; exact box5n wr _ _ _ _ _ _
          have hs5 : wr.heap.size < W5.heap.size := by rw [← hW5, World.size_alloc]; omega
          have hb5w : Below wr.heap.size wr W5 := by rw [← hW5]; exact alloc_below _ _
          have hB5 := HB.out.trans (hb5w.mono HB.out.size)
          have HS5 := Lib.hid (HS4.out.later hB5)
          have HO5 := Lib.hid (own_later HO.out hb5w)
          have HB5 := Lib.hid hB5
          obtain ⟨x0, x1, x2, x3, x4⟩ := hx5
          have HX5 := Lib.hid (show C5 wr.heap.size (.slice ba bys.length bc) (.int .i64 xlv) (.int .u32 xc) (.slice ra frm.length rc) (.slice wa whn.length wc) W5 from ⟨x0, x1, x2, x3, x4⟩)
          have HLX := Lib.hid hs5
          have t0 := HS5.out.t0
          have t1 := HS5.out.t1
          clear hmem hin hbad hat hc5 hBw hb5w hB5 HO HB hs5
          have kf := flows_any xlv xc tl tc W5
          cases hfl : flowsL xlv xc tl tc
          · have HN1 : Hid (idxTo F p.ih (n + 1) = idxTo F p.ih n) := Lib.hid (by rw [HST.out, HFX.out, hfl]; simp)
            rw [hfl] at kf
            clear hfl
            go_wp2_with fail
            refine kf.mono ?_
            rintro e w6 ⟨rfl, hb6⟩
            have HB6 := Lib.hid (HB5.out.trans (hb6.mono HB5.out.size))
            have HO6 := Lib.hid (own_later HO5.out hb6)
            clear kf hb6 z0 z1 z2 z3 z4 x0 x1 x2 x3 x4 t0 t1 HS5 hW5
            go_wp2
            go_roundw
            case rel => exact ⟨n + 1, by go_num, by omega, Lib.hid (by rw [HN1.out]; exact HO6.out), HB6⟩
            case measure => (simp [intOf]; try omega)
          · rw [hfl] at kf
            have HFX2 : Hid (F ⟨bys, xlv, xc, frm, whn, .slice ba bys.length bc, .slice ra frm.length rc, .slice wa whn.length wc⟩ = byM ⟨bys, xlv, xc, frm, whn, .slice ba bys.length bc, .slice ra frm.length rc, .slice wa whn.length wc⟩ l sid uL now) := Lib.hid (by rw [HFX.out, hfl, Bool.true_and])
            clear hfl
            go_wp2_with fail
            refine kf.mono ?_
            rintro e w6 ⟨rfl, hb6⟩
            have HB6 := Lib.hid (HB5.out.trans (hb6.mono HB5.out.size))
            have HO6 := Lib.hid (own_later HO5.out hb6)
            have HX6 := Lib.hid (HX5.out.later hb6 HLX.out)
            clear kf hb6 z0 z1 z2 z3 z4 x0 x1 x2 x3 x4 t0 t1 HS5 hW5 HX5 HB5 HO5 HFX
            obtain ⟨x0, x1, x2, x3, x4⟩ := HX6.out
            obtain ⟨y0, y1, y2, y3, y4, y5⟩ := HX4.out.later HB6.out HLU4.out
            have kb := KB.out ⟨us, uL, ql, qc, uf, ut⟩ ua ud w6 (HS4.out.below.trans (HB6.out.mono HS4.out.below.size)) (HF4.out.later HB6.out) (fun f hf => HFIT.out.fl f (HIN.out.1 f hf)) (Nat.le_trans HIN.out.2 hr8)
            dsimp only at kb
            generalize byM ⟨bys, xlv, xc, frm, whn, .slice ba bys.length bc, .slice ra frm.length rc, .slice wa whn.length wc⟩ l sid uL now = BM at *
            go_wp2_with fail
            refine kb.mono ?_
            rintro e w7 ⟨rfl, hb7⟩
            have hB7 := HB6.out.trans (hb7.mono HB6.out.size)
            have hO7 := own_later HO6.out hb7
            have HB7 := Lib.hid hB7
            have HO7 := Lib.hid hO7
            clear kb hb7 x0 x1 x2 x3 x4 y0 y1 y2 y3 y4 y5 HX6 HB6 HO6
            cases BM
            · have HN1 : Hid (idxTo F p.ih (n + 1) = idxTo F p.ih n) := Lib.hid (by rw [HST.out, HFX2.out]; simp)
              clear hB7 hO7
              go_wp2
              go_roundw
              case rel => exact ⟨n + 1, by go_num, by omega, Lib.hid (by rw [HN1.out]; exact HO7.out), HB7⟩
              case measure => (simp [intOf]; try omega)
            · have HN1 : Hid (idxTo F p.ih (n + 1) = idxTo F p.ih n ++ [(n : Int)]) := Lib.hid (by rw [HST.out, HFX2.out]; simp)
              have hb8 := alloc_below w7 (.cells #[I n] 3)
              have hown8 := hO7.alloc (.cells #[I n] 3)
              have hsz8 := hB7.size
              clear hO7
              go_wp2_with (at_builtin; (refine wpList_append_own _ rfl _ _ 38 rfl w4.heap.size 3 i0 (.int .i64 0) 1 8 Tryz.underlying38 hi hz0 hz1 hz2 rfl (by decide) _ _ _ rfl hown8 ⟨w7.heap.size, 0, none⟩ 1 1 [I n] rfl rfl (cell_one_new _ _ _) (by simp [Value.oneCell']) (by unfold maxLen; omega) (by omega) (by simp; omega) ?_); intro v' w8 hown' hg8 hnil8)
              have HB8 := Lib.hid ((hB7.trans (hb8.mono hB7.size)).grown hg8 (by simp; omega) (fun j e => (hown8.lt j e).1))
              have HO8 : Hid (w8.ownsRow w4.heap.size 3 1 v' (idxTo F p.ih (n + 1)).length ((idxTo F p.ih (n + 1)).map I)) := Lib.hid (by rw [HN1.out]; simpa using hown')
              clear hown' hg8 hnil8 hown8 hb8 hB7 HO7 HB7
              go_wp2
              go_roundw
              case rel => exact ⟨n + 1, by go_num, by omega, HO8, HB8⟩
              case measure => (simp [intOf]; try omega)
        · obtain rfl : n = p.ih.length := by omega
          go_wp2
          go_ret
          exact ⟨_, rfl, by rw [HN.out]; exact World.ownsRow.mono HO.out HS4.out.below.size, HS4.out.below.trans (HB.out.mono HS4.out.below.size)⟩
end Go.Proofs.YtipnhpfpppblhaaGreat

/- inhibit.told: a contract. -/
namespace Go.Proofs.YtipnhpfpppblhaaGreat
open Go.RowKit Go.Maps
def toldA (ra : List Nmd) (t : Int × Nat) (now : Int) (q : Al × Value) : Bool := cutOk ra q.1.fl (q.1.lv, q.1.c) t && rightA q.1 && firesA q.1 now
set_option maxHeartbeats 6400000 in
set_option maxRecDepth 100000 in
theorem told_any (v : PV) (p : PD) (l : List (Al × Value)) (lv : Value) (tl : Int) (tc : Nat) (now : Int) (w : World) (hp : PolAt w v p) (hpf : PolFitD p) (hl : AlsAt w lv l) (hlen : l.length ≤ 1000000) (h12 : ∀ q ∈ l, q.1.fl.length ≤ 12) :
    Calls Tryz.prog 32 #[v.v, lv, Lab tl tc, .int .i64 now] w fun e w' => ∃ r, e = .returned r ∧ w'.ownsRow w.heap.size 3 1 r (idxF (toldA p.ra (tl, tc) now) l).length ((idxF (toldA p.ra (tl, tc) now) l).map I) ∧ Below w.heap.size w w' := by
  obtain ⟨v0, v1, v2, v3, v4, v5⟩ := v
  obtain ⟨h0, h1, h2, h3, ⟨h4, _⟩, h5, _⟩ := hp
  dsimp only at h0 h1 h2 h3 h4 h5
  obtain ⟨a0, c0, rfl, _, _⟩ := RdAt.shape h0
  obtain ⟨a1, c1, rfl, _, _⟩ := RdAt.shape h1
  obtain ⟨a2, c2, rfl, _, _⟩ := RdAt.shape h2
  obtain ⟨a3, c3, rfl, _, _⟩ := RdAt.shape h3
  obtain ⟨a4, c4, rfl, _, _⟩ := RdAt.shape h4
  obtain ⟨a5, c5, rfl, _, _⟩ := RdAt.shape h5
  obtain ⟨la, lc, rfl, hlc, hlr⟩ := RdAt.shape hl.row
  have HLR := Lib.hid hlr
  have HFL := Lib.hid hl.fld
  have H12 := Lib.hid h12
  have KCUT : Hid (∀ (x m : Al) (ok : Bool) (fa : Option Addr) (fc : Nat) (W : World), Below w.heap.size w W → FldsAt W (.slice fa x.fl.length fc) x.fl → x.fl.length ≤ 12 → cutOk p.ra x.fl (x.lv, x.c) (tl, tc) = ok → cutAl p.ra x (tl, tc) = m →
      Calls Tryz.prog 20 #[.agg #[.slice a0 p.so.length c0, .slice a1 p.re.length c1, .slice a2 p.pe.length c2, .slice a3 p.ra.length c3, .slice a4 p.ro.length c4, .slice a5 p.ih.length c5], .agg #[.string x.src, .slice fa x.fl.length fc, .int .i64 x.lv, .int .u32 x.c, .int .i64 x.fr, .int .i64 x.til], Lab tl tc] W fun e w' =>
        ∃ pa pc, e = .returned (.tuple #[.agg #[.string m.src, .slice pa m.fl.length pc, .int .i64 m.lv, .int .u32 m.c, .int .i64 m.fr, .int .i64 m.til], .bool ok]) ∧ FldsAt w' (.slice pa m.fl.length pc) m.fl ∧ (∀ q, (Value.slice pa m.fl.length pc).ownBlock = some q → W.heap.size ≤ q) ∧ Below W.heap.size W w') :=
    Lib.hid (fun x m ok fa fc W hW hF hx hok hm => cut_l (a0, p.so.length, c0) (a1, p.re.length, c1) (a2, p.pe.length, c2) (a4, p.ro.length, c4) (a5, p.ih.length, c5) p.ra (.slice a3 p.ra.length c3) x (.slice fa x.fl.length fc) (tl, tc) m ok W (h3.later hW) hpf.h3.1 hF (by omega) hok hm)
  obtain ⟨W0, hW0⟩ : ∃ z, (w.alloc (.cells #[.slice a0 p.so.length c0, .slice a1 p.re.length c1, .slice a2 p.pe.length c2, .slice a3 p.ra.length c3, .slice a4 p.ro.length c4, .slice a5 p.ih.length c5] 26)).alloc (.cells #[.int .i64 tl, .int .u32 tc] 36) = z := ⟨_, rfl⟩
  have HS0 : Hid (QPt w (.slice a0 p.so.length c0) (.slice a1 p.re.length c1) (.slice a2 p.pe.length c2) (.slice a3 p.ra.length c3) (.slice a4 p.ro.length c4) (.slice a5 p.ih.length c5) tl tc W0) := Lib.hid (by rw [← hW0]; exact qpt_new w _ _ _ _ _ _ _ _ _ _)
  have HW0 := Lib.hid hW0
  obtain ⟨i0, hi, hz0, hz1, hz2⟩ := info_parts infoInt13
  clear h0 h1 h2 h3 h4 h5 hW0 hlr hl h12
  go_enter Tryz.func32, Tryz.ntmps32
  go_upto_region 1 with fail
  rw [HW0.out]
  clear HW0
  go_wp2
  go_loopw [9, 16] (fun s9 i wr => ∃ (n : Nat), i = .int .i64 n ∧ n ≤ l.length ∧ Hid (wr.ownsRow W0.heap.size 3 1 s9 (idxTo (toldA p.ra (tl, tc) now) l n).length ((idxTo (toldA p.ra (tl, tc) now) l n).map I)) ∧ Hid (Below W0.heap.size W0 wr)) (fun _ i _ => l.length - (intOf i).toNat)
  case atStart => exact ⟨0, rfl, Nat.zero_le _, Lib.hid (World.ownsRow_nil _ _ _ _), Lib.hid (Below.refl _ _)⟩
  case round =>
    obtain ⟨n, rfl, hn, HO, HB⟩ := hrel
    by_cases hnl : n < l.length
    · obtain ⟨b, o, rfl, hbl, hcell⟩ := HLR.out (by omega)
      have hat := alCells_at l n hnl
      have hBw := HS0.out.below.trans (HB.out.mono HS0.out.below.size)
      have p0 := keep_cell (hcell _ _ (hat 0 _ rfl)) hBw hbl
      have p1 := keep_cell (hcell _ _ (hat 1 _ rfl)) hBw hbl
      have p2 := keep_cell (hcell _ _ (hat 2 _ rfl)) hBw hbl
      have p3 := keep_cell (hcell _ _ (hat 3 _ rfl)) hBw hbl
      have p4 := keep_cell (hcell _ _ (hat 4 _ rfl)) hBw hbl
      have p5 := keep_cell (hcell _ _ (hat 5 _ rfl)) hBw hbl
      rw [Nat.add_zero] at p0
      rw [← Nat.add_assoc] at p1 p2 p3 p4 p5
      have hmem := List.getElem_mem hnl
      obtain ⟨hfk, hfit⟩ := HFL.out _ hmem
      have hf12 := H12.out _ hmem
      have HST := Lib.hid (idxTo_step (toldA p.ra (tl, tc) now) l hnl)
      have hil := idxTo_len (toldA p.ra (tl, tc) now) l n
      have HG : Hid (toldA p.ra (tl, tc) now l[n] = (cutOk p.ra l[n].1.fl (l[n].1.lv, l[n].1.c) (tl, tc) && rightA l[n].1 && firesA l[n].1 now)) := Lib.hid rfl
      generalize toldA p.ra (tl, tc) now = F at *
      generalize l[n] = y at *
      obtain ⟨⟨src, fl, alv, ac, fr, til⟩, fv⟩ := y
      dsimp only at *
      obtain ⟨fa, fc, rfl, hfc, _⟩ := RdAt.shape hfk
      obtain ⟨W1, hW1⟩ : ∃ z, wr.alloc (.cells #[.string src, .slice fa fl.length fc, .int .i64 alv, .int .u32 ac, .int .i64 fr, .int .i64 til] 54) = z := ⟨_, rfl⟩
      have hx : C6 wr.heap.size (.string src) (.slice fa fl.length fc) (.int .i64 alv) (.int .u32 ac) (.int .i64 fr) (.int .i64 til) W1 := by rw [← hW1]; exact box6n wr _ _ _ _ _ _ _
      have hs1 : wr.heap.size < W1.heap.size := by rw [← hW1, World.size_alloc]; omega
      have hb1 : Below wr.heap.size wr W1 := by rw [← hW1]; exact alloc_below _ _
      have HB1 := Lib.hid (HB.out.trans (hb1.mono HB.out.size))
      have HO1 := Lib.hid (own_later HO.out hb1)
      have HS1 := Lib.hid (HS0.out.later HB1.out)
      have HX1 := Lib.hid hx
      have HL1 := Lib.hid hs1
      have HFK := Lib.hid hfk
      obtain ⟨m, hm⟩ : ∃ m, cutAl p.ra ⟨src, fl, alv, ac, fr, til⟩ (tl, tc) = m := ⟨_, rfl⟩
      obtain ⟨ok, hok⟩ : ∃ z, cutOk p.ra fl (alv, ac) (tl, tc) = z := ⟨_, rfl⟩
      have kc := KCUT.out ⟨src, fl, alv, ac, fr, til⟩ m ok fa fc W1 HS1.out.below (hfk.later HS1.out.below) hf12 hok hm
      have KR := Lib.hid (fun V (h : Below w.heap.size w V) => aright_any src fl alv ac fr til _ V hfit.src (hfk.later h) hfit.fl hfit.len)
      have KF := Lib.hid (fun V => fires_any src fa fl.length fc alv ac fr til now V)
      have hR : rightA ⟨src, fl, alv, ac, fr, til⟩ = (whoA src fl alv && beginsA fr && endsA fr til) := rfl
      have hF : firesA ⟨src, fl, alv, ac, fr, til⟩ now = (decide (fr ≤ now) && (decide (til = 0) || decide (now < til))) := rfl
      rw [← hR] at KR
      rw [← hF] at KF
      rw [hok] at HG
      generalize rightA ⟨src, fl, alv, ac, fr, til⟩ = R at *
      generalize firesA ⟨src, fl, alv, ac, fr, til⟩ now = FI at *
      generalize F (⟨src, fl, alv, ac, fr, til⟩, Value.slice fa fl.length fc) = G at *
      obtain ⟨us, uL, ql, qc, uf, ut⟩ := m
      dsimp only at kc
      have t0 := HS1.out.t0
      have t1 := HS1.out.t1
      obtain ⟨q0, q1, q2, q3, q4, q5⟩ := HS1.out.p
      obtain ⟨x0, x1, x2, x3, x4, x5⟩ := hx
      clear hmem hfk hfit hat hcell hBw hb1 hR hF hm hok HO HB hs1
      go_wp2_with fail
      refine kc.mono ?_
      rintro e w2 ⟨ua, ud, rfl, hFu, hOu, hb2⟩
      have hHB2 := HB1.out.trans (hb2.mono HB1.out.size)
      have hO2 := own_later HO1.out hb2
      have hX2 := HX1.out.later hb2 HL1.out
      have hL2 := Nat.lt_of_lt_of_le HL1.out hb2.size
      clear kc hb2 hFu hOu HO1 HB1 HS1 HX1 HL1 p0 p1 p2 p3 p4 p5 t0 t1 q0 q1 q2 q3 q4 q5 x0 x1 x2 x3 x4 x5 hW1
      have hb3 := alloc_below w2 (.cells #[.string us, .slice ua uL.length ud, .int .i64 ql, .int .u32 qc, .int .i64 uf, .int .i64 ut] 54)
      have HB3 := Lib.hid (hHB2.trans (hb3.mono hHB2.size))
      have HO3 := Lib.hid (own_later hO2 hb3)
      have HX3 := Lib.hid (hX2.later hb3 hL2)
      have HL3 := Lib.hid (Nat.lt_of_lt_of_le hL2 hb3.size)
      clear hb3 hHB2 hO2 hX2 hL2
      go_upto_region 6 with fail
      change Code.wp _ _ _ _ (w2.alloc (.cells #[.string us, .slice ua uL.length ud, .int .i64 ql, .int .u32 qc, .int .i64 uf, .int .i64 ut] 54))
      generalize w2.alloc (.cells #[.string us, .slice ua uL.length ud, .int .i64 ql, .int .u32 qc, .int .i64 uf, .int .i64 ut] 54) = w3 at *
      cases ok
      · clear KR KF HX3 HL3
        have HN1 : Hid (idxTo F l (n + 1) = idxTo F l n) := Lib.hid (by rw [HST.out, show G = false from by rw [HG.out]; rfl]; simp)
        go_wp2
        go_roundw
        case rel => exact ⟨n + 1, by go_num, by omega, Lib.hid (by rw [HN1.out]; exact HO3.out), HB3⟩
        case measure => (simp [intOf]; try omega)
      · obtain ⟨x0, x1, x2, x3, x4, x5⟩ := HX3.out
        have kr := KR.out w3 (HS0.out.below.trans (HB3.out.mono HS0.out.below.size))
        go_wp2_with fail
        refine kr.mono ?_
        rintro e w4 ⟨rfl, hb4⟩
        have HB4 := Lib.hid (HB3.out.trans (hb4.mono HB3.out.size))
        have HO4 := Lib.hid (own_later HO3.out hb4)
        have HX4 := Lib.hid (HX3.out.later hb4 HL3.out)
        clear kr hb4 x0 x1 x2 x3 x4 x5 HX3 HL3 HO3 HB3
        cases R
        · clear KR KF HX4
          have HN1 : Hid (idxTo F l (n + 1) = idxTo F l n) := Lib.hid (by rw [HST.out, show G = false from by rw [HG.out]; rfl]; simp)
          go_wp2
          go_roundw
          case rel => exact ⟨n + 1, by go_num, by omega, Lib.hid (by rw [HN1.out]; exact HO4.out), HB4⟩
          case measure => (simp [intOf]; try omega)
        · obtain ⟨x0, x1, x2, x3, x4, x5⟩ := HX4.out
          have kf := KF.out w4
          go_wp2_with fail
          refine kf.mono ?_
          rintro e w5 ⟨rfl, hb5⟩
          have hB5 := HB4.out.trans (hb5.mono HB4.out.size)
          have hO5 := own_later HO4.out hb5
          have HB5 := Lib.hid hB5
          have HO5 := Lib.hid hO5
          clear kf hb5 x0 x1 x2 x3 x4 x5 HX4 HO4 HB4
          cases FI
          · clear KR KF hB5 hO5
            have HN1 : Hid (idxTo F l (n + 1) = idxTo F l n) := Lib.hid (by rw [HST.out, show G = false from by rw [HG.out]; rfl]; simp)
            go_wp2
            go_roundw
            case rel => exact ⟨n + 1, by go_num, by omega, Lib.hid (by rw [HN1.out]; exact HO5.out), HB5⟩
            case measure => (simp [intOf]; try omega)
          · have HN1 : Hid (idxTo F l (n + 1) = idxTo F l n ++ [(n : Int)]) := Lib.hid (by rw [HST.out, show G = true from by rw [HG.out]; rfl]; simp)
            have hb8 := alloc_below w5 (.cells #[I n] 3)
            have hown8 := hO5.alloc (.cells #[I n] 3)
            have hsz8 := hB5.size
            clear hO5 KR KF
            go_wp2_with (at_builtin; (refine wpList_append_own _ rfl _ _ 38 rfl W0.heap.size 3 i0 (.int .i64 0) 1 8 Tryz.underlying38 hi hz0 hz1 hz2 rfl (by decide) _ _ _ rfl hown8 ⟨w5.heap.size, 0, none⟩ 1 1 [I n] rfl rfl (cell_one_new _ _ _) (by simp [Value.oneCell']) (by unfold maxLen; omega) (by omega) (by simp; omega) ?_); intro v' w8 hown' hg8 hnil8)
            have HB8 := Lib.hid ((hB5.trans (hb8.mono hB5.size)).grown hg8 (by simp; omega) (fun j e => (hown8.lt j e).1))
            have HO8 : Hid (w8.ownsRow W0.heap.size 3 1 v' (idxTo F l (n + 1)).length ((idxTo F l (n + 1)).map I)) := Lib.hid (by rw [HN1.out]; simpa using hown')
            clear hown' hg8 hnil8 hown8 hb8 hB5 HO5 HB5
            go_wp2
            go_roundw
            case rel => exact ⟨n + 1, by go_num, by omega, HO8, HB8⟩
            case measure => (simp [intOf]; try omega)
    · obtain rfl : n = l.length := by omega
      go_wp2
      go_ret
      exact ⟨_, rfl, World.ownsRow.mono HO.out (by have := HS0.out.below.size; omega), HS0.out.below.trans (HB.out.mono HS0.out.below.size)⟩
end Go.Proofs.YtipnhpfpppblhaaGreat

/- slices.IndexFunc, slices.DeleteFunc of numbers, with inhibit.Left's closure: contracts. -/
namespace Go.Proofs.YtipnhpfpppblhaaGreat
open Go.RowKit
theorem int_range {w : World} {g o : Nat} {Y : List Int} (h : w.rangeAt g o (Y.map I)) {j : Nat} (hj : j < Y.length) : w.cell? ⟨g, o + j, none⟩ = some (.int .i64 Y[j]) :=
  h j _ (by rw [List.getElem?_map, List.getElem?_eq_getElem hj]; rfl)
theorem set_far {w : World} {p i b j : Nat} {v : Value} (h : ¬(p = b ∧ i = j)) : (w.setCell ⟨p, i, none⟩ v).cell? ⟨b, j, none⟩ = w.cell? ⟨b, j, none⟩ := by
  apply World.cell?_setCell_other
  intro e
  simp only [Addr.mk.injEq, and_true] at e
  exact h e
theorem there_set {w : World} {g n : Nat} (h : w.there g 0 n) (p i : Nat) (v : Value) : (w.setCell ⟨p, i, none⟩ v).there g 0 n := fun j hj => by
  obtain ⟨h1, h2⟩ := h j hj
  refine ⟨?_, ?_⟩
  · by_cases e : (⟨p, i, none⟩ : Addr) = ⟨g, 0 + j, none⟩
    · rw [e, World.cell?_setCell_same' _ _ _ h1]; rfl
    · rw [set_far (fun h => e (by rw [h.1, h.2]))]; exact h1
  · rw [World.frozen?_setCell]; exact h2
set_option maxHeartbeats 1600000 in
set_option maxRecDepth 100000 in
theorem idxL_any (l : List Int) (p : Int → Bool) (p1 p2 p3 p4 : Value) (v : Value) (w : World) (hv : IntsAt w v l) (hl : l.length ≤ 1000000)
    (hp : ∀ W, Below w.heap.size w W → ∀ x ∈ l, Calls Tryz.prog 35 #[.int .i64 x, p1, p2, p3, p4] W fun e w' => e = .returned (.bool (p x)) ∧ Below W.heap.size W w') :
    Calls Tryz.prog 70 #[v, .func (.func 35) #[] #[p1, p2, p3, p4]] w fun e w' =>
      ∃ i : Int, e = .returned (.int .i64 i) ∧ ((i = -1 ∧ ∀ x ∈ l, p x = false) ∨ ∃ (k : Nat) (h : k < l.length), i = k ∧ p l[k] = true ∧ ∀ x ∈ l.take k, p x = false) ∧ Below w.heap.size w w' := by
  have hent := enters_of Tryz.func35 (by kernel_rfl) rfl
  obtain ⟨a, c, rfl, hc, hr⟩ := RdAt.shape hv
  have HC : Hid (∀ j (hj : j < l.length), ∃ b o, a = some ⟨b, o, none⟩ ∧ b < w.heap.size ∧ w.cell? ⟨b, o + j, none⟩ = some (.int .i64 l[j])) := Lib.hid (fun j hj => by
    obtain ⟨b, o, rfl, hlt, hcell⟩ := hr (by omega)
    exact ⟨b, o, rfl, hlt, hcell j _ (by rw [List.getElem?_map, List.getElem?_eq_getElem hj]; rfl)⟩)
  have HP := Lib.hid hp
  clear hv hr hp
  go_enter Tryz.func70, Tryz.ntmps70
  go_wp2
  go_loopw [8] (fun vi wr => ∃ j : Nat, j ≤ l.length ∧ vi = .int .i64 j ∧ Hid (∀ k ∈ l.take j, p k = false) ∧ Hid (Below w.heap.size w wr)) (fun vi _ => l.length - (intOf vi).toNat)
  case atStart => exact ⟨0, Nat.zero_le _, rfl, Lib.hid (fun k hk => by simp at hk), Lib.hid (Below.refl _ _)⟩
  case round =>
    obtain ⟨j, hj, rfl, HN, HB⟩ := hrel
    by_cases hjl : j < l.length
    · obtain ⟨b, o, rfl, hblt, hc0⟩ := HC.out j hjl
      obtain ⟨k, hk⟩ : ∃ k, l[j] = k := ⟨_, rfl⟩
      rw [hk] at hc0
      have d1 := keep_cell hc0 HB.out hblt
      have hcall := HP.out wr HB.out k (hk ▸ List.getElem_mem hjl)
      have HK := Lib.hid hk
      obtain ⟨q, hq⟩ : ∃ q, p k = q := ⟨_, rfl⟩
      rw [hq] at hcall
      have HQ := Lib.hid hq
      clear hc0 hk hq
      go_wp2_with fail
      refine hcall.mono ?_
      rintro e w2 ⟨rfl, hb2⟩
      have HB3 := Lib.hid (HB.out.trans (hb2.mono HB.out.size))
      clear hcall hb2
      cases q with
      | true =>
        go_wp2
        go_ret
        exact ⟨j, rfl, .inr ⟨j, hjl, rfl, by rw [HK.out]; exact HQ.out, HN.out⟩, HB3.out⟩
      | false =>
        have HN2 : Hid (∀ k ∈ l.take (j + 1), p k = false) := Lib.hid (fun q hq => by
          rw [List.take_succ_eq_append_getElem hjl] at hq
          rcases List.mem_append.1 hq with h1 | h1
          · exact HN.out q h1
          · rw [List.mem_singleton.1 h1, HK.out]; exact HQ.out)
        go_wp2
        go_roundw
        case rel => exact ⟨j + 1, by omega, by go_num, HN2, HB3⟩
        case measure => (simp [intOf]; try omega)
    · obtain rfl : j = l.length := by omega
      go_wp2
      go_ret
      exact ⟨-1, rfl, .inl ⟨rfl, fun x hx => HN.out x (by rw [List.take_length]; exact hx)⟩, HB.out⟩
theorem filterI_step {p : Int → Bool} {l : List Int} {j : Nat} (h : j < l.length) : (l.take (j + 1)).filter (fun x => !p x) = (l.take j).filter (fun x => !p x) ++ (if p l[j] then [] else [l[j]]) := by
  rw [List.take_succ_eq_append_getElem h, List.filter_append]
  congr 1
  cases hp : p l[j] <;> simp [hp]
theorem zcI_len (n : Nat) : (Builtin.zeroCells (Value.int .i64 0).cells n).toList.length = n := by simp [Builtin.zeroCells, Value.cells]
theorem zcI_cell (n : Nat) : ∀ v ∈ (Builtin.zeroCells (Value.int .i64 0).cells n).toList, v.oneCell' = true := by
  intro v hv
  simp only [Builtin.zeroCells, Value.cells, Array.toList_map, List.mem_map] at hv
  obtain ⟨i, _, rfl⟩ := hv
  have h2 : i % (#[Value.int .i64 0] : Array Value).size < 1 := Nat.mod_lt _ (by decide)
  generalize i % (#[Value.int .i64 0] : Array Value).size = j at h2
  match j, h2 with
  | 0, _ => rfl
theorem rowI_put {w : World} {g n i : Nat} {Y : List Int} {x : Int} (h : w.rangeAt g 0 (Y.map I)) (ht : w.there g 0 n) (hn : Y.length = n) (hi : i < n) :
    (w.setCell ⟨g, i, none⟩ (.int .i64 x)).rangeAt g 0 ((Y.set i x).map I) ∧ (w.setCell ⟨g, i, none⟩ (.int .i64 x)).there g 0 n := by
  refine ⟨fun j v hj => ?_, there_set ht g i _⟩
  rw [Nat.zero_add]
  rw [List.getElem?_map] at hj
  by_cases hm : j = i
  · subst hm
    rw [List.getElem?_set_self (by omega)] at hj
    have hs := (ht j hi).1
    rw [Nat.zero_add] at hs
    rw [World.cell?_setCell_same' _ _ _ hs, ← hj]; rfl
  · rw [List.getElem?_set_ne (fun e => hm e.symm)] at hj
    rw [set_far (by omega)]
    have := h j v (by rw [List.getElem?_map]; exact hj)
    rwa [Nat.zero_add] at this
set_option maxHeartbeats 1600000 in
set_option maxRecDepth 100000 in
theorem delL_any (l : List Int) (p : Int → Bool) (p1 p2 p3 p4 : Value) (base : Nat) (v : Value) (w : World) (hown : w.ownsRow base 3 1 v l.length (l.map I)) (hbase : base ≤ w.heap.size) (hl : l.length ≤ 1000000)
    (hp : ∀ W, Below base w W → ∀ x ∈ l, Calls Tryz.prog 35 #[.int .i64 x, p1, p2, p3, p4] W fun e w' => e = .returned (.bool (p x)) ∧ Below W.heap.size W w') :
    Calls Tryz.prog 34 #[v, .func (.func 35) #[] #[p1, p2, p3, p4]] w fun e w' =>
      ∃ v', e = .returned v' ∧ IntsAt w' v' (l.filter fun x => !p x) ∧ Below base w w' := by
  have hent := enters_of Tryz.func35 (by kernel_rfl) rfl
  have hv : IntsAt w v l := RdAt.own hown
  have k1 := idxL_any l p p1 p2 p3 p4 v w hv hl (fun W hW x hx => hp W (hW.mono hbase) x hx)
  rcases hown.2 with ⟨rfl, h0⟩ | ⟨g, cap, cur, rfl, hgb, hg, hle, hcap, hsz, htk⟩
  · have hnil : l = [] := List.length_eq_zero_iff.1 h0
    subst hnil
    clear hown hp hv
    go_enter Tryz.func34, Tryz.ntmps34
    go_wp2_with fail
    refine k1.mono ?_
    rintro e w1 ⟨i, rfl, hi, hb1⟩
    rcases hi with ⟨rfl, _⟩ | ⟨k, hk, _⟩
    · clear k1
      have HB1 := Lib.hid (hb1.mono hbase)
      clear hb1
      go_wp2
      go_ret
      exact ⟨_, rfl, RdAt.nil _ _, HB1.out⟩
    · exact absurd hk (Nat.not_lt_zero _)
  · have hr0 : w.rangeAt g 0 (l.map I) := by
      intro j x hj
      obtain ⟨a, c, he, _, hr⟩ := RdAt.shape hv
      have hjl := (List.getElem?_eq_some_iff.1 hj).1
      rw [List.length_map] at hjl
      obtain ⟨b, o, hb, _, hcell⟩ := hr (by omega)
      cases he
      cases hb
      exact hcell j x hj
    have ht0 : w.there g 0 l.length := fun j hj => by
      refine ⟨World.rangeAt.isSome hr0 j (by rw [List.length_map]; exact hj), by simp [World.frozen?, hg]⟩
    have hglt : g < w.heap.size := (Array.getElem?_eq_some_iff.1 hg).1
    have HP := Lib.hid hp
    have HR0 := Lib.hid hr0
    have HTH0 := Lib.hid ht0
    have HV := Lib.hid hv
    clear hv hown hp hr0 ht0 hg htk hsz
    go_enter Tryz.func34, Tryz.ntmps34
    go_wp2_with fail
    refine k1.mono ?_
    rintro e w1 ⟨i, rfl, hi, hb1⟩
    have HR1 := Lib.hid (range_later HR0.out hb1 hglt)
    have HTH1 := Lib.hid (there_later HTH0.out hb1 hglt)
    have HB1 := Lib.hid (hb1.mono hbase)
    have HV1 := Lib.hid (HV.out.later hb1)
    clear k1 HR0 HTH0 hb1 HV
    rcases hi with ⟨rfl, hno⟩ | ⟨k, hk, rfl, hpk, hpn⟩
    · have HN : Hid (l.filter (fun x => !p x) = l) := Lib.hid (List.filter_eq_self.2 (fun x hx => by rw [hno x hx]; rfl))
      clear hno
      go_wp2
      go_ret
      exact ⟨_, rfl, by rw [HN.out]; exact HV1.out, HB1.out⟩
    · have hT1 : (l.take k).filter (fun x => !p x) = l.take k := List.filter_eq_self.2 (fun x hx => by rw [hpn x hx]; rfl)
      have HT2 : Hid (l.take k = (l.take (k + 1)).filter (fun x => !p x)) := Lib.hid (by rw [filterI_step hk, hT1, hpk]; simp)
      have hk1 : ((k : Int) == -1) = false := by rw [beq_eq_false_iff_ne]; omega
      clear hT1 hpk hpn HV1
      go_wp2
      go_loopw [5, 6] (fun vi vj wr => ∃ (i j : Nat) (Y : List Int), vi = .int .i64 i ∧ vj = .int .i64 j ∧ i < j ∧ j ≤ l.length ∧ Hid (Y.length = l.length) ∧ Hid (Y.take i = (l.take j).filter (fun x => !p x)) ∧ Hid (Y.drop j = l.drop j) ∧ Hid (wr.rangeAt g 0 (Y.map I)) ∧ Hid (wr.there g 0 l.length) ∧ Hid (Below base w wr))
        (fun _ vj _ => l.length - (intOf vj).toNat)
      case atStart => exact ⟨k, k + 1, l, rfl, by go_num, by omega, by omega, Lib.hid rfl, HT2, Lib.hid rfl, HR1, HTH1, HB1⟩
      case round =>
        clear HR1 HTH1 HB1 HT2
        obtain ⟨i, j, Y, rfl, rfl, hij, hjl, HY, HT, HD, HR, HTH, HB⟩ := hrel
        have hgr : g < wr.heap.size := Nat.lt_of_lt_of_le hglt HB.out.size
        by_cases hjj : j < l.length
        · have hYj : Y[j]'(by have := HY.out; omega) = l[j] := by
            have h := congrArg (fun z => z[0]?) HD.out
            simp only [List.getElem?_drop, Nat.add_zero] at h
            rw [List.getElem?_eq_getElem hjj, List.getElem?_eq_getElem (by have := HY.out; omega)] at h
            exact Option.some.inj h
          have hc0 := int_range HR.out (j := j) (by have := HY.out; omega)
          rw [hYj, Nat.zero_add] at hc0
          obtain ⟨x, hx⟩ : ∃ x, l[j] = x := ⟨_, rfl⟩
          have hxm : x ∈ l := hx ▸ List.getElem_mem hjj
          rw [hx] at hc0
          have HX := Lib.hid hx
          have kp := HP.out wr HB.out x hxm
          obtain ⟨q, hq⟩ : ∃ q, p x = q := ⟨_, rfl⟩
          rw [hq] at kp
          have HQ := Lib.hid hq
          clear hq hx hYj hxm
          go_wp2_with fail
          refine kp.mono ?_
          rintro e w2 ⟨rfl, hb2⟩
          have HB2 := Lib.hid (HB.out.trans (hb2.mono (Nat.le_trans hbase HB.out.size)))
          have HR2 := Lib.hid (range_later HR.out hb2 hgr)
          have HT2 := Lib.hid (there_later HTH.out hb2 hgr)
          have HD2 : Hid (Y.drop (j + 1) = l.drop (j + 1)) := by
            show _ = _
            have h := congrArg (List.drop 1) HD.out
            rw [List.drop_drop, List.drop_drop] at h
            first | exact h | (rw [Nat.add_comm j 1]; exact h)
          cases q
          · have c0 := int_range HR2.out (j := i) (by have := HY.out; omega)
            rw [Nat.zero_add] at c0
            have f0 := there_free HT2.out i (by omega)
            clear kp hb2 HR HTH HB hc0
            go_wp2
            go_roundw
            case rel =>
              have hYi : i < Y.length := by have := HY.out; omega
              have hlen : (Y.take i).length = i := by rw [List.length_take]; omega
              refine ⟨i + 1, j + 1, Y.set i x, by go_num, by go_num, by omega, by omega, Lib.hid (by rw [List.length_set]; exact HY.out), Lib.hid ?_, Lib.hid ?_, Lib.hid ?_, Lib.hid ?_, Lib.hid ?_⟩
              · rw [filterI_step hjj, HX.out, HQ.out, ← HT.out]
                simp only [Bool.false_eq_true, if_false]
                apply List.ext_getElem?
                intro m
                rcases Nat.lt_trichotomy m i with hm | hm | hm
                · rw [List.getElem?_take_of_lt (by omega), List.getElem?_set_ne (by omega), List.getElem?_append_left (by omega), List.getElem?_take_of_lt hm]
                · subst hm
                  rw [List.getElem?_take_of_lt (by omega), List.getElem?_set_self hYi, List.getElem?_append_right (by omega), hlen]; simp
                · rw [List.getElem?_take_eq_none (by omega), List.getElem?_eq_none (by simp; omega)]
              · apply List.ext_getElem?
                intro m
                have h := congrArg (fun z => z[m]?) HD2.out
                simp only [List.getElem?_drop] at h ⊢
                rw [List.getElem?_set_ne (by omega)]
                exact h
              · exact (rowI_put HR2.out HT2.out HY.out (by omega)).1
              · exact (rowI_put HR2.out HT2.out HY.out (by omega)).2
              · exact below_put_base HB2.out hgb
            case measure => (simp [intOf]; try omega)
          · clear kp hb2 HR HTH HB hc0
            go_wp2
            go_roundw
            case rel => exact ⟨i, j + 1, Y, rfl, by go_num, by omega, by omega, HY, Lib.hid (by rw [HT.out, filterI_step hjj, HX.out, HQ.out]; simp), HD2, HR2, HT2, HB2⟩
            case measure => (simp [intOf]; try omega)
        · obtain rfl : j = l.length := by omega
          have hcl : ∀ ty, (Builtin.clear_ #[38] ty #[.slice (some ⟨g, i, none⟩) (l.length - i) (cap - i)]).run Tryz.prog wr = .ok (.tuple #[]) (wr.setCells g i (Builtin.zeroCells (Value.int .i64 0).cells (l.length - i)).toList) := fun ty =>
            run_clear_row wr 38 3 ty _ Tryz.underlying38 Tryz.zeroValue3 g i (l.length - i) (cap - i) (by omega) (fun j hj => by
              have := HTH.out (i + j) (by rw [zcI_len] at hj; omega)
              rw [Nat.zero_add] at this
              exact this) (zcI_cell _)
          have HZ := Lib.hid (zcI_len (l.length - i))
          generalize hzc : (Builtin.zeroCells (Value.int .i64 0).cells (l.length - i)).toList = zc at *
          go_wp2
          go_ret
          have hYl : (Y.take i).length = i := by rw [List.length_take, HY.out]; omega
          have hFl : l.filter (fun x => !p x) = Y.take i := by have := HT.out; rw [List.take_length] at this; exact this.symm
          refine ⟨_, rfl, ?_, below_puts_base HB.out hgb _⟩
          rw [hFl]
          unfold IntsAt
          rw [hYl]
          refine RdAt.mk (by rw [List.length_map, hYl]; omega) (by omega) ?_ (fun m y hm => ?_)
          · have := (below_puts_base (o := i) HB.out hgb zc).size; omega
          · have hml := (List.getElem?_eq_some_iff.1 hm).1
            rw [List.length_map, hYl] at hml
            rw [World.cell?_setCells_out _ _ _ _ _ (fun _ _ => by simp; omega)]
            have := HR.out m y (by rw [List.getElem?_map] at hm ⊢; rw [List.getElem?_take_of_lt (by omega)] at hm; exact hm)
            exact this
end Go.Proofs.YtipnhpfpppblhaaGreat

/- inhibit.Left: a contract. -/
namespace Go.Proofs.YtipnhpfpppblhaaGreat
open Go.RowKit Go.Maps
noncomputable def hushK (p : PD) (l : List (Al × Value)) (t : Int × Nat) (now : Int) (k : Int) : Bool := decide (0 < (quietK p l k t now).length)
noncomputable def leftL (p : PD) (l : List (Al × Value)) (t : Int × Nat) (now : Int) : List Int := if checkP p = 0 then (idxF (toldA p.ra t now) l).filter fun k => !(hushK p l t now k) else []
structure LBx (b : Nat) (v0 v1 v2 v3 v4 v5 lv : Value) (tl : Int) (tc : Nat) (now : Int) (W : World) : Prop where
  p : C6 b v0 v1 v2 v3 v4 v5 W
  l : W.cell? ⟨b + 1, 0, none⟩ = some lv
  t0 : W.cell? ⟨b + 1 + 1, 0, none⟩ = some (.int .i64 tl)
  t1 : W.cell? ⟨b + 1 + 1, 1, none⟩ = some (.int .u32 tc)
  n : W.cell? ⟨b + 1 + 1 + 1, 0, none⟩ = some (.int .i64 now)
  lt : b + 1 + 1 + 1 < W.heap.size
theorem LBx.later {b : Nat} {v0 v1 v2 v3 v4 v5 lv : Value} {tl : Int} {tc : Nat} {now : Int} {W W' : World} (h : LBx b v0 v1 v2 v3 v4 v5 lv tl tc now W) (hb : Below W.heap.size W W') : LBx b v0 v1 v2 v3 v4 v5 lv tl tc now W' := by
  have hl := h.lt
  exact ⟨h.p.later hb (by omega), keep_cell h.l hb (by show b + 1 < _; omega), keep_cell h.t0 hb (by show b + 1 + 1 < _; omega), keep_cell h.t1 hb (by show b + 1 + 1 < _; omega), keep_cell h.n hb hl, Nat.lt_of_lt_of_le hl hb.size⟩
theorem lbx_new (w : World) (v0 v1 v2 v3 v4 v5 lv : Value) (tl : Int) (tc : Nat) (now : Int) (s t r q : TypeId) :
    LBx w.heap.size v0 v1 v2 v3 v4 v5 lv tl tc now ((((w.alloc (.cells #[v0, v1, v2, v3, v4, v5] s)).alloc (.cells #[lv] t)).alloc (.cells #[.int .i64 tl, .int .u32 tc] r)).alloc (.cells #[.int .i64 now] q)) ∧
      Below w.heap.size w ((((w.alloc (.cells #[v0, v1, v2, v3, v4, v5] s)).alloc (.cells #[lv] t)).alloc (.cells #[.int .i64 tl, .int .u32 tc] r)).alloc (.cells #[.int .i64 now] q)) := by
  obtain ⟨W1, h1⟩ : ∃ z, w.alloc (.cells #[v0, v1, v2, v3, v4, v5] s) = z := ⟨_, rfl⟩
  obtain ⟨W2, h2⟩ : ∃ z, W1.alloc (.cells #[lv] t) = z := ⟨_, rfl⟩
  obtain ⟨W3, h3⟩ : ∃ z, W2.alloc (.cells #[.int .i64 tl, .int .u32 tc] r) = z := ⟨_, rfl⟩
  obtain ⟨W4, h4⟩ : ∃ z, W3.alloc (.cells #[.int .i64 now] q) = z := ⟨_, rfl⟩
  rw [h1, h2, h3, h4]
  have s1 : W1.heap.size = w.heap.size + 1 := by rw [← h1, World.size_alloc]
  have s2 : W2.heap.size = w.heap.size + 1 + 1 := by rw [← h2, World.size_alloc, s1]
  have s3 : W3.heap.size = w.heap.size + 1 + 1 + 1 := by rw [← h3, World.size_alloc, s2]
  have s4 : W4.heap.size = w.heap.size + 1 + 1 + 1 + 1 := by rw [← h4, World.size_alloc, s3]
  have b1 : Below w.heap.size w W1 := by rw [← h1]; exact alloc_below _ _
  have b2 : Below W1.heap.size W1 W2 := by rw [← h2]; exact alloc_below _ _
  have b3 : Below W2.heap.size W2 W3 := by rw [← h3]; exact alloc_below _ _
  have b4 : Below W3.heap.size W3 W4 := by rw [← h4]; exact alloc_below _ _
  have c24 : Below W2.heap.size W2 W4 := b3.trans (b4.mono (by omega))
  have c14 : Below W1.heap.size W1 W4 := b2.trans (c24.mono (by omega))
  have x6 : C6 w.heap.size v0 v1 v2 v3 v4 v5 W1 := by rw [← h1]; exact box6n w _ _ _ _ _ _ _
  have g2 : W2.cell? ⟨W1.heap.size, 0, none⟩ = some lv := by rw [← h2]; exact World.cell?_alloc_at _ _ _ _ rfl
  have g3 : W3.cell? ⟨W2.heap.size, 0, none⟩ = some (.int .i64 tl) := by rw [← h3]; exact World.cell?_alloc_at _ _ _ _ rfl
  have g3' : W3.cell? ⟨W2.heap.size, 1, none⟩ = some (.int .u32 tc) := by rw [← h3]; exact World.cell?_alloc_at _ _ _ _ rfl
  have g4 : W4.cell? ⟨W3.heap.size, 0, none⟩ = some (.int .i64 now) := by rw [← h4]; exact World.cell?_alloc_at _ _ _ _ rfl
  refine ⟨⟨x6.later c14 (by omega), ?_, ?_, ?_, ?_, by omega⟩, b1.trans (c14.mono (by omega))⟩
  · rw [← s1]; exact keep_cell g2 c24 (by show W1.heap.size < W2.heap.size; omega)
  · rw [← s2]; exact keep_cell g3 b4 (by show W2.heap.size < W3.heap.size; omega)
  · rw [← s2]; exact keep_cell g3' b4 (by show W2.heap.size < W3.heap.size; omega)
  · rw [← s3]; exact g4
set_option maxHeartbeats 3200000 in
set_option maxRecDepth 100000 in
theorem leftclos (v : PV) (p : PD) (l : List (Al × Value)) (lv : Value) (b : Nat) (k : Int) (tl : Int) (tc : Nat) (now : Int) (w : World) (hp : PolAt w v p) (hpf : PolFitD p) (hl : AlsAt w lv l) (hlen : l.length ≤ maxLen) (hx : LBx b v.v0 v.v1 v.v2 v.v3 v.v4 v.v5 lv tl tc now w) :
    Calls Tryz.prog 35 #[.int .i64 k, .pointer (some ⟨b, 0, none⟩), .pointer (some ⟨b + 1, 0, none⟩), .pointer (some ⟨b + 1 + 1, 0, none⟩), .pointer (some ⟨b + 1 + 1 + 1, 0, none⟩)] w fun e w' => e = .returned (.bool (hushK p l (tl, tc) now k)) ∧ Below w.heap.size w w' := by
  have kq := iquiet_any v p l lv k tl tc now w hp hpf hl hlen
  obtain ⟨v0, v1, v2, v3, v4, v5⟩ := v
  obtain ⟨h0, h1, h2, h3, ⟨h4, _⟩, h5, _⟩ := hp
  dsimp only at *
  obtain ⟨a0, c0, rfl, _, _⟩ := RdAt.shape h0
  obtain ⟨a1, c1, rfl, _, _⟩ := RdAt.shape h1
  obtain ⟨a2, c2, rfl, _, _⟩ := RdAt.shape h2
  obtain ⟨a3, c3, rfl, _, _⟩ := RdAt.shape h3
  obtain ⟨a4, c4, rfl, _, _⟩ := RdAt.shape h4
  obtain ⟨a5, c5, rfl, _, _⟩ := RdAt.shape h5
  obtain ⟨la, lc, rfl, _, _⟩ := RdAt.shape hl.row
  have HH : Hid (hushK p l (tl, tc) now k = decide (0 < (quietK p l k (tl, tc) now).length)) := Lib.hid rfl
  generalize hushK p l (tl, tc) now k = R at *
  generalize quietK p l k (tl, tc) now = Q at *
  obtain ⟨⟨q0, q1, q2, q3, q4, q5⟩, c0', t0, t1, n0, _⟩ := hx
  clear h0 h1 h2 h3 h4 h5 hl hpf
  go_enter Tryz.func35, Tryz.ntmps35
  go_wp2_with fail
  refine kq.mono ?_
  rintro e w1 ⟨r, rfl, hr, hb1⟩
  have HB := Lib.hid hb1
  have hrr := RdAt.shape (RdAt.own hr)
  obtain ⟨ra, rc, rfl, _, _⟩ := hrr
  clear kq hr hb1 q0 q1 q2 q3 q4 q5 c0' t0 t1 n0
  generalize Q.length = n at *
  by_cases hn : 0 < n
  · have hi : (0 : Int) < (n : Int) := by omega
    go_wp2
    go_ret
    exact ⟨by rw [HH.out, decide_eq_true hn]; rfl, HB.out⟩
  · obtain rfl : n = 0 := by omega
    go_wp2
    go_ret
    exact ⟨by rw [HH.out]; rfl, HB.out⟩
set_option maxHeartbeats 3200000 in
set_option maxRecDepth 100000 in
theorem ileft_any (v : PV) (p : PD) (l : List (Al × Value)) (lv : Value) (tl : Int) (tc : Nat) (now : Int) (w : World) (hp : PolAt w v p) (hpf : PolFitD p) (hl : AlsAt w lv l) (hlen : l.length ≤ 1000000) (h12 : ∀ q ∈ l, q.1.fl.length ≤ 12) :
    Calls Tryz.prog 17 #[v.v, lv, Lab tl tc, .int .i64 now] w fun e w' => ∃ r, e = .returned r ∧ IntsAt w' r (leftL p l (tl, tc) now) ∧ Below w.heap.size w w' := by
  have hlm : l.length ≤ maxLen := by unfold maxLen; omega
  have KC := Lib.hid (fun W (h : Below w.heap.size w W) => pcheck_any v p W (hp.later h) hpf)
  have KT := Lib.hid (fun W (h : Below w.heap.size w W) => told_any v p l lv tl tc now W (hp.later h) hpf (hl.later h) hlen h12)
  have KL := Lib.hid (fun k W (h : Below w.heap.size w W) hx => leftclos v p l lv w.heap.size k tl tc now W (hp.later h) hpf (hl.later h) hlm hx)
  have HLN := Lib.hid (idxTo_len (toldA p.ra (tl, tc) now) l l.length)
  have HLL : Hid (leftL p l (tl, tc) now = if checkP p = 0 then (idxF (toldA p.ra (tl, tc) now) l).filter (fun k => !(hushK p l (tl, tc) now k)) else []) := Lib.hid rfl
  obtain ⟨v0, v1, v2, v3, v4, v5⟩ := v
  obtain ⟨h0, h1, h2, h3, ⟨h4, _⟩, h5, _⟩ := hp
  dsimp only at *
  obtain ⟨a0, c0, rfl, _, _⟩ := RdAt.shape h0
  obtain ⟨a1, c1, rfl, _, _⟩ := RdAt.shape h1
  obtain ⟨a2, c2, rfl, _, _⟩ := RdAt.shape h2
  obtain ⟨a3, c3, rfl, _, _⟩ := RdAt.shape h3
  obtain ⟨a4, c4, rfl, _, _⟩ := RdAt.shape h4
  obtain ⟨a5, c5, rfl, _, _⟩ := RdAt.shape h5
  obtain ⟨la, lc, rfl, _, _⟩ := RdAt.shape hl.row
  obtain ⟨W0, hW0⟩ : ∃ z, (((w.alloc (.cells #[.slice a0 p.so.length c0, .slice a1 p.re.length c1, .slice a2 p.pe.length c2, .slice a3 p.ra.length c3, .slice a4 p.ro.length c4, .slice a5 p.ih.length c5] 26)).alloc (.cells #[.slice la l.length lc] 31)).alloc (.cells #[.int .i64 tl, .int .u32 tc] 36)).alloc (.cells #[.int .i64 now] 3) = z := ⟨_, rfl⟩
  obtain ⟨hx, hb⟩ := lbx_new w (.slice a0 p.so.length c0) (.slice a1 p.re.length c1) (.slice a2 p.pe.length c2) (.slice a3 p.ra.length c3) (.slice a4 p.ro.length c4) (.slice a5 p.ih.length c5) (.slice la l.length lc) tl tc now 26 31 36 3
  rw [hW0] at hx hb
  have HX := Lib.hid hx
  have HB := Lib.hid hb
  have HW0 := Lib.hid hW0
  clear h0 h1 h2 h3 h4 h5 hl hpf h12 hx hb hW0
  go_enter Tryz.func17, Tryz.ntmps17
  go_upto_region 1 with fail
  rw [HW0.out]
  clear HW0
  obtain ⟨q0, q1, q2, q3, q4, q5⟩ := HX.out.p
  have kc := KC.out W0 HB.out
  by_cases hck : checkP p = 0
  · rw [hck] at kc
    have HLE : Hid (leftL p l (tl, tc) now = (idxF (toldA p.ra (tl, tc) now) l).filter (fun k => !(hushK p l (tl, tc) now k))) := Lib.hid (by rw [HLL.out, if_pos hck])
    clear hck HLL
    go_wp2_with fail
    refine kc.mono ?_
    rintro e w1 ⟨rfl, hb1⟩
    have HX1 := Lib.hid (HX.out.later hb1)
    have HB1 := Lib.hid (HB.out.trans (hb1.mono HB.out.size))
    clear kc hb1 q0 q1 q2 q3 q4 q5 HX HB
    obtain ⟨⟨q0, q1, q2, q3, q4, q5⟩, e0, t0, t1, n0, _⟩ := HX1.out
    have kt := KT.out w1 HB1.out
    go_wp2_with fail
    refine kt.mono ?_
    rintro e w2 ⟨r, rfl, hown, hb2⟩
    have HX2 := Lib.hid (HX1.out.later hb2)
    have HB2 := Lib.hid (HB1.out.trans (hb2.mono HB1.out.size))
    have hs12 := hb2.size
    have hlt := HX1.out.lt
    have kd := delL_any (idxF (toldA p.ra (tl, tc) now) l) (hushK p l (tl, tc) now) (.pointer (some ⟨w.heap.size, 0, none⟩)) (.pointer (some ⟨w.heap.size + 1, 0, none⟩)) (.pointer (some ⟨w.heap.size + 1 + 1, 0, none⟩)) (.pointer (some ⟨w.heap.size + 1 + 1 + 1, 0, none⟩)) w1.heap.size r w2 hown hs12 (by have := HLN.out; unfold idxF; omega)
      (fun W hW x hx => KL.out x W (HB2.out.trans (hW.mono (by have := HB1.out.size; omega))) (by
        have hb12 : Below w1.heap.size w1 W := hb2.trans hW
        exact HX1.out.later hb12))
    have hrs := RdAt.shape (RdAt.own hown)
    obtain ⟨ra, rc, rfl, _, _⟩ := hrs
    clear kt hown hb2 q0 q1 q2 q3 q4 q5 e0 t0 t1 n0
    go_wp2_with fail
    refine kd.mono ?_
    rintro e w3 ⟨r', rfl, hr', hb3⟩
    have HR := Lib.hid hr'
    have HB3 := Lib.hid (HB2.out.trans (hb3.mono (by have := HB1.out.size; omega)))
    clear kd hr' hb3
    go_wp2
    go_ret
    exact ⟨r', rfl, by rw [HLE.out]; exact HR.out, HB3.out⟩
  · have HLE : Hid (leftL p l (tl, tc) now = []) := Lib.hid (by rw [HLL.out, if_neg hck])
    generalize checkP p = ck at *
    go_wp2_with fail
    refine kc.mono ?_
    rintro e w1 ⟨rfl, hb1⟩
    have HB1 := Lib.hid (HB.out.trans (hb1.mono HB.out.size))
    clear kc hb1 q0 q1 q2 q3 q4 q5
    go_wp2
    go_ret
    exact ⟨_, rfl, by rw [HLE.out]; exact RdAt.nil _ 1, HB1.out⟩
end Go.Proofs.YtipnhpfpppblhaaGreat

/- inhibit.Bits: a contract. -/
namespace Go.Proofs.YtipnhpfpppblhaaGreat
open Go.RowKit Go.Maps
def ILs (g : Nat) (a : Option Addr) (L : List Int) (W : World) : Prop := ∀ j (h : j < L.length), ∃ b o, a = some ⟨b, o, none⟩ ∧ b ≠ g ∧ b < W.heap.size ∧ W.cell? ⟨b, o + j, none⟩ = some (.int .i64 L[j])
theorem ILs.later {g : Nat} {a : Option Addr} {L : List Int} {W W' : World} (h : ILs g a L W) (hb : Below W.heap.size W W') : ILs g a L W' := fun j hj => by
  obtain ⟨b, o, e, hn, hl, hc⟩ := h j hj
  exact ⟨b, o, e, hn, Nat.lt_of_lt_of_le hl hb.size, keep_cell hc hb hl⟩
theorem ILs.put {g : Nat} {a : Option Addr} {L : List Int} {W : World} (h : ILs g a L W) (i : Nat) (v : Value) : ILs g a L (W.setCell ⟨g, i, none⟩ v) := fun j hj => by
  obtain ⟨b, o, e, hn, hl, hc⟩ := h j hj
  exact ⟨b, o, e, hn, by rw [(World.size_setCell _ _ _)]; exact hl, by rw [World.cell?_setCell_other _ _ _ _ (by intro e; cases e; exact hn rfl)]; exact hc⟩
theorem ils_of {g base : Nat} {a : Option Addr} {c : Nat} {L : List Int} {W : World} (h : W.ownsRow base 3 1 (.slice a L.length c) L.length (L.map I)) (hg : g < base) : ILs g a L W := fun j hj => by
  obtain ⟨x, y, e, _, hr⟩ := RdAt.shape (RdAt.own h)
  simp only [Value.slice.injEq] at e
  obtain ⟨rfl, _, rfl⟩ := e
  obtain ⟨b, o, rfl, hl, hc⟩ := hr (by omega)
  refine ⟨b, o, rfl, ?_, hl, hc j _ (by rw [List.getElem?_map, List.getElem?_eq_getElem hj]; rfl)⟩
  have := (h.lt b rfl).1
  omega
noncomputable def bitTo (p : PD) (l : List (Al × Value)) (t : Int × Nat) (now : Int) (T : List Int) (n : Nat) (i : Nat) : Bool := (T.take n).any fun k => (quietK p l k t now).contains (i : Int)
noncomputable def bitX (p : PD) (l : List (Al × Value)) (t : Int × Nat) (now : Int) (i : Nat) : Bool := (idxF (toldA p.ra t now) l).any fun k => (quietK p l k t now).contains (i : Int)
theorem bitTo_step {p : PD} {l : List (Al × Value)} {t : Int × Nat} {now : Int} {T : List Int} {n : Nat} (h : n < T.length) (i : Nat) : bitTo p l t now T (n + 1) i = (bitTo p l t now T n i || (quietK p l T[n] t now).contains (i : Int)) := by
  unfold bitTo
  rw [List.take_succ_eq_append_getElem h, List.any_append]
  simp
theorem idxF_lt {α : Type} {f : α → Bool} {l : List α} {k : Int} (h : k ∈ idxF f l) : 0 ≤ k ∧ k < l.length := by
  unfold idxF idxTo at h
  obtain ⟨i, hi, rfl⟩ := List.mem_map.1 h
  have := List.mem_range.1 (List.mem_filter.1 hi).1
  omega
theorem quietK_lt {p : PD} {l : List (Al × Value)} {k : Int} {t : Int × Nat} {now : Int} {i : Int} (h : i ∈ quietK p l k t now) : 0 ≤ i ∧ i < p.ih.length := by
  unfold quietK at h
  split at h
  · split at h
    · unfold quietX at h
      split at h
      · exact idxF_lt h
      · cases h
    · cases h
  · cases h
theorem quietK_len (p : PD) (l : List (Al × Value)) (k : Int) (t : Int × Nat) (now : Int) : (quietK p l k t now).length ≤ p.ih.length := by
  unfold quietK
  split
  · split
    · unfold quietX
      split
      · exact idxTo_len _ _ _
      · exact Nat.zero_le _
    · exact Nat.zero_le _
  · exact Nat.zero_le _
theorem BW.later {w wr wr' : World} {b n : Nat} {X : Nat → Bool} (h : BW w wr b n X) (hb : Below wr.heap.size wr wr') : BW w wr' b n X := ⟨h.row.of_block (hb.block b h.row.lt), h.bl.trans (hb.mono h.bl.size), h.hb⟩
set_option maxHeartbeats 3200000 in
set_option maxRecDepth 100000 in
theorem ibits_any (v : PV) (p : PD) (l : List (Al × Value)) (lv : Value) (tl : Int) (tc : Nat) (now : Int) (w : World) (hp : PolAt w v p) (hpf : PolFitD p) (hl : AlsAt w lv l) (hlen : l.length ≤ 1000000) (h12 : ∀ q ∈ l, q.1.fl.length ≤ 12) (h14 : p.ih.length ≤ 14) :
    Calls Tryz.prog 15 #[v.v, lv, Lab tl tc, .int .i64 now] w fun e w' => ∃ r, e = .returned r ∧ BsAt w' r p.ih.length (bitX p l (tl, tc) now) ∧ Below w.heap.size w w' := by
  have hlm : l.length ≤ maxLen := by unfold maxLen; omega
  have KT := Lib.hid (fun W (h : Below w.heap.size w W) => told_any v p l lv tl tc now W (hp.later h) hpf (hl.later h) hlen h12)
  have KQ := Lib.hid (fun k W (h : Below w.heap.size w W) => iquiet_any v p l lv k tl tc now W (hp.later h) hpf (hl.later h) hlm)
  have HLN := Lib.hid (idxTo_len (toldA p.ra (tl, tc) now) l l.length)
  have HQL := Lib.hid (fun k i (h : i ∈ quietK p l k (tl, tc) now) => quietK_lt h)
  have HBX : Hid (∀ i, bitX p l (tl, tc) now i = bitTo p l (tl, tc) now (idxF (toldA p.ra (tl, tc) now) l) (idxF (toldA p.ra (tl, tc) now) l).length i) := Lib.hid (fun i => by unfold bitX bitTo; rw [List.take_length])
  obtain ⟨v0, v1, v2, v3, v4, v5⟩ := v
  obtain ⟨h0, h1, h2, h3, ⟨h4, _⟩, h5, _⟩ := hp
  dsimp only at *
  obtain ⟨a0, c0, rfl, _, _⟩ := RdAt.shape h0
  obtain ⟨a1, c1, rfl, _, _⟩ := RdAt.shape h1
  obtain ⟨a2, c2, rfl, _, _⟩ := RdAt.shape h2
  obtain ⟨a3, c3, rfl, _, _⟩ := RdAt.shape h3
  obtain ⟨a4, c4, rfl, _, _⟩ := RdAt.shape h4
  obtain ⟨a5, c5, rfl, _, _⟩ := RdAt.shape h5
  obtain ⟨la, lc, rfl, _, _⟩ := RdAt.shape hl.row
  obtain ⟨i0, hi, hz0, hz1, hz2⟩ := info_parts info_bool
  obtain ⟨W0, hW0⟩ : ∃ z, (w.alloc (.cells #[.slice a0 p.so.length c0, .slice a1 p.re.length c1, .slice a2 p.pe.length c2, .slice a3 p.ra.length c3, .slice a4 p.ro.length c4, .slice a5 p.ih.length c5] 26)).alloc (.cells #[.int .i64 tl, .int .u32 tc] 36) = z := ⟨_, rfl⟩
  have HS0 : Hid (QPt w (.slice a0 p.so.length c0) (.slice a1 p.re.length c1) (.slice a2 p.pe.length c2) (.slice a3 p.ra.length c3) (.slice a4 p.ro.length c4) (.slice a5 p.ih.length c5) tl tc W0) := Lib.hid (by rw [← hW0]; exact qpt_new w _ _ _ _ _ _ _ _ _ _)
  have HW0 := Lib.hid hW0
  have HN := Lib.hid (BW.new W0 p.ih.length)
  clear h0 h1 h2 h3 h4 h5 hl hpf h12 hW0
  go_enter Tryz.func15, Tryz.ntmps15
  go_upto_region 1 with fail
  rw [HW0.out]
  clear HW0
  obtain ⟨q0, q1, q2, q3, q4, q5⟩ := HS0.out.p
  go_upto_region 2 with ((with_reducible refine wpList_make_row _ rfl _ _ 41 rfl 4 i0 (.bool false) Tryz.underlying41 hi hz0 hz1 rfl .i64 .i64 p.ih.length ?hl ?hc ?hb ?h63 ?_); (case hl => rfl); (case hc => rfl); (case hb => rw [hz2]; omega); (case h63 => omega))
  refine wp_forget3 (fun W => BW W0 W W0.heap.size p.ih.length (fun _ => false) ∧ W0.heap.size < W.heap.size) ⟨HN.out, by rw [World.size_alloc]; omega⟩ (fun w1 hw1 => ?_)
  have H1 := Lib.hid hw1.1
  have hg1 := hw1.2
  have HS1 := Lib.hid (HS0.out.later H1.out.bl)
  clear hw1 HN q0 q1 q2 q3 q4 q5
  obtain ⟨q0, q1, q2, q3, q4, q5⟩ := HS1.out.p
  have t0 := HS1.out.t0
  have t1 := HS1.out.t1
  have kt := KT.out w1 HS1.out.below
  go_wp2_with fail
  refine kt.mono ?_
  rintro e w2 ⟨r, rfl, hown, hb2⟩
  have H2 := Lib.hid (H1.out.later hb2)
  have hrs := RdAt.shape (RdAt.own hown)
  obtain ⟨ra, rc, rfl, _, _⟩ := hrs
  have HT2 := Lib.hid (ils_of hown hg1)
  have HTL : Hid (∀ k ∈ idxF (toldA p.ra (tl, tc) now) l, 0 ≤ k ∧ k < l.length) := Lib.hid (fun k hk => idxF_lt hk)
  have htl := HLN.out
  rw [show idxTo (toldA p.ra (tl, tc) now) l l.length = idxF (toldA p.ra (tl, tc) now) l from rfl] at htl
  generalize idxF (toldA p.ra (tl, tc) now) l = T at *
  clear kt hown hb2 q0 q1 q2 q3 q4 q5 t0 t1 H1 HS1
  have hgw := HS0.out.below.size
  go_wp2
  go_loopw [24] (fun i wr => ∃ (n : Nat), i = .int .i64 n ∧ n ≤ T.length ∧ Hid (BW W0 wr W0.heap.size p.ih.length (bitTo p l (tl, tc) now T n)) ∧ Hid (ILs W0.heap.size ra T wr)) (fun i _ => T.length - (intOf i).toNat)
  case atStart => exact ⟨0, rfl, Nat.zero_le _, Lib.hid (H2.out.congr (fun j _ => by unfold bitTo; simp)), HT2⟩
  case round =>
    clear H2 HT2
    obtain ⟨n, rfl, hn, HW, HT⟩ := hrel
    by_cases hnl : n < T.length
    · obtain ⟨tb, tof, rfl, htb, htbl, htc⟩ := HT.out n hnl
      have HST := Lib.hid (fun i => bitTo_step (p := p) (l := l) (t := (tl, tc)) (now := now) hnl i)
      generalize T[n] = k at *
      have HSW := Lib.hid (HS0.out.later HW.out.bl)
      obtain ⟨q0, q1, q2, q3, q4, q5⟩ := HSW.out.p
      have t0 := HSW.out.t0
      have t1 := HSW.out.t1
      have kq := KQ.out k wr HSW.out.below
      have HQI := Lib.hid (HQL.out k)
      go_wp2_with fail
      refine kq.mono ?_
      rintro e w3 ⟨r, rfl, hown, hb3⟩
      have HW3 := Lib.hid (HW.out.later hb3)
      have HT3 := Lib.hid (HT.out.later hb3)
      have hrs := RdAt.shape (RdAt.own hown)
      obtain ⟨qa, qc, rfl, _, _⟩ := hrs
      have HQ3 := Lib.hid (ils_of hown (HW.out.row.lt))
      have hql := quietK_len p l k (tl, tc) now
      generalize quietK p l k (tl, tc) now = Q at *
      clear kq hown hb3 q0 q1 q2 q3 q4 q5 t0 t1 HW HT htc htbl HSW
      obtain ⟨wo, hwo⟩ : ∃ z, z = wr := ⟨_, rfl⟩
      clear hwo
      go_wp2
      go_loopw [35] (fun i wr => ∃ (m : Nat), i = .int .i64 m ∧ m ≤ Q.length ∧ Hid (BW W0 wr W0.heap.size p.ih.length (fun i => bitTo p l (tl, tc) now T n i || (Q.take m).contains (i : Int))) ∧ Hid (ILs W0.heap.size (some ⟨tb, tof, none⟩) T wr) ∧ Hid (ILs W0.heap.size qa Q wr)) (fun i _ => Q.length - (intOf i).toNat)
      case atStart => exact ⟨0, rfl, Nat.zero_le _, Lib.hid (HW3.out.congr (fun j _ => by simp)), HT3, HQ3⟩
      case round =>
        clear HW3 HT3 HQ3
        obtain ⟨m, rfl, hm, HW, HT, HQ⟩ := hrel
        by_cases hml : m < Q.length
        · obtain ⟨qb, qo, rfl, hqb, hqbl, hqc⟩ := HQ.out m hml
          obtain ⟨hz0', hz1'⟩ := HQI.out _ (List.getElem_mem hml)
          have HTK : Hid (Q.take (m + 1) = Q.take m ++ [Q[m]]) := Lib.hid (List.take_succ_eq_append_getElem hml)
          obtain ⟨z, hz⟩ : ∃ z : Nat, Q[m] = (z : Int) := ⟨(Q[m]).toNat, by omega⟩
          rw [hz] at hqc hz0' hz1' HTK
          have hzl : z < p.ih.length := by omega
          have qc0 := HW.out.row.cell hzl
          have qf0 := HW.out.row.frozen z
          have HN2 := Lib.hid ((HW.out.put z true).congr (Y := fun i => bitTo p l (tl, tc) now T n i || (Q.take (m + 1)).contains (i : Int)) (fun j _ => by
            rw [HTK.out]
            by_cases e : j = z
            · subst e; simp
            · simp [e, show ¬ ((j : Int) = (z : Int)) by omega]))
          have HT2 := Lib.hid (HT.out.put z (.bool true))
          have HQ2 := Lib.hid (HQ.out.put z (.bool true))
          clear hz
          go_wp2
          go_roundw
          case rel => exact ⟨m + 1, by go_num, by omega, HN2, HT2, HQ2⟩
          case measure => (simp [intOf]; try omega)
        · obtain rfl : m = Q.length := by omega
          have HN2 := Lib.hid (HW.out.congr (Y := bitTo p l (tl, tc) now T (n + 1)) (fun j _ => by rw [List.take_length, HST.out]))
          go_wp2
          go_roundw
          case rel => exact ⟨n + 1, by go_num, by omega, HN2, HT⟩
          case measure => (simp [intOf]; try omega)
    · obtain rfl : n = T.length := by omega
      go_wp2
      go_ret
      exact ⟨_, rfl, ⟨_, rfl, HW.out.row.congr (fun j hj => by rw [HBX.out])⟩, HS0.out.below.trans (HW.out.bl.mono hgw)⟩
end Go.Proofs.YtipnhpfpppblhaaGreat

/- lychgatelaw13.lives: what its values are, plainly. -/
namespace Go.Proofs.YtipnhpfpppblhaaGreat
open Go.RowKit
abbrev sevB : ByteArray := ⟨#[115, 101, 118]⟩
abbrev teamB : ByteArray := ⟨#[116, 101, 97, 109]⟩
abbrev hiB : ByteArray := ⟨#[104, 105, 103, 104]⟩
abbrev loB : ByteArray := ⟨#[108, 111, 119]⟩
abbrev tB : ByteArray := ⟨#[116]⟩
abbrev promB : ByteArray := ⟨#[112, 114, 111, 109]⟩
abbrev flO (s : ByteArray) : List Fld := [(sevB, s), (teamB, tB)]
abbrev alO (s : ByteArray) (lv : Int) : Al := ⟨promB, flO s, lv, 0, 0, 0⟩
abbrev mtO (s : ByteArray) : Mt := ⟨sevB, 0, s⟩
abbrev ihO (lv : Int) (bv fv wv : Value) : PIh := ⟨[teamB], lv, 0, [mtO hiB], [mtO loB], bv, fv, wv⟩
abbrev pdO (lv : Int) (bv fv wv : Value) : PD := ⟨[], [], [], [], [], [ihO lv bv fv wv]⟩
abbrev lsO (va vb : Value) : List (Al × Value) := [(alO hiB 5, va), (alO loB 0, vb)]
set_option maxRecDepth 1000000 in
theorem ids_two : decide (shortL (idB promB (flO hiB)) = shortL (idB promB (flO loB))) = false := by kernel_rfl
theorem fineO (s : ByteArray) (h : s.size ≤ 200) : fineM (mtO s) = true := by
  unfold fineM
  have h1 : nameL (B sevB) = true := by kernel_rfl
  show (nameL (B sevB) && decide ((0 : Int) ≤ 0) && decide ((0 : Int) ≤ 3) && decide (s.size ≤ 200) && (decide ((0 : Int) < 2) || _)) = true
  rw [h1, decide_eq_true h]; rfl
theorem fitO (s u : ByteArray) (h : u.size ≤ 200) (b : Bool) (he : (s.toList == u.toList) = b) : fitM (flO s) (mtO u) = b := by
  unfold fitM
  rw [fineO u h]
  have hv : valueF (flO s) (mtO u).nm = s := by
    unfold valueF
    have : ((flO s).find? fun f => f.1.toList == (mtO u).nm.toList) = some (sevB, s) := by
      rw [List.find?_cons]
      have : ((sevB : ByteArray).toList == (mtO u).nm.toList) = true := by kernel_rfl
      rw [this]
    rw [this]
  rw [hv]
  unfold opM
  rw [if_pos rfl]
  show (true && (s.toList == u.toList)) = b
  rw [he]; rfl
theorem checkO (lv : Int) (bv fv wv : Value) (h : rightL lv = true) : checkP (pdO lv bv fv wv) = 0 := by
  have hb : badIh (ihO lv bv fv wv) = false := by
    unfold badIh whenP
    have h1 : byP [teamB] = true := by kernel_rfl
    have h2 : plainT hiB = true := by kernel_rfl
    have h3 : plainT loB = true := by kernel_rfl
    show (!byP [teamB] || !rightL lv || !(([mtO hiB].all fun m => plainT m.val && fineM m) && decide ([mtO hiB].length ≤ 12)) || !(([mtO loB].all fun m => plainT m.val && fineM m) && decide ([mtO loB].length ≤ 12))) = false
    rw [h1, h]
    simp only [List.all_cons, List.all_nil, h2, h3, fineO hiB (by decide), fineO loB (by decide)]
    rfl
  unfold checkP
  have h1 : longP (pdO lv bv fv wv) = false := by kernel_rfl
  have h2 : namesP (pdO lv bv fv wv) = true := by
    show (namedP [] && namedP [] && namedP [] && namedP []) = true
    have : namedP [] = true := by kernel_rfl
    rw [this]; rfl
  have h3 : ((pdO lv bv fv wv).ih.any badIh) = false := by
    show ([ihO lv bv fv wv].any badIh) = false
    rw [List.any_cons, hb]; rfl
  rw [h1, h2, h3]
  rfl
theorem ruleO (lv : Int) (bv fv wv va vb : Value) : ruleQ [] (lsO va vb) (alO loB 0) (2, 0) 0 (ihO lv bv fv wv) = flowsL lv 0 2 0 := by
  have hc : cutAl [] (alO loB 0) (2, 0) = alO loB 0 := by
    rw [cutAl_yes (by kernel_rfl)]
    have hv : visL [] (flO loB) (0, 0) (2, 0) = flO loB := by kernel_rfl
    show (⟨promB, visL [] (flO loB) (0, 0) (2, 0), 0, 0, 0, 0⟩ : Al) = _
    rw [hv]
  have ha : allM (flO loB) [mtO loB] = true := by unfold allM; rw [List.all_cons, fitO loB loB (by decide) true (by kernel_rfl)]; rfl
  have hh : allM (flO hiB) [mtO hiB] = true := by unfold allM; rw [List.all_cons, fitO hiB hiB (by decide) true (by kernel_rfl)]; rfl
  have hl : alikeM [teamB] (flO hiB) (flO loB) = true := by kernel_rfl
  have hg : goodBy (ihO lv bv fv wv) (idA (alO loB 0)) (flO loB) (alO hiB 5) = true := by
    unfold goodBy
    show (allM (flO hiB) [mtO hiB] && alikeM [teamB] (flO hiB) (flO loB) && (shortL (idB promB (flO hiB)) != shortL (idB promB (flO loB)))) = true
    rw [hh, hl]
    have h2 := of_decide_eq_false ids_two
    rw [Bool.true_and, Bool.true_and, bne_iff_ne]
    exact h2
  have hgo : goesA 0 (alO hiB 5, va) = true := by
    show (rightA (alO hiB 5) && firesA (alO hiB 5) 0) = true
    have h1 : rightA (alO hiB 5) = true := by kernel_rfl
    rw [h1]; rfl
  unfold ruleQ
  rw [hc]
  have hby : byM (ihO lv bv fv wv) (lsO va vb) (idA (alO loB 0)) (flO loB) 0 = true := by
    unfold byM
    show (allM (flO loB) [mtO loB] && ((lsO va vb).filter (goesA 0)).any fun p => goodBy (ihO lv bv fv wv) (idA (alO loB 0)) (flO loB) p.1) = true
    rw [ha, Bool.true_and, List.filter_cons, if_pos hgo, List.any_cons, hg]
    rfl
  show (flowsL lv 0 2 0 && byM (ihO lv bv fv wv) (lsO va vb) (idA (alO loB 0)) (flO loB) 0) = _
  rw [hby, Bool.and_true]
theorem quietO (lv : Int) (bv fv wv va vb : Value) (h : rightL lv = true) (b : Bool) (hf : flowsL lv 0 2 0 = b) : quietK (pdO lv bv fv wv) (lsO va vb) 1 (2, 0) 0 = if b then [0] else [] := by
  have hk := quietK_at (p := pdO lv bv fv wv) (l := lsO va vb) (j := 1) (t := (2, 0)) (now := 0) (Nat.lt_add_one 1)
  rw [show ((1 : Nat) : Int) = 1 from rfl] at hk
  rw [hk]
  show quietX (pdO lv bv fv wv) (lsO va vb) (alO loB 0) (2, 0) 0 = _
  unfold quietX
  have h1 : rightA (alO loB 0) = true := by kernel_rfl
  have h2 : cutOk [] (flO loB) (0, 0) (2, 0) = true := by kernel_rfl
  rw [h1, checkO lv bv fv wv h]
  show (if (true && decide ((0 : Int) = 0) && cutOk [] (flO loB) (0, 0) (2, 0)) = true then idxF (ruleQ [] (lsO va vb) (alO loB 0) (2, 0) 0) [ihO lv bv fv wv] else []) = _
  rw [h2]
  show idxF (ruleQ [] (lsO va vb) (alO loB 0) (2, 0) 0) [ihO lv bv fv wv] = _
  unfold idxF
  show idxTo (ruleQ [] (lsO va vb) (alO loB 0) (2, 0) 0) [ihO lv bv fv wv] (0 + 1) = _
  rw [idxTo_step (k := 0) _ [ihO lv bv fv wv] (Nat.lt_add_one 0)]
  show [] ++ (if ruleQ [] (lsO va vb) (alO loB 0) (2, 0) 0 (ihO lv bv fv wv) = true then [((0 : Nat) : Int)] else []) = _
  rw [ruleO, hf]
  cases b <;> rfl
theorem toldO (va vb : Value) : idxF (toldA [] (2, 0) 0) (lsO va vb) = [1] := by
  have h1 : toldA [] (2, 0) 0 (alO hiB 5, va) = false := by
    show (cutOk [] (flO hiB) (5, 0) (2, 0) && rightA (alO hiB 5) && firesA (alO hiB 5) 0) = false
    have : cutOk [] (flO hiB) (5, 0) (2, 0) = false := by kernel_rfl
    rw [this]; rfl
  have h2 : toldA [] (2, 0) 0 (alO loB 0, vb) = true := by
    show (cutOk [] (flO loB) (0, 0) (2, 0) && rightA (alO loB 0) && firesA (alO loB 0) 0) = true
    have h3 : cutOk [] (flO loB) (0, 0) (2, 0) = true := by kernel_rfl
    have h4 : rightA (alO loB 0) = true := by kernel_rfl
    rw [h3, h4]; rfl
  unfold idxF
  show idxTo (toldA [] (2, 0) 0) (lsO va vb) (0 + 1 + 1) = _
  rw [idxTo_step (k := 0 + 1) _ (lsO va vb) (Nat.lt_add_one 1), idxTo_step (k := 0) _ (lsO va vb) (Nat.lt_of_lt_of_le (Nat.lt_add_one 0) (Nat.le_succ 1))]
  show ([] ++ (if toldA [] (2, 0) 0 (alO hiB 5, va) = true then [((0 : Nat) : Int)] else [])) ++ (if toldA [] (2, 0) 0 (alO loB 0, vb) = true then [((1 : Nat) : Int)] else []) = _
  rw [h1, h2]
  rfl
theorem leftO (lv : Int) (bv fv wv va vb : Value) (h : rightL lv = true) (b : Bool) (hf : flowsL lv 0 2 0 = b) : leftL (pdO lv bv fv wv) (lsO va vb) (2, 0) 0 = if b then [] else [1] := by
  unfold leftL
  rw [checkO lv bv fv wv h, if_pos rfl]
  show (idxF (toldA [] (2, 0) 0) (lsO va vb)).filter (fun k => !(hushK (pdO lv bv fv wv) (lsO va vb) (2, 0) 0 k)) = _
  rw [toldO, List.filter_cons]
  unfold hushK
  rw [quietO lv bv fv wv va vb h b hf]
  cases b <;> rfl
theorem bitO (lv : Int) (bv fv wv va vb : Value) (h : rightL lv = true) (hf : flowsL lv 0 2 0 = true) : bitX (pdO lv bv fv wv) (lsO va vb) (2, 0) 0 0 = true := by
  unfold bitX
  show ((idxF (toldA [] (2, 0) 0) (lsO va vb)).any fun k => (quietK (pdO lv bv fv wv) (lsO va vb) k (2, 0) 0).contains ((0 : Nat) : Int)) = true
  rw [toldO, List.any_cons, quietO lv bv fv wv va vb h true hf]
  rfl
end Go.Proofs.YtipnhpfpppblhaaGreat

/- lychgatelaw13.of, rules, lives: contracts. -/
namespace Go.Proofs.YtipnhpfpppblhaaGreat
open Go.RowKit
theorem fl_row {w : World} {b : Nat} {fl : List Fld} (hb : b < w.heap.size) (h : ∀ (j : Nat) (v : Value), (fldCells fl)[j]? = some v → w.cell? ⟨b, j, none⟩ = some v) : FldsAt w (.slice (some ⟨b, 0, none⟩) fl.length fl.length) fl :=
  RdAt.mk (fldCells_len fl) (Nat.le_refl _) hb (fun j x hj => by rw [Nat.zero_add]; exact h j x hj)
theorem alloc_row (w : World) (cs : List Value) (t : TypeId) (j : Nat) (v : Value) (h : cs[j]? = some v) : (w.alloc (.cells cs.toArray t)).cell? ⟨w.heap.size, j, none⟩ = some v := by
  have hc : (w.alloc (.cells cs.toArray t)).cell? ⟨w.heap.size, j, none⟩ = _ := World.cell?_alloc_at _ _ _ _ rfl
  rw [hc, List.getElem?_toArray]
  exact h
theorem alloc_facts (w : World) (cs : List Value) (t : TypeId) (W : World) (h : w.alloc (.cells cs.toArray t) = W) : W.heap.size = w.heap.size + 1 ∧ Below w.heap.size w W ∧ ∀ (j : Nat) (v : Value), cs[j]? = some v → W.cell? ⟨w.heap.size, j, none⟩ = some v := by
  subst h
  exact ⟨World.size_alloc _ _, alloc_below _ _, alloc_row w cs t⟩
set_option maxHeartbeats 1600000 in
set_option maxRecDepth 100000 in
theorem of13_any (s : ByteArray) (lv : Int) (w : World) :
    Calls Tryz.prog 24 #[.string s, .int .i64 lv] w fun e w' => ∃ b, e = .returned (.agg #[.string promB, .slice (some ⟨b, 0, none⟩) 2 2, .int .i64 lv, .int .u32 0, .int .i64 0, .int .i64 0]) ∧ FldsAt w' (.slice (some ⟨b, 0, none⟩) 2 2) (flO s) ∧ Below w.heap.size w w' := by
  obtain ⟨W1, hW1⟩ : ∃ z, w.alloc (.cells #[.string promB, .slice (some ⟨w.heap.size + 1, 0, none⟩) 2 2, .int .i64 lv, .int .u32 0, .int .i64 0, .int .i64 0] 54) = z := ⟨_, rfl⟩
  obtain ⟨s1, b1, c1⟩ := alloc_facts w [.string promB, .slice (some ⟨w.heap.size + 1, 0, none⟩) 2 2, .int .i64 lv, .int .u32 0, .int .i64 0, .int .i64 0] 54 W1 hW1
  obtain ⟨W2, hW2⟩ : ∃ z, W1.alloc (.cells #[.string sevB, .string s, .string teamB, .string tB] 90) = z := ⟨_, rfl⟩
  obtain ⟨s2, b2, c2⟩ := alloc_facts W1 [.string sevB, .string s, .string teamB, .string tB] 90 W2 hW2
  have hR : Hid (W2.rangeAt w.heap.size 0 [.string promB, .slice (some ⟨w.heap.size + 1, 0, none⟩) 2 2, .int .i64 lv, .int .u32 0, .int .i64 0, .int .i64 0]) := Lib.hid (fun j v hj => by rw [Nat.zero_add]; exact keep_cell (c1 j v hj) b2 (by show w.heap.size < W1.heap.size; omega))
  have hF : Hid (FldsAt W2 (.slice (some ⟨w.heap.size + 1, 0, none⟩) 2 2) (flO s)) := Lib.hid (by rw [← s1]; exact fl_row (fl := flO s) (by omega) (fun j v hj => c2 j v hj))
  have HB := Lib.hid (b1.trans (b2.mono b1.size))
  have HW1 := Lib.hid hW1
  have HW2 := Lib.hid hW2
  clear s1 b1 c1 s2 b2 c2 hW1 hW2
  go_enter Tryz.func24, Tryz.ntmps24
  go_wp2
  rw [HW1.out, HW2.out]
  refine bodyPost_ret (results_agg1 rfl _ _ w.heap.size [.string promB, .slice (some ⟨w.heap.size + 1, 0, none⟩) 2 2, .int .i64 lv, .int .u32 0, .int .i64 0, .int .i64 0] (.struct _) rfl hR.out Tryz.underlying54 rfl (by kernel_rfl)) rfl ?_
  exact ⟨_, rfl, hF.out, HB.out⟩
set_option maxHeartbeats 1600000 in
set_option maxRecDepth 100000 in
theorem rules13_any (lv : Int) (w : World) :
    Calls Tryz.prog 25 #[.int .i64 lv] w fun e w' => ∃ b bv fv wv, e = .returned (.agg #[.slice none 0 0, .slice none 0 0, .slice none 0 0, .slice none 0 0, .slice none 0 0, .slice (some ⟨b, 0, none⟩) 1 1]) ∧ PolAt w' ⟨.slice none 0 0, .slice none 0 0, .slice none 0 0, .slice none 0 0, .slice none 0 0, .slice (some ⟨b, 0, none⟩) 1 1⟩ (pdO lv bv fv wv) ∧ Below w.heap.size w w' := by
  obtain ⟨W1, hW1⟩ : ∃ z, w.alloc (.cells #[.slice none 0 0, .slice none 0 0, .slice none 0 0, .slice none 0 0, .slice none 0 0, .slice (some ⟨w.heap.size + 1 + 1 + 1 + 1, 0, none⟩) 1 1] 26) = z := ⟨_, rfl⟩
  obtain ⟨s1, b1, c1⟩ := alloc_facts w [.slice none 0 0, .slice none 0 0, .slice none 0 0, .slice none 0 0, .slice none 0 0, .slice (some ⟨w.heap.size + 1 + 1 + 1 + 1, 0, none⟩) 1 1] 26 W1 hW1
  obtain ⟨W2, hW2⟩ : ∃ z, W1.alloc (.cells #[.string teamB] 9) = z := ⟨_, rfl⟩
  obtain ⟨s2, b2, c2⟩ := alloc_facts W1 [.string teamB] 9 W2 hW2
  obtain ⟨W3, hW3⟩ : ∃ z, W2.alloc (.cells #[.string sevB, .int .i64 0, .string hiB] 92) = z := ⟨_, rfl⟩
  obtain ⟨s3, b3, c3⟩ := alloc_facts W2 [.string sevB, .int .i64 0, .string hiB] 92 W3 hW3
  obtain ⟨W4, hW4⟩ : ∃ z, W3.alloc (.cells #[.string sevB, .int .i64 0, .string loB] 92) = z := ⟨_, rfl⟩
  obtain ⟨s4, b4, c4⟩ := alloc_facts W3 [.string sevB, .int .i64 0, .string loB] 92 W4 hW4
  obtain ⟨W5, hW5⟩ : ∃ z, W4.alloc (.cells #[.slice (some ⟨w.heap.size + 1, 0, none⟩) 1 1, .int .i64 lv, .int .u32 0, .slice (some ⟨w.heap.size + 1 + 1, 0, none⟩) 1 1, .slice (some ⟨w.heap.size + 1 + 1 + 1, 0, none⟩) 1 1] 51) = z := ⟨_, rfl⟩
  obtain ⟨s5, b5, c5⟩ := alloc_facts W4 [.slice (some ⟨w.heap.size + 1, 0, none⟩) 1 1, .int .i64 lv, .int .u32 0, .slice (some ⟨w.heap.size + 1 + 1, 0, none⟩) 1 1, .slice (some ⟨w.heap.size + 1 + 1 + 1, 0, none⟩) 1 1] 51 W5 hW5
  have k45 : Below W4.heap.size W4 W5 := b5
  have k35 : Below W3.heap.size W3 W5 := b4.trans (k45.mono b4.size)
  have k25 : Below W2.heap.size W2 W5 := b3.trans (k35.mono b3.size)
  have k15 : Below W1.heap.size W1 W5 := b2.trans (k25.mono b2.size)
  have hR : Hid (W5.rangeAt w.heap.size 0 [.slice none 0 0, .slice none 0 0, .slice none 0 0, .slice none 0 0, .slice none 0 0, .slice (some ⟨w.heap.size + 1 + 1 + 1 + 1, 0, none⟩) 1 1]) := Lib.hid (fun j v hj => by rw [Nat.zero_add]; exact keep_cell (c1 j v hj) k15 (by show w.heap.size < W1.heap.size; omega))
  have hin : IhIn W5 (ihO lv (.slice (some ⟨w.heap.size + 1, 0, none⟩) 1 1) (.slice (some ⟨w.heap.size + 1 + 1, 0, none⟩) 1 1) (.slice (some ⟨w.heap.size + 1 + 1 + 1, 0, none⟩) 1 1)) := by
    refine ⟨?_, ?_, ?_⟩
    · rw [← s1]
      exact RdAt.mk (xs := [teamB].map Value.string) rfl (Nat.le_refl _) (by omega) (fun j x hj => by rw [Nat.zero_add]; exact keep_cell (c2 j x hj) k25 (by show W1.heap.size < W2.heap.size; omega))
    · rw [← s1, ← s2]
      exact RdAt.mk (xs := mtCells [mtO hiB]) rfl (Nat.le_refl _) (by omega) (fun j x hj => by rw [Nat.zero_add]; exact keep_cell (c3 j x hj) k35 (by show W2.heap.size < W3.heap.size; omega))
    · rw [← s1, ← s2, ← s3]
      exact RdAt.mk (xs := mtCells [mtO loB]) rfl (Nat.le_refl _) (by omega) (fun j x hj => by rw [Nat.zero_add]; exact keep_cell (c4 j x hj) k45 (by show W3.heap.size < W4.heap.size; omega))
  have hP : Hid (PolAt W5 ⟨.slice none 0 0, .slice none 0 0, .slice none 0 0, .slice none 0 0, .slice none 0 0, .slice (some ⟨w.heap.size + 1 + 1 + 1 + 1, 0, none⟩) 1 1⟩ (pdO lv (.slice (some ⟨w.heap.size + 1, 0, none⟩) 1 1) (.slice (some ⟨w.heap.size + 1 + 1, 0, none⟩) 1 1) (.slice (some ⟨w.heap.size + 1 + 1 + 1, 0, none⟩) 1 1))) := Lib.hid (by
    refine ⟨RdAt.nil _ _, RdAt.nil _ _, RdAt.nil _ _, RdAt.nil _ _, ⟨RdAt.nil _ _, fun r hr => by cases hr⟩, ?_, fun x hx => by rw [List.mem_singleton.1 hx]; exact hin⟩
    show RdAt W5 (.slice (some ⟨w.heap.size + 1 + 1 + 1 + 1, 0, none⟩) 1 1) 1 5 (cellsG ihC [ihO lv (.slice (some ⟨w.heap.size + 1, 0, none⟩) 1 1) (.slice (some ⟨w.heap.size + 1 + 1, 0, none⟩) 1 1) (.slice (some ⟨w.heap.size + 1 + 1 + 1, 0, none⟩) 1 1)])
    have s4' : W4.heap.size = w.heap.size + 1 + 1 + 1 + 1 := by omega
    rw [← s4']
    exact RdAt.mk rfl (Nat.le_refl _) (by omega) (fun j x hj => by rw [Nat.zero_add]; exact c5 j x hj))
  have HB := Lib.hid (b1.trans (k15.mono b1.size))
  have HW1 := Lib.hid hW1
  have HW2 := Lib.hid hW2
  have HW3 := Lib.hid hW3
  have HW4 := Lib.hid hW4
  have HW5 := Lib.hid hW5
  clear s1 b1 c1 s2 b2 c2 s3 b3 c3 s4 b4 c4 s5 b5 c5 k45 k35 k25 k15 hin hW1 hW2 hW3 hW4 hW5
  go_enter Tryz.func25, Tryz.ntmps25
  go_wp2
  rw [HW1.out, HW2.out, HW3.out, HW4.out, HW5.out]
  refine bodyPost_ret (results_agg1 rfl _ _ w.heap.size [.slice none 0 0, .slice none 0 0, .slice none 0 0, .slice none 0 0, .slice none 0 0, .slice (some ⟨w.heap.size + 1 + 1 + 1 + 1, 0, none⟩) 1 1] (.struct _) rfl hR.out Tryz.underlying26 rfl (by kernel_rfl)) rfl ?_
  exact ⟨_, _, _, _, rfl, hP.out, HB.out⟩
theorem polO_fit (lv : Int) (bv fv wv : Value) : PolFitD (pdO lv bv fv wv) := by
  have hm : ∀ u : ByteArray, u.size ≤ 200 → MtsFit [mtO u] := fun u hu m hm => by rw [List.mem_singleton.1 hm]; exact ⟨by show sevB.size ≤ maxLen; decide, by unfold maxLen; show u.size ≤ _; omega⟩
  have hw : NmdWide [] := ⟨Nat.zero_le _, fun x hx => (by cases hx), fun x hx => (by cases hx)⟩
  refine ⟨hw, hw, hw, hw, Nat.zero_le _, fun r hr => (by cases hr), by show 1 ≤ maxLen; decide, fun x hx => ?_⟩
  rw [List.mem_singleton.1 hx]
  exact ⟨⟨by show 1 ≤ maxLen; decide, fun x hx => by rw [List.mem_singleton.1 hx]; decide⟩, (by show 0 < 4294967296; decide), hm hiB (by decide), hm loB (by decide), (by show 1 ≤ maxLen; decide), (by show 1 ≤ maxLen; decide)⟩
theorem lsO_fit {w : World} {ba bb b : Nat} (ha : FldsAt w (.slice (some ⟨ba, 0, none⟩) 2 2) (flO hiB)) (hb : FldsAt w (.slice (some ⟨bb, 0, none⟩) 2 2) (flO loB)) (hl : b < w.heap.size)
    (hc : ∀ (j : Nat) (v : Value), (alCells (lsO (.slice (some ⟨ba, 0, none⟩) 2 2) (.slice (some ⟨bb, 0, none⟩) 2 2)))[j]? = some v → w.cell? ⟨b, j, none⟩ = some v) :
    AlsAt w (.slice (some ⟨b, 0, none⟩) 2 2) (lsO (.slice (some ⟨ba, 0, none⟩) 2 2) (.slice (some ⟨bb, 0, none⟩) 2 2)) := by
  have ff : ∀ s : ByteArray, s.size ≤ 100 → FldsFit (flO s) := fun s hs f hf => by
    rcases List.mem_cons.1 hf with rfl | hf
    · exact ⟨by show sevB.size ≤ maxLen; decide, by unfold maxLen; show s.size ≤ _; omega⟩
    · rw [List.mem_singleton.1 hf]; exact ⟨by decide, by decide⟩
  refine ⟨RdAt.mk (alCells_len _) (Nat.le_refl _) hl (fun j x hj => by rw [Nat.zero_add]; exact hc j x hj), fun p hp => ?_⟩
  rcases List.mem_cons.1 hp with rfl | hp
  · exact ⟨ha, by show promB.size ≤ maxLen; decide, ff _ (by decide), by show 2 ≤ maxLen; decide, by show 0 < 4294967296; decide⟩
  · rw [List.mem_singleton.1 hp]
    exact ⟨hb, by show promB.size ≤ maxLen; decide, ff _ (by decide), by show 2 ≤ maxLen; decide, by show 0 < 4294967296; decide⟩
set_option maxHeartbeats 3200000 in
set_option maxRecDepth 100000 in
theorem lives_any (w : World) : Calls Tryz.prog 9 #[] w fun e w' => e = .returned (.bool true) ∧ Below w.heap.size w w' := by
  have k1 := of13_any hiB 5 w
  go_enter Tryz.func9, Tryz.ntmps9
  go_wp2_with fail
  refine k1.mono ?_
  rintro e w1 ⟨ba, rfl, hFa, hb1⟩
  clear k1
  have k2 := of13_any loB 0 w1
  have HFa := Lib.hid hFa
  have HB1 := Lib.hid hb1
  clear hFa hb1
  go_wp2_with fail
  refine k2.mono ?_
  rintro e w2 ⟨bb, rfl, hFb, hb2⟩
  obtain ⟨W3, hW3⟩ : ∃ z, w2.alloc (.cells #[.string promB, .slice (some ⟨ba, 0, none⟩) 2 2, .int .i64 5, .int .u32 0, .int .i64 0, .int .i64 0, .string promB, .slice (some ⟨bb, 0, none⟩) 2 2, .int .i64 0, .int .u32 0, .int .i64 0, .int .i64 0] 54) = z := ⟨_, rfl⟩
  obtain ⟨s3, b3, c3⟩ := alloc_facts w2 [.string promB, .slice (some ⟨ba, 0, none⟩) 2 2, .int .i64 5, .int .u32 0, .int .i64 0, .int .i64 0, .string promB, .slice (some ⟨bb, 0, none⟩) 2 2, .int .i64 0, .int .u32 0, .int .i64 0, .int .i64 0] 54 W3 hW3
  have HA3 := Lib.hid (lsO_fit ((HFa.out.later hb2).later b3) (hFb.later b3) (b := w2.heap.size) (by omega) (fun j v hj => c3 j v hj))
  have HB3 := Lib.hid ((HB1.out.trans (hb2.mono HB1.out.size)).trans (b3.mono (Nat.le_trans HB1.out.size hb2.size)))
  have HW3 := Lib.hid hW3
  clear k2 hFb hb2 s3 b3 c3 hW3 HFa HB1
  go_upto_region 2 with fail
  rw [HW3.out]
  clear HW3
  have h12 : ∀ q ∈ lsO (.slice (some ⟨ba, 0, none⟩) 2 2) (.slice (some ⟨bb, 0, none⟩) 2 2), q.1.fl.length ≤ 12 := fun q hq => by
    rcases List.mem_cons.1 hq with rfl | hq
    · show 2 ≤ 12; decide
    · rw [List.mem_singleton.1 hq]; show 2 ≤ 12; decide
  have H12 := Lib.hid h12
  clear h12
  generalize w2.heap.size = bl at *
  have k4 := rules13_any 1 W3
  go_wp2_with fail
  refine k4.mono ?_
  rintro e w4 ⟨g4, bv, fv, wv, rfl, hP, hb4⟩
  have HA4 := Lib.hid (HA3.out.later hb4)
  have HB4 := Lib.hid (HB3.out.trans (hb4.mono HB3.out.size))
  have k5 := ileft_any _ _ _ _ 2 0 0 w4 hP (polO_fit _ _ _ _) HA4.out (by show 2 ≤ 1000000; decide) H12.out
  rw [leftO 1 bv fv wv _ _ (by decide) true (by decide)] at k5
  unfold PV.v at k5
  dsimp only at k5
  clear k4 hP hb4 HA3 HB3
  go_wp2_with fail
  refine k5.mono ?_
  rintro e w5 ⟨r1, rfl, hI1, hb5⟩
  obtain ⟨xa, xc, hx1, _, _⟩ := RdAt.shape hI1
  have HX1 := Lib.hid hx1
  have HA5 := Lib.hid (HA4.out.later hb5)
  have HB5 := Lib.hid (HB4.out.trans (hb5.mono HB4.out.size))
  clear k5 hb5 HA4 HB4 hI1 hx1
  have k6 := rules13_any 3 w5
  go_wp2_with fail
  refine k6.mono ?_
  rintro e w6 ⟨g6, bv6, fv6, wv6, rfl, hP, hb6⟩
  have HA6 := Lib.hid (HA5.out.later hb6)
  have HB6 := Lib.hid (HB5.out.trans (hb6.mono HB5.out.size))
  have k7 := ileft_any _ _ _ _ 2 0 0 w6 hP (polO_fit _ _ _ _) HA6.out (by show 2 ≤ 1000000; decide) H12.out
  rw [leftO 3 bv6 fv6 wv6 _ _ (by decide) false (by decide)] at k7
  unfold PV.v at k7
  dsimp only at k7
  clear k6 hP hb6 HA5 HB5
  go_wp2_with fail
  refine k7.mono ?_
  rintro e w7 ⟨r2, rfl, hI2, hb7⟩
  have HA7 := Lib.hid (HA6.out.later hb7)
  have HB7 := Lib.hid (HB6.out.trans (hb7.mono HB6.out.size))
  obtain ⟨xb, xo, xc2, rfl, _, hyl, hyc⟩ := hI2.cells (by simp)
  have y0 := hyc 0 1 rfl
  rw [Nat.add_zero] at y0
  obtain rfl := HX1.out
  clear k7 hb7 HA6 HB6 hI2 hyc hyl HX1
  have k8 := rules13_any 1 w7
  go_wp2_with fail
  refine k8.mono ?_
  rintro e w8 ⟨g8, bv8, fv8, wv8, rfl, hP, hb8⟩
  have HA8 := Lib.hid (HA7.out.later hb8)
  have HB8 := Lib.hid (HB7.out.trans (hb8.mono HB7.out.size))
  have k9 := ibits_any _ _ _ _ 2 0 0 w8 hP (polO_fit _ _ _ _) HA8.out (by show 2 ≤ 1000000; decide) H12.out (by show 1 ≤ 14; decide)
  unfold PV.v at k9
  dsimp only at k9
  have hbit := bitO 1 bv8 fv8 wv8 (.slice (some ⟨ba, 0, none⟩) 2 2) (.slice (some ⟨bb, 0, none⟩) 2 2) (by decide) (by decide)
  have HBIT := Lib.hid hbit
  clear k8 hP hb8 HA7 HB7 y0 hbit
  go_wp2_with fail
  refine k9.mono ?_
  rintro e w9 ⟨r3, rfl, hBs, hb9⟩
  obtain ⟨gb, rfl, hrow⟩ := hBs
  have z0 : w9.cell? ⟨gb, 0, none⟩ = some (.bool true) := by rw [← HBIT.out]; exact hrow.cell (i := 0) (by show 0 < 1; decide)
  have HA9 := Lib.hid (HA8.out.later hb9)
  have HB9 := Lib.hid (HB8.out.trans (hb9.mono HB8.out.size))
  clear k9 hb9 HA8 HB8 hrow HBIT
  have k10 := rules13_any 1 w9
  go_wp2_with fail
  refine k10.mono ?_
  rintro e w10 ⟨g10, bv10, fv10, wv10, rfl, hP, hb10⟩
  have HA10 := Lib.hid (HA9.out.later hb10)
  have HB10 := Lib.hid (HB9.out.trans (hb10.mono HB9.out.size))
  have k11 := iquiet_any _ _ _ _ 1 2 0 0 w10 hP (polO_fit _ _ _ _) HA10.out (by show 2 ≤ maxLen; decide)
  rw [quietO 1 bv10 fv10 wv10 _ _ (by decide) true (by decide)] at k11
  unfold PV.v at k11
  dsimp only at k11
  clear k10 hP hb10 HA9 HB9 z0
  go_wp2_with fail
  refine k11.mono ?_
  rintro e w11 ⟨r4, rfl, hI4, hb11⟩
  have hrs := RdAt.shape (RdAt.own hI4)
  obtain ⟨xa4, xc4, rfl, _, _⟩ := hrs
  have HB11 := Lib.hid (HB10.out.trans (hb11.mono HB10.out.size))
  clear k11 hb11 hI4
  go_wp2
  go_ret
  exact ⟨rfl, HB11.out⟩
end Go.Proofs.YtipnhpfpppblhaaGreat

/- The first so many alerts, as both have them: what is carried. -/
namespace Go.Proofs.YtipnhpfpppblhaaGreat
open Go.RowKit
def cutA (x : Al) : Al := { x with fl := x.fl.take 12 }
theorem cutA_fit {x : Al} (h : AlFit x) : AlFit (cutA x) := ⟨h.src, fun f hf => h.fl f (List.mem_of_mem_take hf), Nat.le_trans (List.length_take_le' _ _) h.len, h.c⟩
theorem cut_fld {w : World} {v : Value} {fl : List Fld} (h : FldsAt w v fl) : ∃ a n c, v = .slice a n c ∧ n = fl.length ∧ n ≤ c ∧ FldsAt w (.slice a (min n 12) c) (fl.take 12) := by
  obtain ⟨a, c, rfl, hc, hr⟩ := RdAt.shape h
  refine ⟨a, _, c, rfl, rfl, hc, ?_⟩
  have := fld_take h (min fl.length 12) (by omega) (fun ha => by
    rcases Nat.eq_zero_or_pos fl.length with h0 | h0
    · exact h0
    · obtain ⟨_, _, h1, _⟩ := hr h0
      rw [ha] at h1; cases h1)
  have e : fl.take (min fl.length 12) = fl.take 12 := by
    rcases Nat.le_total fl.length 12 with h1 | h1
    · rw [Nat.min_eq_left h1, List.take_of_length_le h1, List.take_length]
    · rw [Nat.min_eq_right h1]
  rw [e] at this
  exact this
theorem alC_snoc (l : List (Al × Value)) (x : Al) (v : Value) : alCells (l ++ [(x, v)]) = alCells l ++ alC x v := by
  induction l with
  | nil => simp [alCells]
  | cons p l ih => simp [alCells, ih]
theorem info_al : (Tryz.prog.info? 54).map (fun i => (i.zero, i.size, i.bytes)) = some (some (.agg #[.string ⟨#[]⟩, .slice none 0 0, .int .i64 0, .int .u32 0, .int .i64 0, .int .i64 0]), 6, 72) := by kernel_rfl
theorem info_ral : (Tryz.prog.info? 58).map (fun i => (i.zero, i.size, i.bytes)) = some (some (.agg #[.string ⟨#[]⟩, .slice none 0 0, .int .i64 0, .int .u32 0, .int .i64 0, .int .i64 0]), 6, 72) := by kernel_rfl
structure FewAt (w : World) (l0 : List (Al × Value)) (vo vd : Value) (k : Nat) (wr : World) : Prop where
  b : Below w.heap.size w wr
  mem : ∃ l1 : List (Al × Value), l1.length = k ∧ wr.ownsRow w.heap.size 54 6 vo k (alCells l1) ∧ wr.ownsRow w.heap.size 58 6 vd k (alCells l1) ∧ (vo.ownBlock = none ∨ vo.ownBlock ≠ vd.ownBlock) ∧
    l1.map (·.1) = (l0.take k).map (fun p => cutA p.1) ∧ ∀ p ∈ l1, FldsAt w p.2 p.1.fl ∧ AlFit p.1 ∧ p.2.oneCell' = true
theorem row6 (W : World) (a b c d e f : Value) (t : TypeId) : RdAt (W.alloc (.cells #[a, b, c, d, e, f] t)) (.slice (some ⟨W.heap.size, 0, none⟩) 1 1) 1 6 [a, b, c, d, e, f] :=
  RdAt.mk rfl (Nat.le_refl _) (by rw [World.size_alloc]; omega) (fun j x hj => by
    have hc : (W.alloc (.cells #[a, b, c, d, e, f] t)).cell? ⟨W.heap.size, j, none⟩ = _ := World.cell?_alloc_at _ _ _ _ rfl
    rw [Nat.zero_add, hc, ← Array.getElem?_toList]
    exact hj)
theorem alc6 (W : World) (a b c d e f : Value) (t : TypeId) : C6 W.heap.size a b c d e f (W.alloc (.cells #[a, b, c, d, e, f] t)) := by
  have hc : ∀ (i : Nat), (W.alloc (.cells #[a, b, c, d, e, f] t)).cell? ⟨W.heap.size, i, none⟩ = _ := fun i => World.cell?_alloc_at _ _ _ _ rfl
  exact ⟨hc 0, hc 1, hc 2, hc 3, hc 4, hc 5⟩
theorem C6.grown {p : Nat} {a b c d e f : Value} {W W' : World} {row : Option Nat} (h : C6 p a b c d e f W) (hg : W.grownBy W' row) (hne : some p ≠ row) : C6 p a b c d e f W' := by
  obtain ⟨h0, h1, h2, h3, h4, h5⟩ := h
  exact ⟨hg.cell h0 hne, hg.cell h1 hne, hg.cell h2 hne, hg.cell h3 hne, hg.cell h4 hne, hg.cell h5 hne⟩
theorem all6 {a b c d e f : Value} (ha : a.oneCell' = true) (hb : b.oneCell' = true) (hc : c.oneCell' = true) (hd : d.oneCell' = true) (he : e.oneCell' = true) (hf : f.oneCell' = true) : ∀ y ∈ [a, b, c, d, e, f], y.oneCell' = true := by
  intro y hy
  simp only [List.mem_cons, List.mem_nil_iff, or_false] at hy
  rcases hy with rfl | rfl | rfl | rfl | rfl | rfl <;> assumption
end Go.Proofs.YtipnhpfpppblhaaGreat

/- lychgatelaw13.few: a contract. -/
namespace Go.Proofs.YtipnhpfpppblhaaGreat
open Go.RowKit
set_option maxHeartbeats 3200000 in
set_option maxRecDepth 100000 in
theorem few13_any (l : List (Al × Value)) (v : Value) (w : World) (hl : AlsAt w v l) (hn : l.length ≤ maxLen) :
    Calls Tryz.prog 11 #[v] w fun e w' => ∃ v1 v2 l1, e = .returned (.tuple #[v1, v2]) ∧ Below w.heap.size w w' ∧ AlsAt w' v1 l1 ∧ AlsAt w' v2 l1 ∧ l1.map (·.1) = (l.take 10).map (fun p => cutA p.1) := by
  unfold maxLen at hn
  have hfld := hl.fld
  obtain ⟨la, lc, rfl, hlc, hlr⟩ := RdAt.shape hl.row
  have HLR := Lib.hid hlr
  have HFL := Lib.hid hfld
  obtain ⟨i0, hi, hz0, hz1, hz2⟩ := info_parts info_al
  obtain ⟨j0, hj, jz0, jz1, jz2⟩ := info_parts info_ral
  have HI := Lib.hid (And.intro hi (And.intro hz0 (And.intro hz1 hz2)))
  have HJ := Lib.hid (And.intro hj (And.intro jz0 (And.intro jz1 jz2)))
  clear hl hlr hfld hi hz0 hz1 hz2 hj jz0 jz1 jz2
  go_enter Tryz.func11, Tryz.ntmps11
  go_upto_region 4 with fail
  go_loopw [4, 5, 6, 7] (fun vo vd vi _ wr => ∃ k : Nat, k ≤ l.length ∧ k ≤ 10 ∧ vi = .int .i64 k ∧ Hid (FewAt w l vo vd k wr)) (fun _ _ vi _ _ => l.length - (intOf vi).toNat)
  case atStart => exact ⟨0, Nat.zero_le _, Nat.zero_le _, rfl, Lib.hid ⟨Below.refl _ _, [], rfl, World.ownsRow_nil _ _ _ _, World.ownsRow_nil _ _ _ _, .inl rfl, rfl, fun p hp => by cases hp⟩⟩
  case round =>
    obtain ⟨k, hk, hk10, rfl, HF⟩ := hrel
    by_cases hkl : k < l.length ∧ k < 10
    · obtain ⟨hkl, hkt⟩ := hkl
      obtain ⟨b, o, rfl, hbl, hcell⟩ := HLR.out (by omega)
      have hat := alCells_at l k hkl
      have hbr := HF.out.b
      have q0 := keep_cell (hcell _ _ (hat 0 _ rfl)) hbr hbl
      have q1 := keep_cell (hcell _ _ (hat 1 _ rfl)) hbr hbl
      have q2 := keep_cell (hcell _ _ (hat 2 _ rfl)) hbr hbl
      have q3 := keep_cell (hcell _ _ (hat 3 _ rfl)) hbr hbl
      have q4 := keep_cell (hcell _ _ (hat 4 _ rfl)) hbr hbl
      have q5 := keep_cell (hcell _ _ (hat 5 _ rfl)) hbr hbl
      rw [Nat.add_zero] at q0
      rw [← Nat.add_assoc] at q1 q2 q3 q4 q5
      obtain ⟨hfk, hfitk⟩ := HFL.out _ (List.getElem_mem hkl)
      obtain ⟨va, vn, vc, hsh, hvn, hvc, hcut⟩ := cut_fld hfk
      rw [hsh] at q1
      have HLK : Hid (l[k].1 = l[k].1) := Lib.hid rfl
      obtain ⟨A, hA⟩ : ∃ A, l[k].1 = A := ⟨_, rfl⟩
      rw [hA] at q0 q2 q3 q4 q5 hcut hfitk hvn
      have HA := Lib.hid hA
      have HCU := Lib.hid hcut
      have HFI := Lib.hid hfitk
      obtain ⟨src, fls, alv, ac, afr, atil⟩ := A
      dsimp only at q0 q2 q3 q4 q5 hvn
      have hvl : vn ≤ 9223372036854775807 := by have := hfitk.len; unfold maxLen at this; dsimp only at this; omega
      have hk0 : (0 : Int) ≤ (k : Int) := by omega
      have hk1 : (k : Int) < (l.length : Int) := by omega
      have hm0 : (0 : Int) ≤ min (vn : Int) 12 := by omega
      have hm1 : min (vn : Int) 12 ≤ (vn : Int) := by omega
      have hm2 : min (vn : Int) 12 ≤ (vc : Int) := by omega
      clear hcell hat hfk hA hcut hfitk hsh HLK hvn hbr
      go_upto_region 8 with fail
      have hmm : (min (vn : Int) 12).toNat = min vn 12 := by omega
      rw [hmm]
      generalize min vn 12 = m at *
      obtain ⟨hb, l1, hl1, ho, hd, hne, hmap, hfl⟩ := HF.out
      have hbase := hb.size
      have x6 := alc6 wr (.string src) (.slice va m vc) (.int .i64 alv) (.int .u32 ac) (.int .i64 afr) (.int .i64 atil) 58
      have hb1 := hb.alloc hb.size (.cells #[.string src, .slice va m vc, .int .i64 alv, .int .u32 ac, .int .i64 afr, .int .i64 atil] 58)
      have ho1 := ho.alloc (.cells #[.string src, .slice va m vc, .int .i64 alv, .int .u32 ac, .int .i64 afr, .int .i64 atil] 58)
      have hd1 := hd.alloc (.cells #[.string src, .slice va m vc, .int .i64 alv, .int .u32 ac, .int .i64 afr, .int .i64 atil] 58)
      have hs1 := World.size_alloc wr (.cells #[.string src, .slice va m vc, .int .i64 alv, .int .u32 ac, .int .i64 afr, .int .i64 atil] 58)
      have hdl := hd.lt
      have hol := ho.lt
      generalize wr.alloc (.cells #[.string src, .slice va m vc, .int .i64 alv, .int .u32 ac, .int .i64 afr, .int .i64 atil] 58) = W1 at *
      have hd2 := hd1.alloc (.cells #[.string src, .slice va m vc, .int .i64 alv, .int .u32 ac, .int .i64 afr, .int .i64 atil] 58)
      have ho2 := ho1.alloc (.cells #[.string src, .slice va m vc, .int .i64 alv, .int .u32 ac, .int .i64 afr, .int .i64 atil] 58)
      have hr2 := row6 W1 (.string src) (.slice va m vc) (.int .i64 alv) (.int .u32 ac) (.int .i64 afr) (.int .i64 atil) 58
      have hb2 := hb1.alloc hb1.size (.cells #[.string src, .slice va m vc, .int .i64 alv, .int .u32 ac, .int .i64 afr, .int .i64 atil] 58)
      have hs2 := World.size_alloc W1 (.cells #[.string src, .slice va m vc, .int .i64 alv, .int .u32 ac, .int .i64 afr, .int .i64 atil] 58)
      have hx6 : Hid (C6 wr.heap.size _ _ _ _ _ _ _) := Lib.hid (x6.later (alloc_below W1 (.cells #[.string src, .slice va m vc, .int .i64 alv, .int .u32 ac, .int .i64 afr, .int .i64 atil] 58)) (by omega))
      obtain ⟨x0, x1, x2, x3, x4, x5⟩ := x6
      obtain ⟨hi, hz0, hz1, hz2⟩ := HI.out
      obtain ⟨hj, jz0, jz1, jz2⟩ := HJ.out
      have h1s := all6 (a := .string src) (b := .slice va m vc) (c := .int .i64 alv) (d := .int .u32 ac) (e := .int .i64 afr) (f := .int .i64 atil) rfl rfl rfl rfl rfl rfl
      have P1 := Lib.hid (And.intro hd2 (And.intro hr2 (And.intro hb2 (And.intro ho2 (And.intro hb1 (And.intro ho1 (And.intro hdl hol)))))))
      have P2 := Lib.hid (And.intro hl1 (And.intro hne (And.intro hmap hfl)))
      have P3 := Lib.hid (And.intro hs1 (And.intro hs2 hbase))
      clear hd2 hr2 hb2 ho2 hb1 ho1 hdl hol hl1 hne hmap hfl hs1 hs2 hbase ho hd hd1 hb HF
      go_upto_region 9 with (at_builtin; (refine wpList_append_rd2 rfl (.tmp 30) (.tmp 32) 27 rfl w.heap.size 58 j0 (.agg #[.string ⟨#[]⟩, .slice none 0 0, .int .i64 0, .int .u32 0, .int .i64 0, .int .i64 0]) 6 72 Tryz.underlying27 hj jz0 jz1 jz2 rfl (by decide) _ k (alCells l1) rfl P1.out.1 _ 1 [.string src, .slice va m vc, .int .i64 alv, .int .u32 ac, .int .i64 afr, .int .i64 atil] rfl P1.out.2.1 h1s (by unfold maxLen; omega) (by omega) (by have := P3.out; omega) ?_); intro vd' W3 hown' hgrow' hcase')
      obtain ⟨_, hr2, hb2, ho2, hb1, ho1, hdl, hol⟩ := P1.out
      obtain ⟨hl1, hne, hmap, hfl⟩ := P2.out
      obtain ⟨hs1, hs2, hbase⟩ := P3.out
      have X3 := hx6.out.grown hgrow' (fun e => by have := (hdl _ e.symm).2; omega)
      have ho3 := ho2.kept hgrow' hne
      have hb3 := hb2.grown hgrow' hb2.size (fun j hj => (hdl j hj).1)
      have hz3 := hgrow'.size
      have hne3 : u4.ownBlock = none ∨ u4.ownBlock ≠ vd'.ownBlock := by
        rcases hcase' with h | h
        · rw [h]; exact hne
        · right
          intro e
          rw [h] at e
          have := (hol _ e).2
          omega
      have hd4 := hown'.alloc (.cells #[.string src, .slice va m vc, .int .i64 alv, .int .u32 ac, .int .i64 afr, .int .i64 atil] 54)
      have ho4 := ho3.alloc (.cells #[.string src, .slice va m vc, .int .i64 alv, .int .u32 ac, .int .i64 afr, .int .i64 atil] 54)
      have hr4 := row6 W3 (.string src) (.slice va m vc) (.int .i64 alv) (.int .u32 ac) (.int .i64 afr) (.int .i64 atil) 54
      have hb4 := hb3.alloc hb3.size (.cells #[.string src, .slice va m vc, .int .i64 alv, .int .u32 ac, .int .i64 afr, .int .i64 atil] 54)
      have hs4 := World.size_alloc W3 (.cells #[.string src, .slice va m vc, .int .i64 alv, .int .u32 ac, .int .i64 afr, .int .i64 atil] 54)
      have hvl := hown'.lt
      obtain ⟨y0, y1, y2, y3, y4, y5⟩ := X3
      have Q1 := Lib.hid (And.intro ho4 (And.intro hr4 (And.intro hb4 (And.intro hd4 (And.intro hvl hol)))))
      have Q2 := Lib.hid (And.intro hl1 (And.intro hne3 (And.intro hmap hfl)))
      have Q3 := Lib.hid (And.intro hs4 hb3.size)
      clear hr2 hb2 ho2 hb1 ho1 hdl hol hl1 hne hmap hfl hs1 hs2 hbase ho3 hb3 hz3 hne3 hd4 ho4 hr4 hb4 hs4 hvl hown' hgrow' hcase' P1 P2 P3 hx6 x0 x1 x2 x3 x4 x5
      go_wp2_with (at_builtin; (refine wpList_append_rd2 rfl (.tmp 34) (.tmp 46) 31 rfl w.heap.size 54 i0 (.agg #[.string ⟨#[]⟩, .slice none 0 0, .int .i64 0, .int .u32 0, .int .i64 0, .int .i64 0]) 6 72 Tryz.underlying31 hi hz0 hz1 hz2 rfl (by decide) _ k (alCells l1) rfl Q1.out.1 _ 1 [.string src, .slice va m vc, .int .i64 alv, .int .u32 ac, .int .i64 afr, .int .i64 atil] rfl Q1.out.2.1 h1s (by unfold maxLen; omega) (by omega) (by have := Q3.out; omega) ?_); intro vo' W5 hown5 hgrow5 hcase5)
      have HN : Hid (FewAt w l vo' vd' (k + 1) W5) := by
        obtain ⟨ho4, hr4, hb4, hd4, hvl, hol⟩ := Q1.out
        obtain ⟨hl1, hne3, hmap, hfl⟩ := Q2.out
        obtain ⟨hs4, hb3s⟩ := Q3.out
        refine Lib.hid ⟨hb4.grown hgrow5 hb4.size (fun j hj => (hol j hj).1), l1 ++ [(cutA l[k].1, .slice va m vc)], by rw [List.length_append, hl1]; rfl, ?_, ?_, ?_, ?_, ?_⟩
        · rw [alC_snoc]; unfold alC cutA; rw [HA.out]; exact hown5
        · rw [alC_snoc]; unfold alC cutA; rw [HA.out]
          exact hd4.kept (row := u4.ownBlock) hgrow5 (by
            rcases hne3 with h | h
            · rw [h]
              cases hvb : vd'.ownBlock with
              | none => exact .inl rfl
              | some g => right; simp
            · exact .inr (Ne.symm h))
        · rcases hcase5 with h | h
          · rw [show vo'.ownBlock = u4.ownBlock from h]; exact hne3
          · right
            intro e
            rw [h] at e
            have := (hvl _ e.symm).2
            omega
        · rw [List.map_append, hmap, List.take_succ_eq_append_getElem hkl, List.map_append]; rfl
        · intro p hp
          rcases List.mem_append.1 hp with h | h
          · exact hfl p h
          · rw [List.mem_singleton.1 h]
            refine ⟨?_, cutA_fit (by rw [HA.out]; exact HFI.out), rfl⟩
            unfold cutA; rw [HA.out]; exact HCU.out
      clear Q1 Q2 Q3 hown5 hgrow5 hcase5 y0 y1 y2 y3 y4 y5
      go_roundw
      case rel => exact ⟨k + 1, by omega, by omega, by go_num, HN⟩
      case measure => (simp [intOf]; try omega)
    · have hfin : Hid (∃ l1, AlsAt wr u4 l1 ∧ AlsAt wr u5 l1 ∧ l1.map (·.1) = (l.take 10).map (fun p => cutA p.1)) := by
        obtain ⟨hb, l1, hl1, ho, hd, hne, hmap, hfl⟩ := HF.out
        have e : l.take k = l.take 10 := by
          rcases Nat.lt_or_ge k l.length with h | h
          · rw [show k = 10 by omega]
          · rw [List.take_of_length_le h, List.take_of_length_le (by omega)]
        rw [e] at hmap
        subst hl1
        exact Lib.hid ⟨l1, ⟨RdAt.own ho, fun p hp => ⟨(hfl p hp).1.later hb, (hfl p hp).2.1⟩⟩, ⟨RdAt.own hd, fun p hp => ⟨(hfl p hp).1.later hb, (hfl p hp).2.1⟩⟩, hmap⟩
      rcases (show k = l.length ∨ (k < l.length ∧ k = 10) by omega) with h | ⟨h, h'⟩
      · obtain rfl := h
        go_wp2
        go_ret2
        obtain ⟨l1, a1, a2, a3⟩ := hfin.out
        exact ⟨_, _, l1, rfl, HF.out.b, a1, a2, a3⟩
      · obtain rfl := h'
        have h12 : (10 : Int) < (l.length : Int) := by omega
        go_wp2
        go_ret2
        obtain ⟨l1, a1, a2, a3⟩ := hfin.out
        exact ⟨_, _, l1, rfl, HF.out.b, a1, a2, a3⟩
end Go.Proofs.YtipnhpfpppblhaaGreat

/- InhibitMore, plainly: more alerts make no fewer quiet; one alone isn't made quiet; parts of a list of alerts. -/
namespace Go.Proofs.YtipnhpfpppblhaaGreat
open Go.RowKit
theorem idxTo_mem {α : Type} {f : α → Bool} {l : List α} {k : Nat} {x : Int} : x ∈ idxTo f l k ↔ ∃ i : Nat, i < k ∧ x = (i : Int) ∧ ∃ h : i < l.length, f l[i] = true := by
  unfold idxTo
  rw [List.mem_map]
  constructor
  · rintro ⟨i, hi, rfl⟩
    obtain ⟨h1, h2⟩ := List.mem_filter.1 hi
    have h3 := List.mem_range.1 h1
    by_cases hl : i < l.length
    · rw [List.getElem?_eq_getElem hl] at h2
      exact ⟨i, h3, rfl, hl, by simpa using h2⟩
    · rw [List.getElem?_eq_none (by omega)] at h2
      simp at h2
  · rintro ⟨i, h1, rfl, h2, h3⟩
    exact ⟨i, List.mem_filter.2 ⟨List.mem_range.2 h1, by rw [List.getElem?_eq_getElem h2]; simpa using h3⟩, rfl⟩
theorem idxF_mem {α : Type} {f : α → Bool} {l : List α} {x : Int} : x ∈ idxF f l ↔ ∃ (i : Nat) (h : i < l.length), x = (i : Int) ∧ f l[i] = true := by
  unfold idxF
  rw [idxTo_mem]
  constructor
  · rintro ⟨i, _, e, h, hf⟩; exact ⟨i, h, e, hf⟩
  · rintro ⟨i, h, e, hf⟩; exact ⟨i, h, e, h, hf⟩
theorem idxF_up {α : Type} (f : α → Bool) (l : List α) : (idxF f l).Pairwise (· < ·) := by
  unfold idxF idxTo
  rw [List.pairwise_map]
  refine (List.Pairwise.filter _ (List.pairwise_lt_range (n := l.length))).imp ?_
  intro a b h
  exact Int.ofNat_lt.2 h
theorem left_up (p : PD) (l : List (Al × Value)) (t : Int × Nat) (now : Int) : (leftL p l t now).Pairwise (· < ·) := by
  unfold leftL
  split
  · exact (idxF_up _ _).filter _
  · exact List.Pairwise.nil
theorem left_len (p : PD) (l : List (Al × Value)) (t : Int × Nat) (now : Int) : (leftL p l t now).length ≤ l.length := by
  unfold leftL
  split
  · exact Nat.le_trans (List.length_filter_le _ _) (idxTo_len _ _ _)
  · exact Nat.zero_le _
theorem byM_more {x : PIh} {l l' : List (Al × Value)} {id : Int} {c : List Fld} {now : Int} (hs : ∀ p ∈ l, p ∈ l') (h : byM x l id c now = true) : byM x l' id c now = true := by
  unfold byM at h ⊢
  rw [Bool.and_eq_true] at h ⊢
  refine ⟨h.1, ?_⟩
  obtain ⟨p, hp, hg⟩ := List.any_eq_true.1 h.2
  obtain ⟨h1, h2⟩ := List.mem_filter.1 hp
  exact List.any_eq_true.2 ⟨p, List.mem_filter.2 ⟨hs p h1, h2⟩, hg⟩
theorem hush_more {p : PD} {l l' : List (Al × Value)} {t : Int × Nat} {now : Int} {j : Nat} (hs : ∀ q ∈ l, q ∈ l') (h1 : j < l.length) (h2 : j < l'.length) (he : l[j] = l'[j]) (h : hushK p l t now (j : Int) = true) : hushK p l' t now (j : Int) = true := by
  unfold hushK at h ⊢
  rw [decide_eq_true_eq] at h ⊢
  rw [quietK_at h1] at h
  rw [quietK_at h2, ← he]
  unfold quietX at h ⊢
  split at h
  · rename_i hc
    rw [if_pos hc]
    obtain ⟨x, hx⟩ := List.exists_mem_of_length_pos h
    obtain ⟨i, hi, rfl, hf⟩ := idxF_mem.1 hx
    refine List.length_pos_of_mem (idxF_mem.2 ⟨i, hi, rfl, ?_⟩ : ((i : Nat) : Int) ∈ _)
    unfold ruleQ at hf ⊢
    rw [Bool.and_eq_true] at hf ⊢
    exact ⟨hf.1, byM_more hs hf.2⟩
  · exact absurd h (Nat.lt_irrefl 0)
theorem left_more {p : PD} {l : List (Al × Value)} {t : Int × Nat} {now : Int} {n : Nat} (hn : n < l.length) {y : Int} (hy : y ∈ leftL p (l.take (n + 1)) t now) (hlt : y < n) : y ∈ leftL p (l.take n) t now := by
  unfold leftL at hy ⊢
  split at hy
  · rename_i hc
    rw [if_pos hc]
    obtain ⟨h1, h2⟩ := List.mem_filter.1 hy
    obtain ⟨i, hi, rfl, hf⟩ := idxF_mem.1 h1
    have hin : i < n := by omega
    have hi1 : i < (l.take n).length := by rw [List.length_take]; omega
    have e : (l.take n)[i] = (l.take (n + 1))[i] := by rw [List.getElem_take, List.getElem_take]
    refine List.mem_filter.2 ⟨idxF_mem.2 ⟨i, hi1, rfl, by rw [e]; exact hf⟩, ?_⟩
    cases hh : hushK p (l.take n) t now (i : Int)
    · rfl
    · have hs : ∀ q ∈ l.take n, q ∈ l.take (n + 1) := fun q hq => by
        rw [List.take_succ_eq_append_getElem hn]
        exact List.mem_append_left _ hq
      rw [hush_more hs hi1 hi e hh] at h2
      cases h2
  · cases hy
theorem quiet_alone (p : PD) (a : Al × Value) (t : Int × Nat) (now : Int) : quietK p [a] 0 t now = [] := by
  have hk := quietK_at (p := p) (l := [a]) (j := 0) (t := t) (now := now) (Nat.lt_add_one 0)
  rw [show ((0 : Nat) : Int) = 0 from rfl] at hk
  rw [hk]
  show quietX p [a] a.1 t now = []
  unfold quietX
  split
  · rw [List.eq_nil_iff_forall_not_mem]
    intro x hx
    obtain ⟨i, hi, rfl, hf⟩ := idxF_mem.1 hx
    unfold ruleQ byM at hf
    rw [Bool.and_eq_true, Bool.and_eq_true] at hf
    obtain ⟨_, _, h3⟩ := hf
    obtain ⟨q, hq, hg⟩ := List.any_eq_true.1 h3
    have hqa := List.mem_singleton.1 (List.mem_filter.1 hq).1
    subst hqa
    unfold goodBy at hg
    simp at hg
  · rfl
theorem als_part {w : World} {b o c : Nat} {l : List (Al × Value)} {n i m c' : Nat} (h : AlsAt w (.slice (some ⟨b, o, none⟩) n c) l) (him : i + m ≤ l.length) (hc : m ≤ c') (h0 : 0 < l.length) : AlsAt w (.slice (some ⟨b, o + i * 6, none⟩) m c') ((l.drop i).take m) := by
  obtain ⟨a', c1, he, _, hr⟩ := RdAt.shape h.row
  simp only [Value.slice.injEq] at he
  obtain ⟨rfl, _, rfl⟩ := he
  obtain ⟨b', o', hb, hbl, hcell⟩ := hr h0
  simp only [Option.some.injEq, Addr.mk.injEq, and_true] at hb
  obtain ⟨rfl, rfl⟩ := hb
  have hlen : ((l.drop i).take m).length = m := by rw [List.length_take, List.length_drop]; omega
  refine ⟨?_, fun p hp => h.fld p (List.mem_of_mem_drop (List.mem_of_mem_take hp))⟩
  rw [hlen]
  refine RdAt.mk (by rw [alCells_len, hlen]) hc hbl (fun j x hj => ?_)
  have hj6 : j < m * 6 := by have := (List.getElem?_eq_some_iff.1 hj).1; rw [alCells_len, hlen] at this; exact this
  have hq : j / 6 < m := by omega
  have hx : (alCells l)[i * 6 + j]? = some x := by
    have e1 : j = (j / 6) * 6 + j % 6 := by omega
    have hm6 : j % 6 < 6 := Nat.mod_lt _ (by decide)
    have hget : ((l.drop i).take m)[j / 6]'(by rw [hlen]; exact hq) = l[i + j / 6]'(by omega) := by rw [List.getElem_take, List.getElem_drop]
    obtain ⟨v, hv⟩ : ∃ v, (alC (l[i + j / 6]'(by omega)).1 (l[i + j / 6]'(by omega)).2)[j % 6]? = some v := by
      refine ⟨_, List.getElem?_eq_getElem (by show j % 6 < 6; exact hm6)⟩
    have h1 := alCells_at ((l.drop i).take m) (j / 6) (by rw [hlen]; exact hq) (j % 6) v (by rw [hget]; exact hv)
    have h2 := alCells_at l (i + j / 6) (by omega) (j % 6) v hv
    rw [← e1] at h1
    rw [hj] at h1
    rw [show i * 6 + j = (i + j / 6) * 6 + j % 6 by omega, h2]
    exact h1.symm
  have := hcell _ _ hx
  rw [Nat.add_assoc]
  exact this
def InvM (A C : List Int) (i k : Nat) : Prop := ∀ x ∈ A.take k, ∀ y ∈ C.drop i, x < y
theorem inv_next {A C : List Int} {i k : Nat} (h : InvM A C i k) : InvM A C (i + 1) k := fun x hx y hy => h x hx y (by
  rw [List.mem_iff_getElem?] at hy ⊢
  obtain ⟨j, hj⟩ := hy
  rw [List.getElem?_drop] at hj
  exact ⟨j + 1, by rw [List.getElem?_drop]; rw [show i + (j + 1) = i + 1 + j by omega]; exact hj⟩)
theorem inv_at {A C : List Int} (hA : A.Pairwise (· < ·)) (hC : C.Pairwise (· < ·)) {i k : Nat} (hi : i < C.length) (hm : C[i] ∈ A) (h : InvM A C i k) : k < A.length ∧ (∀ hk : k < A.length, A[k] ≠ C[i] → InvM A C i (k + 1)) := by
  have hCi : C[i] ∈ C.drop i := by rw [List.drop_eq_getElem_cons hi]; exact List.mem_cons_self
  obtain ⟨j, hj, hje⟩ := List.getElem_of_mem hm
  have hkj : k ≤ j := by
    apply Classical.byContradiction
    intro hlt
    have hmem : A[j] ∈ A.take k := by
      rw [List.mem_iff_getElem?]
      exact ⟨j, by rw [List.getElem?_take_of_lt (by omega), List.getElem?_eq_getElem hj]⟩
    have := h _ hmem _ hCi
    omega
  refine ⟨by omega, fun hk hne x hx y hy => ?_⟩
  rw [List.take_succ_eq_append_getElem hk] at hx
  rcases List.mem_append.1 hx with h1 | h1
  · exact h x h1 y hy
  · rw [List.mem_singleton.1 h1]
    have hkj' : k < j := by
      rcases Nat.lt_or_ge k j with h2 | h2
      · exact h2
      · have : k = j := by omega
        subst this
        exact absurd hje hne
    have hlt : A[k] < A[j] := List.pairwise_iff_getElem.1 hA k j hk hj hkj'
    rw [hje] at hlt
    rw [List.drop_eq_getElem_cons hi] at hy
    rcases List.mem_cons.1 hy with rfl | hy
    · exact hlt
    · obtain ⟨m, hm2, rfl⟩ := List.getElem_of_mem hy
      rw [List.getElem_drop]
      have h3 : C[i] < C[i + 1 + m]'(by rw [List.length_drop] at hm2; omega) := List.pairwise_iff_getElem.1 hC i (i + 1 + m) hi (by rw [List.length_drop] at hm2; omega) (by omega)
      omega
end Go.Proofs.YtipnhpfpppblhaaGreat

/- InhibitMore: the walk. -/
namespace Go.Proofs.YtipnhpfpppblhaaGreat
open Go.RowKit Go.Maps
namespace lawMore
set_option maxHeartbeats 6400000 in
set_option maxRecDepth 100000 in
theorem walk0 (x : PA) (p : PD) (l : List (Al × Value)) (v : Value) (now : Int) (w : World) (hp : PolAt w (x.pv p) p) (hc : PCap (x.pv p)) (hpf : PolFitD p) (ha : AlsAt w v l) (hl : l.length ≤ maxLen) :
    Calls Tryz.prog 6 #[(x.pv p).v, v, .int .i64 now] w fun e w' => e = .returned (.bool true) ∧ Below w.heap.size w w' := by
  have kl := lives_any
  have kc := fun W (h : Below w.heap.size w W) => rcutD_any x p W (hp.later h) hc
  have kfew := fun W (h : Below w.heap.size w W) => few13_any l v W (ha.later h) hl
  have hq := pol_cut hp
  have hqf := cutD_fit hpf
  have h14 : p.cut.ih.length ≤ 14 := by unfold PD.cut; exact List.length_take_le _ _
  generalize p.cut = q at *
  obtain ⟨a0, c0, a1, c1, a2, c2, a3, c3, a4, c4, a5, c5⟩ := x
  have KLF := Lib.hid (fun (L : List (Al × Value)) (u : Value) (tl : Int) (tc : Nat) (nw : Int) (W : World) (h : Below w.heap.size w W) (hL : AlsAt W u L) (hn : L.length ≤ 1000000) (h12 : ∀ y ∈ L, y.1.fl.length ≤ 12) => ileft_any _ q L u tl tc nw W (hq.later h) hqf hL hn h12)
  have KQT := Lib.hid (fun (L : List (Al × Value)) (u : Value) (k : Int) (tl : Int) (tc : Nat) (nw : Int) (W : World) (h : Below w.heap.size w W) (hL : AlsAt W u L) (hn : L.length ≤ maxLen) => iquiet_any _ q L u k tl tc nw W (hq.later h) hqf hL hn)
  have KBT := Lib.hid (fun (L : List (Al × Value)) (u : Value) (tl : Int) (tc : Nat) (nw : Int) (W : World) (h : Below w.heap.size w W) (hL : AlsAt W u L) (hn : L.length ≤ 1000000) (h12 : ∀ y ∈ L, y.1.fl.length ≤ 12) => ibits_any _ q L u tl tc nw W (hq.later h) hqf hL hn h12 h14)
  have KCH := Lib.hid (fun (W : World) (h : Below w.heap.size w W) => check8_any _ q W (hq.later h) hqf)
  have HQP := Lib.hid hq
  have HQF := Lib.hid hqf
  dsimp only [PA.pv, PV.v] at *
  generalize p.so.length = n0 at *
  generalize p.re.length = n1 at *
  generalize p.pe.length = n2 at *
  generalize p.ra.length = n3 at *
  generalize p.ro.length = n4 at *
  generalize p.ih.length = n5 at *
  obtain ⟨m0, hm0⟩ : ∃ z, q.so.length = z := ⟨_, rfl⟩
  obtain ⟨m1, hm1⟩ : ∃ z, q.re.length = z := ⟨_, rfl⟩
  obtain ⟨m2, hm2⟩ : ∃ z, q.pe.length = z := ⟨_, rfl⟩
  obtain ⟨m3, hm3⟩ : ∃ z, q.ra.length = z := ⟨_, rfl⟩
  obtain ⟨m4, hm4⟩ : ∃ z, q.ro.length = z := ⟨_, rfl⟩
  obtain ⟨m5, hm5⟩ : ∃ z, q.ih.length = z := ⟨_, rfl⟩
  rw [hm0, hm1, hm2, hm3, hm4, hm5] at KLF KQT KBT KCH kc HQP
  have HM5 := Lib.hid hm5
  have H14 := Lib.hid h14
  have KC := Lib.hid kc
  have KFEW := Lib.hid kfew
  have HA := Lib.hid ha
  clear kc kfew hp hc hpf ha hq hqf hl h14 hm0 hm1 hm2 hm3 hm4 hm5
  obtain ⟨W0, hW0⟩ : ∃ z, w.alloc (.cells #[.slice a0 n0 c0, .slice a1 n1 c1, .slice a2 n2 c2, .slice a3 n3 c3, .slice a4 n4 c4, .slice a5 n5 c5] 26) = z := ⟨_, rfl⟩
  have hb0 : Below w.heap.size w W0 := by rw [← hW0]; exact alloc_below _ _
  have hz : w.heap.size < W0.heap.size := by rw [← hW0]; simp
  have hT : W0.there w.heap.size 0 6 := hW0 ▸ box_there (Below.refl _ _)
  have hP : C6 w.heap.size (.slice a0 n0 c0) (.slice a1 n1 c1) (.slice a2 n2 c2) (.slice a3 n3 c3) (.slice a4 n4 c4) (.slice a5 n5 c5) W0 := hW0 ▸ alc6 w _ _ _ _ _ _ _
  have HP := Lib.hid hP
  have HT := Lib.hid hT
  have HB0 := Lib.hid hb0
  have HZ := Lib.hid hz
  have HW0 := Lib.hid hW0
  obtain ⟨va, vc, rfl, _, _⟩ := RdAt.shape HA.out.row
  clear hb0 hz hT hP hW0
  go_enter Tryz.func6, Tryz.ntmps6
  go_upto_region 1 with fail
  rw [HW0.out]
  clear HW0
  go_wp2_with fail
  refine (kl _).mono ?_
  rintro e w1 ⟨rfl, hb1⟩
  have HB1 := Lib.hid (HB0.out.trans (hb1.mono HB0.out.size))
  have HT1 := Lib.hid (there_later HT.out hb1 HZ.out)
  have HZ1 := Lib.hid (Nat.lt_of_lt_of_le HZ.out hb1.size)
  obtain ⟨p0, p1, p2, p3, p4, p5⟩ := HP.out.later hb1 HZ.out
  clear hb1 kl HB0 HP HT HZ
  go_wp2_with fail
  refine (KC.out _ HB1.out).mono ?_
  rintro e w2 ⟨rfl, hb2⟩
  have HB2 := Lib.hid (HB1.out.trans (hb2.mono HB1.out.size))
  have HT2 := Lib.hid (there_later HT1.out hb2 HZ1.out)
  have HZ2 := Lib.hid (Nat.lt_of_lt_of_le HZ1.out hb2.size)
  have P0 := keep_cell p0 hb2 HZ1.out
  have P1 := keep_cell p1 hb2 HZ1.out
  have P2 := keep_cell p2 hb2 HZ1.out
  have P3 := keep_cell p3 hb2 HZ1.out
  have P4 := keep_cell p4 hb2 HZ1.out
  have P5 := keep_cell p5 hb2 HZ1.out
  clear hb2 p0 p1 p2 p3 p4 p5 KC HB1 HT1 HZ1
  have f0 := there_free HT2.out 0 (by decide)
  have f1 := there_free HT2.out 1 (by decide)
  have f2 := there_free HT2.out 2 (by decide)
  have f3 := there_free HT2.out 3 (by decide)
  have f4 := there_free HT2.out 4 (by decide)
  have f5 := there_free HT2.out 5 (by decide)
  go_upto_region 4 with fail
  change Code.wp _ _ _ _ (w2.setCells w.heap.size 0 [.slice a0 m0 c0, .slice a1 m1 c1, .slice a2 m2 c2, .slice a3 m3 c3, .slice a4 m4 c4, .slice a5 m5 c5])
  have hP3 := c6_puts w2 w.heap.size (.slice a0 m0 c0) (.slice a1 m1 c1) (.slice a2 m2 c2) (.slice a3 m3 c3) (.slice a4 m4 c4) (.slice a5 m5 c5) HT2.out
  have hB3 := below_puts (g := w.heap.size) (o := 0) HB2.out (Nat.le_refl _) [.slice a0 m0 c0, .slice a1 m1 c1, .slice a2 m2 c2, .slice a3 m3 c3, .slice a4 m4 c4, .slice a5 m5 c5]
  have hZ3 := Nat.lt_of_lt_of_le HZ2.out (below_puts_base (g := w.heap.size) (o := 0) (Below.refl 0 w2) (Nat.zero_le _) [.slice a0 m0 c0, .slice a1 m1 c1, .slice a2 m2 c2, .slice a3 m3 c3, .slice a4 m4 c4, .slice a5 m5 c5]).size
  generalize w2.setCells w.heap.size 0 [.slice a0 m0 c0, .slice a1 m1 c1, .slice a2 m2 c2, .slice a3 m3 c3, .slice a4 m4 c4, .slice a5 m5 c5] = w3 at *
  clear f0 f1 f2 f3 f4 f5 P0 P1 P2 P3 P4 P5 HB2 HT2 HZ2
  have HP3 := Lib.hid hP3
  have HB3 := Lib.hid hB3
  have HZ3 := Lib.hid hZ3
  clear hP3 hB3 hZ3
  have kf := KFEW.out w3 HB3.out
  clear KFEW HA
  go_wp2_with fail
  refine kf.mono ?_
  rintro e w4 ⟨u1, u2, L, rfl, hb4, hO, hD, hmap⟩
  have h10 : L.length ≤ 10 := by
    have := congrArg List.length hmap
    rw [List.length_map, List.length_map, List.length_take] at this
    omega
  have H12 : Hid (∀ y ∈ L, y.1.fl.length ≤ 12) := Lib.hid (fun y hy => by
    have hm : y.1 ∈ (l.take 10).map (fun p => cutA p.1) := hmap ▸ List.mem_map_of_mem hy
    obtain ⟨z, _, hz⟩ := List.mem_map.1 hm
    rw [← hz]
    exact List.length_take_le _ _)
  obtain ⟨oa, oc, rfl, hoc, hor⟩ := RdAt.shape hO.row
  obtain ⟨da, dc, rfl, hdc, _⟩ := RdAt.shape hD.row
  have HB4 := Lib.hid (HB3.out.trans (hb4.mono HB3.out.size))
  have HP4 := Lib.hid (HP3.out.later hb4 HZ3.out)
  have HZ4 := Lib.hid (Nat.lt_of_lt_of_le HZ3.out hb4.size)
  have HO4 := Lib.hid hO
  have HD4 := Lib.hid hD
  clear kf hb4 hO hD hmap hor HB3 HP3 HZ3
  go_upto_region 6 with fail
  change Code.wp _ _ _ _ (w4.alloc (.cells #[.int .i64 7, .int .u32 4294967295] 36))
  obtain ⟨s5, b5, c5'⟩ := alloc_facts w4 [.int .i64 7, .int .u32 4294967295] 36 _ rfl
  generalize hw5 : w4.alloc (.cells [.int .i64 7, .int .u32 4294967295].toArray 36) = w5 at *
  clear hw5
  have HB5 := Lib.hid (HB4.out.trans (b5.mono HB4.out.size))
  have HP5 := Lib.hid (HP4.out.later b5 HZ4.out)
  have HO5 := Lib.hid (HO4.out.later b5)
  have HD5 := Lib.hid (HD4.out.later b5)
  have HT5 := Lib.hid (And.intro (c5' 0 _ rfl) (c5' 1 _ rfl))
  have hgl : w4.heap.size < w5.heap.size := by omega
  have hgw : w.heap.size < w5.heap.size := by have := HZ4.out; omega
  generalize w4.heap.size = gl at *
  clear b5 c5' HB4 HP4 HO4 HD4 s5
  have hocm : l.length ≤ l.length := Nat.le_refl _
  go_wp2
  go_loopw [10] (fun i wr => ∃ (n : Nat), i = .int .i64 n ∧ n ≤ L.length ∧ Hid (Below w5.heap.size w5 wr)) (fun i _ => L.length - (intOf i).toNat)
  case atStart => exact ⟨0, rfl, Nat.zero_le _, Lib.hid (Below.refl _ _)⟩
  case round =>
    obtain ⟨n, rfl, hn, HB⟩ := hrel
    by_cases hnl : n < L.length
    · have hBw := HB5.out.trans (HB.out.mono HB5.out.size)
      obtain ⟨q0, q1, q2, q3, q4, q5⟩ := HP5.out.later HB.out hgw
      have t0 := keep_cell HT5.out.1 HB.out hgl
      have t1 := keep_cell HT5.out.2 HB.out hgl
      have hOw := HO5.out.later HB.out
      obtain ⟨la', lc', hsh, _, hor⟩ := RdAt.shape hOw.row
      obtain ⟨b, o, hb, _, _⟩ := hor (by omega)
      simp only [Value.slice.injEq] at hsh
      obtain ⟨hsh1, _, hsh3⟩ := hsh
      subst hsh1
      subst hsh3
      subst hb
      have HOW := Lib.hid hOw
      have hA1 := als_part (i := 0) (m := n) (c' := oc) hOw (by omega) (by omega) (by omega)
      have hA2 := als_part (i := 0) (m := n + 1) (c' := oc) hOw (by omega) (by omega) (by omega)
      rw [Nat.zero_mul, Nat.add_zero, List.drop_zero] at hA1 hA2
      have ltq : w.heap.size < wr.heap.size := Nat.lt_of_lt_of_le hgw HB.out.size
      have ltt : gl < wr.heap.size := Nat.lt_of_lt_of_le hgl HB.out.size
      have K1 := Lib.hid (fun W (h : Below wr.heap.size wr W) => KLF.out (L.take n) _ 7 4294967295 now W (hBw.trans (h.mono hBw.size)) (hA1.later h) (by rw [List.length_take]; omega) (fun y hy => H12.out y (List.mem_of_mem_take hy)))
      have K2 := Lib.hid (fun W (h : Below wr.heap.size wr W) => KLF.out (L.take (n + 1)) _ 7 4294967295 now W (hBw.trans (h.mono hBw.size)) (hA2.later h) (by rw [List.length_take]; omega) (fun y hy => H12.out y (List.mem_of_mem_take hy)))
      have HUA := Lib.hid (left_up q (L.take n) (7, 4294967295) now)
      have HUC := Lib.hid (left_up q (L.take (n + 1)) (7, 4294967295) now)
      have HMO : Hid (∀ y ∈ leftL q (L.take (n + 1)) (7, 4294967295) now, y < n → y ∈ leftL q (L.take n) (7, 4294967295) now) := Lib.hid (fun y hy hlt => left_more hnl hy hlt)
      have hla := left_len q (L.take n) (7, 4294967295) now
      have hlc := left_len q (L.take (n + 1)) (7, 4294967295) now
      rw [List.length_take] at hla hlc
      generalize leftL q (L.take n) (7, 4294967295) now = A at *
      generalize leftL q (L.take (n + 1)) (7, 4294967295) now = C at *
      have HBW := Lib.hid hBw
      have hi0 : (0 : Int) ≤ (n : Int) := by omega
      have hi1 : (n : Int) ≤ (oc : Int) := by omega
      have hi2 : (n : Int) + 1 ≤ (oc : Int) := by omega
      have hi3 : (0 : Int) ≤ (n : Int) + 1 := by omega
      have hw1 : IntKind.i64.wrap ((n : Int) + 1) = ((n + 1 : Nat) : Int) := IntWalk.i64_in _ ⟨by omega, by omega⟩
      clear hA1 hA2 hOw hBw hor
      go_upto_region 9 with fail
      refine wp_region_held_drew (S := (fun W => W.cell? ⟨w.heap.size, 0, none⟩ = some (.slice a0 m0 c0) ∧ W.cell? ⟨w.heap.size, 1, none⟩ = some (.slice a1 m1 c1) ∧ W.cell? ⟨w.heap.size, 2, none⟩ = some (.slice a2 m2 c2) ∧ W.cell? ⟨w.heap.size, 3, none⟩ = some (.slice a3 m3 c3) ∧ W.cell? ⟨w.heap.size, 4, none⟩ = some (.slice a4 m4 c4) ∧ W.cell? ⟨w.heap.size, 5, none⟩ = some (.slice a5 m5 c5) ∧ W.cell? ⟨gl, 0, none⟩ = some (.int .i64 7) ∧ W.cell? ⟨gl, 1, none⟩ = some (.int .u32 4294967295))) (by kernel_rfl) ⟨q0, q1, q2, q3, q4, q5, t0, t1⟩ (fun hHeld => ?_)
      have hd : Below wr.heap.size wr wr.drew := (Below.refl _ _).drew
      refine held_take (i := 0) (v := ?_) rfl rfl (by kernel_rfl) (by kernel_rfl) (by kernel_rfl) (fun _ _ _ h => h) (by rfl) hHeld ?_ ?_
      rotate_left
      · rintro wh ⟨z0, z1, z2, z3, z4, z5, z6, z7⟩
        go_simp
        (try with_reducible rfl)
      simp only [Act.put, List.setIfInBounds_toArray, List.set_cons_zero, List.set_cons_succ]
      refine held_take (i := 1) (v := ?_) rfl rfl (by kernel_rfl) (by kernel_rfl) (by kernel_rfl) (fun _ _ _ h => h) (by rfl) hHeld ?_ ?_
      rotate_left
      · rintro wh ⟨z0, z1, z2, z3, z4, z5, z6, z7⟩
        go_simp
        (try with_reducible rfl)
      simp only [Act.put, List.setIfInBounds_toArray, List.set_cons_zero, List.set_cons_succ]
      refine held_take (i := 2) (v := ?_) rfl rfl (by kernel_rfl) (by kernel_rfl) (by kernel_rfl) (fun _ _ _ h => h) (by rfl) hHeld ?_ ?_
      rotate_left
      · rintro wh ⟨z0, z1, z2, z3, z4, z5, z6, z7⟩
        go_simp
        (try with_reducible rfl)
      simp only [Act.put, List.setIfInBounds_toArray, List.set_cons_zero, List.set_cons_succ]
      refine held_take (i := 3) (v := ?_) rfl rfl (by kernel_rfl) (by kernel_rfl) (by kernel_rfl) (fun _ _ _ h => h) (by rfl) hHeld ?_ ?_
      rotate_left
      · rintro wh ⟨z0, z1, z2, z3, z4, z5, z6, z7⟩
        go_simp
        (try with_reducible rfl)
      simp only [Act.put, List.setIfInBounds_toArray, List.set_cons_zero, List.set_cons_succ]
      refine held_take (i := 4) (v := ?_) rfl rfl (by kernel_rfl) (by kernel_rfl) (by kernel_rfl) (fun _ _ _ h => h) (by rfl) hHeld ?_ ?_
      rotate_left
      · rintro wh ⟨z0, z1, z2, z3, z4, z5, z6, z7⟩
        go_simp
        (try with_reducible rfl)
      simp only [Act.put, List.setIfInBounds_toArray, List.set_cons_zero, List.set_cons_succ]
      refine held_take (i := 5) (v := ?_) rfl rfl (by kernel_rfl) (by kernel_rfl) (by kernel_rfl) (fun _ _ _ h => h) (by rfl) hHeld ?_ ?_
      rotate_left
      · rintro wh ⟨z0, z1, z2, z3, z4, z5, z6, z7⟩
        go_simp
        (try with_reducible rfl)
      simp only [Act.put, List.setIfInBounds_toArray, List.set_cons_zero, List.set_cons_succ]
      refine held_take (i := 7) (v := ?_) rfl rfl (by kernel_rfl) (by kernel_rfl) (by kernel_rfl) (fun _ _ _ h => h) (by rfl) hHeld ?_ ?_
      rotate_left
      · rintro wh ⟨z0, z1, z2, z3, z4, z5, z6, z7⟩
        go_simp
        (try with_reducible rfl)
      simp only [Act.put, List.setIfInBounds_toArray, List.set_cons_zero, List.set_cons_succ]
      refine held_take (i := 8) (v := ?_) rfl rfl (by kernel_rfl) (by kernel_rfl) (by kernel_rfl) (fun _ _ _ h => h) (by rfl) hHeld ?_ ?_
      rotate_left
      · rintro wh ⟨z0, z1, z2, z3, z4, z5, z6, z7⟩
        go_simp
        (try with_reducible rfl)
      simp only [Act.put, List.setIfInBounds_toArray, List.set_cons_zero, List.set_cons_succ]
      refine held_take (i := 9) (v := ?_) rfl rfl (by kernel_rfl) (by kernel_rfl) (by kernel_rfl) (fun _ _ _ h => h) (by rfl) hHeld ?_ ?_
      rotate_left
      · rintro wh ⟨z0, z1, z2, z3, z4, z5, z6, z7⟩
        go_simp
        (try with_reducible rfl)
      simp only [Act.put, List.setIfInBounds_toArray, List.set_cons_zero, List.set_cons_succ]
      refine held_take (i := 10) (v := ?_) rfl rfl (by kernel_rfl) (by kernel_rfl) (by kernel_rfl) (fun _ _ _ h => h) (by rfl) hHeld ?_ ?_
      rotate_left
      · rintro wh ⟨z0, z1, z2, z3, z4, z5, z6, z7⟩
        go_simp
        (try with_reducible rfl)
      simp only [Act.put, List.setIfInBounds_toArray, List.set_cons_zero, List.set_cons_succ]
      refine held_take (i := 11) (v := ?_) rfl rfl (by kernel_rfl) (by kernel_rfl) (by kernel_rfl) (fun _ _ _ h => h) (by rfl) hHeld ?_ ?_
      rotate_left
      · rintro wh ⟨z0, z1, z2, z3, z4, z5, z6, z7⟩
        go_simp
        (try with_reducible rfl)
      simp only [Act.put, List.setIfInBounds_toArray, List.set_cons_zero, List.set_cons_succ]
      refine held_take (i := 12) (v := ?_) rfl rfl (by kernel_rfl) (by kernel_rfl) (by kernel_rfl) (fun _ _ _ h => h) (by rfl) hHeld ?_ ?_
      rotate_left
      · rintro wh ⟨z0, z1, z2, z3, z4, z5, z6, z7⟩
        go_simp
        (try with_reducible rfl)
      simp only [Act.put, List.setIfInBounds_toArray, List.set_cons_zero, List.set_cons_succ]
      refine held_take (i := 13) (v := ?_) rfl rfl (by kernel_rfl) (by kernel_rfl) (by kernel_rfl) (fun _ _ _ h => h) (by rfl) hHeld ?_ ?_
      rotate_left
      · rintro wh ⟨z0, z1, z2, z3, z4, z5, z6, z7⟩
        go_simp
        (try with_reducible rfl)
      simp only [Act.put, List.setIfInBounds_toArray, List.set_cons_zero, List.set_cons_succ]
      refine held_call (i := 6) rfl (by kernel_rfl) (by rfl) (fun K hK => ?_)
      (go_simp; go_at_call 17; refine (K1.out _ hd).mono ?_; rintro e w6 ⟨r1, rfl, hI1, hb6⟩; have hB6 := hd.trans (hb6.mono hd.size))
      refine hK.out _ _ ⟨keep_cell q0 hB6 ltq, keep_cell q1 hB6 ltq, keep_cell q2 hB6 ltq, keep_cell q3 hB6 ltq, keep_cell q4 hB6 ltq, keep_cell q5 hB6 ltq, keep_cell t0 hB6 ltt, keep_cell t1 hB6 ltt⟩ (fun hHeld => ?_)
      clear hK K
      (try simp only [Act.put, List.setIfInBounds_toArray, List.set_cons_zero, List.set_cons_succ])
      refine held_call (i := 14) rfl (by kernel_rfl) (by rfl) (fun K hK => ?_)
      (go_simp; go_at_call 17; refine (K2.out _ hB6).mono ?_; rintro e w7 ⟨r2, rfl, hI2, hb7⟩; have hB7 := hB6.trans (hb7.mono hB6.size))
      refine hK.out _ _ ⟨keep_cell q0 hB7 ltq, keep_cell q1 hB7 ltq, keep_cell q2 hB7 ltq, keep_cell q3 hB7 ltq, keep_cell q4 hB7 ltq, keep_cell q5 hB7 ltq, keep_cell t0 hB7 ltt, keep_cell t1 hB7 ltt⟩ (fun hHeld => ?_)
      clear hK K
      (try simp only [Act.put, List.setIfInBounds_toArray, List.set_cons_zero, List.set_cons_succ])
      refine held_take (i := 15) (v := ?_) rfl rfl (by kernel_rfl) (by kernel_rfl) (by kernel_rfl) (fun _ _ _ h => h) (by rfl) hHeld ?_ ?_
      rotate_left
      · rintro wh ⟨z0, z1, z2, z3, z4, z5, z6, z7⟩
        go_simp
        (try with_reducible rfl)
      simp only [Act.put, List.setIfInBounds_toArray, List.set_cons_zero, List.set_cons_succ]
      refine held_take (i := 16) (v := ?_) rfl rfl (by kernel_rfl) (by kernel_rfl) (by kernel_rfl) (fun _ _ _ h => h) (by rfl) hHeld ?_ ?_
      rotate_left
      · rintro wh ⟨z0, z1, z2, z3, z4, z5, z6, z7⟩
        go_simp
        (try with_reducible rfl)
      simp only [Act.put, List.setIfInBounds_toArray, List.set_cons_zero, List.set_cons_succ]
      refine wpAnyH_done (by kernel_rfl) ?_ _
      have HB7 := Lib.hid (HB.out.trans (hB7.mono HB.out.size))
      have hI1' := hI1.later hb7
      obtain ⟨xa, xc, rfl, _, hra⟩ := RdAt.shape hI1'
      obtain ⟨ya, yc, rfl, _, hrc⟩ := RdAt.shape hI2
      have HRA := Lib.hid hra
      have HRC := Lib.hid hrc
      have HPW := Lib.hid (HP5.out.later HB7.out hgw)
      have HTW := Lib.hid (And.intro (keep_cell HT5.out.1 HB7.out hgl) (keep_cell HT5.out.2 HB7.out hgl))
      have HO7 := Lib.hid (HO5.out.later HB7.out)
      have ltq7 : w.heap.size < w7.heap.size := Nat.lt_of_lt_of_le hgw HB7.out.size
      have ltt7 : gl < w7.heap.size := Nat.lt_of_lt_of_le hgl HB7.out.size
      clear hd hb6 hB6 hb7 hB7 hI1 hI1' hI2 hra hrc q0 q1 q2 q3 q4 q5 t0 t1 K1 K2 HBW HOW hw1 HB ltq ltt
      go_wp2
      go_loopw [13, 14] (fun sk si W => ∃ (k i : Nat), sk = .int .i64 k ∧ si = .int .i64 i ∧ k ≤ A.length ∧ i ≤ C.length ∧ Hid (InvM A C i k) ∧ Hid (Below w7.heap.size w7 W)) (fun _ si _ => C.length - (intOf si).toNat)
      case atStart => exact ⟨0, 0, rfl, rfl, Nat.zero_le _, Nat.zero_le _, Lib.hid (fun x hx => by simp at hx), Lib.hid (Below.refl _ _)⟩
      case round =>
        obtain ⟨k, i, rfl, rfl, hk, hi, HI, HBi⟩ := hrel
        by_cases hil : i < C.length
        · obtain ⟨yb, yo, rfl, hyb, hyc⟩ := HRC.out (by omega)
          have y0 := keep_cell (hyc i _ (by rw [List.getElem?_map, List.getElem?_eq_getElem hil]; rfl)) HBi.out hyb
          have HYC : Hid (∀ V, Below w7.heap.size w7 V → V.cell? ⟨yb, yo + i, none⟩ = some (.int .i64 C[i])) := Lib.hid (fun V h => keep_cell (hyc i _ (by rw [List.getElem?_map, List.getElem?_eq_getElem hil]; rfl)) h hyb)
          have HAT := Lib.hid (fun hm k' h => inv_at (k := k') HUA.out HUC.out hil hm h)
          have HMI := Lib.hid (HMO.out _ (List.getElem_mem hil))
          generalize C[i] = y at *
          have hi0' : (0 : Int) ≤ (i : Int) := by omega
          have hi1' : (i : Int) < (C.length : Int) := by omega
          clear hyc
          by_cases hyn : y < (n : Int)
          · have hm := HMI.out hyn
            have HM := Lib.hid hm
            clear hm
            go_wp2
            go_loopw [13] (fun sk W => ∃ (k : Nat), sk = .int .i64 k ∧ k ≤ A.length ∧ Hid (InvM A C i k) ∧ Hid (Below w7.heap.size w7 W)) (fun sk _ => A.length - (intOf sk).toNat)
            case atStart => exact ⟨k, rfl, hk, HI, HBi⟩
            case round =>
              clear y0 HI HBi hk
              obtain ⟨k, rfl, hk, HI, HBi⟩ := hrel
              obtain ⟨hkl, hnx⟩ := HAT.out HM.out k HI.out
              obtain ⟨xb, xo, rfl, hxb, hxc⟩ := HRA.out (by omega)
              have x0 := keep_cell (hxc k _ (by rw [List.getElem?_map, List.getElem?_eq_getElem hkl]; rfl)) HBi.out hxb
              have y0 := HYC.out _ HBi.out
              have hnx' := hnx hkl
              generalize A[k] = z at *
              have HNX := Lib.hid hnx'
              have hk0 : (0 : Int) ≤ (k : Int) := by omega
              have hk1 : (k : Int) < (A.length : Int) := by omega
              have HB14 := Lib.hid HBi.out.drew
              have hke : ((k : Int) == (A.length : Int)) = false := by rw [beq_eq_false_iff_ne]; omega
              clear hnx hnx' hxc
              by_cases hzy : z = y
              · subst hzy
                go_upto_region 14 with fail
                refine wp_region_held_drew (S := (fun W => W.cell? ⟨xb, xo + k, none⟩ = some (.int .i64 z) ∧ W.cell? ⟨yb, yo + i, none⟩ = some (.int .i64 z))) (by kernel_rfl) ⟨x0, y0⟩ (fun hHeld => ?_)
                refine held_take (i := 0) (v := ?_) rfl rfl (by kernel_rfl) (by kernel_rfl) (by kernel_rfl) (fun _ _ _ h => h) (by rfl) hHeld ?_ ?_
                rotate_left
                · rintro wh ⟨z0, z1⟩
                  go_simp
                  (try with_reducible rfl)
                simp only [Act.put, List.setIfInBounds_toArray, List.set_cons_zero, List.set_cons_succ]
                refine held_take (i := 1) (v := ?_) rfl rfl (by kernel_rfl) (by kernel_rfl) (by kernel_rfl) (fun _ _ _ h => h) (by rfl) hHeld ?_ ?_
                rotate_left
                · rintro wh ⟨z0, z1⟩
                  go_simp
                  (try with_reducible rfl)
                simp only [Act.put, List.setIfInBounds_toArray, List.set_cons_zero, List.set_cons_succ]
                refine held_take (i := 2) (v := ?_) rfl rfl (by kernel_rfl) (by kernel_rfl) (by kernel_rfl) (fun _ _ _ h => h) (by rfl) hHeld ?_ ?_
                rotate_left
                · rintro wh ⟨z0, z1⟩
                  go_simp
                  (try with_reducible rfl)
                simp only [Act.put, List.setIfInBounds_toArray, List.set_cons_zero, List.set_cons_succ]
                refine held_take (i := 3) (v := ?_) rfl rfl (by kernel_rfl) (by kernel_rfl) (by kernel_rfl) (fun _ _ _ h => h) (by rfl) hHeld ?_ ?_
                rotate_left
                · rintro wh ⟨z0, z1⟩
                  go_simp
                  (try with_reducible rfl)
                simp only [Act.put, List.setIfInBounds_toArray, List.set_cons_zero, List.set_cons_succ]
                refine held_take (i := 4) (v := ?_) rfl rfl (by kernel_rfl) (by kernel_rfl) (by kernel_rfl) (fun _ _ _ h => h) (by rfl) hHeld ?_ ?_
                rotate_left
                · rintro wh ⟨z0, z1⟩
                  go_simp
                  (try with_reducible rfl)
                simp only [Act.put, List.setIfInBounds_toArray, List.set_cons_zero, List.set_cons_succ]
                refine held_take (i := 5) (v := ?_) rfl rfl (by kernel_rfl) (by kernel_rfl) (by kernel_rfl) (fun _ _ _ h => h) (by rfl) hHeld ?_ ?_
                rotate_left
                · rintro wh ⟨z0, z1⟩
                  go_simp
                  (try with_reducible rfl)
                simp only [Act.put, List.setIfInBounds_toArray, List.set_cons_zero, List.set_cons_succ]
                refine held_take (i := 6) (v := ?_) rfl rfl (by kernel_rfl) (by kernel_rfl) (by kernel_rfl) (fun _ _ _ h => h) (by rfl) hHeld ?_ ?_
                rotate_left
                · rintro wh ⟨z0, z1⟩
                  go_simp
                  (try with_reducible rfl)
                simp only [Act.put, List.setIfInBounds_toArray, List.set_cons_zero, List.set_cons_succ]
                refine held_take (i := 7) (v := ?_) rfl rfl (by kernel_rfl) (by kernel_rfl) (by kernel_rfl) (fun _ _ _ h => h) (by rfl) hHeld ?_ ?_
                rotate_left
                · rintro wh ⟨z0, z1⟩
                  go_simp
                  (try with_reducible rfl)
                simp only [Act.put, List.setIfInBounds_toArray, List.set_cons_zero, List.set_cons_succ]
                refine held_take (i := 8) (v := ?_) rfl rfl (by kernel_rfl) (by kernel_rfl) (by kernel_rfl) (fun _ _ _ h => h) (by rfl) hHeld ?_ ?_
                rotate_left
                · rintro wh ⟨z0, z1⟩
                  go_simp
                  (try with_reducible rfl)
                simp only [Act.put, List.setIfInBounds_toArray, List.set_cons_zero, List.set_cons_succ]
                refine held_take (i := 9) (v := ?_) rfl rfl (by kernel_rfl) (by kernel_rfl) (by kernel_rfl) (fun _ _ _ h => h) (by rfl) hHeld ?_ ?_
                rotate_left
                · rintro wh ⟨z0, z1⟩
                  go_simp
                  (try with_reducible rfl)
                simp only [Act.put, List.setIfInBounds_toArray, List.set_cons_zero, List.set_cons_succ]
                refine held_take (i := 10) (v := ?_) rfl rfl (by kernel_rfl) (by kernel_rfl) (by kernel_rfl) (fun _ _ _ h => h) (by rfl) hHeld ?_ ?_
                rotate_left
                · rintro wh ⟨z0, z1⟩
                  go_simp
                  (try with_reducible rfl)
                simp only [Act.put, List.setIfInBounds_toArray, List.set_cons_zero, List.set_cons_succ]
                refine held_take (i := 11) (v := ?_) rfl rfl (by kernel_rfl) (by kernel_rfl) (by kernel_rfl) (fun _ _ _ h => h) (by rfl) hHeld ?_ ?_
                rotate_left
                · rintro wh ⟨z0, z1⟩
                  go_simp
                  (try with_reducible rfl)
                simp only [Act.put, List.setIfInBounds_toArray, List.set_cons_zero, List.set_cons_succ]
                refine held_take (i := 12) (v := ?_) rfl rfl (by kernel_rfl) (by kernel_rfl) (by kernel_rfl) (fun _ _ _ h => h) (by rfl) hHeld ?_ ?_
                rotate_left
                · rintro wh ⟨z0, z1⟩
                  go_simp
                  (try with_reducible rfl)
                simp only [Act.put, List.setIfInBounds_toArray, List.set_cons_zero, List.set_cons_succ]
                refine held_take (i := 13) (v := ?_) rfl rfl (by kernel_rfl) (by kernel_rfl) (by kernel_rfl) (fun _ _ _ h => h) (by rfl) hHeld ?_ ?_
                rotate_left
                · rintro wh ⟨z0, z1⟩
                  go_simp
                  (try with_reducible rfl)
                simp only [Act.put, List.setIfInBounds_toArray, List.set_cons_zero, List.set_cons_succ]
                refine held_take (i := 14) (v := ?_) rfl rfl (by kernel_rfl) (by kernel_rfl) (by kernel_rfl) (fun _ _ _ h => h) (by rfl) hHeld ?_ ?_
                rotate_left
                · rintro wh ⟨z0, z1⟩
                  go_simp
                  (try with_reducible rfl)
                simp only [Act.put, List.setIfInBounds_toArray, List.set_cons_zero, List.set_cons_succ]
                refine wpAnyH_done (by kernel_rfl) ?_ _
                go_wp2
                go_roundw
                case rel => exact ⟨k, i + 1, rfl, by go_num, hk, by omega, Lib.hid (inv_next HI.out), HB14⟩
                case measure => (simp [intOf]; try omega)
              · have hne : (z != y) = true := by rw [bne_iff_ne]; exact hzy
                have HNE := Lib.hid (HNX.out hzy)
                go_upto_region 14 with fail
                refine wp_region_held_drew (S := (fun W => W.cell? ⟨xb, xo + k, none⟩ = some (.int .i64 z) ∧ W.cell? ⟨yb, yo + i, none⟩ = some (.int .i64 y))) (by kernel_rfl) ⟨x0, y0⟩ (fun hHeld => ?_)
                refine held_take (i := 0) (v := ?_) rfl rfl (by kernel_rfl) (by kernel_rfl) (by kernel_rfl) (fun _ _ _ h => h) (by rfl) hHeld ?_ ?_
                rotate_left
                · rintro wh ⟨z0, z1⟩
                  go_simp
                  (try with_reducible rfl)
                simp only [Act.put, List.setIfInBounds_toArray, List.set_cons_zero, List.set_cons_succ]
                refine held_take (i := 1) (v := ?_) rfl rfl (by kernel_rfl) (by kernel_rfl) (by kernel_rfl) (fun _ _ _ h => h) (by rfl) hHeld ?_ ?_
                rotate_left
                · rintro wh ⟨z0, z1⟩
                  go_simp
                  (try with_reducible rfl)
                simp only [Act.put, List.setIfInBounds_toArray, List.set_cons_zero, List.set_cons_succ]
                refine held_take (i := 2) (v := ?_) rfl rfl (by kernel_rfl) (by kernel_rfl) (by kernel_rfl) (fun _ _ _ h => h) (by rfl) hHeld ?_ ?_
                rotate_left
                · rintro wh ⟨z0, z1⟩
                  go_simp
                  (try with_reducible rfl)
                simp only [Act.put, List.setIfInBounds_toArray, List.set_cons_zero, List.set_cons_succ]
                refine held_take (i := 3) (v := ?_) rfl rfl (by kernel_rfl) (by kernel_rfl) (by kernel_rfl) (fun _ _ _ h => h) (by rfl) hHeld ?_ ?_
                rotate_left
                · rintro wh ⟨z0, z1⟩
                  go_simp
                  (try with_reducible rfl)
                simp only [Act.put, List.setIfInBounds_toArray, List.set_cons_zero, List.set_cons_succ]
                refine held_take (i := 4) (v := ?_) rfl rfl (by kernel_rfl) (by kernel_rfl) (by kernel_rfl) (fun _ _ _ h => h) (by rfl) hHeld ?_ ?_
                rotate_left
                · rintro wh ⟨z0, z1⟩
                  go_simp
                  (try with_reducible rfl)
                simp only [Act.put, List.setIfInBounds_toArray, List.set_cons_zero, List.set_cons_succ]
                refine held_take (i := 5) (v := ?_) rfl rfl (by kernel_rfl) (by kernel_rfl) (by kernel_rfl) (fun _ _ _ h => h) (by rfl) hHeld ?_ ?_
                rotate_left
                · rintro wh ⟨z0, z1⟩
                  go_simp
                  (try with_reducible rfl)
                simp only [Act.put, List.setIfInBounds_toArray, List.set_cons_zero, List.set_cons_succ]
                refine held_take (i := 6) (v := ?_) rfl rfl (by kernel_rfl) (by kernel_rfl) (by kernel_rfl) (fun _ _ _ h => h) (by rfl) hHeld ?_ ?_
                rotate_left
                · rintro wh ⟨z0, z1⟩
                  go_simp
                  (try with_reducible rfl)
                simp only [Act.put, List.setIfInBounds_toArray, List.set_cons_zero, List.set_cons_succ]
                refine held_take (i := 7) (v := ?_) rfl rfl (by kernel_rfl) (by kernel_rfl) (by kernel_rfl) (fun _ _ _ h => h) (by rfl) hHeld ?_ ?_
                rotate_left
                · rintro wh ⟨z0, z1⟩
                  go_simp
                  (try with_reducible rfl)
                simp only [Act.put, List.setIfInBounds_toArray, List.set_cons_zero, List.set_cons_succ]
                refine held_take (i := 8) (v := ?_) rfl rfl (by kernel_rfl) (by kernel_rfl) (by kernel_rfl) (fun _ _ _ h => h) (by rfl) hHeld ?_ ?_
                rotate_left
                · rintro wh ⟨z0, z1⟩
                  go_simp
                  (try with_reducible rfl)
                simp only [Act.put, List.setIfInBounds_toArray, List.set_cons_zero, List.set_cons_succ]
                refine held_take (i := 9) (v := ?_) rfl rfl (by kernel_rfl) (by kernel_rfl) (by kernel_rfl) (fun _ _ _ h => h) (by rfl) hHeld ?_ ?_
                rotate_left
                · rintro wh ⟨z0, z1⟩
                  go_simp
                  (try with_reducible rfl)
                simp only [Act.put, List.setIfInBounds_toArray, List.set_cons_zero, List.set_cons_succ]
                refine held_take (i := 10) (v := ?_) rfl rfl (by kernel_rfl) (by kernel_rfl) (by kernel_rfl) (fun _ _ _ h => h) (by rfl) hHeld ?_ ?_
                rotate_left
                · rintro wh ⟨z0, z1⟩
                  go_simp
                  (try with_reducible rfl)
                simp only [Act.put, List.setIfInBounds_toArray, List.set_cons_zero, List.set_cons_succ]
                refine held_take (i := 11) (v := ?_) rfl rfl (by kernel_rfl) (by kernel_rfl) (by kernel_rfl) (fun _ _ _ h => h) (by rfl) hHeld ?_ ?_
                rotate_left
                · rintro wh ⟨z0, z1⟩
                  go_simp
                  (try with_reducible rfl)
                simp only [Act.put, List.setIfInBounds_toArray, List.set_cons_zero, List.set_cons_succ]
                refine held_take (i := 12) (v := ?_) rfl rfl (by kernel_rfl) (by kernel_rfl) (by kernel_rfl) (fun _ _ _ h => h) (by rfl) hHeld ?_ ?_
                rotate_left
                · rintro wh ⟨z0, z1⟩
                  go_simp
                  (try with_reducible rfl)
                simp only [Act.put, List.setIfInBounds_toArray, List.set_cons_zero, List.set_cons_succ]
                refine held_take (i := 13) (v := ?_) rfl rfl (by kernel_rfl) (by kernel_rfl) (by kernel_rfl) (fun _ _ _ h => h) (by rfl) hHeld ?_ ?_
                rotate_left
                · rintro wh ⟨z0, z1⟩
                  go_simp
                  (try with_reducible rfl)
                simp only [Act.put, List.setIfInBounds_toArray, List.set_cons_zero, List.set_cons_succ]
                refine held_take (i := 14) (v := ?_) rfl rfl (by kernel_rfl) (by kernel_rfl) (by kernel_rfl) (fun _ _ _ h => h) (by rfl) hHeld ?_ ?_
                rotate_left
                · rintro wh ⟨z0, z1⟩
                  go_simp
                  (try with_reducible rfl)
                simp only [Act.put, List.setIfInBounds_toArray, List.set_cons_zero, List.set_cons_succ]
                refine wpAnyH_done (by kernel_rfl) ?_ _
                go_wp2
                go_roundw
                case rel => exact ⟨k + 1, by go_num, by omega, HNE, HB14⟩
                case measure => (simp [intOf]; try omega)
          · have HY0 := Lib.hid y0
            have hBx := HBi.out
            have hBxw := HB5.out.trans ((HB7.out.trans (hBx.mono HB7.out.size)).mono HB5.out.size)
            obtain ⟨q0, q1, q2, q3, q4, q5⟩ := HPW.out.later hBx ltq7
            have t0 := keep_cell HTW.out.1 hBx ltt7
            have t1 := keep_cell HTW.out.2 hBx ltt7
            have hOx := HO7.out.later hBx
            have hA3 := als_part (i := n) (m := 1) (c' := oc - n) hOx (by omega) (by omega) (by omega)
            have hL1 : (L.drop n).take 1 = [L[n]] := by rw [List.drop_eq_getElem_cons hnl]; rfl
            rw [hL1] at hA3
            have hQ0 := quiet_alone q L[n] (7, 4294967295) now
            have K3 := Lib.hid (fun W (h : Below wr.heap.size wr W) => KQT.out [L[n]] _ 0 7 4294967295 now W (hBxw.trans (h.mono hBxw.size)) (hA3.later h) (by show 1 ≤ maxLen; decide))
            rw [hQ0] at K3
            have ltq : w.heap.size < wr.heap.size := Nat.lt_of_lt_of_le ltq7 hBx.size
            have ltt : gl < wr.heap.size := Nat.lt_of_lt_of_le ltt7 hBx.size
            have hcn : ¬ (oc = n) := by omega
            have hi4 : (n : Int) ≤ (n : Int) + 1 := by omega
            have HBX := Lib.hid (HB7.out.trans (hBx.mono HB7.out.size))
            have hw1 : IntKind.i64.wrap ((n : Int) + 1) = ((n + 1 : Nat) : Int) := IntWalk.i64_in _ ⟨by omega, by omega⟩
            clear hBx hBxw hOx hA3 hL1 hQ0
            go_upto_region 18 with fail
            refine wp_region_held_drew (S := (fun W => W.cell? ⟨w.heap.size, 0, none⟩ = some (.slice a0 m0 c0) ∧ W.cell? ⟨w.heap.size, 1, none⟩ = some (.slice a1 m1 c1) ∧ W.cell? ⟨w.heap.size, 2, none⟩ = some (.slice a2 m2 c2) ∧ W.cell? ⟨w.heap.size, 3, none⟩ = some (.slice a3 m3 c3) ∧ W.cell? ⟨w.heap.size, 4, none⟩ = some (.slice a4 m4 c4) ∧ W.cell? ⟨w.heap.size, 5, none⟩ = some (.slice a5 m5 c5) ∧ W.cell? ⟨gl, 0, none⟩ = some (.int .i64 7) ∧ W.cell? ⟨gl, 1, none⟩ = some (.int .u32 4294967295))) (by kernel_rfl) ⟨q0, q1, q2, q3, q4, q5, t0, t1⟩ (fun hHeld => ?_)
            have hd : Below wr.heap.size wr wr.drew := (Below.refl _ _).drew
            refine held_take (i := 0) (v := ?_) rfl rfl (by kernel_rfl) (by kernel_rfl) (by kernel_rfl) (fun _ _ _ h => h) (by rfl) hHeld ?_ ?_
            rotate_left
            · rintro wh ⟨z0, z1, z2, z3, z4, z5, z6, z7⟩
              go_simp
              (try with_reducible rfl)
            simp only [Act.put, List.setIfInBounds_toArray, List.set_cons_zero, List.set_cons_succ]
            refine held_take (i := 1) (v := ?_) rfl rfl (by kernel_rfl) (by kernel_rfl) (by kernel_rfl) (fun _ _ _ h => h) (by rfl) hHeld ?_ ?_
            rotate_left
            · rintro wh ⟨z0, z1, z2, z3, z4, z5, z6, z7⟩
              go_simp
              (try with_reducible rfl)
            simp only [Act.put, List.setIfInBounds_toArray, List.set_cons_zero, List.set_cons_succ]
            refine held_take (i := 2) (v := ?_) rfl rfl (by kernel_rfl) (by kernel_rfl) (by kernel_rfl) (fun _ _ _ h => h) (by rfl) hHeld ?_ ?_
            rotate_left
            · rintro wh ⟨z0, z1, z2, z3, z4, z5, z6, z7⟩
              go_simp
              (try with_reducible rfl)
            simp only [Act.put, List.setIfInBounds_toArray, List.set_cons_zero, List.set_cons_succ]
            refine held_take (i := 3) (v := ?_) rfl rfl (by kernel_rfl) (by kernel_rfl) (by kernel_rfl) (fun _ _ _ h => h) (by rfl) hHeld ?_ ?_
            rotate_left
            · rintro wh ⟨z0, z1, z2, z3, z4, z5, z6, z7⟩
              go_simp
              (try with_reducible rfl)
            simp only [Act.put, List.setIfInBounds_toArray, List.set_cons_zero, List.set_cons_succ]
            refine held_take (i := 4) (v := ?_) rfl rfl (by kernel_rfl) (by kernel_rfl) (by kernel_rfl) (fun _ _ _ h => h) (by rfl) hHeld ?_ ?_
            rotate_left
            · rintro wh ⟨z0, z1, z2, z3, z4, z5, z6, z7⟩
              go_simp
              (try with_reducible rfl)
            simp only [Act.put, List.setIfInBounds_toArray, List.set_cons_zero, List.set_cons_succ]
            refine held_take (i := 5) (v := ?_) rfl rfl (by kernel_rfl) (by kernel_rfl) (by kernel_rfl) (fun _ _ _ h => h) (by rfl) hHeld ?_ ?_
            rotate_left
            · rintro wh ⟨z0, z1, z2, z3, z4, z5, z6, z7⟩
              go_simp
              (try with_reducible rfl)
            simp only [Act.put, List.setIfInBounds_toArray, List.set_cons_zero, List.set_cons_succ]
            refine held_take (i := 6) (v := ?_) rfl rfl (by kernel_rfl) (by kernel_rfl) (by kernel_rfl) (fun _ _ _ h => h) (by rfl) hHeld ?_ ?_
            rotate_left
            · rintro wh ⟨z0, z1, z2, z3, z4, z5, z6, z7⟩
              go_simp
              (try with_reducible rfl)
            simp only [Act.put, List.setIfInBounds_toArray, List.set_cons_zero, List.set_cons_succ]
            refine held_take (i := 7) (v := ?_) rfl rfl (by kernel_rfl) (by kernel_rfl) (by kernel_rfl) (fun _ _ _ h => h) (by rfl) hHeld ?_ ?_
            rotate_left
            · rintro wh ⟨z0, z1, z2, z3, z4, z5, z6, z7⟩
              go_simp
              (try with_reducible rfl)
            simp only [Act.put, List.setIfInBounds_toArray, List.set_cons_zero, List.set_cons_succ]
            refine held_call (i := 8) rfl (by kernel_rfl) (by rfl) (fun K hK => ?_)
            (go_simp; go_at_call 13; refine (K3.out _ hd).mono ?_; rintro e w8 ⟨r3, rfl, hI3, hb8⟩; have hB8 := hd.trans (hb8.mono hd.size); obtain ⟨ea, ec, rfl, _, _⟩ := RdAt.shape (RdAt.own hI3))
            refine hK.out _ _ ⟨keep_cell q0 hB8 ltq, keep_cell q1 hB8 ltq, keep_cell q2 hB8 ltq, keep_cell q3 hB8 ltq, keep_cell q4 hB8 ltq, keep_cell q5 hB8 ltq, keep_cell t0 hB8 ltt, keep_cell t1 hB8 ltt⟩ (fun hHeld => ?_)
            clear hK K
            (try simp only [Act.put, List.setIfInBounds_toArray, List.set_cons_zero, List.set_cons_succ])
            refine held_take (i := 9) (v := ?_) rfl rfl (by kernel_rfl) (by kernel_rfl) (by kernel_rfl) (fun _ _ _ h => h) (by rfl) hHeld ?_ ?_
            rotate_left
            · rintro wh ⟨z0, z1, z2, z3, z4, z5, z6, z7⟩
              go_simp
              (try with_reducible rfl)
            simp only [Act.put, List.setIfInBounds_toArray, List.set_cons_zero, List.set_cons_succ]
            refine held_take (i := 10) (v := ?_) rfl rfl (by kernel_rfl) (by kernel_rfl) (by kernel_rfl) (fun _ _ _ h => h) (by rfl) hHeld ?_ ?_
            rotate_left
            · rintro wh ⟨z0, z1, z2, z3, z4, z5, z6, z7⟩
              go_simp
              (try with_reducible rfl)
            simp only [Act.put, List.setIfInBounds_toArray, List.set_cons_zero, List.set_cons_succ]
            refine wpAnyH_done (by kernel_rfl) ?_ _
            have HB8 := Lib.hid (HBX.out.trans (hB8.mono HBX.out.size))
            clear hw1
            go_wp2
            go_roundw
            case rel => exact ⟨n + 1, by go_num, by omega, HB8⟩
            case measure => (simp [intOf]; try omega)
        · obtain rfl : i = C.length := by omega
          have hBx := HBi.out
          have hBxw := HB5.out.trans ((HB7.out.trans (hBx.mono HB7.out.size)).mono HB5.out.size)
          obtain ⟨q0, q1, q2, q3, q4, q5⟩ := HPW.out.later hBx ltq7
          have t0 := keep_cell HTW.out.1 hBx ltt7
          have t1 := keep_cell HTW.out.2 hBx ltt7
          have hOx := HO7.out.later hBx
          have hA3 := als_part (i := n) (m := 1) (c' := oc - n) hOx (by omega) (by omega) (by omega)
          have hL1 : (L.drop n).take 1 = [L[n]] := by rw [List.drop_eq_getElem_cons hnl]; rfl
          rw [hL1] at hA3
          have hQ0 := quiet_alone q L[n] (7, 4294967295) now
          have K3 := Lib.hid (fun W (h : Below wr.heap.size wr W) => KQT.out [L[n]] _ 0 7 4294967295 now W (hBxw.trans (h.mono hBxw.size)) (hA3.later h) (by show 1 ≤ maxLen; decide))
          rw [hQ0] at K3
          have ltq : w.heap.size < wr.heap.size := Nat.lt_of_lt_of_le ltq7 hBx.size
          have ltt : gl < wr.heap.size := Nat.lt_of_lt_of_le ltt7 hBx.size
          have hcn : ¬ (oc = n) := by omega
          have hi4 : (n : Int) ≤ (n : Int) + 1 := by omega
          have HBX := Lib.hid (HB7.out.trans (hBx.mono HB7.out.size))
          have hw1 : IntKind.i64.wrap ((n : Int) + 1) = ((n + 1 : Nat) : Int) := IntWalk.i64_in _ ⟨by omega, by omega⟩
          clear hBx hBxw hOx hA3 hL1 hQ0
          go_upto_region 18 with fail
          refine wp_region_held_drew (S := (fun W => W.cell? ⟨w.heap.size, 0, none⟩ = some (.slice a0 m0 c0) ∧ W.cell? ⟨w.heap.size, 1, none⟩ = some (.slice a1 m1 c1) ∧ W.cell? ⟨w.heap.size, 2, none⟩ = some (.slice a2 m2 c2) ∧ W.cell? ⟨w.heap.size, 3, none⟩ = some (.slice a3 m3 c3) ∧ W.cell? ⟨w.heap.size, 4, none⟩ = some (.slice a4 m4 c4) ∧ W.cell? ⟨w.heap.size, 5, none⟩ = some (.slice a5 m5 c5) ∧ W.cell? ⟨gl, 0, none⟩ = some (.int .i64 7) ∧ W.cell? ⟨gl, 1, none⟩ = some (.int .u32 4294967295))) (by kernel_rfl) ⟨q0, q1, q2, q3, q4, q5, t0, t1⟩ (fun hHeld => ?_)
          have hd : Below wr.heap.size wr wr.drew := (Below.refl _ _).drew
          refine held_take (i := 0) (v := ?_) rfl rfl (by kernel_rfl) (by kernel_rfl) (by kernel_rfl) (fun _ _ _ h => h) (by rfl) hHeld ?_ ?_
          rotate_left
          · rintro wh ⟨z0, z1, z2, z3, z4, z5, z6, z7⟩
            go_simp
            (try with_reducible rfl)
          simp only [Act.put, List.setIfInBounds_toArray, List.set_cons_zero, List.set_cons_succ]
          refine held_take (i := 1) (v := ?_) rfl rfl (by kernel_rfl) (by kernel_rfl) (by kernel_rfl) (fun _ _ _ h => h) (by rfl) hHeld ?_ ?_
          rotate_left
          · rintro wh ⟨z0, z1, z2, z3, z4, z5, z6, z7⟩
            go_simp
            (try with_reducible rfl)
          simp only [Act.put, List.setIfInBounds_toArray, List.set_cons_zero, List.set_cons_succ]
          refine held_take (i := 2) (v := ?_) rfl rfl (by kernel_rfl) (by kernel_rfl) (by kernel_rfl) (fun _ _ _ h => h) (by rfl) hHeld ?_ ?_
          rotate_left
          · rintro wh ⟨z0, z1, z2, z3, z4, z5, z6, z7⟩
            go_simp
            (try with_reducible rfl)
          simp only [Act.put, List.setIfInBounds_toArray, List.set_cons_zero, List.set_cons_succ]
          refine held_take (i := 3) (v := ?_) rfl rfl (by kernel_rfl) (by kernel_rfl) (by kernel_rfl) (fun _ _ _ h => h) (by rfl) hHeld ?_ ?_
          rotate_left
          · rintro wh ⟨z0, z1, z2, z3, z4, z5, z6, z7⟩
            go_simp
            (try with_reducible rfl)
          simp only [Act.put, List.setIfInBounds_toArray, List.set_cons_zero, List.set_cons_succ]
          refine held_take (i := 4) (v := ?_) rfl rfl (by kernel_rfl) (by kernel_rfl) (by kernel_rfl) (fun _ _ _ h => h) (by rfl) hHeld ?_ ?_
          rotate_left
          · rintro wh ⟨z0, z1, z2, z3, z4, z5, z6, z7⟩
            go_simp
            (try with_reducible rfl)
          simp only [Act.put, List.setIfInBounds_toArray, List.set_cons_zero, List.set_cons_succ]
          refine held_take (i := 5) (v := ?_) rfl rfl (by kernel_rfl) (by kernel_rfl) (by kernel_rfl) (fun _ _ _ h => h) (by rfl) hHeld ?_ ?_
          rotate_left
          · rintro wh ⟨z0, z1, z2, z3, z4, z5, z6, z7⟩
            go_simp
            (try with_reducible rfl)
          simp only [Act.put, List.setIfInBounds_toArray, List.set_cons_zero, List.set_cons_succ]
          refine held_take (i := 6) (v := ?_) rfl rfl (by kernel_rfl) (by kernel_rfl) (by kernel_rfl) (fun _ _ _ h => h) (by rfl) hHeld ?_ ?_
          rotate_left
          · rintro wh ⟨z0, z1, z2, z3, z4, z5, z6, z7⟩
            go_simp
            (try with_reducible rfl)
          simp only [Act.put, List.setIfInBounds_toArray, List.set_cons_zero, List.set_cons_succ]
          refine held_take (i := 7) (v := ?_) rfl rfl (by kernel_rfl) (by kernel_rfl) (by kernel_rfl) (fun _ _ _ h => h) (by rfl) hHeld ?_ ?_
          rotate_left
          · rintro wh ⟨z0, z1, z2, z3, z4, z5, z6, z7⟩
            go_simp
            (try with_reducible rfl)
          simp only [Act.put, List.setIfInBounds_toArray, List.set_cons_zero, List.set_cons_succ]
          refine held_call (i := 8) rfl (by kernel_rfl) (by rfl) (fun K hK => ?_)
          (go_simp; go_at_call 13; refine (K3.out _ hd).mono ?_; rintro e w8 ⟨r3, rfl, hI3, hb8⟩; have hB8 := hd.trans (hb8.mono hd.size); obtain ⟨ea, ec, rfl, _, _⟩ := RdAt.shape (RdAt.own hI3))
          refine hK.out _ _ ⟨keep_cell q0 hB8 ltq, keep_cell q1 hB8 ltq, keep_cell q2 hB8 ltq, keep_cell q3 hB8 ltq, keep_cell q4 hB8 ltq, keep_cell q5 hB8 ltq, keep_cell t0 hB8 ltt, keep_cell t1 hB8 ltt⟩ (fun hHeld => ?_)
          clear hK K
          (try simp only [Act.put, List.setIfInBounds_toArray, List.set_cons_zero, List.set_cons_succ])
          refine held_take (i := 9) (v := ?_) rfl rfl (by kernel_rfl) (by kernel_rfl) (by kernel_rfl) (fun _ _ _ h => h) (by rfl) hHeld ?_ ?_
          rotate_left
          · rintro wh ⟨z0, z1, z2, z3, z4, z5, z6, z7⟩
            go_simp
            (try with_reducible rfl)
          simp only [Act.put, List.setIfInBounds_toArray, List.set_cons_zero, List.set_cons_succ]
          refine held_take (i := 10) (v := ?_) rfl rfl (by kernel_rfl) (by kernel_rfl) (by kernel_rfl) (fun _ _ _ h => h) (by rfl) hHeld ?_ ?_
          rotate_left
          · rintro wh ⟨z0, z1, z2, z3, z4, z5, z6, z7⟩
            go_simp
            (try with_reducible rfl)
          simp only [Act.put, List.setIfInBounds_toArray, List.set_cons_zero, List.set_cons_succ]
          refine wpAnyH_done (by kernel_rfl) ?_ _
          have HB8 := Lib.hid (HBX.out.trans (hB8.mono HBX.out.size))
          clear hw1
          go_wp2
          go_roundw
          case rel => exact ⟨n + 1, by go_num, by omega, HB8⟩
          case measure => (simp [intOf]; try omega)
    · obtain rfl : n = L.length := by omega
      go_wp2
      go_ret
      exact ⟨rfl, HB5.out.trans (HB.out.mono HB5.out.size)⟩
end lawMore
end Go.Proofs.YtipnhpfpppblhaaGreat

/- Arguments that are rows of alerts. -/
namespace Go.Proofs.YtipnhpfpppblhaaGreat
open Go.RowKit Go.WideShapes Go.ChangeShapes Go.Deep
theorem alCells_eq (l : List (Al × Value)) : alCells l = cellsG (fun p : Al × Value => alC p.1 p.2) l := by
  induction l with
  | nil => rfl
  | cons x l ih => simp only [alCells, cellsG, ih]
instance : Inhabited (Al × Value) := ⟨(⟨⟨#[]⟩, [], 0, 0, 0, 0⟩, undef)⟩
set_option maxRecDepth 100000 in
theorem alsG_of_trod {H : Type} {enc : TypeId × Value → H} {W : World} {n : Nat} {v : Value} {x : DataW H × List MemPlace} (h : DataW.trod enc Tryz.prog W 0 (fun _ => true) true n 27 [v] = some x) : ∃ l, AlsAt W v l ∧ l.length ≤ maxLen := by
  have hci : Tryz.prog.cellsOf 3 = 1 := by kernel_rfl
  have hcs : Tryz.prog.cellsOf 9 = 1 := by kernel_rfl
  have hcl : Tryz.prog.cellsOf 36 = 2 := by kernel_rfl
  have hcf : Tryz.prog.cellsOf 52 = 1 := by kernel_rfl
  obtain ⟨l, a, c, hv, h1, h2, h3, h4⟩ := rows_of_trod (fun p : Al × Value => alC p.1 p.2) 6 (fun _ => rfl) (by decide) Tryz.underlying27 Tryz.underlying58 (by kernel_rfl) (fun p => FldsAt W p.2 p.1.fl ∧ AlFit p.1) (fun es n hlen hfs => by
    match es, hlen with
    | [e0, e1, e2, e3, e4, e5], _ =>
      obtain ⟨y0, t0⟩ := hfs 0 _ rfl
      obtain ⟨y1, t1⟩ := hfs 1 _ rfl
      obtain ⟨y2, t2⟩ := hfs 2 _ rfl
      obtain ⟨y3, t3⟩ := hfs 3 _ rfl
      obtain ⟨y4, t4⟩ := hfs 4 _ rfl
      obtain ⟨s0, q0, _, z0⟩ := DataW.trod_string Tryz.underlying9 t0
      obtain ⟨k3, q3, _, _⟩ := DataW.trod_int Tryz.underlying3 t3
      obtain ⟨k4, q4, _, _⟩ := DataW.trod_int Tryz.underlying3 t4
      simp [hcs] at q0
      simp [hci] at q3 q4
      subst q0 q3 q4
      have t1' : DataW.trod enc Tryz.prog W 0 (fun _ => true) true n 52 [e1] = some y1 := by simpa [hcf] using t1
      have t2' : DataW.trod enc Tryz.prog W 0 (fun _ => true) true n 36 [e2, e3] = some y2 := by simpa [hcl] using t2
      obtain ⟨fl, f1, f2, f3⟩ := flds_of_trod t1'
      obtain ⟨lv, c, r1, r2, hc⟩ := lab_of_trod t2'
      subst r1 r2
      exact ⟨(⟨s0, fl, lv, c, k3, k4⟩, e1), rfl, f1, ⟨z0, f3, f2, hc⟩⟩) h
  exact ⟨l, ⟨by rw [alCells_eq]; exact h3, h4⟩, Nat.le_trans h1 h2⟩
def ArgAls (w : World) (v : Value) (l : List (Al × Value)) : Prop := AlsAt w v l ∧ l.length ≤ maxLen
set_option maxRecDepth 100000 in
theorem alsG_of_arg {H : Type} {enc : TypeId × Value → H} {W : World} {base : Nat} {v : Value} {d : DataW H} {p : List MemPlace} (hval : Value.okWide Tryz.prog W .any base 27 v) (h : DataW.Trod enc Tryz.prog W 0 (fun _ => true) true 27 v d p) : ∃ l, ArgAls W v l := by
  obtain ⟨a, n, c, rfl⟩ := okWide_slice Tryz.underlying27 hval
  obtain ⟨fuel, hf⟩ := h
  exact alsG_of_trod hf
end Go.Proofs.YtipnhpfpppblhaaGreat

/- InhibitMore: the walk, of its arguments. -/
namespace Go.Proofs.YtipnhpfpppblhaaGreat
open Go.RowKit
namespace lawMore
theorem walk (v : Value) (x : PV) (p : PD) (u : Value) (l : List (Al × Value)) (now : Int) (w : World) (h1 : ArgPolC w v x p) (h2 : ArgAls w u l) : Calls Tryz.prog 6 #[v, u, .int .i64 now] w fun e w' => e = .returned (.bool true) ∧ Below w.heap.size w w' := by
  obtain ⟨⟨rfl, p2, p3⟩, p4⟩ := h1
  obtain ⟨y, rfl, _⟩ := pol_shape p2
  exact walk0 y p l u now w p2 p4 p3 h2.1 h2.2
end lawMore
end Go.Proofs.YtipnhpfpppblhaaGreat

/- InhibitMore: the card: whatever the arguments, the law returns true and its arguments read as they did. No condition. -/
namespace Go.Proofs.YtipnhpfpppblhaaGreat.lawMore
open Go.ChangeShapes Go.WideShapes Go.ChangeAt Go.RowKit
open Go.ChangeMaps (open_string)
set_option maxRecDepth 100000 in
theorem contract (H : Type) (enc : TypeId × Value → H) (W : World) (base : Nat) (args : Array Value) (ds gs : List (DataW H)) (before : List MemPlace)
    (hval : ∀ (j : Nat) t v, Tryz.f6.params[j]? = some t → args[j]? = some v → Value.okWide Tryz.prog W .any base t v)
    (hW : DataW.Whole enc Tryz.prog Tryz.f6.params.toList Rows.inhibitMoreSpec.vars false W args.toList ds gs before) :
    Calls Tryz.prog 6 args W fun e W' => ∃ v, e = .returned v ∧ Rows.inhibitMoreSpec.post enc Tryz.prog Tryz.f6 false true false false W args v W' := by
  have hW' := hW
  obtain ⟨p, q, hA0, hV, rfl, hfz, hnd⟩ := hW
  have hA : DataW.TrodAll enc Tryz.prog W 0 (fun _ => true) true Tryz.f6.params.toList args.toList ds p := hA0
  rw [Tryz.params6] at hA hval
  obtain ⟨v0, vs0, d0, ds0, p0, q0, hargs, rfl, rfl, h0, r0⟩ := trodAll_cons hA
  obtain ⟨v1, vs1, d1, ds1, p1, q1, rfl, rfl, rfl, h1, r1⟩ := trodAll_cons r0
  obtain ⟨v2, vs2, d2, ds2, p2, q2, rfl, rfl, rfl, h2, r2⟩ := trodAll_cons r1
  obtain ⟨rfl, rfl, rfl⟩ := trodAll_nil r2
  obtain rfl : args = #[v0, v1, v2] := by cases args; simp_all
  obtain ⟨rfl, rfl⟩ := trodVars_none hV
  obtain ⟨x0, y0, hx0⟩ := polC_of_arg (hval 0 26 v0 rfl rfl) h0
  obtain ⟨x1, hx1⟩ := alsG_of_arg (hval 1 27 v1 rfl rfl) h1
  obtain ⟨x2, rfl, rfl, rfl, wx2⟩ := open_int Tryz.underlying3 (hval 2 3 v2 rfl rfl) h2
  clear hA0
  refine (walk v0 x0 y0 v1 x1 x2 W hx0 hx1).mono ?_
  rintro e W' ⟨rfl, hb⟩
  exact ⟨_, rfl, law_post laidOut Tryz.underlying4 rfl rfl (by kernel_rfl) hW' rfl rfl rfl hb⟩
theorem laid_met (os : Os) : laidMet Tryz.prog Rows.inhibitMoreRow.laid ((laidWorld os).forCall (fun _ _ => 0) ⟨#[], #[.agg #[.slice none 0 0, .slice none 0 0, .slice none 0 0, .slice none 0 0, .slice none 0 0, .slice none 0 0], .slice none 0 0, .int .i64 0], []⟩).memory :=
  ⟨[], rfl, List.nodup_nil, fun _ _ h => by cases h⟩
theorem reads (os : Os) {H : Type} (enc : TypeId × Value → H) : ∃ places, DataW.whole enc Tryz.prog ((laidWorld os).forCall (fun _ _ => 0) ⟨#[], #[.agg #[.slice none 0 0, .slice none 0 0, .slice none 0 0, .slice none 0 0, .slice none 0 0, .slice none 0 0], .slice none 0 0, .int .i64 0], []⟩).memory Tryz.f6.params.toList Rows.inhibitMoreSpec.vars false (#[.agg #[.slice none 0 0, .slice none 0 0, .slice none 0 0, .slice none 0 0, .slice none 0 0, .slice none 0 0], .slice none 0 0, .int .i64 0] : Array Value).toList 8 = some ([.agg [.nil, .nil, .nil, .nil, .nil, .nil], .nil, .lit (.int .i64 0)], [], places) :=
  ⟨[], by kernel_rfl⟩
set_option maxRecDepth 100000 in
theorem lifted (os : Os) (started : os.Started) (H : Type) (enc : TypeId × Value → H) (F : Stop.Interp) :
    ReturnsInHanded {} Tryz.checked os 6 .any ((OpenSpec.ofChange Rows.inhibitMoreSpec).preRow enc Tryz.prog Tryz.f6 Rows.inhibitMoreRow.domain false Rows.inhibitMoreRow.laid) (((OpenSpec.ofChange Rows.inhibitMoreSpec).at F).post enc Tryz.prog Tryz.f6 false true false false) := by
  obtain ⟨places, hx⟩ := reads os enc
  refine returnsInHanded_of_row (C := Tryz.checked) (s := OpenSpec.ofChange Rows.inhibitMoreSpec) ownNone started (by kernel_rfl) Tryz.func6
    (witness_row_at (enc := enc) (C := Tryz.checked) false (laidWorld os) #[.agg #[.slice none 0 0, .slice none 0 0, .slice none 0 0, .slice none 0 0, .slice none 0 0, .slice none 0 0], .slice none 0 0, .int .i64 0] rfl (by kernel_rfl) (by kernel_rfl) (by kernel_rfl)
      (OpenSpec.preRow_of_cond 8 hx (by kernel_rfl) (fun k hk => by cases hk) (by kernel_rfl) (laid_met os))) ?_
  intro W base args ds gs before hval hW _ _ _ _ _ _
  exact contract H enc W base args ds gs before hval hW
theorem said : Rows.InhibitMoreSaid :=
  OpenClaim.holds_of_cond 6 Tryz.f6 rfl rfl rfl rfl rfl rfl rfl ⟨rfl, rfl, rfl, rfl, rfl⟩ rfl rfl rfl rfl rfl (by kernel_rfl) Tryz.func6 (by kernel_rfl)
    (of_decide_eq_true (by kernel_rfl)) (by unfold Func.isWrapper; first | (rw [if_pos (by decide +kernel)]; kernel_rfl) | (rw [if_neg (by decide +kernel)]; exact ⟨rfl, rfl⟩))
    (fun os started H enc _ F => by rw [OpenClaim.pre_eq_preRow]; exact lifted os started H enc F)
end Go.Proofs.YtipnhpfpppblhaaGreat.lawMore

