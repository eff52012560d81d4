/- SilencePlays: the card: whatever the arguments, the law returns true and its arguments read as they did. No condition. -/
import Derived.Test.YtcfococinllcmaaGreatTopSilencePlaysCardP4
import Derived.ProofKit
import Derived.OpenShut
import Derived.Deep.Slices
import Derived.Deep.Fields
import Derived.ChangeSame
import Derived.Laws.IdiomArrays
import Derived.Maps.AppendAt
import Derived.Deep.LoopGhost
import Derived.Lib.Hide

/- the law's steps: does, and where the matchers lie that it keeps. -/
namespace Go.Proofs.YtcfococinllcmaaGreat
open Go.RowKit
def NewMs (w : World) (S S' : List Sil) : Prop := ∀ s' ∈ S', (∃ s ∈ S, s.mv = s'.mv ∧ s.ms = s'.ms) ∨ (0 < s'.ms.length ∧ ∀ q, (SV s'.mv).ownBlock = some q → w.heap.size ≤ q)
theorem newMs_filter (w : World) (S : List Sil) (p : Sil → Bool) : NewMs w S (S.filter p) := fun s' h => .inl ⟨s', (List.mem_filter.1 h).1, rfl, rfl⟩
theorem newMs_end (w : World) (S : List Sil) (id now : Int) : NewMs w S (endL S id now) := by
  unfold endL
  split
  · exact fun s' h => .inl ⟨s', h, rfl, rfl⟩
  · rename_i s hs
    split
    · exact fun s' h => .inl ⟨s', h, rfl, rfl⟩
    · split
      · exact newMs_filter w S _
      · intro s' h
        rcases mem_setS h with rfl | h
        · exact .inl ⟨s, List.mem_of_find?_eq_some hs, rfl, rfl⟩
        · exact .inl ⟨s', h, rfl, rfl⟩
theorem newMs_lay {w : World} {z : Nat} {S S' : List Sil} {last last' : Int} {s : Sil} (hl : LayS S last s S' last') (hn : ∀ s' ∈ S', s' ∈ S ∨ ∀ q, (SV s'.mv).ownBlock = some q → z ≤ q) (hz : w.heap.size ≤ z) : NewMs w S S' := by
  intro s' h
  rcases hn s' h with h1 | h1
  · exact .inl ⟨s', h1, rfl, rfl⟩
  · cases hl with
    | no _ => exact .inl ⟨s', h, rfl, rfl⟩
    | yes hy mv =>
      rcases List.mem_append.1 h with h2 | h2
      · exact .inl ⟨s', h2, rfl, rfl⟩
      · rw [List.mem_singleton] at h2
        subst h2
        refine .inr ⟨?_, fun q hq => Nat.le_trans hz (h1 q hq)⟩
        unfold laysS rightS at hy
        simp only [Bool.and_eq_true, decide_eq_true_eq] at hy
        exact hy.1.1.1.1.1.1.1
set_option maxHeartbeats 3200000 in
set_option maxRecDepth 100000 in
theorem does_own (o : SOp) (lp m n : Nat) (S : List Sil) (last : Int) (w : World) (h : SlAt w lp m n S last) (ho : OpAt w o) (hn : n < 1000000) (hla : last < 1000000) (hl0 : 0 ≤ last) :
    Calls Tryz.prog 34 #[.pointer (some ⟨lp, 0, none⟩), o.v] w fun e w' =>
      ∃ r S' last' n', e = .returned r ∧ DoesS o S last r S' last' ∧ SlAt w' lp m n' S' last' ∧ n' ≤ n + 1 ∧ Kp lp m w w' ∧ Hid (NewMs w S S') := by
  have hb := alloc_below w (.cells #[.int .i64 o.kd, .int .i64 o.id, .int .i64 o.now, .int .i64 o.sid, .slice o.s.mv.1 o.s.mv.2.1 o.s.mv.2.2, .int .i64 o.s.fr, .int .i64 o.s.til, .int .i64 o.s.lv, .int .u32 o.s.c] 60)
  have x := alc9 w (.int .i64 o.kd) (.int .i64 o.id) (.int .i64 o.now) (.int .i64 o.sid) (.slice o.s.mv.1 o.s.mv.2.1 o.s.mv.2.2) (.int .i64 o.s.fr) (.int .i64 o.s.til) (.int .i64 o.s.lv) (.int .u32 o.s.c) 60
  obtain ⟨W1, hW1⟩ : ∃ z, w.alloc (.cells #[.int .i64 o.kd, .int .i64 o.id, .int .i64 o.now, .int .i64 o.sid, .slice o.s.mv.1 o.s.mv.2.1 o.s.mv.2.2, .int .i64 o.s.fr, .int .i64 o.s.til, .int .i64 o.s.lv, .int .u32 o.s.c] 60) = z := ⟨_, rfl⟩
  rw [hW1] at hb x
  have kk := kind_any o W1
  have HB1 := Lib.hid hb
  have HX1 := Lib.hid x
  have H := Lib.hid h
  have HO := Lib.hid ho
  obtain ⟨x0, x1, x2, x3, x4, x5, x6, x7, x8⟩ := x
  obtain ⟨K, hK⟩ : ∃ K, kindO o.kd = K := ⟨_, rfl⟩
  have hK3 : K < 3 := hK ▸ kindO_lt o.kd
  rw [hK] at kk
  have HK := Lib.hid hK
  unfold SOp.v at kk ⊢
  clear h ho hb hK
  go_enter Tryz.func34, Tryz.ntmps34
  go_upto_region 1 with fail
  clear hW1
  go_wp2_with fail
  refine kk.mono ?_
  rintro e w2 ⟨rfl, hb2⟩
  have HB2 := Lib.hid (HB1.out.trans (hb2.mono HB1.out.size))
  have HX2 := Lib.hid (HX1.out.later hb2)
  clear kk hb2 HB1 HX1 x0 x1 x2 x3 x4 x5 x6 x7 x8
  obtain ⟨x0, x1, x2, x3, x4, x5, x6, x7, x8⟩ := HX2.out
  have H2 := Lib.hid (H.out.later HB2.out)
  have HO2 := Lib.hid (HO.out.later HB2.out)
  have hc : K = 0 ∨ K = 1 ∨ K = 2 := by omega
  rcases hc with rfl | rfl | rfl
  · have ks := short_any o w2 HO2.out.ms HO2.out.len
    unfold SOp.v at ks
    go_wp2_with fail
    refine ks.mono ?_
    rintro e w3 ⟨mv, rfl, hmv, hb3⟩
    have kb := sback_any o.sid { cutS o.s with mv := mv } w3
    have H3 := Lib.hid (H2.out.later hb3)
    have HM3 := Lib.hid (RdAt.later hmv hb3)
    have HB3 := Lib.hid (HB2.out.trans (hb3.mono HB2.out.size))
    clear ks hmv hb3
    go_wp2_with fail
    refine kb.mono ?_
    rintro e w4 ⟨rfl, hb4⟩
    have kl := lay_any lp m n S last { cutS o.s with mv := mv } w4 (H3.out.later hb4) (RdAt.later HM3.out hb4) (cutS_fit HO.out.fit) (by have := cutS_len o.s; show (cutS o.s).ms.length ≤ _; omega) hn hla hl0
    have HB4 := Lib.hid (HB3.out.trans (hb4.mono HB3.out.size))
    clear kb hb4
    go_wp2_with fail
    refine kl.mono ?_
    rintro e w5 ⟨rfl, S', last', n', hS, hL, hn', hk, hnew⟩
    have HE := Lib.hid (DoesS.lay (o := o) HK.out mv hL)
    have HNW : Hid (NewMs w S S') := Lib.hid (newMs_lay hL hnew HB4.out.size)
    clear hnew
    have HS := Lib.hid hS
    have HKP := Lib.hid ((Kp.of_below HB4.out).trans hk)
    clear kl hS hL hk
    unfold layE at HE ⊢
    generalize (if laysS S { cutS o.s with mv := mv } = true then last + 1 else 0) = q1 at *
    generalize (if rightS { cutS o.s with mv := mv } = true then (if quoS S { cutS o.s with mv := mv } = 10 then (7 : Int) else 0) else 1) = q2 at *
    go_wp2
    go_ret2
    exact ⟨_, S', last', n', rfl, HE.out, HS.out, hn', HKP.out, HNW⟩
  · have ke := end_any lp m n S last o.id o.now w2 H2.out HO.out.wf hn
    go_wp2_with fail
    refine ke.mono ?_
    rintro e w3 ⟨rfl, n', hS, hn', hk⟩
    have HS := Lib.hid hS
    have HKP := Lib.hid ((Kp.of_below HB2.out).trans hk)
    clear ke hS hk
    go_wp2
    go_ret2
    exact ⟨_, _, _, n', rfl, .fin HK.out, HS.out, hn', HKP.out, Lib.hid (newMs_end w S o.id o.now)⟩
  · have kf := forget_any lp m n S last o.now w2 H2.out
    go_wp2_with fail
    refine kf.mono ?_
    rintro e w3 ⟨rfl, hS, hk⟩
    have HS := Lib.hid hS
    have HKP := Lib.hid ((Kp.of_below HB2.out).trans hk)
    clear kf hS hk
    go_wp2
    go_ret2
    exact ⟨_, _, _, n, rfl, .forget HK.out, HS.out, by omega, HKP.out, Lib.hid (newMs_filter w S _)⟩
end Go.Proofs.YtcfococinllcmaaGreat

/- silences, plainly: two lists, of which one leaves out what does not flow to a label. -/
namespace Go.Proofs.YtcfococinllcmaaGreat
open Go.RowKit
theorem SlAt.other {w w' : World} {lp m n lp1 m1 : Nat} {S : List Sil} {last : Int} (h : SlAt w lp m n S last) (hk : Kp lp1 m1 w w') (h1 : lp ≠ lp1) (h2 : lp ≠ m1) (h3 : m ≠ lp1) (h4 : m ≠ m1)
    (hms : ∀ s ∈ S, ∀ q, (SV s.mv).ownBlock = some q → q ≠ lp1 ∧ q ≠ m1) : SlAt w' lp m n S last := by
  have hlt := h.own.lt
  have hblp : w'.heap[lp]? = w.heap[lp]? := hk.block lp (cell_lt h.h0) h1 h2
  refine ⟨hk.cell h.h0 h1 h2, hk.cell h.h1 h1 h2, ?_, h.up, h.ids, fun s hs => ⟨hk.rd (h.ms s hs).1 (hms s hs), (h.ms s hs).2⟩, there_same h.th hblp, h.few, h.len⟩
  obtain ⟨es, clock, hb, F, hs, hD⟩ := h.own
  exact ⟨es, clock, (hk.block m hlt h3 h4).trans hb, F, hs, hD⟩
end Go.Proofs.YtcfococinllcmaaGreat

/- The arguments of chapter 09's laws: alerts, labels, numbers, policies. -/
namespace Go.Proofs.YtcfococinllcmaaGreat
open Go.RowKit Go.WideShapes Go.ChangeShapes Go.Deep
theorem cell_ltA {w : World} {a : Addr} {v : Value} (h : w.cell? a = some v) : a.block < w.heap.size := by
  rcases Nat.lt_or_ge a.block w.heap.size with h' | h'
  · exact h'
  · simp [World.cell?, Array.getElem?_eq_none h'] at h
section
variable {H : Type} {enc : TypeId × Value → H} {P : Program} {w : World} {base : Nat} {spare : Nat → Bool} {held : Bool}
theorem open_slice_structs {t e : TypeId} {fs : Array Field} {fuel : Nat} {cs : List Value} {x : DataW H × List MemPlace} (ht : P.underlying t = some (.slice e)) (he : P.underlying e = some (.struct fs))
    (h : DataW.trod enc P w base spare held fuel t cs = some x) :
    cs = [.slice none 0 0] ∨
    ∃ (a : Addr) (len cap : Nat), cs = [.slice (some a) len cap] ∧ len ≤ cap ∧ cap ≤ maxLen ∧
      ∀ i, i < len → ∃ (es : List Value) (n : Nat), es.length = P.cellsOf e ∧ (∀ j, j < P.cellsOf e → w.cell? (a.add (i * P.cellsOf e + j)) = es[j]?) ∧
        ∀ (j : Nat) (f : Field), fs[j]? = some f → ∃ y, DataW.trod enc P w base spare held n f.type ((es.drop f.offset).take (P.cellsOf f.type)) = some y := by
  rcases open_slice ht h with ⟨h0, _⟩ | ⟨a, len, cap, m, n, D, Pl, hcs, hb, hl, hm, hmm, hx, hi⟩
  · exact .inl h0
  · refine .inr ⟨a, len, cap, hcs, hl, hm, fun i hil => ?_⟩
    obtain ⟨cs', hc, ht'⟩ := hi i (by rw [hmm]; split <;> omega)
    obtain ⟨ys, n', hn', hy, hlen, hyl, hf⟩ := DataW.trod_struct he ht'
    obtain ⟨_, hcl, hat⟩ := World.cells?_some hc
    refine ⟨cs', n', by omega, fun j hj => ?_, fun j f hj => ?_⟩
    · rw [← Go.Deep.add_add]; exact hat j hj
    · have hjl : j < fs.size := (Array.getElem?_eq_some_iff.1 hj).1
      have h1 := hf j f hj
      exact ⟨_, h1.trans (List.getElem?_eq_getElem (by omega))⟩
end
def ArgFlds (w : World) (v : Value) (fl : List Fld) : Prop := FldsAt w v fl ∧ fl.length ≤ maxLen ∧ FldsFit fl
theorem add_off {b o j : Nat} : (⟨b, o, none⟩ : Addr).add j = ⟨b, o + j, none⟩ := Go.WideShapes.add_plain ..
set_option maxRecDepth 100000 in
theorem flds_of_trod {H : Type} {enc : TypeId × Value → H} {W : World} {n : Nat} {v : Value} {x : DataW H × List MemPlace} (h : DataW.trod enc Tryz.prog W 0 (fun _ => true) true n 48 [v] = some x) : ∃ fl, ArgFlds W v fl := by
  have hC : Tryz.prog.cellsOf 103 = 2 := by kernel_rfl
  have hcs1 : Tryz.prog.cellsOf 9 = 1 := by kernel_rfl
  rcases open_slice_structs Tryz.underlying48 Tryz.underlying103 h with hcs | ⟨a, len, cap, hcs, hl, hm, hf⟩
  · cases hcs
    exact ⟨[], RdAt.nil W 2, Nat.zero_le _, fun _ h => by cases h⟩
  · cases hcs
    rw [hC] at hf
    have hone : ∀ i, i < len → ∃ s : Fld, W.cell? (a.add (i * 2)) = some (.string s.1) ∧ W.cell? (a.add (i * 2 + 1)) = some (.string s.2) ∧ s.1.size ≤ maxLen ∧ s.2.size ≤ maxLen := by
      intro i hi
      obtain ⟨es, n, hlen, hat, hfs⟩ := hf i hi
      match es, hlen with
      | [e0, e1], _ =>
        obtain ⟨y0, t0⟩ := hfs 0 _ rfl
        obtain ⟨y1, t1⟩ := hfs 1 _ rfl
        obtain ⟨s0, q0, _, z0⟩ := DataW.trod_string Tryz.underlying9 t0
        obtain ⟨s1, q1, _, z1⟩ := DataW.trod_string Tryz.underlying9 t1
        simp [hcs1] at q0 q1
        subst q0 q1
        exact ⟨(s0, s1), hat 0 (by omega), hat 1 (by omega), z0, z1⟩
    have hg : ∃ g : Nat → Fld, ∀ i, i < len → W.cell? (a.add (i * 2)) = some (.string (g i).1) ∧ W.cell? (a.add (i * 2 + 1)) = some (.string (g i).2) ∧ (g i).1.size ≤ maxLen ∧ (g i).2.size ≤ maxLen :=
      ⟨fun i => if h : i < len then Classical.choose (hone i h) else default, fun i h => by have := Classical.choose_spec (hone i h); simpa only [dif_pos h] using this⟩
    obtain ⟨g, hg⟩ := hg
    have hgl : ((List.range len).map g).length = len := by simp
    refine ⟨(List.range len).map g, ⟨fldCells_len _, .inr ⟨a, cap, by rw [hgl], by omega, fun hn => ?_⟩⟩, by rw [hgl]; omega, fun s hs => ?_⟩
    · rw [hgl] at hn
      obtain ⟨b, off, spot⟩ := a
      have h0 := (hg 0 hn).1
      have hspot : spot = none := by simpa [Addr.add] using World.cell?_spot h0
      subst hspot
      refine ⟨b, off, rfl, by have := cell_ltA h0; simpa [Addr.add] using this, fun j x hj => ?_⟩
      have hjl := (List.getElem?_eq_some_iff.1 hj).1
      rw [fldCells_len, hgl] at hjl
      obtain ⟨m, r, hr2, rfl⟩ : ∃ m r, r < 2 ∧ j = m * 2 + r := ⟨j / 2, j % 2, Nat.mod_lt _ (by decide), by omega⟩
      obtain ⟨q0, q1⟩ := fldCells_at ((List.range len).map g) m (by rw [hgl]; omega)
      obtain ⟨h1, h2, _⟩ := hg m (by omega)
      simp only [List.getElem_map, List.getElem_range] at q0 q1
      rw [add_off] at h1 h2
      match r, hr2 with
      | 0, _ => rw [Nat.add_zero] at hj ⊢; rw [q0] at hj; rw [← Option.some.inj hj]; exact h1
      | 1, _ => rw [q1] at hj; rw [← Option.some.inj hj]; exact h2
    · obtain ⟨i, hi, rfl⟩ := List.mem_map.1 hs
      exact (hg i (List.mem_range.1 hi)).2.2
theorem lit_u32 {c : Int} (h : (Lit.int .u32 c).wf = true) : ∃ n : Nat, c = n ∧ n < 4294967296 := by
  have : 0 ≤ c ∧ c ≤ 4294967295 := by
    simp [Lit.wf, IntKind.min, IntKind.max, IntKind.signed, IntKind.bits] at h; omega
  exact ⟨c.toNat, by omega, by omega⟩
theorem lab_of_trod {H : Type} {enc : TypeId × Value → H} {W : World} {n : Nat} {c0 c1 : Value} {x : DataW H × List MemPlace} (h : DataW.trod enc Tryz.prog W 0 (fun _ => true) true n 26 [c0, c1] = some x) : ∃ (l : Int) (c : Nat), c0 = .int .i64 l ∧ c1 = .int .u32 c ∧ c < 4294967296 := by
  have hci : Tryz.prog.cellsOf 3 = 1 := by kernel_rfl
  have hcu : Tryz.prog.cellsOf 24 = 1 := by kernel_rfl
  obtain ⟨ys, n', hn', hy, hlen, hyl, hf⟩ := DataW.trod_struct Tryz.underlying26 h
  have t0 := hf 0 _ rfl
  have t1 := hf 1 _ rfl
  match ys, hyl with
  | [y0, y1], _ =>
    obtain ⟨k0, q0, _, _⟩ := DataW.trod_int Tryz.underlying3 t0
    obtain ⟨k1, q1, _, w1⟩ := DataW.trod_int Tryz.underlying24 t1
    simp [hci] at q0
    simp [hcu] at q1
    subst q0 q1
    obtain ⟨m, rfl, hm⟩ := lit_u32 w1
    exact ⟨k0, m, rfl, rfl, hm⟩
def ArgAl (w : World) (v : Value) (x : Al) (fv : Value) : Prop := v = .agg #[.string x.src, fv, .int .i64 x.lv, .int .u32 x.c, .int .i64 x.fr, .int .i64 x.til] ∧ FldsAt w fv x.fl ∧ AlFit x
theorem al_of_trod {H : Type} {enc : TypeId × Value → H} {W : World} {n : Nat} {c0 c1 c2 c3 c4 c5 : Value} {x : DataW H × List MemPlace} (h : DataW.trod enc Tryz.prog W 0 (fun _ => true) true n 50 [c0, c1, c2, c3, c4, c5] = some x) : ∃ x fv, ArgAl W (.agg #[c0, c1, c2, c3, c4, c5]) x fv := by
  have hci : Tryz.prog.cellsOf 3 = 1 := by kernel_rfl
  have hcs : Tryz.prog.cellsOf 9 = 1 := by kernel_rfl
  have hcl : Tryz.prog.cellsOf 26 = 2 := by kernel_rfl
  have hcf : Tryz.prog.cellsOf 48 = 1 := by kernel_rfl
  obtain ⟨ys, n', hn', hy, hlen, hyl, hf⟩ := DataW.trod_struct Tryz.underlying50 h
  have t0 := hf 0 _ rfl
  have t1 := hf 1 _ rfl
  have t2 := hf 2 _ rfl
  have t3 := hf 3 _ rfl
  have t4 := hf 4 _ rfl
  match ys, hyl with
  | [y0, y1, y2, y3, y4], _ =>
    obtain ⟨s, q0, _, z0⟩ := DataW.trod_string Tryz.underlying9 t0
    simp [hcs] at q0
    subst q0
    have t1' : DataW.trod enc Tryz.prog W 0 (fun _ => true) true n' 48 [c1] = some y1 := by simpa [hcf] using t1
    obtain ⟨fl, hfl⟩ := flds_of_trod t1'
    have t2' : DataW.trod enc Tryz.prog W 0 (fun _ => true) true n' 26 [c2, c3] = some y2 := by simpa [hcl] using t2
    obtain ⟨l, c, e2, e3, hc⟩ := lab_of_trod t2'
    obtain ⟨k3, q3, _, _⟩ := DataW.trod_int Tryz.underlying3 t3
    obtain ⟨k4, q4, _, _⟩ := DataW.trod_int Tryz.underlying3 t4
    simp [hci] at q3 q4
    subst q3 q4
    subst e2 e3
    exact ⟨⟨s, fl, l, c, k3, k4⟩, c1, rfl, hfl.1, z0, hfl.2.2, hfl.2.1, hc⟩
set_option maxRecDepth 100000 in
theorem al_of_arg {H : Type} {enc : TypeId × Value → H} {W : World} {base : Nat} {v : Value} {d : DataW H} {p : List MemPlace} (hval : Value.okWide Tryz.prog W .any base 50 v) (h : DataW.Trod enc Tryz.prog W 0 (fun _ => true) true 50 v d p) : ∃ x fv, ArgAl W v x fv := by
  obtain ⟨cs, rfl, hsz, _⟩ : ∃ cs, v = .agg cs ∧ cs.size = Tryz.prog.cellsOf 50 ∧ Row.okWide Tryz.prog W .any base 50 cs := by
    simpa [Value.okWide, Tryz.underlying50] using hval
  rw [show Tryz.prog.cellsOf 50 = 6 by kernel_rfl] at hsz
  obtain ⟨fuel, hf⟩ := h
  obtain ⟨l⟩ := cs
  match l, hsz with
  | [c0, c1, c2, c3, c4, c5], _ => exact al_of_trod hf
end Go.Proofs.YtcfococinllcmaaGreat

/- the law's steps: does, at a list that isn't there. -/
namespace Go.Proofs.YtcfococinllcmaaGreat
open Go.RowKit
end Go.Proofs.YtcfococinllcmaaGreat

/- the law's scripts: early. -/
namespace Go.Proofs.YtcfococinllcmaaGreat
open Go.RowKit
def opC (o : SOp) : List Value := [.int .i64 o.kd, .int .i64 o.id, .int .i64 o.now, .int .i64 o.sid, .slice o.s.mv.1 o.s.mv.2.1 o.s.mv.2.2, .int .i64 o.s.fr, .int .i64 o.s.til, .int .i64 o.s.lv, .int .u32 o.s.c]
def opCells : List SOp → List Value
  | [] => []
  | o :: l => opC o ++ opCells l
theorem opCells_take (l : List SOp) (i : Nat) : opCells (l.take i) = (opCells l).take (i * 9) := by
  induction l generalizing i with
  | nil => simp [opCells]
  | cons f l ih =>
    cases i with
    | zero => simp [opCells]
    | succ i =>
      have hl : (opC f).length = 9 := rfl
      rw [List.take_succ_cons, opCells, ih, opCells, List.take_append, List.take_of_length_le (l := opC f) (by rw [hl]; omega), hl, show (i + 1) * 9 - 9 = i * 9 by omega]
structure OpsAt (w : World) (v : Value) (l : List SOp) : Prop where
  row : RdAt w v l.length 9 (opCells l)
  each : ∀ o ∈ l, OpAt w o
theorem OpsAt.later {w w' : World} {v : Value} {l : List SOp} (h : OpsAt w v l) (hb : Below w.heap.size w w') : OpsAt w' v l := ⟨RdAt.later h.row hb, fun o ho => (h.each o ho).later hb⟩
set_option maxHeartbeats 1600000 in
theorem early_any (l : List SOp) (v : Value) (w0 w : World) (h : OpsAt w0 v l) (hl : l.length ≤ maxLen) :
    Calls Tryz.prog 23 #[v] w fun e w' => ∃ v', e = .returned v' ∧ OpsAt w0 v' (l.take 60) ∧ Below w.heap.size w w' := by
  obtain ⟨a, c, rfl, hc, _⟩ := RdAt.shape h.row
  obtain ⟨k, hk, hkl, hmin, _⟩ := min_cutS l 60
  change min (l.length : Int) 60 = _ at hmin
  have HT : Hid (OpsAt w0 (.slice a k c) (l.take k)) := Lib.hid ⟨by
    have e : (l.take k).length = k := by rw [List.length_take]; omega
    rw [e, opCells_take]
    exact rd_takeS h.row k hk (none_ofS h.row), fun o ho => h.each o (List.mem_of_mem_take ho)⟩
  have HKL := Lib.hid hkl
  have hkc : k ≤ c := Nat.le_trans hk hc
  have hkm : k < 9223372036854775807 := by unfold maxLen at hl; omega
  have hmn63 : l.length ≤ 9223372036854775807 := by unfold maxLen at hl; omega
  generalize l.length = ln at *
  clear h hkl hl
  go_enter Tryz.func23, Tryz.ntmps23
  go_wp2
  go_ret
  exact ⟨.slice a k c, rfl, by rw [HKL.out]; exact HT.out, Below.refl _ _⟩
end Go.Proofs.YtcfococinllcmaaGreat

/- The arguments of chapter 10's laws: steps, scripts. -/
namespace Go.Proofs.YtcfococinllcmaaGreat
open Go.RowKit Go.WideShapes Go.ChangeShapes Go.Deep
section
variable {H : Type} {enc : TypeId × Value → H} {P : Program} {w : World} {base : Nat} {spare : Nat → Bool} {held : Bool}
theorem open_slice_elems {t e : TypeId} {fuel : Nat} {cs : List Value} {x : DataW H × List MemPlace} (ht : P.underlying t = some (.slice e))
    (h : DataW.trod enc P w base spare held fuel t cs = some x) :
    cs = [.slice none 0 0] ∨
    ∃ (a : Addr) (len cap : Nat), cs = [.slice (some a) len cap] ∧ len ≤ cap ∧ cap ≤ maxLen ∧
      ∀ i, i < len → ∃ (es : List Value) (n : Nat) (y : DataW H × List MemPlace), es.length = P.cellsOf e ∧ (∀ j, j < P.cellsOf e → w.cell? (a.add (i * P.cellsOf e + j)) = es[j]?) ∧ DataW.trod enc P w base spare held n e es = some y := by
  rcases open_slice ht h with ⟨h0, _⟩ | ⟨a, len, cap, m, n, D, Pl, hcs, hb, hl, hm, hmm, hx, hi⟩
  · exact .inl h0
  · refine .inr ⟨a, len, cap, hcs, hl, hm, fun i hil => ?_⟩
    obtain ⟨cs', hc, ht'⟩ := hi i (by rw [hmm]; split <;> omega)
    obtain ⟨_, hcl, hat⟩ := World.cells?_some hc
    exact ⟨cs', _, _, hcl, fun j hj => by rw [← Go.Deep.add_add]; exact hat j hj, ht'⟩
end
theorem row_cells {W : World} {a : Addr} {len size : Nat} {f : Nat → List Value} (h0 : 0 < size) (hlen : ∀ i, i < len → (f i).length = size) (hat : ∀ i, i < len → ∀ j, j < size → W.cell? (a.add (i * size + j)) = (f i)[j]?) (hp : 0 < len) :
    ∃ b o, a = ⟨b, o, none⟩ ∧ b < W.heap.size ∧ ∀ i, i < len → ∀ j x, (f i)[j]? = some x → W.cell? ⟨b, o + (i * size + j), none⟩ = some x := by
  obtain ⟨b, off, spot⟩ := a
  obtain ⟨x0, hx0⟩ : ∃ x, (f 0)[0]? = some x := ⟨_, List.getElem?_eq_getElem (by rw [hlen 0 hp]; exact h0)⟩
  have hc := hat 0 hp 0 h0
  rw [hx0] at hc
  have hspot : spot = none := by simpa [Addr.add] using World.cell?_spot hc
  subst hspot
  refine ⟨b, off, rfl, by have := cell_ltA hc; simpa [Addr.add] using this, fun i hi j x hx => ?_⟩
  have hj : j < size := by have := (List.getElem?_eq_some_iff.1 hx).1; rw [hlen i hi] at this; exact this
  have := hat i hi j hj
  rw [add_off, hx] at this
  exact this
set_option maxRecDepth 100000 in
theorem mts_of_trod {H : Type} {enc : TypeId × Value → H} {W : World} {n : Nat} {v : Value} {x : DataW H × List MemPlace} (h : DataW.trod enc Tryz.prog W 0 (fun _ => true) true n 33 [v] = some x) : ∃ l, MtsAt W v l ∧ l.length ≤ maxLen ∧ MtsFit l := by
  have hC : Tryz.prog.cellsOf 108 = 3 := by kernel_rfl
  have hcs1 : Tryz.prog.cellsOf 9 = 1 := by kernel_rfl
  have hci : Tryz.prog.cellsOf 3 = 1 := by kernel_rfl
  rcases open_slice_structs Tryz.underlying33 Tryz.underlying108 h with hcs | ⟨a, len, cap, hcs, hl, hm, hf⟩
  · cases hcs
    exact ⟨[], RdAt.nil W 3, Nat.zero_le _, fun _ h => by cases h⟩
  · cases hcs
    rw [hC] at hf
    have hone : ∀ i, i < len → ∃ s : Mt, (∀ j, j < 3 → W.cell? (a.add (i * 3 + j)) = (mtC s)[j]?) ∧ MtFit s := by
      intro i hi
      obtain ⟨es, n, hlen, hat, hfs⟩ := hf i hi
      match es, hlen with
      | [e0, e1, e2], _ =>
        obtain ⟨y0, t0⟩ := hfs 0 _ rfl
        obtain ⟨y1, t1⟩ := hfs 1 _ rfl
        obtain ⟨y2, t2⟩ := hfs 2 _ rfl
        obtain ⟨s0, q0, _, z0⟩ := DataW.trod_string Tryz.underlying9 t0
        obtain ⟨k1, q1, _, _⟩ := DataW.trod_int Tryz.underlying3 t1
        obtain ⟨s2, q2, _, z2⟩ := DataW.trod_string Tryz.underlying9 t2
        simp [hcs1] at q0 q2
        simp [hci] at q1
        subst q0 q1 q2
        exact ⟨⟨s0, k1, s2⟩, hat, z0, z2⟩
    have hg : ∃ g : Nat → Mt, ∀ i, i < len → (∀ j, j < 3 → W.cell? (a.add (i * 3 + j)) = (mtC (g i))[j]?) ∧ MtFit (g i) :=
      ⟨fun i => if h : i < len then Classical.choose (hone i h) else default, fun i h => by have := Classical.choose_spec (hone i h); simpa only [dif_pos h] using this⟩
    obtain ⟨g, hg⟩ := hg
    have hgl : ((List.range len).map g).length = len := by simp
    refine ⟨(List.range len).map g, ⟨mtCells_len _, .inr ⟨a, cap, by rw [hgl], by omega, fun hn => ?_⟩⟩, by rw [hgl]; omega, fun s hs => ?_⟩
    · rw [hgl] at hn
      obtain ⟨b, o, rfl, hlt, hcell⟩ := row_cells (f := fun i => mtC (g i)) (size := 3) (by decide) (fun _ _ => rfl) (fun i hi => (hg i hi).1) hn
      refine ⟨b, o, rfl, hlt, fun j x hj => ?_⟩
      have hjl := (List.getElem?_eq_some_iff.1 hj).1
      rw [mtCells_len, hgl] at hjl
      obtain ⟨m, r, hr3, rfl⟩ : ∃ m r, r < 3 ∧ j = m * 3 + r := ⟨j / 3, j % 3, Nat.mod_lt _ (by decide), by omega⟩
      obtain ⟨q0, q1, q2⟩ := mtCells_at ((List.range len).map g) m (by rw [hgl]; omega)
      simp only [List.getElem_map, List.getElem_range] at q0 q1 q2
      refine hcell m (by omega) r x ?_
      match r, hr3 with
      | 0, _ => rw [Nat.add_zero, q0] at hj; exact hj
      | 1, _ => rw [q1] at hj; exact hj
      | 2, _ => rw [q2] at hj; exact hj
    · obtain ⟨i, hi, rfl⟩ := List.mem_map.1 hs
      exact (hg i (List.mem_range.1 hi)).2
def ArgOp (w : World) (v : Value) (o : SOp) : Prop := v = o.v ∧ OpAt w o ∧ o.s.c < 4294967296
theorem sil_of_trod {H : Type} {enc : TypeId × Value → H} {W : World} {n : Nat} {c3 c4 c5 c6 c7 c8 : Value} {x : DataW H × List MemPlace} (h : DataW.trod enc Tryz.prog W 0 (fun _ => true) true n 58 [c3, c4, c5, c6, c7, c8] = some x) :
    ∃ (i f t l : Int) (c : Nat) (mv : Option Addr × Nat × Nat) (ms : List Mt), c3 = .int .i64 i ∧ c4 = .slice mv.1 mv.2.1 mv.2.2 ∧ c5 = .int .i64 f ∧ c6 = .int .i64 t ∧ c7 = .int .i64 l ∧ c8 = .int .u32 c ∧ c < 4294967296 ∧ MtsAt W (SV mv) ms ∧ MtsFit ms ∧ ms.length ≤ maxLen := by
  have hci : Tryz.prog.cellsOf 3 = 1 := by kernel_rfl
  have hcl : Tryz.prog.cellsOf 26 = 2 := by kernel_rfl
  have hcm : Tryz.prog.cellsOf 33 = 1 := by kernel_rfl
  obtain ⟨ys, n', hn', hy, hlen, hyl, hf⟩ := DataW.trod_struct Tryz.underlying58 h
  have t0 := hf 0 _ rfl
  have t1 := hf 1 _ rfl
  have t2 := hf 2 _ rfl
  have t3 := hf 3 _ rfl
  have t4 := hf 4 _ rfl
  match ys, hyl with
  | [y0, y1, y2, y3, y4], _ =>
    obtain ⟨k0, q0, _, _⟩ := DataW.trod_int Tryz.underlying3 t0
    have t1' : DataW.trod enc Tryz.prog W 0 (fun _ => true) true n' 33 [c4] = some y1 := by simpa [hcm] using t1
    obtain ⟨ms, hms, hml, hmf⟩ := mts_of_trod t1'
    obtain ⟨k2, q2, _, _⟩ := DataW.trod_int Tryz.underlying3 t2
    obtain ⟨k3, q3, _, _⟩ := DataW.trod_int Tryz.underlying3 t3
    have t4' : DataW.trod enc Tryz.prog W 0 (fun _ => true) true n' 26 [c7, c8] = some y4 := by simpa [hcl] using t4
    obtain ⟨l, c, e2, e3, hc⟩ := lab_of_trod t4'
    simp [hci] at q0 q2 q3
    obtain ⟨a, m, rfl, _, _⟩ := RdAt.shape hms
    exact ⟨k0, k2, k3, l, c, (a, ms.length, m), ms, q0, rfl, q2, q3, e2, e3, hc, hms, hmf, hml⟩
theorem op_of_trod {H : Type} {enc : TypeId × Value → H} {W : World} {n : Nat} {c0 c1 c2 c3 c4 c5 c6 c7 c8 : Value} {x : DataW H × List MemPlace} (h : DataW.trod enc Tryz.prog W 0 (fun _ => true) true n 60 [c0, c1, c2, c3, c4, c5, c6, c7, c8] = some x) : ∃ o, ArgOp W (.agg #[c0, c1, c2, c3, c4, c5, c6, c7, c8]) o := by
  have hci : Tryz.prog.cellsOf 3 = 1 := by kernel_rfl
  have hcs : Tryz.prog.cellsOf 58 = 6 := by kernel_rfl
  obtain ⟨ys, n', hn', hy, hlen, hyl, hf⟩ := DataW.trod_struct Tryz.underlying60 h
  have t0 := hf 0 _ rfl
  have t1 := hf 1 _ rfl
  have t2 := hf 2 _ rfl
  have t3 := hf 3 _ rfl
  match ys, hyl with
  | [y0, y1, y2, y3], _ =>
    obtain ⟨k0, q0, _, _⟩ := DataW.trod_int Tryz.underlying3 t0
    obtain ⟨k1, q1, _, w1⟩ := DataW.trod_int Tryz.underlying3 t1
    obtain ⟨k2, q2, _, _⟩ := DataW.trod_int Tryz.underlying3 t2
    have t3' : DataW.trod enc Tryz.prog W 0 (fun _ => true) true n' 58 [c3, c4, c5, c6, c7, c8] = some y3 := by simpa [hcs] using t3
    obtain ⟨i, f, t, l, c, mv, ms, e3, e4, e5, e6, e7, e8, hc, hm, hmf, hml⟩ := sil_of_trod t3'
    simp [hci] at q0 q1 q2
    subst q0 q1 q2 e3 e4 e5 e6 e7 e8
    exact ⟨⟨k0, k1, k2, i, ⟨0, mv, ms, f, t, l, c⟩⟩, rfl, ⟨hm, hmf, hml, w1⟩, hc⟩
def ArgOps (w : World) (v : Value) (l : List SOp) : Prop := OpsAt w v l ∧ l.length ≤ maxLen ∧ ∀ o ∈ l, o.s.c < 4294967296
theorem opCells_len (l : List SOp) : (opCells l).length = l.length * 9 := by
  induction l with
  | nil => rfl
  | cons o l ih => simp only [opCells, List.length_append, ih, List.length_cons]; show 9 + _ = _; omega
theorem opCells_at (l : List SOp) (i : Nat) (hi : i < l.length) (r : Nat) (z : Value) (hz : (opC l[i])[r]? = some z) : (opCells l)[i * 9 + r]? = some z := by
  induction l generalizing i with
  | nil => simp at hi
  | cons o l ih =>
    have hr : r < 9 := by have := (List.getElem?_eq_some_iff.1 hz).1; exact this
    cases i with
    | zero =>
      simp only [opCells]
      rw [List.getElem?_append_left (by show _ < 9; omega)]
      simpa using hz
    | succ i =>
      simp only [opCells]
      rw [List.getElem?_append_right (by show 9 ≤ _; omega)]
      have := ih i (by simpa using hi) (by simpa using hz)
      rw [show (i + 1) * 9 + r - (opC o).length = i * 9 + r by show (i + 1) * 9 + r - 9 = _; omega]
      exact this
set_option maxRecDepth 100000 in
theorem ops_of_trod {H : Type} {enc : TypeId × Value → H} {W : World} {n : Nat} {v : Value} {x : DataW H × List MemPlace} (h : DataW.trod enc Tryz.prog W 0 (fun _ => true) true n 47 [v] = some x) : ∃ l, ArgOps W v l := by
  have hC : Tryz.prog.cellsOf 60 = 9 := by kernel_rfl
  rcases open_slice_elems Tryz.underlying47 h with hcs | ⟨a, len, cap, hcs, hl, hm, hf⟩
  · cases hcs
    exact ⟨[], ⟨RdAt.nil W 9, fun _ h => by cases h⟩, Nat.zero_le _, fun _ h => by cases h⟩
  · cases hcs
    rw [hC] at hf
    have hone : ∀ i, i < len → ∃ o : SOp, (∀ j, j < 9 → W.cell? (a.add (i * 9 + j)) = (opC o)[j]?) ∧ OpAt W o ∧ o.s.c < 4294967296 := by
      intro i hi
      obtain ⟨es, n, y, hlen, hat, ht⟩ := hf i hi
      match es, hlen with
      | [e0, e1, e2, e3, e4, e5, e6, e7, e8], _ =>
        obtain ⟨o, he, h1, h2⟩ := op_of_trod ht
        simp only [Value.agg.injEq] at he
        have he' : [e0, e1, e2, e3, e4, e5, e6, e7, e8] = opC o := congrArg Array.toList he
        exact ⟨o, fun j hj => by rw [hat j hj, he'], h1, h2⟩
    have hg : ∃ g : Nat → SOp, ∀ i, i < len → (∀ j, j < 9 → W.cell? (a.add (i * 9 + j)) = (opC (g i))[j]?) ∧ OpAt W (g i) ∧ (g i).s.c < 4294967296 :=
      ⟨fun i => if h : i < len then Classical.choose (hone i h) else ⟨0, 0, 0, 0, ⟨0, (none, 0, 0), [], 0, 0, 0, 0⟩⟩, fun i h => by have := Classical.choose_spec (hone i h); simpa only [dif_pos h] using this⟩
    obtain ⟨g, hg⟩ := hg
    have hgl : ((List.range len).map g).length = len := by simp
    refine ⟨(List.range len).map g, ⟨⟨opCells_len _, .inr ⟨a, cap, by rw [hgl], by omega, fun hn => ?_⟩⟩, fun s hs => ?_⟩, by rw [hgl]; omega, fun s hs => ?_⟩
    · rw [hgl] at hn
      obtain ⟨b, o, rfl, hlt, hcell⟩ := row_cells (f := fun i => opC (g i)) (size := 9) (by decide) (fun _ _ => rfl) (fun i hi => (hg i hi).1) hn
      refine ⟨b, o, rfl, hlt, fun j x hj => ?_⟩
      have hjl := (List.getElem?_eq_some_iff.1 hj).1
      rw [opCells_len, hgl] at hjl
      obtain ⟨m, r, hr9, rfl⟩ : ∃ m r, r < 9 ∧ j = m * 9 + r := ⟨j / 9, j % 9, Nat.mod_lt _ (by decide), by omega⟩
      have hm' : m < len := by omega
      obtain ⟨z, hz⟩ : ∃ z, (opC (g m))[r]? = some z := ⟨_, List.getElem?_eq_getElem (by exact hr9)⟩
      have := opCells_at ((List.range len).map g) m (by rw [hgl]; omega) r z (by simpa using hz)
      rw [this] at hj
      exact hcell m hm' r x (hz.trans hj)
    · obtain ⟨i, hi, rfl⟩ := List.mem_map.1 hs
      exact (hg i (List.mem_range.1 hi)).2.1
    · obtain ⟨i, hi, rfl⟩ := List.mem_map.1 hs
      exact (hg i (List.mem_range.1 hi)).2.2
set_option maxRecDepth 100000 in
theorem ops_of_arg {H : Type} {enc : TypeId × Value → H} {W : World} {base : Nat} {v : Value} {d : DataW H} {p : List MemPlace} (hval : Value.okWide Tryz.prog W .any base 47 v) (h : DataW.Trod enc Tryz.prog W 0 (fun _ => true) true 47 v d p) : ∃ l, ArgOps W v l := by
  obtain ⟨a0, len, cap, rfl⟩ := okWide_slice Tryz.underlying47 hval
  obtain ⟨fuel, hf⟩ := h
  exact ops_of_trod hf
end Go.Proofs.YtcfococinllcmaaGreat

/- the law's lives: what its values are, plainly. -/
namespace Go.Proofs.YtcfococinllcmaaGreat
open Go.RowKit
abbrev teamB : ByteArray := ⟨#[116, 101, 97, 109]⟩
abbrev tB : ByteArray := ⟨#[116]⟩
abbrev mtL : Mt := ⟨teamB, 0, tB⟩
abbrev silL (mv : Option Addr × Nat × Nat) : Sil := ⟨0, mv, [mtL], 0, 9, 5, 0⟩
abbrev flL : List Fld := [(teamB, tB)]
theorem fine_mtL : fineM mtL = true := by
  unfold fineM
  have h : nameL (B teamB) = true := by kernel_rfl
  rw [h]
  rfl
theorem right_silL (mv : Option Addr × Nat × Nat) : rightS (silL mv) = true := by
  unfold rightS
  have h : ([mtL].any fun m => !fineM m) = false := by simp [fine_mtL]
  show (decide (0 < 1) && decide (1 ≤ 12) && !([mtL].any fun m => !fineM m) && decide ((0 : Int) ≤ 0) && decide ((0 : Int) < 9) && decide ((9 : Int) ≤ 1099511627776) && rightL 5) = true
  rw [h]
  rfl
theorem fit_mtL : fitM flL mtL = true := by
  unfold fitM
  rw [fine_mtL]
  have hv : valueF flL mtL.nm = tB := by kernel_rfl
  rw [hv]
  unfold opM
  rw [if_pos rfl]
  have h : ((tB : ByteArray).toList == mtL.val.toList) = true := by kernel_rfl
  rw [h]; rfl
theorem quiet_high (id : Int) (mv : Option Addr × Nat × Nat) : quietS flL (5, 0) 4 { silL mv with id := id } = true := by
  unfold quietS
  have h1 : allM flL [mtL] = true := by unfold allM; simp [fit_mtL]
  have h2 : flowsL 5 0 5 0 = true := by decide
  show (flowsL 5 0 5 0 && decide ((0 : Int) ≤ 4) && decide ((4 : Int) < 9) && allM flL [mtL]) = true
  rw [h1, h2]; rfl
theorem quiet_low (id : Int) (mv : Option Addr × Nat × Nat) : quietS flL (3, 0) 4 { silL mv with id := id } = false := by
  unfold quietS
  have h2 : flowsL 5 0 3 0 = false := by decide
  show (flowsL 5 0 3 0 && decide ((0 : Int) ≤ 4) && decide ((4 : Int) < 9) && allM flL [mtL]) = false
  rw [h2]; rfl
theorem quietL_low (mv : Option Addr × Nat × Nat) : quietL [] [{ silL mv with id := 1 }] flL (0, 0) (3, 0) 4 = [] := by
  unfold quietL
  have hv : visL [] flL (0, 0) (3, 0) = flL := by kernel_rfl
  rw [hv, List.filter_cons, quiet_low 1 mv]
  simp
theorem quietL_high (mv : Option Addr × Nat × Nat) : quietL [] [{ silL mv with id := 1 }] flL (0, 0) (5, 0) 4 = [1] := by
  unfold quietL
  have hv : visL [] flL (0, 0) (5, 0) = flL := by kernel_rfl
  have hc : cutOk [] flL (0, 0) (5, 0) = true := by kernel_rfl
  rw [hv, hc, List.filter_cons, quiet_high 1 mv]
  simp
theorem end_one (mv : Option Addr × Nat × Nat) : endE [{ silL mv with id := 1 }] 1 5 = 0 ∧ endL [{ silL mv with id := 1 }] 1 5 = [{ silL mv with id := 1, til := 5 }] := by
  constructor <;> rfl
theorem forget_one (mv : Option Addr × Nat × Nat) : [({ silL mv with id := 1, til := 5 } : Sil)].countP (endS 5) = 1 := by rfl
end Go.Proofs.YtcfococinllcmaaGreat

/- the law's lives is true. -/
namespace Go.Proofs.YtcfococinllcmaaGreat
open Go.RowKit
theorem quo_nil (s : Sil) : quoS [] s ≠ 10 := by simp [quoS]
structure LifeAt (w1 W : World) : Prop where
  m : MtsAt W (.slice (some ⟨w1.heap.size, 0, none⟩) 1 1) [mtL]
  s : C5 (w1.heap.size + 1) (.slice (some ⟨w1.heap.size, 0, none⟩) 1 1) (.int .i64 0) (.int .i64 9) (.int .i64 5) (.int .u32 0) W
  f : FldsAt W (.slice (some ⟨w1.heap.size + 1 + 1, 0, none⟩) 1 1) flL
  a : C6 (w1.heap.size + 1 + 1 + 1) (.string ⟨#[112, 114, 111, 109]⟩) (.slice (some ⟨w1.heap.size + 1 + 1, 0, none⟩) 1 1) (.int .i64 0) (.int .u32 0) (.int .i64 0) (.int .i64 0) W
  lt : w1.heap.size + 1 + 1 + 1 < W.heap.size
theorem LifeAt.later {w1 W W' : World} (h : LifeAt w1 W) (hb : Below W.heap.size W W') : LifeAt w1 W' := by
  have hl := h.lt
  exact ⟨RdAt.later h.m hb, h.s.later hb, RdAt.later h.f hb, h.a.later hb (by omega), Nat.lt_of_lt_of_le hl hb.size⟩
theorem LifeAt.keep {w1 W W' : World} {lp m : Nat} (h : LifeAt w1 W) (hk : Kp lp m W W') (h1 : lp < w1.heap.size) (h2 : m < w1.heap.size) : LifeAt w1 W' := by
  have hl := h.lt
  have q : ∀ b o v, w1.heap.size ≤ b → W.cell? ⟨b, o, none⟩ = some v → W'.cell? ⟨b, o, none⟩ = some v := fun b o v hb hv => hk.cell hv (by omega) (by omega)
  obtain ⟨s0, s1, s2, s3, s4⟩ := h.s
  obtain ⟨a0, a1, a2, a3, a4, a5⟩ := h.a
  refine ⟨hk.rd h.m (fun q hq => ?_), ⟨q _ _ _ (by omega) s0, q _ _ _ (by omega) s1, q _ _ _ (by omega) s2, q _ _ _ (by omega) s3, q _ _ _ (by omega) s4⟩, hk.rd h.f (fun q hq => ?_),
    ⟨q _ _ _ (by omega) a0, q _ _ _ (by omega) a1, q _ _ _ (by omega) a2, q _ _ _ (by omega) a3, q _ _ _ (by omega) a4, q _ _ _ (by omega) a5⟩, Nat.lt_of_lt_of_le hl hk.size⟩
  all_goals
    simp only [Value.ownBlock, Option.some.injEq] at hq
    omega
theorem lifeAt (w1 : World) : LifeAt w1 ((((w1.alloc (.cells #[.string teamB, .int .i64 0, .string tB] 108)).alloc (.cells #[.slice (some ⟨w1.heap.size, 0, none⟩) 1 1, .int .i64 0, .int .i64 9, .int .i64 5, .int .u32 0] 67)).alloc (.cells #[.string teamB, .string tB] 103)).alloc (.cells #[.string ⟨#[112, 114, 111, 109]⟩, .slice (some ⟨w1.heap.size + 1 + 1, 0, none⟩) 1 1, .int .i64 0, .int .u32 0, .int .i64 0, .int .i64 0] 53)) ∧ Below w1.heap.size w1 ((((w1.alloc (.cells #[.string teamB, .int .i64 0, .string tB] 108)).alloc (.cells #[.slice (some ⟨w1.heap.size, 0, none⟩) 1 1, .int .i64 0, .int .i64 9, .int .i64 5, .int .u32 0] 67)).alloc (.cells #[.string teamB, .string tB] 103)).alloc (.cells #[.string ⟨#[112, 114, 111, 109]⟩, .slice (some ⟨w1.heap.size + 1 + 1, 0, none⟩) 1 1, .int .i64 0, .int .u32 0, .int .i64 0, .int .i64 0] 53)) := by
  obtain ⟨V1, h1⟩ : ∃ z, w1.alloc (.cells #[.string teamB, .int .i64 0, .string tB] 108) = z := ⟨_, rfl⟩
  obtain ⟨V2, h2⟩ : ∃ z, V1.alloc (.cells #[.slice (some ⟨w1.heap.size, 0, none⟩) 1 1, .int .i64 0, .int .i64 9, .int .i64 5, .int .u32 0] 67) = z := ⟨_, rfl⟩
  obtain ⟨V3, h3⟩ : ∃ z, V2.alloc (.cells #[.string teamB, .string tB] 103) = z := ⟨_, rfl⟩
  obtain ⟨V4, h4⟩ : ∃ z, V3.alloc (.cells #[.string ⟨#[112, 114, 111, 109]⟩, .slice (some ⟨w1.heap.size + 1 + 1, 0, none⟩) 1 1, .int .i64 0, .int .u32 0, .int .i64 0, .int .i64 0] 53) = z := ⟨_, rfl⟩
  rw [h1, h2, h3, h4]
  have s1 : V1.heap.size = w1.heap.size + 1 := by rw [← h1, World.size_alloc]
  have s2 : V2.heap.size = w1.heap.size + 1 + 1 := by rw [← h2, World.size_alloc, s1]
  have s3 : V3.heap.size = w1.heap.size + 1 + 1 + 1 := by rw [← h3, World.size_alloc, s2]
  have s4 : V4.heap.size = w1.heap.size + 1 + 1 + 1 + 1 := by rw [← h4, World.size_alloc, s3]
  have b1 : Below w1.heap.size w1 V1 := by rw [← h1]; exact alloc_below _ _
  have b2 : Below V1.heap.size V1 V2 := by rw [← h2]; exact alloc_below _ _
  have b3 : Below V2.heap.size V2 V3 := by rw [← h3]; exact alloc_below _ _
  have b4 : Below V3.heap.size V3 V4 := by rw [← h4]; exact alloc_below _ _
  have c34 : Below V3.heap.size V3 V4 := b4
  have c24 : Below V2.heap.size V2 V4 := b3.trans (c34.mono (by omega))
  have c14 : Below V1.heap.size V1 V4 := b2.trans (c24.mono (by omega))
  have g1 : Below (w1.alloc (.cells #[.string teamB, .int .i64 0, .string tB] 108)).heap.size (w1.alloc (.cells #[.string teamB, .int .i64 0, .string tB] 108)) V4 := by rw [h1]; exact c14
  have g3 : Below (V2.alloc (.cells #[.string teamB, .string tB] 103)).heap.size (V2.alloc (.cells #[.string teamB, .string tB] 103)) V4 := by rw [h3]; exact c34
  have x2 := alc5 V1 (.slice (some ⟨w1.heap.size, 0, none⟩) 1 1) (.int .i64 0) (.int .i64 9) (.int .i64 5) (.int .u32 0) 67
  rw [h2, s1] at x2
  have m0 := box_later g1 (i := 0) rfl
  have m1 := box_later g1 (i := 1) rfl
  have m2 := box_later g1 (i := 2) rfl
  have f0 := box_later g3 (i := 0) rfl
  have f1 := box_later g3 (i := 1) rfl
  have x4 := alc6 V3 (.string ⟨#[112, 114, 111, 109]⟩) (.slice (some ⟨w1.heap.size + 1 + 1, 0, none⟩) 1 1) (.int .i64 0) (.int .u32 0) (.int .i64 0) (.int .i64 0) 53
  rw [h4, s3] at x4
  rw [s2] at f0 f1
  refine ⟨⟨RdAt.mk rfl (Nat.le_refl _) (by omega) (fun j x hj => ?_), x2.later c24, RdAt.mk rfl (Nat.le_refl _) (by omega) (fun j x hj => ?_), x4, by omega⟩, b1.trans (c14.mono (by omega))⟩
  · rw [Nat.zero_add]
    match j, hj with
    | 0, hj => rw [← Option.some.inj hj]; exact m0
    | 1, hj => rw [← Option.some.inj hj]; exact m1
    | 2, hj => rw [← Option.some.inj hj]; exact m2
    | j + 3, hj => simp [mtCells] at hj
  · rw [Nat.zero_add]
    match j, hj with
    | 0, hj => rw [← Option.some.inj hj]; exact f0
    | 1, hj => rw [← Option.some.inj hj]; exact f1
    | j + 2, hj => simp [fldCells] at hj
theorem quiet_is (s0 s1 s2 s4 s5 : Option Addr × Nat × Nat) (rs : List Nmd) (rv : Value) (src : ByteArray) (fl : List Fld) (fv : Value) (lv : Int) (c : Nat) (fr til : Int) (tl : Int) (tc : Nat) (now : Int) (lp m n : Nat) (S : List Sil) (last : Int) (w : World) (L : List Int)
    (hL : quietL rs S fl (lv, c) (tl, tc) now = L) (h : SlAt w lp m n S last) (hv : NmdsAt w rv rs) (hl : rs.length ≤ maxLen) (hf : FldsAt w fv fl) (hfl : fl.length ≤ 1000000000000) (hfit : FldsFit fl) :
    Calls Tryz.prog 29 #[.pointer (some ⟨lp, 0, none⟩), .agg #[SV s0, SV s1, SV s2, rv, SV s4, SV s5], .agg #[.string src, fv, .int .i64 lv, .int .u32 c, .int .i64 fr, .int .i64 til], Lab tl tc, .int .i64 now] w fun e w' =>
      ∃ v', e = .returned v' ∧ IntsAt w' v' L ∧ Below w.heap.size w w' := by
  subst hL
  exact quiet_any s0 s1 s2 s4 s5 rs rv src fl fv lv c fr til tl tc now lp m n S last w h hv hl hf hfl hfit
set_option maxHeartbeats 6400000 in
set_option maxRecDepth 100000 in
theorem lives_any (w : World) : Calls Tryz.prog 20 #[] w fun e w' => e = .returned (.bool true) ∧ Below w.heap.size w w' := by
  have kn := new_any w
  go_enter Tryz.func20, Tryz.ntmps20
  go_wp2_with fail
  refine kn.mono ?_
  rintro e w1 ⟨lp, m, rfl, hS, hlp, hm, hb1⟩
  have HS1 := Lib.hid hS
  have HB1 := Lib.hid hb1
  clear kn hS hb1
  go_upto_region 4 with fail
  obtain ⟨hL, hLb⟩ := lifeAt w1
  change Code.wp _ _ _ _ ((((w1.alloc (.cells #[.string teamB, .int .i64 0, .string tB] 108)).alloc (.cells #[.slice (some ⟨w1.heap.size, 0, none⟩) 1 1, .int .i64 0, .int .i64 9, .int .i64 5, .int .u32 0] 67)).alloc (.cells #[.string teamB, .string tB] 103)).alloc (.cells #[.string ⟨#[112, 114, 111, 109]⟩, .slice (some ⟨w1.heap.size + 1 + 1, 0, none⟩) 1 1, .int .i64 0, .int .u32 0, .int .i64 0, .int .i64 0] 53))
  generalize (((w1.alloc (.cells #[.string teamB, .int .i64 0, .string tB] 108)).alloc (.cells #[.slice (some ⟨w1.heap.size, 0, none⟩) 1 1, .int .i64 0, .int .i64 9, .int .i64 5, .int .u32 0] 67)).alloc (.cells #[.string teamB, .string tB] 103)).alloc (.cells #[.string ⟨#[112, 114, 111, 109]⟩, .slice (some ⟨w1.heap.size + 1 + 1, 0, none⟩) 1 1, .int .i64 0, .int .u32 0, .int .i64 0, .int .i64 0] 53) = W2 at *
  have HL := Lib.hid hL
  have H2 := Lib.hid (HS1.out.later hLb)
  have HB2 := Lib.hid (HB1.out.trans (hLb.mono HB1.out.size))
  have hlp1 : lp < w1.heap.size := cell_lt HS1.out.h0
  have hm1 : m < w1.heap.size := HS1.out.own.lt
  obtain ⟨p0, p1, p2, p3, p4⟩ := hL.s
  have hf1 : MtsFit [mtL] := fun m hm => by rw [List.mem_singleton.1 hm]; exact ⟨by decide, by decide⟩
  have kl := lay_any lp m 0 [] 0 (silL (some ⟨w1.heap.size, 0, none⟩, 1, 1)) W2 H2.out hL.m hf1 (Nat.le_of_lt (Nat.lt_of_le_of_lt (Nat.le_refl 1) (by omega))) (by omega) (by omega) (by omega)
  rw [(layE_ok (right_silL _) (quo_nil _)).1] at kl
  unfold Sil.v silL at kl
  dsimp only at kl
  clear hL hLb
  go_wp2_with fail
  refine kl.mono ?_
  rintro e w3 ⟨rfl, S', last', n', hS, hLay, hn', hk, _⟩
  have hys := (layE_ok (S := []) (last := 0) (right_silL (some ⟨w1.heap.size, 0, none⟩, 1, 1)) (quo_nil _)).2
  cases hLay with
  | no h => rw [hys] at h; cases h
  | yes _ mv =>
  change SlAt w3 lp m n' [{ silL mv with id := 1 }] 1 at hS
  have HS3 := Lib.hid hS
  have HL3 := Lib.hid (HL.out.keep hk hlp1 hm1)
  have HB3 := Lib.hid (HB2.out.trans (hk.below hlp hm HB2.out.size))
  have hff : FldsFit flL := fun f hf => by rw [List.mem_singleton.1 hf]; exact ⟨by decide, by decide⟩
  have HFF := Lib.hid hff
  clear kl hys hk hf1 H2 HL HB2 HS1 HB1 p0 p1 p2 p3 p4 hS hff
  have kq := quiet_is (none, 0, 0) (none, 0, 0) (none, 0, 0) (none, 0, 0) (none, 0, 0) [] (.slice none 0 0) ⟨#[112, 114, 111, 109]⟩ flL (.slice (some ⟨w1.heap.size + 1 + 1, 0, none⟩) 1 1) 0 0 0 0 3 0 4 lp m n' _ 1 w3 [] (quietL_low mv) HS3.out (RdAt.nil _ _) (by decide) HL3.out.f (by decide) HFF.out
  unfold SV at kq
  dsimp only at kq
  obtain ⟨a0, a1, a2, a3, a4, a5⟩ := HL3.out.a
  go_wp2_with fail
  refine kq.mono ?_
  rintro e w4 ⟨v4, rfl, hI, hb⟩
  obtain ⟨xa, xc, rfl, _, _⟩ := RdAt.shape hI
  have HS4 := Lib.hid (HS3.out.later hb)
  have HL4 := Lib.hid (HL3.out.later hb)
  have HB4 := Lib.hid (HB3.out.trans (hb.mono HB3.out.size))
  clear kq hI hb a0 a1 a2 a3 a4 a5 HS3 HL3 HB3
  have kq := quiet_is (none, 0, 0) (none, 0, 0) (none, 0, 0) (none, 0, 0) (none, 0, 0) [] (.slice none 0 0) ⟨#[112, 114, 111, 109]⟩ flL (.slice (some ⟨w1.heap.size + 1 + 1, 0, none⟩) 1 1) 0 0 0 0 5 0 4 lp m n' _ 1 w4 [1] (quietL_high mv) HS4.out (RdAt.nil _ _) (by decide) HL4.out.f (by decide) HFF.out
  unfold SV at kq
  dsimp only at kq
  obtain ⟨a0, a1, a2, a3, a4, a5⟩ := HL4.out.a
  go_wp2_with fail
  refine kq.mono ?_
  rintro e w5 ⟨v5, rfl, hI, hb⟩
  obtain ⟨yb, yo, yc, rfl, _, hyl, hyc⟩ := hI.cells (by simp)
  have y0 := hyc 0 1 rfl
  rw [Nat.add_zero] at y0
  have HS5 := Lib.hid (HS4.out.later hb)
  have HB5 := Lib.hid (HB4.out.trans (hb.mono HB4.out.size))
  clear kq hI hb a0 a1 a2 a3 a4 a5 HS4 HL4 HB4 hyc hyl HFF
  have ke := end_any lp m n' _ 1 1 5 w5 HS5.out (by decide) (by omega)
  rw [(end_one mv).1, (end_one mv).2] at ke
  go_wp2_with fail
  refine ke.mono ?_
  rintro e w6 ⟨rfl, n6, hS6, hn6, hk6⟩
  have kf := forget_any lp m n6 _ 1 5 w6 hS6
  rw [forget_one] at kf
  have HB6 := Lib.hid (HB5.out.trans (hk6.below hlp hm HB5.out.size))
  clear ke hS6 hk6 HS5 HB5 y0
  go_wp2_with fail
  refine kf.mono ?_
  rintro e w7 ⟨rfl, hS7, hk7⟩
  have HB7 := Lib.hid (HB6.out.trans (hk7.below hlp hm HB6.out.size))
  clear kf hS7 hk7 HB6
  go_wp2
  go_ret
  exact ⟨rfl, HB7.out⟩
end Go.Proofs.YtcfococinllcmaaGreat

/- silences: lemmas of the laws on scripts. -/
namespace Go.Proofs.YtcfococinllcmaaGreat
open Go.RowKit
theorem ops_cells {w : World} {v : Value} {l : List SOp} (h : OpsAt w v l) : ∃ a c, v = .slice a l.length c ∧ l.length ≤ c ∧ (0 < l.length → ∃ b o, a = some ⟨b, o, none⟩ ∧ b < w.heap.size ∧ ∀ k (hk : k < l.length) r z, (opC l[k])[r]? = some z → w.cell? ⟨b, o + k * 9 + r, none⟩ = some z) := by
  obtain ⟨a, c, rfl, hc, hr⟩ := RdAt.shape h.row
  refine ⟨a, c, rfl, hc, fun hn => ?_⟩
  obtain ⟨b, o, rfl, hb, hcell⟩ := hr hn
  exact ⟨b, o, rfl, hb, fun k hk r z hz => by rw [Nat.add_assoc]; exact hcell _ _ (opCells_at l k hk r z hz)⟩
theorem ids_at {S : List Sil} {j : Nat} (hj : j < S.length) : (S.map (·.id))[j]? = some (S[j]).id := by
  rw [List.getElem?_map, List.getElem?_eq_getElem hj]; rfl
theorem get_at {S : List Sil} (hu : UpS S) {j : Nat} (hj : j < S.length) : (S.find? fun s => s.id == S[j].id) = some S[j] := find_self hu (List.getElem_mem hj)
theorem getS_at {S : List Sil} (hu : UpS S) {j : Nat} (hj : j < S.length) : getS S S[j].id = S[j] := by unfold getS; rw [get_at hu hj]; rfl
theorem ids_cells {w : World} {v : Value} {S : List Sil} (h : IntsAt w v (S.map (·.id))) : ∃ a c, v = .slice a S.length c ∧ S.length ≤ c ∧ (0 < S.length → ∃ b o, a = some ⟨b, o, none⟩ ∧ b < w.heap.size ∧ ∀ j (hj : j < S.length), w.cell? ⟨b, o + j, none⟩ = some (.int .i64 S[j].id)) := by
  obtain ⟨a, c, e, hc, hr⟩ := RdAt.shape h
  rw [List.length_map] at e hc hr
  refine ⟨a, c, e, hc, fun h0 => ?_⟩
  obtain ⟨b, o, e1, hb, hcell⟩ := hr h0
  exact ⟨b, o, e1, hb, fun j hj => hcell j _ (by rw [List.getElem?_map, ids_at hj]; rfl)⟩
end Go.Proofs.YtcfococinllcmaaGreat

/- the law's alert: good: where its fields lie. -/
namespace Go.Proofs.YtcfococinllcmaaGreat
open Go.RowKit
set_option maxHeartbeats 3200000 in
set_option maxRecDepth 100000 in
theorem good_own (src : ByteArray) (fl : List Fld) (fv : Value) (lv : Int) (c : Nat) (fr til : Int) (w : World) (hs : src.size ≤ maxLen) (hv : FldsAt w fv fl) (hfit : FldsFit fl) (hl : fl.length ≤ maxLen) :
    Calls Tryz.prog 22 #[.agg #[.string src, fv, .int .i64 lv, .int .u32 c, .int .i64 fr, .int .i64 til]] w fun e w' =>
      ∃ v', e = .returned (.tuple #[.agg #[.string (gSrc src), v', .int .i64 (gLv lv), .int .u32 c, .int .i64 (gFr fr), .int .i64 (gTil fr til)], .agg #[.string (gSrc src), v', .int .i64 (gLv lv), .int .u32 c, .int .i64 (gFr fr), .int .i64 (gTil fr til)]]) ∧ FldsAt w' v' (goodF fl) ∧ FldsFit (goodF fl) ∧ rightF (goodF fl) = true ∧ (0 < (goodF fl).length → ∀ q, v'.ownBlock = some q → w.heap.size ≤ q) ∧ Below w.heap.size w w' := by
  have k9 := fun W (hW : Below w.heap.size w W) => rgood9_any src fl fv lv c fr til W hs (hv.later hW) hfit hl
  obtain ⟨fa, fc, rfl, _, _⟩ := RdAt.shape hv
  obtain ⟨W1, h1⟩ : ∃ z, w.alloc (.cells #[.string src, .slice fa fl.length fc, .int .i64 lv, .int .u32 c, .int .i64 fr, .int .i64 til] 50) = z := ⟨_, rfl⟩
  obtain ⟨W2, h2⟩ : ∃ z, W1.alloc (.cells #[.string ⟨#[]⟩, .slice none 0 0, .int .i64 0, .int .u32 0, .int .i64 0, .int .i64 0] 53) = z := ⟨_, rfl⟩
  obtain ⟨W3, h3⟩ : ∃ z, W2.alloc (.cells #[.string ⟨#[]⟩, .slice none 0 0, .int .i64 0, .int .u32 0, .int .i64 0, .int .i64 0] 50) = z := ⟨_, rfl⟩
  have s1 : W1.heap.size = w.heap.size + 1 := by rw [← h1, World.size_alloc]
  have s2 : W2.heap.size = w.heap.size + 1 + 1 := by rw [← h2, World.size_alloc, s1]
  have s3 : W3.heap.size = w.heap.size + 1 + 1 + 1 := by rw [← h3, World.size_alloc, s2]
  have b1 : Below w.heap.size w W1 := by rw [← h1]; exact alloc_below _ _
  have b2 : Below W1.heap.size W1 W2 := by rw [← h2]; exact alloc_below _ _
  have b3 : Below W2.heap.size W2 W3 := by rw [← h3]; exact alloc_below _ _
  have x1 := alc6 w (.string src) (.slice fa fl.length fc) (.int .i64 lv) (.int .u32 c) (.int .i64 fr) (.int .i64 til) 50
  have x2 := alc6 W1 (.string ⟨#[]⟩) (.slice none 0 0) (.int .i64 0) (.int .u32 0) (.int .i64 0) (.int .i64 0) 53
  have x3 := alc6 W2 (.string ⟨#[]⟩) (.slice none 0 0) (.int .i64 0) (.int .u32 0) (.int .i64 0) (.int .i64 0) 50
  have t2 := box_there (Below.refl _ (W1.alloc (.cells #[.string ⟨#[]⟩, .slice none 0 0, .int .i64 0, .int .u32 0, .int .i64 0, .int .i64 0] 53)))
  have t3 := box_there (Below.refl _ (W2.alloc (.cells #[.string ⟨#[]⟩, .slice none 0 0, .int .i64 0, .int .u32 0, .int .i64 0, .int .i64 0] 50)))
  rw [h1] at x1
  rw [h2] at x2 t2
  rw [h3] at x3 t3
  change W2.there W1.heap.size 0 6 at t2
  change W3.there W2.heap.size 0 6 at t3
  rw [s1] at x2 t2
  rw [s2] at x3 t3
  have x1 := (x1.later b2 (by omega)).later b3 (by omega)
  have x2 := x2.later b3 (by omega)
  have t2 := there_later t2 b3 (by omega)
  have hB3 : Below w.heap.size w W3 := (b1.trans (b2.mono (by omega))).trans (b3.mono (by omega))
  have k9 := k9 W3 hB3
  have HB3 := Lib.hid hB3
  have HX2 := Lib.hid x2
  have HX3 := Lib.hid x3
  have HT2 := Lib.hid t2
  have HT3 := Lib.hid t3
  generalize goodF fl = G at *
  generalize gSrc src = s' at *
  generalize gLv lv = l' at *
  generalize gFr fr = f' at *
  generalize gTil fr til = t' at *
  obtain ⟨y0, y1, y2, y3, y4, y5⟩ := x1
  clear x2 x3 t2 t3 b1 b2 b3 hB3 hv hfit hl hs
  go_enter Tryz.func22, Tryz.ntmps22
  go_upto_region 1 with fail
  try rw [h1]
  try rw [h2]
  try rw [h3]
  try rw [s1]
  try rw [s2]
  clear h1 h2 h3
  go_wp2_with fail
  refine k9.mono ?_
  rintro e w4 ⟨v', rfl, hF, hff, hrf, hfar, hb4⟩
  rw [s3] at hfar
  obtain ⟨va, vc, rfl, _, _⟩ := RdAt.shape hF
  have HF := Lib.hid hF
  have HFAR := Lib.hid hfar
  have HFF := Lib.hid hff
  have HRF := Lib.hid hrf
  have HB4 := Lib.hid (HB3.out.trans (hb4.mono HB3.out.size))
  have HX4 := Lib.hid (HX2.out.later hb4 (by omega))
  have HX5 := Lib.hid (HX3.out.later hb4 (by omega))
  have HT4 := Lib.hid (there_later HT2.out hb4 (by omega))
  have HT5 := Lib.hid (there_later HT3.out hb4 (by omega))
  have hs4 : w.heap.size + 1 + 1 + 1 ≤ w4.heap.size := by have := hb4.size; omega
  clear k9 hF hff hrf hfar hb4 HB3 HX2 HX3 HT2 HT3 y0 y1 y2 y3 y4 y5
  have hba := alloc_below w4 (.cells #[.string s', .slice va G.length vc, .int .i64 l', .int .u32 c, .int .i64 f', .int .i64 t'] 50)
  have x6 := alc6 w4 (.string s') (.slice va G.length vc) (.int .i64 l') (.int .u32 c) (.int .i64 f') (.int .i64 t') 50
  obtain ⟨W5, h5⟩ : ∃ z, w4.alloc (.cells #[.string s', .slice va G.length vc, .int .i64 l', .int .u32 c, .int .i64 f', .int .i64 t'] 50) = z := ⟨_, rfl⟩
  rw [h5] at hba x6
  have HX6 := Lib.hid x6
  have HF5 := Lib.hid (HF.out.later hba)
  have HB5 := Lib.hid (HB4.out.trans (hba.mono HB4.out.size))
  have x4 := HX4.out.later hba (by omega)
  have x5 := HX5.out.later hba (by omega)
  have t4 := there_later HT4.out hba (by omega)
  have t5 := there_later HT5.out hba (by omega)
  have HX4 := Lib.hid x4
  have HX5 := Lib.hid x5
  have HT4 := Lib.hid t4
  have HT5 := Lib.hid t5
  clear hba x6 x4 x5 t4 t5 HF HB4
  go_upto_region 2 with fail
  try rw [h5]
  clear h5
  obtain ⟨z0, z1, z2, z3, z4, z5⟩ := HX6.out
  obtain ⟨p0, p1, p2, p3, p4, p5⟩ := HX4.out
  obtain ⟨q0, q1, q2, q3, q4, q5⟩ := HX5.out
  have f0 := there_free HT4.out 0 (by omega)
  have f1 := there_free HT4.out 1 (by omega)
  have f2 := there_free HT4.out 2 (by omega)
  have f3 := there_free HT4.out 3 (by omega)
  have f4 := there_free HT4.out 4 (by omega)
  have f5 := there_free HT4.out 5 (by omega)
  have e0 := there_free HT5.out 0 (by omega)
  have e1 := there_free HT5.out 1 (by omega)
  have e2 := there_free HT5.out 2 (by omega)
  have e3 := there_free HT5.out 3 (by omega)
  have e4 := there_free HT5.out 4 (by omega)
  have e5 := there_free HT5.out 5 (by omega)
  go_region
  clear z0 z1 z2 z3 z4 z5 p0 p1 p2 p3 p4 p5 q0 q1 q2 q3 q4 q5 f0 f1 f2 f3 f4 f5 e0 e1 e2 e3 e4 e5
  have hx : (W5.setCells (w.heap.size + 1) 0 [.string s', .slice va G.length vc, .int .i64 l', .int .u32 c, .int .i64 f', .int .i64 t']).rangeAt (w.heap.size + 1) 0 [.string s', .slice va G.length vc, .int .i64 l', .int .u32 c, .int .i64 f', .int .i64 t'] := World.rangeAt_setCells_same _ _ 0 _ HT4.out
  have hT := World.there_setCells HT5.out (w.heap.size + 1) 0 [.string s', .slice va G.length vc, .int .i64 l', .int .u32 c, .int .i64 f', .int .i64 t']
  have hy := World.rangeAt_setCells_same (W5.setCells (w.heap.size + 1) 0 [.string s', .slice va G.length vc, .int .i64 l', .int .u32 c, .int .i64 f', .int .i64 t']) (w.heap.size + 1 + 1) 0 [.string s', .slice va G.length vc, .int .i64 l', .int .u32 c, .int .i64 f', .int .i64 t'] hT
  have hx2 : ((W5.setCells (w.heap.size + 1) 0 [.string s', .slice va G.length vc, .int .i64 l', .int .u32 c, .int .i64 f', .int .i64 t']).setCells (w.heap.size + 1 + 1) 0 [.string s', .slice va G.length vc, .int .i64 l', .int .u32 c, .int .i64 f', .int .i64 t']).rangeAt (w.heap.size + 1) 0 [.string s', .slice va G.length vc, .int .i64 l', .int .u32 c, .int .i64 f', .int .i64 t'] := fun j v hv => by
    rw [World.cell?_setCells_out _ _ _ _ _ (fun h _ => by simp at h)]
    exact hx j v hv
  have hba := below_puts (g := w.heap.size + 1) (o := 0) HB5.out (by omega) [.string s', .slice va G.length vc, .int .i64 l', .int .u32 c, .int .i64 f', .int .i64 t']
  have hbb := below_puts (g := w.heap.size + 1 + 1) (o := 0) hba (by omega) [.string s', .slice va G.length vc, .int .i64 l', .int .u32 c, .int .i64 f', .int .i64 t']
  have hsz : W5.heap.size ≤ ((W5.setCells (w.heap.size + 1) 0 [.string s', .slice va G.length vc, .int .i64 l', .int .u32 c, .int .i64 f', .int .i64 t']).setCells (w.heap.size + 1 + 1) 0 [.string s', .slice va G.length vc, .int .i64 l', .int .u32 c, .int .i64 f', .int .i64 t']).heap.size := ((Below.refl 0 W5).trans (below_puts_base (below_puts_base (Below.refl 0 W5) (Nat.zero_le _) [.string s', .slice va G.length vc, .int .i64 l', .int .u32 c, .int .i64 f', .int .i64 t']) (Nat.zero_le _) [.string s', .slice va G.length vc, .int .i64 l', .int .u32 c, .int .i64 f', .int .i64 t'])).size
  have HX := Lib.hid hx2
  have HY := Lib.hid hy
  have hF8 := rd_puts' (g := w.heap.size + 1) (o := 0) HF5.out (fun h0 q hq => by have := HFAR.out h0 q hq; omega) [.string s', .slice va G.length vc, .int .i64 l', .int .u32 c, .int .i64 f', .int .i64 t']
  have hF9 := rd_puts' (g := w.heap.size + 1 + 1) (o := 0) hF8 (fun h0 q hq => by have := HFAR.out h0 q hq; omega) [.string s', .slice va G.length vc, .int .i64 l', .int .u32 c, .int .i64 f', .int .i64 t']
  have HF9 : Hid (FldsAt _ _ G) := Lib.hid hF9
  have HBB := Lib.hid hbb
  clear hx hT hy hx2 hba hbb hF8 hF9
  change Exit.then _ _ _ _ (World.drew ((W5.setCells (w.heap.size + 1) 0 [.string s', .slice va G.length vc, .int .i64 l', .int .u32 c, .int .i64 f', .int .i64 t']).setCells (w.heap.size + 1 + 1) 0 [.string s', .slice va G.length vc, .int .i64 l', .int .u32 c, .int .i64 f', .int .i64 t']))
  generalize (W5.setCells (w.heap.size + 1) 0 [.string s', .slice va G.length vc, .int .i64 l', .int .u32 c, .int .i64 f', .int .i64 t']).setCells (w.heap.size + 1 + 1) 0 [.string s', .slice va G.length vc, .int .i64 l', .int .u32 c, .int .i64 f', .int .i64 t'] = WX at *
  have HX2 : Hid (WX.drew.rangeAt (w.heap.size + 1) 0 [.string s', .slice va G.length vc, .int .i64 l', .int .u32 c, .int .i64 f', .int .i64 t']) := HX
  have HY2 : Hid (WX.drew.rangeAt (w.heap.size + 1 + 1) 0 [.string s', .slice va G.length vc, .int .i64 l', .int .u32 c, .int .i64 f', .int .i64 t']) := HY
  have HBD := Lib.hid HBB.out.drew
  have HFD : Hid (FldsAt WX.drew (.slice va G.length vc) G) := HF9
  clear HX HY HBB HF9
  generalize WX.drew = WD at *
  go_wp2
  refine bodyPost_ret (results_agg22 rfl _ _ (w.heap.size + 1) (w.heap.size + 1 + 1) [.string s', .slice va G.length vc, .int .i64 l', .int .u32 c, .int .i64 f', .int .i64 t'] [.string s', .slice va G.length vc, .int .i64 l', .int .u32 c, .int .i64 f', .int .i64 t'] (.struct _) (.struct _) rfl HX2.out Tryz.underlying53 rfl (by kernel_rfl) rfl HY2.out Tryz.underlying50 rfl (by kernel_rfl)) rfl ?_
  exact ⟨_, rfl, HFD.out, HFF.out, HRF.out, fun h0 q hq => by have := HFAR.out h0 q hq; omega, HBD.out⟩
end Go.Proofs.YtcfococinllcmaaGreat

/- silences: two lists in memory. -/
namespace Go.Proofs.YtcfococinllcmaaGreat
open Go.RowKit
theorem c9_kp {w w' : World} {lp m p : Nat} {a b c d e f g h i : Value} (x : C9 p a b c d e f g h i w) (hk : Kp lp m w w') (h1 : p ≠ lp) (h2 : p ≠ m) : C9 p a b c d e f g h i w' := by
  obtain ⟨x0, x1, x2, x3, x4, x5, x6, x7, x8⟩ := x
  exact ⟨hk.cell x0 h1 h2, hk.cell x1 h1 h2, hk.cell x2 h1 h2, hk.cell x3 h1 h2, hk.cell x4 h1 h2, hk.cell x5 h1 h2, hk.cell x6 h1 h2, hk.cell x7 h1 h2, hk.cell x8 h1 h2⟩
structure LoSt (w wr : World) (bx : Nat) (y0 y1 y2 y3 y4 y5 : Value) (t : Int × Nat) (fv : Value) (G : List Fld) (lp1 m1 lp2 m2 n1 n2 : Nat) (S T : List Sil) (l1 l2 : Int) : Prop where
  a : SlAt wr lp1 m1 n1 S l1
  b : SlAt wr lp2 m2 n2 T l2
  sa : ∀ s ∈ S, ∀ q, (SV s.mv).ownBlock = some q → q ≠ lp2 ∧ q ≠ m2
  sb : ∀ s ∈ T, ∀ q, (SV s.mv).ownBlock = some q → q ≠ lp1 ∧ q ≠ m1
  y : C6 bx y0 y1 y2 y3 y4 y5 wr
  t0 : wr.cell? ⟨w.heap.size + 1, 0, none⟩ = some (.int .i64 t.1)
  t1 : wr.cell? ⟨w.heap.size + 1, 1, none⟩ = some (.int .u32 t.2)
  f : FldsAt wr fv G
  ff : 0 < G.length → ∀ q, fv.ownBlock = some q → q ≠ lp1 ∧ q ≠ m1 ∧ q ≠ lp2 ∧ q ≠ m2
  ne : lp1 ≠ lp2 ∧ lp1 ≠ m2 ∧ m1 ≠ lp2 ∧ m1 ≠ m2
  lo : w.heap.size + 1 < lp1 ∧ w.heap.size + 1 < m1 ∧ w.heap.size + 1 < lp2 ∧ w.heap.size + 1 < m2
  hi : lp1 < bx ∧ m1 < bx ∧ lp2 < bx ∧ m2 < bx
  bl : Below w.heap.size w wr
section
variable {w wr W : World} {bx : Nat} {y0 y1 y2 y3 y4 y5 : Value} {t : Int × Nat} {fv : Value} {G : List Fld} {lp1 m1 lp2 m2 n1 n2 : Nat} {S T : List Sil} {l1 l2 : Int}
theorem LoSt.lt (h : LoSt w wr bx y0 y1 y2 y3 y4 y5 t fv G lp1 m1 lp2 m2 n1 n2 S T l1 l2) : bx < wr.heap.size := cell_lt h.y.1
theorem LoSt.below (h : LoSt w wr bx y0 y1 y2 y3 y4 y5 t fv G lp1 m1 lp2 m2 n1 n2 S T l1 l2) (hb : Below wr.heap.size wr W) : LoSt w W bx y0 y1 y2 y3 y4 y5 t fv G lp1 m1 lp2 m2 n1 n2 S T l1 l2 :=
  ⟨h.a.later hb, h.b.later hb, h.sa, h.sb, h.y.later hb h.lt, keep_cell h.t0 hb (cell_lt h.t0), keep_cell h.t1 hb (cell_lt h.t1), h.f.later hb, h.ff, h.ne, h.lo, h.hi, h.bl.trans (hb.mono h.bl.size)⟩
end
end Go.Proofs.YtcfococinllcmaaGreat

/- policies of an argument. -/
namespace Go.Proofs.YtcfococinllcmaaGreat
open Go.RowKit Go.WideShapes Go.ChangeShapes Go.Deep
theorem nmd_take {w : World} {a : Option Addr} {n c : Nat} {rs : List Nmd} (h : NmdsAt w (.slice a n c) rs) : NmdsAt w (.slice a (min n 14) c) (rs.take 14) := by
  obtain ⟨hl, hr⟩ := h
  have hn : n = rs.length := by
    rcases hr with ⟨h1, h0⟩ | ⟨ad, c', h1, _⟩
    · simp only [Value.slice.injEq] at h1; omega
    · simp only [Value.slice.injEq] at h1; exact h1.2.1
  have hlt : (rs.take 14).length = min n 14 := by rw [List.length_take, hn]; omega
  have hcells : nmdCells (rs.take 14) = (nmdCells rs).take (min n 14 * 3) := by
    have hg : ∀ (l : List Nmd) (k : Nat), nmdCells (l.take k) = (nmdCells l).take (k * 3) := by
      intro l
      induction l with
      | nil => intro k; simp [nmdCells]
      | cons x l ih =>
        intro k
        cases k with
        | zero => simp [nmdCells]
        | succ k =>
          have h3 : ∀ k : Nat, (nmdC x).length ≤ (k + 1) * 3 := fun k => by rw [show (nmdC x).length = 3 from rfl]; omega
          simp only [List.take_succ_cons, nmdCells, ih k]
          rw [List.take_append, show (nmdC x).length = 3 from rfl, List.take_of_length_le (h3 k), show (k + 1) * 3 - 3 = k * 3 by omega]
    rw [hg]
    rcases Nat.le_total n 14 with h | h
    · rw [Nat.min_eq_left h, List.take_of_length_le (by rw [hl, ← hn]; omega), List.take_of_length_le (by rw [hl, ← hn]; omega)]
    · rw [Nat.min_eq_right h]
  unfold NmdsAt
  rw [hlt, hcells]
  refine ⟨by rw [List.length_take, hl, ← hn]; omega, ?_⟩
  rcases hr with ⟨h1, h0⟩ | ⟨ad, c', h1, hc, hr⟩
  · simp only [Value.slice.injEq] at h1
    obtain ⟨rfl, h2, rfl⟩ := h1
    exact .inl ⟨by rw [show min n 14 = 0 by omega], by omega⟩
  · simp only [Value.slice.injEq] at h1
    obtain ⟨rfl, _, rfl⟩ := h1
    refine .inr ⟨ad, c, rfl, by omega, fun h0 => ?_⟩
    obtain ⟨b, o, rfl, hlt, hcell⟩ := hr (by omega)
    refine ⟨b, o, rfl, hlt, fun j x hj => hcell j x ?_⟩
    have hjl := (List.getElem?_eq_some_iff.1 hj).1
    rw [List.length_take] at hjl
    rwa [List.getElem?_take_of_lt (by omega)] at hj
/-! ### policies -/
structure Pol where
  a0 : Option Addr
  n0 : Nat
  c0 : Nat
  a1 : Option Addr
  n1 : Nat
  c1 : Nat
  a2 : Option Addr
  n2 : Nat
  c2 : Nat
  a3 : Option Addr
  n3 : Nat
  c3 : Nat
  a4 : Option Addr
  n4 : Nat
  c4 : Nat
  a5 : Option Addr
  n5 : Nat
  c5 : Nat
structure PolFit (p : Pol) : Prop where
  h0 : p.n0 ≤ p.c0 ∧ p.c0 ≤ maxLen
  h1 : p.n1 ≤ p.c1 ∧ p.c1 ≤ maxLen
  h2 : p.n2 ≤ p.c2 ∧ p.c2 ≤ maxLen
  h3 : p.n3 ≤ p.c3 ∧ p.c3 ≤ maxLen
  h4 : p.n4 ≤ p.c4 ∧ p.c4 ≤ maxLen
  h5 : p.n5 ≤ p.c5 ∧ p.c5 ≤ maxLen
def ArgPol (w : World) (v : Value) (p : Pol) (rs : List Nmd) : Prop := v = .agg #[.slice p.a0 p.n0 p.c0, .slice p.a1 p.n1 p.c1, .slice p.a2 p.n2 p.c2, .slice p.a3 p.n3 p.c3, .slice p.a4 p.n4 p.c4, .slice p.a5 p.n5 p.c5] ∧ PolFit p ∧ NmdsAt w (.slice p.a3 p.n3 p.c3) rs ∧ NmdFit rs
section
variable {H : Type} {enc : TypeId × Value → H} {P : Program} {w : World} {base : Nat} {spare : Nat → Bool} {held : Bool}
theorem slice_of_trod {t e : TypeId} {fuel : Nat} {cs : List Value} {x : DataW H × List MemPlace} (ht : P.underlying t = some (.slice e)) (h : DataW.trod enc P w base spare held fuel t cs = some x) :
    ∃ a n c, cs = [.slice a n c] ∧ n ≤ c ∧ c ≤ maxLen := by
  rcases open_slice ht h with ⟨h0, _⟩ | ⟨a, len, cap, m, n, D, Pl, hcs, hb, hl, hm, hmm, hx, hi⟩
  · exact ⟨none, 0, 0, h0, Nat.le_refl _, Nat.zero_le _⟩
  · exact ⟨some a, len, cap, hcs, hl, hm⟩
end
set_option maxRecDepth 100000 in
theorem nmds_of_trod {H : Type} {enc : TypeId × Value → H} {W : World} {n : Nat} {v : Value} {x : DataW H × List MemPlace} (h : DataW.trod enc Tryz.prog W 0 (fun _ => true) true n 72 [v] = some x) : ∃ a n c rs, v = .slice a n c ∧ n ≤ c ∧ c ≤ maxLen ∧ NmdsAt W v rs ∧ NmdFit rs := by
  have hC : Tryz.prog.cellsOf 217 = 3 := by kernel_rfl
  have hcs1 : Tryz.prog.cellsOf 9 = 1 := by kernel_rfl
  have hcl : Tryz.prog.cellsOf 26 = 2 := by kernel_rfl
  rcases open_slice_structs Tryz.underlying72 Tryz.underlying217 h with hcs | ⟨a, len, cap, hcs, hl, hm, hf⟩
  · cases hcs
    exact ⟨none, 0, 0, [], rfl, Nat.le_refl _, Nat.zero_le _, RdAt.nil W 3, fun _ h => by cases h⟩
  · cases hcs
    rw [hC] at hf
    have hone : ∀ i, i < len → ∃ s : Nmd, W.cell? (a.add (i * 3)) = some (.string s.1) ∧ W.cell? (a.add (i * 3 + 1)) = some (.int .i64 s.2.1) ∧ W.cell? (a.add (i * 3 + 2)) = some (.int .u32 s.2.2) ∧ s.2.2 < 4294967296 := by
      intro i hi
      obtain ⟨es, n, hlen, hat, hfs⟩ := hf i hi
      match es, hlen with
      | [e0, e1, e2], _ =>
        obtain ⟨y0, t0⟩ := hfs 0 _ rfl
        obtain ⟨y1, t1⟩ := hfs 1 _ rfl
        obtain ⟨s0, q0, _, z0⟩ := DataW.trod_string Tryz.underlying9 t0
        simp [hcs1] at q0
        subst q0
        have t1' : DataW.trod enc Tryz.prog W 0 (fun _ => true) true n 26 [e1, e2] = some y1 := by simpa [hcl] using t1
        obtain ⟨l, c, r1, r2, hc⟩ := lab_of_trod t1'
        subst r1 r2
        exact ⟨(s0, l, c), hat 0 (by omega), hat 1 (by omega), hat 2 (by omega), hc⟩
    have hg : ∃ g : Nat → Nmd, ∀ i, i < len → W.cell? (a.add (i * 3)) = some (.string (g i).1) ∧ W.cell? (a.add (i * 3 + 1)) = some (.int .i64 (g i).2.1) ∧ W.cell? (a.add (i * 3 + 2)) = some (.int .u32 (g i).2.2) ∧ (g i).2.2 < 4294967296 :=
      ⟨fun i => if h : i < len then Classical.choose (hone i h) else default, fun i h => by have := Classical.choose_spec (hone i h); simpa only [dif_pos h] using this⟩
    obtain ⟨g, hg⟩ := hg
    have hgl : ((List.range len).map g).length = len := by simp
    refine ⟨some a, len, cap, (List.range len).map g, rfl, hl, hm, ⟨nmdCells_len _, .inr ⟨a, cap, by rw [hgl], by omega, fun hn => ?_⟩⟩, fun s hs => ?_⟩
    · rw [hgl] at hn
      obtain ⟨b, off, spot⟩ := a
      have h0 := (hg 0 hn).1
      have hspot : spot = none := by simpa [Addr.add] using World.cell?_spot h0
      subst hspot
      refine ⟨b, off, rfl, by have := cell_ltA h0; simpa [Addr.add] using this, fun j x hj => ?_⟩
      have hjl := (List.getElem?_eq_some_iff.1 hj).1
      rw [nmdCells_len, hgl] at hjl
      obtain ⟨m, r, hr2, rfl⟩ : ∃ m r, r < 3 ∧ j = m * 3 + r := ⟨j / 3, j % 3, Nat.mod_lt _ (by decide), by omega⟩
      have q := nmdCells_at ((List.range len).map g) m (by rw [hgl]; omega)
      obtain ⟨h1, h2, h3, _⟩ := hg m (by omega)
      simp only [List.getElem_map, List.getElem_range] at q
      rw [add_off] at h1 h2 h3
      match r, hr2 with
      | 0, _ => have q0 := q 0 _ rfl; rw [q0] at hj; rw [← Option.some.inj hj]; exact h1
      | 1, _ => have q0 := q 1 _ rfl; rw [q0] at hj; rw [← Option.some.inj hj]; exact h2
      | 2, _ => have q0 := q 2 _ rfl; rw [q0] at hj; rw [← Option.some.inj hj]; exact h3
    · obtain ⟨i, hi, rfl⟩ := List.mem_map.1 hs
      exact (hg i (List.mem_range.1 hi)).2.2.2
theorem pol_of_trod {H : Type} {enc : TypeId × Value → H} {W : World} {n : Nat} {e0 e1 e2 e3 e4 e5 : Value} {x : DataW H × List MemPlace} (h : DataW.trod enc Tryz.prog W 0 (fun _ => true) true n 76 [e0, e1, e2, e3, e4, e5] = some x) : ∃ x y, ArgPol W (.agg #[e0, e1, e2, e3, e4, e5]) x y := by
  have hcn : Tryz.prog.cellsOf 72 = 1 := by kernel_rfl
  have hcr : Tryz.prog.cellsOf 73 = 1 := by kernel_rfl
  have hci : Tryz.prog.cellsOf 74 = 1 := by kernel_rfl
  obtain ⟨ys, n', hn', hy, hlen, hyl, hf⟩ := DataW.trod_struct Tryz.underlying76 h
  have t0 := hf 0 _ rfl
  have t1 := hf 1 _ rfl
  have t2 := hf 2 _ rfl
  have t3 := hf 3 _ rfl
  have t4 := hf 4 _ rfl
  have t5 := hf 5 _ rfl
  match ys, hyl with
  | [y0, y1, y2, y3, y4, y5], _ =>
    obtain ⟨a0, n0, k0, q0, r0⟩ := slice_of_trod Tryz.underlying72 t0
    obtain ⟨a1, n1, k1, q1, r1⟩ := slice_of_trod Tryz.underlying72 t1
    obtain ⟨a2, n2, k2, q2, r2⟩ := slice_of_trod Tryz.underlying72 t2
    obtain ⟨a4, n4, k4, q4, r4⟩ := slice_of_trod Tryz.underlying73 t4
    obtain ⟨a5, n5, k5, q5, r5⟩ := slice_of_trod Tryz.underlying74 t5
    simp [hcn] at q0 q1 q2
    simp [hcr] at q4
    simp [hci] at q5
    have t3' : DataW.trod enc Tryz.prog W 0 (fun _ => true) true n' 72 [e3] = some y3 := by simpa [hcn] using t3
    obtain ⟨a3, n3, k3, rs, rfl, h1, h2, h3, h4⟩ := nmds_of_trod t3'
    subst q0 q1 q2 q4 q5
    exact ⟨⟨a0, n0, k0, a1, n1, k1, a2, n2, k2, a3, n3, k3, a4, n4, k4, a5, n5, k5⟩, rs, rfl, ⟨r0, r1, r2, ⟨h1, h2⟩, r4, r5⟩, h3, h4⟩
set_option maxRecDepth 100000 in
theorem pol_of_arg {H : Type} {enc : TypeId × Value → H} {W : World} {base : Nat} {v : Value} {d : DataW H} {p : List MemPlace} (hval : Value.okWide Tryz.prog W .any base 76 v) (h : DataW.Trod enc Tryz.prog W 0 (fun _ => true) true 76 v d p) : ∃ x y, ArgPol W v x y := by
  obtain ⟨cs, rfl, hsz, _⟩ : ∃ cs, v = .agg cs ∧ cs.size = Tryz.prog.cellsOf 76 ∧ Row.okWide Tryz.prog W .any base 76 cs := by
    simpa [Value.okWide, Tryz.underlying76] using hval
  rw [show Tryz.prog.cellsOf 76 = 6 by kernel_rfl] at hsz
  obtain ⟨fuel, hf⟩ := h
  obtain ⟨l⟩ := cs
  match l, hsz with
  | [c0, c1, c2, c3, c4, c5], _ => exact pol_of_trod hf
end Go.Proofs.YtcfococinllcmaaGreat

/- lychgateref01.SameInts. -/
namespace Go.Proofs.YtcfococinllcmaaGreat
open Go.RowKit
set_option maxHeartbeats 1600000 in
set_option maxRecDepth 100000 in
theorem same_ints (xs ys : List Int) (w : World) (u v : Value) (hx : IntsAt w u xs) (hy : IntsAt w v ys) (hl : xs.length ≤ 1000) (hl2 : ys.length ≤ 1000) :
    Calls Tryz.prog 18 #[u, v] w fun e w' => e = .returned (.bool (decide (xs = ys))) ∧ Below w.heap.size w w' := by
  obtain ⟨a, c, rfl, hc, hr⟩ := RdAt.shape hx
  obtain ⟨a', c', rfl, hc', hr'⟩ := RdAt.shape hy
  have HR := Lib.hid hr
  have HR' := Lib.hid hr'
  clear hr hr' hx hy
  by_cases hlen : xs.length = ys.length
  · have hlen' : (xs.length : Int) = (ys.length : Int) := by omega
    have hb0 : ((xs.length : Int) != (ys.length : Int)) = false := by simp [hlen]
    have HLEN := Lib.hid hlen
    clear hlen hlen'
    go_enter Tryz.func18, Tryz.ntmps18
    go_wp2
    go_loopw [5] (fun i wr => ∃ k : Nat, k ≤ xs.length ∧ i = .int .i64 k ∧ Hid (xs.take k = ys.take k) ∧ Below w.heap.size w wr) (fun i _ => xs.length - (intOf i).toNat)
    case atStart => exact ⟨0, Nat.zero_le _, rfl, Lib.hid rfl, Below.refl _ _⟩
    case round =>
      obtain ⟨k, hk, rfl, HT, hbr⟩ := hrel
      by_cases hkl : k < xs.length
      · have hkl2 : k < ys.length := by have := HLEN.out; omega
        obtain ⟨x, hxe⟩ : ∃ x, xs[k] = x := ⟨_, rfl⟩
        obtain ⟨y, hye⟩ : ∃ y, ys[k] = y := ⟨_, rfl⟩
        obtain ⟨b0, o0, rfl, hb0', hcell⟩ := HR.out (by omega)
        obtain ⟨b1, o1, rfl, hb1', hcell'⟩ := HR'.out (by omega)
        have hcr : wr.cell? ⟨b0, o0 + k, none⟩ = some (.int .i64 x) := (hbr.cell (p := ⟨b0, o0 + k, none⟩) hb0').trans (hcell k _ (by rw [List.getElem?_map, List.getElem?_eq_getElem hkl, hxe]; rfl))
        have hcr' : wr.cell? ⟨b1, o1 + k, none⟩ = some (.int .i64 y) := (hbr.cell (p := ⟨b1, o1 + k, none⟩) hb1').trans (hcell' k _ (by rw [List.getElem?_map, List.getElem?_eq_getElem hkl2, hye]; rfl))
        clear hcell hcell'
        by_cases hxy : x = y
        · have HN : Hid (xs.take (k + 1) = ys.take (k + 1)) := take_step HT.out hkl hkl2 (by rw [hxe, hye, hxy])
          have hbx : (x != y) = false := by simp [hxy]
          clear hxy hxe hye
          go_wp2_with fail
          go_region
          all_goals go_wp2
          go_roundw
          case rel => exact ⟨k + 1, by omega, by go_num, HN, bl_drewN hbr 1⟩
          case measure => simp [intOf]; omega
        · have hbx : (x != y) = true := by simp [hxy]
          have HN : Hid (xs ≠ ys) := ne_at hkl hkl2 (by rw [hxe, hye]; exact hxy)
          clear hxy hxe hye
          go_wp2_with fail
          go_region
          all_goals go_wp2
          go_ret
          exact ⟨by rw [decide_eq_false HN.out]; rfl, bl_drewN hbr 1⟩
      · obtain rfl : k = xs.length := by omega
        have HN : Hid (xs = ys) := take_done HLEN.out HT.out
        clear HT
        go_wp2
        go_ret
        exact ⟨by rw [decide_eq_true HN.out]; rfl, hbr⟩
  · have hlen' : ¬ (xs.length : Int) = (ys.length : Int) := by omega
    go_enter Tryz.func18, Tryz.ntmps18
    go_wp2
    go_ret
    exact ⟨by rw [decide_eq_false (fun h => hlen (by rw [h]))]; rfl, Below.refl _ _⟩
end Go.Proofs.YtcfococinllcmaaGreat

/- SilencePlays: the law's state in memory. -/
namespace Go.Proofs.YtcfococinllcmaaGreat
open Go.RowKit
theorem rd_blkS {w : World} {v : Value} {n k : Nat} {xs : List Value} (h : RdAt w v n k xs) : 0 < n → ∀ q, v.ownBlock = some q → q < w.heap.size := by
  intro hn q hq
  rcases h.2 with ⟨rfl, _⟩ | ⟨a, c, rfl, _, hr⟩
  · cases hq
  · obtain ⟨b, o, rfl, hb, _⟩ := hr hn
    cases hq
    exact hb
theorem own_block {w w' : World} {base : Nat} {e : TypeId} {size : Nat} {v : Value} {n : Nat} {xs : List Value} (h : w.ownsRow base e size v n xs) (hk : ∀ g, v.ownBlock = some g → w'.heap[g]? = w.heap[g]?) : w'.ownsRow base e size v n xs := by
  refine ⟨h.1, ?_⟩
  rcases h.2 with h1 | ⟨g, cap, cur, hv, hb, hg, hr⟩
  · exact .inl h1
  · exact .inr ⟨g, cap, cur, hv, hb, (hk g (by rw [hv]; rfl)).trans hg, hr⟩
theorem RlAt.other {w W : World} {q base lp m : Nat} {R : List Sil} {N : Int} {v : Value} (h : RlAt w q base R N v) (hk : Kp lp m w W) (h1 : q ≠ lp) (h2 : q ≠ m) (h3 : ∀ g, v.ownBlock = some g → g ≠ lp ∧ g ≠ m) (h4 : base ≤ lp) (h5 : base ≤ m) : RlAt W q base R N v := by
  refine ⟨hk.cell h.h0 h1 h2, hk.cell h.h1 h1 h2, own_block h.own (fun g hg => hk.block g (h.own.lt g hg).2 (h3 g hg).1 (h3 g hg).2), there_same h.th (hk.block q h.lt h1 h2), h.ne, fun s hs => ?_, h.bq, h.few⟩
  obtain ⟨a1, a2, a3, a4⟩ := h.ms s hs
  exact ⟨mts_kp a1 a4 hk h4 h5, a2, a3, a4⟩
structure PlSt (w wr : World) (z0 lp m n q gb : Nat) (S : List Sil) (last : Int) (R : List Sil) (N : Int) (v : Value) (p0 p1 p2 p3 p4 p5 x0 x1 x2 x3 x4 x5 : Value) (G : List Fld) : Prop where
  p : C6 w.heap.size p0 p1 p2 p3 p4 p5 wr
  x : C6 gb x0 x1 x2 x3 x4 x5 wr
  g : C6 (gb + 1) x0 x1 x2 x3 x4 x5 wr
  s : SlAt wr lp m n S last
  r : RlAt wr q w.heap.size R N v
  f : FldsAt wr x1 G
  ff : 0 < G.length → ∀ b, x1.ownBlock = some b → q < b ∧ b < gb
  pos : ∀ s ∈ S, 0 < s.ms.length
  far : ∀ s ∈ S, ∀ b, (SV s.mv).ownBlock = some b → z0 ≤ b ∧ v.ownBlock ≠ some b
  vz : ∀ g, v.ownBlock = some g → z0 ≤ g
  bl : Below w.heap.size w wr
  sz : z0 ≤ wr.heap.size
  ord : w.heap.size + 1 < lp ∧ w.heap.size + 1 < m ∧ lp < q ∧ m < q ∧ q < gb ∧ gb + 2 ≤ z0
section
variable {w wr W : World} {z0 lp m n q gb : Nat} {S : List Sil} {last : Int} {R : List Sil} {N : Int} {v : Value} {p0 p1 p2 p3 p4 p5 x0 x1 x2 x3 x4 x5 : Value} {G : List Fld}
theorem PlSt.later (h : PlSt w wr z0 lp m n q gb S last R N v p0 p1 p2 p3 p4 p5 x0 x1 x2 x3 x4 x5 G) (hb : Below wr.heap.size wr W) : PlSt w W z0 lp m n q gb S last R N v p0 p1 p2 p3 p4 p5 x0 x1 x2 x3 x4 x5 G := by
  obtain ⟨o1, o2, o3, o4, o5, o6⟩ := h.ord
  have hz := h.sz
  exact ⟨h.p.later hb (by omega), h.x.later hb (by omega), h.g.later hb (by omega), h.s.later hb, h.r.later hb, h.f.later hb, h.ff, h.pos, h.far, h.vz, h.bl.trans (hb.mono h.bl.size), Nat.le_trans h.sz hb.size, h.ord⟩
theorem PlSt.own (h : PlSt w wr z0 lp m n q gb S last R N v p0 p1 p2 p3 p4 p5 x0 x1 x2 x3 x4 x5 G) {n' : Nat} {S' : List Sil} {last' : Int} (hs : SlAt W lp m n' S' last') (hk : Kp lp m wr W) (hn : NewMs wr S S') : PlSt w W z0 lp m n' q gb S' last' R N v p0 p1 p2 p3 p4 p5 x0 x1 x2 x3 x4 x5 G := by
  obtain ⟨o1, o2, o3, o4, o5, o6⟩ := h.ord
  have hz := h.sz
  refine ⟨c6_kp h.p hk (by omega) (by omega), c6_kp h.x hk (by omega) (by omega), c6_kp h.g hk (by omega) (by omega), hs, h.r.other hk (by omega) (by omega) (fun g hg => by have := h.vz g hg; omega) (by omega) (by omega), rd_kp h.f hk (fun h0 b hb => by have := h.ff h0 b hb; omega), h.ff, fun s hs => ?_, fun s hs b hb => ?_, h.vz, h.bl.trans (hk.below (by omega) (by omega) h.bl.size), Nat.le_trans h.sz hk.size, h.ord⟩
  · rcases hn s hs with ⟨t, ht, _, e2⟩ | ⟨h1, _⟩
    · rw [← e2]; exact h.pos t ht
    · exact h1
  · rcases hn s hs with ⟨t, ht, e1, _⟩ | ⟨_, h1⟩
    · exact h.far t ht b (by rw [e1]; exact hb)
    · have h2 := h1 b hb
      refine ⟨by omega, fun e => ?_⟩
      have := (h.r.own.lt b e).2
      omega
theorem PlSt.ref (h : PlSt w wr z0 lp m n q gb S last R N v p0 p1 p2 p3 p4 p5 x0 x1 x2 x3 x4 x5 G) {R' : List Sil} {N' : Int} {v' : Value} (hok : RlOk wr W q w.heap.size R' N' v v') : PlSt w W z0 lp m n q gb S last R' N' v' p0 p1 p2 p3 p4 p5 x0 x1 x2 x3 x4 x5 G := by
  obtain ⟨o1, o2, o3, o4, o5, o6⟩ := h.ord
  have hz := h.sz
  have hg : v.ownBlock.getD q = q ∨ z0 ≤ v.ownBlock.getD q := by
    cases e : v.ownBlock with
    | none => exact .inl rfl
    | some g => exact .inr (h.vz g e)
  have hk := hok.kp
  have hbg := h.r.blk
  have hms : ∀ s ∈ S, ∀ b, (SV s.mv).ownBlock = some b → b ≠ q ∧ b ≠ v.ownBlock.getD q := fun s hs b hb => by
    obtain ⟨f1, f2⟩ := h.far s hs b hb
    refine ⟨by omega, fun e => ?_⟩
    cases e2 : v.ownBlock with
    | none => rw [e2] at e; change b = q at e; omega
    | some g => rw [e2] at e; change b = g at e; exact f2 (by rw [e2, e])
  refine ⟨c6_kp h.p hk (by omega) (by omega), c6_kp h.x hk (by omega) (by omega), c6_kp h.g hk (by omega) (by omega), h.s.other hk (by omega) (by omega) (by omega) (by omega) hms, hok.at_, rd_kp h.f hk (fun h0 b hb => by have := h.ff h0 b hb; omega), h.ff, h.pos, fun s hs b hb => ?_, fun g hg => ?_, h.bl.trans (hk.below (by omega) (by omega) h.bl.size), Nat.le_trans h.sz hk.size, h.ord⟩
  · obtain ⟨f1, f2⟩ := h.far s hs b hb
    refine ⟨f1, fun e => ?_⟩
    rcases hok.fresh b e with h1 | h1
    · exact f2 h1
    · have := rd_blkS (h.s.ms s hs).1 (h.pos s hs) b hb
      omega
  · rcases hok.fresh g hg with h1 | h1
    · exact h.vz g h1
    · omega
end
theorem right_valS {l : List Fld} (h : rightF l = true) {j : Nat} (hj : j < l.length) : l[j].2.size ≤ 200 := by
  unfold rightF at h
  simp only [Bool.and_eq_true, List.all_eq_true] at h
  have h2 := h.2 j (List.mem_range.2 hj)
  unfold fldOk at h2
  simp only [Bool.and_eq_true, decide_eq_true_eq] at h2
  have h3 := h2.1.2
  rwa [List.getD_eq_getElem?_getD, List.getElem?_eq_getElem hj] at h3
theorem value_vis {G : List Fld} (h : rightF G = true) (rs : List Nmd) (f t : Int × Nat) (n : ByteArray) : (valueF (visL rs G f t) n).size ≤ 900 := by
  unfold valueF
  split
  · rename_i x hf
    have hm := List.mem_of_find?_eq_some hf
    have hm2 : x ∈ G := by unfold visL at hm; exact (List.mem_filter.1 hm).1
    obtain ⟨j, hj, rfl⟩ := List.getElem_of_mem hm2
    have := right_valS h hj
    omega
  · exact Nat.zero_le _
theorem get_ms (lp m n : Nat) (S : List Sil) (last : Int) (w : World) (h : SlAt w lp m n S last) (j : Nat) (hj : j < S.length) :
    Calls Tryz.prog 38 #[.pointer (some ⟨lp, 0, none⟩), .int .i64 S[j].id] w fun e w' =>
      ∃ mv : Option Addr × Nat × Nat, e = .returned (.tuple #[.agg #[.slice mv.1 mv.2.1 mv.2.2, .int .i64 S[j].fr, .int .i64 S[j].til, .int .i64 S[j].lv, .int .u32 S[j].c], .bool true]) ∧ MtsAt w' (.slice mv.1 mv.2.1 mv.2.2) S[j].ms ∧ Below w.heap.size w w' := by
  have k := get_any lp m n S last S[j].id w h (h.wf (List.getElem_mem hj))
  rw [getS_at h.up hj, get_at h.up hj] at k
  refine k.mono ?_
  rintro e w' ⟨mv, rfl, hm, hb⟩
  exact ⟨mv, rfl, hm, hb⟩
theorem ref_c {o : SOp} {R R' : List Sil} {N N' : Int} {r : Value} (h : DoesRef o R N r R' N') (hc : ∀ s ∈ R, s.c < 4294967296) (ho : o.s.c < 4294967296) : ∀ s ∈ R', s.c < 4294967296 := by
  cases h with
  | lay _ mv hl =>
    cases hl with
    | odd _ => exact hc
    | full _ _ => exact hc
    | ok _ _ =>
      intro s hs
      rcases List.mem_append.1 hs with h | h
      · exact hc s h
      · rw [List.mem_singleton] at h
        subst h
        exact ho
  | fin _ =>
    intro s hs
    obtain ⟨t, ht, _⟩ : ∃ t ∈ R, t.c = s.c := by
      unfold endL at hs
      split at hs
      · exact ⟨s, hs, rfl⟩
      · rename_i u hu
        split at hs
        · exact ⟨s, hs, rfl⟩
        · split at hs
          · exact ⟨s, (List.mem_filter.1 hs).1, rfl⟩
          · rcases mem_setS hs with rfl | h
            · exact ⟨u, List.mem_of_find?_eq_some hu, rfl⟩
            · exact ⟨s, h, rfl⟩
    rename_i e
    rw [← e]
    exact hc t ht
  | forget _ => exact fun s hs => hc s (List.mem_filter.1 hs).1
theorem ref_len {o : SOp} {R R' : List Sil} {N N' : Int} {r : Value} (h : DoesRef o R N r R' N') : R'.length ≤ R.length + 1 := by
  cases h with
  | lay _ mv hl =>
    cases hl with
    | odd _ => omega
    | full _ _ => omega
    | ok _ _ => rw [List.length_append]; simp
  | fin _ =>
    unfold endL
    split
    · omega
    · split
      · omega
      · split
        · exact Nat.le_trans (List.length_filter_le _ _) (Nat.le_succ _)
        · unfold setS; rw [List.length_map]; omega
  | forget _ => exact Nat.le_trans (List.length_filter_le _ _) (Nat.le_succ _)
end Go.Proofs.YtcfococinllcmaaGreat

/- SilencePlays: the walk. -/
namespace Go.Proofs.YtcfococinllcmaaGreat
open Go.RowKit
theorem rl_new {W : World} {q base : Nat} (h0 : W.cell? ⟨q, 0, none⟩ = some (.slice none 0 0)) (h1 : W.cell? ⟨q, 1, none⟩ = some (.int .i64 0)) (th : W.there q 0 2) (hb : base ≤ q) : RlAt W q base [] 0 (.slice none 0 0) :=
  ⟨h0, h1, World.ownsRow_nil _ _ _ _, th, fun g h => (by cases h), fun s h => (by cases h), hb, Nat.zero_le _⟩
namespace lawPlays
set_option maxHeartbeats 6400000 in
set_option maxRecDepth 100000 in
theorem walk (pv : Value) (p : Pol) (rs : List Nmd) (lv : Value) (l : List SOp) (av : Value) (x : Al) (fv : Value) (w : World) (hp : ArgPol w pv p rs) (hl : ArgOps w lv l) (hx : ArgAl w av x fv) :
    Calls Tryz.prog 6 #[pv, lv, av] w fun e w' => e = .returned (.bool true) ∧ Below w.heap.size w w' := by
  obtain ⟨hl1, hl2, hlc⟩ := hl
  obtain ⟨rfl, hfl, hfit⟩ := hx
  obtain ⟨rfl, hpf, hrs, hrf⟩ := hp
  obtain ⟨a0, n0, c0, a1, n1, c1, a2, n2, c2, a3, n3, c3, a4, n4, c4, a5, n5, c5⟩ := p
  obtain ⟨src, fl, alv, ac, afr, atil⟩ := x
  dsimp only at hfl hfit hrs ⊢
  obtain ⟨hf0, hf1, hf2, hf3⟩ := hfit
  obtain ⟨h0, h1, h2, h3, h4, h5⟩ := hpf
  dsimp only at hf0 hf1 hf2 hf3 h0 h1 h2 h3 h4 h5
  have KG := Lib.hid (fun W (hW : Below w.heap.size w W) => good_own src fl fv alv ac afr atil W hf0 (hfl.later hW) hf1 hf2)
  have KE := Lib.hid (fun W => early_any l lv w W hl1 hl2)
  have HLC : Hid (∀ o ∈ l.take 60, o.s.c < 4294967296) := Lib.hid (fun o ho => hlc o (List.mem_of_mem_take ho))
  have kc := fun W => rcut_any a0 a1 a2 a3 a4 a5 n0 n1 n2 n3 n4 n5 c0 c1 c2 c3 c4 c5 W h0 h1 h2 h3 h4 h5
  have hN := nmd_take hrs
  have hNL : (rs.take 14).length ≤ 14 := by rw [List.length_take]; omega
  have hNF : NmdFit (rs.take 14) := fun x hx => hrf x (List.mem_of_mem_take hx)
  obtain ⟨la, lc, rfl, -, -⟩ := RdAt.shape hl1.row
  obtain ⟨fa, fc, rfl, -, -⟩ := RdAt.shape hfl
  generalize rs.take 14 = qs at *
  generalize min n0 14 = m0 at *
  generalize min n1 14 = m1 at *
  generalize min n2 14 = m2 at *
  generalize min n3 14 = m3 at *
  generalize min n4 14 = m4 at *
  generalize min n5 14 = m5 at *
  have hm3 : m3 = qs.length := by
    obtain ⟨a, c', he, _⟩ := RdAt.shape hN
    simp only [Value.slice.injEq] at he
    exact he.2.1
  subst hm3
  have HN := Lib.hid hN
  have HNF := Lib.hid hNF
  have KC := Lib.hid kc
  clear hl1 hl2 hlc hfl hf0 hf1 hf2 hrs hrf h0 h1 h2 h3 h4 h5 hN hNF kc
  obtain ⟨W1, h1⟩ : ∃ z, w.alloc (.cells #[.slice a0 n0 c0, .slice a1 n1 c1, .slice a2 n2 c2, .slice a3 n3 c3, .slice a4 n4 c4, .slice a5 n5 c5] 76) = z := ⟨_, rfl⟩
  obtain ⟨W2, h2⟩ : ∃ z, W1.alloc (.cells #[.string src, .slice fa fl.length fc, .int .i64 alv, .int .u32 ac, .int .i64 afr, .int .i64 atil] 50) = z := ⟨_, rfl⟩
  have b1 : Below w.heap.size w W1 := by rw [← h1]; exact alloc_below _ _
  have b2 : Below W1.heap.size W1 W2 := by rw [← h2]; exact alloc_below _ _
  have s1 : W1.heap.size = w.heap.size + 1 := by rw [← h1, World.size_alloc]
  have s2 : W2.heap.size = w.heap.size + 1 + 1 := by rw [← h2, World.size_alloc, s1]
  have x := alc6 w (.slice a0 n0 c0) (.slice a1 n1 c1) (.slice a2 n2 c2) (.slice a3 n3 c3) (.slice a4 n4 c4) (.slice a5 n5 c5) 76
  have y := alc6 W1 (.string src) (.slice fa fl.length fc) (.int .i64 alv) (.int .u32 ac) (.int .i64 afr) (.int .i64 atil) 50
  have t := box_there (Below.refl _ (w.alloc (.cells #[.slice a0 n0 c0, .slice a1 n1 c1, .slice a2 n2 c2, .slice a3 n3 c3, .slice a4 n4 c4, .slice a5 n5 c5] 76)))
  change World.there _ _ 0 6 at t
  rw [h1] at x t
  rw [h2, s1] at y
  have HX := Lib.hid (x.later b2 (by omega))
  have HT := Lib.hid (there_later t b2 (by omega))
  have HY := Lib.hid y
  have HB := Lib.hid (b1.trans (b2.mono b1.size))
  clear x y t b1 b2
  have kl := lives_any W2
  go_enter Tryz.func6, Tryz.ntmps6
  go_upto_region 1 with fail
  try rw [h1]
  try rw [h2]
  try rw [s1]
  clear h1 h2
  go_wp2_with fail
  refine kl.mono ?_
  rintro e w1 ⟨rfl, hb⟩
  have HX1 := Lib.hid (HX.out.later hb (by omega))
  have HT1 := Lib.hid (there_later HT.out hb (by omega))
  have HY1 := Lib.hid (HY.out.later hb (by omega))
  have HB1 := Lib.hid (HB.out.trans (hb.mono HB.out.size))
  have hs1 : w.heap.size + 1 < w1.heap.size := by have := hb.size; omega
  clear kl hb HX HT HY HB s1 s2
  have kc := KC.out w1
  obtain ⟨x0, x1, x2, x3, x4, x5⟩ := HX1.out
  go_wp2_with fail
  refine kc.mono ?_
  rintro e w2 ⟨rfl, hb⟩
  have HT2 := Lib.hid (there_later HT1.out hb (by omega))
  have HY2 := Lib.hid (HY1.out.later hb (by omega))
  have HB2 := Lib.hid (HB1.out.trans (hb.mono HB1.out.size))
  have hP2 := HX1.out.later hb (by omega)
  have hs2 : w.heap.size + 1 < w2.heap.size := by have := hb.size; omega
  clear kc KC hb HX1 HT1 HY1 HB1 hs1 x0 x1 x2 x3 x4 x5
  obtain ⟨x0, x1, x2, x3, x4, x5⟩ := hP2
  have f0 := there_free HT2.out 0 (by decide)
  have f1 := there_free HT2.out 1 (by decide)
  have f2 := there_free HT2.out 2 (by decide)
  have f3 := there_free HT2.out 3 (by decide)
  have f4 := there_free HT2.out 4 (by decide)
  have f5 := there_free HT2.out 5 (by decide)
  go_upto_region 4 with fail
  change Code.wp _ _ _ _ (w2.setCells w.heap.size 0 [.slice a0 m0 c0, .slice a1 m1 c1, .slice a2 m2 c2, .slice a3 qs.length c3, .slice a4 m4 c4, .slice a5 m5 c5])
  have hP3 := c6_puts w2 w.heap.size (.slice a0 m0 c0) (.slice a1 m1 c1) (.slice a2 m2 c2) (.slice a3 qs.length c3) (.slice a4 m4 c4) (.slice a5 m5 c5) HT2.out
  have hA3 := c6_out HY2.out (g := w.heap.size) (by omega) 0 [.slice a0 m0 c0, .slice a1 m1 c1, .slice a2 m2 c2, .slice a3 qs.length c3, .slice a4 m4 c4, .slice a5 m5 c5]
  have hB3 := below_puts (g := w.heap.size) (o := 0) HB2.out (Nat.le_refl _) [.slice a0 m0 c0, .slice a1 m1 c1, .slice a2 m2 c2, .slice a3 qs.length c3, .slice a4 m4 c4, .slice a5 m5 c5]
  have hs3 := Nat.lt_of_lt_of_le hs2 (below_puts_base (g := w.heap.size) (o := 0) (Below.refl 0 w2) (Nat.zero_le _) [.slice a0 m0 c0, .slice a1 m1 c1, .slice a2 m2 c2, .slice a3 qs.length c3, .slice a4 m4 c4, .slice a5 m5 c5]).size
  generalize w2.setCells w.heap.size 0 [.slice a0 m0 c0, .slice a1 m1 c1, .slice a2 m2 c2, .slice a3 qs.length c3, .slice a4 m4 c4, .slice a5 m5 c5] = w3 at *
  clear f0 f1 f2 f3 f4 f5 x0 x1 x2 x3 x4 x5 HB2 HY2 HT2 hs2
  have HP3 := Lib.hid hP3
  have HA3 := Lib.hid hA3
  have HB3 := Lib.hid hB3
  clear hP3 hA3 hB3
  have kn := new_any w3
  go_wp2_with fail
  refine kn.mono ?_
  rintro e w4 ⟨lp, m, rfl, hS, hlp, hm, hb⟩
  have HS4 := Lib.hid hS
  have HP4 := Lib.hid (HP3.out.later hb (by omega))
  have HA4 := Lib.hid (HA3.out.later hb (by omega))
  have HB4 := Lib.hid (HB3.out.trans (hb.mono HB3.out.size))
  have hlp4 : lp < w4.heap.size := cell_lt hS.h0
  have hm4 : m < w4.heap.size := hS.own.lt
  have hs4 : w.heap.size + 1 < w4.heap.size := by have := hb.size; omega
  have hlp0 : w.heap.size + 1 < lp := by omega
  have hm0 : w.heap.size + 1 < m := by omega
  clear kn hS hb HP3 HA3 HB3 hs3 hlp hm
  obtain ⟨V, hV⟩ : ∃ z, w4.alloc (.cells #[.slice none 0 0, .int .i64 0] 86) = z := ⟨_, rfl⟩
  have b1 : Below w4.heap.size w4 V := by rw [← hV]; exact alloc_below _ _
  have s1 : V.heap.size = w4.heap.size + 1 := by rw [← hV, World.size_alloc]
  have hrf := Below.refl (w4.alloc (.cells #[.slice none 0 0, .int .i64 0] 86)).heap.size (w4.alloc (.cells #[.slice none 0 0, .int .i64 0] 86))
  have t0 := box_later hrf (i := 0) rfl
  have t1 := box_later hrf (i := 1) rfl
  have t := box_there hrf
  change World.there _ _ 0 2 at t
  rw [hV] at t0 t1 t
  have HR5 : Hid (RlAt V w4.heap.size w.heap.size [] 0 (.slice none 0 0)) := Lib.hid (rl_new t0 t1 t (by omega))
  have HS5 := Lib.hid (HS4.out.later b1)
  have HP5 := Lib.hid (HP4.out.later b1 (by omega))
  have HA5 := Lib.hid (HA4.out.later b1 (by omega))
  have HB5 := Lib.hid (HB4.out.trans (b1.mono HB4.out.size))
  clear t0 t1 t hrf b1 HS4 HP4 HA4 HB4
  go_upto_region 5 with fail
  try rw [hV]
  clear hV
  obtain ⟨q, hq⟩ : ∃ q, w4.heap.size = q := ⟨_, rfl⟩
  rw [hq] at s1 hlp4 hm4 hs4 HR5
  try rw [hq]
  clear hq
  have kg := KG.out V HB5.out
  obtain ⟨y0, y1, y2, y3, y4, y5⟩ := HA5.out
  go_wp2_with fail
  refine kg.mono ?_
  rintro e w5 ⟨v', rfl, hF, hFF, hRF, hfar, hb⟩
  have HS6 := Lib.hid (HS5.out.later hb)
  have HR6 := Lib.hid (HR5.out.later hb)
  have HP6 := Lib.hid (HP5.out.later hb (by omega))
  have HB6 := Lib.hid (HB5.out.trans (hb.mono HB5.out.size))
  have hln : (goodF fl).length ≤ 8 := rightF_len hRF
  have hsz := hb.size
  have HFAR : Hid (0 < (goodF fl).length → ∀ b, v'.ownBlock = some b → q < b ∧ b < w5.heap.size) := Lib.hid (fun h0 b hb => by
    have h1 := hfar h0 b hb
    have h2 := rd_blkS hF h0 b hb
    omega)
  have hqgb : q < w5.heap.size := by omega
  have HVAL := Lib.hid (fun rs f t n => value_vis hRF rs f t n)
  have HF6 := Lib.hid hF
  have HFF := Lib.hid hFF
  generalize goodF fl = G at *
  generalize gSrc src = s' at *
  generalize gLv alv = l' at *
  generalize gFr afr = f' at *
  generalize gTil afr atil = t' at *
  obtain ⟨ga, gc, rfl, -, -⟩ := RdAt.shape hF
  clear kg hb HS5 HR5 HP5 HA5 HB5 KG y0 y1 y2 y3 y4 y5 hF hFF hRF hfar
  obtain ⟨V1, h1⟩ : ∃ z, w5.alloc (.cells #[.string s', .slice ga G.length gc, .int .i64 l', .int .u32 ac, .int .i64 f', .int .i64 t'] 53) = z := ⟨_, rfl⟩
  obtain ⟨V2, h2⟩ : ∃ z, V1.alloc (.cells #[.string s', .slice ga G.length gc, .int .i64 l', .int .u32 ac, .int .i64 f', .int .i64 t'] 50) = z := ⟨_, rfl⟩
  have b1 : Below w5.heap.size w5 V1 := by rw [← h1]; exact alloc_below _ _
  have b2 : Below V1.heap.size V1 V2 := by rw [← h2]; exact alloc_below _ _
  have r1 : V1.heap.size = w5.heap.size + 1 := by rw [← h1, World.size_alloc]
  have r2 : V2.heap.size = w5.heap.size + 1 + 1 := by rw [← h2, World.size_alloc, r1]
  have y := alc6 w5 (.string s') (.slice ga G.length gc) (.int .i64 l') (.int .u32 ac) (.int .i64 f') (.int .i64 t') 53
  have z := alc6 V1 (.string s') (.slice ga G.length gc) (.int .i64 l') (.int .u32 ac) (.int .i64 f') (.int .i64 t') 50
  rw [h1] at y
  rw [h2, r1] at z
  have b12 : Below w5.heap.size w5 V2 := b1.trans (b2.mono b1.size)
  have hpl : PlSt w V2 (w5.heap.size + 1 + 1) lp m 0 q w5.heap.size [] 0 [] 0 (.slice none 0 0) (.slice a0 m0 c0) (.slice a1 m1 c1) (.slice a2 m2 c2) (.slice a3 qs.length c3) (.slice a4 m4 c4) (.slice a5 m5 c5) (.string s') (.slice ga G.length gc) (.int .i64 l') (.int .u32 ac) (.int .i64 f') (.int .i64 t') G :=
    ⟨HP6.out.later b12 (by omega), y.later b2 (by omega), z, HS6.out.later b12, HR6.out.later b12, HF6.out.later b12, HFAR.out, fun s h => (by cases h), fun s h => (by cases h), fun g h => (by cases h), HB6.out.trans (b12.mono HB6.out.size), by omega, by omega⟩
  have HPL := Lib.hid hpl
  clear y z b1 b2 b12 hpl HS6 HR6 HP6 HB6 HF6 HFAR
  go_upto_region 6 with fail
  try rw [h1]
  try rw [h2]
  try rw [r1]
  clear h1 h2 r1
  generalize w5.heap.size = gb at *
  clear s1 hs4 hsz
  have ke := KE.out V2
  go_wp2_with fail
  refine ke.mono ?_
  rintro e w6 ⟨v, rfl, hO, hb⟩
  have HPL6 := Lib.hid (HPL.out.later hb)
  have hL60 : (l.take 60).length ≤ 60 := by rw [List.length_take]; omega
  have HO := Lib.hid hO
  clear ke hb HPL KE r2
  generalize l.take 60 = L at *
  obtain ⟨a, c, rfl, hcl, hcell⟩ := ops_cells hO
  have HCELL := Lib.hid hcell
  clear hO hcell
  obtain ⟨z0, hz0⟩ : ∃ z0, gb + 1 + 1 = z0 := ⟨_, rfl⟩
  rw [hz0] at HPL6
  have hgz : gb + 1 < z0 := by omega
  clear hz0
  go_wp2
  go_loopw [11] (fun vi wr => ∃ (k n : Nat) (S R : List Sil) (lst : Int) (v : Value), k ≤ L.length ∧ vi = .int .i64 k ∧ 0 ≤ lst ∧ lst ≤ k ∧ n ≤ k ∧ R.length ≤ k ∧ Hid (SameL S R) ∧ Hid (TenS S) ∧ Hid (∀ s ∈ R, s.c < 4294967296) ∧
    Hid (PlSt w wr z0 lp m n q gb S lst R lst v (.slice a0 m0 c0) (.slice a1 m1 c1) (.slice a2 m2 c2) (.slice a3 qs.length c3) (.slice a4 m4 c4) (.slice a5 m5 c5) (.string s') (.slice ga G.length gc) (.int .i64 l') (.int .u32 ac) (.int .i64 f') (.int .i64 t') G)) (fun vi _ => L.length - (intOf vi).toNat)
  case atStart => exact ⟨0, 0, [], [], 0, .slice none 0 0, Nat.zero_le _, rfl, by decide, by decide, Nat.le_refl _, Nat.le_refl _, Lib.hid rfl, Lib.hid ten_nil, Lib.hid (fun s h => (by cases h)), HPL6⟩
  case round =>
    obtain ⟨k, n, S, R, lst, v, hk, rfl, hl0, hlk, hnk, hRk, HSL, HTN, HRC, HST⟩ := hrel
    clear HPL6
    by_cases hkl : k < L.length
    case neg =>
      obtain rfl : k = L.length := by omega
      have HBZ := Lib.hid HST.out.bl
      clear HST
      go_wp2
      go_ret
      exact ⟨rfl, HBZ.out⟩
    obtain ⟨b, o, rfl, hbl, hcell⟩ := HCELL.out (by omega)
    have hcell := hcell k hkl
    have HBR := Lib.hid HST.out.bl
    have hop := HO.out.each L[k] (List.getElem_mem hkl)
    have hoc := HLC.out L[k] (List.getElem_mem hkl)
    have q0 := keep_cell (hcell 0 _ rfl) HBR.out hbl
    have q1 := keep_cell (hcell 1 _ rfl) HBR.out hbl
    have q2 := keep_cell (hcell 2 _ rfl) HBR.out hbl
    have q3 := keep_cell (hcell 3 _ rfl) HBR.out hbl
    have q4 := keep_cell (hcell 4 _ rfl) HBR.out hbl
    have q5 := keep_cell (hcell 5 _ rfl) HBR.out hbl
    have q6 := keep_cell (hcell 6 _ rfl) HBR.out hbl
    have q7 := keep_cell (hcell 7 _ rfl) HBR.out hbl
    have q8 := keep_cell (hcell 8 _ rfl) HBR.out hbl
    rw [Nat.add_zero] at q0
    clear hcell HCELL HO HLC
    generalize L[k] = op at *
    have HOP := Lib.hid hop
    have hk0 : (0 : Int) ≤ (k : Int) := by omega
    have hk1 : (k : Int) < (L.length : Int) := by omega
    have hba := alloc_below wr (.cells #[.int .i64 op.kd, .int .i64 op.id, .int .i64 op.now, .int .i64 op.sid, .slice op.s.mv.1 op.s.mv.2.1 op.s.mv.2.2, .int .i64 op.s.fr, .int .i64 op.s.til, .int .i64 op.s.lv, .int .u32 op.s.c] 60)
    have z := alc9 wr (.int .i64 op.kd) (.int .i64 op.id) (.int .i64 op.now) (.int .i64 op.sid) (.slice op.s.mv.1 op.s.mv.2.1 op.s.mv.2.2) (.int .i64 op.s.fr) (.int .i64 op.s.til) (.int .i64 op.s.lv) (.int .u32 op.s.c) 60
    have hzz := World.size_alloc wr (.cells #[.int .i64 op.kd, .int .i64 op.id, .int .i64 op.now, .int .i64 op.sid, .slice op.s.mv.1 op.s.mv.2.1 op.s.mv.2.2, .int .i64 op.s.fr, .int .i64 op.s.til, .int .i64 op.s.lv, .int .u32 op.s.c] 60)
    have hltb : z0 ≤ wr.heap.size := HST.out.sz
    have HVB : Hid (∀ g, v.ownBlock = some g → g < wr.heap.size) := Lib.hid (fun g hg => (HST.out.r.own.lt g hg).2)
    clear hbl hop HBR
    go_upto_region 11 with fail
    change Code.wp _ _ _ _ (wr.alloc (.cells #[.int .i64 op.kd, .int .i64 op.id, .int .i64 op.now, .int .i64 op.sid, .slice op.s.mv.1 op.s.mv.2.1 op.s.mv.2.2, .int .i64 op.s.fr, .int .i64 op.s.til, .int .i64 op.s.lv, .int .u32 op.s.c] 60))
    generalize wr.alloc (.cells #[.int .i64 op.kd, .int .i64 op.id, .int .i64 op.now, .int .i64 op.sid, .slice op.s.mv.1 op.s.mv.2.1 op.s.mv.2.2, .int .i64 op.s.fr, .int .i64 op.s.til, .int .i64 op.s.lv, .int .u32 op.s.c] 60) = V at *
    have HSV := Lib.hid (HST.out.later hba)
    have HZ := Lib.hid z
    generalize wr.heap.size = ox at *
    have hox : ox < V.heap.size := by omega
    clear hba z HST hzz q0 q1 q2 q3 q4 q5 q6 q7 q8
    obtain ⟨x0, x1, x2, x3, x4, x5, x6, x7, x8⟩ := HZ.out
    have kd := does_own op lp m n S lst V HSV.out.s (HOP.out.later HSV.out.bl) (by omega) (by omega) hl0
    unfold SOp.v at kd
    go_wp2_with fail
    refine kd.mono ?_
    rintro e V1 ⟨r, S', lst', n', rfl, hD, hS1, hn1, hkp, hnw⟩
    have hla := does_last hD
    have HS1 := Lib.hid (HSV.out.own hS1 hkp hnw.out)
    have HZ1 := Lib.hid (c9_kp HZ.out hkp (by omega) (by omega))
    have HUP := Lib.hid (HSL.out.up HSV.out.s.up)
    have HT' := Lib.hid (ten_does HTN.out HSV.out.s.up hD)
    obtain ⟨na, ea, rfl, -⟩ := does_says hD
    have HD := Lib.hid hD
    clear kd hS1 hkp hnw hD HSV HZ x0 x1 x2 x3 x4 x5 x6 x7 x8
    obtain ⟨x0, x1, x2, x3, x4, x5, x6, x7, x8⟩ := HZ1.out
    have kr := doesref_any op q w.heap.size R lst v V1 HS1.out.r HUP.out (HOP.out.later HS1.out.bl) (rd_blkS HOP.out.ms) hl0 (by omega) (by omega)
    unfold SOp.v at kr
    go_wp2_with fail
    refine kr.mono ?_
    rintro e V2 ⟨r2, R', N', v', rfl, hL, hok⟩
    obtain ⟨hr, hsl, hN⟩ := does_same HSL.out HTN.out HD.out hL
    subst hr
    subst hN
    have HSL' := Lib.hid hsl
    have HRC' := Lib.hid (ref_c hL HRC.out hoc)
    have hrl := ref_len hL
    have HS2 := Lib.hid (HS1.out.ref hok)
    have HZ2 := Lib.hid (c9_kp HZ1.out hok.kp (by omega) (by
      cases e : v.ownBlock with
      | none => show ox ≠ q; omega
      | some g => have := HVB.out g e; show ox ≠ g; omega))
    clear kr hL hok hsl HS1 HZ1 HD HSL HTN HRC HUP HVB x0 x1 x2 x3 x4 x5 x6 x7 x8
    have kn := num_any lp m n' S' lst' V2 HS2.out.s
    go_wp2_with fail
    refine kn.mono ?_
    rintro e V3 ⟨vn, rfl, hrow, hb⟩
    have hi3 : IntsAt V3 vn (S'.map (·.id)) := by
      have := RdAt.own hrow
      unfold IntsAt
      rw [List.length_map]
      exact this
    obtain ⟨ia, ic, rfl, hic, hids⟩ := ids_cells hi3
    have HIDS := Lib.hid hids
    have HS3 := Lib.hid (HS2.out.later hb)
    have HZ3 := Lib.hid (HZ2.out.later hb)
    clear kn hrow hb hi3 hids HS2 HZ2
    obtain ⟨ra, rc, rfl, hrc, hrr⟩ := HS3.out.r.row
    obtain ⟨M, hMe⟩ : ∃ M, S'.length = M := ⟨_, rfl⟩
    have hRM : R'.length = M := HSL'.out.len.symm.trans hMe
    have HME := Lib.hid hMe
    have HRM := Lib.hid hRM
    have hM : M ≤ 61 := by omega
    have HQ0 : Hid (V3.cell? ⟨q, 0, none⟩ = some (.slice ra M rc)) := Lib.hid (by have := HS3.out.r.h0; rwa [hRM] at this)
    have HROW := Lib.hid hrr
    rw [hMe] at hic ⊢
    rw [hRM] at hrc hrl
    clear hMe hRM hrr
    obtain ⟨cs, hcs⟩ : ∃ cs, cutS op.s = cs := ⟨_, rfl⟩
    have KSH : Hid (∀ W, Below V3.heap.size V3 W → Calls Tryz.prog 27 #[op.v] W fun e w' => ∃ mv : Option Addr × Nat × Nat, e = .returned (rsV op.sid { cs with mv := mv }) ∧ MtsAt W (SV mv) cs.ms ∧ Below W.heap.size W w') := Lib.hid (fun W hW => by
      rw [← hcs]
      exact short_any op W (RdAt.later HOP.out.ms (HS3.out.later hW).bl) HOP.out.len)
    have KR1 : Hid (∀ W mv, MtsAt W (SV mv) cs.ms → Calls Tryz.prog 36 #[.agg #[.slice mv.1 mv.2.1 mv.2.2, .int .i64 cs.fr, .int .i64 cs.til, .int .i64 cs.lv, .int .u32 cs.c]] W fun e w' => e = .returned (.bool (rightS cs)) ∧ Below W.heap.size W w') := Lib.hid (fun W mv hm => sright_any { cs with mv := mv } W hm (hcs ▸ cutS_fit HOP.out.fit) (Nat.le_trans (hcs ▸ cutS_len op.s) (by decide)))
    have KR2 : Hid (∀ W mv, MtsAt W (SV mv) cs.ms → Calls Tryz.prog 37 #[.agg #[.int .i64 op.sid, .slice mv.1 mv.2.1 mv.2.2, .int .i64 cs.fr, .int .i64 cs.til, .int .i64 cs.lv, .int .u32 cs.c]] W fun e w' => e = .returned (.bool (rightS cs)) ∧ Below W.heap.size W w') := Lib.hid (fun W mv hm => r10right_any op.sid { cs with mv := mv } W hm (hcs ▸ cutS_fit HOP.out.fit) (Nat.le_trans (hcs ▸ cutS_len op.s) (by decide)))
    have KBK : Hid (∀ W (mv : Option Addr × Nat × Nat), Calls Tryz.prog 26 #[.agg #[.int .i64 op.sid, .slice mv.1 mv.2.1 mv.2.2, .int .i64 cs.fr, .int .i64 cs.til, .int .i64 cs.lv, .int .u32 cs.c]] W fun e w' => e = .returned (.agg #[.slice mv.1 mv.2.1 mv.2.2, .int .i64 cs.fr, .int .i64 cs.til, .int .i64 cs.lv, .int .u32 cs.c]) ∧ Below W.heap.size W w') := Lib.hid (fun W mv => sback_any op.sid { cs with mv := mv } W)
    generalize rightS cs = RR at *
    clear hcs
    have SK : Hid (∀ W', Below V3.heap.size V3 W' → C9 ox (.int .i64 op.kd) (.int .i64 op.id) (.int .i64 op.now) (.int .i64 op.sid) (.slice op.s.mv.1 op.s.mv.2.1 op.s.mv.2.2) (.int .i64 op.s.fr) (.int .i64 op.s.til) (.int .i64 op.s.lv) (.int .u32 op.s.c) W' ∧ W'.cell? ⟨q, 0, none⟩ = some (.slice ra M rc)) := Lib.hid (fun W' h => ⟨HZ3.out.later h, keep_cell HQ0.out h (cell_lt HQ0.out)⟩)
    go_upto_region 14 with fail
    refine wp_region_held_drew (S := (fun W' => C9 ox (.int .i64 op.kd) (.int .i64 op.id) (.int .i64 op.now) (.int .i64 op.sid) (.slice op.s.mv.1 op.s.mv.2.1 op.s.mv.2.2) (.int .i64 op.s.fr) (.int .i64 op.s.til) (.int .i64 op.s.lv) (.int .u32 op.s.c) W' ∧ W'.cell? ⟨q, 0, none⟩ = some (.slice ra M rc))) (by kernel_rfl) (SK.out _ ((Below.refl V3.heap.size V3).drew)) (fun hHeld => ?_)
    refine held_take (i := 0) (v := ?_) rfl rfl (by kernel_rfl) (by kernel_rfl) (by kernel_rfl) (fun _ _ _ h => h) (by rfl) hHeld ?_ ?_
    rotate_left
    · rintro wh ⟨⟨y0, y1, y2, y3, y4, y5, y6, y7, y8⟩, yq⟩
      go_simp
      (try with_reducible rfl)
    simp only [Act.put, List.setIfInBounds_toArray, List.set_cons_zero, List.set_cons_succ]
    refine held_take (i := 1) (v := ?_) rfl rfl (by kernel_rfl) (by kernel_rfl) (by kernel_rfl) (fun _ _ _ h => h) (by rfl) hHeld ?_ ?_
    rotate_left
    · rintro wh ⟨⟨y0, y1, y2, y3, y4, y5, y6, y7, y8⟩, yq⟩
      go_simp
      (try with_reducible rfl)
    simp only [Act.put, List.setIfInBounds_toArray, List.set_cons_zero, List.set_cons_succ]
    refine held_take (i := 2) (v := ?_) rfl rfl (by kernel_rfl) (by kernel_rfl) (by kernel_rfl) (fun _ _ _ h => h) (by rfl) hHeld ?_ ?_
    rotate_left
    · rintro wh ⟨⟨y0, y1, y2, y3, y4, y5, y6, y7, y8⟩, yq⟩
      go_simp
      (try with_reducible rfl)
    simp only [Act.put, List.setIfInBounds_toArray, List.set_cons_zero, List.set_cons_succ]
    refine held_take (i := 3) (v := ?_) rfl rfl (by kernel_rfl) (by kernel_rfl) (by kernel_rfl) (fun _ _ _ h => h) (by rfl) hHeld ?_ ?_
    rotate_left
    · rintro wh ⟨⟨y0, y1, y2, y3, y4, y5, y6, y7, y8⟩, yq⟩
      go_simp
      (try with_reducible rfl)
    simp only [Act.put, List.setIfInBounds_toArray, List.set_cons_zero, List.set_cons_succ]
    refine held_take (i := 4) (v := ?_) rfl rfl (by kernel_rfl) (by kernel_rfl) (by kernel_rfl) (fun _ _ _ h => h) (by rfl) hHeld ?_ ?_
    rotate_left
    · rintro wh ⟨⟨y0, y1, y2, y3, y4, y5, y6, y7, y8⟩, yq⟩
      go_simp
      (try with_reducible rfl)
    simp only [Act.put, List.setIfInBounds_toArray, List.set_cons_zero, List.set_cons_succ]
    refine held_take (i := 5) (v := ?_) rfl rfl (by kernel_rfl) (by kernel_rfl) (by kernel_rfl) (fun _ _ _ h => h) (by rfl) hHeld ?_ ?_
    rotate_left
    · rintro wh ⟨⟨y0, y1, y2, y3, y4, y5, y6, y7, y8⟩, yq⟩
      go_simp
      (try with_reducible rfl)
    simp only [Act.put, List.setIfInBounds_toArray, List.set_cons_zero, List.set_cons_succ]
    refine held_take (i := 6) (v := ?_) rfl rfl (by kernel_rfl) (by kernel_rfl) (by kernel_rfl) (fun _ _ _ h => h) (by rfl) hHeld ?_ ?_
    rotate_left
    · rintro wh ⟨⟨y0, y1, y2, y3, y4, y5, y6, y7, y8⟩, yq⟩
      go_simp
      (try with_reducible rfl)
    simp only [Act.put, List.setIfInBounds_toArray, List.set_cons_zero, List.set_cons_succ]
    refine held_take (i := 7) (v := ?_) rfl rfl (by kernel_rfl) (by kernel_rfl) (by kernel_rfl) (fun _ _ _ h => h) (by rfl) hHeld ?_ ?_
    rotate_left
    · rintro wh ⟨⟨y0, y1, y2, y3, y4, y5, y6, y7, y8⟩, yq⟩
      go_simp
      (try with_reducible rfl)
    simp only [Act.put, List.setIfInBounds_toArray, List.set_cons_zero, List.set_cons_succ]
    refine held_take (i := 8) (v := ?_) rfl rfl (by kernel_rfl) (by kernel_rfl) (by kernel_rfl) (fun _ _ _ h => h) (by rfl) hHeld ?_ ?_
    rotate_left
    · rintro wh ⟨⟨y0, y1, y2, y3, y4, y5, y6, y7, y8⟩, yq⟩
      go_simp
      (try with_reducible rfl)
    simp only [Act.put, List.setIfInBounds_toArray, List.set_cons_zero, List.set_cons_succ]
    refine held_take (i := 9) (v := ?_) rfl rfl (by kernel_rfl) (by kernel_rfl) (by kernel_rfl) (fun _ _ _ h => h) (by rfl) hHeld ?_ ?_
    rotate_left
    · rintro wh ⟨⟨y0, y1, y2, y3, y4, y5, y6, y7, y8⟩, yq⟩
      go_simp
      (try with_reducible rfl)
    simp only [Act.put, List.setIfInBounds_toArray, List.set_cons_zero, List.set_cons_succ]
    refine held_take (i := 10) (v := ?_) rfl rfl (by kernel_rfl) (by kernel_rfl) (by kernel_rfl) (fun _ _ _ h => h) (by rfl) hHeld ?_ ?_
    rotate_left
    · rintro wh ⟨⟨y0, y1, y2, y3, y4, y5, y6, y7, y8⟩, yq⟩
      go_simp
      (try with_reducible rfl)
    simp only [Act.put, List.setIfInBounds_toArray, List.set_cons_zero, List.set_cons_succ]
    refine held_take (i := 11) (v := ?_) rfl rfl (by kernel_rfl) (by kernel_rfl) (by kernel_rfl) (fun _ _ _ h => h) (by rfl) hHeld ?_ ?_
    rotate_left
    · rintro wh ⟨⟨y0, y1, y2, y3, y4, y5, y6, y7, y8⟩, yq⟩
      go_simp
      (try with_reducible rfl)
    simp only [Act.put, List.setIfInBounds_toArray, List.set_cons_zero, List.set_cons_succ]
    refine held_take (i := 12) (v := ?_) rfl rfl (by kernel_rfl) (by kernel_rfl) (by kernel_rfl) (fun _ _ _ h => h) (by rfl) hHeld ?_ ?_
    rotate_left
    · rintro wh ⟨⟨y0, y1, y2, y3, y4, y5, y6, y7, y8⟩, yq⟩
      go_simp
      (try with_reducible rfl)
    simp only [Act.put, List.setIfInBounds_toArray, List.set_cons_zero, List.set_cons_succ]
    refine held_take (i := 13) (v := ?_) rfl rfl (by kernel_rfl) (by kernel_rfl) (by kernel_rfl) (fun _ _ _ h => h) (by rfl) hHeld ?_ ?_
    rotate_left
    · rintro wh ⟨⟨y0, y1, y2, y3, y4, y5, y6, y7, y8⟩, yq⟩
      go_simp
      (try with_reducible rfl)
    simp only [Act.put, List.setIfInBounds_toArray, List.set_cons_zero, List.set_cons_succ]
    refine held_take (i := 14) (v := ?_) rfl rfl (by kernel_rfl) (by kernel_rfl) (by kernel_rfl) (fun _ _ _ h => h) (by rfl) hHeld ?_ ?_
    rotate_left
    · rintro wh ⟨⟨y0, y1, y2, y3, y4, y5, y6, y7, y8⟩, yq⟩
      go_simp
      (try with_reducible rfl)
    simp only [Act.put, List.setIfInBounds_toArray, List.set_cons_zero, List.set_cons_succ]
    refine held_take (i := 15) (v := ?_) rfl rfl (by kernel_rfl) (by kernel_rfl) (by kernel_rfl) (fun _ _ _ h => h) (by rfl) hHeld ?_ ?_
    rotate_left
    · rintro wh ⟨⟨y0, y1, y2, y3, y4, y5, y6, y7, y8⟩, yq⟩
      go_simp
      (try with_reducible rfl)
    simp only [Act.put, List.setIfInBounds_toArray, List.set_cons_zero, List.set_cons_succ]
    refine held_take (i := 16) (v := ?_) rfl rfl (by kernel_rfl) (by kernel_rfl) (by kernel_rfl) (fun _ _ _ h => h) (by rfl) hHeld ?_ ?_
    rotate_left
    · rintro wh ⟨⟨y0, y1, y2, y3, y4, y5, y6, y7, y8⟩, yq⟩
      go_simp
      (try with_reducible rfl)
    simp only [Act.put, List.setIfInBounds_toArray, List.set_cons_zero, List.set_cons_succ]
    refine held_take (i := 17) (v := ?_) rfl rfl (by kernel_rfl) (by kernel_rfl) (by kernel_rfl) (fun _ _ _ h => h) (by rfl) hHeld ?_ ?_
    rotate_left
    · rintro wh ⟨⟨y0, y1, y2, y3, y4, y5, y6, y7, y8⟩, yq⟩
      go_simp
      (try with_reducible rfl)
    simp only [Act.put, List.setIfInBounds_toArray, List.set_cons_zero, List.set_cons_succ]
    refine held_take (i := 18) (v := ?_) rfl rfl (by kernel_rfl) (by kernel_rfl) (by kernel_rfl) (fun _ _ _ h => h) (by rfl) hHeld ?_ ?_
    rotate_left
    · rintro wh ⟨⟨y0, y1, y2, y3, y4, y5, y6, y7, y8⟩, yq⟩
      go_simp
      (try with_reducible rfl)
    simp only [Act.put, List.setIfInBounds_toArray, List.set_cons_zero, List.set_cons_succ]
    refine held_take (i := 19) (v := ?_) rfl rfl (by kernel_rfl) (by kernel_rfl) (by kernel_rfl) (fun _ _ _ h => h) (by rfl) hHeld ?_ ?_
    rotate_left
    · rintro wh ⟨⟨y0, y1, y2, y3, y4, y5, y6, y7, y8⟩, yq⟩
      go_simp
      (try with_reducible rfl)
    simp only [Act.put, List.setIfInBounds_toArray, List.set_cons_zero, List.set_cons_succ]
    refine held_take (i := 23) (v := ?_) rfl rfl (by kernel_rfl) (by kernel_rfl) (by kernel_rfl) (fun _ _ _ h => h) (by rfl) hHeld ?_ ?_
    rotate_left
    · rintro wh ⟨⟨y0, y1, y2, y3, y4, y5, y6, y7, y8⟩, yq⟩
      go_simp
      (try with_reducible rfl)
    simp only [Act.put, List.setIfInBounds_toArray, List.set_cons_zero, List.set_cons_succ]
    refine held_step (i := 20) rfl (by kernel_rfl) (fun K hK => ?_)
    go_simp; refine (KSH.out _ ((Below.refl V3.heap.size V3).drew)).mono ?_; rintro e u1 ⟨mv1, rfl, hm, hb⟩; have hq1 : Below V3.heap.size V3 u1 := ((Below.refl V3.heap.size V3).drew).trans (hb.mono ((Below.refl V3.heap.size V3).drew).size); have HB1' := Lib.hid hq1; have HM1' := Lib.hid (RdAt.later hm hb); clear hm hb hq1
    refine hK.out _ _ (SK.out _ HB1'.out) (fun hHeld => ?_)
    clear hK K
    (try simp only [Act.put, List.setIfInBounds_toArray])
    refine held_step (i := 21) rfl (by kernel_rfl) (fun K hK => ?_)
    go_simp; refine (KBK.out u1 mv1).mono ?_; rintro e u2 ⟨rfl, hb⟩; have hq2 : Below V3.heap.size V3 u2 := HB1'.out.trans (hb.mono HB1'.out.size); have HB2' := Lib.hid hq2; have HM2' := Lib.hid (RdAt.later HM1'.out hb); clear hb hq2
    refine hK.out _ _ (SK.out _ HB2'.out) (fun hHeld => ?_)
    clear hK K
    (try simp only [Act.put, List.setIfInBounds_toArray])
    refine held_step (i := 22) rfl (by kernel_rfl) (fun K hK => ?_)
    go_simp; refine (KR1.out u2 mv1 HM2'.out).mono ?_; rintro e u3 ⟨rfl, hb⟩; have hq3 : Below V3.heap.size V3 u3 := HB2'.out.trans (hb.mono HB2'.out.size); have HB3' := Lib.hid hq3; clear hb hq3 HM1' HM2'
    refine hK.out _ _ (SK.out _ HB3'.out) (fun hHeld => ?_)
    clear hK K
    (try simp only [Act.put, List.setIfInBounds_toArray])
    refine held_step (i := 24) rfl (by kernel_rfl) (fun K hK => ?_)
    go_simp; refine (KSH.out _ HB3'.out).mono ?_; rintro e u4 ⟨mv2, rfl, hm, hb⟩; have hq4 : Below V3.heap.size V3 u4 := HB3'.out.trans (hb.mono HB3'.out.size); have HB4' := Lib.hid hq4; have HM1' := Lib.hid (RdAt.later hm hb); clear hm hb hq4
    refine hK.out _ _ (SK.out _ HB4'.out) (fun hHeld => ?_)
    clear hK K
    (try simp only [Act.put, List.setIfInBounds_toArray])
    refine held_step (i := 25) rfl (by kernel_rfl) (fun K hK => ?_)
    go_simp; refine (KR2.out u4 mv2 HM1'.out).mono ?_; rintro e u5 ⟨rfl, hb⟩; have hq5 : Below V3.heap.size V3 u5 := HB4'.out.trans (hb.mono HB4'.out.size); have HB5' := Lib.hid hq5; have HM2' := Lib.hid trivial; clear hb hq5
    refine hK.out _ _ (SK.out _ HB5'.out) (fun hHeld => ?_)
    clear hK K
    (try simp only [Act.put, List.setIfInBounds_toArray])
    refine held_take (i := 26) (v := ?_) rfl rfl (by kernel_rfl) (by kernel_rfl) (by kernel_rfl) (fun _ _ _ h => h) (by rfl) hHeld ?_ ?_
    rotate_left
    · rintro wh ⟨⟨y0, y1, y2, y3, y4, y5, y6, y7, y8⟩, yq⟩
      go_simp
      (try with_reducible rfl)
    simp only [Act.put, List.setIfInBounds_toArray, List.set_cons_zero, List.set_cons_succ]
    refine held_take (i := 27) (v := ?_) rfl rfl (by kernel_rfl) (by kernel_rfl) (by kernel_rfl) (fun _ _ _ h => h) (by rfl) hHeld ?_ ?_
    rotate_left
    · rintro wh ⟨⟨y0, y1, y2, y3, y4, y5, y6, y7, y8⟩, yq⟩
      go_simp
      (try with_reducible rfl)
    simp only [Act.put, List.setIfInBounds_toArray, List.set_cons_zero, List.set_cons_succ]
    refine wpAnyH_done (by kernel_rfl) ?_ _
    have HU := Lib.hid HB5'.out
    have HS4 := Lib.hid (HS3.out.later HU.out)
    have HZ4 := Lib.hid (HZ3.out.later HU.out)
    have HQ4 := Lib.hid (keep_cell HQ0.out HU.out (cell_lt HQ0.out))
    have HID4 : Hid (∀ W, Below u5.heap.size u5 W → 0 < S'.length → ∃ b o, ia = some ⟨b, o, none⟩ ∧ ∀ j (hj : j < S'.length), W.cell? ⟨b, o + j, none⟩ = some (.int .i64 S'[j].id)) := Lib.hid (fun W hW h0 => by
      obtain ⟨b, o, e, hb, hc⟩ := HIDS.out h0
      exact ⟨b, o, e, fun j hj => keep_cell (hc j hj) (HU.out.trans (hW.mono HU.out.size)) hb⟩)
    have HRW4 : Hid (∀ W, Below u5.heap.size u5 W → 0 < R'.length → ∃ g o, ra = some ⟨g, o, none⟩ ∧ ∀ (k : Nat) (hk : k < R'.length), W.cell? ⟨g, o + k * 6, none⟩ = some (.int .i64 R'[k].id) ∧ W.cell? ⟨g, o + k * 6 + 1, none⟩ = some (.slice R'[k].mv.1 R'[k].mv.2.1 R'[k].mv.2.2) ∧ W.cell? ⟨g, o + k * 6 + 2, none⟩ = some (.int .i64 R'[k].fr) ∧ W.cell? ⟨g, o + k * 6 + 3, none⟩ = some (.int .i64 R'[k].til) ∧ W.cell? ⟨g, o + k * 6 + 4, none⟩ = some (.int .i64 R'[k].lv) ∧ W.cell? ⟨g, o + k * 6 + 5, none⟩ = some (.int .u32 R'[k].c)) := Lib.hid (fun W hW h0 => by
      obtain ⟨g, o, e, hg, _, hc⟩ := HROW.out h0
      refine ⟨g, o, e, fun j hj => ?_⟩
      obtain ⟨c0, c1, c2, c3, c4, c5⟩ := hc j hj
      have hx := HU.out.trans (hW.mono HU.out.size)
      exact ⟨keep_cell c0 hx hg, keep_cell c1 hx hg, keep_cell c2 hx hg, keep_cell c3 hx hg, keep_cell c4 hx hg, keep_cell c5 hx hg⟩)
    clear SK KSH KR1 KR2 KBK hHeld HB1' HB2' HB3' HB4' HB5' HM1' HM2' HU HS3 HZ3 HQ0 HIDS HROW
    as_aux_lemma =>
      go_wp2
      go_loopw [18] (fun vj wx => ∃ j : Nat, j ≤ M ∧ vj = .int .i64 j ∧ Hid (Below u5.heap.size u5 wx)) (fun vj _ => M - (intOf vj).toNat)
      case atStart => exact ⟨0, Nat.zero_le _, rfl, Lib.hid (Below.refl _ _)⟩
      case round =>
        obtain ⟨j, hj, rfl, HW⟩ := hrel
        by_cases hjM : j < M
        · as_aux_lemma =>
            have hjS : j < S'.length := by rw [HME.out]; exact hjM
            have hjR : j < R'.length := by rw [HRM.out]; exact hjM
            obtain ⟨ib, io, rfl, hic4⟩ := HID4.out wr HW.out (by omega)
            obtain ⟨rb, ro, rfl, hrw4⟩ := HRW4.out wr HW.out (by omega)
            have e0 := hic4 j hjS
            obtain ⟨r0, r1, r2, r3, r4, r5⟩ := hrw4 j hjR
            obtain ⟨g0, g1, g2, g3, g4, g5⟩ := HSL'.out.at_ hjS hjR
            have kg := get_ms lp m n' S' lst' wr (HS4.out.s.later HW.out) j hjS
            obtain ⟨hmR, -, hlR, -⟩ := (HS4.out.r.later HW.out).ms R'[j] (List.getElem_mem hjR)
            have hqx := keep_cell HQ4.out HW.out (cell_lt HQ4.out)
            rw [← g0] at r0
            rw [← g2] at r2
            rw [← g3] at r3
            rw [← g4] at r4
            rw [← g5] at r5
            rw [← g1] at hmR hlR
            clear g0 g1 g2 g3 g4 g5 hic4 hrw4
            have hj0 : (0 : Int) ≤ (j : Int) := by omega
            have hj1 : (j : Int) < (M : Int) := by omega
            have HE := Lib.hid e0
            have HR0 := Lib.hid (And.intro r0 (And.intro r1 (And.intro r2 (And.intro r3 (And.intro r4 r5)))))
            have HQX := Lib.hid hqx
            have HMR := Lib.hid hmR
            clear r0 r1 r2 r3 r4 r5 hqx hmR
            generalize S'[j] = sj at *
            generalize R'[j].mv = rmv at *
            obtain ⟨sid, smv, sms, sfr, stil, slv, sc⟩ := sj
            obtain ⟨rma, rmn, rmc⟩ := rmv
            dsimp only at *
            go_wp2_with fail
            refine kg.mono ?_
            rintro e wa ⟨⟨mva, mvn, mvc⟩, rfl, hmm, hb⟩
            have hba := alloc_below wa (.cells #[.slice mva mvn mvc, .int .i64 sfr, .int .i64 stil, .int .i64 slv, .int .u32 sc] 67)
            have hbx : Below wr.heap.size wr (wa.alloc (.cells #[.slice mva mvn mvc, .int .i64 sfr, .int .i64 stil, .int .i64 slv, .int .u32 sc] 67)) := hb.trans (hba.mono hb.size)
            obtain ⟨r0, r1, r2, r3, r4, r5⟩ := HR0.out
            have e0 := keep_cell HE.out hbx (cell_lt HE.out)
            have hqx := keep_cell HQX.out hbx (cell_lt HQX.out)
            have r0 := keep_cell r0 hbx (cell_lt r0)
            have r1 := keep_cell r1 hbx (cell_lt r1)
            have r2 := keep_cell r2 hbx (cell_lt r2)
            have r3 := keep_cell r3 hbx (cell_lt r3)
            have r4 := keep_cell r4 hbx (cell_lt r4)
            have r5 := keep_cell r5 hbx (cell_lt r5)
            have hx5 := alc5 wa (.slice mva mvn mvc) (.int .i64 sfr) (.int .i64 stil) (.int .i64 slv) (.int .u32 sc) 67
            have hsa := World.size_alloc wa (.cells #[.slice mva mvn mvc, .int .i64 sfr, .int .i64 stil, .int .i64 slv, .int .u32 sc] 67)
            have hmm' := MtsAt.later hmm hba
            have hmr' := MtsAt.later HMR.out hbx
            have HBX := Lib.hid (HW.out.trans (hbx.mono HW.out.size))
            go_upto_region 20 with fail
            change Code.wp _ _ _ _ (wa.alloc (.cells #[.slice mva mvn mvc, .int .i64 sfr, .int .i64 stil, .int .i64 slv, .int .u32 sc] 67))
            generalize wa.alloc (.cells #[.slice mva mvn mvc, .int .i64 sfr, .int .i64 stil, .int .i64 slv, .int .u32 sc] 67) = wb at *
            generalize wa.heap.size = sx at *
            have hsx : sx < wb.heap.size := by omega
            have KSM : Hid (∀ W, Below wb.heap.size wb W → Calls Tryz.prog 39 #[.slice mva mvn mvc, .slice rma rmn rmc] W fun e w' => e = .returned (.bool true) ∧ Below W.heap.size W w') := Lib.hid (fun W hW => rsame_mts sms (.slice mva mvn mvc) (.slice rma rmn rmc) W (MtsAt.later hmm' hW) (MtsAt.later hmr' hW) (Nat.le_trans hlR (by decide)))
            have SK2 : Hid (∀ W', Below wb.heap.size wb W' → C5 sx (.slice mva mvn mvc) (.int .i64 sfr) (.int .i64 stil) (.int .i64 slv) (.int .u32 sc) W' ∧ W'.cell? ⟨ib, io + j, none⟩ = some (.int .i64 sid) ∧ W'.cell? ⟨q, 0, none⟩ = some (.slice (some ⟨rb, ro, none⟩) M rc) ∧ W'.cell? ⟨rb, ro + j * 6, none⟩ = some (.int .i64 sid) ∧ W'.cell? ⟨rb, ro + j * 6 + 1, none⟩ = some (.slice rma rmn rmc) ∧ W'.cell? ⟨rb, ro + j * 6 + 2, none⟩ = some (.int .i64 sfr) ∧ W'.cell? ⟨rb, ro + j * 6 + 3, none⟩ = some (.int .i64 stil) ∧ W'.cell? ⟨rb, ro + j * 6 + 4, none⟩ = some (.int .i64 slv) ∧ W'.cell? ⟨rb, ro + j * 6 + 5, none⟩ = some (.int .u32 sc)) :=
              Lib.hid (fun W' h => ⟨hx5.later h, keep_cell e0 h (cell_lt e0), keep_cell hqx h (cell_lt hqx), keep_cell r0 h (cell_lt r0), keep_cell r1 h (cell_lt r1), keep_cell r2 h (cell_lt r2), keep_cell r3 h (cell_lt r3), keep_cell r4 h (cell_lt r4), keep_cell r5 h (cell_lt r5)⟩)
            clear kg hb hmm hmm' hmr' hba hbx HR0 HE HQX HMR HW r0 r1 r2 r3 r4 r5 e0 hqx hx5 hsa hlR
            refine wp_region_held_drew (S := (fun W' => C5 sx (.slice mva mvn mvc) (.int .i64 sfr) (.int .i64 stil) (.int .i64 slv) (.int .u32 sc) W' ∧ W'.cell? ⟨ib, io + j, none⟩ = some (.int .i64 sid) ∧ W'.cell? ⟨q, 0, none⟩ = some (.slice (some ⟨rb, ro, none⟩) M rc) ∧ W'.cell? ⟨rb, ro + j * 6, none⟩ = some (.int .i64 sid) ∧ W'.cell? ⟨rb, ro + j * 6 + 1, none⟩ = some (.slice rma rmn rmc) ∧ W'.cell? ⟨rb, ro + j * 6 + 2, none⟩ = some (.int .i64 sfr) ∧ W'.cell? ⟨rb, ro + j * 6 + 3, none⟩ = some (.int .i64 stil) ∧ W'.cell? ⟨rb, ro + j * 6 + 4, none⟩ = some (.int .i64 slv) ∧ W'.cell? ⟨rb, ro + j * 6 + 5, none⟩ = some (.int .u32 sc))) (by kernel_rfl) (SK2.out _ ((Below.refl wb.heap.size wb).drew)) (fun hHeld => ?_)
            refine held_take (i := 0) (v := ?_) rfl rfl (by kernel_rfl) (by kernel_rfl) (by kernel_rfl) (fun _ _ _ h => h) (by rfl) hHeld ?_ ?_
            rotate_left
            · rintro wh ⟨⟨x0, x1, x2, x3, x4⟩, e0, hqx, r0, r1, r2, r3, r4, r5⟩
              go_simp
              (try with_reducible rfl)
            simp only [Act.put, List.setIfInBounds_toArray, List.set_cons_zero, List.set_cons_succ]
            refine held_take (i := 1) (v := ?_) rfl rfl (by kernel_rfl) (by kernel_rfl) (by kernel_rfl) (fun _ _ _ h => h) (by rfl) hHeld ?_ ?_
            rotate_left
            · rintro wh ⟨⟨x0, x1, x2, x3, x4⟩, e0, hqx, r0, r1, r2, r3, r4, r5⟩
              go_simp
              (try with_reducible rfl)
            simp only [Act.put, List.setIfInBounds_toArray, List.set_cons_zero, List.set_cons_succ]
            refine held_take (i := 2) (v := ?_) rfl rfl (by kernel_rfl) (by kernel_rfl) (by kernel_rfl) (fun _ _ _ h => h) (by rfl) hHeld ?_ ?_
            rotate_left
            · rintro wh ⟨⟨x0, x1, x2, x3, x4⟩, e0, hqx, r0, r1, r2, r3, r4, r5⟩
              go_simp
              (try with_reducible rfl)
            simp only [Act.put, List.setIfInBounds_toArray, List.set_cons_zero, List.set_cons_succ]
            refine held_take (i := 3) (v := ?_) rfl rfl (by kernel_rfl) (by kernel_rfl) (by kernel_rfl) (fun _ _ _ h => h) (by rfl) hHeld ?_ ?_
            rotate_left
            · rintro wh ⟨⟨x0, x1, x2, x3, x4⟩, e0, hqx, r0, r1, r2, r3, r4, r5⟩
              go_simp
              (try with_reducible rfl)
            simp only [Act.put, List.setIfInBounds_toArray, List.set_cons_zero, List.set_cons_succ]
            refine held_take (i := 4) (v := ?_) rfl rfl (by kernel_rfl) (by kernel_rfl) (by kernel_rfl) (fun _ _ _ h => h) (by rfl) hHeld ?_ ?_
            rotate_left
            · rintro wh ⟨⟨x0, x1, x2, x3, x4⟩, e0, hqx, r0, r1, r2, r3, r4, r5⟩
              go_simp
              (try with_reducible rfl)
            simp only [Act.put, List.setIfInBounds_toArray, List.set_cons_zero, List.set_cons_succ]
            refine held_take (i := 5) (v := ?_) rfl rfl (by kernel_rfl) (by kernel_rfl) (by kernel_rfl) (fun _ _ _ h => h) (by rfl) hHeld ?_ ?_
            rotate_left
            · rintro wh ⟨⟨x0, x1, x2, x3, x4⟩, e0, hqx, r0, r1, r2, r3, r4, r5⟩
              go_simp
              (try with_reducible rfl)
            simp only [Act.put, List.setIfInBounds_toArray, List.set_cons_zero, List.set_cons_succ]
            refine held_take (i := 6) (v := ?_) rfl rfl (by kernel_rfl) (by kernel_rfl) (by kernel_rfl) (fun _ _ _ h => h) (by rfl) hHeld ?_ ?_
            rotate_left
            · rintro wh ⟨⟨x0, x1, x2, x3, x4⟩, e0, hqx, r0, r1, r2, r3, r4, r5⟩
              go_simp
              (try with_reducible rfl)
            simp only [Act.put, List.setIfInBounds_toArray, List.set_cons_zero, List.set_cons_succ]
            refine held_take (i := 7) (v := ?_) rfl rfl (by kernel_rfl) (by kernel_rfl) (by kernel_rfl) (fun _ _ _ h => h) (by rfl) hHeld ?_ ?_
            rotate_left
            · rintro wh ⟨⟨x0, x1, x2, x3, x4⟩, e0, hqx, r0, r1, r2, r3, r4, r5⟩
              go_simp
              (try with_reducible rfl)
            simp only [Act.put, List.setIfInBounds_toArray, List.set_cons_zero, List.set_cons_succ]
            refine held_take (i := 8) (v := ?_) rfl rfl (by kernel_rfl) (by kernel_rfl) (by kernel_rfl) (fun _ _ _ h => h) (by rfl) hHeld ?_ ?_
            rotate_left
            · rintro wh ⟨⟨x0, x1, x2, x3, x4⟩, e0, hqx, r0, r1, r2, r3, r4, r5⟩
              go_simp
              (try with_reducible rfl)
            simp only [Act.put, List.setIfInBounds_toArray, List.set_cons_zero, List.set_cons_succ]
            refine held_take (i := 9) (v := ?_) rfl rfl (by kernel_rfl) (by kernel_rfl) (by kernel_rfl) (fun _ _ _ h => h) (by rfl) hHeld ?_ ?_
            rotate_left
            · rintro wh ⟨⟨x0, x1, x2, x3, x4⟩, e0, hqx, r0, r1, r2, r3, r4, r5⟩
              go_simp
              (try with_reducible rfl)
            simp only [Act.put, List.setIfInBounds_toArray, List.set_cons_zero, List.set_cons_succ]
            refine held_take (i := 10) (v := ?_) rfl rfl (by kernel_rfl) (by kernel_rfl) (by kernel_rfl) (fun _ _ _ h => h) (by rfl) hHeld ?_ ?_
            rotate_left
            · rintro wh ⟨⟨x0, x1, x2, x3, x4⟩, e0, hqx, r0, r1, r2, r3, r4, r5⟩
              go_simp
              (try with_reducible rfl)
            simp only [Act.put, List.setIfInBounds_toArray, List.set_cons_zero, List.set_cons_succ]
            refine held_take (i := 11) (v := ?_) rfl rfl (by kernel_rfl) (by kernel_rfl) (by kernel_rfl) (fun _ _ _ h => h) (by rfl) hHeld ?_ ?_
            rotate_left
            · rintro wh ⟨⟨x0, x1, x2, x3, x4⟩, e0, hqx, r0, r1, r2, r3, r4, r5⟩
              go_simp
              (try with_reducible rfl)
            simp only [Act.put, List.setIfInBounds_toArray, List.set_cons_zero, List.set_cons_succ]
            refine held_take (i := 12) (v := ?_) rfl rfl (by kernel_rfl) (by kernel_rfl) (by kernel_rfl) (fun _ _ _ h => h) (by rfl) hHeld ?_ ?_
            rotate_left
            · rintro wh ⟨⟨x0, x1, x2, x3, x4⟩, e0, hqx, r0, r1, r2, r3, r4, r5⟩
              go_simp
              (try with_reducible rfl)
            simp only [Act.put, List.setIfInBounds_toArray, List.set_cons_zero, List.set_cons_succ]
            refine held_take (i := 13) (v := ?_) rfl rfl (by kernel_rfl) (by kernel_rfl) (by kernel_rfl) (fun _ _ _ h => h) (by rfl) hHeld ?_ ?_
            rotate_left
            · rintro wh ⟨⟨x0, x1, x2, x3, x4⟩, e0, hqx, r0, r1, r2, r3, r4, r5⟩
              go_simp
              (try with_reducible rfl)
            simp only [Act.put, List.setIfInBounds_toArray, List.set_cons_zero, List.set_cons_succ]
            refine held_take (i := 14) (v := ?_) rfl rfl (by kernel_rfl) (by kernel_rfl) (by kernel_rfl) (fun _ _ _ h => h) (by rfl) hHeld ?_ ?_
            rotate_left
            · rintro wh ⟨⟨x0, x1, x2, x3, x4⟩, e0, hqx, r0, r1, r2, r3, r4, r5⟩
              go_simp
              (try with_reducible rfl)
            simp only [Act.put, List.setIfInBounds_toArray, List.set_cons_zero, List.set_cons_succ]
            refine held_take (i := 15) (v := ?_) rfl rfl (by kernel_rfl) (by kernel_rfl) (by kernel_rfl) (fun _ _ _ h => h) (by rfl) hHeld ?_ ?_
            rotate_left
            · rintro wh ⟨⟨x0, x1, x2, x3, x4⟩, e0, hqx, r0, r1, r2, r3, r4, r5⟩
              go_simp
              (try with_reducible rfl)
            simp only [Act.put, List.setIfInBounds_toArray, List.set_cons_zero, List.set_cons_succ]
            refine held_take (i := 16) (v := ?_) rfl rfl (by kernel_rfl) (by kernel_rfl) (by kernel_rfl) (fun _ _ _ h => h) (by rfl) hHeld ?_ ?_
            rotate_left
            · rintro wh ⟨⟨x0, x1, x2, x3, x4⟩, e0, hqx, r0, r1, r2, r3, r4, r5⟩
              go_simp
              (try with_reducible rfl)
            simp only [Act.put, List.setIfInBounds_toArray, List.set_cons_zero, List.set_cons_succ]
            refine held_take (i := 17) (v := ?_) rfl rfl (by kernel_rfl) (by kernel_rfl) (by kernel_rfl) (fun _ _ _ h => h) (by rfl) hHeld ?_ ?_
            rotate_left
            · rintro wh ⟨⟨x0, x1, x2, x3, x4⟩, e0, hqx, r0, r1, r2, r3, r4, r5⟩
              go_simp
              (try with_reducible rfl)
            simp only [Act.put, List.setIfInBounds_toArray, List.set_cons_zero, List.set_cons_succ]
            refine held_take (i := 18) (v := ?_) rfl rfl (by kernel_rfl) (by kernel_rfl) (by kernel_rfl) (fun _ _ _ h => h) (by rfl) hHeld ?_ ?_
            rotate_left
            · rintro wh ⟨⟨x0, x1, x2, x3, x4⟩, e0, hqx, r0, r1, r2, r3, r4, r5⟩
              go_simp
              (try with_reducible rfl)
            simp only [Act.put, List.setIfInBounds_toArray, List.set_cons_zero, List.set_cons_succ]
            refine held_take (i := 19) (v := ?_) rfl rfl (by kernel_rfl) (by kernel_rfl) (by kernel_rfl) (fun _ _ _ h => h) (by rfl) hHeld ?_ ?_
            rotate_left
            · rintro wh ⟨⟨x0, x1, x2, x3, x4⟩, e0, hqx, r0, r1, r2, r3, r4, r5⟩
              go_simp
              (try with_reducible rfl)
            simp only [Act.put, List.setIfInBounds_toArray, List.set_cons_zero, List.set_cons_succ]
            refine held_take (i := 20) (v := ?_) rfl rfl (by kernel_rfl) (by kernel_rfl) (by kernel_rfl) (fun _ _ _ h => h) (by rfl) hHeld ?_ ?_
            rotate_left
            · rintro wh ⟨⟨x0, x1, x2, x3, x4⟩, e0, hqx, r0, r1, r2, r3, r4, r5⟩
              go_simp
              (try with_reducible rfl)
            simp only [Act.put, List.setIfInBounds_toArray, List.set_cons_zero, List.set_cons_succ]
            refine held_take (i := 21) (v := ?_) rfl rfl (by kernel_rfl) (by kernel_rfl) (by kernel_rfl) (fun _ _ _ h => h) (by rfl) hHeld ?_ ?_
            rotate_left
            · rintro wh ⟨⟨x0, x1, x2, x3, x4⟩, e0, hqx, r0, r1, r2, r3, r4, r5⟩
              go_simp
              (try with_reducible rfl)
            simp only [Act.put, List.setIfInBounds_toArray, List.set_cons_zero, List.set_cons_succ]
            refine held_take (i := 22) (v := ?_) rfl rfl (by kernel_rfl) (by kernel_rfl) (by kernel_rfl) (fun _ _ _ h => h) (by rfl) hHeld ?_ ?_
            rotate_left
            · rintro wh ⟨⟨x0, x1, x2, x3, x4⟩, e0, hqx, r0, r1, r2, r3, r4, r5⟩
              go_simp
              (try with_reducible rfl)
            simp only [Act.put, List.setIfInBounds_toArray, List.set_cons_zero, List.set_cons_succ]
            refine held_take (i := 23) (v := ?_) rfl rfl (by kernel_rfl) (by kernel_rfl) (by kernel_rfl) (fun _ _ _ h => h) (by rfl) hHeld ?_ ?_
            rotate_left
            · rintro wh ⟨⟨x0, x1, x2, x3, x4⟩, e0, hqx, r0, r1, r2, r3, r4, r5⟩
              go_simp
              (try with_reducible rfl)
            simp only [Act.put, List.setIfInBounds_toArray, List.set_cons_zero, List.set_cons_succ]
            refine held_take (i := 24) (v := ?_) rfl rfl (by kernel_rfl) (by kernel_rfl) (by kernel_rfl) (fun _ _ _ h => h) (by rfl) hHeld ?_ ?_
            rotate_left
            · rintro wh ⟨⟨x0, x1, x2, x3, x4⟩, e0, hqx, r0, r1, r2, r3, r4, r5⟩
              go_simp
              (try with_reducible rfl)
            simp only [Act.put, List.setIfInBounds_toArray, List.set_cons_zero, List.set_cons_succ]
            refine held_take (i := 25) (v := ?_) rfl rfl (by kernel_rfl) (by kernel_rfl) (by kernel_rfl) (fun _ _ _ h => h) (by rfl) hHeld ?_ ?_
            rotate_left
            · rintro wh ⟨⟨x0, x1, x2, x3, x4⟩, e0, hqx, r0, r1, r2, r3, r4, r5⟩
              go_simp
              (try with_reducible rfl)
            simp only [Act.put, List.setIfInBounds_toArray, List.set_cons_zero, List.set_cons_succ]
            refine held_take (i := 26) (v := ?_) rfl rfl (by kernel_rfl) (by kernel_rfl) (by kernel_rfl) (fun _ _ _ h => h) (by rfl) hHeld ?_ ?_
            rotate_left
            · rintro wh ⟨⟨x0, x1, x2, x3, x4⟩, e0, hqx, r0, r1, r2, r3, r4, r5⟩
              go_simp
              (try with_reducible rfl)
            simp only [Act.put, List.setIfInBounds_toArray, List.set_cons_zero, List.set_cons_succ]
            refine held_take (i := 27) (v := ?_) rfl rfl (by kernel_rfl) (by kernel_rfl) (by kernel_rfl) (fun _ _ _ h => h) (by rfl) hHeld ?_ ?_
            rotate_left
            · rintro wh ⟨⟨x0, x1, x2, x3, x4⟩, e0, hqx, r0, r1, r2, r3, r4, r5⟩
              go_simp
              (try with_reducible rfl)
            simp only [Act.put, List.setIfInBounds_toArray, List.set_cons_zero, List.set_cons_succ]
            refine held_take (i := 28) (v := ?_) rfl rfl (by kernel_rfl) (by kernel_rfl) (by kernel_rfl) (fun _ _ _ h => h) (by rfl) hHeld ?_ ?_
            rotate_left
            · rintro wh ⟨⟨x0, x1, x2, x3, x4⟩, e0, hqx, r0, r1, r2, r3, r4, r5⟩
              go_simp
              (try with_reducible rfl)
            simp only [Act.put, List.setIfInBounds_toArray, List.set_cons_zero, List.set_cons_succ]
            refine held_take (i := 29) (v := ?_) rfl rfl (by kernel_rfl) (by kernel_rfl) (by kernel_rfl) (fun _ _ _ h => h) (by rfl) hHeld ?_ ?_
            rotate_left
            · rintro wh ⟨⟨x0, x1, x2, x3, x4⟩, e0, hqx, r0, r1, r2, r3, r4, r5⟩
              go_simp
              (try with_reducible rfl)
            simp only [Act.put, List.setIfInBounds_toArray, List.set_cons_zero, List.set_cons_succ]
            refine held_take (i := 30) (v := ?_) rfl rfl (by kernel_rfl) (by kernel_rfl) (by kernel_rfl) (fun _ _ _ h => h) (by rfl) hHeld ?_ ?_
            rotate_left
            · rintro wh ⟨⟨x0, x1, x2, x3, x4⟩, e0, hqx, r0, r1, r2, r3, r4, r5⟩
              go_simp
              (try with_reducible rfl)
            simp only [Act.put, List.setIfInBounds_toArray, List.set_cons_zero, List.set_cons_succ]
            refine held_take (i := 31) (v := ?_) rfl rfl (by kernel_rfl) (by kernel_rfl) (by kernel_rfl) (fun _ _ _ h => h) (by rfl) hHeld ?_ ?_
            rotate_left
            · rintro wh ⟨⟨x0, x1, x2, x3, x4⟩, e0, hqx, r0, r1, r2, r3, r4, r5⟩
              go_simp
              (try with_reducible rfl)
            simp only [Act.put, List.setIfInBounds_toArray, List.set_cons_zero, List.set_cons_succ]
            refine held_take (i := 32) (v := ?_) rfl rfl (by kernel_rfl) (by kernel_rfl) (by kernel_rfl) (fun _ _ _ h => h) (by rfl) hHeld ?_ ?_
            rotate_left
            · rintro wh ⟨⟨x0, x1, x2, x3, x4⟩, e0, hqx, r0, r1, r2, r3, r4, r5⟩
              go_simp
              (try with_reducible rfl)
            simp only [Act.put, List.setIfInBounds_toArray, List.set_cons_zero, List.set_cons_succ]
            refine held_take (i := 33) (v := ?_) rfl rfl (by kernel_rfl) (by kernel_rfl) (by kernel_rfl) (fun _ _ _ h => h) (by rfl) hHeld ?_ ?_
            rotate_left
            · rintro wh ⟨⟨x0, x1, x2, x3, x4⟩, e0, hqx, r0, r1, r2, r3, r4, r5⟩
              go_simp
              (try with_reducible rfl)
            simp only [Act.put, List.setIfInBounds_toArray, List.set_cons_zero, List.set_cons_succ]
            refine held_take (i := 34) (v := ?_) rfl rfl (by kernel_rfl) (by kernel_rfl) (by kernel_rfl) (fun _ _ _ h => h) (by rfl) hHeld ?_ ?_
            rotate_left
            · rintro wh ⟨⟨x0, x1, x2, x3, x4⟩, e0, hqx, r0, r1, r2, r3, r4, r5⟩
              go_simp
              (try with_reducible rfl)
            simp only [Act.put, List.setIfInBounds_toArray, List.set_cons_zero, List.set_cons_succ]
            refine held_take (i := 35) (v := ?_) rfl rfl (by kernel_rfl) (by kernel_rfl) (by kernel_rfl) (fun _ _ _ h => h) (by rfl) hHeld ?_ ?_
            rotate_left
            · rintro wh ⟨⟨x0, x1, x2, x3, x4⟩, e0, hqx, r0, r1, r2, r3, r4, r5⟩
              go_simp
              (try with_reducible rfl)
            simp only [Act.put, List.setIfInBounds_toArray, List.set_cons_zero, List.set_cons_succ]
            refine held_take (i := 36) (v := ?_) rfl rfl (by kernel_rfl) (by kernel_rfl) (by kernel_rfl) (fun _ _ _ h => h) (by rfl) hHeld ?_ ?_
            rotate_left
            · rintro wh ⟨⟨x0, x1, x2, x3, x4⟩, e0, hqx, r0, r1, r2, r3, r4, r5⟩
              go_simp
              (try with_reducible rfl)
            simp only [Act.put, List.setIfInBounds_toArray, List.set_cons_zero, List.set_cons_succ]
            refine held_take (i := 37) (v := ?_) rfl rfl (by kernel_rfl) (by kernel_rfl) (by kernel_rfl) (fun _ _ _ h => h) (by rfl) hHeld ?_ ?_
            rotate_left
            · rintro wh ⟨⟨x0, x1, x2, x3, x4⟩, e0, hqx, r0, r1, r2, r3, r4, r5⟩
              go_simp
              (try with_reducible rfl)
            simp only [Act.put, List.setIfInBounds_toArray, List.set_cons_zero, List.set_cons_succ]
            refine held_take (i := 38) (v := ?_) rfl rfl (by kernel_rfl) (by kernel_rfl) (by kernel_rfl) (fun _ _ _ h => h) (by rfl) hHeld ?_ ?_
            rotate_left
            · rintro wh ⟨⟨x0, x1, x2, x3, x4⟩, e0, hqx, r0, r1, r2, r3, r4, r5⟩
              go_simp
              (try with_reducible rfl)
            simp only [Act.put, List.setIfInBounds_toArray, List.set_cons_zero, List.set_cons_succ]
            refine held_take (i := 39) (v := ?_) rfl rfl (by kernel_rfl) (by kernel_rfl) (by kernel_rfl) (fun _ _ _ h => h) (by rfl) hHeld ?_ ?_
            rotate_left
            · rintro wh ⟨⟨x0, x1, x2, x3, x4⟩, e0, hqx, r0, r1, r2, r3, r4, r5⟩
              go_simp
              (try with_reducible rfl)
            simp only [Act.put, List.setIfInBounds_toArray, List.set_cons_zero, List.set_cons_succ]
            refine held_take (i := 40) (v := ?_) rfl rfl (by kernel_rfl) (by kernel_rfl) (by kernel_rfl) (fun _ _ _ h => h) (by rfl) hHeld ?_ ?_
            rotate_left
            · rintro wh ⟨⟨x0, x1, x2, x3, x4⟩, e0, hqx, r0, r1, r2, r3, r4, r5⟩
              go_simp
              (try with_reducible rfl)
            simp only [Act.put, List.setIfInBounds_toArray, List.set_cons_zero, List.set_cons_succ]
            refine held_take (i := 41) (v := ?_) rfl rfl (by kernel_rfl) (by kernel_rfl) (by kernel_rfl) (fun _ _ _ h => h) (by rfl) hHeld ?_ ?_
            rotate_left
            · rintro wh ⟨⟨x0, x1, x2, x3, x4⟩, e0, hqx, r0, r1, r2, r3, r4, r5⟩
              go_simp
              (try with_reducible rfl)
            simp only [Act.put, List.setIfInBounds_toArray, List.set_cons_zero, List.set_cons_succ]
            refine held_take (i := 42) (v := ?_) rfl rfl (by kernel_rfl) (by kernel_rfl) (by kernel_rfl) (fun _ _ _ h => h) (by rfl) hHeld ?_ ?_
            rotate_left
            · rintro wh ⟨⟨x0, x1, x2, x3, x4⟩, e0, hqx, r0, r1, r2, r3, r4, r5⟩
              go_simp
              (try with_reducible rfl)
            simp only [Act.put, List.setIfInBounds_toArray, List.set_cons_zero, List.set_cons_succ]
            refine held_take (i := 43) (v := ?_) rfl rfl (by kernel_rfl) (by kernel_rfl) (by kernel_rfl) (fun _ _ _ h => h) (by rfl) hHeld ?_ ?_
            rotate_left
            · rintro wh ⟨⟨x0, x1, x2, x3, x4⟩, e0, hqx, r0, r1, r2, r3, r4, r5⟩
              go_simp
              (try with_reducible rfl)
            simp only [Act.put, List.setIfInBounds_toArray, List.set_cons_zero, List.set_cons_succ]
            refine held_take (i := 44) (v := ?_) rfl rfl (by kernel_rfl) (by kernel_rfl) (by kernel_rfl) (fun _ _ _ h => h) (by rfl) hHeld ?_ ?_
            rotate_left
            · rintro wh ⟨⟨x0, x1, x2, x3, x4⟩, e0, hqx, r0, r1, r2, r3, r4, r5⟩
              go_simp
              (try with_reducible rfl)
            simp only [Act.put, List.setIfInBounds_toArray, List.set_cons_zero, List.set_cons_succ]
            refine held_take (i := 45) (v := ?_) rfl rfl (by kernel_rfl) (by kernel_rfl) (by kernel_rfl) (fun _ _ _ h => h) (by rfl) hHeld ?_ ?_
            rotate_left
            · rintro wh ⟨⟨x0, x1, x2, x3, x4⟩, e0, hqx, r0, r1, r2, r3, r4, r5⟩
              go_simp
              (try with_reducible rfl)
            simp only [Act.put, List.setIfInBounds_toArray, List.set_cons_zero, List.set_cons_succ]
            refine held_take (i := 46) (v := ?_) rfl rfl (by kernel_rfl) (by kernel_rfl) (by kernel_rfl) (fun _ _ _ h => h) (by rfl) hHeld ?_ ?_
            rotate_left
            · rintro wh ⟨⟨x0, x1, x2, x3, x4⟩, e0, hqx, r0, r1, r2, r3, r4, r5⟩
              go_simp
              (try with_reducible rfl)
            simp only [Act.put, List.setIfInBounds_toArray, List.set_cons_zero, List.set_cons_succ]
            refine held_take (i := 47) (v := ?_) rfl rfl (by kernel_rfl) (by kernel_rfl) (by kernel_rfl) (fun _ _ _ h => h) (by rfl) hHeld ?_ ?_
            rotate_left
            · rintro wh ⟨⟨x0, x1, x2, x3, x4⟩, e0, hqx, r0, r1, r2, r3, r4, r5⟩
              go_simp
              (try with_reducible rfl)
            simp only [Act.put, List.setIfInBounds_toArray, List.set_cons_zero, List.set_cons_succ]
            refine held_take (i := 48) (v := ?_) rfl rfl (by kernel_rfl) (by kernel_rfl) (by kernel_rfl) (fun _ _ _ h => h) (by rfl) hHeld ?_ ?_
            rotate_left
            · rintro wh ⟨⟨x0, x1, x2, x3, x4⟩, e0, hqx, r0, r1, r2, r3, r4, r5⟩
              go_simp
              (try with_reducible rfl)
            simp only [Act.put, List.setIfInBounds_toArray, List.set_cons_zero, List.set_cons_succ]
            refine held_take (i := 49) (v := ?_) rfl rfl (by kernel_rfl) (by kernel_rfl) (by kernel_rfl) (fun _ _ _ h => h) (by rfl) hHeld ?_ ?_
            rotate_left
            · rintro wh ⟨⟨x0, x1, x2, x3, x4⟩, e0, hqx, r0, r1, r2, r3, r4, r5⟩
              go_simp
              (try with_reducible rfl)
            simp only [Act.put, List.setIfInBounds_toArray, List.set_cons_zero, List.set_cons_succ]
            refine held_take (i := 50) (v := ?_) rfl rfl (by kernel_rfl) (by kernel_rfl) (by kernel_rfl) (fun _ _ _ h => h) (by rfl) hHeld ?_ ?_
            rotate_left
            · rintro wh ⟨⟨x0, x1, x2, x3, x4⟩, e0, hqx, r0, r1, r2, r3, r4, r5⟩
              go_simp
              (try with_reducible rfl)
            simp only [Act.put, List.setIfInBounds_toArray, List.set_cons_zero, List.set_cons_succ]
            refine held_take (i := 51) (v := ?_) rfl rfl (by kernel_rfl) (by kernel_rfl) (by kernel_rfl) (fun _ _ _ h => h) (by rfl) hHeld ?_ ?_
            rotate_left
            · rintro wh ⟨⟨x0, x1, x2, x3, x4⟩, e0, hqx, r0, r1, r2, r3, r4, r5⟩
              go_simp
              (try with_reducible rfl)
            simp only [Act.put, List.setIfInBounds_toArray, List.set_cons_zero, List.set_cons_succ]
            refine held_take (i := 52) (v := ?_) rfl rfl (by kernel_rfl) (by kernel_rfl) (by kernel_rfl) (fun _ _ _ h => h) (by rfl) hHeld ?_ ?_
            rotate_left
            · rintro wh ⟨⟨x0, x1, x2, x3, x4⟩, e0, hqx, r0, r1, r2, r3, r4, r5⟩
              go_simp
              (try with_reducible rfl)
            simp only [Act.put, List.setIfInBounds_toArray, List.set_cons_zero, List.set_cons_succ]
            refine held_take (i := 53) (v := ?_) rfl rfl (by kernel_rfl) (by kernel_rfl) (by kernel_rfl) (fun _ _ _ h => h) (by rfl) hHeld ?_ ?_
            rotate_left
            · rintro wh ⟨⟨x0, x1, x2, x3, x4⟩, e0, hqx, r0, r1, r2, r3, r4, r5⟩
              go_simp
              (try with_reducible rfl)
            simp only [Act.put, List.setIfInBounds_toArray, List.set_cons_zero, List.set_cons_succ]
            refine held_take (i := 54) (v := ?_) rfl rfl (by kernel_rfl) (by kernel_rfl) (by kernel_rfl) (fun _ _ _ h => h) (by rfl) hHeld ?_ ?_
            rotate_left
            · rintro wh ⟨⟨x0, x1, x2, x3, x4⟩, e0, hqx, r0, r1, r2, r3, r4, r5⟩
              go_simp
              (try with_reducible rfl)
            simp only [Act.put, List.setIfInBounds_toArray, List.set_cons_zero, List.set_cons_succ]
            refine held_take (i := 55) (v := ?_) rfl rfl (by kernel_rfl) (by kernel_rfl) (by kernel_rfl) (fun _ _ _ h => h) (by rfl) hHeld ?_ ?_
            rotate_left
            · rintro wh ⟨⟨x0, x1, x2, x3, x4⟩, e0, hqx, r0, r1, r2, r3, r4, r5⟩
              go_simp
              (try with_reducible rfl)
            simp only [Act.put, List.setIfInBounds_toArray, List.set_cons_zero, List.set_cons_succ]
            refine held_take (i := 56) (v := ?_) rfl rfl (by kernel_rfl) (by kernel_rfl) (by kernel_rfl) (fun _ _ _ h => h) (by rfl) hHeld ?_ ?_
            rotate_left
            · rintro wh ⟨⟨x0, x1, x2, x3, x4⟩, e0, hqx, r0, r1, r2, r3, r4, r5⟩
              go_simp
              (try with_reducible rfl)
            simp only [Act.put, List.setIfInBounds_toArray, List.set_cons_zero, List.set_cons_succ]
            refine held_take (i := 57) (v := ?_) rfl rfl (by kernel_rfl) (by kernel_rfl) (by kernel_rfl) (fun _ _ _ h => h) (by rfl) hHeld ?_ ?_
            rotate_left
            · rintro wh ⟨⟨x0, x1, x2, x3, x4⟩, e0, hqx, r0, r1, r2, r3, r4, r5⟩
              go_simp
              (try with_reducible rfl)
            simp only [Act.put, List.setIfInBounds_toArray, List.set_cons_zero, List.set_cons_succ]
            refine held_take (i := 58) (v := ?_) rfl rfl (by kernel_rfl) (by kernel_rfl) (by kernel_rfl) (fun _ _ _ h => h) (by rfl) hHeld ?_ ?_
            rotate_left
            · rintro wh ⟨⟨x0, x1, x2, x3, x4⟩, e0, hqx, r0, r1, r2, r3, r4, r5⟩
              go_simp
              (try with_reducible rfl)
            simp only [Act.put, List.setIfInBounds_toArray, List.set_cons_zero, List.set_cons_succ]
            refine held_take (i := 59) (v := ?_) rfl rfl (by kernel_rfl) (by kernel_rfl) (by kernel_rfl) (fun _ _ _ h => h) (by rfl) hHeld ?_ ?_
            rotate_left
            · rintro wh ⟨⟨x0, x1, x2, x3, x4⟩, e0, hqx, r0, r1, r2, r3, r4, r5⟩
              go_simp
              (try with_reducible rfl)
            simp only [Act.put, List.setIfInBounds_toArray, List.set_cons_zero, List.set_cons_succ]
            refine held_take (i := 60) (v := ?_) rfl rfl (by kernel_rfl) (by kernel_rfl) (by kernel_rfl) (fun _ _ _ h => h) (by rfl) hHeld ?_ ?_
            rotate_left
            · rintro wh ⟨⟨x0, x1, x2, x3, x4⟩, e0, hqx, r0, r1, r2, r3, r4, r5⟩
              go_simp
              (try with_reducible rfl)
            simp only [Act.put, List.setIfInBounds_toArray, List.set_cons_zero, List.set_cons_succ]
            refine held_take (i := 61) (v := ?_) rfl rfl (by kernel_rfl) (by kernel_rfl) (by kernel_rfl) (fun _ _ _ h => h) (by rfl) hHeld ?_ ?_
            rotate_left
            · rintro wh ⟨⟨x0, x1, x2, x3, x4⟩, e0, hqx, r0, r1, r2, r3, r4, r5⟩
              go_simp
              (try with_reducible rfl)
            simp only [Act.put, List.setIfInBounds_toArray, List.set_cons_zero, List.set_cons_succ]
            refine held_take (i := 62) (v := ?_) rfl rfl (by kernel_rfl) (by kernel_rfl) (by kernel_rfl) (fun _ _ _ h => h) (by rfl) hHeld ?_ ?_
            rotate_left
            · rintro wh ⟨⟨x0, x1, x2, x3, x4⟩, e0, hqx, r0, r1, r2, r3, r4, r5⟩
              go_simp
              (try with_reducible rfl)
            simp only [Act.put, List.setIfInBounds_toArray, List.set_cons_zero, List.set_cons_succ]
            refine held_take (i := 63) (v := ?_) rfl rfl (by kernel_rfl) (by kernel_rfl) (by kernel_rfl) (fun _ _ _ h => h) (by rfl) hHeld ?_ ?_
            rotate_left
            · rintro wh ⟨⟨x0, x1, x2, x3, x4⟩, e0, hqx, r0, r1, r2, r3, r4, r5⟩
              go_simp
              (try with_reducible rfl)
            simp only [Act.put, List.setIfInBounds_toArray, List.set_cons_zero, List.set_cons_succ]
            refine held_take (i := 64) (v := ?_) rfl rfl (by kernel_rfl) (by kernel_rfl) (by kernel_rfl) (fun _ _ _ h => h) (by rfl) hHeld ?_ ?_
            rotate_left
            · rintro wh ⟨⟨x0, x1, x2, x3, x4⟩, e0, hqx, r0, r1, r2, r3, r4, r5⟩
              go_simp
              (try with_reducible rfl)
            simp only [Act.put, List.setIfInBounds_toArray, List.set_cons_zero, List.set_cons_succ]
            refine held_take (i := 65) (v := ?_) rfl rfl (by kernel_rfl) (by kernel_rfl) (by kernel_rfl) (fun _ _ _ h => h) (by rfl) hHeld ?_ ?_
            rotate_left
            · rintro wh ⟨⟨x0, x1, x2, x3, x4⟩, e0, hqx, r0, r1, r2, r3, r4, r5⟩
              go_simp
              (try with_reducible rfl)
            simp only [Act.put, List.setIfInBounds_toArray, List.set_cons_zero, List.set_cons_succ]
            refine held_take (i := 66) (v := ?_) rfl rfl (by kernel_rfl) (by kernel_rfl) (by kernel_rfl) (fun _ _ _ h => h) (by rfl) hHeld ?_ ?_
            rotate_left
            · rintro wh ⟨⟨x0, x1, x2, x3, x4⟩, e0, hqx, r0, r1, r2, r3, r4, r5⟩
              go_simp
              (try with_reducible rfl)
            simp only [Act.put, List.setIfInBounds_toArray, List.set_cons_zero, List.set_cons_succ]
            refine held_step (i := 67) rfl (by kernel_rfl) (fun K hK => ?_)
            go_simp; refine (KSM.out _ ((Below.refl wb.heap.size wb).drew)).mono ?_; rintro e u1 ⟨rfl, hb⟩; have hq1 : Below wb.heap.size wb u1 := ((Below.refl wb.heap.size wb).drew).trans (hb.mono ((Below.refl wb.heap.size wb).drew).size); have HB1' := Lib.hid hq1; clear hb hq1
            refine hK.out _ _ (SK2.out _ HB1'.out) (fun hHeld => ?_)
            clear hK K
            (try simp only [Act.put, List.setIfInBounds_toArray])
            refine held_take (i := 68) (v := ?_) rfl rfl (by kernel_rfl) (by kernel_rfl) (by kernel_rfl) (fun _ _ _ h => h) (by rfl) hHeld ?_ ?_
            rotate_left
            · rintro wh ⟨⟨x0, x1, x2, x3, x4⟩, e0, hqx, r0, r1, r2, r3, r4, r5⟩
              go_simp
              (try with_reducible rfl)
            simp only [Act.put, List.setIfInBounds_toArray, List.set_cons_zero, List.set_cons_succ]
            refine held_take (i := 69) (v := ?_) rfl rfl (by kernel_rfl) (by kernel_rfl) (by kernel_rfl) (fun _ _ _ h => h) (by rfl) hHeld ?_ ?_
            rotate_left
            · rintro wh ⟨⟨x0, x1, x2, x3, x4⟩, e0, hqx, r0, r1, r2, r3, r4, r5⟩
              go_simp
              (try with_reducible rfl)
            simp only [Act.put, List.setIfInBounds_toArray, List.set_cons_zero, List.set_cons_succ]
            refine wpAnyH_done (by kernel_rfl) ?_ _
            have HBY := Lib.hid (HBX.out.trans (HB1'.out.mono HBX.out.size))
            clear HB1' HBX SK2 KSM hHeld
            go_wp2
            go_roundw
            case rel => exact ⟨j + 1, by omega, by go_num, HBY⟩
            case measure => (simp [intOf]; try omega)
        · as_aux_lemma =>
            obtain rfl : j = M := by omega
            have HS5 := Lib.hid (HS4.out.later HW.out)
            have HZ5 := Lib.hid (HZ4.out.later HW.out)
            obtain ⟨QL, hQL⟩ : ∃ QL, quietL qs S' G (l', ac) (op.s.lv, op.s.c) op.now = QL := ⟨_, rfl⟩
            have hQL2 : quietL qs R' G (l', ac) (op.s.lv, op.s.c) op.now = QL := by rw [← quietL_same HSL'.out, hQL]
            have hQn : QL.length ≤ 61 := by rw [← hQL]; exact Nat.le_trans (quiet_len _ _ _ _ _ _) (by rw [HME.out]; exact hM)
            have KQ1 : Hid (∀ W, Below wr.heap.size wr W → Calls Tryz.prog 29 #[.pointer (some ⟨lp, 0, none⟩), .agg #[.slice a0 m0 c0, .slice a1 m1 c1, .slice a2 m2 c2, .slice a3 qs.length c3, .slice a4 m4 c4, .slice a5 m5 c5], .agg #[.string s', .slice ga G.length gc, .int .i64 l', .int .u32 ac, .int .i64 f', .int .i64 t'], .agg #[.int .i64 op.s.lv, .int .u32 op.s.c], .int .i64 op.now] W
                fun e w' => ∃ qv, e = .returned qv ∧ IntsAt w' qv QL ∧ Below W.heap.size W w') := Lib.hid (fun W hW => by
              have hx := HS5.out.later hW
              have k := quiet_own (a0, m0, c0) (a1, m1, c1) (a2, m2, c2) (a4, m4, c4) (a5, m5, c5) qs (.slice a3 qs.length c3) s' G (.slice ga G.length gc) l' ac f' t' op.s.lv op.s.c op.now lp m n' S' lst' W hx.s (RdAt.later HN.out hx.bl) (Nat.le_trans hNL (by decide)) hx.f (by omega) HFF.out
              rw [hQL] at k
              exact k.mono (fun e w' ⟨qv, he, hi, hb, _⟩ => ⟨qv, he, hi, hb⟩))
            have KQ2 : Hid (∀ W, Below wr.heap.size wr W → Calls Tryz.prog 40 #[.pointer (some ⟨q, 0, none⟩), .agg #[.slice a0 m0 c0, .slice a1 m1 c1, .slice a2 m2 c2, .slice a3 qs.length c3, .slice a4 m4 c4, .slice a5 m5 c5], .agg #[.string s', .slice ga G.length gc, .int .i64 l', .int .u32 ac, .int .i64 f', .int .i64 t'], .agg #[.int .i64 op.s.lv, .int .u32 op.s.c], .int .i64 op.now] W
                fun e w' => ∃ qv, e = .returned qv ∧ IntsAt w' qv QL ∧ Below W.heap.size W w') := Lib.hid (fun W hW => by
              have hx := HS5.out.later hW
              have k := r10quiet_any (a0, m0, c0) (a1, m1, c1) (a2, m2, c2) (a4, m4, c4) (a5, m5, c5) qs (.slice a3 qs.length c3) s' G (.slice ga G.length gc) l' ac f' t' op.s.lv op.s.c op.now q w.heap.size R' lst' _ W hx.r (RdAt.later HN.out hx.bl) (Nat.le_trans hNL (by decide)) hx.f (by omega) HNF.out hf3 hoc HRC'.out (fun n => HVAL.out qs (l', ac) (op.s.lv, op.s.c) n)
              rw [hQL2] at k
              exact k.mono (fun e w' ⟨qv, he, hi, hb⟩ => ⟨qv, he, hi.out, hb⟩))
            have SK : Hid (∀ W', Below wr.heap.size wr W' → C6 w.heap.size (.slice a0 m0 c0) (.slice a1 m1 c1) (.slice a2 m2 c2) (.slice a3 qs.length c3) (.slice a4 m4 c4) (.slice a5 m5 c5) W' ∧ C6 gb (.string s') (.slice ga G.length gc) (.int .i64 l') (.int .u32 ac) (.int .i64 f') (.int .i64 t') W' ∧ C6 (gb + 1) (.string s') (.slice ga G.length gc) (.int .i64 l') (.int .u32 ac) (.int .i64 f') (.int .i64 t') W' ∧ C9 ox (.int .i64 op.kd) (.int .i64 op.id) (.int .i64 op.now) (.int .i64 op.sid) (.slice op.s.mv.1 op.s.mv.2.1 op.s.mv.2.2) (.int .i64 op.s.fr) (.int .i64 op.s.til) (.int .i64 op.s.lv) (.int .u32 op.s.c) W') := Lib.hid (fun W' h => ⟨(HS5.out.later h).p, (HS5.out.later h).x, (HS5.out.later h).g, HZ5.out.later h⟩)
            clear hQL hQL2 HID4 HRW4 HS4 HZ4 HQ4 HW
            go_upto_region 22 with fail
            refine wp_region_held_drew (S := (fun W' => C6 w.heap.size (.slice a0 m0 c0) (.slice a1 m1 c1) (.slice a2 m2 c2) (.slice a3 qs.length c3) (.slice a4 m4 c4) (.slice a5 m5 c5) W' ∧ C6 gb (.string s') (.slice ga G.length gc) (.int .i64 l') (.int .u32 ac) (.int .i64 f') (.int .i64 t') W' ∧ C6 (gb + 1) (.string s') (.slice ga G.length gc) (.int .i64 l') (.int .u32 ac) (.int .i64 f') (.int .i64 t') W' ∧ C9 ox (.int .i64 op.kd) (.int .i64 op.id) (.int .i64 op.now) (.int .i64 op.sid) (.slice op.s.mv.1 op.s.mv.2.1 op.s.mv.2.2) (.int .i64 op.s.fr) (.int .i64 op.s.til) (.int .i64 op.s.lv) (.int .u32 op.s.c) W')) (by kernel_rfl) (SK.out _ ((Below.refl wr.heap.size wr).drew)) (fun hHeld => ?_)
            refine held_take (i := 0) (v := ?_) rfl rfl (by kernel_rfl) (by kernel_rfl) (by kernel_rfl) (fun _ _ _ h => h) (by rfl) hHeld ?_ ?_
            rotate_left
            · rintro wh ⟨⟨p0, p1, p2, p3, p4, p5⟩, ⟨x0, x1, x2, x3, x4, x5⟩, ⟨z0, z1, z2, z3, z4, z5⟩, ⟨y0, y1, y2, y3, y4, y5, y6, y7, y8⟩⟩
              go_simp
              (try with_reducible rfl)
            simp only [Act.put, List.setIfInBounds_toArray, List.set_cons_zero, List.set_cons_succ]
            refine held_take (i := 1) (v := ?_) rfl rfl (by kernel_rfl) (by kernel_rfl) (by kernel_rfl) (fun _ _ _ h => h) (by rfl) hHeld ?_ ?_
            rotate_left
            · rintro wh ⟨⟨p0, p1, p2, p3, p4, p5⟩, ⟨x0, x1, x2, x3, x4, x5⟩, ⟨z0, z1, z2, z3, z4, z5⟩, ⟨y0, y1, y2, y3, y4, y5, y6, y7, y8⟩⟩
              go_simp
              (try with_reducible rfl)
            simp only [Act.put, List.setIfInBounds_toArray, List.set_cons_zero, List.set_cons_succ]
            refine held_take (i := 2) (v := ?_) rfl rfl (by kernel_rfl) (by kernel_rfl) (by kernel_rfl) (fun _ _ _ h => h) (by rfl) hHeld ?_ ?_
            rotate_left
            · rintro wh ⟨⟨p0, p1, p2, p3, p4, p5⟩, ⟨x0, x1, x2, x3, x4, x5⟩, ⟨z0, z1, z2, z3, z4, z5⟩, ⟨y0, y1, y2, y3, y4, y5, y6, y7, y8⟩⟩
              go_simp
              (try with_reducible rfl)
            simp only [Act.put, List.setIfInBounds_toArray, List.set_cons_zero, List.set_cons_succ]
            refine held_take (i := 3) (v := ?_) rfl rfl (by kernel_rfl) (by kernel_rfl) (by kernel_rfl) (fun _ _ _ h => h) (by rfl) hHeld ?_ ?_
            rotate_left
            · rintro wh ⟨⟨p0, p1, p2, p3, p4, p5⟩, ⟨x0, x1, x2, x3, x4, x5⟩, ⟨z0, z1, z2, z3, z4, z5⟩, ⟨y0, y1, y2, y3, y4, y5, y6, y7, y8⟩⟩
              go_simp
              (try with_reducible rfl)
            simp only [Act.put, List.setIfInBounds_toArray, List.set_cons_zero, List.set_cons_succ]
            refine held_take (i := 4) (v := ?_) rfl rfl (by kernel_rfl) (by kernel_rfl) (by kernel_rfl) (fun _ _ _ h => h) (by rfl) hHeld ?_ ?_
            rotate_left
            · rintro wh ⟨⟨p0, p1, p2, p3, p4, p5⟩, ⟨x0, x1, x2, x3, x4, x5⟩, ⟨z0, z1, z2, z3, z4, z5⟩, ⟨y0, y1, y2, y3, y4, y5, y6, y7, y8⟩⟩
              go_simp
              (try with_reducible rfl)
            simp only [Act.put, List.setIfInBounds_toArray, List.set_cons_zero, List.set_cons_succ]
            refine held_take (i := 5) (v := ?_) rfl rfl (by kernel_rfl) (by kernel_rfl) (by kernel_rfl) (fun _ _ _ h => h) (by rfl) hHeld ?_ ?_
            rotate_left
            · rintro wh ⟨⟨p0, p1, p2, p3, p4, p5⟩, ⟨x0, x1, x2, x3, x4, x5⟩, ⟨z0, z1, z2, z3, z4, z5⟩, ⟨y0, y1, y2, y3, y4, y5, y6, y7, y8⟩⟩
              go_simp
              (try with_reducible rfl)
            simp only [Act.put, List.setIfInBounds_toArray, List.set_cons_zero, List.set_cons_succ]
            refine held_take (i := 6) (v := ?_) rfl rfl (by kernel_rfl) (by kernel_rfl) (by kernel_rfl) (fun _ _ _ h => h) (by rfl) hHeld ?_ ?_
            rotate_left
            · rintro wh ⟨⟨p0, p1, p2, p3, p4, p5⟩, ⟨x0, x1, x2, x3, x4, x5⟩, ⟨z0, z1, z2, z3, z4, z5⟩, ⟨y0, y1, y2, y3, y4, y5, y6, y7, y8⟩⟩
              go_simp
              (try with_reducible rfl)
            simp only [Act.put, List.setIfInBounds_toArray, List.set_cons_zero, List.set_cons_succ]
            refine held_take (i := 7) (v := ?_) rfl rfl (by kernel_rfl) (by kernel_rfl) (by kernel_rfl) (fun _ _ _ h => h) (by rfl) hHeld ?_ ?_
            rotate_left
            · rintro wh ⟨⟨p0, p1, p2, p3, p4, p5⟩, ⟨x0, x1, x2, x3, x4, x5⟩, ⟨z0, z1, z2, z3, z4, z5⟩, ⟨y0, y1, y2, y3, y4, y5, y6, y7, y8⟩⟩
              go_simp
              (try with_reducible rfl)
            simp only [Act.put, List.setIfInBounds_toArray, List.set_cons_zero, List.set_cons_succ]
            refine held_take (i := 9) (v := ?_) rfl rfl (by kernel_rfl) (by kernel_rfl) (by kernel_rfl) (fun _ _ _ h => h) (by rfl) hHeld ?_ ?_
            rotate_left
            · rintro wh ⟨⟨p0, p1, p2, p3, p4, p5⟩, ⟨x0, x1, x2, x3, x4, x5⟩, ⟨z0, z1, z2, z3, z4, z5⟩, ⟨y0, y1, y2, y3, y4, y5, y6, y7, y8⟩⟩
              go_simp
              (try with_reducible rfl)
            simp only [Act.put, List.setIfInBounds_toArray, List.set_cons_zero, List.set_cons_succ]
            refine held_take (i := 10) (v := ?_) rfl rfl (by kernel_rfl) (by kernel_rfl) (by kernel_rfl) (fun _ _ _ h => h) (by rfl) hHeld ?_ ?_
            rotate_left
            · rintro wh ⟨⟨p0, p1, p2, p3, p4, p5⟩, ⟨x0, x1, x2, x3, x4, x5⟩, ⟨z0, z1, z2, z3, z4, z5⟩, ⟨y0, y1, y2, y3, y4, y5, y6, y7, y8⟩⟩
              go_simp
              (try with_reducible rfl)
            simp only [Act.put, List.setIfInBounds_toArray, List.set_cons_zero, List.set_cons_succ]
            refine held_take (i := 11) (v := ?_) rfl rfl (by kernel_rfl) (by kernel_rfl) (by kernel_rfl) (fun _ _ _ h => h) (by rfl) hHeld ?_ ?_
            rotate_left
            · rintro wh ⟨⟨p0, p1, p2, p3, p4, p5⟩, ⟨x0, x1, x2, x3, x4, x5⟩, ⟨z0, z1, z2, z3, z4, z5⟩, ⟨y0, y1, y2, y3, y4, y5, y6, y7, y8⟩⟩
              go_simp
              (try with_reducible rfl)
            simp only [Act.put, List.setIfInBounds_toArray, List.set_cons_zero, List.set_cons_succ]
            refine held_take (i := 12) (v := ?_) rfl rfl (by kernel_rfl) (by kernel_rfl) (by kernel_rfl) (fun _ _ _ h => h) (by rfl) hHeld ?_ ?_
            rotate_left
            · rintro wh ⟨⟨p0, p1, p2, p3, p4, p5⟩, ⟨x0, x1, x2, x3, x4, x5⟩, ⟨z0, z1, z2, z3, z4, z5⟩, ⟨y0, y1, y2, y3, y4, y5, y6, y7, y8⟩⟩
              go_simp
              (try with_reducible rfl)
            simp only [Act.put, List.setIfInBounds_toArray, List.set_cons_zero, List.set_cons_succ]
            refine held_take (i := 13) (v := ?_) rfl rfl (by kernel_rfl) (by kernel_rfl) (by kernel_rfl) (fun _ _ _ h => h) (by rfl) hHeld ?_ ?_
            rotate_left
            · rintro wh ⟨⟨p0, p1, p2, p3, p4, p5⟩, ⟨x0, x1, x2, x3, x4, x5⟩, ⟨z0, z1, z2, z3, z4, z5⟩, ⟨y0, y1, y2, y3, y4, y5, y6, y7, y8⟩⟩
              go_simp
              (try with_reducible rfl)
            simp only [Act.put, List.setIfInBounds_toArray, List.set_cons_zero, List.set_cons_succ]
            refine held_take (i := 14) (v := ?_) rfl rfl (by kernel_rfl) (by kernel_rfl) (by kernel_rfl) (fun _ _ _ h => h) (by rfl) hHeld ?_ ?_
            rotate_left
            · rintro wh ⟨⟨p0, p1, p2, p3, p4, p5⟩, ⟨x0, x1, x2, x3, x4, x5⟩, ⟨z0, z1, z2, z3, z4, z5⟩, ⟨y0, y1, y2, y3, y4, y5, y6, y7, y8⟩⟩
              go_simp
              (try with_reducible rfl)
            simp only [Act.put, List.setIfInBounds_toArray, List.set_cons_zero, List.set_cons_succ]
            refine held_take (i := 15) (v := ?_) rfl rfl (by kernel_rfl) (by kernel_rfl) (by kernel_rfl) (fun _ _ _ h => h) (by rfl) hHeld ?_ ?_
            rotate_left
            · rintro wh ⟨⟨p0, p1, p2, p3, p4, p5⟩, ⟨x0, x1, x2, x3, x4, x5⟩, ⟨z0, z1, z2, z3, z4, z5⟩, ⟨y0, y1, y2, y3, y4, y5, y6, y7, y8⟩⟩
              go_simp
              (try with_reducible rfl)
            simp only [Act.put, List.setIfInBounds_toArray, List.set_cons_zero, List.set_cons_succ]
            refine held_take (i := 16) (v := ?_) rfl rfl (by kernel_rfl) (by kernel_rfl) (by kernel_rfl) (fun _ _ _ h => h) (by rfl) hHeld ?_ ?_
            rotate_left
            · rintro wh ⟨⟨p0, p1, p2, p3, p4, p5⟩, ⟨x0, x1, x2, x3, x4, x5⟩, ⟨z0, z1, z2, z3, z4, z5⟩, ⟨y0, y1, y2, y3, y4, y5, y6, y7, y8⟩⟩
              go_simp
              (try with_reducible rfl)
            simp only [Act.put, List.setIfInBounds_toArray, List.set_cons_zero, List.set_cons_succ]
            refine held_step (i := 8) rfl (by kernel_rfl) (fun K hK => ?_)
            go_simp; refine (KQ1.out _ ((Below.refl wr.heap.size wr).drew)).mono ?_; rintro e u6 ⟨qv1, rfl, hi, hb⟩; have hq1 : Below wr.heap.size wr u6 := ((Below.refl wr.heap.size wr).drew).trans (hb.mono ((Below.refl wr.heap.size wr).drew).size); have HB1' := Lib.hid hq1; have HI1' := Lib.hid hi; clear hi hb hq1
            refine hK.out _ _ (SK.out _ HB1'.out) (fun hHeld => ?_)
            clear hK K
            (try simp only [Act.put, List.setIfInBounds_toArray])
            refine held_step (i := 17) rfl (by kernel_rfl) (fun K hK => ?_)
            go_simp; refine (KQ2.out _ HB1'.out).mono ?_; rintro e u7 ⟨qv2, rfl, hi, hb⟩; have hq2 : Below wr.heap.size wr u7 := HB1'.out.trans (hb.mono HB1'.out.size); have HB2' := Lib.hid hq2; have HI2' := Lib.hid (And.intro (HI1'.out.later hb) hi); clear hi hb hq2
            refine hK.out _ _ (SK.out _ HB2'.out) (fun hHeld => ?_)
            clear hK K
            (try simp only [Act.put, List.setIfInBounds_toArray])
            refine held_step (i := 18) rfl (by kernel_rfl) (fun K hK => ?_)
            go_simp; refine (same_ints QL QL u7 qv1 qv2 HI2'.out.1 HI2'.out.2 (Nat.le_trans hQn (by decide)) (Nat.le_trans hQn (by decide))).mono ?_; rintro e u8 ⟨rfl, hb⟩; have hq3 : Below wr.heap.size wr u8 := HB2'.out.trans (hb.mono HB2'.out.size); have HB3' := Lib.hid hq3; clear hb hq3; rw [decide_eq_true (rfl : QL = QL)]
            refine hK.out _ _ (SK.out _ HB3'.out) (fun hHeld => ?_)
            clear hK K
            (try simp only [Act.put, List.setIfInBounds_toArray])
            refine held_take (i := 19) (v := ?_) rfl rfl (by kernel_rfl) (by kernel_rfl) (by kernel_rfl) (fun _ _ _ h => h) (by rfl) hHeld ?_ ?_
            rotate_left
            · rintro wh ⟨⟨p0, p1, p2, p3, p4, p5⟩, ⟨x0, x1, x2, x3, x4, x5⟩, ⟨z0, z1, z2, z3, z4, z5⟩, ⟨y0, y1, y2, y3, y4, y5, y6, y7, y8⟩⟩
              go_simp
              (try with_reducible rfl)
            simp only [Act.put, List.setIfInBounds_toArray, List.set_cons_zero, List.set_cons_succ]
            refine wpAnyH_done (by kernel_rfl) ?_ _
            have HSZ := Lib.hid (HS5.out.later HB3'.out)
            clear HB1' HB2' HB3' HI1' HI2' SK KQ1 KQ2 HS5 HZ5 hHeld
            go_wp2
            go_roundw
            case rel => exact ⟨k + 1, n', S', R', lst', _, by omega, by go_num, by omega, by omega, by omega, by rw [HRM.out]; omega, HSL', HT', HRC', HSZ⟩
            case measure => (simp [intOf]; try omega)
end lawPlays
end Go.Proofs.YtcfococinllcmaaGreat

/- SilencePlays: the card: whatever the arguments, the law returns true and its arguments read as they did. No condition. -/
namespace Go.Proofs.YtcfococinllcmaaGreat.lawPlays
open Go.ChangeShapes Go.WideShapes Go.ChangeAt Go.RowKit
open Go.ChangeMaps (open_string)
set_option maxRecDepth 100000 in
theorem contract (H : Type) (enc : TypeId × Value → H) (W : World) (base : Nat) (args : Array Value) (ds gs : List (DataW H)) (before : List MemPlace)
    (hval : ∀ (j : Nat) t v, Tryz.f6.params[j]? = some t → args[j]? = some v → Value.okWide Tryz.prog W .any base t v)
    (hW : DataW.Whole enc Tryz.prog Tryz.f6.params.toList Rows.silencePlaysSpec.vars false W args.toList ds gs before) :
    Calls Tryz.prog 6 args W fun e W' => ∃ v, e = .returned v ∧ Rows.silencePlaysSpec.post enc Tryz.prog Tryz.f6 false true false false W args v W' := by
  have hW' := hW
  obtain ⟨p, q, hA0, hV, rfl, hfz, hnd⟩ := hW
  have hA : DataW.TrodAll enc Tryz.prog W 0 (fun _ => true) true Tryz.f6.params.toList args.toList ds p := hA0
  rw [Tryz.params6] at hA hval
  obtain ⟨v0, vs0, d0, ds0, p0, q0, hargs, rfl, rfl, h0, r0⟩ := trodAll_cons hA
  obtain ⟨v1, vs1, d1, ds1, p1, q1, rfl, rfl, rfl, h1, r1⟩ := trodAll_cons r0
  obtain ⟨v2, vs2, d2, ds2, p2, q2, rfl, rfl, rfl, h2, r2⟩ := trodAll_cons r1
  obtain ⟨rfl, rfl, rfl⟩ := trodAll_nil r2
  obtain rfl : args = #[v0, v1, v2] := by cases args; simp_all
  obtain ⟨rfl, rfl⟩ := trodVars_none hV
  obtain ⟨x0, y0, hx0⟩ := pol_of_arg (hval 0 76 v0 rfl rfl) h0
  obtain ⟨x1, hx1⟩ := ops_of_arg (hval 1 47 v1 rfl rfl) h1
  obtain ⟨x2, y2, hx2⟩ := al_of_arg (hval 2 50 v2 rfl rfl) h2
  clear hA0
  refine (walk v0 x0 y0 v1 x1 v2 x2 y2 W hx0 hx1 hx2).mono ?_
  rintro e W' ⟨rfl, hb⟩
  exact ⟨_, rfl, law_post laidOut Tryz.underlying4 rfl rfl (by kernel_rfl) hW' rfl rfl rfl hb⟩
theorem laid_met (os : Os) : laidMet Tryz.prog Rows.silencePlaysRow.laid ((laidWorld os).forCall (fun _ _ => 0) ⟨#[], #[.agg #[.slice none 0 0, .slice none 0 0, .slice none 0 0, .slice none 0 0, .slice none 0 0, .slice none 0 0], .slice none 0 0, .agg #[.string ⟨#[]⟩, .slice none 0 0, .int .i64 0, .int .u32 0, .int .i64 0, .int .i64 0]], []⟩).memory :=
  ⟨[], rfl, List.nodup_nil, fun _ _ h => by cases h⟩
theorem reads (os : Os) {H : Type} (enc : TypeId × Value → H) : ∃ places, DataW.whole enc Tryz.prog ((laidWorld os).forCall (fun _ _ => 0) ⟨#[], #[.agg #[.slice none 0 0, .slice none 0 0, .slice none 0 0, .slice none 0 0, .slice none 0 0, .slice none 0 0], .slice none 0 0, .agg #[.string ⟨#[]⟩, .slice none 0 0, .int .i64 0, .int .u32 0, .int .i64 0, .int .i64 0]], []⟩).memory Tryz.f6.params.toList Rows.silencePlaysSpec.vars false (#[.agg #[.slice none 0 0, .slice none 0 0, .slice none 0 0, .slice none 0 0, .slice none 0 0, .slice none 0 0], .slice none 0 0, .agg #[.string ⟨#[]⟩, .slice none 0 0, .int .i64 0, .int .u32 0, .int .i64 0, .int .i64 0]] : Array Value).toList 8 = some ([.agg [.nil, .nil, .nil, .nil, .nil, .nil], .nil, .agg [.lit (.string []), .nil, .agg [.lit (.int .i64 0), .lit (.int .u32 0)], .lit (.int .i64 0), .lit (.int .i64 0)]], [], places) :=
  ⟨[], by kernel_rfl⟩
set_option maxRecDepth 100000 in
theorem lifted (os : Os) (started : os.Started) (H : Type) (enc : TypeId × Value → H) (F : Stop.Interp) :
    ReturnsInHanded {} Tryz.checked os 6 .any ((OpenSpec.ofChange Rows.silencePlaysSpec).preRow enc Tryz.prog Tryz.f6 Rows.silencePlaysRow.domain false Rows.silencePlaysRow.laid) (((OpenSpec.ofChange Rows.silencePlaysSpec).at F).post enc Tryz.prog Tryz.f6 false true false false) := by
  obtain ⟨places, hx⟩ := reads os enc
  refine returnsInHanded_of_row (C := Tryz.checked) (s := OpenSpec.ofChange Rows.silencePlaysSpec) ownNone started (by kernel_rfl) Tryz.func6
    (witness_row_at (enc := enc) (C := Tryz.checked) false (laidWorld os) #[.agg #[.slice none 0 0, .slice none 0 0, .slice none 0 0, .slice none 0 0, .slice none 0 0, .slice none 0 0], .slice none 0 0, .agg #[.string ⟨#[]⟩, .slice none 0 0, .int .i64 0, .int .u32 0, .int .i64 0, .int .i64 0]] rfl (by kernel_rfl) (by kernel_rfl) (by kernel_rfl)
      (OpenSpec.preRow_of_cond 8 hx (by kernel_rfl) (fun k hk => by cases hk) (by kernel_rfl) (laid_met os))) ?_
  intro W base args ds gs before hval hW _ _ _ _ _ _
  exact contract H enc W base args ds gs before hval hW
theorem said : Rows.SilencePlaysSaid :=
  OpenClaim.holds_of_cond 6 Tryz.f6 rfl rfl rfl rfl rfl rfl rfl ⟨rfl, rfl, rfl, rfl, rfl⟩ rfl rfl rfl rfl rfl (by kernel_rfl) Tryz.func6 (by kernel_rfl)
    (of_decide_eq_true (by kernel_rfl)) (by unfold Func.isWrapper; first | (rw [if_pos (by decide +kernel)]; kernel_rfl) | (rw [if_neg (by decide +kernel)]; exact ⟨rfl, rfl⟩))
    (fun os started H enc _ F => by rw [OpenClaim.pre_eq_preRow]; exact lifted os started H enc F)
end Go.Proofs.YtcfococinllcmaaGreat.lawPlays

