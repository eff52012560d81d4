/- pattern's builder: atom: a contract, out of either's. -/
import Derived.Test.YtcfococinllcmaaGreatPatT
namespace Go.Proofs.YtcfococinllcmaaGreat
open Go.RowKit

def capM (s : ByteArray) (b : Bs) : Nat := tot b.sts + 6 * (s.size + 12 - b.pos)
def EitherC (s : ByteArray) (n : Nat) : Prop := ∀ (w : World) (g : Nat) (b : Bs) (own : Nat → Prop) (d : Nat), Bld w g s b own → d ≤ 8 → b.pos ≤ s.size + 12 - d → fuelM s b .either ≤ n → capM s b ≤ 10000 + 100 * d →
  Calls Tryz.prog 126 #[.pointer (some ⟨g, 0, none⟩), .int .i64 d] w (PartPost own w g s (runM s n .either d b))
def RowC (s : ByteArray) (n : Nat) : Prop := ∀ (w : World) (g : Nat) (b : Bs) (own : Nat → Prop) (d : Nat), Bld w g s b own → d ≤ 8 → b.pos ≤ s.size + 12 - d → fuelM s b .row ≤ n → capM s b ≤ 10000 + 100 * d + 10 →
  Calls Tryz.prog 152 #[.pointer (some ⟨g, 0, none⟩), .int .i64 d] w (PartPost own w g s (runM s n .row d b))
def AtomC (s : ByteArray) (n : Nat) : Prop := ∀ (w : World) (g : Nat) (b : Bs) (own : Nat → Prop) (d : Nat), Bld w g s b own → d ≤ 8 → b.pos < s.size → fuelM s b .atom ≤ n → capM s b ≤ 10000 + 100 * d + 20 →
  Calls Tryz.prog 169 #[.pointer (some ⟨g, 0, none⟩), .int .i64 d] w (PartPost own w g s (runM s n .atom d b))
/-- what atom carries: the builder, the result's box, the set -/
structure AtAt (own : Nat → Prop) (W0 : World) (g : Nat) (s : ByteArray) (b : Bs) (rb sb : Nat) (S : Nat → Bool) (w : World) : Prop where
  bld : Bld w g s b own
  set : SetAt w sb S
  nk : ¬ own sb
  rbx : PBx w rb (.int .i64 0) (.int .i64 0)
  nr : ¬ own rb
  ne : rb ≠ sb
  keep : Keep own W0 w
  ws : W0.heap.size ≤ sb
  wr : W0.heap.size ≤ rb
theorem AtAt.call {own : Nat → Prop} {W0 w w' : World} {g : Nat} {s : ByteArray} {b b' : Bs} {rb sb : Nat} {S : Nat → Bool} (h : AtAt own W0 g s b rb sb S w) (hB : Bld w' g s b' own) (hs : Stp own w own w') : AtAt own W0 g s b' rb sb S w' :=
  ⟨hB, h.set.blk (hs.1.block sb h.set.lt h.nk), h.nk, hs.blk h.rbx h.nr, h.nr, h.ne, h.keep.trans hs.1 (fun _ hj => .inl hj), h.ws, h.wr⟩
theorem AtAt.below {own : Nat → Prop} {W0 w w' : World} {g : Nat} {s : ByteArray} {b : Bs} {rb sb : Nat} {S : Nat → Bool} (h : AtAt own W0 g s b rb sb S w) (hb : Below w.heap.size w w') : AtAt own W0 g s b rb sb S w' :=
  h.call (h.bld.below hb) (Stp.of_below hb)
theorem AtAt.step {own : Nat → Prop} {W0 w : World} {g : Nat} {s : ByteArray} {b : Bs} {rb sb : Nat} {S : Nat → Bool} (h : AtAt own W0 g s b rb sb S w) : AtAt own W0 g s (stepM b) rb sb S (w.setCell ⟨g, 1, none⟩ (.int .i64 ((b.pos : Int) + 1))) :=
  h.call h.bld.step (Stp.step h.bld _)
theorem AtAt.turn {own : Nat → Prop} {W0 w w' : World} {g : Nat} {s : ByteArray} {b b' : Bs} {rb sb : Nat} {S S' : Nat → Bool} (h : AtAt own W0 g s b rb sb S w) (hB : Bld w' g s b' own) (hS : SetAt w' sb S') (hk : Keep (fun j => own j ∨ j = sb) w w') : AtAt own W0 g s b' rb sb S' w' := by
  have hrl := PBx.lt h.rbx
  refine ⟨hB, hS, h.nk, (hk.block rb hrl (fun e => by rcases e with e | e; (· exact h.nr e); (· exact h.ne e))).trans h.rbx, h.nr, h.ne, h.keep.trans hk (fun j hj => ?_), h.ws, h.wr⟩
  rcases hj with hj | rfl
  · exact .inl hj
  · exact .inr h.ws
theorem AtAt.fill {own : Nat → Prop} {W0 w w' : World} {g : Nat} {s : ByteArray} {b : Bs} {rb sb : Nat} {S S' : Nat → Bool} (h : AtAt own W0 g s b rb sb S w) (hS : SetAt w' sb S') (hk : Keep (fun j => j = sb) w w') : AtAt own W0 g s b rb sb S' w' := by
  refine h.turn ?_ hS (hk.mono (fun _ h => .inr h))
  obtain ⟨sv, es, hV⟩ := h.bld
  exact ⟨sv, es, hV.kept hk.size (fun j hj => hk.block j (hV.lt j hj) (fun e => h.nk (e ▸ hj)))⟩
theorem AtAt.bs {own : Nat → Prop} {W0 w : World} {g : Nat} {s : ByteArray} {b : Bs} {rb sb : Nat} {S : Nat → Bool} (h : AtAt own W0 g s b rb sb S w) : BSo own W0 g s b [(rb, .int .i64 0, .int .i64 0)] own w :=
  ⟨h.bld, ⟨h.keep, fun _ h => .inl h⟩, fun x hx => by rw [List.mem_singleton.1 hx]; exact ⟨h.rbx, h.nr⟩, fun x hx => by rw [List.mem_singleton.1 hx]; exact h.wr⟩
/-- one, at the end of atom -/
theorem AtAt.one {own : Nat → Prop} {W0 w : World} {g : Nat} {s : ByteArray} {b : Bs} {rb sb : Nat} {S : Nat → Bool} (h : AtAt own W0 g s b rb sb S w) (hn : b.sts.length ≤ 900000) :
    Calls Tryz.prog 179 #[.pointer (some ⟨g, 0, none⟩), .pointer (some ⟨sb, 0, none⟩)] w fun e w' => e = .returned (.agg #[.int .i64 (((oneM b S).2.1 : Nat) : Int), .int .i64 (((oneM b S).2.2 : Nat) : Int)]) ∧ BS own W0 g s (oneM b S).1 [(rb, .int .i64 0, .int .i64 0)] w' := by
  refine (one_is w g s b own S sb h.bld h.set h.nk (by omega)).mono ?_
  rintro e w' ⟨rfl, own', hB, hk, ho⟩
  have hrl := PBx.lt h.rbx
  have hsz := h.keep.size
  refine ⟨rfl, own', hB, ⟨h.keep.trans hk (fun _ hj => .inl hj), fun j hj => ?_⟩, fun x hx => ?_, fun x hx => by rw [List.mem_singleton.1 hx]; exact h.wr⟩
  · rcases ho j hj with h1 | rfl | h1
    · exact .inl h1
    · exact .inr h.ws
    · exact .inr (by omega)
  · rw [List.mem_singleton.1 hx]
    refine ⟨(hk.block rb hrl h.nr).trans h.rbx, fun h0 => ?_⟩
    rcases ho rb h0 with h1 | h1 | h1
    · exact h.nr h1
    · exact h.ne h1
    · omega
theorem words_no : WordsOf noS [0, 0, 0, 0] := by
  refine ⟨rfl, by decide, fun c hc => ?_⟩
  have h : ([0, 0, 0, 0] : List Nat).getD (c / 64) 0 = 0 := by
    rcases (by omega : c / 64 = 0 ∨ c / 64 = 1 ∨ c / 64 = 2 ∨ c / 64 = 3) with e | e | e | e <;> rw [e] <;> rfl
  rw [h, Nat.zero_testBit]; rfl
/-- ahead of the set -/
structure At0 (own : Nat → Prop) (W0 : World) (g : Nat) (s : ByteArray) (b : Bs) (rb : Nat) (w : World) : Prop where
  bld : Bld w g s b own
  rbx : PBx w rb (.int .i64 0) (.int .i64 0)
  nr : ¬ own rb
  keep : Keep own W0 w
  wr : W0.heap.size ≤ rb
theorem At0.call {own : Nat → Prop} {W0 w w' : World} {g : Nat} {s : ByteArray} {b b' : Bs} {rb : Nat} (h : At0 own W0 g s b rb w) (hB : Bld w' g s b' own) (hs : Stp own w own w') : At0 own W0 g s b' rb w' :=
  ⟨hB, hs.blk h.rbx h.nr, h.nr, h.keep.trans hs.1 (fun _ hj => .inl hj), h.wr⟩
theorem At0.start {own : Nat → Prop} {w : World} {g : Nat} {s : ByteArray} {b : Bs} (h : Bld w g s b own) : At0 own w g s b w.heap.size (w.alloc (.cells #[.int .i64 0, .int .i64 0] 192)) :=
  ⟨h.below (alloc_below _ _), heap_alloc_new _ _, fun h0 => by have := h.lt _ h0; omega, Keep.of_below (alloc_below _ _), Nat.le_refl _⟩
theorem At0.set {own : Nat → Prop} {W0 w : World} {g : Nat} {s : ByteArray} {b : Bs} {rb : Nat} (h : At0 own W0 g s b rb w) :
    AtAt own W0 g s b rb w.heap.size noS (w.alloc (.cells #[.int .u64 0, .int .u64 0, .int .u64 0, .int .u64 0] 241)) := by
  have h1 := h.call (h.bld.below (alloc_below w (.cells #[.int .u64 0, .int .u64 0, .int .u64 0, .int .u64 0] 241))) (Stp.of_below (alloc_below _ _))
  exact ⟨h1.bld, ⟨[0, 0, 0, 0], words_no, heap_alloc_new _ _⟩, fun h0 => by have := h.bld.lt _ h0; omega, h1.rbx, h.nr, fun e => by have := h.rbx.lt; omega, h1.keep, h.keep.size, h.wr⟩
theorem odd_in : ∀ c : Nat, c < 256 → oddB c = false → Lib.indexByte [42, 43, 63, 124, 40, 41, 91, 93, 92, 46] ((c : Int).toNat.toUInt8) = -1 := by decide +kernel
theorem odd_out : ∀ c : Nat, c < 256 → oddB c = true → 0 ≤ Lib.indexByte [42, 43, 63, 124, 40, 41, 91, 93, 92, 46] ((c : Int).toNat.toUInt8) := by decide +kernel
theorem wp_same {Pr : Program} {c : Code} {Q : Exit → Act → World → Prop} {a : Act} {W : World} (P : World → Prop) (h : P W) (k : ∀ W', P W' → Code.wp Pr c Q a W') : Code.wp Pr c Q a W := k W h
theorem runM_atom (s : ByteArray) (n d : Nat) (b : Bs) : runM s (n + 1) .atom d b =
    (if byteM s b.pos = 40 then
      (if d = 8 then oneM (failM (stepM b) 3) noS else (closeM s (runM s n .either (d + 1) (stepM b)).1, (runM s n .either (d + 1) (stepM b)).2))
    else if byteM s b.pos = 91 then oneM (classM s (stepM b)).1 (classM s (stepM b)).2
    else if byteM s b.pos = 46 then oneM (stepM b) (turnS noS)
    else if byteM s b.pos = 92 then
      (match peekM s (stepM b) with
       | none => oneM (stepM (failM (stepM b) 2)) (oneS 0)
       | some e => oneM (stepM (stepM b)) (oneS e))
    else if oddB (byteM s b.pos) = true then oneM (failM (stepM b) 2) noS
    else oneM (stepM b) (oneS (byteM s b.pos))) := by rw [runM]; rfl
set_option maxHeartbeats 12800000 in
set_option maxRecDepth 100000 in
theorem atom_of (s : ByteArray) (n : Nat) (hs : s.size ≤ 100) (IH : EitherC s n) : AtomC s (n + 1) := by
  intro w g b own d h hd hps hfu hcap
  have hok := runM_ok s (n + 1) .atom d b hd (by omega) (fun _ => hps) trivial hfu
  have HOK := Lib.hid hok
  have htb : tot b.sts ≤ 11000 := by unfold capM at hcap; omega
  have hl0 : b.sts.length ≤ 11000 := Nat.le_trans (len_tot _) htb
  obtain ⟨c, hc⟩ : ∃ c, byteM s b.pos = c := ⟨_, rfl⟩
  have hc256 : c < 256 := by rw [← hc]; exact byteM_lt _ _
  have hby : (s[b.pos]'hps).toNat = c := by have := byteM_at s b.pos hps; rw [hc] at this; omega
  have hi0 : (0 : Int) ≤ (b.pos : Int) := by omega
  have hi1 : (b.pos : Int) < (s.size : Int) := by omega
  have HR := Lib.hid (runM_atom s n d b)
  have HC := Lib.hid hc
  have H0 := Lib.hid (At0.start h)
  have HIH := Lib.hid IH
  clear hok hc h IH htb
  go_enter Tryz.func169, Tryz.ntmps169
  go_upto_region 1 with fail
  refine wp_forget (At0 own w g s b w.heap.size) H0.out (fun w0 q0 => ?_)
  have Q0 := Lib.hid q0
  obtain ⟨c0, c1, _, f1⟩ := q0.bld.fields
  clear q0 H0
  go_quiet (fail)
  go_upto_region 2 with fail
  refine wp_forget (At0 own w g s b w.heap.size) (Q0.out.call (Q0.out.bld.below (bl_drewN (Below.refl _ _) _)) (Stp.of_below (bl_drewN (Below.refl _ _) _))) (fun w1 q1 => ?_)
  have Q1 := Lib.hid q1
  clear c0 c1 f1 Q0 q1
  obtain ⟨_, c1, _, f1⟩ := Q1.out.bld.fields
  go_upto_region 3 with fail
  refine wp_forget (At0 own w g s (stepM b) w.heap.size) (Q1.out.call Q1.out.bld.step (Stp.step Q1.out.bld _)) (fun w2 q2 => ?_)
  have Q2 := Lib.hid q2.set
  have HSB := Lib.hid q2.keep.size
  clear c1 f1 Q1 q2
  go_upto_region 5 with fail
  obtain ⟨sb, hsb⟩ : ∃ sb, w2.heap.size = sb := ⟨_, rfl⟩
  rw [hsb] at Q2 ⊢
  refine wp_forget (AtAt own w g s (stepM b) w.heap.size sb noS) Q2.out (fun w3 q3 => ?_)
  have HA := Lib.hid q3
  clear q3 Q2 HSB hsb
  have hpb : (stepM b).pos ≤ 1000 := by simp only [stepM]; omega
  have hlb : (stepM b).sts.length ≤ 11000 := hl0
  have kf := fun W b own e0 (h : Bld W g s b own) => fail_is W g s b own e0 h
  have KF := Lib.hid kf
  clear kf
  by_cases h40 : c = 40
  · subst h40
    by_cases hd8 : d = 8
    · subst hd8
      have kq1 := KF.out _ _ _ 3 HA.out.bld
      go_wp2_with fail
      refine kq1.mono ?_
      rintro e w1 ⟨rfl, hB1, hs1⟩
      have H1 := Lib.hid (HA.out.call hB1 hs1)
      clear kq1 hB1 hs1
      obtain ⟨b9, p, q, h9⟩ : ∃ b9 p q, oneM (failM (stepM b) 3) noS = (b9, (p, q)) := ⟨_, _, _, rfl⟩
      have k2 := H1.out.one (by first | exact Nat.le_trans hl0 (by decide) | (rw [failM_sts]; exact Nat.le_trans hl0 (by decide)) | (rw [classM_len]; exact Nat.le_trans hl0 (by decide)) | (show (failM (stepM b) 2).sts.length ≤ _; rw [failM_sts]; exact Nat.le_trans hl0 (by decide)))
      rw [h9] at k2
      dsimp only at k2
      have HE9 : Hid (runM s (n + 1) .atom 8 b = (b9, (p, q))) := Lib.hid ((HR.out.trans (by rw [if_pos HC.out]; simp)).trans h9)
      clear h9
      go_wp2_with fail
      refine k2.mono ?_
      rintro e w2 ⟨rfl, h2⟩
      have H2 := Lib.hid h2
      clear k2 h2
      obtain ⟨y0, y1, f0, f1, _⟩ := H2.out.cells (List.mem_singleton.2 rfl)
      go_wp2
      refine bodyPost_ret (results_agg1 rfl _ _ w.heap.size [.int .i64 (p : Nat), .int .i64 (q : Nat)] (.struct _) rfl (World.rangeAt_setCells_same w2 w.heap.size 0 [.int .i64 (p : Nat), .int .i64 (q : Nat)] (H2.out.there (List.mem_singleton.2 rfl))) Tryz.underlying192 rfl (by kernel_rfl)) rfl ?_
      rw [HE9.out]
      exact H2.out.done (List.mem_singleton.2 rfl)
    · have hd8b : ((d : Int) == 8) = false := by rw [beq_eq_false_iff_ne]; omega
      have hdi : IntKind.i64.wrap ((d : Int) + 1) = (d : Int) + 1 := IntWalk.i64_in _ ⟨by omega, by omega⟩
      have kE := HIH.out _ g (stepM b) own (d + 1) HA.out.bld (by omega) (by simp only [stepM]; omega) (by simp only [fuelM, stepM] at hfu ⊢; omega) (by unfold capM at hcap ⊢; simp only [stepM]; omega)
      have hro := runM_ok s n .either (d + 1) (stepM b) (by omega) (by simp only [stepM]; omega) (fun h => by cases h) trivial (by simp only [fuelM, stepM] at hfu ⊢; omega)
      obtain ⟨br, p, q, hr⟩ : ∃ br p q, runM s n .either (d + 1) (stepM b) = (br, (p, q)) := ⟨_, _, _, rfl⟩
      have HE9 : Hid (runM s (n + 1) .atom d b = (closeM s br, (p, q))) := Lib.hid (HR.out.trans (by rw [if_pos HC.out, if_neg hd8, hr]))
      rw [hr] at kE hro
      have hbp := hro.top
      dsimp only at hbp
      have HD8 := Lib.hid hd8
      clear hr hro hd8
      have HB0 := Lib.hid HA.out.bs
      go_wp2_with fail
      refine kE.mono ?_
      rintro e wb ⟨rfl, ownb, hBb, hsb⟩
      have HB1 := Lib.hid (HB0.out.call hBb hsb)
      clear kE hBb hsb HB0 HA
      go_upto_region 9 with fail
      have HPX := Lib.hid (HB1.out.alloc (.int .i64 p) (.int .i64 q))
      obtain ⟨pb, hpb⟩ : ∃ pb, wb.heap.size = pb := ⟨_, rfl⟩
      rw [hpb] at HPX ⊢
      refine wp_forget (BS own w g s br [(pb, .int .i64 p, .int .i64 q), (w.heap.size, .int .i64 0, .int .i64 0)]) HPX.out (fun wp qp => ?_)
      have HP := Lib.hid qp
      clear qp hpb HPX HB1
      obtain ⟨o, ho⟩ : ∃ o, peekM s br = o := ⟨_, rfl⟩
      obtain ⟨ow, qw⟩ := HP.out
      have k5 := peek_bs qw o ho (by omega)
      have HO := Lib.hid ho
      clear qw ho
      go_wp2_with fail
      refine k5.mono ?_
      rintro e wc ⟨rfl, hC⟩
      have HCC := Lib.hid hC
      clear k5 hC HP
      by_cases h41 : o = some 41
      · subst h41
        have hm1 : (pb, Value.int .i64 p, Value.int .i64 q) ∈ [(pb, Value.int .i64 p, Value.int .i64 q), (w.heap.size, .int .i64 0, .int .i64 0)] := by simp
        have hm2 : (w.heap.size, Value.int .i64 0, Value.int .i64 0) ∈ [(pb, Value.int .i64 p, Value.int .i64 q), (w.heap.size, .int .i64 0, .int .i64 0)] := by simp
        have HM1 := Lib.hid hm1
        have HM2 := Lib.hid hm2
        clear hm1 hm2
        have hbp2 : br.pos ≤ 1000 := by first | omega | (rw [failM_pos]; omega)
        obtain ⟨_, c1, _, f1⟩ := HCC.out.fields
        go_upto_region 13 with fail
        refine wp_forget (BS own w g s (stepM br) [(pb, .int .i64 p, .int .i64 q), (w.heap.size, .int .i64 0, .int .i64 0)]) HCC.out.step (fun w3 q3 => ?_)
        have H3 := Lib.hid q3
        clear c1 f1 q3
        obtain ⟨z0, z1, _, _, _⟩ := H3.out.cells HM1.out
        obtain ⟨y0, y1, f0, f1, _⟩ := H3.out.cells HM2.out
        go_wp2
        refine bodyPost_ret (results_agg1 rfl _ _ w.heap.size [.int .i64 (p : Nat), .int .i64 (q : Nat)] (.struct _) rfl (World.rangeAt_setCells_same w3 w.heap.size 0 [.int .i64 (p : Nat), .int .i64 (q : Nat)] (H3.out.there HM2.out)) Tryz.underlying192 rfl (by kernel_rfl)) rfl ?_
        rw [HE9.out, show closeM s br = stepM br from by unfold closeM; rw [if_pos HO.out]]
        exact H3.out.done HM2.out
      · have hno : (!o.isSome || ((((o.getD 0 : Nat) : Int)) != 41)) = true := by
          rcases o with _ | c
          · rfl
          · simp at h41 ⊢; omega
        have H41 := Lib.hid h41
        clear h41
        obtain ⟨ow, qw⟩ := HCC.out
        have k6 := fail_bs qw 2
        clear qw
        rcases o with _ | c
        · go_wp2_with fail
          refine k6.mono ?_
          rintro e wd ⟨rfl, hD⟩
          have HD := Lib.hid hD
          clear k6 hD HCC
          have hm1 : (pb, Value.int .i64 p, Value.int .i64 q) ∈ [(pb, Value.int .i64 p, Value.int .i64 q), (w.heap.size, .int .i64 0, .int .i64 0)] := by simp
          have hm2 : (w.heap.size, Value.int .i64 0, Value.int .i64 0) ∈ [(pb, Value.int .i64 p, Value.int .i64 q), (w.heap.size, .int .i64 0, .int .i64 0)] := by simp
          have HM1 := Lib.hid hm1
          have HM2 := Lib.hid hm2
          clear hm1 hm2
          have hbp2 : (failM br 2).pos ≤ 1000 := by first | omega | (rw [failM_pos]; omega)
          obtain ⟨_, c1, _, f1⟩ := HD.out.fields
          go_upto_region 13 with fail
          refine wp_forget (BS own w g s (stepM (failM br 2)) [(pb, .int .i64 p, .int .i64 q), (w.heap.size, .int .i64 0, .int .i64 0)]) HD.out.step (fun w5 q5 => ?_)
          have H5 := Lib.hid q5
          clear c1 f1 q5
          obtain ⟨z0, z1, _, _, _⟩ := H5.out.cells HM1.out
          obtain ⟨y0, y1, f0, f1, _⟩ := H5.out.cells HM2.out
          go_wp2
          refine bodyPost_ret (results_agg1 rfl _ _ w.heap.size [.int .i64 (p : Nat), .int .i64 (q : Nat)] (.struct _) rfl (World.rangeAt_setCells_same w5 w.heap.size 0 [.int .i64 (p : Nat), .int .i64 (q : Nat)] (H5.out.there HM2.out)) Tryz.underlying192 rfl (by kernel_rfl)) rfl ?_
          rw [HE9.out, show closeM s br = stepM (failM br 2) from by unfold closeM; rw [if_neg (by rw [HO.out]; exact H41.out)]]
          exact H5.out.done HM2.out
        · have hc41 : ((c : Int) != 41) = true := by simpa using hno
          clear hno
          go_wp2_with fail
          refine k6.mono ?_
          rintro e wd ⟨rfl, hD⟩
          have HD := Lib.hid hD
          clear k6 hD HCC
          have hm1 : (pb, Value.int .i64 p, Value.int .i64 q) ∈ [(pb, Value.int .i64 p, Value.int .i64 q), (w.heap.size, .int .i64 0, .int .i64 0)] := by simp
          have hm2 : (w.heap.size, Value.int .i64 0, Value.int .i64 0) ∈ [(pb, Value.int .i64 p, Value.int .i64 q), (w.heap.size, .int .i64 0, .int .i64 0)] := by simp
          have HM1 := Lib.hid hm1
          have HM2 := Lib.hid hm2
          clear hm1 hm2
          have hbp2 : (failM br 2).pos ≤ 1000 := by first | omega | (rw [failM_pos]; omega)
          obtain ⟨_, c1, _, f1⟩ := HD.out.fields
          go_upto_region 13 with fail
          refine wp_forget (BS own w g s (stepM (failM br 2)) [(pb, .int .i64 p, .int .i64 q), (w.heap.size, .int .i64 0, .int .i64 0)]) HD.out.step (fun w5 q5 => ?_)
          have H5 := Lib.hid q5
          clear c1 f1 q5
          obtain ⟨z0, z1, _, _, _⟩ := H5.out.cells HM1.out
          obtain ⟨y0, y1, f0, f1, _⟩ := H5.out.cells HM2.out
          go_wp2
          refine bodyPost_ret (results_agg1 rfl _ _ w.heap.size [.int .i64 (p : Nat), .int .i64 (q : Nat)] (.struct _) rfl (World.rangeAt_setCells_same w5 w.heap.size 0 [.int .i64 (p : Nat), .int .i64 (q : Nat)] (H5.out.there HM2.out)) Tryz.underlying192 rfl (by kernel_rfl)) rfl ?_
          rw [HE9.out, show closeM s br = stepM (failM br 2) from by unfold closeM; rw [if_neg (by rw [HO.out]; exact H41.out)]]
          exact H5.out.done HM2.out
  · have hb40 : ((c : Int) == 40) = false := by rw [beq_eq_false_iff_ne]; omega
    have HR2 : Hid (runM s (n + 1) .atom d b = _) := Lib.hid (HR.out.trans (if_neg (by rw [HC.out]; exact h40)))
    clear HR
    by_cases h91 : c = 91
    · subst h91
      have k7 := class_is _ g sb s (stepM b) own HA.out.bld HA.out.set HA.out.nk (by simp only [stepM]; omega) (by omega)
      go_wp2_with fail
      refine k7.mono ?_
      rintro e wb ⟨rfl, hB1, hS1, hk1⟩
      have HB1 := Lib.hid (HA.out.turn hB1 hS1 hk1)
      clear k7 hB1 hS1 hk1
      obtain ⟨b9, p, q, h9⟩ : ∃ b9 p q, oneM (classM s (stepM b)).1 (classM s (stepM b)).2 = (b9, (p, q)) := ⟨_, _, _, rfl⟩
      have k6 := HB1.out.one (by first | exact Nat.le_trans hl0 (by decide) | (rw [failM_sts]; exact Nat.le_trans hl0 (by decide)) | (rw [classM_len]; exact Nat.le_trans hl0 (by decide)) | (show (failM (stepM b) 2).sts.length ≤ _; rw [failM_sts]; exact Nat.le_trans hl0 (by decide)))
      rw [h9] at k6
      dsimp only at k6
      have HE9 : Hid (runM s (n + 1) .atom d b = (b9, (p, q))) := Lib.hid ((HR2.out.trans (if_pos HC.out)).trans h9)
      clear h9
      go_wp2_with fail
      refine k6.mono ?_
      rintro e w6 ⟨rfl, h6⟩
      have H6 := Lib.hid h6
      clear k6 h6
      obtain ⟨y0, y1, f0, f1, _⟩ := H6.out.cells (List.mem_singleton.2 rfl)
      go_wp2
      refine bodyPost_ret (results_agg1 rfl _ _ w.heap.size [.int .i64 (p : Nat), .int .i64 (q : Nat)] (.struct _) rfl (World.rangeAt_setCells_same w6 w.heap.size 0 [.int .i64 (p : Nat), .int .i64 (q : Nat)] (H6.out.there (List.mem_singleton.2 rfl))) Tryz.underlying192 rfl (by kernel_rfl)) rfl ?_
      rw [HE9.out]
      exact H6.out.done (List.mem_singleton.2 rfl)
    · have hb91 : ((c : Int) == 91) = false := by rw [beq_eq_false_iff_ne]; omega
      have HR3 : Hid (runM s (n + 1) .atom d b = _) := Lib.hid (HR2.out.trans (if_neg (by rw [HC.out]; exact h91)))
      clear HR2
      by_cases h46 : c = 46
      · subst h46
        have k7 := turn_is _ sb noS HA.out.set
        go_wp2_with fail
        refine k7.mono ?_
        rintro e wb ⟨rfl, hS1, hk1⟩
        have HB1 := Lib.hid (HA.out.fill hS1 hk1)
        clear k7 hS1 hk1
        obtain ⟨b9, p, q, h9⟩ : ∃ b9 p q, oneM (stepM b) (turnS noS) = (b9, (p, q)) := ⟨_, _, _, rfl⟩
        have k7 := HB1.out.one (by first | exact Nat.le_trans hl0 (by decide) | (rw [failM_sts]; exact Nat.le_trans hl0 (by decide)) | (rw [classM_len]; exact Nat.le_trans hl0 (by decide)) | (show (failM (stepM b) 2).sts.length ≤ _; rw [failM_sts]; exact Nat.le_trans hl0 (by decide)))
        rw [h9] at k7
        dsimp only at k7
        have HE9 : Hid (runM s (n + 1) .atom d b = (b9, (p, q))) := Lib.hid ((HR3.out.trans (if_pos HC.out)).trans h9)
        clear h9
        go_wp2_with fail
        refine k7.mono ?_
        rintro e w7 ⟨rfl, h7⟩
        have H7 := Lib.hid h7
        clear k7 h7
        obtain ⟨y0, y1, f0, f1, _⟩ := H7.out.cells (List.mem_singleton.2 rfl)
        go_wp2
        refine bodyPost_ret (results_agg1 rfl _ _ w.heap.size [.int .i64 (p : Nat), .int .i64 (q : Nat)] (.struct _) rfl (World.rangeAt_setCells_same w7 w.heap.size 0 [.int .i64 (p : Nat), .int .i64 (q : Nat)] (H7.out.there (List.mem_singleton.2 rfl))) Tryz.underlying192 rfl (by kernel_rfl)) rfl ?_
        rw [HE9.out]
        exact H7.out.done (List.mem_singleton.2 rfl)
      · have hb46 : ((c : Int) == 46) = false := by rw [beq_eq_false_iff_ne]; omega
        have HR4 : Hid (runM s (n + 1) .atom d b = _) := Lib.hid (HR3.out.trans (if_neg (by rw [HC.out]; exact h46)))
        clear HR3
        by_cases h92 : c = 92
        · subst h92
          obtain ⟨o, ho⟩ : ∃ o, peekM s (stepM b) = o := ⟨_, rfl⟩
          have k7 := peek_is _ g s (stepM b) own o ho HA.out.bld (by omega)
          have HO := Lib.hid ho
          clear ho
          go_wp2_with fail
          refine k7.mono ?_
          rintro e wb ⟨rfl, hb1⟩
          have HB1 := Lib.hid (HA.out.below hb1)
          clear k7 hb1
          rcases o with _ | e0
          · have kq8 := KF.out _ _ _ 2 HB1.out.bld
            go_wp2_with fail
            refine kq8.mono ?_
            rintro e w8 ⟨rfl, hB8, hs8⟩
            have H8 := Lib.hid (HB1.out.call hB8 hs8)
            clear kq8 hB8 hs8
            have hpf : (failM (stepM b) 2).pos ≤ 1000 := by rw [failM_pos]; omega
            obtain ⟨_, c1, _, f1⟩ := H8.out.bld.fields
            go_upto_region 23 with fail
            refine wp_forget (AtAt own w g s (stepM (failM (stepM b) 2)) w.heap.size sb noS) H8.out.step (fun w9 q9 => ?_)
            have H9 := Lib.hid q9
            clear c1 f1 q9
            have ka10 := add_is _ sb noS 0 0 H9.out.set (by decide) (by decide)
            go_wp2_with fail
            refine ka10.mono ?_
            rintro e w10 ⟨rfl, hS10, hk10⟩
            have H10 : Hid (AtAt own w g s _ w.heap.size sb (oneS 0) _) := Lib.hid (H9.out.fill hS10 hk10)
            clear ka10 hS10 hk10
            obtain ⟨b9, p, q, h9⟩ : ∃ b9 p q, oneM (stepM (failM (stepM b) 2)) (oneS 0) = (b9, (p, q)) := ⟨_, _, _, rfl⟩
            have k11 := H10.out.one (by first | exact Nat.le_trans hl0 (by decide) | (rw [failM_sts]; exact Nat.le_trans hl0 (by decide)) | (rw [classM_len]; exact Nat.le_trans hl0 (by decide)) | (show (failM (stepM b) 2).sts.length ≤ _; rw [failM_sts]; exact Nat.le_trans hl0 (by decide)))
            rw [h9] at k11
            dsimp only at k11
            have HE9 : Hid (runM s (n + 1) .atom d b = (b9, (p, q))) := Lib.hid ((HR4.out.trans (by rw [if_pos HC.out, HO.out])).trans h9)
            clear h9
            go_wp2_with fail
            refine k11.mono ?_
            rintro e w11 ⟨rfl, h11⟩
            have H11 := Lib.hid h11
            clear k11 h11
            obtain ⟨y0, y1, f0, f1, _⟩ := H11.out.cells (List.mem_singleton.2 rfl)
            go_wp2
            refine bodyPost_ret (results_agg1 rfl _ _ w.heap.size [.int .i64 (p : Nat), .int .i64 (q : Nat)] (.struct _) rfl (World.rangeAt_setCells_same w11 w.heap.size 0 [.int .i64 (p : Nat), .int .i64 (q : Nat)] (H11.out.there (List.mem_singleton.2 rfl))) Tryz.underlying192 rfl (by kernel_rfl)) rfl ?_
            rw [HE9.out]
            exact H11.out.done (List.mem_singleton.2 rfl)
          · have he0 : e0 < 256 := by rw [(peekM_some HO.out).2.2]; exact byteM_lt _ _
            obtain ⟨_, c1, _, f1⟩ := HB1.out.bld.fields
            go_upto_region 23 with fail
            refine wp_forget (AtAt own w g s (stepM (stepM b)) w.heap.size sb noS) HB1.out.step (fun w12 q12 => ?_)
            have H12 := Lib.hid q12
            clear c1 f1 q12
            have ka13 := add_is _ sb noS e0 e0 H12.out.set he0 he0
            go_wp2_with fail
            refine ka13.mono ?_
            rintro e w13 ⟨rfl, hS13, hk13⟩
            have H13 : Hid (AtAt own w g s _ w.heap.size sb (oneS e0) _) := Lib.hid (H12.out.fill hS13 hk13)
            clear ka13 hS13 hk13
            obtain ⟨b9, p, q, h9⟩ : ∃ b9 p q, oneM (stepM (stepM b)) (oneS e0) = (b9, (p, q)) := ⟨_, _, _, rfl⟩
            have k14 := H13.out.one (by first | exact Nat.le_trans hl0 (by decide) | (rw [failM_sts]; exact Nat.le_trans hl0 (by decide)) | (rw [classM_len]; exact Nat.le_trans hl0 (by decide)) | (show (failM (stepM b) 2).sts.length ≤ _; rw [failM_sts]; exact Nat.le_trans hl0 (by decide)))
            rw [h9] at k14
            dsimp only at k14
            have HE9 : Hid (runM s (n + 1) .atom d b = (b9, (p, q))) := Lib.hid ((HR4.out.trans (by rw [if_pos HC.out, HO.out])).trans h9)
            clear h9
            go_wp2_with fail
            refine k14.mono ?_
            rintro e w14 ⟨rfl, h14⟩
            have H14 := Lib.hid h14
            clear k14 h14
            obtain ⟨y0, y1, f0, f1, _⟩ := H14.out.cells (List.mem_singleton.2 rfl)
            go_wp2
            refine bodyPost_ret (results_agg1 rfl _ _ w.heap.size [.int .i64 (p : Nat), .int .i64 (q : Nat)] (.struct _) rfl (World.rangeAt_setCells_same w14 w.heap.size 0 [.int .i64 (p : Nat), .int .i64 (q : Nat)] (H14.out.there (List.mem_singleton.2 rfl))) Tryz.underlying192 rfl (by kernel_rfl)) rfl ?_
            rw [HE9.out]
            exact H14.out.done (List.mem_singleton.2 rfl)
        · have hb92 : ((c : Int) == 92) = false := by rw [beq_eq_false_iff_ne]; omega
          have HR5 : Hid (runM s (n + 1) .atom d b = _) := Lib.hid (HR4.out.trans (if_neg (by rw [HC.out]; exact h92)))
          clear HR4
          have kx := Tryz.strings_IndexByte ⟨#[42, 43, 63, 124, 40, 41, 91, 93, 92, 46]⟩ (c : Int)
          obtain ⟨ix, hix⟩ : ∃ ix, Lib.indexByte (⟨#[42, 43, 63, 124, 40, 41, 91, 93, 92, 46]⟩ : ByteArray).data.toList ((c : Int).toNat.toUInt8) = ix := ⟨_, rfl⟩
          rw [hix] at kx
          by_cases hod : oddB c = true
          · have hix0 : 0 ≤ ix := by rw [← hix]; exact odd_out c hc256 hod
            have HOD := Lib.hid hod
            clear hix hod
            have kq := KF.out _ _ _ 2 HA.out.bld
            go_wp2_with (go_at_call 175; refine (kx _).mono ?_; rintro e w' ⟨rfl, hw⟩; obtain rfl := hw.symm)
            refine kq.mono ?_
            rintro e wq ⟨rfl, hBq, hsq⟩
            have HQ := Lib.hid (HA.out.call hBq hsq)
            clear kq hBq hsq
            obtain ⟨b9, p, q, h9⟩ : ∃ b9 p q, oneM (failM (stepM b) 2) noS = (b9, (p, q)) := ⟨_, _, _, rfl⟩
            have k15 := HQ.out.one (by first | exact Nat.le_trans hl0 (by decide) | (rw [failM_sts]; exact Nat.le_trans hl0 (by decide)) | (rw [classM_len]; exact Nat.le_trans hl0 (by decide)) | (show (failM (stepM b) 2).sts.length ≤ _; rw [failM_sts]; exact Nat.le_trans hl0 (by decide)))
            rw [h9] at k15
            dsimp only at k15
            have HE9 : Hid (runM s (n + 1) .atom d b = (b9, (p, q))) := Lib.hid ((HR5.out.trans (if_pos (by rw [HC.out]; exact HOD.out))).trans h9)
            clear h9
            go_wp2_with fail
            refine k15.mono ?_
            rintro e w15 ⟨rfl, h15⟩
            have H15 := Lib.hid h15
            clear k15 h15
            obtain ⟨y0, y1, f0, f1, _⟩ := H15.out.cells (List.mem_singleton.2 rfl)
            go_wp2
            refine bodyPost_ret (results_agg1 rfl _ _ w.heap.size [.int .i64 (p : Nat), .int .i64 (q : Nat)] (.struct _) rfl (World.rangeAt_setCells_same w15 w.heap.size 0 [.int .i64 (p : Nat), .int .i64 (q : Nat)] (H15.out.there (List.mem_singleton.2 rfl))) Tryz.underlying192 rfl (by kernel_rfl)) rfl ?_
            rw [HE9.out]
            exact H15.out.done (List.mem_singleton.2 rfl)
          · have hof : oddB c = false := by simpa using hod
            have hix1 : ix = -1 := by rw [← hix]; exact odd_in c hc256 hof
            subst hix1
            have HOF := Lib.hid hof
            clear hix hod hof
            have ka := add_is _ sb noS c c HA.out.set hc256 hc256
            go_wp2_with (go_at_call 175; refine (kx _).mono ?_; rintro e w' ⟨rfl, hw⟩; obtain rfl := hw.symm)
            refine ka.mono ?_
            rintro e wq ⟨rfl, hSq, hkq⟩
            have HQ : Hid (AtAt own w g s _ w.heap.size sb (oneS c) _) := Lib.hid (HA.out.fill hSq hkq)
            clear ka hSq hkq
            obtain ⟨b9, p, q, h9⟩ : ∃ b9 p q, oneM (stepM b) (oneS c) = (b9, (p, q)) := ⟨_, _, _, rfl⟩
            have k16 := HQ.out.one (by first | exact Nat.le_trans hl0 (by decide) | (rw [failM_sts]; exact Nat.le_trans hl0 (by decide)) | (rw [classM_len]; exact Nat.le_trans hl0 (by decide)) | (show (failM (stepM b) 2).sts.length ≤ _; rw [failM_sts]; exact Nat.le_trans hl0 (by decide)))
            rw [h9] at k16
            dsimp only at k16
            have HE9 : Hid (runM s (n + 1) .atom d b = (b9, (p, q))) := Lib.hid ((HR5.out.trans (by rw [HC.out, if_neg (by rw [HOF.out]; decide)])).trans h9)
            clear h9
            go_wp2_with fail
            refine k16.mono ?_
            rintro e w16 ⟨rfl, h16⟩
            have H16 := Lib.hid h16
            clear k16 h16
            obtain ⟨y0, y1, f0, f1, _⟩ := H16.out.cells (List.mem_singleton.2 rfl)
            go_wp2
            refine bodyPost_ret (results_agg1 rfl _ _ w.heap.size [.int .i64 (p : Nat), .int .i64 (q : Nat)] (.struct _) rfl (World.rangeAt_setCells_same w16 w.heap.size 0 [.int .i64 (p : Nat), .int .i64 (q : Nat)] (H16.out.there (List.mem_singleton.2 rfl))) Tryz.underlying192 rfl (by kernel_rfl)) rfl ?_
            rw [HE9.out]
            exact H16.out.done (List.mem_singleton.2 rfl)
end Go.Proofs.YtcfococinllcmaaGreat
