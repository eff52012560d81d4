/- (*strings.byteStringReplacer).Replace, where " and \ are put behind a \: a contract. -/
import Derived.Test.YtgbapkechngnmaaGreatMaE
import Derived.Test.YtgbapkechngnmaaGreatRows
import Derived.Test.YtgbapkechngnmaaGreatBox
import Derived.Shelf.Spec.SlicesInsert
import Derived.Deep.OwnRows
import Derived.Deep.DeepCutAuto
import Derived.Deep.QuietTactic
import Derived.BigQuiet
import Derived.WalkSpells
import Derived.Lib.Hide
namespace Go.Proofs.YtgbapkechngnmaaGreat
open Go.RowKit

theorem wp_forgetB {Pr : Program} {Q : Exit → Act → World → Prop} {c : Code} {a : Act} {W : World} (P : World → Prop) (h : P W) (k : ∀ W', P W' → Code.wp Pr c Q a W') : Code.wp Pr c Q a W := k W h
/-- what lies in a replacer of bytes -/
structure BsR (w : World) (g a0 c0 a1 c1 t ct : Nat) : Prop where
  q : w.cell? ⟨g, 34, none⟩ = some (.slice (some ⟨a0, 0, none⟩) 2 c0)
  q0 : w.cell? ⟨a0, 0, none⟩ = some (.int .u8 92)
  q1 : w.cell? ⟨a0, 1, none⟩ = some (.int .u8 34)
  b : w.cell? ⟨g, 92, none⟩ = some (.slice (some ⟨a1, 0, none⟩) 2 c1)
  b0 : w.cell? ⟨a1, 0, none⟩ = some (.int .u8 92)
  b1 : w.cell? ⟨a1, 1, none⟩ = some (.int .u8 92)
  tt : w.cell? ⟨g, 256, none⟩ = some (.slice (some ⟨t, 0, none⟩) 2 ct)
  tt0 : w.cell? ⟨t, 0, none⟩ = some (.string ⟨#[92]⟩)
  tt1 : w.cell? ⟨t, 1, none⟩ = some (.string ⟨#[34]⟩)
  n : ∀ j, j < 256 → j ≠ 34 → j ≠ 92 → w.cell? ⟨g, j, none⟩ = some (.slice none 0 0)
theorem cell_blt {w : World} {b o : Nat} {v : Value} (h : w.cell? ⟨b, o, none⟩ = some v) : b < w.heap.size := block_lt_of_cell h
theorem BsR.later {w w' : World} {g a0 c0 a1 c1 t ct : Nat} (h : BsR w g a0 c0 a1 c1 t ct) (hb : Below w.heap.size w w') : BsR w' g a0 c0 a1 c1 t ct :=
  ⟨keep_cell h.q hb (cell_blt h.q), keep_cell h.q0 hb (cell_blt h.q0), keep_cell h.q1 hb (cell_blt h.q1), keep_cell h.b hb (cell_blt h.b), keep_cell h.b0 hb (cell_blt h.b0), keep_cell h.b1 hb (cell_blt h.b1),
   keep_cell h.tt hb (cell_blt h.tt), keep_cell h.tt0 hb (cell_blt h.tt0), keep_cell h.tt1 hb (cell_blt h.tt1), fun j h1 h2 h3 => keep_cell (h.n j h1 h2 h3) hb (cell_blt h.q)⟩
theorem BsR.at {w : World} {g a0 c0 a1 c1 t ct : Nat} (h : BsR w g a0 c0 a1 c1 t ct) (x : UInt8) :
    (oddE x = false ∧ w.cell? ⟨g, x.toNat, none⟩ = some (.slice none 0 0)) ∨
    (oddE x = true ∧ ∃ a c, w.cell? ⟨g, x.toNat, none⟩ = some (.slice (some ⟨a, 0, none⟩) 2 c) ∧ w.cell? ⟨a, 0, none⟩ = some (.int .u8 92) ∧ w.cell? ⟨a, 1, none⟩ = some (.int .u8 x.toNat)) := by
  have hx := x.toNat_lt
  by_cases h1 : x = 34
  · subst h1; exact .inr ⟨rfl, _, _, h.q, h.q0, h.q1⟩
  · by_cases h2 : x = 92
    · subst h2; exact .inr ⟨rfl, _, _, h.b, h.b0, h.b1⟩
    · refine .inl ⟨by rw [← Bool.not_eq_true, oddE_iff]; exact fun e => e.elim h1 h2, h.n _ (by omega) (fun e => h1 ?_) (fun e => h2 ?_)⟩
      · exact UInt8.toNat_inj.1 e
      · exact UInt8.toNat_inj.1 e
/-- a row of bytes under way, laid behind w: its first j bytes are those of E -/
structure RwB (w wr : World) (b n : Nat) (E : List UInt8) (j : Nat) : Prop where
  row : ∃ f, wr.rowIs b 5 n f ∧ ∀ i, i < j → f i = .int .u8 ((E.getD i 0).toNat)
  bl : Below w.heap.size w wr
  hb : w.heap.size ≤ b
theorem RwB.new (w : World) (n : Nat) (E : List UInt8) : RwB w (w.alloc (.cells (madeCells #[.int .u8 0] n) 5)) w.heap.size n E 0 :=
  ⟨⟨_, World.rowIs_made w (.int .u8 0) n _, fun _ h => absurd h (Nat.not_lt_zero _)⟩, alloc_below _ _, Nat.le_refl _⟩
theorem RwB.put {w wr : World} {b n j : Nat} {E : List UInt8} (h : RwB w wr b n E j) {c : UInt8} (hc : E[j]? = some c) : RwB w (wr.setCell ⟨b, j, none⟩ (.int .u8 c.toNat)) b n E (j + 1) := by
  obtain ⟨⟨f, hr, hf⟩, hb, hg⟩ := h
  refine ⟨⟨_, hr.set j _, fun i hi => ?_⟩, hb.trans ((Below.refl _ _).setCell (p := ⟨b, j, none⟩) hg _), hg⟩
  by_cases e : i = j
  · subst e
    simp [List.getD, hc]
  · rw [if_neg e]; exact hf i (by omega)
theorem RwB.put2 {w wr : World} {b n j : Nat} {E : List UInt8} (h : RwB w wr b n E j) {c d : UInt8} (hc : E[j]? = some c) (hd : E[j + 1]? = some d) : RwB w (wr.setCells b j [.int .u8 c.toNat, .int .u8 d.toNat]) b n E (j + 2) :=
  (h.put hc).put hd
theorem RwB.cell {w wr : World} {b n j i : Nat} {E : List UInt8} (h : RwB w wr b n E j) (hi : i < n) : (wr.cell? ⟨b, i, none⟩).isSome = true ∧ wr.frozen? ⟨b, i, none⟩ = false := by
  obtain ⟨⟨f, hr, hf⟩, hb, hg⟩ := h
  exact ⟨by rw [hr.cell hi]; rfl, hr.frozen i⟩
theorem RwB.drew {w wr : World} {b n j : Nat} {E : List UInt8} (h : RwB w wr b n E j) : RwB w wr.drew b n E j :=
  ⟨h.row, h.bl.trans ⟨rfl, rfl, rfl, Nat.le_refl _, fun _ _ => rfl⟩, h.hb⟩
/-- where the next sign lies in what is written -/
theorem esc_next (l : List UInt8) (k : Nat) (h : k < l.length) : (oddE l[k] = false → (escB l)[(escB (l.take k)).length]? = some l[k] ∧ (escB (l.take (k + 1))).length = (escB (l.take k)).length + 1) ∧
    (oddE l[k] = true → (escB l)[(escB (l.take k)).length]? = some 92 ∧ (escB l)[(escB (l.take k)).length + 1]? = some l[k] ∧ (escB (l.take (k + 1))).length = (escB (l.take k)).length + 2) := by
  have e : escB l = escB (l.take k) ++ ((if oddE l[k] then [92, l[k]] else [l[k]]) ++ escB (l.drop (k + 1))) := by
    conv => lhs; rw [← List.take_append_drop (k + 1) l, escB_append, List.take_succ_eq_append_getElem h, escB_snoc]
    simp
  have e2 := escB_take_len l k h
  constructor
  · intro ho
    rw [e, ho]
    rw [ho] at e2
    simp at e2 ⊢
    exact e2
  · intro ho
    rw [e, ho]
    rw [ho] at e2
    simp at e2 ⊢
    exact e2
theorem info_b8 : (Tryz.prog.info? 5).map (fun i => (i.zero, i.size, i.bytes)) = some (some (.int .u8 0), 1, 1) := by kernel_rfl
set_option maxHeartbeats 3200000 in
set_option maxRecDepth 100000 in
theorem bsr_any (s : ByteArray) (w : World) (g a0 c0 a1 c1 t ct : Nat) (h : BsR w g a0 c0 a1 c1 t ct) (hs : s.size ≤ 1000000)
    (hk : ∀ c W, Calls Tryz.prog 209 #[.string s, .string ⟨#[c]⟩] W fun e w' => e = .returned (.int .i64 ((B s).count c)) ∧ w' = W) :
    Calls Tryz.prog 207 #[.pointer (some ⟨g, 0, none⟩), .string s] w fun e w' => ∃ r, e = .returned (.string r) ∧ B r = escB (B s) ∧ Below w.heap.size w w' := by
  obtain ⟨i0, hi, hz0, hz1', hz2⟩ := info_parts info_b8
  have HK := Lib.hid hk
  have HB := Lib.hid (BsR.at h)
  have ht := h.tt
  have ht0 := h.tt0
  have ht1 := h.tt1
  have hq := h.q
  have hb := h.b
  have HL := Lib.hid (escB_len (B s))
  have HA := Lib.hid (any_count (B s))
  have HH := Lib.hid h
  have HE := Lib.hid (escB_bound (B s))
  have hlB := len_B s
  have e92 : ((⟨#[92]⟩ : ByteArray)[0]'(by decide)).toNat = 92 := rfl
  have e34 : ((⟨#[34]⟩ : ByteArray)[0]'(by decide)).toNat = 34 := rfl
  clear hk h
  go_enter Tryz.func207, Tryz.ntmps207
  go_upto_if 26 with fail
  go_cut [5, 6] (fun s5 s6 wx => s5 = .int .i64 ((escB (B s)).length) ∧ s6 = .bool ((B s).any oddE) ∧ Below w.heap.size w wx)
  case first =>
    cases hd : decide ((16 : Int) ≤ (s.size : Int))
    case true =>
      go_wp2_with fail
      go_loopw [32, 5, 6] (fun a b c wr => ∃ (i N : Nat) (p : Bool), i ≤ 2 ∧ a = .int .i64 i ∧ b = .int .i64 N ∧ N ≤ s.size * 2 ∧ Hid (N = s.size + (if 1 ≤ i then (B s).count 92 else 0) + (if 2 ≤ i then (B s).count 34 else 0)) ∧ c = .bool p ∧ Hid (p = ((decide (1 ≤ i) && decide (0 < (B s).count 92)) || (decide (2 ≤ i) && decide (0 < (B s).count 34)))) ∧ Hid (Below w.heap.size w wr)) (fun v _ _ _ => 3 - (intOf v).toNat)
      case atStart => exact ⟨0, s.size, false, by omega, rfl, rfl, by omega, Lib.hid (by simp), rfl, Lib.hid (by simp), Lib.hid (Below.refl _ _)⟩
      case round =>
        clear ht ht0 ht1 hq hb
        obtain ⟨i, N, p, hi2, rfl, rfl, hN, HN, rfl, HP, HW⟩ := hrel
        have HC := Lib.hid (escB_len (B s))
        have hb92 := HE.out
        rw [escB_len] at hb92
        have k92 := HK.out 92 wr
        have k34 := HK.out 34 wr
        have hr := HH.out.later HW.out
        have ht := hr.tt
        have ht0 := hr.tt0
        have ht1 := hr.tt1
        have hq := hr.q
        have hb := hr.b
        clear hr
        generalize (B s).count 92 = n92 at *
        generalize (B s).count 34 = n34 at *
        have hN0 := HN.out
        have hlB' := hlB
        rcases (show i = 0 ∨ i = 1 ∨ i = 2 by omega) with rfl | rfl | rfl
        · simp at hN0
          subst hN0
          by_cases h0 : n92 = 0
          · have hz : ((n92 : Int) != 0) = false := by rw [h0]; rfl
            go_wp2_with fail
            refine k92.mono ?_
            rintro e w1 ⟨rfl, rfl⟩
            go_wp2_with fail
            go_roundw
            case rel => exact ⟨1, s.size, p, by omega, rfl, rfl, hN, Lib.hid (by rw [h0]; simp), rfl, Lib.hid (by rw [HP.out, h0]; simp), HW⟩
            case measure => (simp [intOf]; try omega)
          · have hz : ((n92 : Int) != 0) = true := by rw [bne_iff_ne]; omega
            go_wp2_with fail
            refine k92.mono ?_
            rintro e w1 ⟨rfl, rfl⟩
            go_wp2_with fail
            go_quiet (fail)
            go_wp2_with fail
            go_roundw
            case rel => exact ⟨1, s.size + n92, true, by omega, rfl, by go_num, by omega, Lib.hid (by simp), rfl, Lib.hid (by simp; omega), Lib.hid (bl_drewN HW.out _)⟩
            case measure => (simp [intOf]; try omega)
        · have hN1 : N + n34 ≤ s.size * 2 := by simp at hN0; omega
          clear hN0
          by_cases h0 : n34 = 0
          · have hz : ((n34 : Int) != 0) = false := by rw [h0]; rfl
            go_wp2_with fail
            refine k34.mono ?_
            rintro e w1 ⟨rfl, rfl⟩
            go_wp2_with fail
            go_roundw
            case rel => exact ⟨2, N, p, by omega, rfl, rfl, hN, Lib.hid (by rw [HN.out, h0]; simp), rfl, Lib.hid (by rw [HP.out, h0]; simp), HW⟩
            case measure => (simp [intOf]; try omega)
          · have hz : ((n34 : Int) != 0) = true := by rw [bne_iff_ne]; omega
            go_wp2_with fail
            refine k34.mono ?_
            rintro e w1 ⟨rfl, rfl⟩
            go_wp2_with fail
            go_quiet (fail)
            go_wp2_with fail
            go_roundw
            case rel => exact ⟨2, N + n34, true, by omega, rfl, by go_num, by omega, Lib.hid (by rw [HN.out]; simp), rfl, Lib.hid (by simp; omega), Lib.hid (bl_drewN HW.out _)⟩
            case measure => (simp [intOf]; try omega)
        · clear hN0
          go_wp2_with fail
          go_meet
          case rel => exact ⟨by rw [HC.out, hlB', HN.out]; simp, by rw [HA.out, HP.out]; simp, HW.out⟩
    case false =>
      go_wp2_with fail
      go_loopw [10, 5, 6] (fun a b c wr => ∃ (k N : Nat) (p : Bool), k ≤ s.size ∧ a = .int .i64 k ∧ b = .int .i64 N ∧ N ≤ s.size * 2 ∧ Hid (N + k = s.size + (escB ((B s).take k)).length) ∧ c = .bool p ∧ Hid (p = ((B s).take k).any oddE) ∧ Hid (Below w.heap.size w wr)) (fun v _ _ _ => s.size + 1 - (intOf v).toNat)
      case atStart => exact ⟨0, s.size, false, by omega, rfl, rfl, by omega, Lib.hid (by simp [escB]), rfl, Lib.hid (by simp), Lib.hid (Below.refl _ _)⟩
      case round =>
        clear ht ht0 ht1 hq hb
        obtain ⟨k, N, p, hk2, rfl, rfl, hN, HN, rfl, HP, HW⟩ := hrel
        have hr := HH.out.later HW.out
        by_cases hks : k < s.size
        · have hx : (B s)[k]? = some s[k] := by rw [List.getElem?_eq_getElem (by rw [hlB]; exact hks)]; rfl
          have HT := Lib.hid (List.take_succ_eq_append_getElem (l := B s) (i := k) (by rw [hlB]; exact hks))
          have HX := Lib.hid (show (B s)[k]'(by rw [hlB]; exact hks) = s[k] from rfl)
          obtain ⟨x, hsx⟩ : ∃ x, s[k] = x := ⟨_, rfl⟩
          have hn1 := HN.out
          have HL1 := Lib.hid (escB_take_len (B s) k (by rw [hlB]; exact hks))
          rw [HX.out, hsx] at HL1
          rw [HX.out, hsx] at HT
          have hbk := escB_bound ((B s).take k)
          rw [List.length_take, hlB, Nat.min_eq_left (Nat.le_of_lt hks)] at hbk
          rcases hr.at x with ⟨ho, hc⟩ | ⟨ho, a, c, hc, hc0, hc1⟩
          · have HL2 : Hid ((escB ((B s).take (k + 1))).length = (escB ((B s).take k)).length + 1) := Lib.hid (by have := HL1.out; rw [ho] at this; simpa using this)
            have HO := Lib.hid ho
            clear hr hx HE HL1 ho
            have hz0 : (0 : Int) ≤ (k : Int) := by omega
            have hz1 : (k : Int) < (s.size : Int) := by omega
            have hx0 : (0 : Int) ≤ (x.toNat : Int) := by omega
            have hx1 : (x.toNat : Int) < 256 := by have := x.toNat_lt; omega
            go_wp2_with fail
            go_roundw
            case rel => exact ⟨k + 1, N, p, by omega, by go_num, rfl, hN, Lib.hid (by rw [HL2.out]; omega), rfl, Lib.hid (by rw [HP.out, HT.out, List.any_append, List.any_cons, HO.out]; simp), HW⟩
            case measure => (simp [intOf]; try omega)
          · have HL2 : Hid ((escB ((B s).take (k + 1))).length = (escB ((B s).take k)).length + 2) := Lib.hid (by have := HL1.out; rw [ho] at this; simpa using this)
            have HO := Lib.hid ho
            clear hr hx HE HL1 ho
            have hz0 : (0 : Int) ≤ (k : Int) := by omega
            have hz1 : (k : Int) < (s.size : Int) := by omega
            have hx0 : (0 : Int) ≤ (x.toNat : Int) := by omega
            have hx1 : (x.toNat : Int) < 256 := by have := x.toNat_lt; omega
            go_wp2_with fail
            go_roundw
            case rel => exact ⟨k + 1, N + 1, true, by omega, by go_num, by go_num, by omega, Lib.hid (by rw [HL2.out]; omega), rfl, Lib.hid (by rw [HT.out, List.any_append, List.any_cons, HO.out]; simp), HW⟩
            case measure => (simp [intOf]; try omega)
        · obtain rfl : k = s.size := by omega
          go_wp2_with fail
          go_meet
          case rel =>
            have hlB' := hlB
            rw [← hlB', List.take_length] at HN HP
            have hn := HN.out
            exact ⟨by rw [show N = (escB (B s)).length by omega], by rw [HP.out], HW.out⟩
  case rest =>
    clear ht ht0 ht1 hq hb
    obtain ⟨rfl, rfl, hW⟩ := hcut
    have HW := Lib.hid hW
    have hE := HE.out
    rw [hlB] at hE
    obtain ⟨n, hn⟩ : ∃ n, (escB (B s)).length = n := ⟨_, rfl⟩
    have Hn := Lib.hid hn
    rw [hn] at hE
    rw [hn]
    clear hn hW
    cases hany : (B s).any oddE
    case false =>
      go_wp2_with fail
      go_ret
      exact ⟨_, rfl, (escB_plain hany).symm, HW.out⟩
    case true =>
      have Hany := Lib.hid hany
      clear hany
      have HN := Lib.hid (RwB.new wc n (escB (B s)))
      go_wp2_with ((with_reducible refine wpList_make_row _ rfl _ _ 43 rfl 5 i0 (.int .u8 0) Tryz.underlying43 hi hz0 hz1' rfl .i64 .i64 n ?hl ?hc ?hb ?h63 ?_); (case hl => rfl); (case hc => rfl); (case hb => rw [hz2]; omega); (case h63 => omega))
      refine wp_forgetB (fun W => RwB wc W wc.heap.size n (escB (B s)) 0) HN.out (fun w1 hw1 => ?_)
      have H1 := Lib.hid hw1
      clear hw1 HN
      go_loopw [13, 14] (fun vj vk wr => ∃ j k : Nat, vj = .int .i64 j ∧ vk = .int .i64 k ∧ k ≤ s.size ∧ j ≤ n ∧ Hid (j = (escB ((B s).take k)).length) ∧ Hid (RwB wc wr wc.heap.size n (escB (B s)) j)) (fun _ v _ => s.size + 1 - (intOf v).toNat)
      case atStart => exact ⟨0, 0, rfl, rfl, Nat.zero_le _, Nat.zero_le _, Lib.hid rfl, H1⟩
      case round =>
        clear H1
        obtain ⟨j, k, rfl, rfl, hk2, hjn, HJ, HR⟩ := hrel
        have hr := HH.out.later (HW.out.trans (HR.out.bl.mono HW.out.size))
        by_cases hks : k < s.size
        · have HX := Lib.hid (show (B s)[k]'(by rw [hlB]; exact hks) = s[k] from rfl)
          obtain ⟨x, hsx⟩ : ∃ x, s[k] = x := ⟨_, rfl⟩
          have HN1 := Lib.hid (esc_next (B s) k (by rw [hlB]; exact hks))
          have hle2 := escB_take_le (B s) (k + 1)
          rw [HX.out, hsx] at HN1
          rw [Hn.out] at hle2
          have hz0 : (0 : Int) ≤ (k : Int) := by omega
          have hz1 : (k : Int) < (s.size : Int) := by omega
          have hx0 : (0 : Int) ≤ (x.toNat : Int) := by omega
          have hx1 : (x.toNat : Int) < 256 := by have := x.toNat_lt; omega
          have hj0 : (0 : Int) ≤ (j : Int) := by omega
          rcases hr.at x with ⟨ho, hc⟩ | ⟨ho, a, c, hc, hc0, hc1⟩
          · obtain ⟨q1, q2⟩ := HN1.out.1 ho
            have hj1 : (j : Int) < (n : Int) := by have := HJ.out; omega
            have Q1 := Lib.hid q1
            have Q2 := Lib.hid q2
            rw [← HJ.out] at Q1 Q2
            obtain ⟨hy, hf⟩ := HR.out.cell (i := j) (by omega)
            obtain ⟨y, hy⟩ := Option.isSome_iff_exists.1 hy
            clear hr HE HN1 ho q1 q2
            go_wp2_with fail
            go_roundw
            case rel => exact ⟨j + 1, k + 1, by go_num, by go_num, by omega, by omega, Lib.hid Q2.out.symm, Lib.hid (HR.out.put Q1.out)⟩
            case measure => (simp [intOf]; try omega)
          · obtain ⟨q1, q2, q3⟩ := HN1.out.2 ho
            have hj1 : (j : Int) + 1 < (n : Int) := by have := HJ.out; omega
            have hnj : ¬ (n = j) := by omega
            have HR2 := Lib.hid HR.out.drew
            have Q1 := Lib.hid q1
            have Q2 := Lib.hid q2
            have Q3 := Lib.hid q3
            rw [← HJ.out] at Q1 Q2 Q3
            have hcp : ∀ ty, (Builtin.copy_ #[43, 43] ty #[.slice (some ⟨wc.heap.size, j, none⟩) (n - j) (n - j), .slice (some ⟨a, 0, none⟩) 2 c]).run Tryz.prog wr.drew = .ok (goInt 2) (wr.drew.setCells wc.heap.size j [.int .u8 ((92 : UInt8).toNat), .int .u8 x.toNat]) := fun ty =>
              run_copy_cells wr.drew _ _ ty 5 wc.heap.size j (n - j) (n - j) ⟨a, 0, none⟩ 2 c [.int .u8 ((92 : UInt8).toNat), .int .u8 x.toNat] Tryz.underlying43 (by rw [hi]; simp [hz1']) (by show 2 = Nat.min 2 (n - j); simp only [Nat.min_def]; split <;> omega)
                (fun m v hm => by
                  match m, hm with
                  | 0, hm => exact Option.some.inj hm ▸ hc0
                  | 1, hm => exact Option.some.inj hm ▸ hc1
                  | m + 2, hm => simp at hm)
                (fun m hm => (HR.out.cell (i := j + m) (by simp at hm; omega)).1) (fun m hm => (HR.out.cell (i := j + m) (by simp at hm; omega)).2) (by simp [Value.oneCell'])
            clear hr HE HN1 ho q1 q2 q3
            go_wp2_with fail
            go_region_law (refine step_copy_runI rfl _ _ 43 43 rfl _ _ (by simp [Act.eval]) (by simp [Act.eval]) (hcp _) ?_)
            go_wp2_with fail
            go_roundw
            case rel => exact ⟨j + 2, k + 1, by go_num, by go_num, by omega, by omega, Lib.hid Q3.out.symm, Lib.hid (HR2.out.put2 Q1.out Q2.out)⟩
            case measure => (simp [intOf]; try omega)
        · obtain rfl : k = s.size := by omega
          have hj : j = n := by have := HJ.out; rw [← hlB, List.take_length, Hn.out] at this; exact this
          subst hj
          have hl : (escB (B s)).length = j := Hn.out
          have hcv : ∀ c, (convert 43 9 (.slice (some ⟨wc.heap.size, 0, none⟩) j c)).run Tryz.prog wr = .ok (.string ⟨(escB (B s)).toArray⟩) wr := fun c => by
            have := run_convert_bytes_back (P := Tryz.prog) wr 43 9 5 ⟨wc.heap.size, 0, none⟩ c (escB (B s)) Tryz.underlying43 Tryz.underlying5 Tryz.underlying9 (fun i hi => by
              obtain ⟨⟨f, hr, hf⟩, _, _⟩ := HR.out
              have h1 := hr.cell (i := i) (by omega)
              rw [hf i (by omega)] at h1
              rw [Addr.add_lit, Nat.zero_add, h1]
              simp [List.getD, hi])
            rw [hl] at this
            exact this
          have HB2 := Lib.hid (HW.out.trans (HR.out.bl.mono HW.out.size))
          clear hr HE HR HJ hl
          go_wp2
          go_ret
          exact ⟨_, rfl, by simp [B], HB2.out⟩
end Go.Proofs.YtgbapkechngnmaaGreat
