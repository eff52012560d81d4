/- inhibit.firing: the iterator's contract. -/
import Derived.RangeFuncNested
import Derived.RangeFuncBound
import Derived.RangeFuncCalls
import Derived.RangeFuncLeaves
import Derived.Shelf.Abstract
import Derived.Shelf.RegionOpen
import Derived.WalkKit
import Derived.OwnWalkIn
import Derived.TacticsInMore
import Derived.LoopNIn
import Derived.LoopIn
import Derived.Test.YtipnhpfpppblhaaGreatAls
import Derived.Test.YtipnhpfpppblhaaGreatAlRight
import Derived.Test.YtipnhpfpppblhaaGreatBox2
import Derived.Test.YtipnhpfpppblhaaGreatHeldT
namespace Go.Proofs.YtipnhpfpppblhaaGreat
open Go.RowKit Go.Shelf
attribute [local go_sem] Oper.semAt_some

abbrev AlIn (l : List (Al × Value)) := { p : Al × Value // p ∈ l ∧ rightA p.1 = true }
/-- those that may be, and fire -/
def goesA (now : Int) (p : Al × Value) : Bool := rightA p.1 && firesA p.1 now
theorem goes_step {l : List (Al × Value)} {now : Int} {k : Nat} (h : k < l.length) : (l.take (k + 1)).filter (goesA now) = (l.take k).filter (goesA now) ++ (if goesA now l[k] then [l[k]] else []) := by
  rw [List.take_succ_eq_append_getElem h, List.filter_append]
  cases hg : goesA now l[k] <;> simp [hg]

theorem firing_any (a : Option Addr) (n c : Nat) (now : Int) (w : World) :
    Calls Tryz.prog 63 #[.slice a n c, .int .i64 now] w fun e w' => e = .returned (.func (.func 92) #[] #[.pointer (some ⟨w.heap.size, 0, none⟩), .pointer (some ⟨w.heap.size + 1, 0, none⟩)]) ∧
      w' = (w.alloc (.cells #[.slice a n c] 31)).alloc (.cells #[.int .i64 now] 3) := by
  go_enter Tryz.func63, Tryz.ntmps63
  go_wp2
  go_ret
  exact ⟨rfl, rfl⟩

set_option maxHeartbeats 3200000 in
set_option maxRecDepth 100000 in
theorem firing1_in (n : Nat) (hn : 1 ≤ n) (l : List (Al × Value)) (now : Int) (id bs : Nat) (w0 : World) (lv : Value) (hl : AlsAt w0 lv l) (hlen : l.length ≤ maxLen) (k0 : w0.cell? ⟨bs, 0, none⟩ = some lv) (k1 : w0.cell? ⟨bs + 1, 0, none⟩ = some (.int .i64 now)) (hbs : bs + 1 < w0.heap.size)
    (J Jx : List (AlIn l) → World → Prop) (W : World) (hW : Below w0.heap.size w0 W) (hJ : ∀ s A A', J s A → Below A.heap.size A A' → J s A') (hJx : ∀ s A A', Jx s A → Below A.heap.size A A' → Jx s A')
    (hY : ∀ pre x W1, J pre W1 → pre.length < l.length → YieldAt Fence.wide (n - 1) Tryz.prog id #[AlV x.1.1 x.1.2] W1 fun e W' =>
      (e = .returned (.bool true) ∧ J (pre ++ [x]) W' ∧ Below w0.heap.size W1 W') ∨ (e = .returned (.bool false) ∧ Jx (pre ++ [x]) W'))
    (h0 : J [] W) :
    CallsIn Fence.wide n Tryz.prog 92 #[.func (.yield id) #[] #[], .pointer (some ⟨bs, 0, none⟩), .pointer (some ⟨bs + 1, 0, none⟩)] W fun e W' =>
      (∃ v, e = .returned v) ∧ ((∃ xs : List (AlIn l), xs.map (·.1) = l.filter (goesA now) ∧ J xs W') ∨ (∃ pre : List (AlIn l), pre.map (·.1) <+: l.filter (goesA now) ∧ Jx pre W')) := by
  unfold maxLen at hlen
  obtain ⟨la, lc, rfl, hlc, hlr⟩ := RdAt.shape hl.row
  have HLR := Lib.hid hlr
  have HFL := Lib.hid hl.fld
  have q0 := keep_cell k0 hW (by omega)
  have q1 := keep_cell k1 hW hbs
  have HJ := Lib.hid hJ
  have HJX := Lib.hid hJx
  have HYD := Lib.hid hY
  have HK1 := Lib.hid k1
  have HW := Lib.hid hW
  have H0 := Lib.hid h0
  clear hl hlr hJ hJx hY k0 k1 hW h0
  refine callsIn_of_wp Tryz.func92 rfl trivial ?_ rfl
  simp only [Tryz.ntmps92, List.size_toArray, List.length_cons, List.length_nil, Nat.reduceAdd, Nat.reduceSub, Array.replicate_succ, Array.replicate_zero, List.push_toArray, List.append_toArray, List.nil_append, List.cons_append]
  gi_wp2
  gi_loopw [8] (fun vi wr => ∃ (k : Nat) (pre : List (AlIn l)), vi = .int .i64 k ∧ k ≤ l.length ∧ Hid (pre.map (·.1) = (l.take k).filter (goesA now)) ∧ Hid (J pre wr) ∧ Hid (Below w0.heap.size w0 wr)) (fun vi _ => l.length - (intOf vi).toNat)
  case atStart => exact ⟨0, [], rfl, Nat.zero_le _, Lib.hid (by simp), H0, HW⟩
  case round =>
    clear q0 q1 H0 HW
    obtain ⟨k, pre, rfl, hk, HP, HJP, HB⟩ := hrel
    by_cases hkl : k < l.length
    · obtain ⟨b, o, rfl, hbl, hcell⟩ := HLR.out (by omega)
      have hat := alCells_at l k hkl
      have p0 := keep_cell (hcell _ _ (hat 0 _ rfl)) HB.out hbl
      have p1 := keep_cell (hcell _ _ (hat 1 _ rfl)) HB.out hbl
      have p2 := keep_cell (hcell _ _ (hat 2 _ rfl)) HB.out hbl
      have p3 := keep_cell (hcell _ _ (hat 3 _ rfl)) HB.out hbl
      have p4 := keep_cell (hcell _ _ (hat 4 _ rfl)) HB.out hbl
      have p5 := keep_cell (hcell _ _ (hat 5 _ rfl)) HB.out hbl
      have q1 := keep_cell HK1.out HB.out hbs
      rw [Nat.add_zero] at p0
      rw [← Nat.add_assoc] at p1 p2 p3 p4 p5
      have hmem := List.getElem_mem hkl
      obtain ⟨hfk, hfit⟩ := HFL.out _ hmem
      have HX : Hid (rightA l[k].1 = true → ∃ x : AlIn l, x.1 = l[k]) := Lib.hid (fun hr => ⟨⟨l[k], hmem, hr⟩, rfl⟩)
      have HST := Lib.hid (goes_step (now := now) hkl)
      have hpl : pre.length ≤ k := by
        have := congrArg List.length HP.out
        rw [List.length_map] at this
        rw [this]
        exact Nat.le_trans (List.length_filter_le _ _) (List.length_take_le _ _)
      have HG : Hid (goesA now l[k] = (rightA l[k].1 && firesA l[k].1 now)) := Lib.hid rfl
      generalize l[k] = y at *
      obtain ⟨⟨src, fl, alv, ac, fr, til⟩, fv⟩ := y
      dsimp only at *
      obtain ⟨fa, fc, rfl, hfc, _⟩ := RdAt.shape hfk
      have KR := Lib.hid (fun V (h : Below w0.heap.size w0 V) => aright_any src fl alv ac fr til _ V hfit.src (hfk.later h) hfit.fl hfit.len)
      have KF := Lib.hid (fun V => fires_any src fa fl.length fc alv ac fr til now V)
      have hR : rightA ⟨src, fl, alv, ac, fr, til⟩ = (whoA src fl alv && beginsA fr && endsA fr til) := rfl
      have hF : firesA ⟨src, fl, alv, ac, fr, til⟩ now = (decide (fr ≤ now) && (decide (til = 0) || decide (now < til))) := rfl
      rw [← hR] at KR
      rw [← hF] at KF
      generalize rightA ⟨src, fl, alv, ac, fr, til⟩ = R at *
      generalize firesA ⟨src, fl, alv, ac, fr, til⟩ now = F at *
      generalize goesA now (⟨src, fl, alv, ac, fr, til⟩, Value.slice fa fl.length fc) = G at *
      clear hcell hat hfk hfit hmem hR hF
      gi_wp2_with fail
      have HBA := Lib.hid (fun (o : Obj) => HB.out.trans ((alloc_below wr o).mono HB.out.size))
      refine ⟨trivial, ?_⟩
      refine (callsIn_wide.2 (KR.out _ (HBA.out _))).mono ?_
      rintro e w2 ⟨rfl, hb2⟩
      have hB2 := (HBA.out _).trans (hb2.mono (HBA.out _).size)
      obtain ⟨⟨x0, x1, x2, x3, x4, x5⟩, hlt, hBw⟩ := box6 hb2
      have HJ2 := Lib.hid (HJ.out _ _ _ HJP.out hBw)
      have q1 := keep_cell HK1.out hB2 hbs
      have HB2 := Lib.hid hB2
      have HLT := Lib.hid hlt
      clear p0 p1 p2 p3 p4 p5 hb2 hB2 hBw KR HBA hlt
      cases R
      · have HN : Hid (pre.map (·.1) = (l.take (k + 1)).filter (goesA now)) := Lib.hid (by rw [HST.out, show G = false from HG.out, HP.out]; simp)
        gi_wp2_with fail
        refine ⟨trivial, ?_⟩
        gi_wp2_with fail
        refine ⟨fun _ h => (by cases h), ?_⟩
        gi_wp2
        go_roundw
        case rel => exact ⟨k + 1, pre, by go_num, by omega, HN, HJ2, HB2⟩
        case measure => (simp [intOf]; try omega)
      · have X6 := Lib.hid (And.intro x0 (And.intro x1 (And.intro x2 (And.intro x3 (And.intro x4 x5)))))
        gi_wp2_with fail
        refine ⟨trivial, ?_⟩
        refine (callsIn_wide.2 (KF.out _)).mono ?_
        rintro e w3 ⟨rfl, hb3⟩
        have hB3 := HB2.out.trans (hb3.mono HB2.out.size)
        have HJ3 := Lib.hid (HJ.out _ _ _ HJ2.out hb3)
        have HB3 := Lib.hid hB3
        have x0 := keep_cell x0 hb3 HLT.out
        have x1 := keep_cell x1 hb3 HLT.out
        have x2 := keep_cell x2 hb3 HLT.out
        have x3 := keep_cell x3 hb3 HLT.out
        have x4 := keep_cell x4 hb3 HLT.out
        have x5 := keep_cell x5 hb3 HLT.out
        clear hb3 hB3 HJ2 HB2 KF X6
        cases F
        · have HN : Hid (pre.map (·.1) = (l.take (k + 1)).filter (goesA now)) := Lib.hid (by rw [HST.out, show G = false from HG.out, HP.out]; simp)
          gi_wp2_with fail
          refine ⟨fun _ h => (by cases h), ?_⟩
          gi_wp2
          go_roundw
          case rel => exact ⟨k + 1, pre, by go_num, by omega, HN, HJ3, HB3⟩
          case measure => (simp [intOf]; try omega)
        · obtain ⟨x, hx⟩ := HX.out (by first | rfl | trivial)
          have HN : Hid ((pre ++ [x]).map (·.1) = (l.take (k + 1)).filter (goesA now)) := Lib.hid (by rw [List.map_append, List.map_singleton, hx, HST.out, show G = true from HG.out, HP.out]; simp)
          have hKY := HYD.out pre x w3 HJ3.out (by omega)
          rw [hx] at hKY
          obtain ⟨fn, tmps, assign, body, hy, hR⟩ := hKY
          dsimp only [AlV] at hy
          clear hx
          gi_wp2
          refine hR.mono ?_
          rintro e W4 (⟨rfl, hJ4, hk4⟩ | ⟨rfl, hJx4⟩)
          · have HJ4 := Lib.hid hJ4
            have HB4 := Lib.hid (HB3.out.trans hk4)
            clear hJ4 hk4 x0 x1 x2 x3 x4 x5 q1
            gi_wp2
            go_roundw
            case rel => exact ⟨k + 1, pre ++ [x], by go_num, by omega, HN, HJ4, HB4⟩
            case measure => (simp [intOf]; try omega)
          · have HJX4 := Lib.hid hJx4
            clear hJx4 x0 x1 x2 x3 x4 x5 q1
            gi_wp2
            refine bodyPost_ret (results_none rfl _ _ _) rfl ?_
            refine ⟨⟨_, rfl⟩, .inr ⟨pre ++ [x], ?_, HJX4.out⟩⟩
            rw [HN.out]
            exact (List.take_prefix _ _).filter _
    · obtain rfl : k = l.length := by omega
      have HD : Hid (pre.map (·.1) = l.filter (goesA now)) := Lib.hid (by rw [HP.out, List.take_length])
      gi_wp2
      go_end0
      exact ⟨⟨_, rfl⟩, .inl ⟨pre, HD.out, HJP.out⟩⟩
/-- what inhibit.firing hands back, as the range's law wants it -/
theorem firing_stops (n : Nat) (hn : 1 ≤ n) (l : List (Al × Value)) (now : Int) (bs : Nat) (w0 : World) (lv : Value) (hl : AlsAt w0 lv l) (hlen : l.length ≤ maxLen) (k0 : w0.cell? ⟨bs, 0, none⟩ = some lv) (k1 : w0.cell? ⟨bs + 1, 0, none⟩ = some (.int .i64 now)) (hbs : bs + 1 < w0.heap.size) :
    SeqStopsK Fence.wide n Tryz.prog 92 #[.pointer (some ⟨bs, 0, none⟩), .pointer (some ⟨bs + 1, 0, none⟩)] (fun x : AlIn l => #[AlV x.1.1 x.1.2]) (Below w0.heap.size)
      (fun xs => xs.map (·.1) = l.filter (goesA now)) (fun pre => pre.map (·.1) <+: l.filter (goesA now)) l.length w0 := fun id J Jx W hW hJ hJx hY h0 =>
  firing1_in n hn l now id bs w0 lv hl hlen k0 k1 hbs J Jx W hW (fun s A A' h hb => hJ s A A' none h (below_grown hb none) (fun r e => by cases e)) (fun s A A' h hb => hJx s A A' none h (below_grown hb none) (fun r e => by cases e)) hY h0
end Go.Proofs.YtipnhpfpppblhaaGreat
