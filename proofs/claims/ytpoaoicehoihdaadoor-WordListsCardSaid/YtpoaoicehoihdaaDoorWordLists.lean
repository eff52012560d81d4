/- WordLists: the walk. -/
import Derived.Test.YtpoaoicehoihdaaDoorLives
import Derived.Test.YtpoaoicehoihdaaDoorSame
import Derived.Test.YtpoaoicehoihdaaDoorNames
import Derived.Test.YtpoaoicehoihdaaDoorArgs
import Derived.Maps.AppendAt
import Derived.Deep.DeepCutAuto
import Derived.Deep.LoopGhost
import Derived.Deep.RegionWith
namespace Go.Proofs.YtpoaoicehoihdaaDoor.lawLists
open Go.RowKit

/-- names that are unlike one another -/
structure OwnOk (ws : List ByteArray) : Prop where
  all : ∀ x ∈ ws, nameL (B x) = true
  nodup : ws.Nodup
theorem OwnOk.nil : OwnOk [] := ⟨by simp, by simp⟩
theorem OwnOk.snoc {ws : List ByteArray} {x : ByteArray} (h : OwnOk ws) (hx : nameL (B x) = true) (hn : seenB ws x = false) : OwnOk (ws ++ [x]) := by
  rw [seenB, List.any_eq_false] at hn
  constructor
  · intro y hy
    rcases List.mem_append.1 hy with hy | hy
    · exact h.all y hy
    · rw [List.mem_singleton] at hy; rw [hy]; exact hx
  · rw [List.nodup_append]
    refine ⟨h.nodup, by simp, fun a ha b hb e => ?_⟩
    rw [List.mem_singleton] at hb
    subst hb
    exact hn a ha (by simpa using e)
theorem OwnOk.names {ws : List ByteArray} (h : OwnOk ws) : NamesOk (ws.map B) := by
  refine ⟨fun n hn => ?_, ?_⟩
  · obtain ⟨x, hx, rfl⟩ := List.mem_map.1 hn; exact h.all x hx
  · rw [List.Nodup, List.pairwise_map]
    exact h.nodup.imp fun hne e => hne (B_inj e)

theorem join_snoc (d : UInt8) (ms : List (List UInt8)) (y : List UInt8) (h : ms ≠ []) : Lib.join (ms ++ [y]) [d] = Lib.join ms [d] ++ d :: y := by
  obtain ⟨m, r, rfl⟩ := List.exists_cons_of_ne_nil h
  rw [List.cons_append, Lib.join_cons, Lib.join_cons]
  simp [Lib.joinTail]
theorem names_cut (t : ByteArray) (w : World) (hM : MaxAt w) (ht : t.size ≤ 15) : Calls Tryd.prog 20 #[.string t] w fun e w' => ∃ (v : Value) (c : Int) (ns : List ByteArray), e = .returned (.tuple #[v, .int .i64 c]) ∧
    (ns ≠ [] → c = 0) ∧ StrsAt w' v ns ∧ (∀ n ∈ ns, nameL (B n) = true) ∧ ns.length ≤ 16 ∧ Fresh w v ∧ Below w.heap.size w w' := by
  refine (names_any t w hM (by omega)).mono ?_
  rintro e w' (⟨v, ws, h1, h2, h3, hf, h4⟩ | ⟨h1, h2, h3⟩)
  · have h5 := namesL_ok h2
    have h6 := namesL_len h2
    rw [List.length_map, len_B] at h6
    exact ⟨v, 0, ws, h1, fun _ => rfl, h3, fun n hn => h5.all _ (List.mem_map_of_mem hn), by omega, hf, h4⟩
  · exact ⟨_, 2, [], h1, fun h => absurd rfl h, StrsAt.nil _, by simp, by simp, (fun k hk => by cases hk), h3⟩

/-- the names of one text, while others are gathered -/
def NsAt (a : Option Addr) (ns : List ByteArray) (H0 H1 : Nat) (w : World) : Prop := ns ≠ [] → ∃ b o, a = some ⟨b, o, none⟩ ∧ H0 ≤ b ∧ b < H1 ∧ ∀ (j : Nat) y, ns[j]? = some y → w.cell? ⟨b, o + j, none⟩ = some (.string y)
theorem NsAt.grown {a : Option Addr} {ns : List ByteArray} {H0 H1 : Nat} {w w' : World} {row : Option Nat} (h : NsAt a ns H0 H1 w) (hg : w.grownBy w' row) (hrow : ∀ b, row = some b → b < H0 ∨ H1 ≤ b) : NsAt a ns H0 H1 w' := by
  intro hne
  obtain ⟨b, o, ha, h0, h1, hc⟩ := h hne
  refine ⟨b, o, ha, h0, h1, fun j y hj => hg.cell (hc j y hj) fun e => ?_⟩
  have := hrow b e.symm
  omega
/-- own names lie ahead of H0, or from H1 on -/
def Off (v : Value) (H0 H1 : Nat) : Prop := ∀ b, v.ownBlock = some b → b < H0 ∨ H1 ≤ b

set_option maxHeartbeats 1600000 in
set_option maxRecDepth 100000 in
theorem walk (v0 : Value) (xs : List ByteArray) (at' : Int) (w : World) (hsh : w.ShapedOpen Tryd.prog) (hA : ArgStrs w v0 xs) :
    Calls Tryd.prog 9 #[v0, .int .i64 at'] w fun e w' => e = .returned (.bool true) ∧ Below w.heap.size w w' := by
  have hM := MaxAt.of_shaped hsh
  clear hsh
  have hxm := hA.2.2
  have hxl := hA.2.1
  unfold maxLen at hxl
  obtain ⟨a0, c0, rfl, hc0, hr0⟩ := hA.1.shape
  have HXM := Lib.hid hxm
  have HR0 := Lib.hid hr0
  clear hA hxm hr0
  obtain ⟨i0, hi, hz0, hz1, hz2⟩ := info_parts info9
  go_enter Tryd.func9, Tryd.ntmps9
  go_wp2_with (go_at_call 10; refine (lives_any _).mono ?_; rintro e w1 ⟨rfl, hb1⟩)
  go_loopg [5, 6] 10 (fun g v i wr => ∃ (k : Nat) (ws : List ByteArray), k ≤ 10 ∧ g + k = 10 ∧ i = .int .i64 k ∧ k ≤ xs.length ∧ OwnOk ws ∧ ws.length ≤ 16 * k ∧ wr.ownsRow w.heap.size 9 1 v ws.length (ws.map Value.string) ∧ Below w.heap.size w wr)
  case atStart => exact ⟨0, [], by omega, by omega, rfl, Nat.zero_le _, OwnOk.nil, by simp, World.ownsRow_nil _ _ _ _, hb1⟩
  case round =>
    obtain ⟨k, ws, hk, hg, rfl, hkx, hok, hwl, hown, hbr⟩ := hrel
    clear hb1
    have HOK := Lib.hid hok
    have HG := Lib.hid hg
    clear hok hg
    obtain ⟨g0, rfl⟩ : ∃ g0 : Nat, g0 = gk := ⟨_, rfl⟩
    by_cases hgo : k < 10 ∧ k < xs.length
    · obtain ⟨hk10, hkl⟩ := hgo
      obtain ⟨x, hxe⟩ : ∃ x, xs[k] = x := ⟨_, rfl⟩
      obtain ⟨b0, o0, rfl, hb0, hcell⟩ := HR0.out (by omega)
      have hcx : w.cell? ⟨b0, o0 + k, none⟩ = some (.string x) := hcell k _ (by rw [List.getElem?_map, List.getElem?_eq_getElem hkl, hxe]; rfl)
      have hxs : x.size ≤ 9223372036854775807 := by have := HXM.out x (by rw [← hxe]; exact List.getElem_mem hkl); unfold maxLen at this; omega
      have hcr : wr.cell? ⟨b0, o0 + k, none⟩ = some (.string x) := (hbr.cell (p := ⟨b0, o0 + k, none⟩) hb0).trans hcx
      clear hcell hcx hxe
      have hMr := hM.later hbr
      go_upto_region 7 with fail
      go_cut [7, 8] (fun s7 s8 wx => ∃ (c : Int) (ns : List ByteArray), s8 = .int .i64 c ∧ (ns ≠ [] → c = 0) ∧ StrsAt wx s7 ns ∧ (∀ n ∈ ns, nameL (B n) = true) ∧ ns.length ≤ 16 ∧ Fresh wr s7 ∧ Below wr.heap.size wr wx)
      case first =>
        have hx0 : (0 : Int) ≤ (x.size : Int) := by omega
        by_cases h15 : (x.size : Int) ≤ 15
        · go_region_with (go_at_call 20; refine (names_cut _ _ ?_ ?_).mono ?_; (first | exact hMr | exact hMr.later (bl_drewN (Below.refl _ _) _) | exact hMr.later (Below.refl _ _).drew); (first | omega | (rw [ByteArray.size_extract]; omega)); rintro e w2 ⟨v2, c, ns, rfl, hc, hS, hall, hnl, hfr, hb2⟩)
          all_goals (go_wp2_with fail; go_meet; exact ⟨c, ns, rfl, hc, hS, hall, hnl, hfr, ((Below.refl wr.heap.size wr).drew).trans hb2⟩)
        · go_region_with (go_at_call 20; refine (names_cut _ _ ?_ ?_).mono ?_; (first | exact hMr | exact hMr.later (bl_drewN (Below.refl _ _) _) | exact hMr.later (Below.refl _ _).drew); (first | omega | (rw [ByteArray.size_extract]; omega)); rintro e w2 ⟨v2, c, ns, rfl, hc, hS, hall, hnl, hfr, hb2⟩)
          all_goals (go_wp2_with fail; go_meet; exact ⟨c, ns, rfl, hc, hS, hall, hnl, hfr, ((Below.refl wr.heap.size wr).drew).trans hb2⟩)
      case rest =>
        obtain ⟨c, ns, rfl, hc, hS, hall, hnl, hfr, hb2⟩ := hcut
        clear hcr hMr
        have hbw : Below w.heap.size w wc := hbr.trans (hb2.mono hbr.size)
        have hown2 := own_later hown hb2
        obtain ⟨a7, c7, rfl, hc7, hr7⟩ := hS.shape
        have hN7 : NsAt a7 ns wr.heap.size wc.heap.size wc := by
          intro hne
          obtain ⟨b, o, rfl, hlt, hcell⟩ := hr7 hne
          exact ⟨b, o, rfl, hfr b rfl, hlt, hcell⟩
        have hoff : Off u5 wr.heap.size wc.heap.size := fun b hb => .inl (hown.lt b hb).2
        obtain ⟨H0, hH0⟩ : ∃ H0, wr.heap.size = H0 := ⟨_, rfl⟩
        rw [hH0] at hN7 hoff
        clear hH0 hfr
        have HC := Lib.hid hc
        have HALL := Lib.hid hall
        clear hr7 hc hall hS hown hbr hb2
        go_wp2
        go_loopg [5, 9] ns.length (fun g v i wr => ∃ (j : Nat) (ws2 : List ByteArray), Hid (g + j = ns.length) ∧ j ≤ ns.length ∧ i = .int .i64 j ∧ Hid (OwnOk ws2) ∧ ws2.length ≤ 16 * k + j ∧ wr.ownsRow w.heap.size 9 1 v ws2.length (ws2.map Value.string) ∧ Below w.heap.size w wr ∧ NsAt a7 ns H0 wc.heap.size wr ∧ Off v H0 wc.heap.size ∧ wc.heap.size ≤ wr.heap.size)
        case atStart => exact ⟨0, ws, rfl, Nat.zero_le _, rfl, HOK, by omega, hown2, hbw, hN7, hoff, Nat.le_refl _⟩
        case round =>
          obtain ⟨j, ws2, HG2, hj, rfl, HOK2, hwl2, hown3, hb3w, hN3, hoff3, hz3⟩ := hrel
          obtain ⟨g1, rfl⟩ : ∃ g1 : Nat, g1 = gk := ⟨_, rfl⟩
          obtain ⟨wo, rfl⟩ : ∃ wo : World, wo = wr := ⟨_, rfl⟩
          obtain ⟨a5, c5, rfl, hc5, hr5⟩ := (RdAt.own hown3).shape
          have HR5 := Lib.hid hr5
          clear hr5
          by_cases hjn : j < ns.length
          · have hc0 : c = 0 := HC.out (by intro h; rw [h] at hjn; exact absurd hjn (Nat.not_lt_zero _))
            subst hc0
            obtain ⟨b7, o7, rfl, hb70, hb7, hcell7⟩ := hN3 (by intro h; rw [h] at hjn; exact absurd hjn (Nat.not_lt_zero _))
            obtain ⟨y, hye⟩ : ∃ y, ns[j] = y := ⟨_, rfl⟩
            have hcy : wo.cell? ⟨b7, o7 + j, none⟩ = some (.string y) := hcell7 j y (by rw [← hye]; exact List.getElem?_eq_getElem hjn)
            have hyn : nameL (B y) = true := HALL.out y (by rw [← hye]; exact List.getElem_mem hjn)
            have HYN := Lib.hid hyn
            clear hcell7 hye hyn
            go_wp2
            go_loopg [10, 11] ws2.length (fun g x i wi => ∃ q : Nat, Hid (g + q = ws2.length) ∧ q ≤ ws2.length ∧ i = .int .i64 q ∧ x = .bool (seenB (ws2.take q) y) ∧ Below wo.heap.size wo wi)
            case atStart => exact ⟨0, rfl, Nat.zero_le _, rfl, rfl, Below.refl _ _⟩
            case round =>
              obtain ⟨q, HG3, hq, rfl, rfl, hb4⟩ := hrel
              have hcy4 : wr.cell? ⟨b7, o7 + j, none⟩ = some (.string y) := (hb4.cell (p := ⟨b7, o7 + j, none⟩) (Nat.lt_of_lt_of_le hb7 hz3)).trans hcy
              by_cases hql : q < ws2.length
              · obtain ⟨b5, o5, rfl, hb5, hcell5⟩ := HR5.out (by omega)
                obtain ⟨z, hze⟩ : ∃ z, ws2[q] = z := ⟨_, rfl⟩
                have hcz : wr.cell? ⟨b5, o5 + q, none⟩ = some (.string z) := (hb4.cell (p := ⟨b5, o5 + q, none⟩) hb5).trans (hcell5 q _ (by rw [List.getElem?_map, List.getElem?_eq_getElem hql, hze]; rfl))
                have HSN : Hid (seenB (ws2.take (q + 1)) y = (seenB (ws2.take q) y || decide (z = y))) := by
                  show _ = _
                  rw [List.take_succ_eq_append_getElem hql, hze]
                  simp [seenB]
                clear hcell5 hze
                have hi1 : (q : Int) < (ws2.length : Int) := by omega
                have hi2 : (j : Int) < (ns.length : Int) := by omega
                cases hsb : seenB (ws2.take q) y
                · rw [hsb] at HSN
                  go_wp2
                  go_quiet (fail)
                  go_wp2
                  go_roundg (gk - 1)
                  case measure => have := HG3.out; omega
                  case rel => exact ⟨q + 1, by have := HG3.out; show _ = _; omega, by omega, by go_num, by rw [HSN.out, bytes_beq]; rfl, bl_drewN hb4 _⟩
                · rw [hsb] at HSN
                  go_wp2
                  go_quiet (fail)
                  go_wp2
                  go_roundg (gk - 1)
                  case measure => have := HG3.out; omega
                  case rel => exact ⟨q + 1, by have := HG3.out; show _ = _; omega, by omega, by go_num, by rw [HSN.out]; rfl, bl_drewN hb4 _⟩
              · obtain rfl : q = ws2.length := by omega
                rw [List.take_length]
                have hown4 : wr.ownsRow w.heap.size 9 1 (.slice a5 ws2.length c5) ws2.length (ws2.map Value.string) := own_later hown3 hb4
                have hz4 : wc.heap.size ≤ wr.heap.size := Nat.le_trans hz3 hb4.size
                have hN4 : NsAt (some ⟨b7, o7, none⟩) ns H0 wc.heap.size wr := hN3.grown (below_grown hb4 none) (fun b hb => by cases hb)
                have hb4w : Below w.heap.size w wr := hb3w.trans (hb4.mono hb3w.size)
                clear hcy hown3 HR0 hN3
                cases hsb : seenB ws2 y
                · have hok5 : Hid (OwnOk (ws2 ++ [y])) := HOK2.out.snoc HYN.out hsb
                  clear hsb
                  go_wp2_with (first
                    | (at_builtin; refine wpList_append_own_at _ rfl _ _ 27 rfl w.heap.size 9 i0 (.string ⟨#[]⟩) 1 16 Tryd.underlying27 hi hz0 hz1 hz2 rfl (by decide) _ _ _ rfl (hown4.alloc _) ⟨wr.heap.size, 0, none⟩ 1 1 [.string y] rfl rfl (cell_one_new _ _ _) (by simp [Value.oneCell']) (by unfold maxLen; omega) (by omega) (by have := hb4w.size; simp; omega) ?_; intro v' w5 hown5 hg5 _ hat5)
                    | fail)
                  have R : w5.ownsRow w.heap.size 9 1 v' (ws2 ++ [y]).length ((ws2 ++ [y]).map Value.string) ∧ Below w.heap.size w w5 ∧ NsAt (some ⟨b7, o7, none⟩) ns H0 wc.heap.size w5 ∧ Off v' H0 wc.heap.size ∧ wc.heap.size ≤ w5.heap.size := by
                    refine ⟨by rw [List.length_append, List.map_append]; exact hown5, (hb4w.alloc hb4w.size _).grown hg5 (by have := hb4w.size; simp; omega) (fun m hm => (hown4.lt m hm).1), (hN4.grown (World.grownBy_alloc _ _ none) (fun b hb => by cases hb)).grown hg5 hoff3, fun b hb => ?_, by have := hg5.size; simp at this; omega⟩
                    rcases hat5 with h | h
                    · exact hoff3 b (h.symm.trans hb)
                    · rw [h] at hb; cases hb; right; simp; omega
                  clear hown5 hg5 hown4 hat5
                  go_wp2
                  go_roundg (g1 - 1)
                  case measure => have := HG2.out; omega
                  case rel => exact ⟨j + 1, ws2 ++ [y], by have := HG2.out; show _ = _; omega, by omega, by go_num, hok5, by rw [List.length_append, List.length_singleton]; omega, R.1, R.2.1, R.2.2.1, R.2.2.2.1, R.2.2.2.2⟩
                · go_wp2
                  go_roundg (g1 - 1)
                  case measure => have := HG2.out; omega
                  case rel => exact ⟨j + 1, ws2, by have := HG2.out; show _ = _; omega, by omega, by go_num, HOK2, by omega, hown4, hb4w, hN4, hoff3, hz4⟩
          · obtain rfl : j = ns.length := by omega
            clear HR0 HC
            go_wp2
            go_roundg (g0 - 1)
            case measure => have := HG.out; omega
            case rel => exact ⟨k + 1, ws2, by omega, by have := HG.out; omega, by go_num, by omega, HOK2.out, by omega, hown3, hb3w⟩
    · have hok := HOK.out
      have hS : StrsAt wr u5 ws := StrsAt.own hown (by omega)
      have hno := hok.names
      obtain ⟨hl1, hl2⟩ := namesT_len hno.all
      rw [List.length_map] at hl1 hl2
      have hT := namesText_any wr hS (by omega)
      have hback := namesL_back hno
      clear hown HG HXM HR0
      rcases (show xs.length ≤ k ∨ (k < xs.length ∧ 10 ≤ k) by omega) with hk10 | ⟨hk10, hkx'⟩
      all_goals
        clear hgo
        go_wp2_with fail
        refine hT.mono ?_
        rintro e w2 ⟨s, rfl, hs, hb2⟩
        have hbw2 := hbr.trans (hb2.mono hbr.size)
        have hM2 := hM.later hbw2
        have hnm := names_some s w2 hM2 (by rw [← len_B, hs]; omega) (l := ws.map B) (by rw [hs]; exact hback)
        have hS2 := hS.later hb2
        go_wp2_with fail
        refine hnm.mono ?_
        rintro e w3 ⟨v3, ms, rfl, hms, hS3, hb3⟩
        obtain rfl : ms = ws := mapB_inj hms
        have hbw3 := hbw2.trans (hb3.mono hbw2.size)
        have hS23 := hS2.later hb3
        have q1 := same_any w3 hS3 hS23
        rw [decide_eq_true rfl] at q1
        clear hms hnm
        go_wp2_with fail
        refine q1.mono ?_
        rintro e w4 ⟨rfl, hb4⟩
        have hbw4 := hbw3.trans (hb4.mono hbw3.size)
        have hM4 := hM.later hbw4
        have hS4 := hS23.later hb4
        have HSZ : s.size ≤ 13 * ms.length + 1 := by rw [← len_B, hs]; exact hl2
        clear q1 hS hS2 hS23 hM2 hM hS3
        obtain ⟨a5, c5, rfl, hc5, hr5⟩ := hS4.shape
        by_cases hne : ms = []
        · subst hne
          have hs' : (s.toList == [45]) = true := by rw [toList_B, hs]; rfl
          clear hr5 hs hok hno hback hwl hl1 hl2
          go_wp2
          go_ret
          exact ⟨rfl, hbw4⟩
        · have hl0 : ((ms.length : Int) == 0) = false := by
            have : ms.length ≠ 0 := fun h => hne (List.length_eq_zero_iff.1 h)
            rw [beq_eq_false_iff_ne]; omega
          have HS := Lib.hid hs
          clear hs
          obtain ⟨b5, o5, rfl, hb5, hcell5⟩ := hr5 hne
          have hlen0 : 0 < ms.length := List.length_pos_iff.2 hne
          obtain ⟨q, hq, hql⟩ := uintMod at' ms.length (by omega) (by omega)
          have hql' : q < ms.length := by omega
          obtain ⟨y, hye⟩ : ∃ y, ms[q] = y := ⟨_, rfl⟩
          have hym : y ∈ ms := by rw [← hye]; exact List.getElem_mem hql'
          have hcy : w4.cell? ⟨b5, o5 + (wrap64 ((IntKind.u64.wrap at').tmod (ms.length : Int))).toNat, none⟩ = some (.string y) := by
            rw [hq, Int.toNat_natCast]
            exact hcell5 q y (by rw [← hye]; exact List.getElem?_eq_getElem hql')
          have ht0 : 0 ≤ wrap64 ((IntKind.u64.wrap at').tmod (ms.length : Int)) := by rw [hq]; omega
          have ht1 : wrap64 ((IntKind.u64.wrap at').tmod (ms.length : Int)) < (ms.length : Int) := by rw [hq]; exact hql
          have hyl : y.size ≤ 12 := by have := name_len (hok.all y hym); rw [len_B] at this; exact this
          have hnone : namesL (B (s ++ ⟨#[44]⟩ ++ y)) = none := by
            have e : B (s ++ ⟨#[44]⟩ ++ y) = Lib.join ((ms ++ [y]).map B) [44] := by
              rw [B_append, B_append, HS.out, namesT, if_neg (by simpa using hne), List.map_append]
              rw [List.map_singleton, join_snoc _ _ _ (by simpa using hne), List.append_assoc]
              rfl
            rw [e, namesL_join (by simp) (fun n hn => ?_), if_neg]
            · intro hnd
              rw [List.map_append, List.nodup_append] at hnd
              exact hnd.2.2 (B y) (List.mem_map_of_mem hym) (B y) (by simp) rfl
            · obtain ⟨z, hz, rfl⟩ := List.mem_map.1 hn
              rcases List.mem_append.1 hz with hz | hz
              · exact hok.all z hz
              · rw [List.mem_singleton] at hz; subst hz; exact hok.all _ hym
          have hsz : (s ++ ⟨#[44]⟩ ++ y).size ≤ 3000 := by
            rw [ByteArray.size_append, ByteArray.size_append]
            show s.size + 1 + y.size ≤ 3000
            omega
          have hfin := names_none (s ++ ⟨#[44]⟩ ++ y) w4 hM4 (by omega) hnone
          clear hr5 hcell5 hq hql hql' hye hym hok hno hback hl1 hl2 hnone hT hS4 HOK HS hM4
          go_wp2_with (go_at_call 20; refine hfin.mono ?_; rintro e w5 ⟨rfl, hb5⟩)
          go_ret
          exact ⟨rfl, hbw4.trans (hb5.mono hbw4.size)⟩
end Go.Proofs.YtpoaoicehoihdaaDoor.lawLists
