/- lychgateref07.Names: a contract, the same as word.Names'. -/
import Derived.Test.YtpoaoicehoihdaaDoorRefName
import Derived.Test.YtpoaoicehoihdaaDoorSame
import Derived.Test.YtpoaoicehoihdaaDoorNames
import Derived.Maps.AppendAt
namespace Go.Proofs.YtpoaoicehoihdaaDoor.refNames
open Go.RowKit

/-- where the walk stands -/
def St (l : List UInt8) (ws : List (List UInt8)) (p q : Nat) : Prop :=
  (p ≤ q ∧ q ≤ l.length ∧ cutB 44 l = ws ++ cutB 44 (l.drop p) ∧ 44 ∉ (l.drop p).take (q - p)) ∨ (q = l.length + 1 ∧ cutB 44 l = ws)
theorem St.start (l : List UInt8) : St l [] 0 0 := .inl ⟨Nat.le_refl _, Nat.zero_le _, by simp, by simp⟩
theorem St.on {l : List UInt8} {ws : List (List UInt8)} {p q : Nat} (h : St l ws p q) (hq : q < l.length) (hc : l[q] ≠ 44) : St l ws p (q + 1) := by
  rcases h with ⟨h1, h2, h3, h4⟩ | ⟨h1, _⟩
  · refine .inl ⟨by omega, hq, h3, ?_⟩
    have hl : q - p < (l.drop p).length := by rw [List.length_drop]; omega
    rw [show q + 1 - p = q - p + 1 by omega, List.take_succ_eq_append_getElem hl, List.mem_append, List.mem_singleton, List.getElem_drop]
    simp only [show p + (q - p) = q by omega]
    rintro (h | h)
    · exact h4 h
    · exact hc h.symm
  · omega
theorem St.word {l : List UInt8} {ws : List (List UInt8)} {p q : Nat} (h : St l ws p q) (hq : q < l.length) (hc : l[q] = 44) :
    p ≤ q ∧ St l (ws ++ [(l.drop p).take (q - p)]) (q + 1) (q + 1) ∧ ∃ r, cutB 44 l = ws ++ (l.drop p).take (q - p) :: r := by
  rcases h with ⟨h1, h2, h3, h4⟩ | ⟨h1, _⟩
  · have e : l.drop p = (l.drop p).take (q - p) ++ 44 :: l.drop (q + 1) := by
      have hd : (l.drop p).drop (q - p) = 44 :: l.drop (q + 1) := by
        rw [List.drop_drop, show p + (q - p) = q by omega, List.drop_eq_getElem_cons hq, hc]
      rw [← hd, List.take_append_drop]
    have hcut := cutB_at (l.drop (q + 1)) h4
    rw [← e] at hcut
    rw [hcut] at h3
    exact ⟨h1, .inl ⟨Nat.le_refl _, hq, by rw [h3]; simp, by simp⟩, _, h3⟩
  · omega
theorem St.last {l : List UInt8} {ws : List (List UInt8)} {p q : Nat} (h : St l ws p q) (hq : q = l.length) :
    p ≤ q ∧ St l (ws ++ [(l.drop p).take (q - p)]) (q + 1) (q + 1) ∧ ∃ r, cutB 44 l = ws ++ (l.drop p).take (q - p) :: r := by
  rcases h with ⟨h1, h2, h3, h4⟩ | ⟨h1, _⟩
  · have e : (l.drop p).take (q - p) = l.drop p := by rw [List.take_of_length_le]; rw [List.length_drop]; omega
    rw [e] at h4 ⊢
    rw [cutB_none h4] at h3
    exact ⟨h1, .inr ⟨by omega, h3⟩, _, h3⟩
  · omega
theorem bad {l : List UInt8} {ws : List (List UInt8)} {x : List UInt8} (h : ∃ r, cutB 44 l = ws ++ x :: r) (hd : ¬ l = [45]) (hb : nameL x = false ∨ x ∈ ws) : namesL l = none := by
  obtain ⟨r, h⟩ := h
  unfold namesL
  rw [if_neg hd, if_neg]
  intro hh
  rw [Bool.and_eq_true, decide_eq_true_eq, List.all_eq_true, h] at hh
  rcases hb with hb | hb
  · rw [hh.1 x (by simp)] at hb; cases hb
  · have := (List.nodup_append.1 hh.2).2.2 x hb x (List.mem_cons_self ..)
    exact this rfl
theorem good {l : List UInt8} {ws : List (List UInt8)} {p q : Nat} (h : St l ws p q) (hq : q = l.length + 1) (hd : ¬ l = [45]) (hok : NamesOk ws) : namesL l = some ws := by
  rcases h with ⟨_, h, _⟩ | ⟨_, h⟩
  · omega
  · unfold namesL
    rw [if_neg hd, h, if_pos]
    rw [Bool.and_eq_true, decide_eq_true_eq, List.all_eq_true]
    exact ⟨hok.all, hok.nodup⟩
theorem NamesOk.snoc {ws : List (List UInt8)} {x : List UInt8} (h : NamesOk ws) (h1 : nameL x = true) (h2 : x ∉ ws) : NamesOk (ws ++ [x]) := by
  constructor
  · intro y hy
    rcases List.mem_append.1 hy with hy | hy
    · exact h.all y hy
    · rw [List.mem_singleton.1 hy]; exact h1
  · rw [List.nodup_append]
    exact ⟨h.nodup, by simp, fun a ha b hb e => h2 (by rw [List.mem_singleton] at hb; rw [← hb, ← e]; exact ha)⟩
theorem mem_B {x : ByteArray} {ws : List ByteArray} : B x ∈ ws.map B ↔ x ∈ ws := by
  rw [List.mem_map]
  exact ⟨fun ⟨y, hy, e⟩ => by rw [← B_inj e]; exact hy, fun h => ⟨x, h, rfl⟩⟩
theorem B_piece (s : ByteArray) {p q : Nat} : B (s.extract p q) = ((B s).drop p).take (q - p) := by
  rw [B, ByteArray.data_extract, Array.toList_extract, List.extract_eq_take_drop]
theorem u8_eq {c : UInt8} (h : ((c.toNat : Int) != 44) = false) : c = 44 := by
  have : (c.toNat : Int) = 44 := by simpa using h
  exact UInt8.toNat_inj.1 (by show c.toNat = 44; omega)
theorem u8_ne {c : UInt8} (h : ((c.toNat : Int) != 44) = true) : c ≠ 44 := by
  rintro rfl; cases h
theorem nm_at {α : Type} {x : α} {ws : List α} {m : Nat} (h : x ∉ ws.take m) (hm : m < ws.length) (hx : ws[m] ≠ x) : x ∉ ws.take (m + 1) := by
  rw [List.take_succ_eq_append_getElem hm, List.mem_append, List.mem_singleton]
  rintro (h' | h')
  · exact h h'
  · exact hx h'.symm

set_option maxHeartbeats 3200000 in
set_option maxRecDepth 100000 in
theorem names_any (s : ByteArray) (w : World) (hs : s.size ≤ 1048576) : Calls Tryd.prog 21 #[.string s] w (NamesPost s w) := by
  by_cases h45 : B s = [45]
  · have hB : (s.toList == [45]) = true := by rw [toList_B, h45]; rfl
    have HR : Hid (namesL (B s) = some ([].map B)) := by show _ = _; rw [namesL, if_pos h45]; rfl
    clear h45
    go_enter Tryd.func21, Tryd.ntmps21
    go_wp2
    go_ret2
    exact .inl ⟨_, [], rfl, HR.out, StrsAt.nil _, (fun k hk => by cases hk), Below.refl _ _⟩
  have hB : (s.toList == [45]) = false := by rw [toList_B]; simpa using h45
  have H45 := Lib.hid h45
  clear h45
  obtain ⟨i0, hi, hz0, hz1, hz2⟩ := info_parts info9
  go_enter Tryd.func21, Tryd.ntmps21
  go_wp2
  go_loopw [4, 5, 6] (fun v f i wr => ∃ (p q : Nat) (ws : List ByteArray), q ≤ s.size + 1 ∧ f = .int .i64 p ∧ i = .int .i64 q ∧ ws.length ≤ q ∧ p ≤ s.size + 1 ∧ Hid (St (B s) (ws.map B) p q) ∧ Hid (NamesOk (ws.map B)) ∧
      wr.ownsRow w.heap.size 9 1 v ws.length (ws.map Value.string) ∧ Below w.heap.size w wr) (fun _ _ i _ => s.size + 1 - (intOf i).toNat)
  case atStart => exact ⟨0, 0, [], Nat.zero_le _, rfl, rfl, Nat.zero_le _, Nat.zero_le _, St.start _, ⟨by simp, by simp⟩, World.ownsRow_nil _ _ _ _, Below.refl _ _⟩
  case round =>
    obtain ⟨p, q, ws, hq, rfl, rfl, hwl, hpS, HS, HOK, hown, hbr⟩ := hrel
    by_cases hlt : q < s.size
    · cases h44 : ((s[q].toNat : Int) != 44)
      · have hc : (B s)[q]'(by rw [len_B]; exact hlt) = 44 := u8_eq h44
        have hW := HS.out.word (by rw [len_B]; exact hlt) hc
        clear hc
        obtain ⟨hpq, hS2, hBad⟩ := hW
        rw [← B_piece] at hS2 hBad
        obtain ⟨x, hxe⟩ : ∃ x, s.extract p q = x := ⟨_, rfl⟩
        rw [hxe] at hS2 hBad
        have hxs : x.size ≤ 1048576 := by
          rw [← hxe, ByteArray.size_extract]; omega
        have HS2 := Lib.hid hS2
        have HBad := Lib.hid hBad
        have hnm := refName.name_any x wr (by unfold maxLen; omega)
        have hst : StrsAt wr u4 ws := StrsAt.own hown (by omega)
        have HST := Lib.hid hst
        have HXE := Lib.hid hxe
        clear hS2 hBad hst hxe
        go_wp2
        rw [HXE.out]
        go_loop [8] (fun y => ∃ m : Nat, m ≤ ws.length ∧ y = .int .i64 m ∧ Hid (x ∉ ws.take m)) (fun y => ws.length - (intOf y).toNat)
        case atStart => exact ⟨0, Nat.zero_le _, rfl, by show _ ∉ _; simp⟩
        case round =>
          obtain ⟨m, hm, rfl, HM⟩ := hrel
          obtain ⟨a, c, rfl, hc, hr⟩ := HST.out.shape
          by_cases hml : m < ws.length
          · obtain ⟨b, o, rfl, hbl, hcell⟩ := hr (by intro h; rw [h] at hml; exact absurd hml (Nat.not_lt_zero _))
            have hcx : wr.cell? ⟨b, o + m, none⟩ = some (.string ws[m]) := hcell m _ (List.getElem?_eq_getElem hml)
            clear hr hcell
            cases heq : (ws[m].toList == x.toList)
            · have HN : Hid (x ∉ ws.take (m + 1)) := nm_at HM.out hml (fun e => by rw [bytes_beq, e] at heq; simp at heq)
              go_wp2
              go_round
              case rel => exact ⟨m + 1, by omega, by go_num, HN⟩
              case measure => simp [intOf] <;> omega
            · have HR : Hid (namesL (B s) = none) := bad HBad.out H45.out (.inr (mem_B.2 (by rw [bytes_beq, decide_eq_true_eq] at heq; rw [← heq]; exact List.getElem_mem hml)))
              go_wp2
              go_ret2
              exact .inr ⟨rfl, HR.out, hbr⟩
          · clear hr
            obtain rfl : m = ws.length := by omega
            have hnin : x ∉ ws := by have := HM.out; rw [List.take_length] at this; exact this
            cases hg : nameL (B x)
            · have HR : Hid (namesL (B s) = none) := bad HBad.out H45.out (.inl hg)
              rw [hg] at hnm
              clear hg hnin
              go_wp2_with (go_at_call 35; refine hnm.mono ?_; rintro e w3 ⟨rfl, rfl⟩)
              go_ret2
              exact .inr ⟨rfl, HR.out, hbr⟩
            · have HOK2 : Hid (NamesOk ((ws ++ [x]).map B)) := by
                show NamesOk _
                rw [List.map_append, List.map_singleton]
                exact NamesOk.snoc HOK.out hg (fun h => hnin (mem_B.1 h))
              rw [hg] at hnm
              clear hg hnin HM
              go_wp2_with (first
                | (go_at_call 35; refine hnm.mono ?_; rintro e w3 ⟨rfl, rfl⟩)
                | (at_builtin; refine wpList_append_own _ rfl _ _ 27 rfl w.heap.size 9 i0 (.string ⟨#[]⟩) 1 16 Tryd.underlying27 hi hz0 hz1 hz2 rfl (by decide) _ _ _ rfl (hown.alloc _) ⟨wr.heap.size, 0, none⟩ 1 1 [.string x] rfl rfl (cell_one_new _ _ _) (by simp [Value.oneCell']) (by unfold maxLen; omega) (by omega) (by have := hbr.size; simp; omega) ?_; intro v' w4 hown4 hg4 _)
                | fail)
              have R : w4.ownsRow w.heap.size 9 1 v' (ws ++ [x]).length ((ws ++ [x]).map Value.string) ∧ Below w.heap.size w w4 :=
                ⟨by rw [List.length_append, List.map_append]; exact hown4, (hbr.alloc hbr.size _).grown hg4 (by have := hbr.size; simp; omega) (fun m hm => (hown.lt m hm).1)⟩
              clear hown4 hg4 hown HST
              go_wp2
              go_roundw
              case rel => exact ⟨q + 1, q + 1, _, by omega, by go_num, by go_num, by rw [List.length_append, List.length_singleton]; omega, by omega, by show St _ _ _ _; rw [List.map_append, List.map_singleton]; exact HS2.out, HOK2, R.1, R.2⟩
              case measure => simp [intOf] <;> omega
      · have HN : Hid (St (B s) (ws.map B) p (q + 1)) := HS.out.on (by rw [len_B]; exact hlt) (u8_ne h44)
        go_wp2
        go_roundw
        case rel => exact ⟨p, q + 1, ws, by omega, rfl, by go_num, by omega, hpS, HN, HOK, hown, hbr⟩
        case measure => simp [intOf] <;> omega
    · by_cases hqe : q = s.size
      · subst hqe
        have hW := HS.out.last (by rw [len_B])
        obtain ⟨hpq, hS2, hBad⟩ := hW
        rw [← B_piece] at hS2 hBad
        obtain ⟨x, hxe⟩ : ∃ x, s.extract p s.size = x := ⟨_, rfl⟩
        rw [hxe] at hS2 hBad
        have hxs : x.size ≤ 1048576 := by
          rw [← hxe, ByteArray.size_extract]; omega
        have HS2 := Lib.hid hS2
        have HBad := Lib.hid hBad
        have hnm := refName.name_any x wr (by unfold maxLen; omega)
        have hst : StrsAt wr u4 ws := StrsAt.own hown (by omega)
        have HST := Lib.hid hst
        have HXE := Lib.hid hxe
        clear hS2 hBad hst hxe
        go_wp2
        rw [HXE.out]
        go_loop [8] (fun y => ∃ m : Nat, m ≤ ws.length ∧ y = .int .i64 m ∧ Hid (x ∉ ws.take m)) (fun y => ws.length - (intOf y).toNat)
        case atStart => exact ⟨0, Nat.zero_le _, rfl, by show _ ∉ _; simp⟩
        case round =>
          obtain ⟨m, hm, rfl, HM⟩ := hrel
          obtain ⟨a, c, rfl, hc, hr⟩ := HST.out.shape
          by_cases hml : m < ws.length
          · obtain ⟨b, o, rfl, hbl, hcell⟩ := hr (by intro h; rw [h] at hml; exact absurd hml (Nat.not_lt_zero _))
            have hcx : wr.cell? ⟨b, o + m, none⟩ = some (.string ws[m]) := hcell m _ (List.getElem?_eq_getElem hml)
            clear hr hcell
            cases heq : (ws[m].toList == x.toList)
            · have HN : Hid (x ∉ ws.take (m + 1)) := nm_at HM.out hml (fun e => by rw [bytes_beq, e] at heq; simp at heq)
              go_wp2
              go_round
              case rel => exact ⟨m + 1, by omega, by go_num, HN⟩
              case measure => simp [intOf] <;> omega
            · have HR : Hid (namesL (B s) = none) := bad HBad.out H45.out (.inr (mem_B.2 (by rw [bytes_beq, decide_eq_true_eq] at heq; rw [← heq]; exact List.getElem_mem hml)))
              go_wp2
              go_ret2
              exact .inr ⟨rfl, HR.out, hbr⟩
          · clear hr
            obtain rfl : m = ws.length := by omega
            have hnin : x ∉ ws := by have := HM.out; rw [List.take_length] at this; exact this
            cases hg : nameL (B x)
            · have HR : Hid (namesL (B s) = none) := bad HBad.out H45.out (.inl hg)
              rw [hg] at hnm
              clear hg hnin
              go_wp2_with (go_at_call 35; refine hnm.mono ?_; rintro e w3 ⟨rfl, rfl⟩)
              go_ret2
              exact .inr ⟨rfl, HR.out, hbr⟩
            · have HOK2 : Hid (NamesOk ((ws ++ [x]).map B)) := by
                show NamesOk _
                rw [List.map_append, List.map_singleton]
                exact NamesOk.snoc HOK.out hg (fun h => hnin (mem_B.1 h))
              rw [hg] at hnm
              clear hg hnin HM
              go_wp2_with (first
                | (go_at_call 35; refine hnm.mono ?_; rintro e w3 ⟨rfl, rfl⟩)
                | (at_builtin; refine wpList_append_own _ rfl _ _ 27 rfl w.heap.size 9 i0 (.string ⟨#[]⟩) 1 16 Tryd.underlying27 hi hz0 hz1 hz2 rfl (by decide) _ _ _ rfl (hown.alloc _) ⟨wr.heap.size, 0, none⟩ 1 1 [.string x] rfl rfl (cell_one_new _ _ _) (by simp [Value.oneCell']) (by unfold maxLen; omega) (by omega) (by have := hbr.size; simp; omega) ?_; intro v' w4 hown4 hg4 _)
                | fail)
              have R : w4.ownsRow w.heap.size 9 1 v' (ws ++ [x]).length ((ws ++ [x]).map Value.string) ∧ Below w.heap.size w w4 :=
                ⟨by rw [List.length_append, List.map_append]; exact hown4, (hbr.alloc hbr.size _).grown hg4 (by have := hbr.size; simp; omega) (fun m hm => (hown.lt m hm).1)⟩
              clear hown4 hg4 hown HST
              go_wp2
              go_roundw
              case rel => exact ⟨s.size + 1, s.size + 1, _, by omega, by go_num, by go_num, by rw [List.length_append, List.length_singleton]; omega, by omega, by show St _ _ _ _; rw [List.map_append, List.map_singleton]; exact HS2.out, HOK2, R.1, R.2⟩
              case measure => simp [intOf] <;> omega
      · obtain rfl : q = s.size + 1 := by omega
        have HR : Hid (namesL (B s) = some (ws.map B)) := good HS.out (by rw [len_B]) H45.out HOK.out
        go_wp2
        go_ret2
        exact .inl ⟨_, ws, rfl, HR.out, StrsAt.own hown (by omega), (fun k hk => (hown.lt k hk).1), hbr⟩
end Go.Proofs.YtpoaoicehoihdaaDoor.refNames
