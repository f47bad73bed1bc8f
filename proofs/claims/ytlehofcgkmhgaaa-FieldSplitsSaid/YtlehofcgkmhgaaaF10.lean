/-
  The walk of FieldQuotes.
-/
import Derived.Test.YtlehofcgkmhgaaaF9
import Derived.Test.YtlehofcgkmhgaaaStr
namespace Go.Proofs.Ytlehofcgkmhgaaa
open Go.RowKit

theorem infoIn : (Try.prog.info? 26).map (fun i => (i.zero, i.size, i.bytes)) = some (some (.agg #[.string ⟨#[]⟩, .bool false, .bool false, .bool false]), 4, 24) := by kernel_rfl
theorem ins_one (l : List In) : ∀ u ∈ l.flatMap inC, u.oneCell' = true := by
  intro u hu
  obtain ⟨s, _, hs⟩ := List.mem_flatMap.1 hu
  simp [inC] at hs
  rcases hs with rfl | rfl | rfl | rfl <;> rfl
structure QInv (w wr : World) (v : Value) (l : List In) : Prop where
  own : wr.ownsRow w.heap.size 26 4 v l.length (l.flatMap inC)
  bel : Below w.heap.size w wr
theorem QInv.push {w wr w1 : World} {v : Value} {l : List In} (h : QInv w wr v l) (o : Obj) (x : In) {n g cap : Nat} (hn : n = l.length) {xs : List Value} (hxs : xs = l.flatMap inC) (hown : w1.ownsRow w.heap.size 26 4 (.slice (some ⟨g, 0, none⟩) (n + 1) cap) (n + 1) (xs ++ inC x)) (hg : (wr.alloc o).grownBy w1 v.ownBlock) :
    QInv w w1 (.slice (some ⟨g, 0, none⟩) (n + 1) cap) (l ++ [x]) := by
  subst hxs
  have hb := h.bel.size
  refine ⟨?_, (h.bel.alloc hb o).grown hg (by simp; omega) fun k hk => (World.ownsRow.lt h.own k hk).1⟩
  rw [List.length_append, ← hn, List.flatMap_append]
  simpa using hown

set_option maxHeartbeats 2000000 in
theorem quotes_any (ss : List ByteArray) (a : Option Addr) (n c : Nat) (ifs : ByteArray) (w : World) (hE : Elems w w.heap.size a n (ss.map .string)) (hz : ∀ s ∈ ss, s.size ≤ 140737488355327) (hi : ifs.size ≤ 9223372036854775807) :
    Calls Try.prog 3 #[.slice a n c, .string ifs] w fun e w' => e = .returned (.bool true) ∧ Below w.heap.size w w' := by
  have hlen : ss.length = n := by have := hE.1; rw [List.length_map] at this; exact this
  have hnm := hE.2.1
  unfold maxLen at hnm
  by_cases hbig : 60 < n
  · clear hE hlen hz
    go_enter Try.func3, Try.ntmps3
    go_wp2_with fail
    refine (anchor_any _).mono ?_
    rintro e w1 ⟨rfl, hb1⟩
    go_wp2
    go_ret
    exact ⟨rfl, hb1⟩
  have hn60 : n ≤ 60 := by omega
  obtain ⟨b1, o1, R1, hb1, C1⟩ := hE.open (P := Try.prog) 22 9 Try.underlying22 (by kernel_rfl)
  have R1 := Lib.hid R1
  have C1 := Lib.hid C1
  have HLEN := Lib.hid hlen
  have HZ := Lib.hid hz
  clear hE hlen hz hbig hnm
  go_enter Try.func3, Try.ntmps3
  go_wp2_with fail
  refine (anchor_any _).mono ?_
  rintro e w1 ⟨rfl, hba⟩
  have HBA := Lib.hid hba
  clear hba
  go_wp2_with fail
  go_loopw [5, 17] (fun v i wr => ∃ k : Nat, k ≤ n ∧ i = .int .i64 k ∧ QInv w wr v (qPieces (ss.take k))) (fun _ i _ => n - (intOf i).toNat)
  case atStart => exact ⟨0, Nat.zero_le _, rfl, World.ownsRow_nil _ _ _ _, HBA.out⟩
  case round =>
    obtain ⟨k, hk, rfl, hq⟩ := hrel
    obtain ⟨wo, rfl⟩ : ∃ wo : World, wo = wr := ⟨_, rfl⟩
    have hbs := hq.bel.size
    obtain ⟨m, hm⟩ : ∃ m, m = (qPieces (ss.take k)).length := ⟨_, rfl⟩
    obtain ⟨va, vc, rfl⟩ := own_shape hq.own
    rw [← hm] at hq ⊢
    have hm2 : m ≤ 120 := by have := (qPieces_wt (ss.take k)).2; rw [List.length_take] at this; omega
    have HQ := Lib.hid hq
    have HM := Lib.hid hm
    have HOWN : Hid (wo.ownsRow w.heap.size 26 4 (.slice va m vc) m ((qPieces (ss.take k)).flatMap inC)) := Lib.hid (by have := hq.own; rw [← hm] at this; exact this)
    clear hq hm
    by_cases hlt : k < n
    · obtain ⟨x, hx⟩ : ∃ x, ss[k]? = some x := ⟨_, List.getElem?_eq_getElem (by rw [HLEN.out]; exact hlt)⟩
      have j1 := fun w' => R1.out k c w' hlt
      have hb1' : b1 < wo.heap.size := by omega
      have d1 : wo.cell? ⟨b1, o1 + k, none⟩ = some (.string x) := by rw [HQ.out.bel.cell (p := ⟨b1, o1 + k, none⟩) (by simp; omega), C1.out k hlt, List.getElem?_map, hx]; rfl
      have HT := Lib.hid (qPieces_take hx)
      clear hx
      by_cases hk0 : (0 : Int) < (k : Int)
      · rw [if_neg (by omega)] at HT
        go_wp2_with (at_builtin; first | ((refine append_sl rfl _ _ 24 rfl w.heap.size 26 Try.underlying24 infoIn rfl (by decide) (v := .slice va m vc) (n := m) (xs := (qPieces (ss.take k)).flatMap inC) rfl (HOWN.out.alloc _) (m := 1) (news := inC ⟨⟨#[]⟩, false, false, true⟩) rfl (sl_made_at _ #[.string ⟨#[]⟩, .bool false, .bool false, .bool true] _ 1 4 rfl (by unfold maxLen; omega) (by simp)) (by omega) (ins_one [⟨⟨#[]⟩, false, false, true⟩]) (by omega) (by simp; omega) ?_); intro g1 cap1 w2 hown hgrow hlie hglt; have HO2 := Lib.hid hown; have HP := Lib.hid (HQ.out.push _ ⟨⟨#[]⟩, false, false, true⟩ HM.out rfl hown hgrow); have hz2 : w.heap.size ≤ w2.heap.size := HP.out.bel.size; clear hown hgrow hlie hglt) | ((refine append_sl rfl _ _ 24 rfl w.heap.size 26 Try.underlying24 infoIn rfl (by decide) (v := .slice (some ⟨g1, 0, none⟩) (m + 1) cap1) (n := m + 1) (xs := (qPieces (ss.take k)).flatMap inC ++ inC ⟨⟨#[]⟩, false, false, true⟩) rfl (HO2.out.alloc _) (m := 1) (news := inC ⟨x, true, false, false⟩) rfl (sl_made_at _ #[.string x, .bool true, .bool false, .bool false] _ 1 4 rfl (by unfold maxLen; omega) (by simp)) (by omega) (ins_one [⟨x, true, false, false⟩]) (by omega) (by simp; omega) ?_); intro g2 cap2 w3 hown hgrow hlie hglt; have HP2 := Lib.hid (HP.out.push (l := qPieces (ss.take k) ++ [⟨⟨#[]⟩, false, false, true⟩]) _ ⟨x, true, false, false⟩ (by rw [List.length_append, ← HM.out]; rfl) (by rw [List.flatMap_append]; rfl) hown hgrow); clear hown hgrow hlie hglt))
        go_roundw
        case rel => exact ⟨k + 1, by omega, by go_num, by rw [HT.out]; have h := HP2.out; rw [List.append_assoc] at h; exact h⟩
        case measure => simp [intOf]; omega
      · rw [if_pos (by omega)] at HT
        go_wp2_with (at_builtin; go_must ((refine append_sl rfl _ _ 24 rfl w.heap.size 26 Try.underlying24 infoIn rfl (by decide) (v := .slice va m vc) (n := m) (xs := (qPieces (ss.take k)).flatMap inC) rfl (HOWN.out.alloc _) (m := 1) (news := inC ⟨x, true, false, false⟩) rfl (sl_made_at _ #[.string x, .bool true, .bool false, .bool false] _ 1 4 rfl (by unfold maxLen; omega) (by simp)) (by omega) (ins_one [⟨x, true, false, false⟩]) (by omega) (by simp; omega) ?_); intro g1 cap1 w2 hown hgrow hlie hglt; have HP := Lib.hid (HQ.out.push _ ⟨x, true, false, false⟩ HM.out rfl hown hgrow); clear hown hgrow hlie hglt))
        go_roundw
        case rel => exact ⟨k + 1, by omega, by go_num, by rw [HT.out]; exact HP.out⟩
        case measure => simp [intOf]; omega
    · obtain rfl : k = n := by omega
      have htk : ss.take k = ss := List.take_of_length_le (by rw [HLEN.out]; omega)
      rw [htk] at HQ HM HOWN
      have HZ0 : Hid (∀ s ∈ ss, s.size ≤ 9223372036854775807) := Lib.hid fun s hs => by have := HZ.out s hs; omega
      have C := Lib.hid (Split_any ifs (qPieces ss) (.slice va m vc) wo (by rw [← HM.out]; exact Sl.of_own HOWN.out) hi (FitL.quotes _ ss (by rw [HLEN.out]; omega) HZ0.out))
      rw [quotes_split] at C
      clear htk hm2
      go_wp2_with fail
      refine C.out.mono ?_
      rintro e w3 ⟨hb3, v, rfl, ho⟩
      have HB3 := Lib.hid (HQ.out.bel.trans (hb3.mono hbs))
      obtain ⟨ga, gc, rfl⟩ := ho.shape
      rw [List.length_map, HLEN.out]
      rw [List.length_map, HLEN.out] at ho
      have HO := Lib.hid ho
      clear hb3 ho C HQ HM HOWN
      go_wp2_with fail
      go_loopw [44] (fun i wr => ∃ j : Nat, j ≤ k ∧ i = .int .i64 j ∧ Below w3.heap.size w3 wr) (fun i _ => k - (intOf i).toNat)
      case atStart => exact ⟨0, Nat.zero_le _, rfl, Below.refl _ _⟩
      case round =>
        obtain ⟨j, hj, rfl, hb4⟩ := hrel
        obtain ⟨wo2, rfl⟩ : ∃ wo2 : World, wo2 = wr := ⟨_, rfl⟩
        have hb3s := HB3.out.size
        by_cases hlt : j < k
        · obtain ⟨x, hx⟩ : ∃ x, ss[j]? = some x := ⟨_, List.getElem?_eq_getElem (by rw [HLEN.out]; exact hlt)⟩
          have j1 := fun w' => R1.out j c w' hlt
          have hb1' : b1 < w3.heap.size := by omega
          have d1 : wo2.cell? ⟨b1, o1 + j, none⟩ = some (.string x) := by rw [hb4.cell (p := ⟨b1, o1 + j, none⟩) hb1', HB3.out.cell (p := ⟨b1, o1 + j, none⟩) (by simp; omega), C1.out j hlt, List.getElem?_map, hx]; rfl
          obtain ⟨b2, o2, y, j2, hb2, e2, r2⟩ := (HO.out.below hb4).field (k := j) (f := one x true) (by rw [List.getElem?_map, hx]; rfl) (j : Int) rfl
          have hxs : x.size ≤ 140737488355328 := by have := HZ.out x (List.mem_of_getElem? hx); omega
          have TX := text_at r2 x (by simp [textL, one, S_L]) (by simpa [textL, one, L_size] using hxs)
          have CF : Hid (∀ d os, Calls Try.prog 8 #[y] (Sort.grow (redrawn wo2 d) os) fun e w'' => e = .returned (.string x) ∧ ∃ q : Regrown, w'' = Sort.grow (redrawn wo2 q.d) q.os) := Lib.hid fun d os =>
            Calls.regrown_of (TX.out _ (below_regrown wo2 d os))
          have hc1 : ∀ d os, (Sort.grow (redrawn wo2 d) os).cell? ⟨b1, o1 + j, none⟩ = _ := fun d os => cell_regrown d1 d os
          have hc2 : ∀ d os, (Sort.grow (redrawn wo2 d) os).cell? ⟨b2, o2, none⟩ = _ := fun d os => cell_regrown e2 d os
          have HB4 := Lib.hid hb4
          clear r2 hx hb4 d1 e2
          go_wp2_with fail
          refine wp_region_quiet_below (by kernel_rfl) (by kernel_rfl) ?_
          repeat (go_big_quiet_step (with_reducible first | exact CF.out _ _))
          refine wpQuiet_nil ?_
          intro _ hw'
          obtain ⟨⟨dq, osq⟩, hw''⟩ := hw'
          subst hw''
          clear hc1 hc2
          go_wp2
          go_roundw
          case rel => exact ⟨j + 1, by omega, by go_num, HB4.out.trans ((below_regrown wo2 dq osq).mono HB4.out.size)⟩
          case measure => simp [intOf]; omega
        · go_wp2
          go_ret
          exact ⟨rfl, HB3.out.trans (hb4.mono HB3.out.size)⟩
end Go.Proofs.Ytlehofcgkmhgaaa
