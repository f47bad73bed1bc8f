/-
  The walk of the writer's param.
-/
import Derived.Test.YtnackmnoldkihaaGreatDoorQB5
import Derived.Test.YtnackmnoldkihaaGreatDoorQB6
import Derived.Test.YtnackmnoldkihaaGreatDoorQB7
import Derived.Shelf.Strings.BuilderK
import Derived.Lib.OthersKept
import Derived.Laws.Externs
import Derived.Defers
import Derived.Deep.RegionHeld3
import Derived.StillTailTactics
set_option linter.unusedVariables false
set_option linter.unusedSimpArgs false
/-
  The walk of node; word and list at every level; Right.
-/
namespace Go.Proofs.YtnackmnoldkihaaGreatDoor
open Go.RowKit

set_option maxHeartbeats 1000000 in
set_option maxRecDepth 100000 in
theorem node_no (m : Int) (hm : m ≤ 0) (x : Nd) (w : World) (d : Nat) (c : List Value) (hp : NdC w w.heap.size d x c) :
    Calls Tryz.prog 54 #[.agg #[.int .i64 m], .agg c.toArray] w fun e w' => e = .returned (.bool false) ∧ Below w.heap.size w w' := by
  obtain ⟨a1, c1, a2, c2, a3, c3, a4, c4, a5, c5, rfl, _⟩ := hp.open
  have CD := Lib.hid fun W => deeper_no m W hm
  have BX := Lib.hid (Bx.start w 67 #[.int .i64 m] 38 #[.int .i64 x.kind, .string x.name, .slice a1 x.assigns.length c1, .slice a2 x.words.length c2, .slice a3 x.redirs.length c3, .slice a4 x.lists.length c4, .slice a5 x.arms.length c5])
  clear hp
  go_enter Tryz.func54, Tryz.ntmps54
  go_wp2_with fail
  refine (CD.out _).mono ?_
  rintro e w1 ⟨m', rfl, hb0⟩
  have BXw1 := Lib.hid (Bx.later BX.out hb0)
  clear hb0
  have K0BXw1 := Lib.hid BXw1.out.b0
  have K1BXw1 := Lib.hid BXw1.out.b1
  have hBBXw1 := BXw1.out.hb
  have b0 := K0BXw1.out.cell 0
  have bf := K0BXw1.out.free 0
  have bl := K0BXw1.out.lt
  simp at b0
  have p0 := K1BXw1.out.cell 0
  have p1 := K1BXw1.out.cell 1
  have p2 := K1BXw1.out.cell 2
  have p3 := K1BXw1.out.cell 3
  have p4 := K1BXw1.out.cell 4
  have p5 := K1BXw1.out.cell 5
  have p6 := K1BXw1.out.cell 6
  have pl := K1BXw1.out.lt
  simp at p0 p1 p2 p3 p4 p5 p6
  go_wp2_with fail
  go_ret
  exact ⟨ret_bool rfl, (by repeat' (first | (with_reducible assumption) | (with_reducible exact Below.refl _ _) | (with_reducible refine below_drewN ?_ _) | (with_reducible refine below_bytes ?_ ?_ _) | (with_reducible refine Below.alloc ?_ ?_ _) | (with_reducible refine Below.drew ?_) | (with_reducible refine Below.setCell ?_ ?_ _) | go_size))⟩

set_option maxHeartbeats 1000000 in
set_option maxRecDepth 100000 in
theorem node_yes (wd : List Pt → Bool) (ls : List Nd → Bool) (m : Int) (hm : 0 < m) (hm2 : m ≤ 9223372036854775807) (hwd : WordAt (m - 1) wd) (hls : ListAt (m - 1) ls) (x : Nd) (w : World) (d : Nat) (c : List Value) (hv : Held w) (hp : NdC w w.heap.size d x c) :
    Calls Tryz.prog 54 #[.agg #[.int .i64 m], .agg c.toArray] w fun e w' => e = .returned (.bool (nodeB wd ls x)) ∧ Below w.heap.size w w' := by
  have HP := Lib.hid hp
  obtain ⟨a1, c1, a2, c2, a3, c3, a4, c4, a5, c5, rfl, hxz, ⟨hn1, hn2, hn3, hn4, hn5⟩, hA, hW, hRd, _⟩ := hp.open
  obtain ⟨n1, hl1⟩ : ∃ n, x.assigns.length = n := ⟨_, rfl⟩
  obtain ⟨n2, hl2⟩ : ∃ n, x.words.length = n := ⟨_, rfl⟩
  obtain ⟨n3, hl3⟩ : ∃ n, x.redirs.length = n := ⟨_, rfl⟩
  obtain ⟨n4, hl4⟩ : ∃ n, x.lists.length = n := ⟨_, rfl⟩
  obtain ⟨n5, hl5⟩ : ∃ n, x.arms.length = n := ⟨_, rfl⟩
  rw [hl2] at hn2 hW
  rw [hl3] at hn3 hRd
  rw [hl1, hl2, hl3, hl4, hl5] at HP ⊢
  have CD := Lib.hid fun W => deeper_yes m W hm hm2
  have CS : Hid (∀ W, Below w.heap.size w W → Calls Tryz.prog 68 #[.agg #[.int .i64 (m - 1)], .agg #[.int .i64 x.kind, .string x.name, .slice a1 n1 c1, .slice a2 n2 c2, .slice a3 n3 c3, .slice a4 n4 c4, .slice a5 n5 c5]] W fun e w' => e = .returned (.bool (simpleB wd x)) ∧ Below W.heap.size W w') :=
    Lib.hid fun W hW => simple_any wd (m - 1) hwd x W d _ (hv.below hv.2 hW) (HP.out.later hW)
  have CJ : Hid (∀ W, Below w.heap.size w W → Calls Tryz.prog 69 #[.agg #[.int .i64 (m - 1)], .agg #[.int .i64 x.kind, .string x.name, .slice a1 n1 c1, .slice a2 n2 c2, .slice a3 n3 c3, .slice a4 n4 c4, .slice a5 n5 c5]] W fun e w' => e = .returned (.bool (joinedB ls x)) ∧ Below W.heap.size W w') :=
    Lib.hid fun W hW => joined_any ls (m - 1) hls x W d _ (hv.below hv.2 hW) (HP.out.later hW)
  have CC : Hid (∀ W, Below w.heap.size w W → Calls Tryz.prog 70 #[.agg #[.int .i64 (m - 1)], .agg #[.int .i64 x.kind, .string x.name, .slice a1 n1 c1, .slice a2 n2 c2, .slice a3 n3 c3, .slice a4 n4 c4, .slice a5 n5 c5]] W fun e w' => e = .returned (.bool (compoundB wd ls x)) ∧ Below W.heap.size W w') :=
    Lib.hid fun W hW => compound_any wd ls (m - 1) hwd hls x W d _ (hv.below hv.2 hW) (HP.out.later hW)
  have HW := Lib.hid hW
  have HRD := Lib.hid hRd
  have HV := Lib.hid hv
  have HWD := Lib.hid hwd
  have N2 := Lib.hid hl2
  have N3 := Lib.hid hl3
  have BX := Lib.hid (Bx.start w 67 #[.int .i64 m] 38 #[.int .i64 x.kind, .string x.name, .slice a1 n1 c1, .slice a2 n2 c2, .slice a3 n3 c3, .slice a4 n4 c4, .slice a5 n5 c5])
  obtain ⟨r, hr⟩ : ∃ r, nodeB wd ls x = r := ⟨_, rfl⟩
  rw [hr]
  rw [nodeB] at hr
  obtain ⟨rs, hrs⟩ : ∃ r, simpleB wd x = r := ⟨_, rfl⟩
  obtain ⟨rj, hrj⟩ : ∃ r, joinedB ls x = r := ⟨_, rfl⟩
  obtain ⟨rc, hrc⟩ : ∃ r, compoundB wd ls x = r := ⟨_, rfl⟩
  rw [hrs, hrj, hrc] at hr
  rw [hrs] at CS
  rw [hrj] at CJ
  rw [hrc] at CC
  have HR := Lib.hid hr
  clear hp hl1 hl2 hl3 hl4 hl5 hA hW hRd hv hwd hls hr hrs hrj hrc
  go_enter Tryz.func54, Tryz.ntmps54
  go_wp2_with fail
  refine (CD.out _).mono ?_
  rintro e w1 ⟨rfl, hb0⟩
  have BXw1 := Lib.hid (Bx.later BX.out hb0)
  have BX1 := Lib.hid (Bx.set0 BXw1.out 0 (.int .i64 (m - 1)))
  clear hb0
  have K0BXw1 := Lib.hid BXw1.out.b0
  have K1BXw1 := Lib.hid BXw1.out.b1
  have hBBXw1 := BXw1.out.hb
  have b0 := K0BXw1.out.cell 0
  have bf := K0BXw1.out.free 0
  have bl := K0BXw1.out.lt
  simp at b0
  have p0 := K1BXw1.out.cell 0
  have p1 := K1BXw1.out.cell 1
  have p2 := K1BXw1.out.cell 2
  have p3 := K1BXw1.out.cell 3
  have p4 := K1BXw1.out.cell 4
  have p5 := K1BXw1.out.cell 5
  have p6 := K1BXw1.out.cell 6
  have pl := K1BXw1.out.lt
  simp at p0 p1 p2 p3 p4 p5 p6
  go_wp2_with fail
  go_loopw [20] (fun i W => ∃ k : Nat, k ≤ n2 ∧ i = .int .i64 k ∧ (x.words.take k).all (someB wd) = true ∧ Bx w W 67 #[.int .i64 (m - 1)] 38 #[.int .i64 x.kind, .string x.name, .slice a1 n1 c1, .slice a2 n2 c2, .slice a3 n3 c3, .slice a4 n4 c4, .slice a5 n5 c5]) (fun i _ => n2 - (intOf i).toNat)
  case atStart => exact ⟨0, Nat.zero_le _, rfl, by simp, BX1.out⟩
  case round =>
    obtain ⟨k, hk, rfl, hal, hbx⟩ := hrel
    have HAL := Lib.hid hal
    have BX2 := Lib.hid hbx
    clear hal hbx b0 bf bl p0 p1 p2 p3 p4 p5 p6 pl
    have K0BX2 := Lib.hid BX2.out.b0
    have K1BX2 := Lib.hid BX2.out.b1
    have hBBX2 := BX2.out.hb
    have b0 := K0BX2.out.cell 0
    have bf := K0BX2.out.free 0
    have bl := K0BX2.out.lt
    simp at b0
    have p0 := K1BX2.out.cell 0
    have p1 := K1BX2.out.cell 1
    have p2 := K1BX2.out.cell 2
    have p3 := K1BX2.out.cell 3
    have p4 := K1BX2.out.cell 4
    have p5 := K1BX2.out.cell 5
    have p6 := K1BX2.out.cell 6
    have pl := K1BX2.out.lt
    simp at p0 p1 p2 p3 p4 p5 p6
    by_cases hlt : k < n2
    · obtain ⟨y, hy⟩ : ∃ y, x.words[k]? = .some y := ⟨_, List.getElem?_eq_getElem (by rw [N2.out]; exact hlt)⟩
      obtain ⟨b, o, c, hi, hbB, hce, ⟨yv, rfl, hyp⟩, _⟩ := HW.out.at 34 29 Tryz.underlying34 (by kernel_rfl) hy
      have HY := Lib.hid hy
      obtain ⟨a6, c6, rfl, _⟩ := hyp.shape
      have CW := Lib.hid (HWD.out.reads HV.out hyp true)
      have e0 := (hBBX2.cell hbB).trans (hce 0 _ rfl)
      have hbB' := Nat.lt_of_lt_of_le hbB hBBX2.size
      rw [Nat.add_zero] at e0
      obtain ⟨rr, hrr⟩ : ∃ r, (wd y && (!true || !y.isEmpty)) = r := ⟨_, rfl⟩
      rw [hrr] at CW
      have HS : Hid (someB wd y = rr) := Lib.hid (by rw [← hrr, someB]; simp)
      clear hy hce hyp hrr
      go_wp2_with fail
      refine (CW.out _ (by repeat' (first | (with_reducible assumption) | (with_reducible exact Below.refl _ _) | (with_reducible refine below_drewN ?_ _) | (with_reducible refine below_bytes ?_ ?_ _) | (with_reducible refine Below.alloc ?_ ?_ _) | (with_reducible refine Below.drew ?_) | (with_reducible refine Below.setCell ?_ ?_ _) | go_size))).mono ?_
      rintro e w4 ⟨rfl, hb0⟩
      obtain ⟨hcw4, hfw4⟩ := bcell hb0
      have hzw4 := hb0.size
      try simp only [World.size_alloc, World.size_setCell, World.size_drew, size_drewN] at hzw4
      have hBw4 : Below w.heap.size w w4 := since hb0 (by repeat' (first | (with_reducible assumption) | (with_reducible exact Below.refl _ _) | (with_reducible refine below_drewN ?_ _) | (with_reducible refine below_bytes ?_ ?_ _) | (with_reducible refine Below.alloc ?_ ?_ _) | (with_reducible refine Below.drew ?_) | (with_reducible refine Below.setCell ?_ ?_ _) | go_size))
      have BXw4 := Lib.hid (Bx.later BX2.out (since hb0 (by repeat' (first | (with_reducible assumption) | (with_reducible exact Below.refl _ _) | (with_reducible refine below_drewN ?_ _) | (with_reducible refine below_bytes ?_ ?_ _) | (with_reducible refine Below.alloc ?_ ?_ _) | (with_reducible refine Below.drew ?_) | (with_reducible refine Below.setCell ?_ ?_ _) | go_size))))
      clear hb0
      cases rr with
      | false =>
        have HE : Hid (r = false) := Lib.hid (by rw [← HR.out, all_no HY.out HS.out]; rfl)
        go_wp2_with fail
        go_ret
        exact ⟨ret_bool HE.out.symm, (by repeat' (first | (with_reducible assumption) | (with_reducible exact Below.refl _ _) | (with_reducible refine below_drewN ?_ _) | (with_reducible refine below_bytes ?_ ?_ _) | (with_reducible refine Below.alloc ?_ ?_ _) | (with_reducible refine Below.drew ?_) | (with_reducible refine Below.setCell ?_ ?_ _) | go_size))⟩
      | true =>
        go_wp2_with fail
        go_roundw
        case rel => exact ⟨k + 1, by omega, by go_num, all_to HAL.out HY.out HS.out, BXw4.out⟩
        case measure => simp [intOf]; omega
    · have HALL : Hid (x.words.all (someB wd) = true) := Lib.hid (all_end HAL.out (by rw [N2.out]; omega))
      clear HAL
      go_wp2_with fail
      go_loopw [32] (fun i W => ∃ k : Nat, k ≤ n3 ∧ i = .int .i64 k ∧ (x.redirs.take k).all (redirB wd) = true ∧ Bx w W 67 #[.int .i64 (m - 1)] 38 #[.int .i64 x.kind, .string x.name, .slice a1 n1 c1, .slice a2 n2 c2, .slice a3 n3 c3, .slice a4 n4 c4, .slice a5 n5 c5]) (fun i _ => n3 - (intOf i).toNat)
      case atStart => exact ⟨0, Nat.zero_le _, rfl, by simp, BX2.out⟩
      case round =>
        obtain ⟨j, hj, rfl, hal2, hbx2⟩ := hrel
        have HAL2 := Lib.hid hal2
        have BX3 := Lib.hid hbx2
        clear hal2 hbx2 b0 bf bl p0 p1 p2 p3 p4 p5 p6 pl
        have K0BX3 := Lib.hid BX3.out.b0
        have K1BX3 := Lib.hid BX3.out.b1
        have hBBX3 := BX3.out.hb
        have b0 := K0BX3.out.cell 0
        have bf := K0BX3.out.free 0
        have bl := K0BX3.out.lt
        simp at b0
        have p0 := K1BX3.out.cell 0
        have p1 := K1BX3.out.cell 1
        have p2 := K1BX3.out.cell 2
        have p3 := K1BX3.out.cell 3
        have p4 := K1BX3.out.cell 4
        have p5 := K1BX3.out.cell 5
        have p6 := K1BX3.out.cell 6
        have pl := K1BX3.out.lt
        simp at p0 p1 p2 p3 p4 p5 p6
        by_cases hlt2 : j < n3
        · obtain ⟨y, hy⟩ : ∃ y, x.redirs[j]? = .some y := ⟨_, List.getElem?_eq_getElem (by rw [N3.out]; exact hlt2)⟩
          obtain ⟨b, o, c, hi, hbB, hce, hC, _⟩ := HRD.out.at 32 31 Tryz.underlying32 (by kernel_rfl) hy
          have HY := Lib.hid hy
          have HC := Lib.hid hC
          obtain ⟨a6, c6, rfl, _⟩ := hC.open
          have CR := Lib.hid fun W hW => redir_any wd (m - 1) HWD.out y W d _ (HV.out.below HV.out.2 hW) (HC.out.later (w' := W) hW)
          have e0 := (hBBX3.cell hbB).trans (hce 0 _ rfl)
          have e1 := (hBBX3.cell hbB).trans (hce 1 _ rfl)
          have e2 := (hBBX3.cell hbB).trans (hce 2 _ rfl)
          have e3 := (hBBX3.cell hbB).trans (hce 3 _ rfl)
          have hbB' := Nat.lt_of_lt_of_le hbB hBBX3.size
          rw [Nat.add_zero] at e0
          obtain ⟨rr, hrr⟩ : ∃ r, redirB wd y = r := ⟨_, rfl⟩
          rw [hrr] at CR
          have HS := Lib.hid hrr
          clear hy hce hC hrr
          go_wp2_with fail
          refine (CR.out _ (by repeat' (first | (with_reducible assumption) | (with_reducible exact Below.refl _ _) | (with_reducible refine below_drewN ?_ _) | (with_reducible refine below_bytes ?_ ?_ _) | (with_reducible refine Below.alloc ?_ ?_ _) | (with_reducible refine Below.drew ?_) | (with_reducible refine Below.setCell ?_ ?_ _) | go_size))).mono ?_
          rintro e w4 ⟨rfl, hb0⟩
          obtain ⟨hcw4, hfw4⟩ := bcell hb0
          have hzw4 := hb0.size
          try simp only [World.size_alloc, World.size_setCell, World.size_drew, size_drewN] at hzw4
          have hBw4 : Below w.heap.size w w4 := since hb0 (by repeat' (first | (with_reducible assumption) | (with_reducible exact Below.refl _ _) | (with_reducible refine below_drewN ?_ _) | (with_reducible refine below_bytes ?_ ?_ _) | (with_reducible refine Below.alloc ?_ ?_ _) | (with_reducible refine Below.drew ?_) | (with_reducible refine Below.setCell ?_ ?_ _) | go_size))
          have BXw4 := Lib.hid (Bx.later BX3.out (since hb0 (by repeat' (first | (with_reducible assumption) | (with_reducible exact Below.refl _ _) | (with_reducible refine below_drewN ?_ _) | (with_reducible refine below_bytes ?_ ?_ _) | (with_reducible refine Below.alloc ?_ ?_ _) | (with_reducible refine Below.drew ?_) | (with_reducible refine Below.setCell ?_ ?_ _) | go_size))))
          clear hb0
          cases rr with
          | false =>
            have HE : Hid (r = false) := Lib.hid (by rw [← HR.out, all_no HY.out HS.out]; simp)
            go_wp2_with fail
            go_ret
            exact ⟨ret_bool HE.out.symm, (by repeat' (first | (with_reducible assumption) | (with_reducible exact Below.refl _ _) | (with_reducible refine below_drewN ?_ _) | (with_reducible refine below_bytes ?_ ?_ _) | (with_reducible refine Below.alloc ?_ ?_ _) | (with_reducible refine Below.drew ?_) | (with_reducible refine Below.setCell ?_ ?_ _) | go_size))⟩
          | true =>
            go_wp2_with fail
            go_roundw
            case rel => exact ⟨j + 1, by omega, by go_num, all_to HAL2.out HY.out HS.out, BXw4.out⟩
            case measure => simp [intOf]; omega
        · have HR2 : Hid (r = (bif x.kind == 1 then rs else bif (x.kind == 2 || x.kind == 3) || (x.kind == 4 || x.kind == 5) then rj else rc)) := Lib.hid (by rw [← HR.out, HALL.out, all_end HAL2.out (by rw [N3.out]; omega)]; rfl)
          cases k1 : (x.kind == 1) with
          | true =>
            have HE : Hid (r = rs) := Lib.hid (by rw [HR2.out, k1]; rfl)
            go_wp2_with fail
            refine (CS.out _ (by repeat' (first | (with_reducible assumption) | (with_reducible exact Below.refl _ _) | (with_reducible refine below_drewN ?_ _) | (with_reducible refine below_bytes ?_ ?_ _) | (with_reducible refine Below.alloc ?_ ?_ _) | (with_reducible refine Below.drew ?_) | (with_reducible refine Below.setCell ?_ ?_ _) | go_size))).mono ?_
            rintro e w5 ⟨rfl, hb0⟩
            obtain ⟨hcw5, hfw5⟩ := bcell hb0
            have hzw5 := hb0.size
            try simp only [World.size_alloc, World.size_setCell, World.size_drew, size_drewN] at hzw5
            have hBw5 : Below w.heap.size w w5 := since hb0 (by repeat' (first | (with_reducible assumption) | (with_reducible exact Below.refl _ _) | (with_reducible refine below_drewN ?_ _) | (with_reducible refine below_bytes ?_ ?_ _) | (with_reducible refine Below.alloc ?_ ?_ _) | (with_reducible refine Below.drew ?_) | (with_reducible refine Below.setCell ?_ ?_ _) | go_size))
            have BXw5 := Lib.hid (Bx.later BX3.out (since hb0 (by repeat' (first | (with_reducible assumption) | (with_reducible exact Below.refl _ _) | (with_reducible refine below_drewN ?_ _) | (with_reducible refine below_bytes ?_ ?_ _) | (with_reducible refine Below.alloc ?_ ?_ _) | (with_reducible refine Below.drew ?_) | (with_reducible refine Below.setCell ?_ ?_ _) | go_size))))
            clear hb0
            go_wp2_with fail
            go_ret
            exact ⟨ret_bool HE.out.symm, (by repeat' (first | (with_reducible assumption) | (with_reducible exact Below.refl _ _) | (with_reducible refine below_drewN ?_ _) | (with_reducible refine below_bytes ?_ ?_ _) | (with_reducible refine Below.alloc ?_ ?_ _) | (with_reducible refine Below.drew ?_) | (with_reducible refine Below.setCell ?_ ?_ _) | go_size))⟩
          | false =>
          cases k2 : (x.kind == 2) with
          | true =>
            have HE : Hid (r = rj) := Lib.hid (by rw [HR2.out, k1, k2]; rfl)
            go_wp2_with fail
            refine (CJ.out _ (by repeat' (first | (with_reducible assumption) | (with_reducible exact Below.refl _ _) | (with_reducible refine below_drewN ?_ _) | (with_reducible refine below_bytes ?_ ?_ _) | (with_reducible refine Below.alloc ?_ ?_ _) | (with_reducible refine Below.drew ?_) | (with_reducible refine Below.setCell ?_ ?_ _) | go_size))).mono ?_
            rintro e w5 ⟨rfl, hb0⟩
            obtain ⟨hcw5, hfw5⟩ := bcell hb0
            have hzw5 := hb0.size
            try simp only [World.size_alloc, World.size_setCell, World.size_drew, size_drewN] at hzw5
            have hBw5 : Below w.heap.size w w5 := since hb0 (by repeat' (first | (with_reducible assumption) | (with_reducible exact Below.refl _ _) | (with_reducible refine below_drewN ?_ _) | (with_reducible refine below_bytes ?_ ?_ _) | (with_reducible refine Below.alloc ?_ ?_ _) | (with_reducible refine Below.drew ?_) | (with_reducible refine Below.setCell ?_ ?_ _) | go_size))
            have BXw5 := Lib.hid (Bx.later BX3.out (since hb0 (by repeat' (first | (with_reducible assumption) | (with_reducible exact Below.refl _ _) | (with_reducible refine below_drewN ?_ _) | (with_reducible refine below_bytes ?_ ?_ _) | (with_reducible refine Below.alloc ?_ ?_ _) | (with_reducible refine Below.drew ?_) | (with_reducible refine Below.setCell ?_ ?_ _) | go_size))))
            clear hb0
            go_wp2_with fail
            go_ret
            exact ⟨ret_bool HE.out.symm, (by repeat' (first | (with_reducible assumption) | (with_reducible exact Below.refl _ _) | (with_reducible refine below_drewN ?_ _) | (with_reducible refine below_bytes ?_ ?_ _) | (with_reducible refine Below.alloc ?_ ?_ _) | (with_reducible refine Below.drew ?_) | (with_reducible refine Below.setCell ?_ ?_ _) | go_size))⟩
          | false =>
          cases k3 : (x.kind == 3) with
          | true =>
            have HE : Hid (r = rj) := Lib.hid (by rw [HR2.out, k1, k2, k3]; rfl)
            go_wp2_with fail
            refine (CJ.out _ (by repeat' (first | (with_reducible assumption) | (with_reducible exact Below.refl _ _) | (with_reducible refine below_drewN ?_ _) | (with_reducible refine below_bytes ?_ ?_ _) | (with_reducible refine Below.alloc ?_ ?_ _) | (with_reducible refine Below.drew ?_) | (with_reducible refine Below.setCell ?_ ?_ _) | go_size))).mono ?_
            rintro e w5 ⟨rfl, hb0⟩
            obtain ⟨hcw5, hfw5⟩ := bcell hb0
            have hzw5 := hb0.size
            try simp only [World.size_alloc, World.size_setCell, World.size_drew, size_drewN] at hzw5
            have hBw5 : Below w.heap.size w w5 := since hb0 (by repeat' (first | (with_reducible assumption) | (with_reducible exact Below.refl _ _) | (with_reducible refine below_drewN ?_ _) | (with_reducible refine below_bytes ?_ ?_ _) | (with_reducible refine Below.alloc ?_ ?_ _) | (with_reducible refine Below.drew ?_) | (with_reducible refine Below.setCell ?_ ?_ _) | go_size))
            have BXw5 := Lib.hid (Bx.later BX3.out (since hb0 (by repeat' (first | (with_reducible assumption) | (with_reducible exact Below.refl _ _) | (with_reducible refine below_drewN ?_ _) | (with_reducible refine below_bytes ?_ ?_ _) | (with_reducible refine Below.alloc ?_ ?_ _) | (with_reducible refine Below.drew ?_) | (with_reducible refine Below.setCell ?_ ?_ _) | go_size))))
            clear hb0
            go_wp2_with fail
            go_ret
            exact ⟨ret_bool HE.out.symm, (by repeat' (first | (with_reducible assumption) | (with_reducible exact Below.refl _ _) | (with_reducible refine below_drewN ?_ _) | (with_reducible refine below_bytes ?_ ?_ _) | (with_reducible refine Below.alloc ?_ ?_ _) | (with_reducible refine Below.drew ?_) | (with_reducible refine Below.setCell ?_ ?_ _) | go_size))⟩
          | false =>
          cases k4 : (x.kind == 4) with
          | true =>
            have HE : Hid (r = rj) := Lib.hid (by rw [HR2.out, k1, k2, k3, k4]; rfl)
            go_wp2_with fail
            refine (CJ.out _ (by repeat' (first | (with_reducible assumption) | (with_reducible exact Below.refl _ _) | (with_reducible refine below_drewN ?_ _) | (with_reducible refine below_bytes ?_ ?_ _) | (with_reducible refine Below.alloc ?_ ?_ _) | (with_reducible refine Below.drew ?_) | (with_reducible refine Below.setCell ?_ ?_ _) | go_size))).mono ?_
            rintro e w5 ⟨rfl, hb0⟩
            obtain ⟨hcw5, hfw5⟩ := bcell hb0
            have hzw5 := hb0.size
            try simp only [World.size_alloc, World.size_setCell, World.size_drew, size_drewN] at hzw5
            have hBw5 : Below w.heap.size w w5 := since hb0 (by repeat' (first | (with_reducible assumption) | (with_reducible exact Below.refl _ _) | (with_reducible refine below_drewN ?_ _) | (with_reducible refine below_bytes ?_ ?_ _) | (with_reducible refine Below.alloc ?_ ?_ _) | (with_reducible refine Below.drew ?_) | (with_reducible refine Below.setCell ?_ ?_ _) | go_size))
            have BXw5 := Lib.hid (Bx.later BX3.out (since hb0 (by repeat' (first | (with_reducible assumption) | (with_reducible exact Below.refl _ _) | (with_reducible refine below_drewN ?_ _) | (with_reducible refine below_bytes ?_ ?_ _) | (with_reducible refine Below.alloc ?_ ?_ _) | (with_reducible refine Below.drew ?_) | (with_reducible refine Below.setCell ?_ ?_ _) | go_size))))
            clear hb0
            go_wp2_with fail
            go_ret
            exact ⟨ret_bool HE.out.symm, (by repeat' (first | (with_reducible assumption) | (with_reducible exact Below.refl _ _) | (with_reducible refine below_drewN ?_ _) | (with_reducible refine below_bytes ?_ ?_ _) | (with_reducible refine Below.alloc ?_ ?_ _) | (with_reducible refine Below.drew ?_) | (with_reducible refine Below.setCell ?_ ?_ _) | go_size))⟩
          | false =>
          cases k5 : (x.kind == 5) with
          | true =>
            have HE : Hid (r = rj) := Lib.hid (by rw [HR2.out, k1, k2, k3, k4, k5]; rfl)
            go_wp2_with fail
            refine (CJ.out _ (by repeat' (first | (with_reducible assumption) | (with_reducible exact Below.refl _ _) | (with_reducible refine below_drewN ?_ _) | (with_reducible refine below_bytes ?_ ?_ _) | (with_reducible refine Below.alloc ?_ ?_ _) | (with_reducible refine Below.drew ?_) | (with_reducible refine Below.setCell ?_ ?_ _) | go_size))).mono ?_
            rintro e w5 ⟨rfl, hb0⟩
            obtain ⟨hcw5, hfw5⟩ := bcell hb0
            have hzw5 := hb0.size
            try simp only [World.size_alloc, World.size_setCell, World.size_drew, size_drewN] at hzw5
            have hBw5 : Below w.heap.size w w5 := since hb0 (by repeat' (first | (with_reducible assumption) | (with_reducible exact Below.refl _ _) | (with_reducible refine below_drewN ?_ _) | (with_reducible refine below_bytes ?_ ?_ _) | (with_reducible refine Below.alloc ?_ ?_ _) | (with_reducible refine Below.drew ?_) | (with_reducible refine Below.setCell ?_ ?_ _) | go_size))
            have BXw5 := Lib.hid (Bx.later BX3.out (since hb0 (by repeat' (first | (with_reducible assumption) | (with_reducible exact Below.refl _ _) | (with_reducible refine below_drewN ?_ _) | (with_reducible refine below_bytes ?_ ?_ _) | (with_reducible refine Below.alloc ?_ ?_ _) | (with_reducible refine Below.drew ?_) | (with_reducible refine Below.setCell ?_ ?_ _) | go_size))))
            clear hb0
            go_wp2_with fail
            go_ret
            exact ⟨ret_bool HE.out.symm, (by repeat' (first | (with_reducible assumption) | (with_reducible exact Below.refl _ _) | (with_reducible refine below_drewN ?_ _) | (with_reducible refine below_bytes ?_ ?_ _) | (with_reducible refine Below.alloc ?_ ?_ _) | (with_reducible refine Below.drew ?_) | (with_reducible refine Below.setCell ?_ ?_ _) | go_size))⟩
          | false =>
            have HE : Hid (r = rc) := Lib.hid (by rw [HR2.out, k1, k2, k3, k4, k5]; rfl)
            go_wp2_with fail
            refine (CC.out _ (by repeat' (first | (with_reducible assumption) | (with_reducible exact Below.refl _ _) | (with_reducible refine below_drewN ?_ _) | (with_reducible refine below_bytes ?_ ?_ _) | (with_reducible refine Below.alloc ?_ ?_ _) | (with_reducible refine Below.drew ?_) | (with_reducible refine Below.setCell ?_ ?_ _) | go_size))).mono ?_
            rintro e w5 ⟨rfl, hb0⟩
            obtain ⟨hcw5, hfw5⟩ := bcell hb0
            have hzw5 := hb0.size
            try simp only [World.size_alloc, World.size_setCell, World.size_drew, size_drewN] at hzw5
            have hBw5 : Below w.heap.size w w5 := since hb0 (by repeat' (first | (with_reducible assumption) | (with_reducible exact Below.refl _ _) | (with_reducible refine below_drewN ?_ _) | (with_reducible refine below_bytes ?_ ?_ _) | (with_reducible refine Below.alloc ?_ ?_ _) | (with_reducible refine Below.drew ?_) | (with_reducible refine Below.setCell ?_ ?_ _) | go_size))
            have BXw5 := Lib.hid (Bx.later BX3.out (since hb0 (by repeat' (first | (with_reducible assumption) | (with_reducible exact Below.refl _ _) | (with_reducible refine below_drewN ?_ _) | (with_reducible refine below_bytes ?_ ?_ _) | (with_reducible refine Below.alloc ?_ ?_ _) | (with_reducible refine Below.drew ?_) | (with_reducible refine Below.setCell ?_ ?_ _) | go_size))))
            clear hb0
            go_wp2_with fail
            go_ret
            exact ⟨ret_bool HE.out.symm, (by repeat' (first | (with_reducible assumption) | (with_reducible exact Below.refl _ _) | (with_reducible refine below_drewN ?_ _) | (with_reducible refine below_bytes ?_ ?_ _) | (with_reducible refine Below.alloc ?_ ?_ _) | (with_reducible refine Below.drew ?_) | (with_reducible refine Below.setCell ?_ ?_ _) | go_size))⟩

theorem okW_zero (l : List Pt) : partsB (fun _ _ => false) none l = okW 0 l := by rw [okW]; cases l <;> rfl
theorem okL_zero (l : List Nd) : l.all (fun _ => false) = okL 0 l := by rw [okL]; cases l <;> rfl
/-- word and list, at every level. -/
theorem levels : ∀ (n : Nat) (m : Int), m.toNat = n → m ≤ 9223372036854775807 → WordAt m (okW n) ∧ ListAt m (okL n)
  | 0, m, hn, _ => by
    have e1 : okW 0 = partsB (fun _ _ => false) none := funext fun l => (okW_zero l).symm
    have e2 : okL 0 = fun l => l.all (fun _ => false) := funext fun l => (okL_zero l).symm
    rw [e1, e2]
    exact ⟨word_any m _ fun W q x d c pv _ hp _ => part_no m (by omega) q x W d c pv hp, list_any m _ fun W x d c _ hp => node_no m (by omega) x W d c hp⟩
  | n + 1, m, hn, hm => by
    obtain ⟨h1, h2⟩ := levels n (m - 1) (by omega) (by omega)
    have e1 : okW (n + 1) = partsB (partB (okW n) (okL n)) none := funext fun l => by rw [okW]
    have e2 : okL (n + 1) = fun l => l.all (nodeB (okW n) (okL n)) := funext fun l => by rw [okL]
    rw [e1, e2]
    exact ⟨word_any m _ fun W q x d c pv hv hp hq => part_yes _ _ m (by omega) hm h1 h2 q x W d c pv hv hp hq, list_any m _ fun W x d c hv hp => node_yes _ _ m (by omega) hm h1 h2 x W d c hv hp⟩

theorem right_any (l : List Nd) (v : Value) (m : Int) (w : World) (d : Nat) (hm : m ≤ 9223372036854775807) (hv : Held w) (hl : NdsIn w w.heap.size d l v) :
    Calls Tryz.prog 10 #[v, .int .i64 m] w fun e w' => e = .returned (.bool (okL m.toNat l)) ∧ Below w.heap.size w w' := by
  have CL := Lib.hid ((levels m.toNat m rfl hm).2 w l v d true hv hl)
  rw [Bool.true_or, Bool.and_true] at CL
  obtain ⟨a, cap, rfl, _⟩ := hl.shape
  clear hl
  go_enter Tryz.func10, Tryz.ntmps10
  go_wp2_with fail
  refine CL.out.mono ?_
  rintro e w1 ⟨rfl, hb⟩
  have HB := Lib.hid hb
  clear hb
  go_wp2
  go_ret
  exact ⟨rfl, HB.out⟩
end Go.Proofs.YtnackmnoldkihaaGreatDoor
/-
  The writer: what it holds; writing a string or a byte to it.
-/
namespace Go.Proofs.YtnackmnoldkihaaGreatDoor
open Go.RowKit

/-- A redirection and where its word lies. -/
abbrev DocV := Rd × Value
def docCells (r : DocV) : List Value := [.int .i64 r.1.fd, .string r.1.op, .string r.1.tag, r.2]
/-- The writer in block b, one of the call's own (from B on): what has been written, and the here-documents that come, which lie in the slice dv. -/
def Wr (W : World) (B b : Nat) (dv : Value) (out : List UInt8) (ds : List DocV) : Prop :=
  B ≤ b ∧ (∃ v p, W.heap[b]? = some (.cells #[p, v, dv] 84 (0, 0)) ∧ (p = .pointer none ∨ p = .pointer (some ⟨b, 0, none⟩)) ∧ OwnB W B v out) ∧
    W.ownsRow B 31 4 dv ds.length (ds.flatMap docCells) ∧ (∀ r ∈ ds, ∃ d, RdC W B d r.1 (docCells r)) ∧ ds.length ≤ out.length
/-- What stays where the writer of block b writes on: all below B; every block that is neither it, nor its here-documents', nor a row of bytes. -/
structure Fr (W W' : World) (B b : Nat) (dv dv' : Value) : Prop where
  low : Below B W W'
  kept : ∀ k o, W.heap[k]? = some o → k ≠ b → dv.ownBlock ≠ some k → (∀ c fz, o ≠ .cells c 5 fz) → W'.heap[k]? = some o
  own : ∀ k, dv'.ownBlock = some k → dv.ownBlock = some k ∨ W.heap.size ≤ k
section
variable {W W' W'' : World} {B b : Nat} {dv dv' dv'' : Value} {out : List UInt8} {ds : List DocV}
theorem Fr.refl (W : World) (B b : Nat) (dv : Value) : Fr W W B b dv dv := ⟨Below.refl _ _, fun _ _ h _ _ _ => h, fun _ h => .inl h⟩
theorem Fr.trans (h : Fr W W' B b dv dv') (h' : Fr W' W'' B b dv' dv'') : Fr W W'' B b dv dv'' :=
  ⟨h.low.trans h'.low, fun k o ho hb hd hu => h'.kept k o (h.kept k o ho hb hd hu) hb (fun e => by
    rcases h.own k e with h1 | h1
    · exact hd h1
    · have := (Array.getElem?_eq_some_iff.1 ho).1; omega) hu, fun k hk => by
    rcases h'.own k hk with h1 | h1
    · exact h.own k h1
    · exact .inr (Nat.le_trans h.low.size h1)⟩
/-- Where only new blocks have been made. -/
theorem Fr.of_below (hb : Below W.heap.size W W') (hB : B ≤ W.heap.size) : Fr W W' B b dv dv :=
  ⟨hb.mono hB, fun k o ho _ _ _ => (hb.block k (Array.getElem?_eq_some_iff.1 ho).1).trans ho, fun _ h => .inl h⟩
theorem Wr.lt (h : Wr W B b dv out ds) : b < W.heap.size := by
  obtain ⟨_, ⟨v, p, hb, _⟩, _⟩ := h
  exact (Array.getElem?_eq_some_iff.1 hb).1
theorem Wr.le (h : Wr W B b dv out ds) : B ≤ W.heap.size := by have := h.lt; have := h.1; omega
theorem Wr.below (h : Wr W B b dv out ds) (hb : Below W.heap.size W W') : Wr W' B b dv out ds := by
  have hle := h.le
  have hlt := h.lt
  obtain ⟨h1, ⟨v, p, h2, h3, h4⟩, h5, h6, h7⟩ := h
  exact ⟨h1, ⟨v, p, (hb.block b hlt).trans h2, h3, h4.below hb⟩, own_below h5 hb, fun r hr => by
    obtain ⟨d, hd⟩ := h6 r hr
    exact ⟨d, hd.keep fun _ _ _ _ hs => hs.below (hb.mono hle)⟩, h7⟩
/-- A box of the call's own stays. -/
theorem Fr.blk {g : Nat} {t : TypeId} {cs : Array Value} (h : Fr W W' B b dv dv') (hk : Blk W g t cs) (hg : g ≠ b) (hd : dv.ownBlock ≠ some g) (ht : t ≠ 5) : Blk W' g t cs :=
  h.kept g _ hk hg hd fun c fz e => by injection e with _ e2 _; exact ht e2
end
theorem writer_lies : liesAt Tryz.prog Tryz.prog.depth 84 (3 / Tryz.prog.cellsOf 84) 0 82 1 = true := by kernel_rfl

set_option maxRecDepth 100000 in
theorem check_used (b : Nat) (w : World) (h0 : w.cell? ⟨b, 0, none⟩ = some (.pointer (some ⟨b, 0, none⟩))) :
    Calls Tryz.prog 102 #[.pointer (some ⟨b, 0, none⟩)] w fun e w' => e = .returned (.tuple #[]) ∧ w = w' := by
  obtain ⟨j, hj, _⟩ := Option.map_eq_some_iff.1 (show (Tryz.prog.info? 82).map (·.size) = some 2 by kernel_rfl)
  go_enter Tryz.func102, Tryz.ntmps102
  go_wp2
  rw [Lib.run_neq_ptr_same w _ Tryz.underlying80 hj]
  go_wp2
  go_end0
  exact ⟨rfl, rfl⟩
set_option maxRecDepth 100000 in
theorem check_fresh (b : Nat) (w : World) (h0 : w.cell? ⟨b, 0, none⟩ = some (.pointer none)) (hsh : w.shape? b = some (84, 3)) (hfz : w.frozen? ⟨b, 0, none⟩ = false) :
    Calls Tryz.prog 102 #[.pointer (some ⟨b, 0, none⟩)] w fun e w' => e = .returned (.tuple #[]) ∧ w.setCell ⟨b, 0, none⟩ (.pointer (some ⟨b, 0, none⟩)) = w' := by
  obtain ⟨j, hj, hjs⟩ := Option.map_eq_some_iff.1 (show (Tryz.prog.info? 82).map (·.size) = some 2 by kernel_rfl)
  go_enter Tryz.func102, Tryz.ntmps102
  go_wp2
  rw [Lib.run_to_unsafe w ⟨b, 0, none⟩ Tryz.underlying80 Tryz.underlying142 hj (by rw [hjs]; decide) hsh (Nat.zero_lt_succ 2)]
  simp only [Result.andThen]
  rw [Oper.upon_value]
  go_wp2
  rw [run_callFunc_extern Tryz.func114 (by kernel_rfl) (by kernel_rfl) (by kernel_rfl) (e := Extern.AbiNoEscape.same) (by kernel_rfl)]
  rw [Lib.run_noEscape]
  simp only [Result.andThen]
  rw [Oper.upon_value]
  go_wp2
  rw [Lib.run_from_unsafe w ⟨b, 0, none⟩ Tryz.underlying142 Tryz.underlying80 hj hsh writer_lies]
  simp only [Result.andThen]
  rw [Oper.upon_value]
  go_wp2
  go_end0
  exact ⟨rfl, rfl⟩

/-- .. with its own address in it. -/
def WrU (W : World) (B b : Nat) (v dv : Value) (out : List UInt8) (ds : List DocV) : Prop :=
  B ≤ b ∧ W.heap[b]? = some (.cells #[.pointer (some ⟨b, 0, none⟩), v, dv] 84 (0, 0)) ∧ OwnB W B v out ∧
    W.ownsRow B 31 4 dv ds.length (ds.flatMap docCells) ∧ (∀ r ∈ ds, ∃ d, RdC W B d r.1 (docCells r)) ∧ ds.length ≤ out.length
theorem WrU.wr {W : World} {B b : Nat} {v dv : Value} {out : List UInt8} {ds : List DocV} (h : WrU W B b v dv out ds) : Wr W B b dv out ds :=
  ⟨h.1, ⟨v, _, h.2.1, .inr rfl, h.2.2.1⟩, h.2.2.2⟩
theorem row_ne {w : World} {B n size : Nat} {e T : TypeId} {v : Value} {xs : List Value} {b : Nat} {cs : Array Value} {fr : Nat × Nat} (hown : w.ownsRow B e size v n xs) (hb : w.heap[b]? = some (.cells cs T fr)) (hTe : T ≠ e) : v.ownBlock ≠ some b := by
  rcases hown.2 with ⟨rfl, _⟩ | ⟨g, cap, cur, rfl, _, hg, _⟩
  · simp [Value.ownBlock]
  · intro e'
    simp [Value.ownBlock] at e'
    subst e'
    rw [hb] at hg
    injection hg with hg
    injection hg with _ h2 _
    exact hTe h2
/-- A store into the writer's own block keeps the rows. -/
theorem row_set {w : World} {B n size : Nat} {e : TypeId} {v : Value} {xs : List Value} {b : Nat} (hown : w.ownsRow B e size v n xs) (hne : v.ownBlock ≠ some b) (i : Nat) (u : Value) : (w.setCell ⟨b, i, none⟩ u).ownsRow B e size v n xs := by
  refine ⟨hown.1, ?_⟩
  rcases hown.2 with h | ⟨g, cap, cur, rfl, hB, hg, r⟩
  · exact .inl h
  · refine .inr ⟨g, cap, cur, rfl, hB, ?_, r⟩
    rw [Below.heap_setCell _ _ _ _ (by simp [Value.ownBlock] at hne; exact hne)]
    exact hg
theorem heap_put {w : World} {b : Nat} {cs : Array Value} {T : TypeId} (h : w.heap[b]? = some (.cells cs T (0, 0))) (i : Nat) (u : Value) : (w.setCell ⟨b, i, none⟩ u).heap[b]? = some (.cells (cs.setIfInBounds i u) T (0, 0)) := Blk.put h i u
theorem others_fr {W W' : World} {B b : Nat} {dv : Value} (hb : Below B W W') (h : Lib.OthersKept 5 (some b) W W') : Fr W W' B b dv dv :=
  ⟨hb, fun k o ho hne _ hu => h k o ho (by simpa using hne) hu, fun _ h => .inl h⟩

theorem check_any {W : World} {B b : Nat} {dv : Value} {out : List UInt8} {ds : List DocV} (h : Wr W B b dv out ds) :
    Calls Tryz.prog 102 #[.pointer (some ⟨b, 0, none⟩)] W fun e w' => e = .returned (.tuple #[]) ∧ ∃ v, WrU w' B b v dv out ds ∧ Below B W w' ∧ Lib.OthersKept 5 (some b) W w' := by
  obtain ⟨hB, ⟨v, p, hbk, hp, hown⟩, hdn, hdat, hds⟩ := h
  rcases hp with rfl | rfl
  · refine (check_fresh b W (by rw [Lib.cell_of_heap hbk]; rfl) (by simp [World.shape?, hbk]) (by simp [World.frozen?, hbk])).mono ?_
    rintro e w' ⟨rfl, rfl⟩
    refine ⟨rfl, v, ⟨hB, heap_put hbk 0 _, row_set hown (row_ne hown hbk (by decide)) 0 _, row_set hdn (row_ne hdn hbk (by decide)) 0 _, fun r hr => ?_, hds⟩, (Below.refl B W).setCell (p := ⟨b, 0, none⟩) hB _, (Lib.OthersKept.refl _ _ W).setCell ⟨b, 0, none⟩ rfl _⟩
    obtain ⟨d, hd⟩ := hdat r hr
    exact ⟨d, hd.keep fun _ _ _ _ hs => hs.below ((Below.refl B W).setCell (p := ⟨b, 0, none⟩) hB _)⟩
  · refine (check_used b W (by rw [Lib.cell_of_heap hbk]; rfl)).mono ?_
    rintro e w' ⟨rfl, rfl⟩
    exact ⟨rfl, v, ⟨hB, hbk, hown, hdn, hdat, hds⟩, Below.refl B _, Lib.OthersKept.refl _ _ _⟩

theorem strCells_own (s : ByteArray) (bl : List UInt8) : (bl.map fun u => Value.int .u8 ((u.toNat : Nat) : Int)) ++ Lib.strCells s = ((bl ++ L s).map fun u => Value.int .u8 ((u.toNat : Nat) : Int)) := by
  rw [List.map_append]; rfl

set_option maxHeartbeats 2000000 in
set_option maxRecDepth 100000 in
theorem writeS {W : World} {B b : Nat} {dv : Value} {out : List UInt8} {ds : List DocV} (h : Wr W B b dv out ds) (s : ByteArray) (hlen : out.length + s.size ≤ 140737488355328) :
    Calls Tryz.prog 78 #[.pointer (some ⟨b, 0, none⟩), .string s] W fun e w' => e = .returned (.tuple #[.int .i64 s.size, .nilIface]) ∧ Wr w' B b dv (out ++ L s) ds ∧ Fr W w' B b dv dv := by
  obtain ⟨i0, hi, hz0, hz1, hz2⟩ := info_parts info8
  have CK := Lib.hid (check_any h)
  have hle := h.le
  clear h
  go_enter Tryz.func78, Tryz.ntmps78
  go_wp2_with fail
  refine CK.out.mono ?_
  rintro e w1 ⟨rfl, v, ⟨hB, hbk, hown, hdn, hdat, hds⟩, hb1, hk1⟩
  have hw1 : W.heap.size ≤ w1.heap.size := hb1.size
  have c0 : w1.cell? ⟨b, 0, none⟩ = some (.pointer (some ⟨b, 0, none⟩)) := by rw [Lib.cell_of_heap hbk]; rfl
  have c1 : w1.cell? ⟨b, 1, none⟩ = some v := by rw [Lib.cell_of_heap hbk]; rfl
  have HB := Lib.hid hbk
  have HO := Lib.hid hown
  have HD := Lib.hid hdn
  have HDT := Lib.hid hdat
  have HB1 := Lib.hid hb1
  have HK1 := Lib.hid hk1
  clear hbk hown hdn hdat hb1 hk1
  go_wp2_with (at_builtin; refine Lib.wpList_append_own_string _ rfl _ _ 76 9 rfl B 5 i0 Tryz.underlying76 Tryz.underlying9 hi hz0 hz1 hz2 _ _ _ rfl HO.out s rfl ?c3 ?c4 ?c5 ?_)
  case c3 => unfold maxLen; omega
  case c4 => omega
  case c5 => omega
  intro v' w2 hown' hgrow _
  have hlt : b < w1.heap.size := (Array.getElem?_eq_some_iff.1 HB.out).1
  have hne := row_ne HO.out HB.out (by decide)
  have hb2 : w2.heap[b]? = some (.cells #[.pointer (some ⟨b, 0, none⟩), v, dv] 84 (0, 0)) := by
    rw [hgrow.block b hlt (fun e => hne e.symm)]
    exact HB.out
  have hdn2 : w2.ownsRow B 31 4 dv ds.length (ds.flatMap docCells) := HD.out.kept hgrow (by
    rcases HO.out.2 with ⟨hv, _⟩ | ⟨g, cap, cur, hv, _, hg, _⟩
    · rcases HD.out.2 with ⟨hd, _⟩ | ⟨g2, _, _, hd, _⟩
      · left; rw [hd]; rfl
      · right; rw [hv, hd]; simp [Value.ownBlock]
    · right; rw [hv]; exact row_ne HD.out hg (by decide))
  have d1 : w2.cell? ⟨b, 1, none⟩ = some v := by rw [Lib.cell_of_heap hb2]; rfl
  have f1 : w2.frozen? ⟨b, 1, none⟩ = false := Lib.frozen_of_heap hb2 1
  obtain ⟨ao, n', cap, rfl⟩ : ∃ ao n' cap, v' = .slice ao n' cap := by
    obtain ⟨a, c, e⟩ := own_shape hown'
    exact ⟨_, _, _, e⟩
  have hbl2 : Below B w1 w2 := (Below.refl B w1).grown hgrow (by omega) (fun k hk => (HO.out.lt k hk).1)
  have HB2 := Lib.hid hb2
  have HO2 := Lib.hid hown'
  have HD2 := Lib.hid hdn2
  have HG := Lib.hid hgrow
  have HBL := Lib.hid hbl2
  clear hb2 hown' hdn2 hgrow hne hbl2
  go_wp2
  go_ret2
  have hs2 := (Below.refl B w2).setCell (p := ⟨b, 1, none⟩) hB (Value.slice ao n' cap)
  refine ⟨rfl, ⟨hB, ⟨.slice ao n' cap, _, heap_put HB2.out 1 _, .inr rfl, ?_⟩, row_set HD2.out (row_ne HD2.out HB2.out (by decide)) 1 _, fun r hr => ?_, by rw [List.length_append]; omega⟩, others_fr ((HB1.out.trans HBL.out).trans hs2) ((HK1.out.grown HG.out ?_).setCell ⟨b, 1, none⟩ rfl _)⟩
  · have h1 := row_set HO2.out (row_ne HO2.out HB2.out (by decide)) 1 (Value.slice ao n' cap)
    rw [strCells_own] at h1
    have e : (out ++ L s).length = out.length + s.size := by rw [List.length_append, L_size]
    unfold OwnB
    rw [e]
    exact h1
  · obtain ⟨d, hd⟩ := HDT.out r hr
    exact ⟨d, hd.keep fun _ _ _ _ hs => hs.below (HBL.out.trans hs2)⟩
  · intro g hg
    rcases HO.out.2 with ⟨hv, _⟩ | ⟨g', cap, cur, hv, _, hgg, _⟩
    · rw [hv] at hg; simp [Value.ownBlock] at hg
    · rw [hv] at hg; simp [Value.ownBlock] at hg; subst hg; exact ⟨cur, _, hgg⟩

set_option maxHeartbeats 2000000 in
set_option maxRecDepth 100000 in
theorem writeB {W : World} {B b : Nat} {dv : Value} {out : List UInt8} {ds : List DocV} (h : Wr W B b dv out ds) (c : UInt8) (hlen : out.length + 1 ≤ 140737488355328) :
    Calls Tryz.prog 81 #[.pointer (some ⟨b, 0, none⟩), .int .u8 ((c.toNat : Nat) : Int)] W fun e w' => e = .returned .nilIface ∧ Wr w' B b dv (out ++ [c]) ds ∧ Fr W w' B b dv dv := by
  obtain ⟨i0, hi, hz0, hz1, hz2⟩ := info_parts info8
  have CK := Lib.hid (check_any h)
  have hle := h.le
  clear h
  go_enter Tryz.func81, Tryz.ntmps81
  go_wp2_with fail
  refine CK.out.mono ?_
  rintro e w1 ⟨rfl, v, ⟨hB, hbk, hown, hdn, hdat, hds⟩, hb1, hk1⟩
  have hw1 : W.heap.size ≤ w1.heap.size := hb1.size
  have c0 : w1.cell? ⟨b, 0, none⟩ = some (.pointer (some ⟨b, 0, none⟩)) := by rw [Lib.cell_of_heap hbk]; rfl
  have c1 : w1.cell? ⟨b, 1, none⟩ = some v := by rw [Lib.cell_of_heap hbk]; rfl
  have HB := Lib.hid hbk
  have HO := Lib.hid hown
  have HD := Lib.hid hdn
  have HDT := Lib.hid hdat
  have HB1 := Lib.hid hb1
  have HK1 := Lib.hid hk1
  clear hbk hown hdn hdat hb1 hk1
  go_wp2_with (at_builtin; refine append_byte_lies (v := v) rfl _ _ rfl rfl (HO.out.alloc _) c rfl (cell_new _ _ _) (by omega) (by simp; omega) ?_)
  intro g cap w2 hown' hgrow hg
  have hlt : b < w1.heap.size := (Array.getElem?_eq_some_iff.1 HB.out).1
  have hne := row_ne HO.out HB.out (by decide)
  have hb1' : (w1.alloc (.cells #[.int .u8 ((c.toNat : Nat) : Int)] 5)).heap[b]? = some (.cells #[.pointer (some ⟨b, 0, none⟩), v, dv] 84 (0, 0)) := (Lib.alloc_old w1 _ b hlt).trans HB.out
  have hb2 : w2.heap[b]? = some (.cells #[.pointer (some ⟨b, 0, none⟩), v, dv] 84 (0, 0)) := by
    rw [hgrow.block b (by simp; omega) (fun e => hne e.symm)]
    exact hb1'
  have hdn2 : w2.ownsRow B 31 4 dv ds.length (ds.flatMap docCells) := (HD.out.alloc _).kept hgrow (by
    rcases HO.out.2 with ⟨hv, _⟩ | ⟨g, cap, cur, hv, _, hg, _⟩
    · rcases HD.out.2 with ⟨hd, _⟩ | ⟨g2, _, _, hd, _⟩
      · left; rw [hd]; rfl
      · right; rw [hv, hd]; simp [Value.ownBlock]
    · right; rw [hv]; exact row_ne HD.out hg (by decide))
  have d1 : w2.cell? ⟨b, 1, none⟩ = some v := by rw [Lib.cell_of_heap hb2]; rfl
  have f1 : w2.frozen? ⟨b, 1, none⟩ = false := Lib.frozen_of_heap hb2 1
  have hbl2 : Below B w1 w2 := ((Below.refl B w1).alloc (by omega) _).grown hgrow (by simp; omega) (fun k hk => (HO.out.lt k hk).1)
  have hkk : Lib.OthersKept 5 (some b) W w2 := (HK1.out.alloc _).grown hgrow (by
    intro g hg
    rcases HO.out.2 with ⟨hv, _⟩ | ⟨g', cap, cur, hv, _, hgg, _⟩
    · rw [hv] at hg; simp [Value.ownBlock] at hg
    · rw [hv] at hg; simp [Value.ownBlock] at hg; subst hg
      exact ⟨cur, _, (Lib.alloc_old w1 _ _ (Array.getElem?_eq_some_iff.1 hgg).1).trans hgg⟩)
  have HB2 := Lib.hid hb2
  have HO2 := Lib.hid hown'
  have HD2 := Lib.hid hdn2
  have HBL := Lib.hid hbl2
  have HKK := Lib.hid hkk
  clear hb2 hown' hdn2 hgrow hne hbl2 hkk hg hb1'
  go_wp2
  go_ret
  have hs2 := (Below.refl B w2).setCell (p := ⟨b, 1, none⟩) hB (Value.slice (some ⟨g, 0, none⟩) (out.length + 1) cap)
  refine ⟨rfl, ⟨hB, ⟨.slice (some ⟨g, 0, none⟩) (out.length + 1) cap, _, heap_put HB2.out 1 _, .inr rfl, ?_⟩, row_set HD2.out (row_ne HD2.out HB2.out (by decide)) 1 _, fun r hr => ?_, by rw [List.length_append]; omega⟩, others_fr ((HB1.out.trans HBL.out).trans hs2) (HKK.out.setCell ⟨b, 1, none⟩ rfl _)⟩
  · exact row_set HO2.out (row_ne HO2.out HB2.out (by decide)) 1 _
  · obtain ⟨d, hd⟩ := HDT.out r hr
    exact ⟨d, hd.keep fun _ _ _ _ hs => hs.below (HBL.out.trans hs2)⟩

set_option maxHeartbeats 2000000 in
set_option maxRecDepth 100000 in
theorem writeBD {W : World} {B b : Nat} {dv : Value} {out : List UInt8} {ds : List DocV} (h : Wr W B b dv out ds) (c : UInt8) (hlen : out.length + 1 ≤ 140737488355328) (u : FrameMode) :
    CallsD Tryz.prog 81 #[.pointer (some ⟨b, 0, none⟩), .int .u8 ((c.toNat : Nat) : Int)] u W fun e u' w' => u' = u ∧ (e = .returned .nilIface ∧ Wr w' B b dv (out ++ [c]) ds ∧ Fr W w' B b dv dv) := by
  obtain ⟨i0, hi, hz0, hz1, hz2⟩ := info_parts info8
  have CK := Lib.hid (check_any h)
  have hle := h.le
  clear h
  go_enter_d Tryz.func81, Tryz.ntmps81
  go_wp2_with fail
  refine CK.out.mono ?_
  rintro e w1 ⟨rfl, v, ⟨hB, hbk, hown, hdn, hdat, hds⟩, hb1, hk1⟩
  have hw1 : W.heap.size ≤ w1.heap.size := hb1.size
  have c0 : w1.cell? ⟨b, 0, none⟩ = some (.pointer (some ⟨b, 0, none⟩)) := by rw [Lib.cell_of_heap hbk]; rfl
  have c1 : w1.cell? ⟨b, 1, none⟩ = some v := by rw [Lib.cell_of_heap hbk]; rfl
  have HB := Lib.hid hbk
  have HO := Lib.hid hown
  have HD := Lib.hid hdn
  have HDT := Lib.hid hdat
  have HB1 := Lib.hid hb1
  have HK1 := Lib.hid hk1
  clear hbk hown hdn hdat hb1 hk1
  go_wp2_with (at_builtin; refine append_byte_lies (v := v) rfl _ _ rfl rfl (HO.out.alloc _) c rfl (cell_new _ _ _) (by omega) (by simp; omega) ?_)
  intro g cap w2 hown' hgrow hg
  have hlt : b < w1.heap.size := (Array.getElem?_eq_some_iff.1 HB.out).1
  have hne := row_ne HO.out HB.out (by decide)
  have hb1' : (w1.alloc (.cells #[.int .u8 ((c.toNat : Nat) : Int)] 5)).heap[b]? = some (.cells #[.pointer (some ⟨b, 0, none⟩), v, dv] 84 (0, 0)) := (Lib.alloc_old w1 _ b hlt).trans HB.out
  have hb2 : w2.heap[b]? = some (.cells #[.pointer (some ⟨b, 0, none⟩), v, dv] 84 (0, 0)) := by
    rw [hgrow.block b (by simp; omega) (fun e => hne e.symm)]
    exact hb1'
  have hdn2 : w2.ownsRow B 31 4 dv ds.length (ds.flatMap docCells) := (HD.out.alloc _).kept hgrow (by
    rcases HO.out.2 with ⟨hv, _⟩ | ⟨g, cap, cur, hv, _, hg, _⟩
    · rcases HD.out.2 with ⟨hd, _⟩ | ⟨g2, _, _, hd, _⟩
      · left; rw [hd]; rfl
      · right; rw [hv, hd]; simp [Value.ownBlock]
    · right; rw [hv]; exact row_ne HD.out hg (by decide))
  have d1 : w2.cell? ⟨b, 1, none⟩ = some v := by rw [Lib.cell_of_heap hb2]; rfl
  have f1 : w2.frozen? ⟨b, 1, none⟩ = false := Lib.frozen_of_heap hb2 1
  have hbl2 : Below B w1 w2 := ((Below.refl B w1).alloc (by omega) _).grown hgrow (by simp; omega) (fun k hk => (HO.out.lt k hk).1)
  have hkk : Lib.OthersKept 5 (some b) W w2 := (HK1.out.alloc _).grown hgrow (by
    intro g hg
    rcases HO.out.2 with ⟨hv, _⟩ | ⟨g', cap, cur, hv, _, hgg, _⟩
    · rw [hv] at hg; simp [Value.ownBlock] at hg
    · rw [hv] at hg; simp [Value.ownBlock] at hg; subst hg
      exact ⟨cur, _, (Lib.alloc_old w1 _ _ (Array.getElem?_eq_some_iff.1 hgg).1).trans hgg⟩)
  have HB2 := Lib.hid hb2
  have HO2 := Lib.hid hown'
  have HD2 := Lib.hid hdn2
  have HBL := Lib.hid hbl2
  have HKK := Lib.hid hkk
  clear hb2 hown' hdn2 hgrow hne hbl2 hkk hg hb1'
  go_wp2
  go_ret
  have hs2 := (Below.refl B w2).setCell (p := ⟨b, 1, none⟩) hB (Value.slice (some ⟨g, 0, none⟩) (out.length + 1) cap)
  refine ⟨rfl, ⟨hB, ⟨.slice (some ⟨g, 0, none⟩) (out.length + 1) cap, _, heap_put HB2.out 1 _, .inr rfl, ?_⟩, row_set HD2.out (row_ne HD2.out HB2.out (by decide)) 1 _, fun r hr => ?_, by rw [List.length_append]; omega⟩, others_fr ((HB1.out.trans HBL.out).trans hs2) (HKK.out.setCell ⟨b, 1, none⟩ rfl _)⟩
  · exact row_set HO2.out (row_ne HO2.out HB2.out (by decide)) 1 _
  · obtain ⟨d, hd⟩ := HDT.out r hr
    exact ⟨d, hd.keep fun _ _ _ _ hs => hs.below (HBL.out.trans hs2)⟩

set_option maxHeartbeats 2000000 in
set_option maxRecDepth 100000 in
theorem string_any {W : World} {B b : Nat} {dv : Value} {l : List UInt8} {ds : List DocV} (h : Wr W B b dv l ds) (h0 : l ≠ []) :
    Calls Tryz.prog 49 #[.pointer (some ⟨b, 0, none⟩)] W fun e w' => e = .returned (.string (S l)) ∧ Below B W w' := by
  obtain ⟨hB, ⟨v, p, hbk, _, hown⟩, _, _⟩ := h
  have hl0 : l.length ≠ 0 := by simpa using h0
  obtain ⟨g, cap, cur, rfl, hbg, hg, hnc, hcm, hcs, htake⟩ : ∃ g cap cur, v = .slice (some ⟨g, 0, none⟩) l.length cap ∧ B ≤ g ∧ W.heap[g]? = some (.cells cur 5 (0, 0)) ∧ l.length ≤ cap ∧ cap ≤ maxLen ∧ cur.size = cap * 1 ∧ cur.toList.take (l.length * 1) = l.map fun u => Value.int .u8 ((u.toNat : Nat) : Int) := by
    rcases hown.2 with ⟨_, hz⟩ | ⟨g, cap, cur, hv, r⟩
    · exact absurd hz hl0
    · exact ⟨g, cap, cur, hv, r⟩
  have c1 : W.drew.cell? ⟨b, 1, none⟩ = some (.slice (some ⟨g, 0, none⟩) l.length cap) := by
    have : W.drew.heap[b]? = some (.cells #[p, .slice (some ⟨g, 0, none⟩) l.length cap, dv] 84 (0, 0)) := hbk
    rw [Lib.cell_of_heap this]; rfl
  have hSD : (Builtin.unsafeSliceData_ #[76] 107 #[.slice (some ⟨g, 0, none⟩) l.length cap]).run Tryz.prog W.drew = .ok (.pointer (some ⟨g, 0, none⟩)) W.drew :=
    Lib.run_unsafeSliceData_row _ _ _ _ _ _ (by omega)
  have hUS : (Builtin.unsafeString_ #[107, 3] 9 #[.pointer (some ⟨g, 0, none⟩), .int .i64 l.length]).run Tryz.prog W.drew = .ok (.string ⟨l.toArray⟩) (W.drew.freeze ⟨g, 0, none⟩ l.length) := by
    refine Lib.run_unsafeString_row W.drew 107 3 9 5 Tryz.underlying107 (by kernel_rfl) g cur.size (by have hg' : W.drew.heap[g]? = some (.cells cur 5 (0, 0)) := hg; simp [World.shape?, hg']) l h0 (by omega) (by unfold maxLen at hcm; omega) ?_
    intro j x hx
    exact hown.cells (g := g) rfl j (.int .u8 x.toNat) (by simp [hx])
  clear hown hg hcs htake hbk
  go_enter Tryz.func49, Tryz.ntmps49
  go_wp2
  go_region
  all_goals (go_wp2; go_ret; exact ⟨rfl, Lib.below_freeze (Below.drew (Below.refl B W)) (p := ⟨g, 0, none⟩) hbg _⟩)
end Go.Proofs.YtnackmnoldkihaaGreatDoor
/-
  What is written, in plain words: a text and the here-documents that come.
-/
namespace Go.Proofs.YtnackmnoldkihaaGreatDoor
open Go.RowKit

/-- What has been written; the here-documents that come. -/
abbrev St := List UInt8 × List Rd
def lim : Nat := 1099511627776
def putS (s : St) (t : List UInt8) : St := (s.1 ++ t, s.2)
/-- A here-document, its tag behind it. -/
def docW (r : Rd) : List UInt8 := docL r.word ++ L r.tag ++ [10]
def lineS (s : St) : St := (s.1 ++ 10 :: s.2.flatMap docW, [])
/-- A text between single quotes. -/
def quoL (l : List UInt8) : List UInt8 := 39 :: ((l.flatMap fun c => if c = 39 then [39, 92, 39, 39] else [c]) ++ [39])
def paramS (ww : St → List Pt → St) (s : St) (p : Pt) : St :=
  bif (L p.op).isEmpty then putS s ([36, 123] ++ L p.text ++ [125]) else bif L p.op == [108, 101, 110] then putS s ([36, 123, 35] ++ L p.text ++ [125]) else putS (ww (putS s ([36, 123] ++ L p.text ++ L p.op)) p.word) [125]
def coreS (ww : St → List Pt → St) (wl : St → List Nd → St) (s : St) (p : Pt) : St :=
  bif p.kind == 2 then paramS ww s p else bif p.kind == 3 then ((wl (s.1 ++ [36, 40, 10], []) p.body).1 ++ [41], s.2) else putS s ([36, 40, 40] ++ L p.text ++ [41, 41])
def partS (ww : St → List Pt → St) (wl : St → List Nd → St) (s : St) (p : Pt) : St :=
  bif p.kind == 1 then putS s (bif p.quoted then quoL (L p.text) else L p.text) else bif p.quoted then putS (coreS ww wl (putS s [34]) p) [34] else coreS ww wl s p
def nextS (s : St) (blank : Bool) : St := bif blank then putS s [32] else s
/-- A number of one digit. -/
def fdL (n : Int) : List UInt8 := [UInt8.ofNat (48 + n.toNat)]
def redirS (wd : St → List Pt → St) (s : St) (r : Rd) : St :=
  bif L r.op == [60, 60] then ((putS (putS s (fdL r.fd ++ L r.op)) (bif litrB r.word then 39 :: (L r.tag ++ [39]) else L r.tag)).1, s.2 ++ [r]) else wd (putS s (fdL r.fd ++ L r.op)) r.word
def redirsS (wd : St → List Pt → St) : St → List Rd → Bool → St
  | s, [], _ => s
  | s, r :: l, blank => redirsS wd (redirS wd (nextS s blank) r) l true
def assignsS (wd : St → List Pt → St) : St → List As → Bool → St
  | s, [], _ => s
  | s, a :: l, blank => assignsS wd (wd (putS (nextS s blank) (L a.name ++ [61])) a.word) l true
def wordsS (wd : St → List Pt → St) : St → List (List Pt) → Bool → St
  | s, [], _ => s
  | s, y :: l, blank => wordsS wd (wd (nextS s blank) y) l true
def simpleS (wd : St → List Pt → St) (s : St) (x : Nd) : St :=
  redirsS wd (wordsS wd (assignsS wd s x.assigns false) x.words (!x.assigns.isEmpty)) x.redirs (!(x.assigns.isEmpty && x.words.isEmpty))
def blockS (ls : St → List Nd → St) (s : St) (head : List UInt8) (l : List Nd) : St := ls (lineS (putS s head)) l
def oneS (nd : St → Nd → St) (s : St) (l : List Nd) : St := match l with | [] => s | x :: _ => nd s x
def joinS (nd : St → Nd → St) (sign : List UInt8) : St → List (List Nd) → Bool → St
  | s, [], _ => s
  | s, y :: l, more => joinS nd sign (oneS nd (bif more then putS s sign else s) y) l true
def barsS (wd : St → List Pt → St) : St → List (List Pt) → Bool → St
  | s, [], _ => s
  | s, y :: l, more => barsS wd (wd (bif more then putS s [32, 124, 32] else s) y) l true
def armS (wd : St → List Pt → St) (ls : St → List Nd → St) (s : St) (a : Ar) : St :=
  lineS (putS (blockS ls (barsS wd (putS s [40]) a.words false) [41] a.body) [59, 59])
def firstW (x : Nd) : List Pt := match x.words with | [] => [] | y :: _ => y
def listAt (x : Nd) (k : Nat) : List Nd := x.lists.getD k []
def caseS (wd : St → List Pt → St) (ls : St → List Nd → St) (s : St) (x : Nd) : St :=
  putS (x.arms.foldl (armS wd ls) (lineS (putS (wd (putS s [99, 97, 115, 101, 32]) (firstW x)) [32, 105, 110]))) [101, 115, 97, 99]
def compS (wd : St → List Pt → St) (ls : St → List Nd → St) (s : St) (x : Nd) : St :=
  bif x.kind == 6 then putS (bif decide (2 < x.lists.length) then blockS ls (blockS ls (blockS ls s [105, 102] (listAt x 0)) [116, 104, 101, 110] (listAt x 1)) [101, 108, 115, 101] (listAt x 2) else blockS ls (blockS ls s [105, 102] (listAt x 0)) [116, 104, 101, 110] (listAt x 1)) [102, 105] else
  bif x.kind == 7 then putS (blockS ls (blockS ls s [119, 104, 105, 108, 101] (listAt x 0)) [100, 111] (listAt x 1)) [100, 111, 110, 101] else
  bif x.kind == 8 then putS (blockS ls (blockS ls s [117, 110, 116, 105, 108] (listAt x 0)) [100, 111] (listAt x 1)) [100, 111, 110, 101] else
  bif x.kind == 9 then putS (blockS ls (lineS (wordsS wd (putS s ([102, 111, 114, 32] ++ L x.name ++ [32, 105, 110])) x.words true)) [100, 111] (listAt x 0)) [100, 111, 110, 101] else
  bif x.kind == 10 then caseS wd ls s x else
  bif x.kind == 12 then putS (blockS ls s [40] (listAt x 0)) [41] else putS (blockS ls s [123] (listAt x 0)) [125]
def bodyS (wd : St → List Pt → St) (ls : St → List Nd → St) (nd : St → Nd → St) (s : St) (x : Nd) : St :=
  bif x.kind == 2 then joinS nd [32, 124, 32] s x.lists false else
  bif x.kind == 3 then joinS nd [32, 38, 38, 32] s x.lists false else
  bif x.kind == 4 then joinS nd [32, 124, 124, 32] s x.lists false else
  bif x.kind == 5 then oneS nd (putS s [33, 32]) (listAt x 0) else
  bif x.kind == 11 then oneS nd (putS s (L x.name ++ [40, 41, 32])) (listAt x 0) else compS wd ls s x
def nodeS (wd : St → List Pt → St) (ls : St → List Nd → St) (nd : St → Nd → St) (s : St) (x : Nd) : St :=
  bif x.kind == 1 then simpleS wd s x else redirsS wd (bodyS wd ls nd s x) x.redirs true
/-- word, list, node, at every depth. -/
def levS : Nat → (St → List Pt → St) × (St → List Nd → St) × (St → Nd → St)
  | 0 => (fun s _ => s, fun s _ => s, nodeS (fun s _ => s) (fun s _ => s) fun s _ => s)
  | d + 1 => (fun s l => l.foldl (partS (levS d).1 (levS d).2.1) s, fun s l => l.foldl (fun s x => lineS ((levS d).2.2 s x)) s,
      nodeS (fun s l => l.foldl (partS (levS d).1 (levS d).2.1) s) (fun s l => l.foldl (fun s x => lineS ((levS d).2.2 s x)) s) (levS d).2.2)
def showL (d : Nat) (l : List Nd) : List UInt8 := ((levS d).2.1 ([], []) l).1

/-! ### what a walk wants of a command -/
def partF (fw : List Pt → Bool) (fl : List Nd → Bool) (p : Pt) : Bool := fw p.word && fl p.body
def redirF (fw : List Pt → Bool) (r : Rd) : Bool := (decide (0 ≤ r.fd) && decide (r.fd ≤ 9)) && fw r.word
def shapeF (x : Nd) : Bool :=
  bif x.kind == 1 then true else bif (x.kind == 2 || x.kind == 3) || x.kind == 4 then x.lists.all (fun l => !l.isEmpty) else bif x.kind == 5 || x.kind == 11 then (match x.lists with | [] => false | y :: _ => !y.isEmpty) else
  bif x.kind == 6 || (x.kind == 7 || x.kind == 8) then decide (2 ≤ x.lists.length) else bif x.kind == 10 then !x.words.isEmpty else decide (1 ≤ x.lists.length)
def nodeF (fw : List Pt → Bool) (fl : List Nd → Bool) (fn : Nd → Bool) (x : Nd) : Bool :=
  shapeF x && (x.assigns.all (fun a => fw a.word) && (x.words.all fw && (x.redirs.all (redirF fw) && (x.lists.all fl && (x.lists.all (fun l => l.all fn) && x.arms.all (fun a => a.words.all fw && fl a.body))))))
def levF : Nat → (List Pt → Bool) × (List Nd → Bool) × (Nd → Bool)
  | 0 => (fun _ => true, fun _ => true, nodeF (fun _ => true) (fun _ => true) fun _ => true)
  | d + 1 => (fun l => l.all (partF (levF d).1 (levF d).2.1), fun l => l.all (levF d).2.2, nodeF (fun l => l.all (partF (levF d).1 (levF d).2.1)) (fun l => l.all (levF d).2.2) (levF d).2.2)

/-! ### it only grows -/
def Grow2 {α : Type} (f : St → α → St) : Prop := ∀ s x, s.1.length ≤ (f s x).1.length
theorem putS_grow (s : St) (t : List UInt8) : s.1.length ≤ (putS s t).1.length := by simp [putS]
theorem lineS_grow (s : St) : s.1.length ≤ (lineS s).1.length := by simp [lineS]
theorem fold_grow {α : Type} {f : St → α → St} (h : Grow2 f) (l : List α) (s : St) : s.1.length ≤ (l.foldl f s).1.length := by
  induction l generalizing s with
  | nil => exact Nat.le_refl _
  | cons x l ih => exact Nat.le_trans (h s x) (ih (f s x))
theorem nextS_grow (s : St) (b : Bool) : s.1.length ≤ (nextS s b).1.length := by cases b <;> simp [nextS, putS]
section
variable {wd : St → List Pt → St} {ls : St → List Nd → St} {nd : St → Nd → St} (hw : Grow2 wd) (hl : Grow2 ls) (hn : Grow2 nd)
include hw
theorem paramS_grow : Grow2 (paramS wd) := fun s p => by
  rw [paramS]
  cases (L p.op).isEmpty
  · cases L p.op == [108, 101, 110]
    · exact Nat.le_trans (putS_grow s _) (Nat.le_trans (hw _ _) (putS_grow _ _))
    · exact putS_grow s _
  · exact putS_grow s _
theorem redirS_grow : Grow2 (redirS wd) := fun s r => by
  rw [redirS]
  cases L r.op == [60, 60]
  · exact Nat.le_trans (putS_grow s _) (hw _ _)
  · exact Nat.le_trans (putS_grow s _) (putS_grow _ _)
theorem redirsS_grow (l : List Rd) : ∀ (s : St) (b : Bool), s.1.length ≤ (redirsS wd s l b).1.length := by
  induction l with
  | nil => exact fun s b => Nat.le_refl _
  | cons r l ih => exact fun s b => Nat.le_trans (nextS_grow s b) (Nat.le_trans (redirS_grow hw _ r) (ih _ _))
theorem assignsS_grow (l : List As) : ∀ (s : St) (b : Bool), s.1.length ≤ (assignsS wd s l b).1.length := by
  induction l with
  | nil => exact fun s b => Nat.le_refl _
  | cons r l ih => exact fun s b => Nat.le_trans (nextS_grow s b) (Nat.le_trans (putS_grow _ _) (Nat.le_trans (hw _ _) (ih _ _)))
theorem wordsS_grow (l : List (List Pt)) : ∀ (s : St) (b : Bool), s.1.length ≤ (wordsS wd s l b).1.length := by
  induction l with
  | nil => exact fun s b => Nat.le_refl _
  | cons r l ih => exact fun s b => Nat.le_trans (nextS_grow s b) (Nat.le_trans (hw _ _) (ih _ _))
theorem barsS_grow (l : List (List Pt)) : ∀ (s : St) (b : Bool), s.1.length ≤ (barsS wd s l b).1.length := by
  induction l with
  | nil => exact fun s b => Nat.le_refl _
  | cons r l ih => exact fun s b => Nat.le_trans (by cases b <;> simp [putS]) (Nat.le_trans (hw _ _) (ih _ _))
theorem simpleS_grow : Grow2 (simpleS wd) := fun s x =>
  Nat.le_trans (assignsS_grow hw _ _ _) (Nat.le_trans (wordsS_grow hw _ _ _) (redirsS_grow hw _ _ _))
omit hw
include hl
theorem blockS_grow (head : List UInt8) : ∀ s l, s.1.length ≤ (blockS ls s head l).1.length := fun s l => Nat.le_trans (putS_grow s head) (Nat.le_trans (lineS_grow _) (hl _ _))
include hw
theorem coreS_grow : Grow2 (coreS wd ls) := fun s p => by
  rw [coreS]
  cases p.kind == 2
  · cases p.kind == 3
    · exact putS_grow s _
    · refine Nat.le_trans ?_ (Nat.le_trans (hl (s.1 ++ [36, 40, 10], []) p.body) ?_) <;> simp
  · exact paramS_grow hw s p
theorem partS_grow : Grow2 (partS wd ls) := fun s p => by
  rw [partS]
  cases p.kind == 1
  · cases p.quoted
    · exact coreS_grow hw hl s p
    · exact Nat.le_trans (putS_grow s _) (Nat.le_trans (coreS_grow hw hl _ p) (putS_grow _ _))
  · exact putS_grow s _
theorem armS_grow : Grow2 (armS wd ls) := fun s a =>
  Nat.le_trans (putS_grow s _) (Nat.le_trans (barsS_grow hw _ _ _) (Nat.le_trans (blockS_grow hl _ _ _) (Nat.le_trans (putS_grow _ _) (lineS_grow _))))
theorem caseS_grow : Grow2 (caseS wd ls) := fun s x =>
  Nat.le_trans (putS_grow s _) (Nat.le_trans (hw _ _) (Nat.le_trans (putS_grow _ _) (Nat.le_trans (lineS_grow _) (Nat.le_trans (fold_grow (armS_grow hw hl) _ _) (putS_grow _ _)))))
theorem compS_grow : Grow2 (compS wd ls) := fun s x => by
  have b := fun h => blockS_grow (ls := ls) hl h
  rw [compS]
  cases x.kind == 6
  · cases x.kind == 7
    · cases x.kind == 8
      · cases x.kind == 9
        · cases x.kind == 10
          · cases x.kind == 12 <;> exact Nat.le_trans (b _ _ _) (putS_grow _ _)
          · exact caseS_grow hw hl s x
        · exact Nat.le_trans (putS_grow s _) (Nat.le_trans (wordsS_grow hw _ _ _) (Nat.le_trans (lineS_grow _) (Nat.le_trans (b _ _ _) (putS_grow _ _))))
      · exact Nat.le_trans (b _ _ _) (Nat.le_trans (b _ _ _) (putS_grow _ _))
    · exact Nat.le_trans (b _ _ _) (Nat.le_trans (b _ _ _) (putS_grow _ _))
  · cases decide (2 < x.lists.length)
    · exact Nat.le_trans (b _ _ _) (Nat.le_trans (b _ _ _) (putS_grow _ _))
    · exact Nat.le_trans (b _ _ _) (Nat.le_trans (b _ _ _) (Nat.le_trans (b _ _ _) (putS_grow _ _)))
omit hw hl
include hn
theorem oneS_grow : Grow2 (oneS nd) := fun s l => by
  cases l with
  | nil => exact Nat.le_refl _
  | cons x r => exact hn s x
theorem joinS_grow (sign : List UInt8) (l : List (List Nd)) : ∀ (s : St) (b : Bool), s.1.length ≤ (joinS nd sign s l b).1.length := by
  induction l with
  | nil => exact fun s b => Nat.le_refl _
  | cons r l ih => exact fun s b => Nat.le_trans (by cases b <;> simp [putS]) (Nat.le_trans (oneS_grow hn _ _) (ih _ _))
include hw hl
theorem bodyS_grow : Grow2 (bodyS wd ls nd) := fun s x => by
  rw [bodyS]
  cases x.kind == 2
  · cases x.kind == 3
    · cases x.kind == 4
      · cases x.kind == 5
        · cases x.kind == 11
          · exact compS_grow hw hl s x
          · exact Nat.le_trans (putS_grow s _) (oneS_grow hn _ _)
        · exact Nat.le_trans (putS_grow s _) (oneS_grow hn _ _)
      · exact joinS_grow hn _ _ _ _
    · exact joinS_grow hn _ _ _ _
  · exact joinS_grow hn _ _ _ _
theorem nodeS_grow : Grow2 (nodeS wd ls nd) := fun s x => by
  rw [nodeS]
  cases x.kind == 1
  · exact Nat.le_trans (bodyS_grow hw hl hn s x) (redirsS_grow hw _ _ _)
  · exact simpleS_grow hw s x
end
theorem levS_grow : ∀ d, Grow2 (levS d).1 ∧ Grow2 (levS d).2.1 ∧ Grow2 (levS d).2.2
  | 0 => ⟨fun _ _ => Nat.le_refl _, fun _ _ => Nat.le_refl _, nodeS_grow (fun _ _ => Nat.le_refl _) (fun _ _ => Nat.le_refl _) fun _ _ => Nat.le_refl _⟩
  | d + 1 => by
    obtain ⟨h1, h2, h3⟩ := levS_grow d
    have hw : Grow2 (levS (d + 1)).1 := fun s l => fold_grow (partS_grow h1 h2) l s
    have hl : Grow2 (levS (d + 1)).2.1 := fun s l => fold_grow (fun s x => Nat.le_trans (h3 s x) (lineS_grow _)) l s
    exact ⟨hw, hl, nodeS_grow hw hl h3⟩
end Go.Proofs.YtnackmnoldkihaaGreatDoor
/-
  The writer, step by step: small laws; the walks of doc and line.
-/
namespace Go.Proofs.YtnackmnoldkihaaGreatDoor
open Go.RowKit

/-- The library's one variable holds some number. -/
def Hd (W : World) (B : Nat) : Prop := (∃ c, W.cell? ⟨0, 0, none⟩ = some (.int .i64 c)) ∧ 0 < B
theorem Hd.below {W W' : World} {B : Nat} (h : Hd W B) (hb : Below B W W') : Hd W' B := by
  obtain ⟨⟨c, hc⟩, h0⟩ := h
  exact ⟨⟨c, (hb.cell (p := ⟨0, 0, none⟩) h0).trans hc⟩, h0⟩
def stOf (out : List UInt8) (ds : List DocV) : St := (out, ds.map (·.1))
/-- What a call of the writer leaves. -/
def Shown (W : World) (B b : Nat) (dv : Value) (s : St) (W' : World) : Prop := ∃ dv' ds', ds'.map (·.1) = s.2 ∧ Wr W' B b dv' s.1 ds' ∧ Fr W W' B b dv dv'
section
variable {W V X W' : World} {B b : Nat} {dv dv1 : Value} {out : List UInt8} {ds : List DocV}
theorem Shown.of (hw : Wr W' B b dv1 out ds) (hf : Fr W W' B b dv dv1) : Shown W B b dv (stOf out ds) W' := ⟨dv1, ds, rfl, hw, hf⟩
theorem Shown.after {s : St} (hf : Fr W V B b dv dv1) (h : Shown V B b dv1 s W') : Shown W B b dv s W' := by
  obtain ⟨dv2, ds2, h1, h2, h3⟩ := h
  exact ⟨dv2, ds2, h1, h2, hf.trans h3⟩
theorem Fr.later (hf : Fr W V B b dv dv1) (hb : Below V.heap.size V X) (hB : B ≤ V.heap.size) : Fr W X B b dv dv1 := hf.trans (Fr.of_below hb hB)
/-- A string more. -/
theorem Wr.str (h : Wr V B b dv1 out ds) (hf : Fr W V B b dv dv1) (hb : Below V.heap.size V X) (s : ByteArray) (hlen : out.length + s.size ≤ lim) :
    Calls Tryz.prog 78 #[.pointer (some ⟨b, 0, none⟩), .string s] X fun e w' => e = .returned (.tuple #[.int .i64 s.size, .nilIface]) ∧ Wr w' B b dv1 (out ++ L s) ds ∧ Fr W w' B b dv dv1 :=
  (writeS (h.below hb) s (by unfold lim at hlen; omega)).mono fun e w' ⟨h1, h2, h3⟩ => ⟨h1, h2, (hf.later hb h.le).trans h3⟩
/-- A byte more. -/
theorem Wr.byte (h : Wr V B b dv1 out ds) (hf : Fr W V B b dv dv1) (hb : Below V.heap.size V X) (c : UInt8) (hlen : out.length + 1 ≤ lim) :
    Calls Tryz.prog 81 #[.pointer (some ⟨b, 0, none⟩), .int .u8 ((c.toNat : Nat) : Int)] X fun e w' => e = .returned .nilIface ∧ Wr w' B b dv1 (out ++ [c]) ds ∧ Fr W w' B b dv dv1 :=
  (writeB (h.below hb) c (by unfold lim at hlen; omega)).mono fun e w' ⟨h1, h2, h3⟩ => ⟨h1, h2, (hf.later hb h.le).trans h3⟩
theorem Wr.block (h : Wr W B b dv out ds) : ∃ v p, W.heap[b]? = some (.cells #[p, v, dv] 84 (0, 0)) := by
  obtain ⟨_, ⟨v, p, h1, _⟩, _⟩ := h
  exact ⟨v, p, h1⟩
theorem Wr.docs (h : Wr W B b dv out ds) : W.cell? ⟨b, 2, none⟩ = some dv ∧ W.frozen? ⟨b, 2, none⟩ = false := by
  obtain ⟨v, p, h1⟩ := h.block
  exact ⟨by rw [Lib.cell_of_heap h1]; rfl, Lib.frozen_of_heap h1 2⟩
theorem Wr.shape (h : Wr W B b dv out ds) : ∃ a cap, dv = .slice a ds.length cap := own_shape h.2.2.1
theorem Wr.far (h : Wr W B b dv out ds) : ∀ k, dv.ownBlock = some k → B ≤ k ∧ k < W.heap.size := h.2.2.1.lt
theorem Wr.ne (h : Wr W B b dv out ds) : dv.ownBlock ≠ some b := by
  obtain ⟨v, p, h1⟩ := h.block
  exact row_ne h.2.2.1 h1 (by decide)
/-- A here-document that comes. -/
theorem Wr.doc_at (h : Wr W B b dv out ds) {k : Nat} {r : DocV} (hr : ds[k]? = some r) : ∃ g o a c d, (∀ w' : World, (Instr.indexAt 32 dv (.int .i64 (k : Int))).run Tryz.prog w' = .ok (.pointer (some ⟨g, o, none⟩)) w') ∧ g < W.heap.size ∧
    W.cell? ⟨g, o, none⟩ = some (.int .i64 r.1.fd) ∧ W.cell? ⟨g, o + 1, none⟩ = some (.string r.1.op) ∧ W.cell? ⟨g, o + 2, none⟩ = some (.string r.1.tag) ∧ W.cell? ⟨g, o + 3, none⟩ = some (.slice a r.1.word.length c) ∧ RdC W B d r.1 [.int .i64 r.1.fd, .string r.1.op, .string r.1.tag, .slice a r.1.word.length c] := by
  have hk := (List.getElem?_eq_some_iff.1 hr).1
  obtain ⟨d, hd⟩ := h.2.2.2.1 r (List.mem_of_getElem? hr)
  obtain ⟨a, c, e, _⟩ := hd.open
  obtain ⟨a', cap, g, off, hv, _, _, hi, hlt, hc⟩ := (Sl.of_own h.2.2.1).open (P := Tryz.prog) 32 31 Tryz.underlying32 (by kernel_rfl)
  have cell : ∀ j, j < 4 → W.cell? ⟨g, off + k * 4 + j, none⟩ = (docCells r)[j]? := fun j hj => by
    rw [Nat.add_assoc, hc (k * 4 + j) (by omega)]
    exact flat_get docCells 4 (fun _ => rfl) ds k r hr j hj
  rw [e] at cell hd
  refine ⟨g, off + k * 4, a, c, d, fun w' => by rw [hv]; exact hi k w' hk, by omega, cell 0 (by omega), cell 1 (by omega), cell 2 (by omega), cell 3 (by omega), hd⟩
/-- Other here-documents are laid into it. -/
theorem Wr.set (h : Wr W B b dv out ds) {dv' : Value} {ds' : List DocV} (hown : W.ownsRow B 31 4 dv' ds'.length (ds'.flatMap docCells)) (hdat : ∀ r ∈ ds', ∃ d, RdC W B d r.1 (docCells r)) (hds : ds'.length ≤ out.length) : Wr (W.setCell ⟨b, 2, none⟩ dv') B b dv' out ds' := by
  obtain ⟨hB, ⟨v, p, h1, h2, h3⟩, h4, h5⟩ := h
  refine ⟨hB, ⟨v, p, heap_put h1 2 _, h2, row_set h3 (row_ne h3 h1 (by decide)) 2 _⟩, row_set hown (row_ne hown h1 (by decide)) 2 _, fun r hr => ?_, hds⟩
  obtain ⟨d, hd⟩ := hdat r hr
  exact ⟨d, hd.keep fun _ _ _ _ hs => hs.below ((Below.refl B W).setCell (p := ⟨b, 2, none⟩) hB _)⟩
theorem Fr.set (hB : B ≤ b) (dv dv' : Value) (hd : ∀ k, dv'.ownBlock = some k → dv.ownBlock = some k ∨ W.heap.size ≤ k) : Fr W (W.setCell ⟨b, 2, none⟩ dv') B b dv dv' :=
  ⟨(Below.refl B W).setCell (p := ⟨b, 2, none⟩) hB _, fun k o ho hb _ _ => (Below.heap_setCell W ⟨b, 2, none⟩ dv' k hb).trans ho, hd⟩
theorem Wr.clear (h : Wr W B b dv out ds) : Wr (W.setCell ⟨b, 2, none⟩ (.slice none 0 0)) B b (.slice none 0 0) out [] ∧ Fr W (W.setCell ⟨b, 2, none⟩ (.slice none 0 0)) B b dv (.slice none 0 0) :=
  ⟨h.set (World.ownsRow_nil _ _ _ _) (by simp) (Nat.zero_le _), Fr.set h.1 dv _ (by simp [Value.ownBlock])⟩
end

set_option maxHeartbeats 1000000 in
set_option maxRecDepth 100000 in
theorem wdoc_any {W : World} {B b : Nat} {dv : Value} {out : List UInt8} {ds : List DocV} (h : Wr W B b dv out ds) (r : Rd) (d : Nat) (c : List Value) (hr : RdC W B d r c) (hlen : (out ++ docW r).length ≤ lim) :
    Calls Tryz.prog 82 #[.pointer (some ⟨b, 0, none⟩), .agg c.toArray] W fun e w' => e = .returned (.tuple #[]) ∧ Wr w' B b dv (out ++ docW r) ds ∧ Fr W w' B b dv dv := by
  have HR := Lib.hid hr
  have HW := Lib.hid h
  have hle := h.le
  obtain ⟨a1, c1, rfl, ⟨h1, h2⟩, hsum, hlw, hw⟩ := hr.open
  have hdz : (docL r.word).length ≤ 8388608 := by have := flat_docP (litrB r.word) r.word; rw [docL]; omega
  obtain ⟨s, hs⟩ : ∃ s, S (docL r.word) = s := ⟨_, rfl⟩
  have hsz : s.size ≤ 8388608 := by rw [← hs, S_size]; exact hdz
  have HS : Hid (docL r.word = L s) := Lib.hid (by rw [← hs, L_S])
  have CD : Hid (∀ V, Below W.heap.size W V → Calls Tryz.prog 12 #[.agg #[.int .i64 r.fd, .string r.op, .string r.tag, .slice a1 r.word.length c1]] V fun e w' => e = .returned (.string s) ∧ Below V.heap.size V w') := Lib.hid fun V hV => by
    rw [← hs]; exact doc_any r V d _ (HR.out.keep fun _ _ _ _ hh => (hh.below (hV.mono hle)).mono (Nat.le_trans hle hV.size))
  have HL : Hid (out.length + (s.size + r.tag.size + 1) ≤ lim) := Lib.hid (by
    rw [docW, HS.out, List.length_append, List.length_append, List.length_append, L_size, L_size] at hlen
    simpa [Nat.add_assoc] using hlen)
  clear hs hdz hw hsum hlw hr h hlen
  go_enter Tryz.func82, Tryz.ntmps82
  go_wp2_with fail
  obtain ⟨X, hX⟩ : ∃ X, X = W.alloc (.cells #[.int .i64 r.fd, .string r.op, .string r.tag, .slice a1 r.word.length c1] 31) := ⟨_, rfl⟩
  have HBX : Hid (Below W.heap.size W X) := Lib.hid (by rw [hX]; exact (Below.refl _ _).alloc (Nat.le_refl _) _)
  have HXB : Hid (Blk X W.heap.size 31 #[.int .i64 r.fd, .string r.op, .string r.tag, .slice a1 r.word.length c1]) := Lib.hid (by rw [hX]; exact Blk.new _ _ _)
  have x0 := HXB.out.cell 0
  have x1 := HXB.out.cell 1
  have x2 := HXB.out.cell 2
  have x3 := HXB.out.cell 3
  simp at x0 x1 x2 x3
  have hgX : W.heap.size < X.heap.size := by rw [hX]; simp
  rw [← hX]
  clear hX
  have CD2 : Hid (∀ V, Below X.heap.size X V → Calls Tryz.prog 12 #[.agg #[.int .i64 r.fd, .string r.op, .string r.tag, .slice a1 r.word.length c1]] V fun e w' => e = .returned (.string s) ∧ Below X.heap.size X w') := Lib.hid fun V hV => (CD.out V (since hV HBX.out)).mono fun e w' h => ⟨h.1, hV.trans (h.2.mono hV.size)⟩
  have HWX := Lib.hid (HW.out.below HBX.out)
  have CW : Hid (∀ V (u : ByteArray), Below X.heap.size X V → out.length + u.size ≤ lim → Calls Tryz.prog 78 #[.pointer (some ⟨b, 0, none⟩), .string u] V fun e w' => e = .returned (.tuple #[.int .i64 u.size, .nilIface]) ∧ Wr w' B b dv (out ++ L u) ds ∧ Fr X w' B b dv dv ∧ Blk w' W.heap.size 31 #[.int .i64 r.fd, .string r.op, .string r.tag, .slice a1 r.word.length c1]) := Lib.hid fun V u hV hu => (HWX.out.str (Fr.refl X B b dv) hV u hu).mono fun e w' ⟨h1, h2, h3⟩ => ⟨h1, h2, h3, h3.blk HXB.out (by have := HW.out.lt; omega) (fun e => by have := HW.out.far _ e; omega) (by decide)⟩
  have k7 : ∀ V : World, (Op.stringOp .add s r.tag).run Tryz.prog V = .ok (.string (s ++ r.tag)) V := fun V => run_string_add_sum V _ _ (by omega)
  have k8 : ∀ V : World, (Op.stringOp .add (s ++ r.tag) ⟨#[10]⟩).run Tryz.prog V = .ok (.string (s ++ r.tag ++ ⟨#[10]⟩)) V := fun V => run_string_add_sum V _ _ (by simp; omega)
  clear CD
  go_region_held3 (fun w' => w'.cell? ⟨W.heap.size, 0, none⟩ = some (.int .i64 r.fd) ∧ w'.cell? ⟨W.heap.size, 1, none⟩ = some (.string r.op) ∧ w'.cell? ⟨W.heap.size, 2, none⟩ = some (.string r.tag) ∧ w'.cell? ⟨W.heap.size, 3, none⟩ = some (.slice a1 r.word.length c1)) (go_keep)
    (first
      | (go_at_call 12; with_reducible refine (CD2.out _ (by repeat' (first | (with_reducible assumption) | (with_reducible exact Below.refl _ _) | (with_reducible refine below_drewN ?_ _) | (with_reducible refine below_bytes ?_ ?_ _) | (with_reducible refine Below.alloc ?_ ?_ _) | (with_reducible refine Below.drew ?_) | (with_reducible refine Below.setCell ?_ ?_ _) | go_size))).mono ?_; rintro e w1 ⟨rfl, hb1⟩; have d0 := (hb1.cell hgX).trans x0; have d1 := (hb1.cell hgX).trans x1; have d2 := (hb1.cell hgX).trans x2; have d3 := (hb1.cell hgX).trans x3)
      | (go_at_call 78; with_reducible refine (CW.out _ _ (by repeat' (first | (with_reducible assumption) | (with_reducible exact Below.refl _ _) | (with_reducible refine below_drewN ?_ _) | (with_reducible refine below_bytes ?_ ?_ _) | (with_reducible refine Below.alloc ?_ ?_ _) | (with_reducible refine Below.drew ?_) | (with_reducible refine Below.setCell ?_ ?_ _) | go_size)) ?_).mono ?_; (have := HL.out; simp; omega); rintro e w2 ⟨rfl, hw2, hf2, hk2⟩; have d0 := hk2.cell 0; have d1 := hk2.cell 1; have d2 := hk2.cell 2; have d3 := hk2.cell 3; simp at d0 d1 d2 d3))
  all_goals
    go_wp2_with fail
    go_end0
    have hdw : docW r = L (s ++ r.tag ++ ⟨#[10]⟩) := by rw [docW, HS.out, L_append, L_append]; rfl
    rw [hdw]
    exact ⟨rfl, hw2, (Fr.of_below HBX.out hle).trans hf2⟩

theorem docs_take {ds : List DocV} {k : Nat} {r : DocV} (h : ds[k]? = some r) : (ds.take (k + 1)).flatMap (fun r => docW r.1) = (ds.take k).flatMap (fun r => docW r.1) ++ docW r.1 := flat_snoc h
theorem flat_take_le {α β : Type} (f : α → List β) (l : List α) (k : Nat) : ((l.take k).flatMap f).length ≤ (l.flatMap f).length := by
  have : l.flatMap f = (l.take k).flatMap f ++ (l.drop k).flatMap f := by rw [← List.flatMap_append, List.take_append_drop]
  rw [this, List.length_append]; omega

set_option maxHeartbeats 1000000 in
set_option maxRecDepth 100000 in
theorem line_any {W : World} {B b : Nat} {dv : Value} {out : List UInt8} {ds : List DocV} (h : Wr W B b dv out ds) (hlen : (lineS (stOf out ds)).1.length ≤ lim) :
    Calls Tryz.prog 62 #[.pointer (some ⟨b, 0, none⟩)] W fun e w' => e = .returned (.tuple #[]) ∧ Shown W B b dv (lineS (stOf out ds)) w' := by
  have hfl : (stOf out ds).2.flatMap docW = ds.flatMap fun r => docW r.1 := by rw [stOf, List.flatMap_map]
  have HLS : Hid (lineS (stOf out ds) = (out ++ 10 :: ds.flatMap (fun r => docW r.1), [])) := Lib.hid (by rw [lineS, hfl]; rfl)
  have HLEN : Hid (∀ k, (out ++ 10 :: (ds.take k).flatMap (fun r => docW r.1)).length ≤ lim) := Lib.hid fun k => by
    have := flat_take_le (fun r : DocV => docW r.1) ds k
    rw [HLS.out] at hlen
    simp only [List.length_append, List.length_cons] at hlen ⊢
    omega
  obtain ⟨a, cap, rfl⟩ := h.shape
  obtain ⟨n, hn⟩ : ∃ n, ds.length = n := ⟨_, rfl⟩
  have hnm : n ≤ 9223372036854775807 := by have := (Sl.of_own h.2.2.1).len; unfold maxLen at this; omega
  rw [hn] at h ⊢
  have HN := Lib.hid hn
  have CB := Lib.hid (h.byte (Fr.refl W B b _) (Below.refl _ _) 10 (by have := HLEN.out 0; simpa using this))
  have hbW := h.lt
  have hBb := h.1
  have HFAR := Lib.hid h.far
  clear h hn hfl hlen
  go_enter Tryz.func62, Tryz.ntmps62
  go_wp2_with fail
  refine CB.out.mono ?_
  rintro e w1 ⟨rfl, hw1, hf1⟩
  have HW1 := Lib.hid hw1
  have HF1 := Lib.hid hf1
  obtain ⟨c2, f2⟩ := hw1.docs
  clear hw1 hf1
  go_wp2_with fail
  go_loopw [13] (fun i V => ∃ k : Nat, k ≤ n ∧ i = .int .i64 k ∧ Wr V B b (.slice a n cap) (out ++ 10 :: (ds.take k).flatMap (fun r => docW r.1)) ds ∧ Fr W V B b (.slice a n cap) (.slice a n cap)) (fun i _ => n - (intOf i).toNat)
  case atStart => exact ⟨0, Nat.zero_le _, rfl, by simpa using HW1.out, HF1.out⟩
  case round =>
    obtain ⟨k, hk, rfl, hw, hf⟩ := hrel
    have HW := Lib.hid hw
    have HF := Lib.hid hf
    obtain ⟨c2, f2⟩ := hw.docs
    clear hw hf
    by_cases hlt : k < n
    · obtain ⟨r, hr⟩ : ∃ r, ds[k]? = .some r := ⟨_, List.getElem?_eq_getElem (by rw [HN.out]; exact hlt)⟩
      obtain ⟨g, o, a1, c1, d, hi, hgW, e0, e1, e2, e3, hrd⟩ := HW.out.doc_at hr
      have HTK := Lib.hid (docs_take hr)
      have CD : Hid (∀ V, Below wr.heap.size wr V → Calls Tryz.prog 82 #[.pointer (some ⟨b, 0, none⟩), .agg #[.int .i64 r.1.fd, .string r.1.op, .string r.1.tag, .slice a1 r.1.word.length c1]] V fun e w' => e = .returned (.tuple #[]) ∧ Wr w' B b (.slice a n cap) (out ++ 10 :: (ds.take k).flatMap (fun r => docW r.1) ++ docW r.1) ds ∧ Fr W w' B b (.slice a n cap) (.slice a n cap)) := Lib.hid fun V hV =>
        (wdoc_any (HW.out.below hV) r.1 d _ (hrd.keep fun _ _ _ _ hs => hs.below (hV.mono HW.out.le)) (by have := HLEN.out (k + 1); rw [HTK.out] at this; simpa using this)).mono fun e w' ⟨h1, h2, h3⟩ => ⟨h1, h2, (HF.out.later hV HW.out.le).trans h3⟩
      clear hr hrd
      go_wp2_with fail
      refine (CD.out _ (by repeat' (first | (with_reducible assumption) | (with_reducible exact Below.refl _ _) | (with_reducible refine below_drewN ?_ _) | (with_reducible refine below_bytes ?_ ?_ _) | (with_reducible refine Below.alloc ?_ ?_ _) | (with_reducible refine Below.drew ?_) | (with_reducible refine Below.setCell ?_ ?_ _) | go_size))).mono ?_
      rintro e w2 ⟨rfl, hw2, hf2⟩
      have HW2 := Lib.hid hw2
      have HF2 := Lib.hid hf2
      clear hw2 hf2
      go_wp2_with fail
      go_roundw
      case rel => exact ⟨k + 1, by omega, by go_num, by rw [HTK.out]; simpa using HW2.out, HF2.out⟩
      case measure => simp [intOf]; omega
    · have HTK : Hid (ds.take k = ds) := Lib.hid (List.take_of_length_le (by rw [HN.out]; omega))
      go_wp2_with fail
      go_end0
      have hc := HW.out.clear
      refine ⟨rfl, .slice none 0 0, [], by rw [HLS.out]; rfl, ?_, HF.out.trans hc.2⟩
      rw [HLS.out]
      have := hc.1
      rwa [HTK.out] at this
end Go.Proofs.YtnackmnoldkihaaGreatDoor
/-
  The walks of the writer's word, list, param.
-/
namespace Go.Proofs.YtnackmnoldkihaaGreatDoor
open Go.RowKit

/-- The writer's word, list, node. -/
def WordW (d : Nat) (ww : St → List Pt → St) (fw : List Pt → Bool) : Prop := ∀ (W : World) (B b : Nat) (dv : Value) (out : List UInt8) (ds : List DocV) (l : List Pt) (v : Value), Hd W B → Wr W B b dv out ds → PtsIn W B d l v → fw l = true → (ww (stOf out ds) l).1.length ≤ lim →
  Calls Tryz.prog 101 #[.pointer (some ⟨b, 0, none⟩), v] W fun e w' => e = .returned (.tuple #[]) ∧ Shown W B b dv (ww (stOf out ds) l) w'
def ListW (d : Nat) (wl : St → List Nd → St) (fl : List Nd → Bool) : Prop := ∀ (W : World) (B b : Nat) (dv : Value) (out : List UInt8) (ds : List DocV) (l : List Nd) (v : Value), Hd W B → Wr W B b dv out ds → NdsIn W B d l v → fl l = true → (wl (stOf out ds) l).1.length ≤ lim →
  Calls Tryz.prog 48 #[.pointer (some ⟨b, 0, none⟩), v] W fun e w' => e = .returned (.tuple #[]) ∧ Shown W B b dv (wl (stOf out ds) l) w'
def NodeW (d : Nat) (wn : St → Nd → St) (fn : Nd → Bool) : Prop := ∀ (W : World) (B b : Nat) (dv : Value) (out : List UInt8) (ds : List DocV) (x : Nd) (c : List Value), Hd W B → Wr W B b dv out ds → NdC W B d x c → fn x = true → (wn (stOf out ds) x).1.length ≤ lim →
  Calls Tryz.prog 61 #[.pointer (some ⟨b, 0, none⟩), .agg c.toArray] W fun e w' => e = .returned (.tuple #[]) ∧ Shown W B b dv (wn (stOf out ds) x) w'
def PartW (d : Nat) (wp : St → Pt → St) (fp : Pt → Bool) : Prop := ∀ (W : World) (B b : Nat) (dv : Value) (out : List UInt8) (ds : List DocV) (x : Pt) (c : List Value), Hd W B → Wr W B b dv out ds → PtC W B d x c → fp x = true → (wp (stOf out ds) x).1.length ≤ lim →
  Calls Tryz.prog 113 #[.pointer (some ⟨b, 0, none⟩), .agg c.toArray] W fun e w' => e = .returned (.tuple #[]) ∧ Shown W B b dv (wp (stOf out ds) x) w'

theorem fold_take {α : Type} {f : St → α → St} {l : List α} {k : Nat} {x : α} (h : l[k]? = some x) (s : St) : (l.take (k + 1)).foldl f s = f ((l.take k).foldl f s) x := by
  rw [List.take_add_one, h, List.foldl_append]; rfl
theorem fold_take_le {α : Type} {f : St → α → St} (hg : Grow2 f) (l : List α) (s : St) (k : Nat) : ((l.take k).foldl f s).1.length ≤ (l.foldl f s).1.length := by
  have : l.foldl f s = (l.drop k).foldl f ((l.take k).foldl f s) := by rw [← List.foldl_append, List.take_append_drop]
  rw [this]
  exact fold_grow hg _ _
theorem shown_st {W W' : World} {B b : Nat} {dv : Value} {s : St} (h : Shown W B b dv s W') : ∃ dv' ds', Wr W' B b dv' s.1 ds' ∧ stOf s.1 ds' = s ∧ Fr W W' B b dv dv' := by
  obtain ⟨dv', ds', h1, h2, h3⟩ := h
  exact ⟨dv', ds', h2, by rw [stOf, h1], h3⟩

set_option maxHeartbeats 1000000 in
set_option maxRecDepth 100000 in
theorem wword_any (d : Nat) (wp : St → Pt → St) (fp : Pt → Bool) (hg : Grow2 wp) (hp : PartW d wp fp) : WordW (d + 1) (fun s l => l.foldl wp s) (fun l => l.all fp) := by
  intro W B b dv out ds l v hH h hl hf hlen
  rw [PtsIn.succ] at hl
  obtain ⟨a, cap, rfl, hz⟩ := hl.len
  obtain ⟨n, hn⟩ : ∃ n, l.length = n := ⟨_, rfl⟩
  rw [hn] at hl hz ⊢
  have HL := Lib.hid hl
  have HN := Lib.hid hn
  have HH := Lib.hid hH
  have HP := Lib.hid hp
  have HW := Lib.hid h
  have HFA := Lib.hid (List.all_eq_true.1 hf)
  have HLEN : Hid (∀ k, ((l.take k).foldl wp (stOf out ds)).1.length ≤ lim) := Lib.hid fun k => Nat.le_trans (fold_take_le hg l _ k) hlen
  clear hl hn hH hp h hf hlen
  go_enter Tryz.func101, Tryz.ntmps101
  go_wp2_with fail
  go_loopw [8] (fun i V => ∃ k : Nat, k ≤ n ∧ i = .int .i64 k ∧ Shown W B b dv ((l.take k).foldl wp (stOf out ds)) V) (fun i _ => n - (intOf i).toNat)
  case atStart => exact ⟨0, Nat.zero_le _, rfl, Shown.of HW.out (Fr.refl W B b dv)⟩
  case round =>
    obtain ⟨k, hk, rfl, hsh⟩ := hrel
    obtain ⟨dv1, ds1, hw1, hst, hf1⟩ := shown_st hsh
    have HW1 := Lib.hid hw1
    have HST := Lib.hid hst
    have HF1 := Lib.hid hf1
    have hB := hf1.low
    have hBW := HW.out.le
    clear hsh hw1 hst hf1
    by_cases hlt : k < n
    · obtain ⟨x, hx⟩ : ∃ x, l[k]? = .some x := ⟨_, List.getElem?_eq_getElem (by rw [HN.out]; exact hlt)⟩
      have hl1 := HL.out.imp (fun xs hs => hs.below hB) (F' := PtC wr B d) fun x _ c h => h.keep fun _ _ _ _ hs => hs.below hB
      obtain ⟨b1, o, c, hi, hbB, hce, hC, _⟩ := hl1.at 29 44 Tryz.underlying29 (by kernel_rfl) hx
      have HX := Lib.hid (fold_take (f := wp) hx (stOf out ds))
      have HC := Lib.hid hC
      have HFX : Hid (fp x = true) := Lib.hid (HFA.out x (List.mem_of_getElem? hx))
      obtain ⟨a1, c1, a2, c2, rfl, _⟩ := hC.open
      have CP : Hid (∀ V, Below wr.heap.size wr V → Calls Tryz.prog 113 #[.pointer (some ⟨b, 0, none⟩), .agg #[.int .i64 x.kind, .bool x.quoted, .string x.text, .string x.op, .slice a1 x.word.length c1, .slice a2 x.body.length c2]] V fun e w' => e = .returned (.tuple #[]) ∧ Shown W B b dv ((l.take (k + 1)).foldl wp (stOf out ds)) w') := Lib.hid fun V hV =>
        (HP.out V B b dv1 _ ds1 x _ (HH.out.below (hB.trans (hV.mono HW1.out.le))) (HW1.out.below hV) (HC.out.keep fun _ _ _ _ hs => hs.below (hV.mono HW1.out.le)) HFX.out (by rw [HST.out, ← HX.out]; exact HLEN.out (k + 1))).mono fun e w' ⟨h1, h2⟩ => ⟨h1, by rw [HX.out]; rw [HST.out] at h2; exact h2.after (HF1.out.later hV HW1.out.le)⟩
      have e0 := hce 0 _ rfl
      have e1 := hce 1 _ rfl
      have e2 := hce 2 _ rfl
      have e3 := hce 3 _ rfl
      have e4 := hce 4 _ rfl
      have e5 := hce 5 _ rfl
      have hbB' := Nat.lt_of_lt_of_le hbB HW1.out.le
      rw [Nat.add_zero] at e0
      clear hx hce hC hl1
      go_wp2_with fail
      refine (CP.out _ (by repeat' (first | (with_reducible assumption) | (with_reducible exact Below.refl _ _) | (with_reducible refine below_drewN ?_ _) | (with_reducible refine below_bytes ?_ ?_ _) | (with_reducible refine Below.alloc ?_ ?_ _) | (with_reducible refine Below.drew ?_) | (with_reducible refine Below.setCell ?_ ?_ _) | go_size))).mono ?_
      rintro e w1 ⟨rfl, hs1⟩
      have HS1 := Lib.hid hs1
      clear hs1
      go_wp2_with fail
      go_roundw
      case rel => exact ⟨k + 1, by omega, by go_num, HS1.out⟩
      case measure => simp [intOf]; omega
    · have HTK : Hid (l.take k = l) := Lib.hid (List.take_of_length_le (by rw [HN.out]; omega))
      rw [HTK.out] at HW1 HST
      go_wp2_with fail
      go_end0
      refine ⟨rfl, ?_⟩
      have := Shown.of HW1.out HF1.out
      rwa [HST.out] at this

set_option maxHeartbeats 1000000 in
set_option maxRecDepth 100000 in
theorem wlist_any (d : Nat) (wn : St → Nd → St) (fn : Nd → Bool) (hg : Grow2 wn) (hp : NodeW d wn fn) : ListW (d + 1) (fun s l => l.foldl (fun s x => lineS (wn s x)) s) (fun l => l.all fn) := by
  intro W B b dv out ds l v hH h hl hf hlen
  rw [NdsIn.succ] at hl
  obtain ⟨a, cap, rfl, hz⟩ := hl.len
  obtain ⟨n, hn⟩ : ∃ n, l.length = n := ⟨_, rfl⟩
  rw [hn] at hl hz ⊢
  obtain ⟨wp, hwp⟩ : ∃ wp : St → Nd → St, wp = fun s x => lineS (wn s x) := ⟨_, rfl⟩
  have hg2 : Grow2 wp := fun s x => by rw [hwp]; exact Nat.le_trans (hg s x) (lineS_grow _)
  rw [← hwp] at hlen ⊢
  have HL := Lib.hid hl
  have HN := Lib.hid hn
  have HH := Lib.hid hH
  have HP := Lib.hid hp
  have HW := Lib.hid h
  have HWP := Lib.hid hwp
  have HFA := Lib.hid (List.all_eq_true.1 hf)
  have HLEN : Hid (∀ k, ((l.take k).foldl wp (stOf out ds)).1.length ≤ lim) := Lib.hid fun k => Nat.le_trans (fold_take_le hg2 l _ k) hlen
  clear hl hn hH hp h hf hlen hwp hg2
  go_enter Tryz.func48, Tryz.ntmps48
  go_wp2_with fail
  go_loopw [8] (fun i V => ∃ k : Nat, k ≤ n ∧ i = .int .i64 k ∧ Shown W B b dv ((l.take k).foldl wp (stOf out ds)) V) (fun i _ => n - (intOf i).toNat)
  case atStart => exact ⟨0, Nat.zero_le _, rfl, Shown.of HW.out (Fr.refl W B b dv)⟩
  case round =>
    obtain ⟨k, hk, rfl, hsh⟩ := hrel
    obtain ⟨dv1, ds1, hw1, hst, hf1⟩ := shown_st hsh
    have HW1 := Lib.hid hw1
    have HST := Lib.hid hst
    have HF1 := Lib.hid hf1
    have hB := hf1.low
    have hBW := HW.out.le
    clear hsh hw1 hst hf1
    by_cases hlt : k < n
    · obtain ⟨x, hx⟩ : ∃ x, l[k]? = .some x := ⟨_, List.getElem?_eq_getElem (by rw [HN.out]; exact hlt)⟩
      have hl1 := HL.out.imp (fun xs hs => hs.below hB) (F' := NdC wr B d) fun x _ c h => h.keep fun _ _ _ _ hs => hs.below hB
      obtain ⟨b1, o, c, hi, hbB, hce, hC, _⟩ := hl1.at 22 38 Tryz.underlying22 (by kernel_rfl) hx
      have HX : Hid ((l.take (k + 1)).foldl wp (stOf out ds) = lineS (wn ((l.take k).foldl wp (stOf out ds)) x)) := Lib.hid (by rw [fold_take hx, HWP.out])
      have HLE := Lib.hid (HLEN.out (k + 1))
      rw [HX.out] at HLE
      have HC := Lib.hid hC
      have HFX : Hid (fn x = true) := Lib.hid (HFA.out x (List.mem_of_getElem? hx))
      obtain ⟨a1, c1, a2, c2, a3, c3, a4, c4, a5, c5, rfl, _⟩ := hC.open
      have CP : Hid (∀ V, Below wr.heap.size wr V → Calls Tryz.prog 61 #[.pointer (some ⟨b, 0, none⟩), .agg #[.int .i64 x.kind, .string x.name, .slice a1 x.assigns.length c1, .slice a2 x.words.length c2, .slice a3 x.redirs.length c3, .slice a4 x.lists.length c4, .slice a5 x.arms.length c5]] V fun e w' => e = .returned (.tuple #[]) ∧ Shown W B b dv (wn ((l.take k).foldl wp (stOf out ds)) x) w') := Lib.hid fun V hV =>
        (HP.out V B b dv1 _ ds1 x _ (HH.out.below (hB.trans (hV.mono HW1.out.le))) (HW1.out.below hV) (HC.out.keep fun _ _ _ _ hs => hs.below (hV.mono HW1.out.le)) HFX.out (by rw [HST.out]; exact Nat.le_trans (lineS_grow _) HLE.out)).mono fun e w' ⟨h1, h2⟩ => ⟨h1, by rw [HST.out] at h2; exact h2.after (HF1.out.later hV HW1.out.le)⟩
      have e0 := hce 0 _ rfl
      have e1 := hce 1 _ rfl
      have e2 := hce 2 _ rfl
      have e3 := hce 3 _ rfl
      have e4 := hce 4 _ rfl
      have e5 := hce 5 _ rfl
      have e6 := hce 6 _ rfl
      have hbB' := Nat.lt_of_lt_of_le hbB HW1.out.le
      rw [Nat.add_zero] at e0
      clear hx hce hC hl1
      go_wp2_with fail
      refine (CP.out _ (by repeat' (first | (with_reducible assumption) | (with_reducible exact Below.refl _ _) | (with_reducible refine below_drewN ?_ _) | (with_reducible refine below_bytes ?_ ?_ _) | (with_reducible refine Below.alloc ?_ ?_ _) | (with_reducible refine Below.drew ?_) | (with_reducible refine Below.setCell ?_ ?_ _) | go_size))).mono ?_
      rintro e w1 ⟨rfl, hs1⟩
      obtain ⟨dv2, ds2, hw2, hst2, hf2⟩ := shown_st hs1
      have CL : Hid (Calls Tryz.prog 62 #[.pointer (some ⟨b, 0, none⟩)] w1 fun e w' => e = .returned (.tuple #[]) ∧ Shown W B b dv ((l.take (k + 1)).foldl wp (stOf out ds)) w') := Lib.hid
        ((line_any hw2 (by rw [hst2]; exact HLE.out)).mono fun e w' ⟨h1, h2⟩ => ⟨h1, by rw [HX.out]; rw [hst2] at h2; exact h2.after hf2⟩)
      clear hs1 hw2 hst2 hf2
      go_wp2_with fail
      refine CL.out.mono ?_
      rintro e w2 ⟨rfl, hs2⟩
      have HS2 := Lib.hid hs2
      clear hs2
      go_wp2_with fail
      go_roundw
      case rel => exact ⟨k + 1, by omega, by go_num, HS2.out⟩
      case measure => simp [intOf]; omega
    · have HTK : Hid (l.take k = l) := Lib.hid (List.take_of_length_le (by rw [HN.out]; omega))
      rw [HTK.out] at HW1 HST
      go_wp2_with fail
      go_end0
      refine ⟨rfl, ?_⟩
      have := Shown.of HW1.out HF1.out
      rwa [HST.out] at this
end Go.Proofs.YtnackmnoldkihaaGreatDoor
namespace Go.Proofs.YtnackmnoldkihaaGreatDoor
open Go.RowKit

theorem len3 {a b c : List UInt8} {n : Nat} (h : (a ++ (b ++ c)).length ≤ n) : a.length + (b.length + c.length) ≤ n := by simpa using h

set_option maxHeartbeats 1000000 in
set_option maxRecDepth 100000 in
theorem wparam_any (d : Nat) (ww : St → List Pt → St) (fw : List Pt → Bool) (hg : Grow2 ww) (hp : WordW d ww fw) {W : World} {B b : Nat} {dv : Value} {out : List UInt8} {ds : List DocV} (p : Pt) (c : List Value) (hH : Hd W B) (h : Wr W B b dv out ds) (hc : PtC W B d p c) (hf : fw p.word = true) (hlen : (paramS ww (stOf out ds) p).1.length ≤ lim) :
    Calls Tryz.prog 122 #[.pointer (some ⟨b, 0, none⟩), .agg c.toArray] W fun e w' => e = .returned (.tuple #[]) ∧ Shown W B b dv (paramS ww (stOf out ds) p) w' := by
  obtain ⟨a1, c1, a2, c2, rfl, ⟨h1, h2⟩, ⟨hlw, hlb⟩, hw, _⟩ := hc.open
  have HH := Lib.hid hH
  have HP := Lib.hid hp
  have HG := Lib.hid hg
  have HW := Lib.hid h
  have HPW := Lib.hid hw
  have HF := Lib.hid hf
  obtain ⟨r, hr⟩ : ∃ r, paramS ww (stOf out ds) p = r := ⟨_, rfl⟩
  rw [hr] at hlen ⊢
  rw [paramS] at hr
  have HR := Lib.hid hr
  have HLEN := Lib.hid hlen
  clear hH hp hg h hw hf hr hlen hc
  cases hoe : (L p.op).isEmpty with
  | true =>
    have e1 : p.op.toList.isEmpty = true := by rw [isEmpty_L]; exact hoe
    have HE : Hid (r = putS (stOf out ds) ([36, 123] ++ L p.text ++ [125])) := Lib.hid (by rw [← HR.out, hoe]; rfl)
    have HZ : Hid (out.length + (2 + p.text.size + 1) ≤ lim) := Lib.hid (by have := HLEN.out; rw [HE.out, putS] at this; simp [stOf, L_size] at this; omega)
    have k1 : ∀ V : World, (Op.stringOp .add (⟨#[36, 123]⟩ : ByteArray) p.text).run Tryz.prog V = .ok (.string ((⟨#[36, 123]⟩ : ByteArray) ++ p.text)) V := fun V => run_string_add_sum V _ _ (by simp; omega)
    have k2 : ∀ V : World, (Op.stringOp .add ((⟨#[36, 123]⟩ : ByteArray) ++ p.text) ⟨#[125]⟩).run Tryz.prog V = .ok (.string (((⟨#[36, 123]⟩ : ByteArray) ++ p.text) ++ ⟨#[125]⟩)) V := fun V => run_string_add_sum V _ _ (by simp; omega)
    clear hoe
    go_enter Tryz.func122, Tryz.ntmps122
    go_wp2_with fail
    obtain ⟨V, hV⟩ : ∃ V, V = W.alloc (.cells #[.int .i64 p.kind, .bool p.quoted, .string p.text, .string p.op, .slice a1 p.word.length c1, .slice a2 p.body.length c2] 44) := ⟨_, rfl⟩
    have HBV : Hid (Below W.heap.size W V) := Lib.hid (by rw [hV]; exact (Below.refl _ _).alloc (Nat.le_refl _) _)
    have HVB : Hid (Blk V W.heap.size 44 #[.int .i64 p.kind, .bool p.quoted, .string p.text, .string p.op, .slice a1 p.word.length c1, .slice a2 p.body.length c2]) := Lib.hid (by rw [hV]; exact Blk.new _ _ _)
    have hgV : W.heap.size < V.heap.size := by rw [hV]; simp
    rw [← hV]
    clear hV
    have HWV := Lib.hid (HW.out.below HBV.out)
    have hgb : W.heap.size ≠ b := by have := HW.out.lt; omega
    have HGD : Hid (Value.ownBlock (dv) ≠ some W.heap.size) := Lib.hid fun e => by have := HW.out.far _ e; omega
    have HBW : Hid (Below B W V) := Lib.hid (HBV.out.mono HW.out.le)
    have HFV : Hid (Fr W V B b (dv) (dv)) := Lib.hid (Fr.of_below HBV.out HW.out.le)
    have x0 := HVB.out.cell 0
    have x1 := HVB.out.cell 1
    have x2 := HVB.out.cell 2
    have x3 := HVB.out.cell 3
    have x4 := HVB.out.cell 4
    have x5 := HVB.out.cell 5
    have xl := HVB.out.lt
    simp at x0 x1 x2 x3 x4 x5
    go_still_tail 7, (by kernel_rfl)
    go_wp2_with fail
    refine (HWV.out.str HFV.out (by repeat' (first | (with_reducible assumption) | (with_reducible exact Below.refl _ _) | (with_reducible refine below_drewN ?_ _) | (with_reducible refine below_bytes ?_ ?_ _) | (with_reducible refine Below.alloc ?_ ?_ _) | (with_reducible refine Below.drew ?_) | (with_reducible refine Below.setCell ?_ ?_ _) | go_size)) _ (by have := HZ.out; simp; omega)).mono ?_
    rintro e w1 ⟨rfl, hw0, hf0⟩
    have HWw1 := Lib.hid hw0
    have HFw1 := Lib.hid hf0
    clear hw0 hf0
    go_wp2_with fail
    go_end0
    refine ⟨rfl, ?_⟩
    have := Shown.of HWw1.out HFw1.out
    rw [HE.out, putS]
    simpa [stOf, L_append] using this
  | false =>
    have e1 : p.op.toList.isEmpty = false := by rw [isEmpty_L]; exact hoe
    cases hol : (L p.op == [108, 101, 110]) with
    | true =>
      have e3 : (p.op.toList == [108, 101, 110]) = true := by rw [toList_L]; exact hol
      have HE : Hid (r = putS (stOf out ds) ([36, 123, 35] ++ L p.text ++ [125])) := Lib.hid (by rw [← HR.out, hoe, hol]; rfl)
      have HZ : Hid (out.length + (3 + p.text.size + 1) ≤ lim) := Lib.hid (by have := HLEN.out; rw [HE.out, putS] at this; simp [stOf, L_size] at this; omega)
      have k1 : ∀ V : World, (Op.stringOp .add (⟨#[36, 123, 35]⟩ : ByteArray) p.text).run Tryz.prog V = .ok (.string ((⟨#[36, 123, 35]⟩ : ByteArray) ++ p.text)) V := fun V => run_string_add_sum V _ _ (by simp; omega)
      have k2 : ∀ V : World, (Op.stringOp .add ((⟨#[36, 123, 35]⟩ : ByteArray) ++ p.text) ⟨#[125]⟩).run Tryz.prog V = .ok (.string (((⟨#[36, 123, 35]⟩ : ByteArray) ++ p.text) ++ ⟨#[125]⟩)) V := fun V => run_string_add_sum V _ _ (by simp; omega)
      clear hoe hol
      go_enter Tryz.func122, Tryz.ntmps122
      go_wp2_with fail
      obtain ⟨V, hV⟩ : ∃ V, V = W.alloc (.cells #[.int .i64 p.kind, .bool p.quoted, .string p.text, .string p.op, .slice a1 p.word.length c1, .slice a2 p.body.length c2] 44) := ⟨_, rfl⟩
      have HBV : Hid (Below W.heap.size W V) := Lib.hid (by rw [hV]; exact (Below.refl _ _).alloc (Nat.le_refl _) _)
      have HVB : Hid (Blk V W.heap.size 44 #[.int .i64 p.kind, .bool p.quoted, .string p.text, .string p.op, .slice a1 p.word.length c1, .slice a2 p.body.length c2]) := Lib.hid (by rw [hV]; exact Blk.new _ _ _)
      have hgV : W.heap.size < V.heap.size := by rw [hV]; simp
      rw [← hV]
      clear hV
      have HWV := Lib.hid (HW.out.below HBV.out)
      have hgb : W.heap.size ≠ b := by have := HW.out.lt; omega
      have HGD : Hid (Value.ownBlock (dv) ≠ some W.heap.size) := Lib.hid fun e => by have := HW.out.far _ e; omega
      have HBW : Hid (Below B W V) := Lib.hid (HBV.out.mono HW.out.le)
      have HFV : Hid (Fr W V B b (dv) (dv)) := Lib.hid (Fr.of_below HBV.out HW.out.le)
      have x0 := HVB.out.cell 0
      have x1 := HVB.out.cell 1
      have x2 := HVB.out.cell 2
      have x3 := HVB.out.cell 3
      have x4 := HVB.out.cell 4
      have x5 := HVB.out.cell 5
      have xl := HVB.out.lt
      simp at x0 x1 x2 x3 x4 x5
      go_still_tail 7, (by kernel_rfl)
      go_wp2_with fail
      refine (HWV.out.str HFV.out (by repeat' (first | (with_reducible assumption) | (with_reducible exact Below.refl _ _) | (with_reducible refine below_drewN ?_ _) | (with_reducible refine below_bytes ?_ ?_ _) | (with_reducible refine Below.alloc ?_ ?_ _) | (with_reducible refine Below.drew ?_) | (with_reducible refine Below.setCell ?_ ?_ _) | go_size)) _ (by have := HZ.out; simp; omega)).mono ?_
      rintro e w1 ⟨rfl, hw0, hf0⟩
      have HWw1 := Lib.hid hw0
      have HFw1 := Lib.hid hf0
      clear hw0 hf0
      go_wp2_with fail
      go_end0
      refine ⟨rfl, ?_⟩
      have := Shown.of HWw1.out HFw1.out
      rw [HE.out, putS]
      simpa [stOf, L_append] using this
    | false =>
      have e3 : (p.op.toList == [108, 101, 110]) = false := by rw [toList_L]; exact hol
      have HE : Hid (r = putS (ww (stOf (out ++ ([36, 123] ++ L p.text ++ L p.op)) ds) p.word) [125]) := Lib.hid (by rw [← HR.out, hoe, hol]; rfl)
      have HZ3 : Hid ((ww (stOf (out ++ ([36, 123] ++ L p.text ++ L p.op)) ds) p.word).1.length + 1 ≤ lim) := Lib.hid (by have := HLEN.out; rw [HE.out, putS] at this; simpa using this)
      have HZ : Hid (out.length + (2 + p.text.size + p.op.size) ≤ lim) := Lib.hid (by
        have h1 := HG.out (stOf (out ++ ([36, 123] ++ L p.text ++ L p.op)) ds) p.word
        have h2 := HZ3.out
        simp [stOf, L_size] at h1 h2
        omega)
      have k1 : ∀ V : World, (Op.stringOp .add (⟨#[36, 123]⟩ : ByteArray) p.text).run Tryz.prog V = .ok (.string ((⟨#[36, 123]⟩ : ByteArray) ++ p.text)) V := fun V => run_string_add_sum V _ _ (by simp; omega)
      have k2 : ∀ V : World, (Op.stringOp .add ((⟨#[36, 123]⟩ : ByteArray) ++ p.text) p.op).run Tryz.prog V = .ok (.string (((⟨#[36, 123]⟩ : ByteArray) ++ p.text) ++ p.op)) V := fun V => run_string_add_sum V _ _ (by simp; omega)
      clear hoe hol
      go_enter Tryz.func122, Tryz.ntmps122
      go_wp2_with fail
      obtain ⟨V, hV⟩ : ∃ V, V = W.alloc (.cells #[.int .i64 p.kind, .bool p.quoted, .string p.text, .string p.op, .slice a1 p.word.length c1, .slice a2 p.body.length c2] 44) := ⟨_, rfl⟩
      have HBV : Hid (Below W.heap.size W V) := Lib.hid (by rw [hV]; exact (Below.refl _ _).alloc (Nat.le_refl _) _)
      have HVB : Hid (Blk V W.heap.size 44 #[.int .i64 p.kind, .bool p.quoted, .string p.text, .string p.op, .slice a1 p.word.length c1, .slice a2 p.body.length c2]) := Lib.hid (by rw [hV]; exact Blk.new _ _ _)
      have hgV : W.heap.size < V.heap.size := by rw [hV]; simp
      rw [← hV]
      clear hV
      have HWV := Lib.hid (HW.out.below HBV.out)
      have hgb : W.heap.size ≠ b := by have := HW.out.lt; omega
      have HGD : Hid (Value.ownBlock (dv) ≠ some W.heap.size) := Lib.hid fun e => by have := HW.out.far _ e; omega
      have HBW : Hid (Below B W V) := Lib.hid (HBV.out.mono HW.out.le)
      have HFV : Hid (Fr W V B b (dv) (dv)) := Lib.hid (Fr.of_below HBV.out HW.out.le)
      have x0 := HVB.out.cell 0
      have x1 := HVB.out.cell 1
      have x2 := HVB.out.cell 2
      have x3 := HVB.out.cell 3
      have x4 := HVB.out.cell 4
      have x5 := HVB.out.cell 5
      have xl := HVB.out.lt
      simp at x0 x1 x2 x3 x4 x5
      go_still_tail 9, (by kernel_rfl)
      go_wp2_with fail
      refine (HWV.out.str (Lib.hid (Fr.refl V B b dv)).out (by repeat' (first | (with_reducible assumption) | (with_reducible exact Below.refl _ _) | (with_reducible refine below_drewN ?_ _) | (with_reducible refine below_bytes ?_ ?_ _) | (with_reducible refine Below.alloc ?_ ?_ _) | (with_reducible refine Below.drew ?_) | (with_reducible refine Below.setCell ?_ ?_ _) | go_size)) _ (by have := HZ.out; simp; omega)).mono ?_
      rintro e w1 ⟨rfl, hw0, hf0⟩
      have HWw1 := Lib.hid hw0
      have HFw1 := Lib.hid hf0
      clear hw0 hf0
      have HK1 := Lib.hid (HFw1.out.blk HVB.out hgb HGD.out (by decide))
      clear x0 x1 x2 x3 x4 x5
      have y0 := HK1.out.cell 0
      have y1 := HK1.out.cell 1
      have y2 := HK1.out.cell 2
      have y3 := HK1.out.cell 3
      have y4 := HK1.out.cell 4
      have y5 := HK1.out.cell 5
      have yl := HK1.out.lt
      simp at y0 y1 y2 y3 y4 y5
      have CW := Lib.hid (HP.out w1 B b dv _ ds p.word _ (HH.out.below (HBW.out.trans HFw1.out.low)) HWw1.out (HPW.out.below (HBW.out.trans HFw1.out.low)) HF.out (by have := HZ3.out; simp [L_append] at this ⊢; omega))
      go_wp2_with fail
      refine CW.out.mono ?_
      rintro e w2 ⟨rfl, hs2⟩
      obtain ⟨dv2, ds2, hw2, hst2, hf2⟩ := shown_st hs2
      have HW2 := Lib.hid hw2
      have HST2 := Lib.hid hst2
      have HF2 := Lib.hid ((HFV.out.trans HFw1.out).trans hf2)
      clear hs2 hw2 hst2 hf2
      have CB : Hid (∀ X, Below w2.heap.size w2 X → Calls Tryz.prog 81 #[.pointer (some ⟨b, 0, none⟩), .int .u8 125] X fun e w' => e = .returned .nilIface ∧ Shown W B b dv r w') := Lib.hid fun X hX =>
        (HW2.out.byte HF2.out hX 125 (by have := HZ3.out; simp [L_append] at this ⊢; omega)).mono fun e w' ⟨h1, h2, h3⟩ => ⟨h1, by
          have := Shown.of h2 h3
          rw [HE.out, putS]
          have e : (ww (stOf (out ++ ([36, 123] ++ L p.text ++ L p.op)) ds) p.word) = (ww (stOf (out ++ L (⟨#[36, 123]⟩ ++ p.text ++ p.op)) ds) p.word) := by simp [L_append]
          rw [e, ← HST2.out]
          simpa [stOf] using this⟩
      go_wp2_with fail
      refine (CB.out _ (by repeat' (first | (with_reducible assumption) | (with_reducible exact Below.refl _ _) | (with_reducible refine below_drewN ?_ _) | (with_reducible refine below_bytes ?_ ?_ _) | (with_reducible refine Below.alloc ?_ ?_ _) | (with_reducible refine Below.drew ?_) | (with_reducible refine Below.setCell ?_ ?_ _) | go_size))).mono ?_
      rintro e w3 ⟨rfl, hs3⟩
      have HS3 := Lib.hid hs3
      clear hs3
      go_wp2_with fail
      go_end0
      exact ⟨rfl, HS3.out⟩
end Go.Proofs.YtnackmnoldkihaaGreatDoor
