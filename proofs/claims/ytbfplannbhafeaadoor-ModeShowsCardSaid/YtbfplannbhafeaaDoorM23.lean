/-
  The document's Letters: the walk; the plain law.
-/
import Derived.Test.YtbfplannbhafeaaDoorM22
namespace Go.Proofs.YtbfplannbhafeaaDoor
open Go.RowKit

def chrRef (m i : Nat) : UInt8 :=
  if i = 0 ∧ m.testBit 9 then (if m.testBit 0 then 116 else 84) else
  if (i = 6 ∧ m.testBit 11) ∨ (i = 3 ∧ m.testBit 10) then (if m.testBit i then 115 else 83) else chr m i
def roundsRef (m : Nat) : Nat → List UInt8
  | 0 => []
  | n + 1 => roundsRef m n ++ [chrRef m (8 - n)]
theorem roundsRef_len (m : Nat) : ∀ n, (roundsRef m n).length = n
  | 0 => rfl
  | n + 1 => by rw [roundsRef, List.length_append, roundsRef_len m n]; rfl

theorem letters_law (kind : UInt8) (m : Nat) : lettersP kind m = kind :: roundsRef m 9 := by
  have h : ∀ b0 b1 b2 b3 b4 b5 b6 b7 b8 b9 b10 b11 : Bool, m.testBit 0 = b0 → m.testBit 1 = b1 → m.testBit 2 = b2 → m.testBit 3 = b3 → m.testBit 4 = b4 → m.testBit 5 = b5 → m.testBit 6 = b6 → m.testBit 7 = b7 → m.testBit 8 = b8 → m.testBit 9 = b9 → m.testBit 10 = b10 → m.testBit 11 = b11 →
      lettersP kind m = kind :: roundsRef m 9 := by
    intro b0 b1 b2 b3 b4 b5 b6 b7 b8 b9 b10 b11 h0 h1 h2 h3 h4 h5 h6 h7 h8 h9 h10 h11
    simp only [lettersP, rounds9, roundsRef, chr, chrRef, markP, h0, h1, h2, h3, h4, h5, h6, h7, h8, h9, h10, h11, List.nil_append, List.cons_append]
    cases b0 <;> cases b3 <;> cases b6 <;> cases b9 <;> cases b10 <;> cases b11 <;> simp
  exact h _ _ _ _ _ _ _ _ _ _ _ _ rfl rfl rfl rfl rfl rfl rfl rfl rfl rfl rfl rfl

abbrev HasAt (m : Nat) (i : Int) (b : Bool) : Prop := ∀ w : World, Calls Tryd.prog 25 #[.int .i64 (m : Nat), .int .i64 i] w fun e w' => e = .returned (.bool b) ∧ w' = w
theorem has_at (m i : Nat) (hm : m < 4096) (hi : i ≤ 12) (b : Bool) (hb : m.testBit i = b) (n : Int) (hn : n = (i : Nat)) : Hid (HasAt m n b) := by
  subst hn
  exact Lib.hid (fun w => has_any m i w hm hi b hb)

set_option maxHeartbeats 4000000 in
set_option maxRecDepth 100000 in
theorem lettersRef_any (kind : UInt8) (m : Nat) (w : World) (hm : m < 4096) :
    Calls Tryd.prog 16 #[.int .u8 ((kind.toNat : Nat) : Int), .int .i64 (m : Nat)] w fun e w' => e = .returned (.string (S (kind :: roundsRef m 9))) ∧ Below w.heap.size w w' := by
  have n0 : ∀ w : World, (Instr.index 9 (.string ⟨#[120, 119, 114]⟩) (.int .i64 0)).run Tryd.prog w = .ok (.int .u8 120) w := run_idx (P := Tryd.prog) (k := .i64) Tryd.underlying9 ⟨#[120, 119, 114]⟩ 0 0 rfl (by decide)
  have n1 : ∀ w : World, (Instr.index 9 (.string ⟨#[120, 119, 114]⟩) (.int .i64 1)).run Tryd.prog w = .ok (.int .u8 119) w := run_idx (P := Tryd.prog) (k := .i64) Tryd.underlying9 ⟨#[120, 119, 114]⟩ 1 1 rfl (by decide)
  have n2 : ∀ w : World, (Instr.index 9 (.string ⟨#[120, 119, 114]⟩) (.int .i64 2)).run Tryd.prog w = .ok (.int .u8 114) w := run_idx (P := Tryd.prog) (k := .i64) Tryd.underlying9 ⟨#[120, 119, 114]⟩ 2 2 rfl (by decide)
  have H0 : Hid (OwnB (w.alloc (.cells #[.int .u8 ((kind.toNat : Nat) : Int)] 5)) w.heap.size (.slice (some ⟨w.heap.size, 0, none⟩) 1 1) (kind :: roundsRef m 0)) := Lib.hid (OwnB.made [kind] (Nat.le_refl _) (by unfold maxLen; simp) rfl rfl)
  go_enter Tryd.func16, Tryd.ntmps16
  go_wp2_with fail
  go_loopw [5, 6, 7] (fun out i c wr => ∃ (n : Nat) (o : Value), o = out ∧ n ≤ 9 ∧ i = .int .i64 (8 - (n : Int)) ∧ OwnB wr w.heap.size o (kind :: roundsRef m n) ∧ Below w.heap.size w wr) (fun _ i _ _ => (intOf i + 1).toNat)
  case atStart => exact ⟨0, _, rfl, by omega, rfl, H0.out, Below.alloc (Below.refl _ _) (Nat.le_refl _) _⟩
  case round =>
    obtain ⟨n, o, rfl, hn, rfl, hown, hb⟩ := hrel
    have hsz := hb.size
    have HO := Lib.hid hown
    have HB := Lib.hid hb
    clear hown hb
    by_cases h9 : n < 9
    · skip
      rcases (by omega : n = 0 ∨ n = 1 ∨ n = 2 ∨ n = 3 ∨ n = 4 ∨ n = 5 ∨ n = 6 ∨ n = 7 ∨ n = 8) with rfl | rfl | rfl | rfl | rfl | rfl | rfl | rfl | rfl
      · obtain ⟨tb, htb⟩ : ∃ b, m.testBit (8 - 0) = b := ⟨_, rfl⟩
        have CB := has_at m (8 - 0) hm (by omega) tb htb 8 rfl
        have CX : Hid True := Lib.hid trivial
        cases tb
        · have hc : chrRef m (8 - 0) = 45 := by rw [chrRef, if_neg (by simp), if_neg (by simp), chr, htb]; rfl
          clear htb
          go_wp2_with (first | (go_at_call 25; with_reducible first | (refine (CB.out _).mono ?_; rintro e w' ⟨rfl, rfl⟩) | (refine (CX.out _).mono ?_; rintro e w' ⟨rfl, rfl⟩)) | (at_builtin; go_must (refine append_byte rfl _ _ rfl rfl (OwnB.alloc HO.out _) 45 rfl (cell_new _ _ _) (by simp [roundsRef_len]) (Below.alloc HB.out hsz _) (by simp; omega) ?_); intro v' w1 hown hbw hsz1))
          have HOWN : Hid (OwnB w1 w.heap.size v' (kind :: roundsRef m (0 + 1))) := Lib.hid (by
            have e : kind :: roundsRef m 0 ++ [45] = kind :: roundsRef m (0 + 1) := by rw [show roundsRef m (0 + 1) = roundsRef m 0 ++ [chrRef m (8 - 0)] from rfl, hc]; rfl
            rw [← e]; exact hown)
          have HBW := Lib.hid hbw
          clear hown hbw hc
          go_wp2_with fail
          go_roundw
          case rel => exact ⟨0 + 1, _, rfl, by omega, rfl, HOWN.out, HBW.out⟩
          case measure => simp [intOf]
        · have hc : chrRef m (8 - 0) = 114 := by rw [chrRef, if_neg (by simp), if_neg (by simp), chr, htb]; rfl
          clear htb
          go_wp2_with (first | (go_at_call 25; with_reducible first | (refine (CB.out _).mono ?_; rintro e w' ⟨rfl, rfl⟩) | (refine (CX.out _).mono ?_; rintro e w' ⟨rfl, rfl⟩)) | (at_builtin; go_must (refine append_byte rfl _ _ rfl rfl (OwnB.alloc HO.out _) 114 rfl (cell_new _ _ _) (by simp [roundsRef_len]) (Below.alloc HB.out hsz _) (by simp; omega) ?_); intro v' w1 hown hbw hsz1))
          have HOWN : Hid (OwnB w1 w.heap.size v' (kind :: roundsRef m (0 + 1))) := Lib.hid (by
            have e : kind :: roundsRef m 0 ++ [114] = kind :: roundsRef m (0 + 1) := by rw [show roundsRef m (0 + 1) = roundsRef m 0 ++ [chrRef m (8 - 0)] from rfl, hc]; rfl
            rw [← e]; exact hown)
          have HBW := Lib.hid hbw
          clear hown hbw hc
          go_wp2_with fail
          go_roundw
          case rel => exact ⟨0 + 1, _, rfl, by omega, rfl, HOWN.out, HBW.out⟩
          case measure => simp [intOf]
      · obtain ⟨tb, htb⟩ : ∃ b, m.testBit (8 - 1) = b := ⟨_, rfl⟩
        have CB := has_at m (8 - 1) hm (by omega) tb htb 7 rfl
        have CX : Hid True := Lib.hid trivial
        cases tb
        · have hc : chrRef m (8 - 1) = 45 := by rw [chrRef, if_neg (by simp), if_neg (by simp), chr, htb]; rfl
          clear htb
          go_wp2_with (first | (go_at_call 25; with_reducible first | (refine (CB.out _).mono ?_; rintro e w' ⟨rfl, rfl⟩) | (refine (CX.out _).mono ?_; rintro e w' ⟨rfl, rfl⟩)) | (at_builtin; go_must (refine append_byte rfl _ _ rfl rfl (OwnB.alloc HO.out _) 45 rfl (cell_new _ _ _) (by simp [roundsRef_len]) (Below.alloc HB.out hsz _) (by simp; omega) ?_); intro v' w1 hown hbw hsz1))
          have HOWN : Hid (OwnB w1 w.heap.size v' (kind :: roundsRef m (1 + 1))) := Lib.hid (by
            have e : kind :: roundsRef m 1 ++ [45] = kind :: roundsRef m (1 + 1) := by rw [show roundsRef m (1 + 1) = roundsRef m 1 ++ [chrRef m (8 - 1)] from rfl, hc]; rfl
            rw [← e]; exact hown)
          have HBW := Lib.hid hbw
          clear hown hbw hc
          go_wp2_with fail
          go_roundw
          case rel => exact ⟨1 + 1, _, rfl, by omega, rfl, HOWN.out, HBW.out⟩
          case measure => simp [intOf]
        · have hc : chrRef m (8 - 1) = 119 := by rw [chrRef, if_neg (by simp), if_neg (by simp), chr, htb]; rfl
          clear htb
          go_wp2_with (first | (go_at_call 25; with_reducible first | (refine (CB.out _).mono ?_; rintro e w' ⟨rfl, rfl⟩) | (refine (CX.out _).mono ?_; rintro e w' ⟨rfl, rfl⟩)) | (at_builtin; go_must (refine append_byte rfl _ _ rfl rfl (OwnB.alloc HO.out _) 119 rfl (cell_new _ _ _) (by simp [roundsRef_len]) (Below.alloc HB.out hsz _) (by simp; omega) ?_); intro v' w1 hown hbw hsz1))
          have HOWN : Hid (OwnB w1 w.heap.size v' (kind :: roundsRef m (1 + 1))) := Lib.hid (by
            have e : kind :: roundsRef m 1 ++ [119] = kind :: roundsRef m (1 + 1) := by rw [show roundsRef m (1 + 1) = roundsRef m 1 ++ [chrRef m (8 - 1)] from rfl, hc]; rfl
            rw [← e]; exact hown)
          have HBW := Lib.hid hbw
          clear hown hbw hc
          go_wp2_with fail
          go_roundw
          case rel => exact ⟨1 + 1, _, rfl, by omega, rfl, HOWN.out, HBW.out⟩
          case measure => simp [intOf]
      · obtain ⟨tb, htb⟩ : ∃ b, m.testBit (8 - 2) = b := ⟨_, rfl⟩
        obtain ⟨tx, htx⟩ : ∃ b, m.testBit 11 = b := ⟨_, rfl⟩
        have CB := has_at m (8 - 2) hm (by omega) tb htb 6 rfl
        have CX := has_at m 11 hm (by omega) tx htx 11 rfl
        cases tx
        · cases tb
          · have hc : chrRef m (8 - 2) = 45 := by simp [chrRef, chr, htb, htx]
            clear htb htx
            go_wp2_with (first | (go_at_call 25; with_reducible first | (refine (CB.out _).mono ?_; rintro e w' ⟨rfl, rfl⟩) | (refine (CX.out _).mono ?_; rintro e w' ⟨rfl, rfl⟩)) | (at_builtin; go_must (refine append_byte rfl _ _ rfl rfl (OwnB.alloc HO.out _) 45 rfl (cell_new _ _ _) (by simp [roundsRef_len]) (Below.alloc HB.out hsz _) (by simp; omega) ?_); intro v' w1 hown hbw hsz1))
            have HOWN : Hid (OwnB w1 w.heap.size v' (kind :: roundsRef m (2 + 1))) := Lib.hid (by
              have e : kind :: roundsRef m 2 ++ [45] = kind :: roundsRef m (2 + 1) := by rw [show roundsRef m (2 + 1) = roundsRef m 2 ++ [chrRef m (8 - 2)] from rfl, hc]; rfl
              rw [← e]; exact hown)
            have HBW := Lib.hid hbw
            clear hown hbw hc
            go_wp2_with fail
            go_roundw
            case rel => exact ⟨2 + 1, _, rfl, by omega, rfl, HOWN.out, HBW.out⟩
            case measure => simp [intOf]
          · have hc : chrRef m (8 - 2) = 120 := by simp [chrRef, chr, htb, htx]
            clear htb htx
            go_wp2_with (first | (go_at_call 25; with_reducible first | (refine (CB.out _).mono ?_; rintro e w' ⟨rfl, rfl⟩) | (refine (CX.out _).mono ?_; rintro e w' ⟨rfl, rfl⟩)) | (at_builtin; go_must (refine append_byte rfl _ _ rfl rfl (OwnB.alloc HO.out _) 120 rfl (cell_new _ _ _) (by simp [roundsRef_len]) (Below.alloc HB.out hsz _) (by simp; omega) ?_); intro v' w1 hown hbw hsz1))
            have HOWN : Hid (OwnB w1 w.heap.size v' (kind :: roundsRef m (2 + 1))) := Lib.hid (by
              have e : kind :: roundsRef m 2 ++ [120] = kind :: roundsRef m (2 + 1) := by rw [show roundsRef m (2 + 1) = roundsRef m 2 ++ [chrRef m (8 - 2)] from rfl, hc]; rfl
              rw [← e]; exact hown)
            have HBW := Lib.hid hbw
            clear hown hbw hc
            go_wp2_with fail
            go_roundw
            case rel => exact ⟨2 + 1, _, rfl, by omega, rfl, HOWN.out, HBW.out⟩
            case measure => simp [intOf]
        · cases tb
          · have hc : chrRef m (8 - 2) = 83 := by simp [chrRef, htb, htx]
            clear htb htx
            go_wp2_with (first | (go_at_call 25; with_reducible first | (refine (CB.out _).mono ?_; rintro e w' ⟨rfl, rfl⟩) | (refine (CX.out _).mono ?_; rintro e w' ⟨rfl, rfl⟩)) | (at_builtin; go_must (refine append_byte rfl _ _ rfl rfl (OwnB.alloc HO.out _) 83 rfl (cell_new _ _ _) (by simp [roundsRef_len]) (Below.alloc HB.out hsz _) (by simp; omega) ?_); intro v' w1 hown hbw hsz1))
            have HOWN : Hid (OwnB w1 w.heap.size v' (kind :: roundsRef m (2 + 1))) := Lib.hid (by
              have e : kind :: roundsRef m 2 ++ [83] = kind :: roundsRef m (2 + 1) := by rw [show roundsRef m (2 + 1) = roundsRef m 2 ++ [chrRef m (8 - 2)] from rfl, hc]; rfl
              rw [← e]; exact hown)
            have HBW := Lib.hid hbw
            clear hown hbw hc
            go_wp2_with fail
            go_roundw
            case rel => exact ⟨2 + 1, _, rfl, by omega, rfl, HOWN.out, HBW.out⟩
            case measure => simp [intOf]
          · have hc : chrRef m (8 - 2) = 115 := by simp [chrRef, htb, htx]
            clear htb htx
            go_wp2_with (first | (go_at_call 25; with_reducible first | (refine (CB.out _).mono ?_; rintro e w' ⟨rfl, rfl⟩) | (refine (CX.out _).mono ?_; rintro e w' ⟨rfl, rfl⟩)) | (at_builtin; go_must (refine append_byte rfl _ _ rfl rfl (OwnB.alloc HO.out _) 115 rfl (cell_new _ _ _) (by simp [roundsRef_len]) (Below.alloc HB.out hsz _) (by simp; omega) ?_); intro v' w1 hown hbw hsz1))
            have HOWN : Hid (OwnB w1 w.heap.size v' (kind :: roundsRef m (2 + 1))) := Lib.hid (by
              have e : kind :: roundsRef m 2 ++ [115] = kind :: roundsRef m (2 + 1) := by rw [show roundsRef m (2 + 1) = roundsRef m 2 ++ [chrRef m (8 - 2)] from rfl, hc]; rfl
              rw [← e]; exact hown)
            have HBW := Lib.hid hbw
            clear hown hbw hc
            go_wp2_with fail
            go_roundw
            case rel => exact ⟨2 + 1, _, rfl, by omega, rfl, HOWN.out, HBW.out⟩
            case measure => simp [intOf]
      · obtain ⟨tb, htb⟩ : ∃ b, m.testBit (8 - 3) = b := ⟨_, rfl⟩
        have CB := has_at m (8 - 3) hm (by omega) tb htb 5 rfl
        have CX : Hid True := Lib.hid trivial
        cases tb
        · have hc : chrRef m (8 - 3) = 45 := by rw [chrRef, if_neg (by simp), if_neg (by simp), chr, htb]; rfl
          clear htb
          go_wp2_with (first | (go_at_call 25; with_reducible first | (refine (CB.out _).mono ?_; rintro e w' ⟨rfl, rfl⟩) | (refine (CX.out _).mono ?_; rintro e w' ⟨rfl, rfl⟩)) | (at_builtin; go_must (refine append_byte rfl _ _ rfl rfl (OwnB.alloc HO.out _) 45 rfl (cell_new _ _ _) (by simp [roundsRef_len]) (Below.alloc HB.out hsz _) (by simp; omega) ?_); intro v' w1 hown hbw hsz1))
          have HOWN : Hid (OwnB w1 w.heap.size v' (kind :: roundsRef m (3 + 1))) := Lib.hid (by
            have e : kind :: roundsRef m 3 ++ [45] = kind :: roundsRef m (3 + 1) := by rw [show roundsRef m (3 + 1) = roundsRef m 3 ++ [chrRef m (8 - 3)] from rfl, hc]; rfl
            rw [← e]; exact hown)
          have HBW := Lib.hid hbw
          clear hown hbw hc
          go_wp2_with fail
          go_roundw
          case rel => exact ⟨3 + 1, _, rfl, by omega, rfl, HOWN.out, HBW.out⟩
          case measure => simp [intOf]
        · have hc : chrRef m (8 - 3) = 114 := by rw [chrRef, if_neg (by simp), if_neg (by simp), chr, htb]; rfl
          clear htb
          go_wp2_with (first | (go_at_call 25; with_reducible first | (refine (CB.out _).mono ?_; rintro e w' ⟨rfl, rfl⟩) | (refine (CX.out _).mono ?_; rintro e w' ⟨rfl, rfl⟩)) | (at_builtin; go_must (refine append_byte rfl _ _ rfl rfl (OwnB.alloc HO.out _) 114 rfl (cell_new _ _ _) (by simp [roundsRef_len]) (Below.alloc HB.out hsz _) (by simp; omega) ?_); intro v' w1 hown hbw hsz1))
          have HOWN : Hid (OwnB w1 w.heap.size v' (kind :: roundsRef m (3 + 1))) := Lib.hid (by
            have e : kind :: roundsRef m 3 ++ [114] = kind :: roundsRef m (3 + 1) := by rw [show roundsRef m (3 + 1) = roundsRef m 3 ++ [chrRef m (8 - 3)] from rfl, hc]; rfl
            rw [← e]; exact hown)
          have HBW := Lib.hid hbw
          clear hown hbw hc
          go_wp2_with fail
          go_roundw
          case rel => exact ⟨3 + 1, _, rfl, by omega, rfl, HOWN.out, HBW.out⟩
          case measure => simp [intOf]
      · obtain ⟨tb, htb⟩ : ∃ b, m.testBit (8 - 4) = b := ⟨_, rfl⟩
        have CB := has_at m (8 - 4) hm (by omega) tb htb 4 rfl
        have CX : Hid True := Lib.hid trivial
        cases tb
        · have hc : chrRef m (8 - 4) = 45 := by rw [chrRef, if_neg (by simp), if_neg (by simp), chr, htb]; rfl
          clear htb
          go_wp2_with (first | (go_at_call 25; with_reducible first | (refine (CB.out _).mono ?_; rintro e w' ⟨rfl, rfl⟩) | (refine (CX.out _).mono ?_; rintro e w' ⟨rfl, rfl⟩)) | (at_builtin; go_must (refine append_byte rfl _ _ rfl rfl (OwnB.alloc HO.out _) 45 rfl (cell_new _ _ _) (by simp [roundsRef_len]) (Below.alloc HB.out hsz _) (by simp; omega) ?_); intro v' w1 hown hbw hsz1))
          have HOWN : Hid (OwnB w1 w.heap.size v' (kind :: roundsRef m (4 + 1))) := Lib.hid (by
            have e : kind :: roundsRef m 4 ++ [45] = kind :: roundsRef m (4 + 1) := by rw [show roundsRef m (4 + 1) = roundsRef m 4 ++ [chrRef m (8 - 4)] from rfl, hc]; rfl
            rw [← e]; exact hown)
          have HBW := Lib.hid hbw
          clear hown hbw hc
          go_wp2_with fail
          go_roundw
          case rel => exact ⟨4 + 1, _, rfl, by omega, rfl, HOWN.out, HBW.out⟩
          case measure => simp [intOf]
        · have hc : chrRef m (8 - 4) = 119 := by rw [chrRef, if_neg (by simp), if_neg (by simp), chr, htb]; rfl
          clear htb
          go_wp2_with (first | (go_at_call 25; with_reducible first | (refine (CB.out _).mono ?_; rintro e w' ⟨rfl, rfl⟩) | (refine (CX.out _).mono ?_; rintro e w' ⟨rfl, rfl⟩)) | (at_builtin; go_must (refine append_byte rfl _ _ rfl rfl (OwnB.alloc HO.out _) 119 rfl (cell_new _ _ _) (by simp [roundsRef_len]) (Below.alloc HB.out hsz _) (by simp; omega) ?_); intro v' w1 hown hbw hsz1))
          have HOWN : Hid (OwnB w1 w.heap.size v' (kind :: roundsRef m (4 + 1))) := Lib.hid (by
            have e : kind :: roundsRef m 4 ++ [119] = kind :: roundsRef m (4 + 1) := by rw [show roundsRef m (4 + 1) = roundsRef m 4 ++ [chrRef m (8 - 4)] from rfl, hc]; rfl
            rw [← e]; exact hown)
          have HBW := Lib.hid hbw
          clear hown hbw hc
          go_wp2_with fail
          go_roundw
          case rel => exact ⟨4 + 1, _, rfl, by omega, rfl, HOWN.out, HBW.out⟩
          case measure => simp [intOf]
      · obtain ⟨tb, htb⟩ : ∃ b, m.testBit (8 - 5) = b := ⟨_, rfl⟩
        obtain ⟨tx, htx⟩ : ∃ b, m.testBit 10 = b := ⟨_, rfl⟩
        have CB := has_at m (8 - 5) hm (by omega) tb htb 3 rfl
        have CX := has_at m 10 hm (by omega) tx htx 10 rfl
        cases tx
        · cases tb
          · have hc : chrRef m (8 - 5) = 45 := by simp [chrRef, chr, htb, htx]
            clear htb htx
            go_wp2_with (first | (go_at_call 25; with_reducible first | (refine (CB.out _).mono ?_; rintro e w' ⟨rfl, rfl⟩) | (refine (CX.out _).mono ?_; rintro e w' ⟨rfl, rfl⟩)) | (at_builtin; go_must (refine append_byte rfl _ _ rfl rfl (OwnB.alloc HO.out _) 45 rfl (cell_new _ _ _) (by simp [roundsRef_len]) (Below.alloc HB.out hsz _) (by simp; omega) ?_); intro v' w1 hown hbw hsz1))
            have HOWN : Hid (OwnB w1 w.heap.size v' (kind :: roundsRef m (5 + 1))) := Lib.hid (by
              have e : kind :: roundsRef m 5 ++ [45] = kind :: roundsRef m (5 + 1) := by rw [show roundsRef m (5 + 1) = roundsRef m 5 ++ [chrRef m (8 - 5)] from rfl, hc]; rfl
              rw [← e]; exact hown)
            have HBW := Lib.hid hbw
            clear hown hbw hc
            go_wp2_with fail
            go_roundw
            case rel => exact ⟨5 + 1, _, rfl, by omega, rfl, HOWN.out, HBW.out⟩
            case measure => simp [intOf]
          · have hc : chrRef m (8 - 5) = 120 := by simp [chrRef, chr, htb, htx]
            clear htb htx
            go_wp2_with (first | (go_at_call 25; with_reducible first | (refine (CB.out _).mono ?_; rintro e w' ⟨rfl, rfl⟩) | (refine (CX.out _).mono ?_; rintro e w' ⟨rfl, rfl⟩)) | (at_builtin; go_must (refine append_byte rfl _ _ rfl rfl (OwnB.alloc HO.out _) 120 rfl (cell_new _ _ _) (by simp [roundsRef_len]) (Below.alloc HB.out hsz _) (by simp; omega) ?_); intro v' w1 hown hbw hsz1))
            have HOWN : Hid (OwnB w1 w.heap.size v' (kind :: roundsRef m (5 + 1))) := Lib.hid (by
              have e : kind :: roundsRef m 5 ++ [120] = kind :: roundsRef m (5 + 1) := by rw [show roundsRef m (5 + 1) = roundsRef m 5 ++ [chrRef m (8 - 5)] from rfl, hc]; rfl
              rw [← e]; exact hown)
            have HBW := Lib.hid hbw
            clear hown hbw hc
            go_wp2_with fail
            go_roundw
            case rel => exact ⟨5 + 1, _, rfl, by omega, rfl, HOWN.out, HBW.out⟩
            case measure => simp [intOf]
        · cases tb
          · have hc : chrRef m (8 - 5) = 83 := by simp [chrRef, htb, htx]
            clear htb htx
            go_wp2_with (first | (go_at_call 25; with_reducible first | (refine (CB.out _).mono ?_; rintro e w' ⟨rfl, rfl⟩) | (refine (CX.out _).mono ?_; rintro e w' ⟨rfl, rfl⟩)) | (at_builtin; go_must (refine append_byte rfl _ _ rfl rfl (OwnB.alloc HO.out _) 83 rfl (cell_new _ _ _) (by simp [roundsRef_len]) (Below.alloc HB.out hsz _) (by simp; omega) ?_); intro v' w1 hown hbw hsz1))
            have HOWN : Hid (OwnB w1 w.heap.size v' (kind :: roundsRef m (5 + 1))) := Lib.hid (by
              have e : kind :: roundsRef m 5 ++ [83] = kind :: roundsRef m (5 + 1) := by rw [show roundsRef m (5 + 1) = roundsRef m 5 ++ [chrRef m (8 - 5)] from rfl, hc]; rfl
              rw [← e]; exact hown)
            have HBW := Lib.hid hbw
            clear hown hbw hc
            go_wp2_with fail
            go_roundw
            case rel => exact ⟨5 + 1, _, rfl, by omega, rfl, HOWN.out, HBW.out⟩
            case measure => simp [intOf]
          · have hc : chrRef m (8 - 5) = 115 := by simp [chrRef, htb, htx]
            clear htb htx
            go_wp2_with (first | (go_at_call 25; with_reducible first | (refine (CB.out _).mono ?_; rintro e w' ⟨rfl, rfl⟩) | (refine (CX.out _).mono ?_; rintro e w' ⟨rfl, rfl⟩)) | (at_builtin; go_must (refine append_byte rfl _ _ rfl rfl (OwnB.alloc HO.out _) 115 rfl (cell_new _ _ _) (by simp [roundsRef_len]) (Below.alloc HB.out hsz _) (by simp; omega) ?_); intro v' w1 hown hbw hsz1))
            have HOWN : Hid (OwnB w1 w.heap.size v' (kind :: roundsRef m (5 + 1))) := Lib.hid (by
              have e : kind :: roundsRef m 5 ++ [115] = kind :: roundsRef m (5 + 1) := by rw [show roundsRef m (5 + 1) = roundsRef m 5 ++ [chrRef m (8 - 5)] from rfl, hc]; rfl
              rw [← e]; exact hown)
            have HBW := Lib.hid hbw
            clear hown hbw hc
            go_wp2_with fail
            go_roundw
            case rel => exact ⟨5 + 1, _, rfl, by omega, rfl, HOWN.out, HBW.out⟩
            case measure => simp [intOf]
      · obtain ⟨tb, htb⟩ : ∃ b, m.testBit (8 - 6) = b := ⟨_, rfl⟩
        have CB := has_at m (8 - 6) hm (by omega) tb htb 2 rfl
        have CX : Hid True := Lib.hid trivial
        cases tb
        · have hc : chrRef m (8 - 6) = 45 := by rw [chrRef, if_neg (by simp), if_neg (by simp), chr, htb]; rfl
          clear htb
          go_wp2_with (first | (go_at_call 25; with_reducible first | (refine (CB.out _).mono ?_; rintro e w' ⟨rfl, rfl⟩) | (refine (CX.out _).mono ?_; rintro e w' ⟨rfl, rfl⟩)) | (at_builtin; go_must (refine append_byte rfl _ _ rfl rfl (OwnB.alloc HO.out _) 45 rfl (cell_new _ _ _) (by simp [roundsRef_len]) (Below.alloc HB.out hsz _) (by simp; omega) ?_); intro v' w1 hown hbw hsz1))
          have HOWN : Hid (OwnB w1 w.heap.size v' (kind :: roundsRef m (6 + 1))) := Lib.hid (by
            have e : kind :: roundsRef m 6 ++ [45] = kind :: roundsRef m (6 + 1) := by rw [show roundsRef m (6 + 1) = roundsRef m 6 ++ [chrRef m (8 - 6)] from rfl, hc]; rfl
            rw [← e]; exact hown)
          have HBW := Lib.hid hbw
          clear hown hbw hc
          go_wp2_with fail
          go_roundw
          case rel => exact ⟨6 + 1, _, rfl, by omega, rfl, HOWN.out, HBW.out⟩
          case measure => simp [intOf]
        · have hc : chrRef m (8 - 6) = 114 := by rw [chrRef, if_neg (by simp), if_neg (by simp), chr, htb]; rfl
          clear htb
          go_wp2_with (first | (go_at_call 25; with_reducible first | (refine (CB.out _).mono ?_; rintro e w' ⟨rfl, rfl⟩) | (refine (CX.out _).mono ?_; rintro e w' ⟨rfl, rfl⟩)) | (at_builtin; go_must (refine append_byte rfl _ _ rfl rfl (OwnB.alloc HO.out _) 114 rfl (cell_new _ _ _) (by simp [roundsRef_len]) (Below.alloc HB.out hsz _) (by simp; omega) ?_); intro v' w1 hown hbw hsz1))
          have HOWN : Hid (OwnB w1 w.heap.size v' (kind :: roundsRef m (6 + 1))) := Lib.hid (by
            have e : kind :: roundsRef m 6 ++ [114] = kind :: roundsRef m (6 + 1) := by rw [show roundsRef m (6 + 1) = roundsRef m 6 ++ [chrRef m (8 - 6)] from rfl, hc]; rfl
            rw [← e]; exact hown)
          have HBW := Lib.hid hbw
          clear hown hbw hc
          go_wp2_with fail
          go_roundw
          case rel => exact ⟨6 + 1, _, rfl, by omega, rfl, HOWN.out, HBW.out⟩
          case measure => simp [intOf]
      · obtain ⟨tb, htb⟩ : ∃ b, m.testBit (8 - 7) = b := ⟨_, rfl⟩
        have CB := has_at m (8 - 7) hm (by omega) tb htb 1 rfl
        have CX : Hid True := Lib.hid trivial
        cases tb
        · have hc : chrRef m (8 - 7) = 45 := by rw [chrRef, if_neg (by simp), if_neg (by simp), chr, htb]; rfl
          clear htb
          go_wp2_with (first | (go_at_call 25; with_reducible first | (refine (CB.out _).mono ?_; rintro e w' ⟨rfl, rfl⟩) | (refine (CX.out _).mono ?_; rintro e w' ⟨rfl, rfl⟩)) | (at_builtin; go_must (refine append_byte rfl _ _ rfl rfl (OwnB.alloc HO.out _) 45 rfl (cell_new _ _ _) (by simp [roundsRef_len]) (Below.alloc HB.out hsz _) (by simp; omega) ?_); intro v' w1 hown hbw hsz1))
          have HOWN : Hid (OwnB w1 w.heap.size v' (kind :: roundsRef m (7 + 1))) := Lib.hid (by
            have e : kind :: roundsRef m 7 ++ [45] = kind :: roundsRef m (7 + 1) := by rw [show roundsRef m (7 + 1) = roundsRef m 7 ++ [chrRef m (8 - 7)] from rfl, hc]; rfl
            rw [← e]; exact hown)
          have HBW := Lib.hid hbw
          clear hown hbw hc
          go_wp2_with fail
          go_roundw
          case rel => exact ⟨7 + 1, _, rfl, by omega, rfl, HOWN.out, HBW.out⟩
          case measure => simp [intOf]
        · have hc : chrRef m (8 - 7) = 119 := by rw [chrRef, if_neg (by simp), if_neg (by simp), chr, htb]; rfl
          clear htb
          go_wp2_with (first | (go_at_call 25; with_reducible first | (refine (CB.out _).mono ?_; rintro e w' ⟨rfl, rfl⟩) | (refine (CX.out _).mono ?_; rintro e w' ⟨rfl, rfl⟩)) | (at_builtin; go_must (refine append_byte rfl _ _ rfl rfl (OwnB.alloc HO.out _) 119 rfl (cell_new _ _ _) (by simp [roundsRef_len]) (Below.alloc HB.out hsz _) (by simp; omega) ?_); intro v' w1 hown hbw hsz1))
          have HOWN : Hid (OwnB w1 w.heap.size v' (kind :: roundsRef m (7 + 1))) := Lib.hid (by
            have e : kind :: roundsRef m 7 ++ [119] = kind :: roundsRef m (7 + 1) := by rw [show roundsRef m (7 + 1) = roundsRef m 7 ++ [chrRef m (8 - 7)] from rfl, hc]; rfl
            rw [← e]; exact hown)
          have HBW := Lib.hid hbw
          clear hown hbw hc
          go_wp2_with fail
          go_roundw
          case rel => exact ⟨7 + 1, _, rfl, by omega, rfl, HOWN.out, HBW.out⟩
          case measure => simp [intOf]
      · obtain ⟨tb, htb⟩ : ∃ b, m.testBit (8 - 8) = b := ⟨_, rfl⟩
        obtain ⟨tx, htx⟩ : ∃ b, m.testBit 9 = b := ⟨_, rfl⟩
        have CB := has_at m (8 - 8) hm (by omega) tb htb 0 rfl
        have CX := has_at m 9 hm (by omega) tx htx 9 rfl
        cases tx
        · cases tb
          · have hc : chrRef m (8 - 8) = 45 := by simp [chrRef, chr, htb, htx]
            clear htb htx
            go_wp2_with (first | (go_at_call 25; with_reducible first | (refine (CB.out _).mono ?_; rintro e w' ⟨rfl, rfl⟩) | (refine (CX.out _).mono ?_; rintro e w' ⟨rfl, rfl⟩)) | (at_builtin; go_must (refine append_byte rfl _ _ rfl rfl (OwnB.alloc HO.out _) 45 rfl (cell_new _ _ _) (by simp [roundsRef_len]) (Below.alloc HB.out hsz _) (by simp; omega) ?_); intro v' w1 hown hbw hsz1))
            have HOWN : Hid (OwnB w1 w.heap.size v' (kind :: roundsRef m (8 + 1))) := Lib.hid (by
              have e : kind :: roundsRef m 8 ++ [45] = kind :: roundsRef m (8 + 1) := by rw [show roundsRef m (8 + 1) = roundsRef m 8 ++ [chrRef m (8 - 8)] from rfl, hc]; rfl
              rw [← e]; exact hown)
            have HBW := Lib.hid hbw
            clear hown hbw hc
            go_wp2_with fail
            go_roundw
            case rel => exact ⟨8 + 1, _, rfl, by omega, rfl, HOWN.out, HBW.out⟩
            case measure => simp [intOf]
          · have hc : chrRef m (8 - 8) = 120 := by simp [chrRef, chr, htb, htx]
            clear htb htx
            go_wp2_with (first | (go_at_call 25; with_reducible first | (refine (CB.out _).mono ?_; rintro e w' ⟨rfl, rfl⟩) | (refine (CX.out _).mono ?_; rintro e w' ⟨rfl, rfl⟩)) | (at_builtin; go_must (refine append_byte rfl _ _ rfl rfl (OwnB.alloc HO.out _) 120 rfl (cell_new _ _ _) (by simp [roundsRef_len]) (Below.alloc HB.out hsz _) (by simp; omega) ?_); intro v' w1 hown hbw hsz1))
            have HOWN : Hid (OwnB w1 w.heap.size v' (kind :: roundsRef m (8 + 1))) := Lib.hid (by
              have e : kind :: roundsRef m 8 ++ [120] = kind :: roundsRef m (8 + 1) := by rw [show roundsRef m (8 + 1) = roundsRef m 8 ++ [chrRef m (8 - 8)] from rfl, hc]; rfl
              rw [← e]; exact hown)
            have HBW := Lib.hid hbw
            clear hown hbw hc
            go_wp2_with fail
            go_roundw
            case rel => exact ⟨8 + 1, _, rfl, by omega, rfl, HOWN.out, HBW.out⟩
            case measure => simp [intOf]
        · cases tb
          · have hc : chrRef m (8 - 8) = 84 := by simp [chrRef, htb, htx]
            clear htb htx
            go_wp2_with (first | (go_at_call 25; with_reducible first | (refine (CB.out _).mono ?_; rintro e w' ⟨rfl, rfl⟩) | (refine (CX.out _).mono ?_; rintro e w' ⟨rfl, rfl⟩)) | (at_builtin; go_must (refine append_byte rfl _ _ rfl rfl (OwnB.alloc HO.out _) 84 rfl (cell_new _ _ _) (by simp [roundsRef_len]) (Below.alloc HB.out hsz _) (by simp; omega) ?_); intro v' w1 hown hbw hsz1))
            have HOWN : Hid (OwnB w1 w.heap.size v' (kind :: roundsRef m (8 + 1))) := Lib.hid (by
              have e : kind :: roundsRef m 8 ++ [84] = kind :: roundsRef m (8 + 1) := by rw [show roundsRef m (8 + 1) = roundsRef m 8 ++ [chrRef m (8 - 8)] from rfl, hc]; rfl
              rw [← e]; exact hown)
            have HBW := Lib.hid hbw
            clear hown hbw hc
            go_wp2_with fail
            go_roundw
            case rel => exact ⟨8 + 1, _, rfl, by omega, rfl, HOWN.out, HBW.out⟩
            case measure => simp [intOf]
          · have hc : chrRef m (8 - 8) = 116 := by simp [chrRef, htb, htx]
            clear htb htx
            go_wp2_with (first | (go_at_call 25; with_reducible first | (refine (CB.out _).mono ?_; rintro e w' ⟨rfl, rfl⟩) | (refine (CX.out _).mono ?_; rintro e w' ⟨rfl, rfl⟩)) | (at_builtin; go_must (refine append_byte rfl _ _ rfl rfl (OwnB.alloc HO.out _) 116 rfl (cell_new _ _ _) (by simp [roundsRef_len]) (Below.alloc HB.out hsz _) (by simp; omega) ?_); intro v' w1 hown hbw hsz1))
            have HOWN : Hid (OwnB w1 w.heap.size v' (kind :: roundsRef m (8 + 1))) := Lib.hid (by
              have e : kind :: roundsRef m 8 ++ [116] = kind :: roundsRef m (8 + 1) := by rw [show roundsRef m (8 + 1) = roundsRef m 8 ++ [chrRef m (8 - 8)] from rfl, hc]; rfl
              rw [← e]; exact hown)
            have HBW := Lib.hid hbw
            clear hown hbw hc
            go_wp2_with fail
            go_roundw
            case rel => exact ⟨8 + 1, _, rfl, by omega, rfl, HOWN.out, HBW.out⟩
            case measure => simp [intOf]
    · obtain rfl : n = 9 := by omega
      obtain ⟨a, cap, rfl⟩ : ∃ a cap, o = .slice a 10 cap := by
        rcases HO.out.form with ⟨_, h⟩ | ⟨g, cap, h, _⟩
        · cases h
        · exact ⟨_, cap, by rw [h, List.length_cons, roundsRef_len]⟩
      have hcv := OwnB.conv HO.out
      go_wp2_with fail
      go_ret
      exact ⟨rfl, HB.out⟩
end Go.Proofs.YtbfplannbhafeaaDoor
