/-
  The walks of Number: the program's, and the document's.
-/
import Derived.Test.YtnackmnoldkihaaGreatDoorW1
import Derived.Lib.IndexAny
set_option linter.unusedVariables false
set_option linter.unusedSimpArgs false
/-
  The walks of Bare, Special, Name: the program's, and the document's.
-/
namespace Go.Proofs.YtnackmnoldkihaaGreatDoor
open Go.RowKit

def bareSigns : ByteArray := ⟨#[95, 46, 47, 44, 43, 45, 58, 64, 42, 63, 91, 93, 33, 94, 61, 126, 37]⟩
def specSigns : ByteArray := ⟨#[64, 42, 35, 63, 45, 36, 33]⟩
def bareB (c : UInt8) : Bool := lettB c || digB c || hasB (L bareSigns) c

theorem index_any (s : ByteArray) (c : UInt8) (w : World) :
 Calls Tryz.prog 44 #[.string s, .int .u8 ((c.toNat : Nat) : Int)] w fun e w' => (∃ n : Int, e = .returned (.int .i64 n) ∧ decide (0 ≤ n) = hasB (L s) c) ∧ w = w' :=
 (Tryz.strings_IndexByte s ((c.toNat : Nat) : Int) w).mono fun e w' ⟨h1, h2⟩ => ⟨⟨_, h1, by
  have := Lib.contains_iff_indexByte (L s) c
  have hc : ((c.toNat : Nat) : Int).toNat.toUInt8 = c := by simp
  rw [hc, hasB, this]
  exact decide_eq_decide.2 Iff.rfl⟩, h2.symm⟩

theorem bare_any (c : UInt8) (w : World) : Calls Tryz.prog 19 #[.int .u8 ((c.toNat : Nat) : Int)] w fun e w' => e = .returned (.bool (bareB c)) ∧ w = w' := by
 have CI := Lib.hid (index_any bareSigns c w)
 have hr : bareB c = true ↔ ((97 ≤ c.toNat ∧ c.toNat ≤ 122) ∨ (65 ≤ c.toNat ∧ c.toNat ≤ 90)) ∨ (48 ≤ c.toNat ∧ c.toNat ≤ 57) ∨ hasB (L bareSigns) c = true := by
  rw [bareB, Bool.or_eq_true, Bool.or_eq_true, lettB_iff, digB_iff, or_assoc]
 obtain ⟨r, hr0⟩ : ∃ r, r = bareB c := ⟨_, rfl⟩
 obtain ⟨q, hq⟩ : ∃ q, q = hasB (L bareSigns) c := ⟨_, rfl⟩
 rw [← hr0] at hr ⊢
 rw [← hq] at hr CI
 clear hr0 hq
 obtain ⟨v, hv⟩ : ∃ v, v = c.toNat := ⟨_, rfl⟩
 rw [← hv] at hr CI ⊢
 have HR := Lib.hid hr
 clear hv hr
 unfold bareSigns at CI
 by_cases h1 : 97 ≤ v ∧ v ≤ 122
 · obtain ⟨h1, h1'⟩ := h1
   go_enter Tryz.func19, Tryz.ntmps19
   go_wp2
   go_ret
   exact ⟨ret_bool (by have := HR.out; rw [Bool.eq_iff_iff, this]; simp; try omega), rfl⟩
 · by_cases h2 : 65 ≤ v ∧ v ≤ 90
   · obtain ⟨h2, h2'⟩ := h2
     clear h1
     go_enter Tryz.func19, Tryz.ntmps19
     go_wp2
     go_ret
     exact ⟨ret_bool (by have := HR.out; rw [Bool.eq_iff_iff, this]; simp; try omega), rfl⟩
   · by_cases h3 : 48 ≤ v ∧ v ≤ 57
     · obtain ⟨h3, h3'⟩ := h3
       clear h1 h2
       go_enter Tryz.func19, Tryz.ntmps19
       go_wp2
       go_ret
       exact ⟨ret_bool (by have := HR.out; rw [Bool.eq_iff_iff, this]; simp; try omega), rfl⟩
     · have HQ : Hid (r = q) := Lib.hid (by have := HR.out; rw [Bool.eq_iff_iff, this]; constructor
                                            · rintro (h | h | h)
                                              · omega
                                              · omega
                                              · exact h
                                            · intro h; exact .inr (.inr h))
       clear HR
       by_cases g1 : 97 ≤ v
       · have g1' : ¬ v ≤ 122 := fun h => h1 ⟨g1, h⟩
         clear h1 h2 h3
         go_enter Tryz.func19, Tryz.ntmps19
         go_wp2_with fail
         refine CI.out.mono ?_
         rintro e w1 ⟨⟨n, rfl, hn⟩, rfl⟩
         have HN := Lib.hid hn
         clear hn
         go_wp2
         go_ret
         exact ⟨ret_bool (by rw [HQ.out, ← HN.out]), rfl⟩
       · by_cases g2 : 65 ≤ v
         · have g2' : ¬ v ≤ 90 := fun h => h2 ⟨g2, h⟩
           clear h1 h2 h3
           go_enter Tryz.func19, Tryz.ntmps19
           go_wp2_with fail
           refine CI.out.mono ?_
           rintro e w1 ⟨⟨n, rfl, hn⟩, rfl⟩
           have HN := Lib.hid hn
           clear hn
           go_wp2
           go_ret
           exact ⟨ret_bool (by rw [HQ.out, ← HN.out]), rfl⟩
         · by_cases g3 : 48 ≤ v
           · have g3' : ¬ v ≤ 57 := fun h => h3 ⟨g3, h⟩
             clear h1 h2 h3
             go_enter Tryz.func19, Tryz.ntmps19
             go_wp2_with fail
             refine CI.out.mono ?_
             rintro e w1 ⟨⟨n, rfl, hn⟩, rfl⟩
             have HN := Lib.hid hn
             clear hn
             go_wp2
             go_ret
             exact ⟨ret_bool (by rw [HQ.out, ← HN.out]), rfl⟩
           · clear h1 h2 h3
             go_enter Tryz.func19, Tryz.ntmps19
             go_wp2_with fail
             refine CI.out.mono ?_
             rintro e w1 ⟨⟨n, rfl, hn⟩, rfl⟩
             have HN := Lib.hid hn
             clear hn
             go_wp2
             go_ret
             exact ⟨ret_bool (by rw [HQ.out, ← HN.out]), rfl⟩

theorem rbare_any (c : UInt8) (w : World) : Calls Tryz.prog 20 #[.int .u8 ((c.toNat : Nat) : Int)] w fun e w' => e = .returned (.bool (bareB c)) ∧ w = w' := by
 have C1 : Hid (∀ W, Calls Tryz.prog 45 #[.int .u8 ((c.toNat : Nat) : Int)] W fun e w' => e = .returned (.bool (lettB c)) ∧ W = w') := Lib.hid fun W => (letter_any c W).mono fun e w' h => ⟨h.1, h.2.symm⟩
 have C2 : Hid (∀ W, Calls Tryz.prog 46 #[.int .u8 ((c.toNat : Nat) : Int)] W fun e w' => e = .returned (.bool (digB c)) ∧ W = w') := Lib.hid fun W => (digit_any c W).mono fun e w' h => ⟨h.1, h.2.symm⟩
 have C3 : Hid (∀ W, Calls Tryz.prog 43 #[.string bareSigns, .int .u8 ((c.toNat : Nat) : Int)] W fun e w' => e = .returned (.bool (hasB (L bareSigns) c)) ∧ W = w') := Lib.hid fun W => (In_any bareSigns c W (by decide)).mono fun e w' h => ⟨h.1, h.2.symm⟩
 unfold bareSigns at C3
 unfold bareB
 obtain ⟨r1, h1⟩ : ∃ r, r = lettB c := ⟨_, rfl⟩
 obtain ⟨r2, h2⟩ : ∃ r, r = digB c := ⟨_, rfl⟩
 obtain ⟨r3, h3⟩ : ∃ r, r = hasB (L bareSigns) c := ⟨_, rfl⟩
 have h3' := h3
 unfold bareSigns at h3'
 rw [← h1] at C1
 rw [← h2] at C2
 rw [← h3'] at C3
 rw [← h1, ← h2, ← h3]
 clear h1 h2 h3 h3'
 cases r1
 · cases r2
   · go_enter Tryz.func20, Tryz.ntmps20
     go_wp2_with fail
     refine (C1.out _).mono ?_
     rintro e w1 ⟨rfl, rfl⟩
     go_wp2_with fail
     refine (C2.out _).mono ?_
     rintro e w1 ⟨rfl, rfl⟩
     go_wp2_with fail
     refine (C3.out _).mono ?_
     rintro e w1 ⟨rfl, rfl⟩
     go_wp2
     go_ret
     exact ⟨by simp, rfl⟩
   · go_enter Tryz.func20, Tryz.ntmps20
     go_wp2_with fail
     refine (C1.out _).mono ?_
     rintro e w1 ⟨rfl, rfl⟩
     go_wp2_with fail
     refine (C2.out _).mono ?_
     rintro e w1 ⟨rfl, rfl⟩
     go_wp2
     go_ret
     exact ⟨by simp, rfl⟩
 · go_enter Tryz.func20, Tryz.ntmps20
   go_wp2_with fail
   refine (C1.out _).mono ?_
   rintro e w1 ⟨rfl, rfl⟩
   go_wp2
   go_ret
   exact ⟨by simp, rfl⟩

/-- A special sign. -/
def specB (l : List UInt8) : Bool := decide (l.length = 1) && hasB (L specSigns) (l.getD 0 0)
theorem special_any (s : ByteArray) (w : World) : Calls Tryz.prog 25 #[.string s] w fun e w' => e = .returned (.bool (specB (L s))) ∧ w = w' := by
 by_cases h : s.size = 1
 · have i0 := run_idx (P := Tryz.prog) (k := .i64) Tryz.underlying9 s (0 : Int) 0 rfl (by omega)
   have CI := Lib.hid (index_any specSigns ((L s).getD 0 0) w)
   obtain ⟨c, hc⟩ : ∃ c, c = (L s).getD 0 0 := ⟨_, rfl⟩
   have HR : Hid (specB (L s) = hasB (L specSigns) c) := Lib.hid (by rw [specB, ← hc, decide_eq_true (show (L s).length = 1 from h), Bool.true_and])
   rw [← hc] at i0 CI
   have h1 : ((s.size : Int) == 1) = true := by rw [h]; rfl
   unfold specSigns at CI
   clear hc h
   go_enter Tryz.func25, Tryz.ntmps25
   go_wp2_with fail
   refine CI.out.mono ?_
   rintro e w1 ⟨⟨n, rfl, hn⟩, rfl⟩
   have HN := Lib.hid hn
   clear hn
   go_wp2
   go_ret
   exact ⟨ret_bool (by rw [HR.out]; exact HN.out), rfl⟩
 · have h1 : ((s.size : Int) == 1) = false := by rw [beq_eq_false_iff_ne]; omega
   have HR : Hid (specB (L s) = false) := Lib.hid (by rw [specB, decide_eq_false (show ¬ (L s).length = 1 from h), Bool.false_and])
   clear h
   go_enter Tryz.func25, Tryz.ntmps25
   go_wp2
   go_ret
   exact ⟨ret_bool HR.out.symm, rfl⟩
theorem rspecial_any (s : ByteArray) (w : World) : Calls Tryz.prog 26 #[.string s] w fun e w' => e = .returned (.bool (specB (L s))) ∧ w = w' := by
 by_cases h : s.size = 1
 · have i0 := run_idx (P := Tryz.prog) (k := .i64) Tryz.underlying9 s (0 : Int) 0 rfl (by omega)
   have CI : Hid (∀ W, Calls Tryz.prog 43 #[.string specSigns, .int .u8 ((((L s).getD 0 0).toNat : Nat) : Int)] W fun e w' => e = .returned (.bool (hasB (L specSigns) ((L s).getD 0 0))) ∧ W = w') := Lib.hid fun W => (In_any specSigns _ W (by decide)).mono fun e w' h => ⟨h.1, h.2.symm⟩
   obtain ⟨c, hc⟩ : ∃ c, c = (L s).getD 0 0 := ⟨_, rfl⟩
   have HR : Hid (specB (L s) = hasB (L specSigns) c) := Lib.hid (by rw [specB, ← hc, decide_eq_true (show (L s).length = 1 from h), Bool.true_and])
   rw [← hc] at i0 CI
   have h1 : ((s.size : Int) == 1) = true := by rw [h]; rfl
   obtain ⟨r, hr⟩ : ∃ r, r = hasB (L specSigns) c := ⟨_, rfl⟩
   rw [← hr] at CI HR
   unfold specSigns at CI
   clear hc h hr
   go_enter Tryz.func26, Tryz.ntmps26
   go_wp2_with fail
   refine (CI.out _).mono ?_
   rintro e w1 ⟨rfl, rfl⟩
   go_wp2
   go_ret
   exact ⟨ret_bool HR.out.symm, rfl⟩
 · have h1 : ((s.size : Int) == 1) = false := by rw [beq_eq_false_iff_ne]; omega
   have HR : Hid (specB (L s) = false) := Lib.hid (by rw [specB, decide_eq_false (show ¬ (L s).length = 1 from h), Bool.false_and])
   clear h
   go_enter Tryz.func26, Tryz.ntmps26
   go_wp2
   go_ret
   exact ⟨ret_bool HR.out.symm, rfl⟩
end Go.Proofs.YtnackmnoldkihaaGreatDoor
/-
  The walks of Name and Number: the program's, and the document's.
-/
namespace Go.Proofs.YtnackmnoldkihaaGreatDoor
open Go.RowKit

theorem u8lt (c : UInt8) : c.toNat < 256 := c.toNat_lt
/-- A byte of a name: the first one, or another. -/
def nmB (first : Bool) (c : UInt8) : Bool := lettB c || c == 95 || (!first && digB c)
def nameL (l : List UInt8) : Bool := !l.isEmpty && (List.range l.length).all fun i => nmB (i == 0) (l.getD i 0)
def nmTo (l : List UInt8) (k : Nat) : Prop := ∀ i, i < k → nmB (i == 0) (l.getD i 0) = true
theorem nmTo_succ {l : List UInt8} {k : Nat} (h : nmTo l k) (hc : nmB (k == 0) (l.getD k 0) = true) : nmTo l (k + 1) := fun i hi => by
 by_cases h1 : i < k
 · exact h i h1
 · obtain rfl : i = k := by omega
   exact hc
theorem name_no {l : List UInt8} {k : Nat} (hk : k < l.length) (hc : nmB (k == 0) (l.getD k 0) = false) : nameL l = false := by
 rw [nameL, Bool.and_eq_false_iff]
 right
 rw [List.all_eq_false]
 exact ⟨k, List.mem_range.2 hk, by rw [hc]; decide⟩
theorem name_yes {l : List UInt8} (h : nmTo l l.length) : nameL l = !l.isEmpty := by
 rw [nameL, List.all_eq_true.2 (fun i hi => h i (List.mem_range.1 hi)), Bool.and_true]

theorem rname_any (s : ByteArray) (w : World) (hs : s.size ≤ maxLen) :
 Calls Tryz.prog 22 #[.string s] w fun e w' => e = .returned (.bool (nameL (L s))) ∧ w = w' := by
 unfold maxLen at hs
 have C1 : Hid (∀ W (c : UInt8), Calls Tryz.prog 45 #[.int .u8 ((c.toNat : Nat) : Int)] W fun e w' => e = .returned (.bool (lettB c)) ∧ W = w') := Lib.hid fun W c => (letter_any c W).mono fun e w' h => ⟨h.1, h.2.symm⟩
 have C2 : Hid (∀ W (c : UInt8), Calls Tryz.prog 46 #[.int .u8 ((c.toNat : Nat) : Int)] W fun e w' => e = .returned (.bool (digB c)) ∧ W = w') := Lib.hid fun W c => (digit_any c W).mono fun e w' h => ⟨h.1, h.2.symm⟩
 go_enter Tryz.func22, Tryz.ntmps22
 go_wp2_with fail
 go_loop [3] (fun i => ∃ k : Nat, k ≤ s.size ∧ i = .int .i64 k ∧ nmTo (L s) k) (fun i => s.size - (intOf i).toNat)
 case atStart => exact ⟨0, Nat.zero_le _, rfl, fun i hi => by omega⟩
 case round =>
  obtain ⟨k, hk, rfl, hnm⟩ := hrel
  have HNM := Lib.hid hnm
  clear hnm
  by_cases hlt : k < s.size
  · have hidx := run_idx (P := Tryz.prog) Tryz.underlying9 s (k := .i64) (k : Int) k rfl hlt
    obtain ⟨r, hr⟩ : ∃ r, r = nmB (k == 0) ((L s).getD k 0) := ⟨_, rfl⟩
    have HRR := Lib.hid hr
    obtain ⟨c, hc⟩ : ∃ c, c = (L s).getD k 0 := ⟨_, rfl⟩
    rw [← hc] at hidx hr
    have D1 := Lib.hid (fun W => C1.out W c)
    have D2 := Lib.hid (fun W => C2.out W c)
    unfold nmB at hr
    obtain ⟨r1, h1⟩ : ∃ r, r = lettB c := ⟨_, rfl⟩
    obtain ⟨r2, h2⟩ : ∃ r, r = digB c := ⟨_, rfl⟩
    rw [← h1] at D1 hr
    rw [← h2] at D2 hr
    clear hc h1 h2
    cases r1
    · by_cases h95 : c = 95
      · have e1 : (((c.toNat : Nat) : Int) != 95) = false := by rw [h95]; rfl
        have HR : Hid (r = true) := Lib.hid (by rw [hr, h95]; simp)
        clear hr h95
        go_wp2_with fail
        refine (D1.out _).mono ?_
        rintro e w1 ⟨rfl, rfl⟩
        go_wp2
        go_round
        case rel => exact ⟨k + 1, by omega, by go_num, nmTo_succ HNM.out (HRR.out.symm.trans HR.out)⟩
        case measure => simp [intOf]; omega
      · have e1 : (((c.toNat : Nat) : Int) != 95) = true := by
         rw [bne_iff_ne]
         intro h
         exact h95 (UInt8.toNat_inj.1 (by have : ((95 : UInt8).toNat : Int) = 95 := rfl; omega))
        have h95' : (c == 95) = false := by simpa using h95
        rw [h95'] at hr
        by_cases hk0 : k = 0
        · have HR : Hid (r = false) := Lib.hid (by rw [hr, hk0]; rfl)
          have hkg : decide ((0 : Int) < (k : Int)) = false := by simp [hk0]
          have hkg2 : decide (0 < k) = false := by simp [hk0]
          clear hr h95 h95' hk0
          go_wp2_with fail
          refine (D1.out _).mono ?_
          rintro e w1 ⟨rfl, rfl⟩
          go_wp2
          go_ret
          exact ⟨ret_bool (name_no (l := L s) hlt (HRR.out.symm.trans HR.out)).symm, rfl⟩
        · have hkg : decide ((0 : Int) < (k : Int)) = true := by simp; omega
          have hkg2 : decide (0 < k) = true := by simp; omega
          have hk0' : (k == 0) = false := by simpa using hk0
          rw [hk0'] at hr
          cases r2
          · have HR : Hid (r = false) := Lib.hid (by rw [hr]; rfl)
            clear hr h95 h95' hk0 hk0'
            go_wp2_with fail
            refine (D1.out _).mono ?_
            rintro e w1 ⟨rfl, rfl⟩
            go_wp2_with fail
            refine (D2.out _).mono ?_
            rintro e w1 ⟨rfl, rfl⟩
            go_wp2
            go_ret
            exact ⟨ret_bool (name_no (l := L s) hlt (HRR.out.symm.trans HR.out)).symm, rfl⟩
          · have HR : Hid (r = true) := Lib.hid (by rw [hr]; rfl)
            clear hr h95 h95' hk0 hk0'
            go_wp2_with fail
            refine (D1.out _).mono ?_
            rintro e w1 ⟨rfl, rfl⟩
            go_wp2_with fail
            refine (D2.out _).mono ?_
            rintro e w1 ⟨rfl, rfl⟩
            go_wp2
            go_round
            case rel => exact ⟨k + 1, by omega, by go_num, nmTo_succ HNM.out (HRR.out.symm.trans HR.out)⟩
            case measure => simp [intOf]; omega
    · have HR : Hid (r = true) := Lib.hid (by rw [hr]; rfl)
      clear hr
      go_wp2_with fail
      refine (D1.out _).mono ?_
      rintro e w1 ⟨rfl, rfl⟩
      go_wp2
      go_round
      case rel => exact ⟨k + 1, by omega, by go_num, nmTo_succ HNM.out (HRR.out.symm.trans HR.out)⟩
      case measure => simp [intOf]; omega
  · have HR : Hid (nameL (L s) = !(L s).isEmpty) := Lib.hid (name_yes (by rw [L_size]; exact fun i hi => HNM.out i (by omega)))
    cases he : (L s).isEmpty with
    | true =>
      have e1 : s.toList.isEmpty = true := by rw [isEmpty_L]; exact he
      rw [he] at HR
      clear he
      go_wp2
      go_ret
      exact ⟨ret_bool HR.out.symm, rfl⟩
    | false =>
      have e1 : s.toList.isEmpty = false := by rw [isEmpty_L]; exact he
      rw [he] at HR
      clear he
      go_wp2
      go_ret
      exact ⟨ret_bool HR.out.symm, rfl⟩
end Go.Proofs.YtnackmnoldkihaaGreatDoor
/-
  The walk of the program's Name.
-/
namespace Go.Proofs.YtnackmnoldkihaaGreatDoor
open Go.RowKit

theorem nmB_iff (first : Bool) (c : UInt8) : nmB first c = true ↔ ((97 ≤ c.toNat ∧ c.toNat ≤ 122) ∨ (65 ≤ c.toNat ∧ c.toNat ≤ 90)) ∨ c.toNat = 95 ∨ (first = false ∧ 48 ≤ c.toNat ∧ c.toNat ≤ 57) := by
 have e : (c == 95) = true ↔ c.toNat = 95 := by
  rw [beq_iff_eq]
  exact ⟨fun h => by rw [h]; rfl, fun h => UInt8.toNat_inj.1 h⟩
 rw [nmB, Bool.or_eq_true, Bool.or_eq_true, lettB_iff, e, Bool.and_eq_true, digB_iff, or_assoc]
 cases first <;> simp

set_option maxHeartbeats 1000000 in
theorem name_any (s : ByteArray) (w : World) (hs : s.size ≤ maxLen) :
 Calls Tryz.prog 21 #[.string s] w fun e w' => e = .returned (.bool (nameL (L s))) ∧ Below w.heap.size w w' := by
 unfold maxLen at hs
 have HM := Lib.hid (BytesAt.made w 5 s)
 have HB := Lib.hid (below_bytesWorld w 5 s)
 obtain ⟨wb, hwb⟩ : ∃ wb, wb = Lib.bytesWorld w 5 s := ⟨_, rfl⟩
 rw [← hwb] at HM HB
 have HWB := Lib.hid hwb
 clear hwb
 go_enter Tryz.func21, Tryz.ntmps21
 go_wp2_with fail
 rw [← HWB.out]
 go_loopw [8] (fun i wr => ∃ k : Nat, k ≤ s.size ∧ i = .int .i64 k ∧ nmTo (L s) k ∧ wr = wb) (fun i _ => s.size - (intOf i).toNat)
 case atStart => exact ⟨0, Nat.zero_le _, rfl, fun i hi => by omega, rfl⟩
 case round =>
  obtain ⟨k, hk, rfl, hnm, rfl⟩ := hrel
  have HNM := Lib.hid hnm
  clear hnm
  by_cases hlt : k < s.size
  · have hcell := (HM.out k hlt).1
    obtain ⟨r, hr⟩ : ∃ r, r = nmB (k == 0) ((L s).getD k 0) := ⟨_, rfl⟩
    have HRR := Lib.hid hr
    obtain ⟨c, hc⟩ : ∃ c, c = (L s).getD k 0 := ⟨_, rfl⟩
    rw [← hc] at hcell hr
    have hiff := nmB_iff (k == 0) c
    rw [← hr] at hiff
    obtain ⟨v, hv⟩ : ∃ v, v = c.toNat := ⟨_, rfl⟩
    rw [← hv] at hcell hiff
    clear hc hr hv
    obtain ⟨z, hz⟩ : ∃ z, z = (k == 0) := ⟨_, rfl⟩
    rw [← hz] at hiff
    have hcls : v < 48 ∨ (48 ≤ v ∧ v ≤ 57) ∨ (58 ≤ v ∧ v ≤ 64) ∨ (65 ≤ v ∧ v ≤ 90) ∨ (91 ≤ v ∧ v ≤ 94) ∨ v = 95 ∨ v = 96 ∨ (97 ≤ v ∧ v ≤ 122) ∨ 123 ≤ v := by omega
    by_cases hk0 : k = 0
    · obtain rfl : z = true := by rw [hz, hk0]; rfl
      have hkg : ((k : Int) == 0) = true := by rw [hk0]; rfl
      have hit : r = true ↔ ((97 ≤ v ∧ v ≤ 122) ∨ (65 ≤ v ∧ v ≤ 90)) ∨ v = 95 := by rw [hiff]; simp
      clear hz hk0 hiff
      rcases hcls with h | ⟨h, h'⟩ | ⟨h, h'⟩ | ⟨h, h'⟩ | ⟨h, h'⟩ | h | h | ⟨h, h'⟩ | h
      all_goals
       first
        | (have e95 : (((v : Nat) : Int) != 95) = true := by rw [bne_iff_ne]; omega)
        | (have e95 : (((v : Nat) : Int) != 95) = false := by rw [bne_eq_false_iff_eq]; omega)
       first
        | (have HR : Hid (r = true) := Lib.hid (hit.2 (by omega)))
        | (have HR : Hid (r = false) := Lib.hid ((Bool.eq_false_or_eq_true r).elim (fun e => absurd (hit.1 e) (by omega)) id))
       clear hit
       go_wp2
       first
        | (go_ret
           exact ⟨ret_bool (name_no (l := L s) hlt (HRR.out.symm.trans HR.out)).symm, HB.out⟩)
        | (go_roundw
           case rel => exact ⟨k + 1, by omega, by go_num, nmTo_succ HNM.out (HRR.out.symm.trans HR.out), by first | trivial | rfl⟩
           case measure => simp [intOf]; omega)
    · obtain rfl : z = false := by rw [hz]; simpa using hk0
      have hkg : ((k : Int) == 0) = false := by rw [beq_eq_false_iff_ne]; omega
      have hit : r = true ↔ ((97 ≤ v ∧ v ≤ 122) ∨ (65 ≤ v ∧ v ≤ 90)) ∨ v = 95 ∨ (48 ≤ v ∧ v ≤ 57) := by rw [hiff]; simp
      clear hz hk0 hiff
      rcases hcls with h | ⟨h, h'⟩ | ⟨h, h'⟩ | ⟨h, h'⟩ | ⟨h, h'⟩ | h | h | ⟨h, h'⟩ | h
      all_goals
       first
        | (have e95 : (((v : Nat) : Int) != 95) = true := by rw [bne_iff_ne]; omega)
        | (have e95 : (((v : Nat) : Int) != 95) = false := by rw [bne_eq_false_iff_eq]; omega)
       first
        | (have HR : Hid (r = true) := Lib.hid (hit.2 (by omega)))
        | (have HR : Hid (r = false) := Lib.hid ((Bool.eq_false_or_eq_true r).elim (fun e => absurd (hit.1 e) (by omega)) id))
       clear hit
       go_wp2
       first
        | (go_ret
           exact ⟨ret_bool (name_no (l := L s) hlt (HRR.out.symm.trans HR.out)).symm, HB.out⟩)
        | (go_roundw
           case rel => exact ⟨k + 1, by omega, by go_num, nmTo_succ HNM.out (HRR.out.symm.trans HR.out), by first | trivial | rfl⟩
           case measure => simp [intOf]; omega)
  · have HR : Hid (nameL (L s) = !(L s).isEmpty) := Lib.hid (name_yes (by rw [L_size]; exact fun i hi => HNM.out i (by omega)))
    cases he : (L s).isEmpty with
    | true =>
      have e1 : s.toList.isEmpty = true := by rw [isEmpty_L]; exact he
      rw [he] at HR
      clear he
      go_wp2
      go_ret
      exact ⟨ret_bool HR.out.symm, HB.out⟩
    | false =>
      have e1 : s.toList.isEmpty = false := by rw [isEmpty_L]; exact he
      rw [he] at HR
      clear he
      go_wp2
      go_ret
      exact ⟨ret_bool HR.out.symm, HB.out⟩
end Go.Proofs.YtnackmnoldkihaaGreatDoor
namespace Go.Proofs.YtnackmnoldkihaaGreatDoor
open Go.RowKit

def digsTo (l : List UInt8) (k : Nat) : Prop := ∀ i, i < k → digB (l.getD i 0) = true
theorem digsTo_succ {l : List UInt8} {k : Nat} (h : digsTo l k) (hc : digB (l.getD k 0) = true) : digsTo l (k + 1) := fun i hi => by
 by_cases h1 : i < k
 · exact h i h1
 · obtain rfl : i = k := by omega
   exact hc
def digsB (l : List UInt8) : Bool := (List.range l.length).all fun i => digB (l.getD i 0)
theorem digs_no {l : List UInt8} {k : Nat} (hk : k < l.length) (hc : digB (l.getD k 0) = false) : digsB l = false := by
 rw [digsB, List.all_eq_false]
 exact ⟨k, List.mem_range.2 hk, by rw [hc]; decide⟩
theorem digs_yes {l : List UInt8} (h : digsTo l l.length) : digsB l = true := List.all_eq_true.2 (fun i hi => h i (List.mem_range.1 hi))
/-- A positional parameter's number. -/
def numB (l : List UInt8) : Bool := digsB l && (l == [48] || (!l.isEmpty && (l.getD 0 0 != 48 && decide (l.length ≤ 4))))
theorem num_no {l : List UInt8} {k : Nat} (hk : k < l.length) (hc : digB (l.getD k 0) = false) : numB l = false := by rw [numB, digs_no hk hc, Bool.false_and]
theorem num_yes {l : List UInt8} (h : digsTo l l.length) : numB l = (l == [48] || (!l.isEmpty && (l.getD 0 0 != 48 && decide (l.length ≤ 4)))) := by rw [numB, digs_yes h, Bool.true_and]

set_option maxHeartbeats 1000000 in
theorem number_any (s : ByteArray) (w : World) (hs : s.size ≤ maxLen) :
 Calls Tryz.prog 23 #[.string s] w fun e w' => e = .returned (.bool (numB (L s))) ∧ Below w.heap.size w w' := by
 unfold maxLen at hs
 have HM := Lib.hid (BytesAt.made w 5 s)
 have HB := Lib.hid (below_bytesWorld w 5 s)
 obtain ⟨wb, hwb⟩ : ∃ wb, wb = Lib.bytesWorld w 5 s := ⟨_, rfl⟩
 rw [← hwb] at HM HB
 have HWB := Lib.hid hwb
 clear hwb
 go_enter Tryz.func23, Tryz.ntmps23
 go_wp2_with fail
 rw [← HWB.out]
 go_loopw [8] (fun i wr => ∃ k : Nat, k ≤ s.size ∧ i = .int .i64 k ∧ digsTo (L s) k ∧ wr = wb) (fun i _ => s.size - (intOf i).toNat)
 case atStart => exact ⟨0, Nat.zero_le _, rfl, fun i hi => by omega, rfl⟩
 case round =>
  obtain ⟨k, hk, rfl, hnm, rfl⟩ := hrel
  have HNM := Lib.hid hnm
  clear hnm
  by_cases hlt : k < s.size
  · have hcell := (HM.out k hlt).1
    obtain ⟨r, hr⟩ : ∃ r, r = digB ((L s).getD k 0) := ⟨_, rfl⟩
    have HRR := Lib.hid hr
    obtain ⟨c, hc⟩ : ∃ c, c = (L s).getD k 0 := ⟨_, rfl⟩
    rw [← hc] at hcell hr
    have hit := digB_iff c
    rw [← hr] at hit
    obtain ⟨v, hv⟩ : ∃ v, v = c.toNat := ⟨_, rfl⟩
    rw [← hv] at hcell hit
    clear hc hr hv
    have hcls : v < 48 ∨ (48 ≤ v ∧ v ≤ 57) ∨ 58 ≤ v := by omega
    rcases hcls with h | ⟨h, h'⟩ | h
    all_goals
     first
      | (have HR : Hid (r = true) := Lib.hid (hit.2 (by omega)))
      | (have HR : Hid (r = false) := Lib.hid ((Bool.eq_false_or_eq_true r).elim (fun e => absurd (hit.1 e) (by omega)) id))
     clear hit
     go_wp2
     first
      | (go_ret
         exact ⟨ret_bool (num_no (l := L s) hlt (HRR.out.symm.trans HR.out)).symm, HB.out⟩)
      | (go_roundw
         case rel => exact ⟨k + 1, by omega, by go_num, digsTo_succ HNM.out (HRR.out.symm.trans HR.out), by first | trivial | rfl⟩
         case measure => simp [intOf]; omega)
  · have HR := Lib.hid (num_yes (l := L s) (by rw [L_size]; exact fun i hi => HNM.out i (by omega)))
    obtain ⟨b0, h0⟩ : ∃ b, b = (L s == [48]) := ⟨_, rfl⟩
    have e0 : (s.toList == [48]) = b0 := by rw [h0, toList_L]
    rw [← h0] at HR
    obtain ⟨b1, h1⟩ : ∃ b, b = (L s).isEmpty := ⟨_, rfl⟩
    have e1 : s.toList.isEmpty = b1 := by rw [h1, toList_L]
    rw [← h1] at HR
    clear h0
    cases b0
    · cases b1
      · have hpos : 0 < s.size := by
         rw [← L_size]
         exact List.length_pos_iff.2 fun h => by rw [h] at h1; cases h1
        have i0 := run_idx (P := Tryz.prog) (k := .i64) Tryz.underlying9 s (0 : Int) 0 rfl hpos
        obtain ⟨c, hc⟩ : ∃ c, c = (L s).getD 0 0 := ⟨_, rfl⟩
        rw [← hc] at HR i0
        obtain ⟨b2, h2⟩ : ∃ b, b = (c != 48) := ⟨_, rfl⟩
        rw [← h2] at HR
        have e2 : (((c.toNat : Nat) : Int) != 48) = b2 := by
         rw [h2, Bool.eq_iff_iff, bne_iff_ne, bne_iff_ne]
         exact not_congr ⟨fun h => UInt8.toNat_inj.1 (by have : ((48 : UInt8).toNat : Int) = 48 := rfl; omega), fun h => by rw [h]; rfl⟩
        rw [L_size] at HR
        clear hc h1 h2
        cases b2
        · skip
          go_wp2
          go_ret
          exact ⟨ret_bool (by rw [HR.out]; simp <;> omega), HB.out⟩
        · by_cases h4 : s.size ≤ 4
          · rw [decide_eq_true h4] at HR
            go_wp2
            go_ret
            exact ⟨ret_bool (by rw [HR.out]; simp <;> omega), HB.out⟩
          · rw [decide_eq_false h4] at HR
            go_wp2
            go_ret
            exact ⟨ret_bool (by rw [HR.out]; simp <;> omega), HB.out⟩
      · clear h1
        go_wp2
        go_ret
        exact ⟨ret_bool (by rw [HR.out]; simp <;> omega), HB.out⟩
    · clear h1
      go_wp2
      go_ret
      exact ⟨ret_bool (by rw [HR.out]; simp <;> omega), HB.out⟩

set_option maxHeartbeats 1000000 in
theorem rnumber_any (s : ByteArray) (w : World) (hs : s.size ≤ maxLen) :
 Calls Tryz.prog 24 #[.string s] w fun e w' => e = .returned (.bool (numB (L s))) ∧ w = w' := by
 unfold maxLen at hs
 have C2 : Hid (∀ (W : World) (c : UInt8), Calls Tryz.prog 46 #[.int .u8 ((c.toNat : Nat) : Int)] W fun e w' => e = .returned (.bool (digB c)) ∧ W = w') := Lib.hid fun W c => (digit_any c W).mono fun e w' h => ⟨h.1, h.2.symm⟩
 obtain ⟨b0, h0⟩ : ∃ b, b = (L s == [48]) := ⟨_, rfl⟩
 have e0 : (s.toList == [48]) = b0 := by rw [h0, toList_L]
 have H0 := Lib.hid h0
 clear h0
 cases b0
 · go_enter Tryz.func24, Tryz.ntmps24
   go_wp2_with fail
   go_loop [3] (fun i => ∃ k : Nat, k ≤ s.size ∧ i = .int .i64 k ∧ digsTo (L s) k) (fun i => s.size - (intOf i).toNat)
   case atStart => exact ⟨0, Nat.zero_le _, rfl, fun i hi => by omega⟩
   case round =>
    obtain ⟨k, hk, rfl, hnm⟩ := hrel
    have HNM := Lib.hid hnm
    clear hnm
    by_cases hlt : k < s.size
    · have hidx := run_idx (P := Tryz.prog) Tryz.underlying9 s (k := .i64) (k : Int) k rfl hlt
      obtain ⟨r, hr⟩ : ∃ r, r = digB ((L s).getD k 0) := ⟨_, rfl⟩
      have HRR := Lib.hid hr
      obtain ⟨c, hc⟩ : ∃ c, c = (L s).getD k 0 := ⟨_, rfl⟩
      rw [← hc] at hidx hr
      have D2 := Lib.hid (fun W => C2.out W c)
      rw [← hr] at D2
      clear hc hr
      cases r
      · go_wp2_with fail
        refine (D2.out _).mono ?_
        rintro e w1 ⟨rfl, rfl⟩
        go_wp2
        go_ret
        exact ⟨ret_bool (num_no (l := L s) hlt HRR.out.symm).symm, rfl⟩
      · go_wp2_with fail
        refine (D2.out _).mono ?_
        rintro e w1 ⟨rfl, rfl⟩
        go_wp2
        go_round
        case rel => exact ⟨k + 1, by omega, by go_num, digsTo_succ HNM.out HRR.out.symm⟩
        case measure => simp [intOf]; omega
    · have HR := Lib.hid (num_yes (l := L s) (by rw [L_size]; exact fun i hi => HNM.out i (by omega)))
      rw [← H0.out] at HR
      by_cases hpos : 1 ≤ s.size
      · have h1 : (L s).isEmpty = false := by
         cases h : L s with
         | nil => have := L_size s; rw [h] at this; simp at this; omega
         | cons a l => rfl
        rw [h1] at HR
        have i0 := run_idx (P := Tryz.prog) (k := .i64) Tryz.underlying9 s (0 : Int) 0 rfl hpos
        obtain ⟨c, hc⟩ : ∃ c, c = (L s).getD 0 0 := ⟨_, rfl⟩
        rw [← hc] at HR i0
        obtain ⟨b2, h2⟩ : ∃ b, b = (c != 48) := ⟨_, rfl⟩
        rw [← h2] at HR
        have e2 : (((c.toNat : Nat) : Int) != 48) = b2 := by
         rw [h2, Bool.eq_iff_iff, bne_iff_ne, bne_iff_ne]
         exact not_congr ⟨fun h => UInt8.toNat_inj.1 (by have : ((48 : UInt8).toNat : Int) = 48 := rfl; omega), fun h => by rw [h]; rfl⟩
        rw [L_size] at HR
        clear hc h1 h2
        by_cases h4 : s.size ≤ 4
        · rw [decide_eq_true h4] at HR
          cases b2
          · go_wp2
            go_ret
            exact ⟨ret_bool (by rw [HR.out]; simp <;> omega), rfl⟩
          · go_wp2
            go_ret
            exact ⟨ret_bool (by rw [HR.out]; simp <;> omega), rfl⟩
        · rw [decide_eq_false h4] at HR
          go_wp2
          go_ret
          exact ⟨ret_bool (by rw [HR.out]; simp <;> omega), rfl⟩
      · have h1 : (L s).isEmpty = true := by
         cases h : L s with
         | nil => rfl
         | cons a l => have := L_size s; rw [h] at this; simp at this; omega
        rw [h1] at HR
        clear h1
        go_wp2
        go_ret
        exact ⟨ret_bool (by rw [HR.out]; simp <;> omega), rfl⟩
 · go_enter Tryz.func24, Tryz.ntmps24
   go_wp2
   go_ret
   exact ⟨ret_bool (by rw [show L s = [48] by simpa using H0.out.symm]; decide), rfl⟩
end Go.Proofs.YtnackmnoldkihaaGreatDoor
