/-
  The walks of the document's digits; digit; Read.
-/
import Derived.Test.YtpgneaekflhgnaaDoorR1
import Derived.Test.YtpgneaekflhgnaaDoorR2
import Derived.Test.YtpgneaekflhgnaaDoorStr
import Derived.Lib.ItoaLen
import Derived.Lib.QuietBelow
namespace Go.Proofs.YtpgneaekflhgnaaDoor
open Go.RowKit

@[go_sem] theorem Tryd.convK (w : World) (b off l c : Nat) : (convert 63 9 (.slice (some ⟨b, off, none⟩) l c)).run Tryd.prog w = convK (cellBytes w b off l) w (convFb Tryd.prog w 63 9 b off l c) :=
  run_convK 63 9 5 Tryd.underlying63 Tryd.underlying5 Tryd.underlying9 w b off l c

theorem dec_small {m : Nat} (h : m < 10) : Lib.decDigits m = [UInt8.ofNat (48 + m)] := Lib.decDigits_one h
theorem dec_big {m : Nat} (h : ¬ m < 10) : Lib.decDigits m = Lib.decDigits (m / 10) ++ [UInt8.ofNat (48 + m % 10)] := by rw [Lib.decDigits, dif_neg h]
theorem dec_len20 {u : Nat} (hu : u < 18446744073709551616) : (Lib.decDigits u).length ≤ 20 := by rw [Lib.decDigits_length]; exact Lib.nDigits_le20 u hu

set_option maxHeartbeats 800000 in
set_option maxRecDepth 100000 in
theorem refDigits_any (u : Nat) (hu : u < 18446744073709551616) (w : World) :
    Calls Tryd.prog 15 #[.int .u64 u] w fun e w' => e = .returned (.string (S (Lib.decDigits u))) ∧ Below w.heap.size w w' := by
  have HD := Lib.hid (dec_len20 hu)
  have HU := Lib.hid hu
  clear hu
  go_enter Tryd.func15, Tryd.ntmps15
  go_wp2_with fail
  go_loopw [0, 3] (fun n o wr => ∃ (m : Nat) (t : ByteArray), m ≤ u ∧ n = .int .u64 m ∧ o = .string t ∧ Lib.decDigits u = Lib.decDigits m ++ L t ∧ Below w.heap.size w wr) (fun n _ _ => (RowKit.intOf n).toNat)
  case atStart => exact ⟨u, ⟨#[]⟩, Nat.le_refl _, rfl, rfl, by rw [show L ⟨#[]⟩ = [] from rfl, List.append_nil], Below.refl _ _⟩
  case round =>
    obtain ⟨m, t, hmu, rfl, rfl, hd, hbw⟩ := hrel
    have hbs := hbw.size
    have hts : t.size ≤ 20 := by
      have h1 := HD.out
      rw [hd, List.length_append, L_size] at h1
      omega
    by_cases hm : 10 ≤ m
    · rw [dec_big (m := m) (by omega)] at hd
      have HD2 := Lib.hid hd
      have hw : IntKind.u64.wrap ((m : Int) / 10) = ((m / 10 : Nat) : Int) := by
        have := HU.out
        rw [IntKind.wrap_u64]; omega
      have HW := Lib.hid hw
      have HM := Lib.hid hmu
      clear hd hw hmu
      go_wp2_with fail
      go_roundw
      case rel =>
        refine ⟨m / 10, _, by have := HM.out; omega, congrArg (Value.int .u64) HW.out, rfl, ?_, hbw.trans ((Below.alloc (Below.refl _ _) (Nat.le_refl _) _).mono hbs)⟩
        rw [HD2.out, L_append, List.append_assoc]
        simp
      case measure =>
        rw [HW.out]
        simp [RowKit.intOf]; omega
    · rw [dec_small (m := m) (by omega)] at hd
      have HD2 := Lib.hid hd
      clear hd
      go_wp2_with fail
      go_ret
      refine ⟨ret_string ?_, hbw.trans ((Below.alloc (Below.refl _ _) (Nat.le_refl _) _).mono hbs)⟩
      apply L_inj
      rw [L_S, HD2.out, L_append]
      simp

set_option maxHeartbeats 800000 in
set_option maxRecDepth 100000 in
theorem rdig_any (n : Int) (h0 : -9223372036854775808 ≤ n) (h1 : n ≤ 9223372036854775807) (w : World) :
    Calls Tryd.prog 7 #[.int .i64 n] w fun e w' => e = .returned (.string ⟨(Lib.itoa n).toArray⟩) ∧ Below w.heap.size w w' := by
  by_cases hn : n < 0
  · have C1 : Hid (∀ W (x : Int), x = ((n.natAbs : Nat) : Int) → Calls Tryd.prog 15 #[.int .u64 x] W fun e w' => e = .returned (.string (S (Lib.decDigits n.natAbs))) ∧ Below W.heap.size W w') := Lib.hid fun W x hx => by subst hx; exact refDigits_any n.natAbs (by omega) W
    have HI : Hid (Lib.itoa n = 45 :: Lib.decDigits n.natAbs) := Lib.hid (by rw [Lib.itoa, if_pos hn])
    have k1 : IntKind.i64.wrap (n + 1) = n + 1 := IntWalk.i64_in _ ⟨by omega, by omega⟩
    have k2 : IntKind.i64.wrap (-(n + 1)) = -(n + 1) := IntWalk.i64_in _ ⟨by omega, by omega⟩
    have k3 : IntKind.u64.wrap (-(n + 1)) = -(n + 1) := by rw [IntKind.wrap_u64]; omega
    have k4 : IntKind.u64.wrap (-(n + 1) + 1) = ((n.natAbs : Nat) : Int) := by rw [IntKind.wrap_u64]; omega
    have hl : (S (Lib.decDigits n.natAbs)).size ≤ 20 := by rw [S_size]; exact dec_len20 (by omega)
    have HH := Lib.hid (And.intro h0 h1)
    clear h0 h1
    go_enter Tryd.func7, Tryd.ntmps7
    go_wp2_with fail
    refine (C1.out _ _ (by omega)).mono ?_
    rintro e w1 ⟨rfl, hb1⟩
    have HB1 := Lib.hid hb1
    clear hb1 k1 k2 k3 k4
    go_wp2_with fail
    go_ret
    exact ⟨ret_string (by rw [HI.out]; rfl), HB1.out⟩
  · have C1 : Hid (∀ W, Calls Tryd.prog 15 #[.int .u64 n] W fun e w' => e = .returned (.string (S (Lib.decDigits n.toNat))) ∧ Below W.heap.size W w') := Lib.hid fun W => by
      have := refDigits_any n.toNat (by omega) W
      rwa [Int.toNat_of_nonneg (by omega)] at this
    have HI : Hid (Lib.itoa n = Lib.decDigits n.toNat) := Lib.hid (by rw [Lib.itoa, if_neg hn])
    have k1 : IntKind.u64.wrap n = n := by rw [IntKind.wrap_u64]; omega
    have HH := Lib.hid (And.intro h0 h1)
    clear h0 h1
    go_enter Tryd.func7, Tryd.ntmps7
    go_wp2_with fail
    refine (C1.out _).mono ?_
    rintro e w1 ⟨rfl, hb1⟩
    have HB1 := Lib.hid hb1
    clear hb1
    go_wp2_with fail
    go_ret
    exact ⟨ret_string (by rw [HI.out]; rfl), HB1.out⟩


set_option maxHeartbeats 1000000 in
theorem rdigit_any (c : UInt8) (w : World) : Calls Tryd.prog 28 #[.int .u8 (c.toNat : Int)] w fun e w' => e = .returned (.int .u64 ((digV c : Nat) : Int)) ∧ w = w' := by
  have hc : c.toNat < 256 := c.toNat_lt
  have hv : digV c = if 48 ≤ c.toNat ∧ c.toNat ≤ 57 then c.toNat - 48 else if 97 ≤ c.toNat ∧ c.toNat ≤ 122 then c.toNat - 87 else if 65 ≤ c.toNat ∧ c.toNat ≤ 90 then c.toNat - 55 else 99 := rfl
  generalize c.toNat = n at hc hv
  have hcls : n < 48 ∨ (48 ≤ n ∧ n ≤ 57) ∨ (58 ≤ n ∧ n ≤ 64) ∨ (65 ≤ n ∧ n ≤ 90) ∨ (91 ≤ n ∧ n ≤ 96) ∨ (97 ≤ n ∧ n ≤ 122) ∨ 123 ≤ n := by omega
  rcases hcls with h | ⟨h, h'⟩ | ⟨h, h'⟩ | ⟨h, h'⟩ | ⟨h, h'⟩ | ⟨h, h'⟩ | h
  all_goals
    have HV : Hid ((digV c : Int) = (if 48 ≤ n ∧ n ≤ 57 then (n : Int) - 48 else if 97 ≤ n ∧ n ≤ 122 then (n : Int) - 87 else if 65 ≤ n ∧ n ≤ 90 then (n : Int) - 55 else 99)) := Lib.hid (by rw [hv]; split <;> (try split) <;> (try split) <;> omega)
    clear hv
    go_enter Tryd.func28, Tryd.ntmps28
    go_wp2
    go_ret
    have e := HV.out
    refine ⟨?_, rfl⟩
    rw [e]
    congr 2
    first | (rw [if_pos (by omega)]; simp; done) | (rw [if_neg (by omega), if_pos (by omega)]; simp; omega) | (rw [if_neg (by omega), if_neg (by omega), if_pos (by omega)]; simp; omega) | (rw [if_neg (by omega), if_neg (by omega), if_neg (by omega)]; rfl)
end Go.Proofs.YtpgneaekflhgnaaDoor
