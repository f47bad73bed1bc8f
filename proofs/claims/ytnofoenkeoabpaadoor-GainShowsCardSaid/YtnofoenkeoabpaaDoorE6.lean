/-
  Which bytes stand for themselves; Escaped, the document's Escape: the walks.
-/
import Derived.Test.YtnofoenkeoabpaaDoorE5
namespace Go.Proofs.YtnofoenkeoabpaaDoor
open Go.RowKit

def plN (n : Nat) : Bool := decide (32 ≤ n ∧ n ≤ 126 ∧ n ≠ 37 ∧ n ≠ 92 ∧ n ≠ 39)
def escC (c : UInt8) : List UInt8 := if plN c.toNat then [c] else [92, UInt8.ofNat (48 + c.toNat / 64), UInt8.ofNat (48 + c.toNat / 8 % 8), UInt8.ofNat (48 + c.toNat % 8)]
def escL (l : List UInt8) : List UInt8 := l.flatMap escC
theorem esc_snoc (l : List UInt8) (c : UInt8) : escL (l ++ [c]) = escL l ++ escC c := by simp [escL]
theorem escC_len (c : UInt8) : (escC c).length = if plN c.toNat then 1 else 4 := by
  unfold escC; split <;> rfl
theorem escL_len (l : List UInt8) : l.length ≤ (escL l).length ∧ (escL l).length ≤ 4 * l.length := by
  induction l with
  | nil => simp [escL]
  | cons c l ih =>
    have h1 : escL (c :: l) = escC c ++ escL l := by simp [escL]
    have h2 := escC_len c
    rw [h1, List.length_append, List.length_cons]
    have : 1 ≤ (escC c).length ∧ (escC c).length ≤ 4 := by rw [h2]; split <;> omega
    omega

theorem plain_any (n : Nat) (w : World) (hn : n < 256) :
    Calls Tryd.prog 29 #[.int .u8 n] w fun e w' => e = .returned (.bool (plN n)) ∧ w' = w := by
  by_cases h1 : n < 32
  · have HK : Hid (plN n = false) := Lib.hid (by rw [plN]; simp; omega)
    go_enter Tryd.func29, Tryd.ntmps29
    go_wp2
    go_ret
    exact ⟨ret_bool HK.out.symm, rfl⟩
  · by_cases h2 : n ≤ 126
    · by_cases h3 : n = 37
      · subst h3
        have HK : Hid (plN 37 = false) := Lib.hid rfl
        go_enter Tryd.func29, Tryd.ntmps29
        go_wp2
        go_ret
        exact ⟨ret_bool HK.out.symm, rfl⟩
      · have e3 : (((n : Nat) : Int) != 37) = true := by simp; omega
        by_cases h4 : n = 92
        · subst h4
          have HK : Hid (plN 92 = false) := Lib.hid rfl
          go_enter Tryd.func29, Tryd.ntmps29
          go_wp2
          go_ret
          exact ⟨ret_bool HK.out.symm, rfl⟩
        · have e4 : (((n : Nat) : Int) != 92) = true := by simp; omega
          by_cases h5 : n = 39
          · subst h5
            have HK : Hid (plN 39 = false) := Lib.hid rfl
            go_enter Tryd.func29, Tryd.ntmps29
            go_wp2
            go_ret
            exact ⟨ret_bool HK.out.symm, rfl⟩
          · have e5 : (((n : Nat) : Int) != 39) = true := by simp; omega
            have HK : Hid (plN n = true) := Lib.hid (by rw [plN]; simp; omega)
            go_enter Tryd.func29, Tryd.ntmps29
            go_wp2
            go_ret
            exact ⟨ret_bool HK.out.symm, rfl⟩
    · have HK : Hid (plN n = false) := Lib.hid (by rw [plN]; simp; omega)
      go_enter Tryd.func29, Tryd.ntmps29
      go_wp2
      go_ret
      exact ⟨ret_bool HK.out.symm, rfl⟩

set_option maxHeartbeats 800000 in
theorem escaped_any (s : ByteArray) (w : World) (hs : s.size ≤ 3000) :
    Calls Tryd.prog 22 #[.string s] w fun e w' => e = .returned (.int .i64 ((escL (L s)).length : Nat)) ∧ Below w.heap.size w w' := by
  have HBM := Lib.hid (BytesAt.made w 5 s)
  have HBW := Lib.hid (below_bytesWorld w 5 s)
  go_enter Tryd.func22, Tryd.ntmps22
  go_wp2_with fail
  go_loopw [3, 11] (fun m i wr => ∃ k : Nat, k ≤ s.size ∧ i = .int .i64 k ∧ m = .int .i64 ((s.size + (escL ((L s).take k)).length - k : Nat) : Int) ∧ Below (Lib.bytesWorld w 5 s).heap.size (Lib.bytesWorld w 5 s) wr) (fun _ i _ => s.size - (intOf i).toNat)
  case atStart => exact ⟨0, by omega, rfl, by simp [escL], Below.refl _ _⟩
  case round =>
    obtain ⟨k, hk, rfl, rfl, hb⟩ := hrel
    have HB := Lib.hid hb
    clear hb
    have hlk : ((L s).take k).length = k := by rw [List.length_take, L_size]; omega
    have hel := escL_len ((L s).take k)
    rw [hlk] at hel
    by_cases hlt : k < s.size
    · have hcell := ((HBM.out.below HB.out (by rw [Lib.bytesWorld_size]; omega)) k (by rw [L_size]; exact hlt)).1
      have htk := take_snoc (show k < (L s).length from hlt)
      obtain ⟨c, hc⟩ : ∃ c, c = (L s).getD k 0 := ⟨_, rfl⟩
      rw [← hc] at hcell htk
      have hlen : (escL ((L s).take (k + 1))).length = (escL ((L s).take k)).length + (if plN c.toNat then 1 else 4) := by rw [htk, esc_snoc, List.length_append, escC_len]
      obtain ⟨n, hn⟩ : ∃ n, n = c.toNat := ⟨_, rfl⟩
      rw [← hn] at hcell hlen
      have hlt2 : n < 256 := by rw [hn]; exact c.toNat_lt
      have HP := Lib.hid (fun W => plain_any n W hlt2)
      have HLEN := Lib.hid hlen
      obtain ⟨e, he⟩ : ∃ e, e = (escL ((L s).take k)).length := ⟨_, rfl⟩
      rw [← he] at hel HLEN
      clear htk hc hn hlk hlen
      rw [← he]
      obtain ⟨b, hb⟩ : ∃ b, b = plN n := ⟨_, rfl⟩
      rw [← hb] at HLEN HP
      clear he hb
      obtain ⟨m, hm⟩ : ∃ m, m = s.size + e - k := ⟨_, rfl⟩
      have hm2 : m ≤ 100000 := by omega
      rw [← hm]
      have HM := Lib.hid hm
      clear hm
      cases b
      · go_wp2_with fail
        refine (HP.out _).mono ?_
        rintro r w1 ⟨rfl, rfl⟩
        go_wp2_with fail
        go_roundw
        case rel => exact ⟨k + 1, by omega, by go_num, by rw [HLEN.out]; have := HM.out; congr 1; simp; omega, HB.out⟩
        case measure => simp [intOf]; omega
      · go_wp2_with fail
        refine (HP.out _).mono ?_
        rintro r w1 ⟨rfl, rfl⟩
        go_wp2_with fail
        go_roundw
        case rel => exact ⟨k + 1, by omega, by go_num, by rw [HLEN.out]; have := HM.out; congr 1; simp; omega, HB.out⟩
        case measure => simp [intOf]; omega
    · have HKK := Lib.hid (show k = s.size by omega)
      have HL : Hid (((s.size + (escL ((L s).take k)).length - k : Nat) : Int) = ((escL (L s)).length : Nat)) := Lib.hid (by
        have e := HKK.out
        rw [show (L s).take k = L s by rw [e]; exact List.take_of_length_le (Nat.le_refl _)]
        omega)
      rw [HL.out]
      clear hel hlk
      go_wp2_with fail
      go_ret
      exact ⟨rfl, HBW.out.trans (HB.out.mono (by rw [Lib.bytesWorld_size]; omega))⟩

end Go.Proofs.YtnofoenkeoabpaaDoor
