/-
  Text, the document's Text; which bytes stand for themselves, Escaped, the document's Escape: the walks.
-/
import Derived.Test.YtnofoenkeoabpaaDoorR1
namespace Go.Proofs.YtnofoenkeoabpaaDoor
open Go.RowKit

theorem beq_byte (b c : UInt8) : (((b.toNat : Nat) : Int) == ((c.toNat : Nat) : Int)) = (b == c) := by
  rw [Bool.eq_iff_iff, beq_iff_eq, beq_iff_eq]
  constructor
  · intro h; exact UInt8.toNat_inj.1 (by omega)
  · intro h; rw [h]
theorem take_snoc {l : List UInt8} {k : Nat} (h : k < l.length) : l.take (k + 1) = l.take k ++ [l.getD k 0] := by
  rw [List.take_add_one]; simp [List.getD, h]

def okN (n : Nat) : Bool := decide ((32 ≤ n ∧ n ≤ 126) ∨ n = 9 ∨ n = 10)
def okB (c : UInt8) : Bool := okN c.toNat
def oksB (l : List UInt8) : Bool := l.all okB
def txtB (l : List UInt8) : Bool := oksB l && (!l.isEmpty && l.getD (l.length - 1) 0 == 10)
theorem oks_snoc (l : List UInt8) (c : UInt8) : oksB (l ++ [c]) = (oksB l && okB c) := by simp [oksB]
theorem oks_take {l : List UInt8} {k : Nat} (h : k < l.length) (hn : okB (l.getD k 0) = false) : oksB l = false := by
  unfold oksB
  rw [List.all_eq_false]
  refine ⟨l.getD k 0, ?_, by rw [hn]; decide⟩
  simp [List.getD, h]

set_option maxHeartbeats 800000 in
theorem text_any (s : ByteArray) (w : World) (hs : s.size ≤ maxLen) :
    Calls Tryd.prog 19 #[.string s] w fun e w' => e = .returned (.bool (txtB (L s))) ∧ Below w.heap.size w w' := by
  unfold maxLen at hs
  have HBM := Lib.hid (BytesAt.made w 5 s)
  have HBW := Lib.hid (below_bytesWorld w 5 s)
  go_enter Tryd.func19, Tryd.ntmps19
  go_wp2_with fail
  go_loopw [8] (fun i wr => ∃ k : Nat, k ≤ s.size ∧ i = .int .i64 k ∧ oksB ((L s).take k) = true ∧ Below (Lib.bytesWorld w 5 s).heap.size (Lib.bytesWorld w 5 s) wr) (fun i _ => s.size - (intOf i).toNat)
  case atStart => exact ⟨0, by omega, rfl, rfl, Below.refl _ _⟩
  case round =>
    obtain ⟨k, hk, rfl, hok, hb⟩ := hrel
    have HB := Lib.hid hb
    have HO := Lib.hid hok
    clear hb hok
    by_cases hlt : k < s.size
    · have hcell := ((HBM.out.below HB.out (by rw [Lib.bytesWorld_size]; omega)) k (by rw [L_size]; exact hlt)).1
      have htk := take_snoc (show k < (L s).length from hlt)
      obtain ⟨c, hc⟩ : ∃ c, c = (L s).getD k 0 := ⟨_, rfl⟩
      rw [← hc] at hcell htk
      have HTK := Lib.hid htk
      have HNO : Hid (okB c = false → txtB (L s) = false) := Lib.hid fun h => by
        rw [txtB, oks_take (show k < (L s).length from hlt) (by rw [← hc]; exact h)]; rfl
      obtain ⟨n, hn⟩ : ∃ n, n = c.toNat := ⟨_, rfl⟩
      rw [← hn] at hcell
      have hlt2 : n < 256 := by rw [hn]; exact c.toNat_lt
      have HN := Lib.hid (show okB c = okN n by rw [okB, hn])
      clear htk hc hn
      by_cases h9 : n = 9
      · have HK : Hid (okB c = true) := Lib.hid (by rw [HN.out, okN]; simp; omega)
        subst h9
        go_wp2
        go_roundw
        case rel => exact ⟨k + 1, by omega, by go_num, by rw [HTK.out, oks_snoc, HO.out, HK.out]; rfl, HB.out⟩
        case measure => simp [intOf]; omega
      · have e9 : (((n : Nat) : Int) != 9) = true := by simp; omega
        by_cases h10 : n = 10
        · have HK : Hid (okB c = true) := Lib.hid (by rw [HN.out, okN]; simp; omega)
          subst h10
          go_wp2
          go_roundw
          case rel => exact ⟨k + 1, by omega, by go_num, by rw [HTK.out, oks_snoc, HO.out, HK.out]; rfl, HB.out⟩
          case measure => simp [intOf]; omega
        · have e10 : (((n : Nat) : Int) != 10) = true := by simp; omega
          by_cases h32 : n < 32
          · have HK : Hid (okB c = false) := Lib.hid (by rw [HN.out, okN]; simp; omega)
            go_wp2
            go_ret
            exact ⟨ret_bool (HNO.out HK.out).symm, HBW.out.trans (HB.out.mono (by rw [Lib.bytesWorld_size]; omega))⟩
          · by_cases h126 : n ≤ 126
            · have HK : Hid (okB c = true) := Lib.hid (by rw [HN.out, okN]; simp; omega)
              go_wp2
              go_roundw
              case rel => exact ⟨k + 1, by omega, by go_num, by rw [HTK.out, oks_snoc, HO.out, HK.out]; rfl, HB.out⟩
              case measure => simp [intOf]; omega
            · have HK : Hid (okB c = false) := Lib.hid (by rw [HN.out, okN]; simp; omega)
              go_wp2
              go_ret
              exact ⟨ret_bool (HNO.out HK.out).symm, HBW.out.trans (HB.out.mono (by rw [Lib.bytesWorld_size]; omega))⟩
    · have HKK := Lib.hid (show k = s.size by omega)
      have HF : Hid (oksB (L s) = true) := Lib.hid (by rw [← HO.out, HKK.out]; congr 1; exact (List.take_of_length_le (Nat.le_refl _)).symm)
      by_cases h0 : L s = []
      · have e0 : s.toList.isEmpty = true := by rw [toList_L, h0]; rfl
        have HR : Hid (txtB (L s) = false) := Lib.hid (by rw [h0]; rfl)
        clear h0
        go_wp2
        go_ret
        exact ⟨ret_bool HR.out.symm, HBW.out.trans (HB.out.mono (by rw [Lib.bytesWorld_size]; omega))⟩
      · have e0 : s.toList.isEmpty = false := by rw [toList_L]; simpa using h0
        have hp : 0 < s.size := List.length_pos_iff.2 h0
        have i0 := run_idx (P := Tryd.prog) (k := .i64) Tryd.underlying9 s ((s.size : Int) - 1) (s.size - 1) (by omega) (by omega)
        obtain ⟨c, hc⟩ : ∃ c, c = (L s).getD (s.size - 1) 0 := ⟨_, rfl⟩
        rw [← hc] at i0
        have e1 : (((c.toNat : Nat) : Int) == 10) = (c == 10) := beq_byte c 10
        obtain ⟨b, hb⟩ : ∃ b, (c == 10) = b := ⟨_, rfl⟩
        rw [hb] at e1
        have HR : Hid (txtB (L s) = b) := Lib.hid (by
          rw [txtB, HF.out, ← hb, hc]
          have : (L s).isEmpty = false := by simpa using h0
          rw [this]; rfl)
        clear h0 hc hb
        cases b
        · go_wp2
          go_ret
          exact ⟨ret_bool HR.out.symm, HBW.out.trans (HB.out.mono (by rw [Lib.bytesWorld_size]; omega))⟩
        · go_wp2
          go_ret
          exact ⟨ret_bool HR.out.symm, HBW.out.trans (HB.out.mono (by rw [Lib.bytesWorld_size]; omega))⟩

end Go.Proofs.YtnofoenkeoabpaaDoor
