/-
  The walk of the reference's Decode.
-/
import Derived.Test.YtjnknckbdfgjlaaU12
import Derived.Test.YtjnknckbdfgjlaaU14
import Derived.Test.YtjnknckbdfgjlaaU15
namespace Go.Proofs.Ytjnknckbdfgjlaa
open Go.RowKit

theorem no10_next {l : List UInt8} {f k : Nat} (hf : f ≤ k) (hk : k < l.length) (h : (10 : UInt8) ∉ (l.drop f).take (k - f)) (hc : l.getD k 0 ≠ 10) : (10 : UInt8) ∉ (l.drop f).take (k + 1 - f) := by
  rw [show k + 1 - f = (k - f) + 1 by omega, List.take_add_one]
  intro hm
  rcases List.mem_append.1 hm with h1 | h1
  · exact h h1
  · rw [List.getElem?_drop, show f + (k - f) = k by omega, List.getElem?_eq_getElem hk] at h1
    simp only [Option.toList_some, List.mem_singleton] at h1
    apply hc
    rw [List.getD, List.getElem?_eq_getElem hk, ← h1]; rfl

theorem line_at {l : List UInt8} {f k : Nat} (hf : f ≤ k) (hk : k < l.length) (hc : l.getD k 0 = 10) : l.drop f = (l.drop f).take (k - f) ++ 10 :: l.drop (k + 1) := by
  have h1 := (List.take_append_drop (k - f) (l.drop f)).symm
  rw [List.drop_drop, show f + (k - f) = k by omega, drop_getD l hk, hc] at h1
  exact h1

def decR : Option (Nat × List UInt8 × List UInt8) → Value
  | some (m, n, d) => .tuple #[.int .i64 (m : Nat), .string (S n), .string (S d), .bool true]
  | none => .tuple #[.int .i64 0, .string ⟨#[]⟩, .string ⟨#[]⟩, .bool false]

theorem bytesP_len {l d : List UInt8} (hb : bytesP l = some d) : d.length ≤ 45 := by
  unfold bytesP at hb
  split at hb
  · rename_i hc
    obtain ⟨x, _, rfl⟩ := Option.map_eq_some_iff.1 hb
    rw [List.length_take]; omega
  · cases hb

set_option maxRecDepth 100000 in
set_option maxHeartbeats 4000000 in
theorem refDecode_any (s : ByteArray) (w : World) (hs : s.size ≤ 100000) :
    Calls Try.prog 12 #[.string s] w fun e w' => e = .returned (decR (decodeP (L s))) ∧ Below w.heap.size w w' := by
  have hls : (L s).length = s.size := rfl
  go_enter Try.func12, Try.ntmps12
  go_wp2_with fail
  go_loopw [6, 7, 8, 9, 10, 11] (fun vm vn vd vf vfr vi wr => ∃ (m : Nat) (n acc : List UInt8) (b : Bool) (fr k : Nat), vm = .int .i64 (m : Nat) ∧ vn = .string (S n) ∧ vd = .string (S acc) ∧ vf = .bool b ∧ vfr = .int .i64 (fr : Nat) ∧ vi = .int .i64 (k : Nat) ∧
      fr ≤ k ∧ k ≤ s.size ∧ (10 : UInt8) ∉ ((L s).drop fr).take (k - fr) ∧ Below w.heap.size w wr ∧ acc.length + 45 * (s.size - fr) ≤ 45 * s.size ∧
      (b = true → fr = 0 ∧ acc = []) ∧ (b = false → decodeP (L s) = (decLoop ((L s).drop fr)).map fun d => (m, n, acc ++ d))) (fun _ _ _ _ _ i _ => s.size - (intOf i).toNat)
  case atStart => exact ⟨0, [], [], true, 0, 0, rfl, rfl, rfl, rfl, rfl, rfl, by omega, by omega, by simp, Below.refl _ _, by simp, fun _ => ⟨rfl, rfl⟩, fun h => by cases h⟩
  case round =>
    obtain ⟨m, n, acc, b, fr, k, rfl, rfl, rfl, rfl, rfl, rfl, hfk, hk, hno10, hbw, hal, hb1, hb2⟩ := hrel
    have hbs := hbw.size
    have H10 := Lib.hid hno10
    have HB1 := Lib.hid hb1
    have HB2 := Lib.hid hb2
    have HAL := Lib.hid hal
    clear hno10 hb1 hb2 hal
    by_cases hlt : k < s.size
    · have i0 := run_idx (P := Try.prog) (k := .i64) Try.underlying9 s (k : Int) k rfl hlt
      obtain ⟨c, hc⟩ : ∃ c, c = (L s).getD k 0 := ⟨_, rfl⟩
      rw [← hc] at i0
      by_cases he : c = 10
      · have hla := line_at hfk (by omega) (hc ▸ he)
        obtain ⟨a1, a2, a3⟩ := lineOf_app (r := (L s).drop (k + 1)) H10.out
        rw [← hla] at a1 a2 a3
        have hpart : L (s.extract fr k) = lineOf ((L s).drop fr) := by rw [a1, L_extract]
        have ht : (((c.toNat : Nat) : Int) == 10) = true := by rw [he]; rfl
        have ht2 : (((c.toNat : Nat) : Int) != 10) = false := by rw [he]; rfl
        have hps : (s.extract fr k).size ≤ 100000 := by simp; omega
        have hafter : L (s.extract (k + 1) s.size) = (L s).drop (k + 1) := by rw [L_extract, List.take_of_length_le (by simp; omega)]
        have HP := Lib.hid hpart
        have HPS := Lib.hid hps
        have HAF := Lib.hid hafter
        have A2 := Lib.hid a2
        have A3 := Lib.hid a3
        clear hc he hla a1 a2 a3 hpart hps hafter
        cases b
        · have hdec := HB2.out rfl
          rw [decLoop_yes A3.out, A2.out] at hdec
          have HD := Lib.hid hdec
          clear hdec
          go_wp2_with fail
          refine (refBytes_any (s.extract fr k) _ HPS.out).mono ?_
          rw [HP.out]
          rintro e w' ⟨⟨x, ok, rfl, hok, hx⟩, hb⟩
          have hb3 := hbw.trans (hb.mono hbs)
          clear hb
          cases hbp : bytesP (lineOf ((L s).drop fr)) with
          | none =>
            rw [hbp] at hok
            simp only [Option.isSome_none] at hok
            subst hok
            have hno : decodeP (L s) = none := by rw [HD.out, hbp]; rfl
            have HNO := Lib.hid hno
            clear hno hbp hx
            go_wp2_with fail
            refine bodyPost_ret (v := .tuple #[.int .i64 0, .string ⟨#[]⟩, .string ⟨#[]⟩, .bool false]) (by simp [results, Try.results12, go_sem]) rfl ⟨?_, ?_⟩
            · rw [HNO.out]; rfl
            · exact hb3
          | some d =>
            have hxd := hx d hbp
            rw [hbp] at hok
            simp only [Option.isSome_some] at hok
            subst hok
            have hdl := bytesP_len hbp
            have HBP := Lib.hid hbp
            clear hx hbp
            by_cases hd : d = []
            · subst hd
              have hxe : x.toList.isEmpty = true := by rw [isEmpty_L, hxd]; rfl
              by_cases hend : (L s).drop (k + 1) = [101, 110, 100, 10]
              · have te : ((s.extract (k + 1) s.size).toList == [101, 110, 100, 10]) = true := by rw [toList_L, HAF.out, hend]; rfl
                have hyes : decodeP (L s) = some (m, n, acc) := by rw [HD.out, HBP.out, hend]; simp
                have HY := Lib.hid hyes
                clear hyes hend hxd
                go_wp2_with fail
                refine bodyPost_ret (v := .tuple #[.int .i64 (m : Nat), .string (S n), .string (S acc), .bool true]) (by simp [results, Try.results12, go_sem]) rfl ⟨?_, ?_⟩
                · rw [HY.out]; rfl
                · exact hb3
              · have te : ((s.extract (k + 1) s.size).toList == [101, 110, 100, 10]) = false := by rw [toList_L, HAF.out, beq_eq_false_iff_ne]; exact hend
                have hno : decodeP (L s) = none := by rw [HD.out, HBP.out]; simp [hend]
                have HNO := Lib.hid hno
                clear hno hend hxd
                go_wp2_with fail
                refine bodyPost_ret (v := .tuple #[.int .i64 0, .string ⟨#[]⟩, .string ⟨#[]⟩, .bool false]) (by simp [results, Try.results12, go_sem]) rfl ⟨?_, ?_⟩
                · rw [HNO.out]; rfl
                · exact hb3
            · have hxe : x.toList.isEmpty = false := by rw [isEmpty_L, hxd, L_S]; simpa using hd
              have hxs : x.size ≤ 45 := by rw [hxd]; exact hdl
              have hsl : (S acc).size ≤ 5000000 := by rw [S_size]; have := HAL.out; omega
              have hgo : decodeP (L s) = (decLoop ((L s).drop (k + 1))).map fun q => (m, n, (acc ++ d) ++ q) := by
                rw [HD.out, HBP.out]
                simp only [hd, if_false, Option.map_map]
                congr 1
                funext q; simp
              have happ : S acc ++ x = S (acc ++ d) := by rw [hxd, S_append]
              have HG := Lib.hid hgo
              have HAP := Lib.hid happ
              clear hgo happ hd hxd
              go_wp2_with fail
              rw [HAP.out]
              go_round
              case rel => exact ⟨m, n, acc ++ d, false, k + 1, k + 1, rfl, rfl, rfl, rfl, by go_num, by go_num, by omega, by omega, by simp, hb3, by have := HAL.out; rw [List.length_append]; omega, (fun h => by cases h), fun _ => HG.out⟩
              case measure => simp [intOf]; omega
        · obtain ⟨hf0, hacc⟩ := HB1.out rfl
          subst hf0 hacc
          rw [List.drop_zero] at HP A2 A3
          cases hh : headP (lineOf (L s)) with
          | none =>
            have hno : decodeP (L s) = none := by rw [decodeP, if_pos A3.out, hh]; rfl
            have HNO := Lib.hid hno
            have HH := Lib.hid hh
            clear hno hh
            go_wp2_with fail
            refine (refHead_any (s.extract 0 k) _ HPS.out).mono ?_
            rw [HP.out, HH.out]
            rintro e w' ⟨rfl, hb⟩
            have hb3 := hbw.trans (hb.mono hbs)
            clear hb
            simp only [headR]
            go_wp2_with fail
            refine bodyPost_ret (v := .tuple #[.int .i64 0, .string ⟨#[]⟩, .string ⟨#[]⟩, .bool false]) (by simp [results, Try.results12, go_sem]) rfl ⟨?_, ?_⟩
            · rw [HNO.out]; rfl
            · exact hb3
          | some r =>
            obtain ⟨m1, n1⟩ := r
            have hgo : decodeP (L s) = (decLoop ((L s).drop (k + 1))).map fun d => (m1, n1, [] ++ d) := by rw [decodeP, if_pos A3.out, hh, A2.out]; rfl
            have HG := Lib.hid hgo
            have HH := Lib.hid hh
            clear hgo hh
            go_wp2_with fail
            refine (refHead_any (s.extract 0 k) _ HPS.out).mono ?_
            rw [HP.out, HH.out]
            rintro e w' ⟨rfl, hb⟩
            have hb3 := hbw.trans (hb.mono hbs)
            clear hb
            simp only [headR]
            go_wp2_with fail
            go_round
            case rel => exact ⟨m1, n1, [], false, k + 1, k + 1, rfl, rfl, rfl, rfl, by go_num, by go_num, by omega, by omega, by simp, hb3, by simp; omega, (fun h => by cases h), fun _ => HG.out⟩
            case measure => simp [intOf]; omega
      · have hnx := no10_next hfk (by omega) H10.out (hc ▸ he)
        have ht : (((c.toNat : Nat) : Int) == 10) = false := by
          rw [beq_eq_false_iff_ne]; intro h; exact he (UInt8.toNat_inj.1 (by have : (10 : UInt8).toNat = 10 := rfl; omega))
        have ht2 : (((c.toNat : Nat) : Int) != 10) = true := by rw [bne, ht]; rfl
        have HNX := Lib.hid hnx
        clear hc he hnx
        go_wp2_with fail
        go_round
        case rel => exact ⟨m, n, acc, b, fr, k + 1, rfl, rfl, rfl, rfl, rfl, by go_num, by omega, by omega, HNX.out, hbw, HAL.out, HB1.out, HB2.out⟩
        case measure => simp [intOf]; omega
    · have hn10 : (10 : UInt8) ∉ (L s).drop fr := by
        have := H10.out
        rwa [List.take_of_length_le (by simp; omega)] at this
      have hno : decodeP (L s) = none := by
        cases b
        · rw [HB2.out rfl, decLoop_no hn10]; rfl
        · obtain ⟨hf0, _⟩ := HB1.out rfl
          subst hf0
          rw [decodeP, if_neg (by simpa using hn10)]
      have HNO := Lib.hid hno
      clear hno hn10
      go_wp2_with fail
      refine bodyPost_ret (v := .tuple #[.int .i64 0, .string ⟨#[]⟩, .string ⟨#[]⟩, .bool false]) (by simp [results, Try.results12, go_sem]) rfl ⟨?_, ?_⟩
      · rw [HNO.out]; rfl
      · exact hbw
end Go.Proofs.Ytjnknckbdfgjlaa
