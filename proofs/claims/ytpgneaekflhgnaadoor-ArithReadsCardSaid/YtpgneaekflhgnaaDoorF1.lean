/-
  The walk of ArithReads.
-/
import Derived.Test.YtpgneaekflhgnaaDoorA18
import Derived.Test.YtpgneaekflhgnaaDoorD2
namespace Go.Proofs.YtpgneaekflhgnaaDoor
open Go.RowKit

theorem itoa_len (n : Int) (h0 : -9223372036854775808 ≤ n) (h1 : n ≤ 9223372036854775807) : (Lib.itoa n).length ≤ 21 := by
  rw [Lib.itoa]
  split
  · have := dec_len20 (u := n.natAbs) (by omega)
    rw [List.length_cons]; omega
  · have := dec_len20 (u := n.toNat) (by omega)
    omega
set_option maxHeartbeats 2000000 in
set_option maxRecDepth 100000 in
theorem reads_any (s : ByteArray) (n : Int) (h0 : -9223372036854775808 ≤ n) (h1 : n ≤ 9223372036854775807) (w : World) (ht : Tab w) (he : ErrV w) :
    Calls Tryd.prog 4 #[.string s, .int .i64 n] w fun e w' => e = .returned (.bool true) ∧ Below w.heap.size w w' := by
  have CA := Lib.hid (anchor_any w ht)
  have HT := Lib.hid (And.intro ht he)
  have HN := Lib.hid (And.intro h0 h1)
  clear ht he
  by_cases hs : 100 < s.size
  · clear h0 h1
    go_enter Tryd.func4, Tryd.ntmps4
    go_wp2_with fail
    refine CA.out.mono ?_
    rintro e w1 ⟨rfl, hb1⟩
    have H1 := Lib.hid hb1
    clear hb1
    go_wp2_with fail
    go_ret
    exact ⟨rfl, H1.out⟩
  · have hs2 : s.size ≤ 100 := by omega
    have CR : Hid (∀ W, ErrV W → Calls Tryd.prog 11 #[.string s] W fun e w' => e = .returned (readV (readL (L s))) ∧ Below W.heap.size W w') := Lib.hid fun W h => read_any s W (by omega) fun _ => h
    have CQ : Hid (∀ W, Calls Tryd.prog 12 #[.string s] W fun e w' => e = .returned (readV (readL (L s))) ∧ W = w') := Lib.hid fun W => rread_any s W (by omega)
    obtain ⟨dg, hdg⟩ : ∃ dg : ByteArray, dg = ⟨(Lib.itoa n).toArray⟩ := ⟨_, rfl⟩
    have CD : Hid (∀ W, Tab W → Calls Tryd.prog 13 #[.int .i64 n] W fun e w' => e = .returned (.string dg) ∧ Below W.heap.size W w') := Lib.hid fun W h => by rw [hdg]; exact digits_any n h0 h1 W h
    have CE : Hid (∀ W, Calls Tryd.prog 7 #[.int .i64 n] W fun e w' => e = .returned (.string dg) ∧ Below W.heap.size W w') := Lib.hid fun W => by rw [hdg]; exact rdig_any n h0 h1 W
    have hdd : (dg.toList == dg.toList) = true := by simp
    have CB : Hid (0 ≤ n → ∀ W, Calls Tryd.prog 11 #[.string dg] W fun e w' => e = .returned (.tuple #[.int .i64 n, .bool true]) ∧ Below W.heap.size W w') := Lib.hid fun hn W => by
      have e1 : L dg = Lib.decDigits n.toNat := by
        rw [hdg]
        show Lib.itoa n = _
        rw [Lib.itoa, if_neg (by omega)]
      have e2 : readL (L dg) = some n.toNat := by rw [e1]; exact readL_dec _ (by omega)
      have h := read_any dg W (by
        have := itoa_len n h0 h1
        rw [hdg]
        show (Lib.itoa n).toArray.size ≤ 1000
        simp; omega) (fun h => by rw [e2] at h; cases h)
      rw [e2] at h
      have e3 : readV (some n.toNat) = .tuple #[.int .i64 n, .bool true] := by
        show Value.tuple #[.int .i64 ((n.toNat : Nat) : Int), .bool true] = _
        rw [Int.toNat_of_nonneg hn]
      rwa [e3] at h
    clear hdg hs
    cases hr : readL (L s) with
    | none =>
      rw [hr] at CR CQ
      rw [show readV none = .tuple #[.int .i64 0, .bool false] from rfl] at CR CQ
      by_cases hn : n < 0
      · clear h0 h1
        go_enter Tryd.func4, Tryd.ntmps4
        go_wp2_with fail
        refine CA.out.mono ?_
        rintro e w1 ⟨rfl, hb1⟩
        have H1 := Lib.hid hb1
        clear hb1
        go_wp2_with fail
        refine (CR.out _ (HT.out.2.below H1.out)).mono ?_
        rintro e w2 ⟨rfl, hb2⟩
        have H2 := Lib.hid (H1.out.trans (hb2.mono H1.out.size))
        clear hb2
        go_wp2_with fail
        refine (CQ.out _).mono ?_
        rintro e w2 ⟨rfl, rfl⟩
        go_wp2_with fail
        refine (CD.out _ (HT.out.1.on H2.out)).mono ?_
        rintro e w3 ⟨rfl, hb3⟩
        have H3 := Lib.hid (H2.out.trans (hb3.mono H2.out.size))
        clear hb3
        go_wp2_with fail
        refine (CE.out _).mono ?_
        rintro e w4 ⟨rfl, hb4⟩
        have H4 := Lib.hid (H3.out.trans (hb4.mono H3.out.size))
        clear hb4
        go_wp2_with fail
        go_ret
        exact ⟨rfl, H4.out⟩
      · have hn2 : 0 ≤ n := by omega
        have CB2 := Lib.hid (CB.out hn2)
        clear h0 h1
        go_enter Tryd.func4, Tryd.ntmps4
        go_wp2_with fail
        refine CA.out.mono ?_
        rintro e w1 ⟨rfl, hb1⟩
        have H1 := Lib.hid hb1
        clear hb1
        go_wp2_with fail
        refine (CR.out _ (HT.out.2.below H1.out)).mono ?_
        rintro e w2 ⟨rfl, hb2⟩
        have H2 := Lib.hid (H1.out.trans (hb2.mono H1.out.size))
        clear hb2
        go_wp2_with fail
        refine (CQ.out _).mono ?_
        rintro e w2 ⟨rfl, rfl⟩
        go_wp2_with fail
        refine (CD.out _ (HT.out.1.on H2.out)).mono ?_
        rintro e w3 ⟨rfl, hb3⟩
        have H3 := Lib.hid (H2.out.trans (hb3.mono H2.out.size))
        clear hb3
        go_wp2_with fail
        refine (CE.out _).mono ?_
        rintro e w4 ⟨rfl, hb4⟩
        have H4 := Lib.hid (H3.out.trans (hb4.mono H3.out.size))
        clear hb4
        go_wp2_with fail
        refine (CD.out _ (HT.out.1.on H4.out)).mono ?_
        rintro e w5 ⟨rfl, hb5⟩
        have H5 := Lib.hid (H4.out.trans (hb5.mono H4.out.size))
        clear hb5
        go_wp2_with fail
        refine (CB2.out _).mono ?_
        rintro e w6 ⟨rfl, hb6⟩
        have H6 := Lib.hid (H5.out.trans (hb6.mono H5.out.size))
        clear hb6
        go_wp2_with fail
        go_ret
        exact ⟨rfl, H6.out⟩
    | some v =>
      rw [hr] at CR CQ
      rw [show readV (some v) = .tuple #[.int .i64 (v : Int), .bool true] from rfl] at CR CQ
      by_cases hn : n < 0
      · clear h0 h1
        go_enter Tryd.func4, Tryd.ntmps4
        go_wp2_with fail
        refine CA.out.mono ?_
        rintro e w1 ⟨rfl, hb1⟩
        have H1 := Lib.hid hb1
        clear hb1
        go_wp2_with fail
        refine (CR.out _ (HT.out.2.below H1.out)).mono ?_
        rintro e w2 ⟨rfl, hb2⟩
        have H2 := Lib.hid (H1.out.trans (hb2.mono H1.out.size))
        clear hb2
        go_wp2_with fail
        refine (CQ.out _).mono ?_
        rintro e w2 ⟨rfl, rfl⟩
        go_wp2_with fail
        refine (CD.out _ (HT.out.1.on H2.out)).mono ?_
        rintro e w3 ⟨rfl, hb3⟩
        have H3 := Lib.hid (H2.out.trans (hb3.mono H2.out.size))
        clear hb3
        go_wp2_with fail
        refine (CE.out _).mono ?_
        rintro e w4 ⟨rfl, hb4⟩
        have H4 := Lib.hid (H3.out.trans (hb4.mono H3.out.size))
        clear hb4
        go_wp2_with fail
        go_ret
        exact ⟨rfl, H4.out⟩
      · have hn2 : 0 ≤ n := by omega
        have CB2 := Lib.hid (CB.out hn2)
        clear h0 h1
        go_enter Tryd.func4, Tryd.ntmps4
        go_wp2_with fail
        refine CA.out.mono ?_
        rintro e w1 ⟨rfl, hb1⟩
        have H1 := Lib.hid hb1
        clear hb1
        go_wp2_with fail
        refine (CR.out _ (HT.out.2.below H1.out)).mono ?_
        rintro e w2 ⟨rfl, hb2⟩
        have H2 := Lib.hid (H1.out.trans (hb2.mono H1.out.size))
        clear hb2
        go_wp2_with fail
        refine (CQ.out _).mono ?_
        rintro e w2 ⟨rfl, rfl⟩
        go_wp2_with fail
        refine (CD.out _ (HT.out.1.on H2.out)).mono ?_
        rintro e w3 ⟨rfl, hb3⟩
        have H3 := Lib.hid (H2.out.trans (hb3.mono H2.out.size))
        clear hb3
        go_wp2_with fail
        refine (CE.out _).mono ?_
        rintro e w4 ⟨rfl, hb4⟩
        have H4 := Lib.hid (H3.out.trans (hb4.mono H3.out.size))
        clear hb4
        go_wp2_with fail
        refine (CD.out _ (HT.out.1.on H4.out)).mono ?_
        rintro e w5 ⟨rfl, hb5⟩
        have H5 := Lib.hid (H4.out.trans (hb5.mono H4.out.size))
        clear hb5
        go_wp2_with fail
        refine (CB2.out _).mono ?_
        rintro e w6 ⟨rfl, hb6⟩
        have H6 := Lib.hid (H5.out.trans (hb6.mono H5.out.size))
        clear hb6
        go_wp2_with fail
        go_ret
        exact ⟨rfl, H6.out⟩
end Go.Proofs.YtpgneaekflhgnaaDoor
