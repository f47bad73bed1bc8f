/-
  The walks of the statements QuoteReads and QuoteJoins.
-/
import Derived.Test.YtfeejbmpnphnhaaDoorQ5
namespace Go.Proofs.YtfeejbmpnphnhaaDoor
open Go.RowKit

set_option maxRecDepth 100000 in
set_option maxHeartbeats 2000000 in
theorem reads_any (s q : ByteArray) (w : World) (hs0 : s.size ≤ 140737488355327) (hq0 : q.size ≤ 140737488355327) (hv : Held w) :
    Calls Tryd.prog 3 #[.string s, .string q] w fun e w' => e = .returned (.bool true) ∧ Below w.heap.size w w' := by
  have w0pos := hv.2
  have HV := Lib.hid hv
  have CA := Lib.hid (anchor_any w hv)
  clear hv
  by_cases hsum : s.size + q.size ≤ 1000
  · obtain ⟨u, hu⟩ : ∃ u, u = S (wordL (L s)) := ⟨_, rfl⟩
    obtain ⟨v, hvv⟩ : ∃ v, v = S (singleL (L s)) := ⟨_, rfl⟩
    have hus : u.size ≤ 100000 := by rw [hu, S_size]; have := wordL_len (L s); rw [L_size] at this; omega
    have hvs : v.size ≤ 100000 := by rw [hvv, S_size]; have := singleL_len (L s); rw [L_size] at this; omega
    have C1 := Lib.hid (fun w hv => word_any s w (by omega) hv)
    have C2 := Lib.hid (fun w => read_any u w hus)
    have C3 := Lib.hid (fun w hv => single_any s w (by omega) hv)
    have C4 := Lib.hid (fun w => read_any v w hvs)
    rw [show readL (L u) = some (L s) by rw [hu, L_S, read_word], show readV (some (L s)) = .tuple #[.string s, .int .i64 0] from rfl] at C2
    rw [show readL (L v) = some (L s) by rw [hvv, L_S, read_single], show readV (some (L s)) = .tuple #[.string s, .int .i64 0] from rfl] at C4
    rw [← hu] at C1
    rw [← hvv] at C3
    have C5 := Lib.hid (fun w => read_any q w (by omega))
    have C6 := Lib.hid (fun w => refRead_any q w (by omega))
    obtain ⟨R, hR⟩ : ∃ R, R = readL (L q) := ⟨_, rfl⟩
    rw [← hR] at C5 C6
    clear hu hvv hR
    cases R with
    | none =>
      simp only [readV, readR] at C5 C6
      go_enter Tryd.func3, Tryd.ntmps3
      go_wp2_with fail
      refine CA.out.mono ?_
      rintro e w1 ⟨rfl, hb1⟩
      go_wp2_with fail
      refine (C1.out _ (HV.out.below w0pos hb1)).mono ?_
      rintro e w2 ⟨rfl, hb2⟩
      have hb3 := hb1.trans (hb2.mono hb1.size)
      clear hb1 hb2
      go_wp2_with fail
      refine (C2.out _).mono ?_
      rintro e w3 ⟨rfl, hb4⟩
      have hb5 := hb3.trans (hb4.mono hb3.size)
      clear hb3 hb4
      go_wp2_with fail
      refine (C3.out _ (HV.out.below w0pos hb5)).mono ?_
      rintro e w4 ⟨rfl, hb6⟩
      have hb7 := hb5.trans (hb6.mono hb5.size)
      clear hb5 hb6
      go_wp2_with fail
      refine (C4.out _).mono ?_
      rintro e w5 ⟨rfl, hb8⟩
      have hb9 := hb7.trans (hb8.mono hb7.size)
      clear hb7 hb8
      go_wp2_with fail
      refine (C5.out _).mono ?_
      rintro e w6 ⟨rfl, hb10⟩
      have hb11 := hb9.trans (hb10.mono hb9.size)
      clear hb9 hb10
      go_wp2_with fail
      refine (C6.out _).mono ?_
      rintro e w7 ⟨rfl, rfl⟩
      go_wp2_with fail
      go_ret
      exact ⟨ret_bool (by simp), hb11⟩
    | some d =>
      simp only [readV, readR] at C5 C6
      go_enter Tryd.func3, Tryd.ntmps3
      go_wp2_with fail
      refine CA.out.mono ?_
      rintro e w1 ⟨rfl, hb1⟩
      go_wp2_with fail
      refine (C1.out _ (HV.out.below w0pos hb1)).mono ?_
      rintro e w2 ⟨rfl, hb2⟩
      have hb3 := hb1.trans (hb2.mono hb1.size)
      clear hb1 hb2
      go_wp2_with fail
      refine (C2.out _).mono ?_
      rintro e w3 ⟨rfl, hb4⟩
      have hb5 := hb3.trans (hb4.mono hb3.size)
      clear hb3 hb4
      go_wp2_with fail
      refine (C3.out _ (HV.out.below w0pos hb5)).mono ?_
      rintro e w4 ⟨rfl, hb6⟩
      have hb7 := hb5.trans (hb6.mono hb5.size)
      clear hb5 hb6
      go_wp2_with fail
      refine (C4.out _).mono ?_
      rintro e w5 ⟨rfl, hb8⟩
      have hb9 := hb7.trans (hb8.mono hb7.size)
      clear hb7 hb8
      go_wp2_with fail
      refine (C5.out _).mono ?_
      rintro e w6 ⟨rfl, hb10⟩
      have hb11 := hb9.trans (hb10.mono hb9.size)
      clear hb9 hb10
      go_wp2_with fail
      refine (C6.out _).mono ?_
      rintro e w7 ⟨rfl, rfl⟩
      go_wp2_with fail
      go_ret
      exact ⟨ret_bool (by simp), hb11⟩
  · go_enter Tryd.func3, Tryd.ntmps3
    go_wp2_with fail
    refine CA.out.mono ?_
    rintro e w1 ⟨rfl, hb1⟩
    go_wp2_with fail
    go_ret
    exact ⟨rfl, hb1⟩

set_option maxRecDepth 100000 in
set_option maxHeartbeats 2000000 in
theorem joins_any (a b : ByteArray) (w : World) (ha0 : a.size ≤ 140737488355327) (hb0 : b.size ≤ 140737488355327) (hv : Held w) :
    Calls Tryd.prog 4 #[.string a, .string b] w fun e w' => e = .returned (.bool true) ∧ Below w.heap.size w w' := by
  have w0pos := hv.2
  have HV := Lib.hid hv
  have CA := Lib.hid (anchor_any w hv)
  clear hv
  by_cases hsum : a.size + b.size ≤ 1000
  · obtain ⟨u, hu⟩ : ∃ u, u = S (wordL (L a)) := ⟨_, rfl⟩
    obtain ⟨x, hx⟩ : ∃ x, x = S (wordL (L b)) := ⟨_, rfl⟩
    obtain ⟨v, hvv⟩ : ∃ v, v = S (singleL (L a)) := ⟨_, rfl⟩
    obtain ⟨y, hy⟩ : ∃ y, y = S (singleL (L b)) := ⟨_, rfl⟩
    have hus : u.size ≤ 10000 := by rw [hu, S_size]; have := wordL_len (L a); rw [L_size] at this; omega
    have hxs : x.size ≤ 10000 := by rw [hx, S_size]; have := wordL_len (L b); rw [L_size] at this; omega
    have hvs : v.size ≤ 10000 := by rw [hvv, S_size]; have := singleL_len (L a); rw [L_size] at this; omega
    have hys : y.size ≤ 10000 := by rw [hy, S_size]; have := singleL_len (L b); rw [L_size] at this; omega
    have C1 := Lib.hid (fun w hv => word_any a w (by omega) hv)
    have C2 := Lib.hid (fun w hv => word_any b w (by omega) hv)
    have C3 := Lib.hid (fun w => read_any (u ++ x) w (by rw [ByteArray.size_append]; omega))
    have C4 := Lib.hid (fun w hv => single_any a w (by omega) hv)
    have C5 := Lib.hid (fun w hv => single_any b w (by omega) hv)
    have C6 := Lib.hid (fun w => read_any (v ++ y) w (by rw [ByteArray.size_append]; omega))
    have eV : readV (some (L a ++ L b)) = .tuple #[.string (a ++ b), .int .i64 0] := by rw [readV, ← L_append, S_L]
    rw [show readL (L (u ++ x)) = some (L a ++ L b) by rw [L_append, hu, hx, L_S, L_S, read_words], eV] at C3
    rw [show readL (L (v ++ y)) = some (L a ++ L b) by rw [L_append, hvv, hy, L_S, L_S, read_singles], eV] at C6
    rw [← hu] at C1
    rw [← hx] at C2
    rw [← hvv] at C4
    rw [← hy] at C5
    clear hu hx hvv hy eV
    go_enter Tryd.func4, Tryd.ntmps4
    go_wp2_with fail
    refine CA.out.mono ?_
    rintro e w1 ⟨rfl, hb1⟩
    go_wp2_with fail
    refine (C1.out _ (HV.out.below w0pos hb1)).mono ?_
    rintro e w2 ⟨rfl, hb2⟩
    have hb3 := hb1.trans (hb2.mono hb1.size)
    clear hb1 hb2
    go_wp2_with fail
    refine (C2.out _ (HV.out.below w0pos hb3)).mono ?_
    rintro e w3 ⟨rfl, hb4⟩
    have hb5 := hb3.trans (hb4.mono hb3.size)
    clear hb3 hb4
    go_wp2_with fail
    refine (C3.out _).mono ?_
    rintro e w4 ⟨rfl, hb6⟩
    have hb7 := hb5.trans (hb6.mono hb5.size)
    clear hb5 hb6
    go_wp2_with fail
    refine (C4.out _ (HV.out.below w0pos hb7)).mono ?_
    rintro e w5 ⟨rfl, hb8⟩
    have hb9 := hb7.trans (hb8.mono hb7.size)
    clear hb7 hb8
    go_wp2_with fail
    refine (C5.out _ (HV.out.below w0pos hb9)).mono ?_
    rintro e w6 ⟨rfl, hb10⟩
    have hb11 := hb9.trans (hb10.mono hb9.size)
    clear hb9 hb10
    go_wp2_with fail
    refine (C6.out _).mono ?_
    rintro e w7 ⟨rfl, hb12⟩
    have hb13 := hb11.trans (hb12.mono hb11.size)
    clear hb11 hb12
    go_wp2_with fail
    go_ret
    exact ⟨ret_bool (by simp), hb13⟩
  · go_enter Tryd.func4, Tryd.ntmps4
    go_wp2_with fail
    refine CA.out.mono ?_
    rintro e w1 ⟨rfl, hb1⟩
    go_wp2_with fail
    go_ret
    exact ⟨rfl, hb1⟩
end Go.Proofs.YtfeejbmpnphnhaaDoor
