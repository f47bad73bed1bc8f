/-
  UuPlain: what an encoding's lines hold, and the walk.
-/
import Derived.Test.YtjnknckbdfgjlaaU2
namespace Go.Proofs.Ytjnknckbdfgjlaa
open Go.RowKit

/-! ### plain -/
/-- From place i on, n bytes of the line having passed: no line is too long, and no byte is odd. -/
def OkL : Nat → Nat → List UInt8 → Prop
  | _, _, [] => True
  | i, n, c :: r => (c.toNat = 10 ∨ (33 ≤ c.toNat ∧ c.toNat ≤ 96) ∨ i < 12 ∨ c.toNat = 101 ∨ c.toNat = 110 ∨ c.toNat = 100) ∧ n + 1 ≤ 62 ∧ OkL (i + 1) (if c.toNat = 10 then 0 else n + 1) r

theorem okl_run : ∀ (xs r : List UInt8) (i n : Nat), (∀ c ∈ xs, 33 ≤ c.toNat ∧ c.toNat ≤ 96) → n + xs.length ≤ 62 → OkL (i + xs.length) (n + xs.length) r → OkL i n (xs ++ r)
  | [], r, i, n, _, _, h => by simpa using h
  | c :: xs, r, i, n, hx, hn, h => by
    have hc := hx c (by simp)
    simp only [List.length_cons] at hn h
    refine ⟨.inr (.inl hc), by omega, ?_⟩
    rw [if_neg (by omega)]
    exact okl_run xs r (i + 1) (n + 1) (fun d hd => hx d (by simp [hd])) (by omega) (by rw [show i + 1 + xs.length = i + (xs.length + 1) by omega, show n + 1 + xs.length = n + (xs.length + 1) by omega]; exact h)

theorem letterL_ok (n : Nat) (h : n < 64) : 33 ≤ (letterL n).toNat ∧ (letterL n).toNat ≤ 96 := by
  unfold letterL
  split
  · decide
  · simp; omega

theorem body_ok (l : List UInt8) (k : Nat) : ∀ c ∈ bodyTo l k, 33 ≤ c.toNat ∧ c.toNat ≤ 96 := by
  intro c hc
  simp only [bodyTo, List.mem_flatMap, grpAt, grp] at hc
  obtain ⟨i, _, hc⟩ := hc
  have h0 := (l.getD (3 * i) 0).toNat_lt
  have h1 := (l.getD (3 * i + 1) 0).toNat_lt
  have h2 := (l.getD (3 * i + 2) 0).toNat_lt
  simp only [List.mem_cons, List.not_mem_nil, or_false] at hc
  rcases hc with rfl | rfl | rfl | rfl <;> exact letterL_ok _ (by omega)

theorem okl_line (l r : List UInt8) (i : Nat) (hl : l.length ≤ 45) (h : ∀ j, 12 ≤ j → OkL j 0 r) (hi : 12 ≤ i) : OkL i 0 (lineL l ++ r) := by
  have e : lineL l ++ r = (letterL l.length :: bodyTo l ((l.length + 2) / 3)) ++ ([10] ++ r) := by simp [lineL]
  have hb := bodyTo_len l ((l.length + 2) / 3)
  rw [e]
  refine okl_run _ _ i 0 (fun c hc => ?_) (by simp [hb]; omega) ?_
  · rcases List.mem_cons.1 hc with rfl | hc
    · exact letterL_ok _ (by omega)
    · exact body_ok _ _ c hc
  · refine ⟨.inl rfl, by simp [hb]; omega, ?_⟩
    exact h _ (by omega)

theorem okl_rest : ∀ (n : Nat) (l : List UInt8) (i : Nat), l.length ≤ n → 12 ≤ i → OkL i 0 (restL l) := by
  intro n
  induction n with
  | zero =>
    intro l i hl hi
    obtain rfl : l = [] := List.length_eq_zero_iff.1 (by omega)
    rw [restL_nil]
    simp [OkL]
  | succ n ih =>
    intro l i hl hi
    by_cases h : l = []
    · subst h; rw [restL_nil]; simp [OkL]
    · have h0 : 0 < l.length := List.length_pos_iff.2 h
      rw [restL_cons h]
      exact okl_line _ _ i (by simp; omega) (fun j hj => ih _ j (by simp; omega) hj) hi

theorem okl_all (l : List UInt8) : OkL 0 0 (headL 384 [120] ++ restL l) := by
  have h := okl_rest l.length l 12 (Nat.le_refl _) (by omega)
  have e : headL 384 [120] = [98, 101, 103, 105, 110, 32, 54, 48, 48, 32, 120, 10] := by decide
  rw [e]
  simp [OkL, h]

/-! ### the walks -/
set_option maxHeartbeats 400000 in
theorem anchor_any (w : World) : Calls Try.prog 8 #[] w fun e w' => e = .returned (.bool true) ∧ Below w.heap.size w w' := by
  have hx : (S (headL 420 (L ⟨#[120]⟩) ++ restL (L ⟨#[67, 97, 116]⟩))).toList = [98, 101, 103, 105, 110, 32, 54, 52, 52, 32, 120, 10, 35, 48, 86, 37, 84, 10, 96, 10, 101, 110, 100, 10] := by
    rw [toList_L, L_S, restL_cons (by simp), show (L ⟨#[67, 97, 116]⟩).drop 45 = [] from rfl, restL_nil]; decide
  have HX := Lib.hid hx
  clear hx
  go_enter Try.func8, Try.ntmps8
  go_wp2_with fail
  refine (encode_any 420 ⟨#[120]⟩ ⟨#[67, 97, 116]⟩ _ (by omega) (by decide) (by decide)).mono ?_
  obtain ⟨q, hq⟩ : ∃ q, q = S (headL 420 (L ⟨#[120]⟩) ++ restL (L ⟨#[67, 97, 116]⟩)) := ⟨_, rfl⟩
  rw [← hq]
  rintro e w1 ⟨rfl, hb1⟩
  have hx : (q.toList == [98, 101, 103, 105, 110, 32, 54, 52, 52, 32, 120, 10, 35, 48, 86, 37, 84, 10, 96, 10, 101, 110, 100, 10]) = true := by rw [hq, HX.out]; rfl
  clear hq
  go_wp2_with fail
  go_ret
  exact ⟨rfl, hb1⟩

set_option maxHeartbeats 800000 in
theorem plain_any (s : ByteArray) (w : World) (hs : s.size ≤ maxLen) :
    Calls Try.prog 3 #[.string s] w fun e w' => e = .returned (.bool true) ∧ Below w.heap.size w w' := by
  unfold maxLen at hs
  by_cases h1 : s.size ≤ 3000
  · obtain ⟨t, ht⟩ : ∃ t, t = S (headL 384 (L ⟨#[120]⟩) ++ restL (L s)) := ⟨_, rfl⟩
    have hok : OkL 0 0 (L t) := by rw [ht]; exact okl_all (L s)
    have htl : t.size ≤ 30000 := by
      have h2 := restL_len (L s).length (L s) (Nat.le_refl _)
      have h3 : (L s).length = s.size := rfl
      rw [ht, S_size, List.length_append, show (headL 384 (L ⟨#[120]⟩)).length = 12 from rfl]
      omega
    have HOK := Lib.hid hok
    have HT := Lib.hid ht
    clear ht hok
    go_enter Try.func3, Try.ntmps3
    go_wp2_with fail
    refine (anchor_any _).mono ?_
    rintro e w1 ⟨rfl, hb1⟩
    go_wp2_with fail
    refine (encode_any 384 ⟨#[120]⟩ s _ (by omega) (by decide) h1).mono ?_
    rw [← HT.out]
    rintro e w2 ⟨rfl, hb2⟩
    have hb3 := hb1.trans (hb2.mono hb1.size)
    clear hb1 hb2
    go_wp2_with fail
    go_loop [5, 19] (fun m i => ∃ (k n : Nat), k ≤ t.size ∧ n ≤ 62 ∧ i = .int .i64 k ∧ m = .int .i64 n ∧ OkL k n ((L t).drop k)) (fun _ i => t.size - (intOf i).toNat)
    case atStart => exact ⟨0, 0, by omega, by omega, rfl, rfl, HOK.out⟩
    case round =>
      obtain ⟨k, n, hk, hn, rfl, rfl, hr⟩ := hrel
      by_cases hlt : k < t.size
      · obtain ⟨c, hc⟩ : ∃ c, c = (L t).getD k 0 := ⟨_, rfl⟩
        rw [drop_getD (L t) hlt, ← hc] at hr
        obtain ⟨r1, r2, r3⟩ := hr
        have R3 := Lib.hid r3
        have i0 := run_idx (P := Try.prog) (k := .i64) Try.underlying9 t (k : Int) k rfl hlt
        rw [← hc] at i0
        obtain ⟨x, hx⟩ : ∃ x : Nat, x = c.toNat := ⟨_, rfl⟩
        have hxl : x < 256 := by rw [hx]; exact c.toNat_lt
        rw [← hx] at i0 r1
        have HX := Lib.hid hx
        clear hc r3 hx
        by_cases hx10 : x = 10
        · subst hx10
          clear r1
          go_wp2_with fail
          go_round
          case rel => exact ⟨k + 1, 0, by omega, by omega, by go_num, rfl, by have := R3.out; rw [if_pos HX.out.symm] at this; exact this⟩
          case measure => simp [intOf]; omega
        · have HR3 : Hid (OkL (k + 1) (n + 1) ((L t).drop (k + 1))) := by
            have := R3.out
            rw [if_neg (by rw [← HX.out]; exact hx10)] at this
            exact this
          have hne : x < 10 ∨ 10 < x := by omega
          rcases hne with hne | hne
          all_goals
            rcases r1 with r1 | r1 | r1 | r1 | r1 | r1
            all_goals try omega
          all_goals
            clear hx10
            first | subst r1 | skip
            go_wp2_with fail
            all_goals go_round
            all_goals first | exact ⟨k + 1, n + 1, by omega, by omega, by go_num, by go_num, HR3.out⟩ | (simp [intOf]; omega)
      · go_wp2_with fail
        go_ret
        exact ⟨rfl, hb3⟩
  · go_enter Try.func3, Try.ntmps3
    go_wp2_with fail
    refine (anchor_any _).mono ?_
    rintro e w1 ⟨rfl, hb1⟩
    go_wp2_with fail
    go_ret
    exact ⟨rfl, hb1⟩
end Go.Proofs.Ytjnknckbdfgjlaa
