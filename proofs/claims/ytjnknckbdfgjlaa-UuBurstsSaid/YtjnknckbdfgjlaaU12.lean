/-
  The plain law: what Encode writes, Decode reads again.  And uu.Encoded.
-/
import Derived.Test.YtjnknckbdfgjlaaU11
namespace Go.Proofs.Ytjnknckbdfgjlaa
open Go.RowKit

theorem letterL_toNat (n : Nat) (h : n < 64) : (letterL n).toNat = if n = 0 then 96 else 32 + n := by
  unfold letterL
  split
  · rfl
  · simp; omega
theorem sixV_letter (n : Nat) (h : n < 64) : sixV (letterL n) = n := by
  rw [sixV, letterL_toNat n h]; split <;> omega
theorem okC_letter (n : Nat) (h : n < 64) : okC (letterL n) = true := by
  rw [okC, letterL_toNat n h, Bool.and_eq_true, decide_eq_true_eq, decide_eq_true_eq]; split <;> omega
theorem letter_ne (n : Nat) (h : n < 64) : letterL n ≠ 10 := by
  intro e
  have := letterL_toNat n h
  rw [e] at this
  have h10 : (10 : UInt8).toNat = 10 := rfl
  rw [h10] at this
  split at this <;> omega

theorem tri_grp (a b c : UInt8) : ∃ p q r s, grp a b c = [p, q, r, s] ∧ okC p = true ∧ okC q = true ∧ okC r = true ∧ okC s = true ∧ tri p q r s = [a, b, c] := by
  have ha := a.toNat_lt
  have hb := b.toNat_lt
  have hc := c.toNat_lt
  obtain ⟨N, hN⟩ : ∃ N, N = a.toNat * 65536 + b.toNat * 256 + c.toNat := ⟨_, rfl⟩
  refine ⟨_, _, _, _, rfl, okC_letter _ (by omega), okC_letter _ (by omega), okC_letter _ (by omega), okC_letter _ (by omega), ?_⟩
  simp only [tri]
  rw [sixV_letter _ (by omega), sixV_letter _ (by omega), sixV_letter _ (by omega), sixV_letter _ (by omega), ← hN]
  have e : ((N / 262144 * 64 + N / 4096 % 64) * 64 + N / 64 % 64) * 64 + N % 64 = N := by omega
  rw [e]
  have e1 : N / 65536 = a.toNat := by omega
  have e2 : N / 256 % 256 = b.toNat := by omega
  have e3 : N % 256 = c.toNat := by omega
  rw [e1, e2, e3]
  simp

theorem body_split (l : List UInt8) (K g : Nat) (h : g < K) : ∃ r, bodyTo l K = bodyTo l g ++ grpAt l g ++ r := by
  induction K with
  | zero => omega
  | succ K ih =>
    by_cases e : g = K
    · subst e
      exact ⟨[], by rw [bodyTo, List.range_succ, List.flatMap_append]; simp [bodyTo]⟩
    · obtain ⟨r, hr⟩ := ih (by omega)
      refine ⟨r ++ grpAt l K, ?_⟩
      have : bodyTo l (K + 1) = bodyTo l K ++ grpAt l K := by rw [bodyTo, List.range_succ, List.flatMap_append]; simp [bodyTo]
      rw [this, hr]; simp

theorem decG_body (l : List UInt8) (x : UInt8) (K g : Nat) (h : g < K) : decG (x :: bodyTo l K) g = some [l.getD (3 * g) 0, l.getD (3 * g + 1) 0, l.getD (3 * g + 2) 0] := by
  obtain ⟨r, hr⟩ := body_split l K g h
  obtain ⟨p, q, y, z, h1, h2, h3, h4, h5, h6⟩ := tri_grp (l.getD (3 * g) 0) (l.getD (3 * g + 1) 0) (l.getD (3 * g + 2) 0)
  have hb := bodyTo_len l g
  have key : ∀ j, j < 4 → (x :: bodyTo l K).getD (4 * g + 1 + j) 0 = [p, q, y, z].getD j 0 := by
    intro j hj
    rw [hr, grpAt, h1, show 4 * g + 1 + j = (4 * g + j) + 1 by omega, List.getD_cons_succ, List.append_assoc]
    simp only [List.getD]
    rw [List.getElem?_append_right (by omega), hb, Nat.add_sub_cancel_left, List.getElem?_append_left (by simpa using hj)]
  have k0 := key 0 (by omega)
  have k1 := key 1 (by omega)
  have k2 := key 2 (by omega)
  have k3 := key 3 (by omega)
  rw [show 4 * g + 1 + 0 = 4 * g + 1 by omega] at k0
  rw [show 4 * g + 1 + 1 = 4 * g + 2 by omega] at k1
  rw [show 4 * g + 1 + 2 = 4 * g + 3 by omega] at k2
  rw [show 4 * g + 1 + 3 = 4 * g + 4 by omega] at k3
  rw [decG, k0, k1, k2, k3]
  simp [h2, h3, h4, h5, h6]

/-- Three bytes of each group. -/
def tripTo (l : List UInt8) (k : Nat) : List UInt8 := (List.range k).flatMap fun g => [l.getD (3 * g) 0, l.getD (3 * g + 1) 0, l.getD (3 * g + 2) 0]
theorem tripTo_succ (l : List UInt8) (k : Nat) : tripTo l (k + 1) = tripTo l k ++ [l.getD (3 * k) 0, l.getD (3 * k + 1) 0, l.getD (3 * k + 2) 0] := by
  rw [tripTo, List.range_succ, List.flatMap_append]; simp [tripTo]
theorem tripTo_len (l : List UInt8) (k : Nat) : (tripTo l k).length = 3 * k := by
  induction k with
  | zero => rfl
  | succ k ih => rw [tripTo_succ, List.length_append, ih]; simp; omega
theorem tripTo_get (l : List UInt8) (k i : Nat) (h : i < 3 * k) : (tripTo l k).getD i 0 = l.getD i 0 := by
  induction k with
  | zero => omega
  | succ k ih =>
    rw [tripTo_succ]
    have hl := tripTo_len l k
    by_cases h3 : i < 3 * k
    · rw [← ih h3]; simp only [List.getD]; rw [List.getElem?_append_left (by omega)]
    · simp only [List.getD]
      rw [List.getElem?_append_right (by omega), hl]
      rcases (by omega : i = 3 * k ∨ i = 3 * k + 1 ∨ i = 3 * k + 2) with e | e | e <;> subst e
      · simp
      · rw [show 3 * k + 1 - 3 * k = 1 by omega]; rfl
      · rw [show 3 * k + 2 - 3 * k = 2 by omega]; rfl
theorem tripTo_take (l : List UInt8) : (tripTo l ((l.length + 2) / 3)).take l.length = l := by
  have hl := tripTo_len l ((l.length + 2) / 3)
  refine List.ext_getElem (by simp; omega) fun i h1 h2 => ?_
  have := tripTo_get l ((l.length + 2) / 3) i (by omega)
  rw [List.getElem_take]
  simpa [List.getD, h2, show i < (tripTo l ((l.length + 2) / 3)).length by omega] using this

theorem decTo_body (l : List UInt8) (x : UInt8) (K : Nat) : ∀ g, g ≤ K → decTo (x :: bodyTo l K) g = some (tripTo l g)
  | 0, _ => rfl
  | g + 1, h => by
    rw [decTo, decTo_body l x K g (by omega), decG_body l x K g (by omega), tripTo_succ]; rfl

theorem bytesP_line (l : List UInt8) (h : l.length ≤ 45) : bytesP (letterL l.length :: bodyTo l ((l.length + 2) / 3)) = some l := by
  rw [bytesP, List.getD_cons_zero, sixV_letter _ (by omega), if_pos ⟨by simp, okC_letter _ (by omega), h, by rw [List.length_cons, bodyTo_len]; omega⟩, decTo_body _ _ _ _ (Nat.le_refl _)]
  simp only [Option.map_some, tripTo_take]

theorem lineOf_app {a r : List UInt8} (h : (10 : UInt8) ∉ a) : lineOf (a ++ 10 :: r) = a ∧ after (a ++ 10 :: r) = r ∧ (10 : UInt8) ∈ a ++ 10 :: r := by
  have h2 : (10 : UInt8) ∈ a ++ 10 :: r := by simp
  refine ⟨?_, ?_, h2⟩
  all_goals
    induction a with
    | nil => simp [lineOf, after]
    | cons c a ih =>
      have hc : (c != 10) = true := by rw [bne_iff_ne]; rintro rfl; exact h (by simp)
      have := ih (fun hm => h (by simp [hm])) (by simp)
      first
        | (unfold lineOf at this ⊢; rw [List.cons_append, List.takeWhile_cons_of_pos (p := fun c => c != 10) hc, this])
        | (unfold after at this ⊢; rw [List.cons_append, List.dropWhile_cons_of_pos (p := fun c => c != 10) hc, this])

theorem no10_line (l : List UInt8) (h : l.length ≤ 45) (k : Nat) : (10 : UInt8) ∉ letterL l.length :: bodyTo l k := by
  intro hm
  rcases List.mem_cons.1 hm with e | e
  · exact letter_ne _ (by omega) e.symm
  · have := body_ok l k _ e
    have h10 : (10 : UInt8).toNat = 10 := rfl
    omega

theorem decLoop_line (l r : List UInt8) (h : l.length ≤ 45) : decLoop (lineL l ++ r) = if l = [] then (if r = [101, 110, 100, 10] then some [] else none) else (decLoop r).map (l ++ ·) := by
  have e : lineL l ++ r = (letterL l.length :: bodyTo l ((l.length + 2) / 3)) ++ 10 :: r := by simp [lineL]
  obtain ⟨h1, h2, h3⟩ := lineOf_app (r := r) (no10_line l h ((l.length + 2) / 3))
  rw [e, decLoop_yes h3, h1, h2, bytesP_line l h]

theorem decLoop_rest : ∀ (n : Nat) (l : List UInt8), l.length ≤ n → decLoop (restL l) = some l := by
  intro n
  induction n with
  | zero =>
    intro l hl
    obtain rfl : l = [] := List.length_eq_zero_iff.1 (by omega)
    rw [restL, if_pos rfl, decLoop_line _ _ (by simp)]; simp
  | succ n ih =>
    intro l hl
    by_cases h : l = []
    · subst h; rw [restL, if_pos rfl, decLoop_line _ _ (by simp)]; simp
    · have h0 : 0 < l.length := List.length_pos_iff.2 h
      rw [restL_cons h, decLoop_line _ _ (by simp; omega), if_neg (by intro h'; have := congrArg List.length h'; rw [List.length_take, List.length_nil] at this; omega), ih _ (by simp; omega)]
      simp

theorem decodeP_encode (m : Nat) (name l : List UInt8) (hn : nameB name = true) : decodeP (headL m name ++ restL l) = some (m % 512, name, l) := by
  simp only [nameB, Bool.and_eq_true, Bool.not_eq_true'] at hn
  have hlast := head_last m name
  have hno := head_no10 m name hn.2
  have hlen : 0 < (headL m name).length := by simp [headL]
  obtain ⟨a, ha⟩ : ∃ a, headL m name = a ++ [10] := ⟨_, rfl⟩
  have hal : (headL m name).length - 1 = a.length := by rw [ha]; simp
  have hat : (headL m name).take ((headL m name).length - 1) = a := by rw [hal, ha, List.take_left]
  have h10 : (10 : UInt8) ∉ a := by
    intro hm
    obtain ⟨j, hj, e⟩ := List.getElem_of_mem hm
    refine hno j (by omega) ?_
    rw [ha, List.getD, List.getElem?_append_left hj, List.getElem?_eq_getElem hj, e]; rfl
  obtain ⟨h1, h2, h3⟩ := lineOf_app (r := restL l) h10
  rw [ha, List.append_assoc, List.singleton_append, decodeP, if_pos h3, h1, h2, ← hat, headP_head m name hn.1, decLoop_rest l.length l (Nat.le_refl _)]
  rfl

/-- How long the lines are. -/
def encLen (n : Nat) : Nat := n / 45 * 62 + (if n % 45 = 0 then 0 else (n % 45 + 2) / 3 * 4 + 2) + 6
theorem restL_length : ∀ (n : Nat) (l : List UInt8), l.length ≤ n → (restL l).length = encLen l.length := by
  intro n
  induction n with
  | zero =>
    intro l hl
    obtain rfl : l = [] := List.length_eq_zero_iff.1 (by omega)
    rw [restL_nil]; rfl
  | succ n ih =>
    intro l hl
    by_cases h : l = []
    · subst h; rw [restL_nil]; rfl
    · have h0 : 0 < l.length := List.length_pos_iff.2 h
      rw [restL_cons h, List.length_append, lineL_len, ih _ (by simp; omega), List.length_take, List.length_drop, encLen, encLen]
      by_cases h45 : l.length < 45
      · rw [Nat.min_eq_right (by omega), show l.length - 45 = 0 by omega, show l.length % 45 = l.length by omega, if_pos (show 0 % 45 = 0 from rfl), if_neg (show ¬ l.length = 0 by omega), show l.length / 45 = 0 by omega]
        omega
      · rw [Nat.min_eq_left (by omega)]
        obtain ⟨d, hd⟩ : ∃ d, l.length = d + 45 := ⟨l.length - 45, by omega⟩
        rw [hd, Nat.add_sub_cancel, Nat.add_div_right _ (by omega), Nat.add_mod_right]
        split <;> omega

theorem encoded_any (n : Nat) (w : World) (h : n ≤ 100000) :
    Calls Try.prog 16 #[.int .i64 n] w fun e w' => e = .returned (.int .i64 (encLen n : Nat)) ∧ w = w' := by
  by_cases h0 : n % 45 = 0
  · have hv : encLen n = n / 45 * 62 + 0 + 6 := by rw [encLen, if_pos h0]
    have HV := Lib.hid hv
    clear hv
    go_enter Try.func16, Try.ntmps16
    go_wp2_with fail
    go_ret
    exact ⟨ret_int (by rw [HV.out]; omega), rfl⟩
  · have hv : encLen n = n / 45 * 62 + ((n % 45 + 2) / 3 * 4 + 2) + 6 := by rw [encLen, if_neg h0]
    have HV := Lib.hid hv
    clear hv
    go_enter Try.func16, Try.ntmps16
    go_wp2_with fail
    go_ret
    exact ⟨ret_int (by rw [HV.out]; omega), rfl⟩
end Go.Proofs.Ytjnknckbdfgjlaa
