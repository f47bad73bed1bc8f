/-
  Walks of the readers of one line: the program's bits and bytes.
-/
import Derived.Test.YtjnknckbdfgjlaaU5
namespace Go.Proofs.Ytjnknckbdfgjlaa
open Go.RowKit

/-! ### plain -/
def okC (c : UInt8) : Bool := decide (32 ≤ c.toNat) && decide (c.toNat ≤ 96)
def sixV (c : UInt8) : Nat := (c.toNat - 32) % 64
theorem sixV_lt (c : UInt8) : sixV c < 64 := Nat.mod_lt _ (by omega)
/-- Three bytes of four letters. -/
def tri (a b c d : UInt8) : List UInt8 :=
  let v := ((sixV a * 64 + sixV b) * 64 + sixV c) * 64 + sixV d
  [UInt8.ofNat (v / 65536), UInt8.ofNat (v / 256 % 256), UInt8.ofNat (v % 256)]
/-- The g-th group of a line. -/
def decG (l : List UInt8) (g : Nat) : Option (List UInt8) :=
  if okC (l.getD (4 * g + 1) 0) && okC (l.getD (4 * g + 2) 0) && okC (l.getD (4 * g + 3) 0) && okC (l.getD (4 * g + 4) 0) then
    some (tri (l.getD (4 * g + 1) 0) (l.getD (4 * g + 2) 0) (l.getD (4 * g + 3) 0) (l.getD (4 * g + 4) 0)) else none
/-- The first g groups of a line. -/
def decTo (l : List UInt8) : Nat → Option (List UInt8)
  | 0 => some []
  | g + 1 => (decTo l g).bind fun a => (decG l g).map (a ++ ·)
/-- The bytes of a line. -/
def bytesP (l : List UInt8) : Option (List UInt8) :=
  if l ≠ [] ∧ okC (l.getD 0 0) = true ∧ sixV (l.getD 0 0) ≤ 45 ∧ l.length = 1 + (sixV (l.getD 0 0) + 2) / 3 * 4 then (decTo l ((sixV (l.getD 0 0) + 2) / 3)).map (·.take (sixV (l.getD 0 0))) else none

theorem tri_len (a b c d : UInt8) : (tri a b c d).length = 3 := rfl
theorem decTo_len {l : List UInt8} : ∀ {g : Nat} {o : List UInt8}, decTo l g = some o → o.length = 3 * g := by
  intro g
  induction g with
  | zero => intro o h; simp only [decTo, Option.some.injEq] at h; subst h; rfl
  | succ g ih =>
    intro o h
    simp only [decTo, Option.bind_eq_some_iff, Option.map_eq_some_iff] at h
    obtain ⟨a, ha, b, hb, rfl⟩ := h
    have h1 := ih ha
    unfold decG at hb
    split at hb
    · simp only [Option.some.injEq] at hb; subst hb; simp [tri_len]; omega
    · cases hb
theorem decTo_none {l : List UInt8} {g : Nat} (h : decG l g = none) : ∀ k, g < k → decTo l k = none := by
  intro k
  induction k with
  | zero => intro hk; omega
  | succ k ih =>
    intro hk
    by_cases e : g = k
    · subst e; simp [decTo, h]
    · simp [decTo, ih (by omega)]

/-! ### walks -/
theorem bits_yes (c : UInt8) (w : World) (h : okC c = true) :
    Calls Try.prog 39 #[.int .u8 (c.toNat : Nat)] w fun e w' => e = .returned (.tuple #[.int .u8 ((sixV c : Nat) : Int), .bool true]) ∧ w = w' := by
  simp only [okC, Bool.and_eq_true, decide_eq_true_eq] at h
  obtain ⟨h1, h2⟩ := h
  have hv : (sixV c : Nat) = (c.toNat - 32) % 64 := rfl
  have HV := Lib.hid hv
  clear hv
  obtain ⟨x, hx⟩ : ∃ x : Nat, x = c.toNat := ⟨_, rfl⟩
  rw [← hx] at h1 h2 HV ⊢
  clear hx
  go_enter Try.func39, Try.ntmps39
  go_wp2
  go_ret2
  refine ⟨?_, rfl⟩
  have e : ((sixV c : Nat) : Int) = ((x : Int) - 32) % 64 := by rw [HV.out]; omega
  rw [e]; rfl

theorem bits_no (c : UInt8) (w : World) (h : okC c = false) :
    Calls Try.prog 39 #[.int .u8 (c.toNat : Nat)] w fun e w' => e = .returned (.tuple #[.int .u8 0, .bool false]) ∧ w = w' := by
  have h1 : c.toNat < 32 ∨ 96 < c.toNat := by
    simp only [okC, Bool.and_eq_false_iff, decide_eq_false_iff_not] at h; omega
  obtain ⟨x, hx⟩ : ∃ x : Nat, x = c.toNat := ⟨_, rfl⟩
  rw [← hx] at h1 ⊢
  clear hx h
  rcases h1 with h1 | h1
  all_goals
    go_enter Try.func39, Try.ntmps39
    go_wp2
    go_ret2
    exact ⟨rfl, rfl⟩

theorem or6 (x y : Nat) (hx : x < 67108864) (hy : y < 64) : bits BinOp.or .u32 ((x : Int) * 64 % 4294967296) ((y : Int) % 4294967296) = ((x * 64 + y : Nat) : Int) := by
  rw [show (x : Int) * 64 % 4294967296 = ((x * 64 : Nat) : Int) by omega, show (y : Int) % 4294967296 = (y : Int) by omega, bits_or_nat _ _ (by omega) (by omega)]
  have := Nat.shiftLeft_add_eq_or_of_lt (b := y) (i := 6) (by omega) x
  rw [Nat.shiftLeft_eq, show (2 : Nat) ^ 6 = 64 from rfl] at this
  rw [← this]

theorem or4 (p q r s : Nat) (hp : p < 64) (hq : q < 64) (hr : r < 64) (hs : s < 64) :
    bits BinOp.or .u32 (bits BinOp.or .u32 (bits BinOp.or .u32 (bits BinOp.or .u32 0 ((p : Int) % 4294967296) * 64 % 4294967296) ((q : Int) % 4294967296) * 64 % 4294967296) ((r : Int) % 4294967296) * 64 % 4294967296) ((s : Int) % 4294967296) = (((((p * 64 + q) * 64 + r) * 64 + s : Nat)) : Int) := by
  have e0 : bits BinOp.or .u32 0 ((p : Int) % 4294967296) = (p : Int) := by
    have := or6 0 p (by omega) hp
    simpa using this
  rw [e0, or6 _ _ (by omega) hq, or6 _ _ (by omega) hr, or6 _ _ (by omega) hs]

/-- What bytes hands back. -/
def bytesV : Option (List UInt8) → Value
  | some d => .tuple #[.string (S d), .bool true]
  | none => .tuple #[.string ⟨#[]⟩, .bool false]

set_option maxHeartbeats 2000000 in
theorem bytes_any (s : ByteArray) (w : World) (hs : s.size ≤ 100000) :
    Calls Try.prog 28 #[.string s] w fun e w' => e = .returned (bytesV (bytesP (L s))) ∧ Below w.heap.size w w' := by
  by_cases h0 : L s = []
  · have hb : bytesP (L s) = none := by rw [bytesP, if_neg (fun h => h.1 h0)]
    have e0 : s.toList.isEmpty = true := by rw [isEmpty_L, h0]; rfl
    rw [hb]
    clear h0 hb
    go_enter Try.func28, Try.ntmps28
    go_wp2_with fail
    go_ret2
    exact ⟨rfl, Below.refl _ _⟩
  · have e0 : s.toList.isEmpty = false := by rw [isEmpty_L]; simpa using h0
    have hpos : 0 < s.size := List.length_pos_iff.2 h0
    have H0 := Lib.hid h0
    have i0 := run_idx (P := Try.prog) (k := .i64) Try.underlying9 s 0 0 rfl hpos
    obtain ⟨c0, hc0⟩ : ∃ c0, c0 = (L s).getD 0 0 := ⟨_, rfl⟩
    rw [← hc0] at i0
    have HC0 := Lib.hid hc0
    clear h0 hc0
    cases ho : okC c0
    · have hb : bytesP (L s) = none := by rw [bytesP, if_neg (fun h => by have := h.2.1; rw [← HC0.out, ho] at this; cases this)]
      rw [hb]
      have HO := Lib.hid ho
      clear hb ho
      go_enter Try.func28, Try.ntmps28
      go_wp2_with fail
      refine (bits_no c0 _ HO.out).mono ?_
      rintro e w' ⟨rfl, rfl⟩
      go_wp2_with fail
      go_ret2
      exact ⟨rfl, Below.refl _ _⟩
    · obtain ⟨n, hn⟩ : ∃ n, n = sixV c0 := ⟨_, rfl⟩
      have hn64 : n < 64 := by rw [hn]; exact sixV_lt c0
      have HO := Lib.hid ho
      have HN := Lib.hid hn
      clear ho hn
      by_cases hc : n ≤ 45 ∧ s.size = 1 + (n + 2) / 3 * 4
      · have hb : bytesP (L s) = (decTo (L s) ((n + 2) / 3)).map (·.take n) := by
          rw [bytesP, ← HC0.out, ← HN.out, if_pos ⟨H0.out, HO.out, hc.1, hc.2⟩]
        have HB := Lib.hid hb
        obtain ⟨hc1, hc2⟩ := hc
        obtain ⟨G, hG⟩ : ∃ G, G = (n + 2) / 3 := ⟨_, rfl⟩
        rw [← hG] at HB
        have hsz : s.size = 1 + G * 4 := by rw [hG]; exact hc2
        have hG2 : n ≤ 3 * G := by omega
        have hG3 : ((n : Int) + 2) / 3 = (G : Int) := by omega
        have hneq : ((s.size : Int) - 1 != ((n : Int) + 2) / 3 * 4) = false := by rw [hG3]; simp; omega
        have HSZ := Lib.hid hsz
        have hszi : s.size ≤ 61 := by omega
        have hg4 : G * 4 + 1 ≤ s.size := by omega
        have hg5 : s.size ≤ G * 4 + 1 := by omega
        clear hb hc2 hG hG3 hsz
        go_enter Try.func28, Try.ntmps28
        go_wp2_with fail
        refine (bits_yes c0 _ HO.out).mono ?_
        rw [← HN.out]
        rintro e w' ⟨rfl, rfl⟩
        go_wp2_with fail
        go_loopw [6, 7] (fun v i wr => ∃ (g : Nat) (o : List UInt8), g ≤ G ∧ i = .int .i64 ((4 * g + 1 : Nat) : Int) ∧ OwnB wr w.heap.size v o ∧ decTo (L s) g = some o ∧ Below w.heap.size w wr) (fun _ i _ => s.size - (intOf i).toNat)
        case atStart => exact ⟨0, [], by omega, rfl, OwnB.nil _ _, rfl, Below.refl _ _⟩
        case round =>
          obtain ⟨g, o, hg, rfl, hown, hdec, hbw⟩ := hrel
          have hbs := hbw.size
          have hol := decTo_len hdec
          have HD := Lib.hid hdec
          clear hdec
          by_cases hlt : g < G
          · obtain ⟨a, ha⟩ : ∃ a, a = (L s).getD (4 * g + 1) 0 := ⟨_, rfl⟩
            obtain ⟨b, hb⟩ : ∃ b, b = (L s).getD (4 * g + 2) 0 := ⟨_, rfl⟩
            obtain ⟨c, hc⟩ : ∃ c, c = (L s).getD (4 * g + 3) 0 := ⟨_, rfl⟩
            obtain ⟨d, hd⟩ : ∃ d, d = (L s).getD (4 * g + 4) 0 := ⟨_, rfl⟩
            have j1 := run_idx (P := Try.prog) (k := .i64) Try.underlying9 s (4 * (g : Int) + 1) (4 * g + 1) (by omega) (by omega)
            have j2 := run_idx (P := Try.prog) (k := .i64) Try.underlying9 s (4 * (g : Int) + 1 + 1) (4 * g + 2) (by omega) (by omega)
            have j3 := run_idx (P := Try.prog) (k := .i64) Try.underlying9 s (4 * (g : Int) + 1 + 2) (4 * g + 3) (by omega) (by omega)
            have j4 := run_idx (P := Try.prog) (k := .i64) Try.underlying9 s (4 * (g : Int) + 1 + 3) (4 * g + 4) (by omega) (by omega)
            rw [← ha] at j1
            rw [← hb] at j2
            rw [← hc] at j3
            rw [← hd] at j4
            have hG : decG (L s) g = if okC a && okC b && okC c && okC d then some (tri a b c d) else none := by rw [decG, ha, hb, hc, hd]
            have HG := Lib.hid hG
            clear ha hb hc hd hG
            cases va : okC a
            · skip
              go_wp2_with fail
              refine wp_loop_rounds 5 ?_
              repeat any_goals (rw [rounds_succ]; go_wp2_with (go_at_call 39; first | (with_reducible refine (bits_yes _ _ (by assumption)).mono ?_; rintro e w' ⟨rfl, rfl⟩) | (with_reducible refine (bits_no _ _ (by assumption)).mono ?_; rintro e w' ⟨rfl, rfl⟩)))
              have hno : bytesP (L s) = none := by rw [HB.out, decTo_none (show decG (L s) g = none by rw [HG.out]; simp [va]) G hlt]; rfl
              rw [hno]
              go_ret2
              exact ⟨rfl, hbw⟩
            · cases vb : okC b
              · skip
                go_wp2_with fail
                refine wp_loop_rounds 5 ?_
                repeat any_goals (rw [rounds_succ]; go_wp2_with (go_at_call 39; first | (with_reducible refine (bits_yes _ _ (by assumption)).mono ?_; rintro e w' ⟨rfl, rfl⟩) | (with_reducible refine (bits_no _ _ (by assumption)).mono ?_; rintro e w' ⟨rfl, rfl⟩)))
                have hno : bytesP (L s) = none := by rw [HB.out, decTo_none (show decG (L s) g = none by rw [HG.out]; simp [va, vb]) G hlt]; rfl
                rw [hno]
                go_ret2
                exact ⟨rfl, hbw⟩
              · cases vc : okC c
                · skip
                  go_wp2_with fail
                  refine wp_loop_rounds 5 ?_
                  repeat any_goals (rw [rounds_succ]; go_wp2_with (go_at_call 39; first | (with_reducible refine (bits_yes _ _ (by assumption)).mono ?_; rintro e w' ⟨rfl, rfl⟩) | (with_reducible refine (bits_no _ _ (by assumption)).mono ?_; rintro e w' ⟨rfl, rfl⟩)))
                  have hno : bytesP (L s) = none := by rw [HB.out, decTo_none (show decG (L s) g = none by rw [HG.out]; simp [va, vb, vc]) G hlt]; rfl
                  rw [hno]
                  go_ret2
                  exact ⟨rfl, hbw⟩
                · cases vd : okC d
                  · skip
                    go_wp2_with fail
                    refine wp_loop_rounds 5 ?_
                    repeat any_goals (rw [rounds_succ]; go_wp2_with (go_at_call 39; first | (with_reducible refine (bits_yes _ _ (by assumption)).mono ?_; rintro e w' ⟨rfl, rfl⟩) | (with_reducible refine (bits_no _ _ (by assumption)).mono ?_; rintro e w' ⟨rfl, rfl⟩)))
                    have hno : bytesP (L s) = none := by rw [HB.out, decTo_none (show decG (L s) g = none by rw [HG.out]; simp [va, vb, vc, vd]) G hlt]; rfl
                    rw [hno]
                    go_ret2
                    exact ⟨rfl, hbw⟩
                  · have hor := or4 (sixV a) (sixV b) (sixV c) (sixV d) (sixV_lt a) (sixV_lt b) (sixV_lt c) (sixV_lt d)
                    obtain ⟨V, hV⟩ : ∃ V, V = ((sixV a * 64 + sixV b) * 64 + sixV c) * 64 + sixV d := ⟨_, rfl⟩
                    rw [← hV] at hor
                    have hV2 : V < 16777216 := by
                      have := sixV_lt a; have := sixV_lt b; have := sixV_lt c; have := sixV_lt d; omega
                    have ht : tri a b c d = [UInt8.ofNat (V / 65536), UInt8.ofNat (V / 256 % 256), UInt8.ofNat (V % 256)] := by rw [tri, ← hV]
                    have HTR := Lib.hid ht
                    clear hV ht
                    go_wp2_with fail
                    refine wp_loop_rounds 5 ?_
                    repeat any_goals (rw [rounds_succ]; go_wp2_with (first | (go_at_call 39; with_reducible refine (bits_yes _ _ (by assumption)).mono ?_; rintro e w' ⟨rfl, rfl⟩) | (at_builtin; go_must (refine append_bytes rfl _ _ rfl rfl (OwnB.alloc (by assumption) _) [UInt8.ofNat (V / 65536), UInt8.ofNat (V / 256 % 256), UInt8.ofNat (V % 256)] rfl rfl (cells3 _ _ _ _ _ _ _ _ (by first | (simp; done) | (simp; omega)) (by first | (simp; done) | (simp; omega)) (by first | (simp; done) | (simp; omega))) (by omega) (Below.alloc (by assumption) (by assumption) _) (by simp; omega) ?_); intro v1 w1 hown1 hb1 hs1)))
                    go_roundw
                    case rel => exact ⟨g + 1, _, by omega, by go_num, by assumption, by rw [decTo, HD.out]; simp [HG.out, va, vb, vc, vd, HTR.out], by assumption⟩
                    case measure => simp [intOf]; omega
          · obtain rfl : g = G := by omega
            have hfin : bytesP (L s) = some (o.take n) := by rw [HB.out, HD.out]; rfl
            have HFIN := Lib.hid hfin
            clear hfin
            rcases hown.form with ⟨rfl, rfl⟩ | ⟨gb, cap, rfl, _, _, hcap, hba⟩
            · have hn0 : n = 0 := by simp at hol; omega
              subst hn0
              have hcn : ∀ w : World, (convert 38 9 (.slice none 0 0)).run Try.prog w = .ok (.string ByteArray.empty) w := fun w => run_convert_bytes_nil w _ _ Try.underlying38 Try.underlying5 _ _ _ Try.underlying9
              go_wp2_with fail
              go_ret2
              exact ⟨by rw [HFIN.out]; rfl, hbw⟩
            · have hcb : cellBytes wr gb 0 n = some (o.take n) := by
                have := cellBytes_of (o.take n) 0 (fun j hj => by
                  have hj' : j < n ∧ j < o.length := by rw [List.length_take] at hj; omega
                  rw [Nat.zero_add, (hba j hj'.2).1]
                  simp [List.getD, hj'.1])
                rwa [List.length_take, Nat.min_eq_left (by omega)] at this
              have hnl : n ≤ o.length := by omega
              have HOL := Lib.hid hol
              clear hol hba
              go_wp2_with fail
              go_ret2
              exact ⟨by rw [HFIN.out]; rfl, hbw⟩
      · have hb : bytesP (L s) = none := by
          rw [bytesP, if_neg (fun h => by rw [← HC0.out, ← HN.out] at h; exact hc ⟨h.2.2.1, h.2.2.2⟩)]
        rw [hb]
        clear hb
        by_cases h45 : n ≤ 45
        · have hneq : ((s.size : Int) - 1 != ((n : Int) + 2) / 3 * 4) = true := by rw [bne_iff_ne]; omega
          clear hc
          go_enter Try.func28, Try.ntmps28
          go_wp2_with fail
          refine (bits_yes c0 _ HO.out).mono ?_
          rw [← HN.out]
          rintro e w' ⟨rfl, rfl⟩
          go_wp2_with fail
          go_ret2
          exact ⟨rfl, Below.refl _ _⟩
        · clear hc
          go_enter Try.func28, Try.ntmps28
          go_wp2_with fail
          refine (bits_yes c0 _ HO.out).mono ?_
          rw [← HN.out]
          rintro e w' ⟨rfl, rfl⟩
          go_wp2_with fail
          go_ret2
          exact ⟨rfl, Below.refl _ _⟩
end Go.Proofs.Ytjnknckbdfgjlaa
