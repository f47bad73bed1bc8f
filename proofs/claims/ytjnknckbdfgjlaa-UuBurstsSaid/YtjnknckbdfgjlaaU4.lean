/-
  Walks of uu.Head, of the reader of lines, of the reader of one line.
-/
import Derived.Test.YtjnknckbdfgjlaaU3
import Derived.Lib.IndexMore
namespace Go.Proofs.Ytjnknckbdfgjlaa
open Go.RowKit

/-! ### strings.Cut at one byte -/
theorem cut_some {l a b : List UInt8} {c : UInt8} (h : l = a ++ c :: b) (ha : c ∉ a) : Lib.cut l [c] = (a, b, true) := by
  have hi : Lib.index l [c] = a.length := by
    refine Lib.index_first (by rw [h]; simp) ?_ fun j hj => ?_
    · unfold Lib.occAt; rw [h]; simp
    · unfold Lib.occAt
      rw [h, List.drop_append_of_le_length (by omega), List.drop_eq_getElem_cons hj]
      have : c ≠ a[j] := fun e => ha (e ▸ List.getElem_mem hj)
      simp only [List.cons_append, List.isPrefixOf_cons_cons, beq_eq_false_iff_ne.2 this, Bool.false_and]
  rw [Lib.cut, hi, if_pos (by omega)]
  simp [h]
theorem cut_none {l : List UInt8} {c : UInt8} (h : c ∉ l) : Lib.cut l [c] = (l, [], false) := by
  have hi : Lib.index l [c] = -1 := by
    refine Lib.index_none fun j hj => ?_
    unfold Lib.occAt
    by_cases hl : j < l.length
    · rw [List.drop_eq_getElem_cons hl]
      have : c ≠ l[j] := fun e => h (e ▸ List.getElem_mem hl)
      simp only [List.isPrefixOf_cons_cons, beq_eq_false_iff_ne.2 this, Bool.false_and]
    · rw [List.drop_of_length_le (by omega)]; rfl
  rw [Lib.cut, hi, if_neg (by omega)]

/-- The library's variable that strings.Cut reads holds some number. -/
def Held (w : World) : Prop := (∃ c, w.cell? ⟨0, 0, none⟩ = some (.int .i64 c)) ∧ 0 < w.heap.size
theorem Held.below {w w' : World} (h : Held w) {B : Nat} (hB : 0 < B) (hb : Below B w w') : Held w' := by
  obtain ⟨⟨c, hc⟩, h0⟩ := h
  exact ⟨⟨c, by rw [hb.cell (p := ⟨0, 0, none⟩) hB]; exact hc⟩, by have := hb.size; omega⟩

theorem cut_any (s sep : ByteArray) (a b : List UInt8) (ok : Bool) (w : World) (hs : s.size < 4294967281) (hv : Held w) (h : Lib.cut (L s) (L sep) = (a, b, ok)) :
    Calls Try.prog 26 #[.string s, .string sep] w fun e w' => e = .returned (.tuple #[.string (S a), .string (S b), .bool ok]) ∧ Below w.heap.size w w' := by
  obtain ⟨⟨m, hm⟩, _⟩ := hv
  refine (Try.strings_Cut s sep m w hs hm).mono fun e w' ⟨h1, n, h2⟩ => ⟨?_, by rw [h2]; exact below_drewN (Below.refl _ _) n⟩
  rw [h1]
  have e1 : Lib.cut s.data.toList sep.data.toList = (a, b, ok) := h
  rw [e1]; rfl

/-! ### Head -/
def octB (c : UInt8) : Bool := decide (48 ≤ c.toNat) && decide (c.toNat ≤ 55)
/-- The mode and the name that a first line has. -/
def headP (l : List UInt8) : Option (Nat × List UInt8) :=
  if 11 ≤ l.length ∧ l.take 6 = [98, 101, 103, 105, 110, 32] ∧ l.getD 9 0 = 32 ∧ rightB (l.drop 10) = true ∧ octB (l.getD 6 0) = true ∧ octB (l.getD 7 0) = true ∧ octB (l.getD 8 0) = true then
    some ((l.getD 6 0).toNat % 8 * 64 + (l.getD 7 0).toNat % 8 * 8 + (l.getD 8 0).toNat % 8, l.drop 10)
  else none

theorem bits_or_i64 (x y : Nat) (hx : x < 4294967296) (hy : y < 4294967296) : bits BinOp.or .i64 (x : Int) (y : Int) = ((x ||| y : Nat) : Int) := by
  have h : x ||| y < 2 ^ 32 := Nat.or_lt_two_pow (by omega) (by omega)
  have e : (BitVec.ofInt 64 (x : Int) ||| BitVec.ofInt 64 (y : Int)).toNat = x ||| y := by
    rw [BitVec.toNat_or, BitVec.toNat_ofInt, BitVec.toNat_ofInt]
    congr 1 <;> omega
  show IntKind.i64.wrap (((BitVec.ofInt 64 (x : Int) ||| BitVec.ofInt 64 (y : Int)).toNat : Nat) : Int) = _
  rw [e, IntWalk.i64_in _ ⟨by omega, by omega⟩]

theorem or8 (x y : Nat) (hy : y < 8) : (x * 8 ||| y) = x * 8 + y := by
  have := Nat.shiftLeft_add_eq_or_of_lt (b := y) (i := 3) (by omega) x
  rw [Nat.shiftLeft_eq, show (2 : Nat) ^ 3 = 8 from rfl] at this
  exact this.symm

def beg : List UInt8 := [98, 101, 103, 105, 110, 32]
theorem headP_mk (x y z : UInt8) (b : List UInt8) : headP (beg ++ ([x, y, z] ++ 32 :: b)) = if rightB b = true ∧ octB x = true ∧ octB y = true ∧ octB z = true then some (x.toNat % 8 * 64 + y.toNat % 8 * 8 + z.toNat % 8, b) else none := by
  have hr : rightB b = true → 11 ≤ (beg ++ ([x, y, z] ++ 32 :: b)).length := by
    intro h
    have : b ≠ [] := by rintro rfl; simp [rightB] at h
    have := List.length_pos_iff.2 this
    simp [beg]; omega
  unfold headP
  have e1 : (beg ++ ([x, y, z] ++ 32 :: b)).take 6 = [98, 101, 103, 105, 110, 32] := rfl
  have e2 : (beg ++ ([x, y, z] ++ 32 :: b)).drop 10 = b := rfl
  have e3 : (beg ++ ([x, y, z] ++ 32 :: b)).getD 9 0 = 32 := rfl
  have e4 : (beg ++ ([x, y, z] ++ 32 :: b)).getD 6 0 = x := rfl
  have e5 : (beg ++ ([x, y, z] ++ 32 :: b)).getD 7 0 = y := rfl
  have e6 : (beg ++ ([x, y, z] ++ 32 :: b)).getD 8 0 = z := rfl
  rw [e1, e2, e3, e4, e5, e6]
  by_cases h : rightB b = true ∧ octB x = true ∧ octB y = true ∧ octB z = true
  · rw [if_pos ⟨hr h.1, rfl, rfl, h⟩, if_pos h]
  · rw [if_neg (fun h' => h h'.2.2.2), if_neg h]

theorem octB_ne {c : UInt8} (h : octB c = true) : c ≠ 32 := by rintro rfl; simp [octB] at h

theorem headP_some {l : List UInt8} {r : Nat × List UInt8} (h : headP l = some r) : ∃ x y z, l = beg ++ ([x, y, z] ++ 32 :: l.drop 10) ∧ (32 : UInt8) ∉ [x, y, z] := by
  unfold headP at h
  split at h
  · rename_i hc
    obtain ⟨h1, h2, h3, h4, h5, h6, h7⟩ := hc
    refine ⟨l.getD 6 0, l.getD 7 0, l.getD 8 0, ?_, ?_⟩
    · have : l = l.take 6 ++ l.drop 6 := (List.take_append_drop 6 l).symm
      rw [h2] at this
      have d6 := drop_getD l (show 6 < l.length by omega)
      have d7 := drop_getD l (show 7 < l.length by omega)
      have d8 := drop_getD l (show 8 < l.length by omega)
      have d9 := drop_getD l (show 9 < l.length by omega)
      rw [d6, d7, d8, d9, h3] at this
      exact this
    · have a := octB_ne h5; have b := octB_ne h6; have c := octB_ne h7
      simp only [List.mem_cons, List.not_mem_nil, or_false, not_or]
      exact ⟨fun e => a e.symm, fun e => b e.symm, fun e => c e.symm⟩
  · cases h

theorem first_space {a b c d : List UInt8} (h : a ++ 32 :: b = c ++ 32 :: d) (ha : (32 : UInt8) ∉ a) (hc : (32 : UInt8) ∉ c) : a = c ∧ b = d := by
  induction a generalizing c with
  | nil =>
    cases c with
    | nil => simpa using h
    | cons x c => simp at h; exact absurd (h.1 ▸ List.mem_cons_self) hc
  | cons x a ih =>
    cases c with
    | nil => simp at h; exact absurd (h.1 ▸ List.mem_cons_self) ha
    | cons y c =>
      simp only [List.cons_append, List.cons.injEq] at h
      obtain ⟨h1, h2⟩ := ih h.2 (fun hm => ha (by simp [hm])) (fun hm => hc (by simp [hm]))
      exact ⟨by rw [h.1, h1], h2⟩

/-- What Head hands back. -/
def headV : Option (Nat × List UInt8) → Value
  | some (m, n) => .tuple #[.int .i64 (m : Nat), .string (S n), .int .i64 0]
  | none => .tuple #[.int .i64 0, .string ⟨#[]⟩, .int .i64 11]

theorem prefix_yes {l rest : List UInt8} (p : List UInt8) (h : l = p ++ rest) : Lib.hasPrefix l p = true ∧ Lib.trimPrefix l p = rest := by
  have h1 : Lib.hasPrefix l p = true := by subst h; unfold Lib.hasPrefix; rw [List.isPrefixOf_iff_prefix]; exact ⟨rest, rfl⟩
  exact ⟨h1, by rw [Lib.trimPrefix, if_pos h1, h]; simp⟩
theorem prefix_no {l p : List UInt8} (h : ∀ rest, l ≠ p ++ rest) : Lib.hasPrefix l p = false ∧ Lib.trimPrefix l p = l := by
  have h1 : Lib.hasPrefix l p = false := by
    cases hc : Lib.hasPrefix l p
    · rfl
    · unfold Lib.hasPrefix at hc
      rw [List.isPrefixOf_iff_prefix] at hc
      obtain ⟨r, hr⟩ := hc
      exact absurd hr.symm (h r)
  exact ⟨h1, by rw [Lib.trimPrefix, h1]; rfl⟩

theorem cutPrefix_any (s p : ByteArray) (ok : Bool) (r : List UInt8) (w : World) (h : Lib.hasPrefix (L s) (L p) = ok ∧ Lib.trimPrefix (L s) (L p) = r) :
    Calls Try.prog 25 #[.string s, .string p] w fun e w' => e = .returned (.tuple #[.string (S r), .bool ok]) ∧ w = w' := by
  refine (Try.strings_CutPrefix s p w).mono fun e w' ⟨h1, h2⟩ => ⟨?_, h2.symm⟩
  have e1 : Lib.hasPrefix s.data.toList p.data.toList = ok := h.1
  have e2 : Lib.trimPrefix s.data.toList p.data.toList = r := h.2
  rw [h1, e1, e2]; rfl

theorem or_oct (x y z : Nat) (x1 : 48 ≤ x) (x2 : x ≤ 55) (y1 : 48 ≤ y) (y2 : y ≤ 55) (z1 : 48 ≤ z) (z2 : z ≤ 55) :
    bits BinOp.or .i64 (wrap64 (bits BinOp.or .i64 (wrap64 (bits BinOp.or .i64 0 ((x : Int) - 48) * 8)) ((y : Int) - 48) * 8)) ((z : Int) - 48) = ((x % 8 * 64 + y % 8 * 8 + z % 8 : Nat) : Int) := by
  have ex : (x : Int) - 48 = ((x % 8 : Nat) : Int) := by omega
  have ey : (y : Int) - 48 = ((y % 8 : Nat) : Int) := by omega
  have ez : (z : Int) - 48 = ((z % 8 : Nat) : Int) := by omega
  have e0 : bits BinOp.or .i64 0 ((x % 8 : Nat) : Int) = ((x % 8 : Nat) : Int) := by
    have := bits_or_i64 0 (x % 8) (by omega) (by omega)
    rw [Nat.zero_or] at this; exact this
  rw [ex, ey, ez, e0]
  have w1 : wrap64 (((x % 8 : Nat) : Int) * 8) = ((x % 8 * 8 : Nat) : Int) := by rw [IntWalk.wrap64_in _ ⟨by omega, by omega⟩]; omega
  rw [w1, bits_or_i64 _ _ (by omega) (by omega), or8 _ _ (by omega)]
  have w2 : wrap64 (((x % 8 * 8 + y % 8 : Nat) : Int) * 8) = (((x % 8 * 8 + y % 8) * 8 : Nat) : Int) := by rw [IntWalk.wrap64_in _ ⟨by omega, by omega⟩]; omega
  rw [w2, bits_or_i64 _ _ (by omega) (by omega), or8 _ _ (by omega)]
  omega

theorem octB_no {c : UInt8} (h : ¬ octB c = true) : c.toNat < 48 ∨ 55 < c.toNat := by
  simp only [octB, Bool.and_eq_true, decide_eq_true_eq] at h; omega

set_option maxHeartbeats 2000000 in
theorem head_any (s : ByteArray) (w : World) (hs : s.size ≤ 100000) (hv : Held w) :
    Calls Try.prog 10 #[.string s] w fun e w' => e = .returned (headV (headP (L s))) ∧ Below w.heap.size w w' := by
  have HV := Lib.hid hv
  clear hv
  by_cases hp : ∃ rest, L s = beg ++ rest
  · obtain ⟨rest, hrest⟩ := hp
    have hcp := cutPrefix_any s ⟨#[98, 101, 103, 105, 110, 32]⟩ true rest w (prefix_yes beg hrest)
    have hrl : rest.length ≤ 100000 := by have := congrArg List.length hrest; have h2 : (L s).length = s.size := rfl; simp at this; omega
    have HCP := Lib.hid hcp
    by_cases h32 : (32 : UInt8) ∈ rest
    · obtain ⟨a, b, hab, ha⟩ := List.eq_append_cons_of_mem h32
      have hcut := cut_any (S rest) ⟨#[32]⟩ a b true w (by rw [S_size]; omega) HV.out (cut_some hab ha)
      have HCUT := Lib.hid hcut
      have hal : a.length ≤ 100000 := by have := congrArg List.length hab; simp at this; omega
      have hbl : b.length ≤ 100000 := by have := congrArg List.length hab; simp at this; omega
      by_cases h3 : a.length = 3
      · obtain ⟨x, y, z, rfl⟩ : ∃ x y z, a = [x, y, z] := by
          match a, h3 with
          | [x, y, z], _ => exact ⟨x, y, z, rfl⟩
        have hh := headP_mk x y z b
        rw [← hab, ← hrest] at hh
        rw [hh]
        have hsz : (S [x, y, z]).size = 3 := rfl
        have hrb := fun w => right_any (S b) w (by rw [S_size]; unfold maxLen; omega)
        have HRB := Lib.hid hrb
        clear hh hcut hcp hrest hab ha h32 h3 hrb hal
        by_cases hr : rightB b = true
        · have HR := Lib.hid hr
          clear hr
          by_cases hx : octB x = true
          · by_cases hy : octB y = true
            · by_cases hz : octB z = true
              · rw [if_pos ⟨HR.out, hx, hy, hz⟩]
                simp only [octB, Bool.and_eq_true, decide_eq_true_eq] at hx hy hz
                obtain ⟨x1, x2⟩ := hx
                obtain ⟨y1, y2⟩ := hy
                obtain ⟨z1, z2⟩ := hz
                go_enter Try.func10, Try.ntmps10
                go_wp2_with fail
                refine HCP.out.mono ?_
                rintro e w' ⟨rfl, rfl⟩
                go_wp2_with fail
                refine HCUT.out.mono ?_
                rintro e w1 ⟨rfl, hb1⟩
                go_wp2_with fail
                refine (HRB.out _).mono ?_
                rw [L_S, HR.out]
                rintro e w' ⟨rfl, rfl⟩
                have hm := BytesAt.made w1 5 (S [x, y, z])
                have hc0 : (Lib.bytesWorld w1 5 (S [x, y, z])).cell? ⟨w1.heap.size, 0, none⟩ = some (.int .u8 (x.toNat : Nat)) := (hm 0 (by simp [L_S])).1
                have hc1 : (Lib.bytesWorld w1 5 (S [x, y, z])).cell? ⟨w1.heap.size, 1, none⟩ = some (.int .u8 (y.toNat : Nat)) := (hm 1 (by simp [L_S])).1
                have hc2 : (Lib.bytesWorld w1 5 (S [x, y, z])).cell? ⟨w1.heap.size, 2, none⟩ = some (.int .u8 (z.toNat : Nat)) := (hm 2 (by simp [L_S])).1
                have hbw := hb1.trans ((below_bytesWorld w1 5 (S [x, y, z])).mono hb1.size)
                have HBW := Lib.hid hbw
                clear hm hbw hb1
                go_wp2_with fail
                refine wp_loop_rounds 4 ?_
                repeat any_goals (rw [rounds_succ]; go_wp2_with fail)
                rw [or_oct _ _ _ x1 x2 y1 y2 z1 z2]
                go_ret3
                exact ⟨rfl, HBW.out⟩
              · rw [if_neg (fun h => hz h.2.2.2)]
                simp only [octB, Bool.and_eq_true, decide_eq_true_eq] at hx hy
                obtain ⟨x1, x2⟩ := hx
                obtain ⟨y1, y2⟩ := hy
                rcases octB_no hz with z1 | z1
                all_goals
                  clear hz
                  go_enter Try.func10, Try.ntmps10
                  go_wp2_with fail
                  refine HCP.out.mono ?_
                  rintro e w' ⟨rfl, rfl⟩
                  go_wp2_with fail
                  refine HCUT.out.mono ?_
                  rintro e w1 ⟨rfl, hb1⟩
                  go_wp2_with fail
                  refine (HRB.out _).mono ?_
                  rw [L_S, HR.out]
                  rintro e w' ⟨rfl, rfl⟩
                  have hm := BytesAt.made w1 5 (S [x, y, z])
                  have hc0 : (Lib.bytesWorld w1 5 (S [x, y, z])).cell? ⟨w1.heap.size, 0, none⟩ = some (.int .u8 (x.toNat : Nat)) := (hm 0 (by simp [L_S])).1
                  have hc1 : (Lib.bytesWorld w1 5 (S [x, y, z])).cell? ⟨w1.heap.size, 1, none⟩ = some (.int .u8 (y.toNat : Nat)) := (hm 1 (by simp [L_S])).1
                  have hc2 : (Lib.bytesWorld w1 5 (S [x, y, z])).cell? ⟨w1.heap.size, 2, none⟩ = some (.int .u8 (z.toNat : Nat)) := (hm 2 (by simp [L_S])).1
                  have hbw := hb1.trans ((below_bytesWorld w1 5 (S [x, y, z])).mono hb1.size)
                  have HBW := Lib.hid hbw
                  clear hm hbw hb1
                  go_wp2_with fail
                  refine wp_loop_rounds 4 ?_
                  repeat any_goals (rw [rounds_succ]; go_wp2_with fail)
                  go_ret3
                  exact ⟨rfl, HBW.out⟩
            · rw [if_neg (fun h => hy h.2.2.1)]
              simp only [octB, Bool.and_eq_true, decide_eq_true_eq] at hx
              obtain ⟨x1, x2⟩ := hx
              rcases octB_no hy with y1 | y1
              all_goals
                clear hy
                go_enter Try.func10, Try.ntmps10
                go_wp2_with fail
                refine HCP.out.mono ?_
                rintro e w' ⟨rfl, rfl⟩
                go_wp2_with fail
                refine HCUT.out.mono ?_
                rintro e w1 ⟨rfl, hb1⟩
                go_wp2_with fail
                refine (HRB.out _).mono ?_
                rw [L_S, HR.out]
                rintro e w' ⟨rfl, rfl⟩
                have hm := BytesAt.made w1 5 (S [x, y, z])
                have hc0 : (Lib.bytesWorld w1 5 (S [x, y, z])).cell? ⟨w1.heap.size, 0, none⟩ = some (.int .u8 (x.toNat : Nat)) := (hm 0 (by simp [L_S])).1
                have hc1 : (Lib.bytesWorld w1 5 (S [x, y, z])).cell? ⟨w1.heap.size, 1, none⟩ = some (.int .u8 (y.toNat : Nat)) := (hm 1 (by simp [L_S])).1
                have hc2 : (Lib.bytesWorld w1 5 (S [x, y, z])).cell? ⟨w1.heap.size, 2, none⟩ = some (.int .u8 (z.toNat : Nat)) := (hm 2 (by simp [L_S])).1
                have hbw := hb1.trans ((below_bytesWorld w1 5 (S [x, y, z])).mono hb1.size)
                have HBW := Lib.hid hbw
                clear hm hbw hb1
                go_wp2_with fail
                refine wp_loop_rounds 4 ?_
                repeat any_goals (rw [rounds_succ]; go_wp2_with fail)
                go_ret3
                exact ⟨rfl, HBW.out⟩
          · rw [if_neg (fun h => hx h.2.1)]
            rcases octB_no hx with x1 | x1
            all_goals
              clear hx
              go_enter Try.func10, Try.ntmps10
              go_wp2_with fail
              refine HCP.out.mono ?_
              rintro e w' ⟨rfl, rfl⟩
              go_wp2_with fail
              refine HCUT.out.mono ?_
              rintro e w1 ⟨rfl, hb1⟩
              go_wp2_with fail
              refine (HRB.out _).mono ?_
              rw [L_S, HR.out]
              rintro e w' ⟨rfl, rfl⟩
              have hm := BytesAt.made w1 5 (S [x, y, z])
              have hc0 : (Lib.bytesWorld w1 5 (S [x, y, z])).cell? ⟨w1.heap.size, 0, none⟩ = some (.int .u8 (x.toNat : Nat)) := (hm 0 (by simp [L_S])).1
              have hc1 : (Lib.bytesWorld w1 5 (S [x, y, z])).cell? ⟨w1.heap.size, 1, none⟩ = some (.int .u8 (y.toNat : Nat)) := (hm 1 (by simp [L_S])).1
              have hc2 : (Lib.bytesWorld w1 5 (S [x, y, z])).cell? ⟨w1.heap.size, 2, none⟩ = some (.int .u8 (z.toNat : Nat)) := (hm 2 (by simp [L_S])).1
              have hbw := hb1.trans ((below_bytesWorld w1 5 (S [x, y, z])).mono hb1.size)
              have HBW := Lib.hid hbw
              clear hm hbw hb1
              go_wp2_with fail
              refine wp_loop_rounds 4 ?_
              repeat any_goals (rw [rounds_succ]; go_wp2_with fail)
              go_ret3
              exact ⟨rfl, HBW.out⟩
        · have hr' : rightB b = false := by simpa using hr
          rw [if_neg (fun h => hr h.1)]
          have HR := Lib.hid hr'
          clear hr hr'
          go_enter Try.func10, Try.ntmps10
          go_wp2_with fail
          refine HCP.out.mono ?_
          rintro e w' ⟨rfl, rfl⟩
          go_wp2_with fail
          refine HCUT.out.mono ?_
          rintro e w1 ⟨rfl, hb1⟩
          go_wp2_with fail
          refine (HRB.out _).mono ?_
          rw [L_S, HR.out]
          rintro e w' ⟨rfl, rfl⟩
          go_wp2_with fail
          go_ret3
          exact ⟨rfl, hb1⟩
      · have hn : headP (L s) = none := by
          cases hh : headP (L s) with
          | none => rfl
          | some r =>
            obtain ⟨x, y, z, h1, h2⟩ := headP_some hh
            rw [hrest, hab] at h1
            have := (first_space (List.append_cancel_left h1) ha h2).1
            rw [this] at h3; exact absurd rfl h3
        rw [hn]
        have hsz : (S a).size ≠ 3 := h3
        have hne : (((S a).size : Int) != 3) = true := by simp; omega
        have hasz : (S a).size ≤ 100000 := hal
        clear hn hcut hcp hrest hab ha h32 h3 hsz
        go_enter Try.func10, Try.ntmps10
        go_wp2_with fail
        refine HCP.out.mono ?_
        rintro e w' ⟨rfl, rfl⟩
        go_wp2_with fail
        refine HCUT.out.mono ?_
        rintro e w1 ⟨rfl, hb1⟩
        go_wp2_with fail
        go_ret3
        exact ⟨rfl, hb1⟩
    · have hcut := cut_any (S rest) ⟨#[32]⟩ rest [] false w (by rw [S_size]; omega) HV.out (cut_none h32)
      have HCUT := Lib.hid hcut
      have hn : headP (L s) = none := by
        cases hh : headP (L s) with
        | none => rfl
        | some r =>
          obtain ⟨x, y, z, h1, h2⟩ := headP_some hh
          rw [hrest] at h1
          have := List.append_cancel_left h1
          rw [this] at h32; simp at h32
      rw [hn]
      clear hn hcut hcp hrest h32
      go_enter Try.func10, Try.ntmps10
      go_wp2_with fail
      refine HCP.out.mono ?_
      rintro e w' ⟨rfl, rfl⟩
      go_wp2_with fail
      refine HCUT.out.mono ?_
      rintro e w1 ⟨rfl, hb1⟩
      go_wp2_with fail
      go_ret3
      exact ⟨rfl, hb1⟩
  · have hp' : ∀ rest, L s ≠ beg ++ rest := fun r h => hp ⟨r, h⟩
    have hcp := cutPrefix_any s ⟨#[98, 101, 103, 105, 110, 32]⟩ false (L s) w (prefix_no hp')
    have HCP := Lib.hid hcp
    have hn : headP (L s) = none := by
      cases hh : headP (L s) with
      | none => rfl
      | some r =>
        obtain ⟨x, y, z, h1, h2⟩ := headP_some hh
        exact absurd h1 (hp' _)
    rw [hn]
    obtain ⟨a, b, ok, hc⟩ : ∃ a b ok, Lib.cut (L s) [32] = (a, b, ok) := ⟨_, _, _, rfl⟩
    have hcut := cut_any (S (L s)) ⟨#[32]⟩ a b ok w (by rw [S_size, L_size]; omega) HV.out hc
    have HCUT := Lib.hid hcut
    clear hn hcut hc hp hp' hcp
    go_enter Try.func10, Try.ntmps10
    go_wp2_with fail
    refine HCP.out.mono ?_
    rintro e w' ⟨rfl, rfl⟩
    go_wp2_with fail
    refine HCUT.out.mono ?_
    rintro e w1 ⟨rfl, hb1⟩
    go_wp2_with fail
    go_ret3
    exact ⟨rfl, hb1⟩
end Go.Proofs.Ytjnknckbdfgjlaa
