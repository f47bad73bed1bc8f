/-
  ModeTurns: the digits of a mode; clauses one behind the other.
-/
import Derived.Test.YtbfplannbhafeaaDoorM6
import Derived.OwnWalk
namespace Go.Proofs.YtbfplannbhafeaaDoor
open Go.RowKit

def octS (m : Nat) : List UInt8 := [UInt8.ofNat (48 + m / 512 % 8), UInt8.ofNat (48 + m / 64 % 8), UInt8.ofNat (48 + m / 8 % 8), UInt8.ofNat (48 + m % 8)]

@[go_sem] theorem Tryd.convK (w : World) (b off l c : Nat) : (convert 46 9 (.slice (some ⟨b, off, none⟩) l c)).run Tryd.prog w = convK (cellBytes w b off l) w (convFb Tryd.prog w 46 9 b off l c) :=
  run_convK 46 9 5 Tryd.underlying46 Tryd.underlying5 Tryd.underlying9 w b off l c

theorem info8 : (Tryd.prog.info? 5).map (fun i => (i.zero, i.size, i.bytes)) = some (some (.int .u8 0), 1, 1) := by kernel_rfl

theorem make4 {w : World} {ops : Array Oper} {rest : List Oper} {o : Oper} {a : Act} {Q : Exit → Act → World → Prop} (hg : o.guard = none) (l c : Operand) (hop : o.op = Op.makeSlice 46 l c)
    (hl : a.eval l = .int .i64 4) (hc : a.eval c = .int .i64 4)
    (h : ∀ w', (∀ j, j < 4 → w'.cell? ⟨w.heap.size, j, none⟩ = some (.int .u8 0) ∧ w'.frozen? ⟨w.heap.size, j, none⟩ = false) → Below w.heap.size w w' → wpList Tryd.prog ops Q rest (a.put o.dst (.slice (some ⟨w.heap.size, 0, none⟩) 4 4)) w') : wpList Tryd.prog ops Q (o :: rest) a w := by
  obtain ⟨i0, hi, hz0, hz1, hz2⟩ := info_parts info8
  refine wpList_make_full _ hg l c 46 hop w.heap.size 5 i0 (.int .u8 0) 1 Tryd.underlying46 hi hz0 hz1 .i64 .i64 4 4 4 hl hc rfl rfl (by rw [hz2]; decide) (by unfold maxLen; decide) (Nat.le_refl _) fun w' h1 h2 => ?_
  refine h w' (fun j hj => ?_) ((Below.refl _ _).grown h2 (Nat.le_refl _) fun k hk => by cases hk)
  obtain ⟨h3, h4⟩ := h1
  rcases h4 with ⟨h4, _⟩ | ⟨g, cap, cur, hv, hB, hg, hn, hc, hs, hx⟩
  · cases h4
  · obtain ⟨rfl, rfl⟩ : g = w.heap.size ∧ cap = 4 := by
      simp at hv
      exact ⟨hv.1.symm, hv.2.symm⟩
    have h5 : (cur.toList.take (4 * 1))[j]? = cur[j]? := by rw [List.getElem?_take_of_lt (by omega)]; simp
    have h6 : (madeCells (Value.int .u8 0).cells (4 * 1)).toList[j]? = some (.int .u8 0) := by
      rcases (by omega : j = 0 ∨ j = 1 ∨ j = 2 ∨ j = 3) with rfl | rfl | rfl | rfl <;> first | kernel_rfl | simp [madeCells]
    rw [← hx, h5] at h6
    exact ⟨by simp [World.cell?, hg, h6], by simp [World.frozen?, hg]⟩

set_option maxHeartbeats 2000000 in
set_option maxRecDepth 100000 in
theorem octal4_any (m : Nat) (w : World) (_hm : m < 4096) :
    Calls Tryd.prog 12 #[.int .i64 m] w fun e w' => e = .returned (.string (S (octS m))) ∧ Below w.heap.size w w' := by
  go_enter Tryd.func12, Tryd.ntmps12
  go_wp2_with (at_make; go_must (refine make4 rfl _ _ rfl rfl rfl ?_); intro w1 h1 hb1)
  obtain ⟨a0, f0⟩ := h1 0 (by omega)
  obtain ⟨a1, f1⟩ := h1 1 (by omega)
  obtain ⟨a2, f2⟩ := h1 2 (by omega)
  obtain ⟨a3, f3⟩ := h1 3 (by omega)
  refine wp_loop_rounds 5 ?_
  repeat any_goals (rw [rounds_succ]; go_wp2_with fail)
  go_ret
  exact ⟨rfl, (((hb1.setCell (p := ⟨w.heap.size, 3, none⟩) (Nat.le_refl _) _).setCell (p := ⟨w.heap.size, 2, none⟩) (Nat.le_refl _) _).setCell (p := ⟨w.heap.size, 1, none⟩) (Nat.le_refl _) _).setCell (p := ⟨w.heap.size, 0, none⟩) (Nat.le_refl _) _⟩

/-! ### the plain law -/
theorem octalL_digit {d n : Nat} (l : List UInt8) (hd : d < 8) (hn : n * 8 + d ≤ 4095) : octalL (UInt8.ofNat (48 + d) :: l) n = octalL l (n * 8 + d) := by
  have e : (UInt8.ofNat (48 + d)).toNat = 48 + d := by simp; omega
  rw [octalL_go (by rw [e]; omega) (by rw [e]; omega), e, Nat.add_sub_cancel_left]
theorem octal_law {m : Nat} (hm : m < 4096) : octalL (octS m) 0 = (m, 0) := by
  rw [octS, octalL_digit _ (by omega) (by omega), octalL_digit _ (by omega) (by omega), octalL_digit _ (by omega) (by omega), octalL_digit _ (by omega) (by omega)]
  show (_, (0 : Int)) = _
  congr 1
  omega
theorem octal_change {dir : Bool} {mask m n : Nat} (hm : m < 4096) : changeP dir mask (octS m) n = (m, 0) := by
  have e : ((octS m).getD 0 0).toNat = 48 + m / 512 % 8 := by
    show (UInt8.ofNat (48 + m / 512 % 8)).toNat = _
    simp; omega
  rw [changeP, if_neg (by simp [octS]), if_pos (by rw [e]; omega), octal_law hm]

theorem sp_split (c : UInt8) : ∀ (a b : List UInt8), sp c (a ++ c :: b) = sp c a ++ sp c b
  | [], b => by
    show sp c (c :: b) = [] :: sp c b
    rw [sp, if_pos rfl]
  | d :: a, b => by
    rw [List.cons_append, sp, sp, sp_split c a b]
    split
    · rfl
    · cases h : sp c a with
      | nil => exact absurd h (sp_ne c a)
      | cons p ps => rfl
theorem partsL_app {dir : Bool} {mask : Nat} : ∀ (p q : List (List UInt8)) (m x : Nat), partsL dir mask p m = some x → partsL dir mask (p ++ q) m = partsL dir mask q x
  | [], q, m, x, h => by rw [partsL] at h; cases h; rfl
  | c :: p, q, m, x, h => by
    cases hc : clauseL dir mask c m with
    | none => rw [partsL_none hc] at h; cases h
    | some y =>
      rw [partsL_some hc] at h
      rw [List.cons_append, partsL_some hc, partsL_app p q y x h]
theorem partsL_lt {dir : Bool} {mask : Nat} : ∀ (p : List (List UInt8)) (m x : Nat), m < 4096 → partsL dir mask p m = some x → x < 4096
  | [], m, x, hm, h => by rw [partsL] at h; cases h; exact hm
  | c :: p, m, x, hm, h => by
    cases hc : clauseL dir mask c m with
    | none => rw [partsL_none hc] at h; cases h
    | some y =>
      rw [partsL_some hc] at h
      exact partsL_lt p y x (clauseL_lt hm hc) h

def digB (l : List UInt8) : Prop := 48 ≤ (l.getD 0 0).toNat ∧ (l.getD 0 0).toNat ≤ 57
theorem turns_law {dir : Bool} {mask m x : Nat} {a b : List UInt8} (ha : a ≠ []) (hb : b ≠ []) (ha2 : ¬ digB a) (hb2 : ¬ digB b) (hm : m < 4096) (h : changeP dir mask a m = (x, 0)) :
    x < 4096 ∧ changeP dir mask (a ++ 44 :: b) m = changeP dir mask b x := by
  unfold digB at ha2 hb2
  rw [changeP, if_neg ha, if_neg ha2] at h
  have hp : partsL dir mask (sp 44 a) m = some x := by
    cases hq : partsL dir mask (sp 44 a) m with
    | none => rw [hq] at h; cases h
    | some y => rw [hq] at h; cases h; rfl
  refine ⟨partsL_lt _ _ _ hm hp, ?_⟩
  have hd : ¬ (48 ≤ ((a ++ 44 :: b).getD 0 0).toNat ∧ ((a ++ 44 :: b).getD 0 0).toNat ≤ 57) := by
    cases a with
    | nil => exact absurd rfl ha
    | cons c a => exact ha2
  rw [changeP, if_neg (by simp), if_neg hd, sp_split, partsL_app _ _ _ _ hp, changeP, if_neg hb, if_neg hb2]
end Go.Proofs.YtbfplannbhafeaaDoor
