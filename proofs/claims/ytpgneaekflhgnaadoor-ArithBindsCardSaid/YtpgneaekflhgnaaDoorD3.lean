/-
  The walk of the document's Level.
-/
import Derived.Test.YtpgneaekflhgnaaDoorA8
import Derived.Laws.Tables
namespace Go.Proofs.YtpgneaekflhgnaaDoor
open Go.RowKit

/-- How much a sign binds; -1: it is none. -/
def IsLev (t : ByteArray) (r : Int) : Prop := (∃ o, o < 18 ∧ L t = opB o ∧ r = (opLev o : Int)) ∨ (r = -1 ∧ ∀ o, o < 18 → L t ≠ opB o)
theorem setRow_new (w : World) (g : Nat) (old cs : Array Value) (t : TypeId) (hg : g = w.heap.size) : (w.alloc (.cells old t)).setRow g cs = w.alloc (.cells cs t) := by
  subst hg
  have h : ((w.heap.push (Obj.cells old t)).modify w.heap.size fun
      | .cells _ elem frozen => .cells cs elem frozen
      | o => o) = w.heap.push (Obj.cells cs t) := by
    apply Array.ext_getElem?
    intro i
    rw [Array.getElem?_modify, Array.getElem?_push, Array.getElem?_push]
    by_cases hi : i = w.heap.size
    · subst hi
      simp
    · simp [hi, Ne.symm hi]
  exact congrArg (fun x => ({ w with heap := x } : World)) h
set_option maxHeartbeats 2000000 in
set_option maxRecDepth 100000 in
theorem rlevel_any (t : ByteArray) (w : World) : Calls Tryd.prog 6 #[.string t] w fun e w' => (∃ r, e = .returned (.int .i64 r) ∧ IsLev t r) ∧ Below w.heap.size w w' := by
  have b1 : ∀ W, (Instr.build 46 #[(0, .string ⟨#[124, 124]⟩), (1, .string ⟨#[38, 38]⟩), (2, .string ⟨#[124]⟩), (3, .string ⟨#[94]⟩), (4, .string ⟨#[38]⟩), (5, .string ⟨#[61, 61]⟩), (6, .string ⟨#[33, 61]⟩), (7, .string ⟨#[60, 61]⟩), (8, .string ⟨#[62, 61]⟩), (9, .string ⟨#[60]⟩), (10, .string ⟨#[62]⟩), (11, .string ⟨#[60, 60]⟩), (12, .string ⟨#[62, 62]⟩), (13, .string ⟨#[43]⟩), (14, .string ⟨#[45]⟩), (15, .string ⟨#[42]⟩), (16, .string ⟨#[47]⟩), (17, .string ⟨#[37]⟩)]).run Tryd.prog W = .ok (.agg #[.string ⟨#[124, 124]⟩, .string ⟨#[38, 38]⟩, .string ⟨#[124]⟩, .string ⟨#[94]⟩, .string ⟨#[38]⟩, .string ⟨#[61, 61]⟩, .string ⟨#[33, 61]⟩, .string ⟨#[60, 61]⟩, .string ⟨#[62, 61]⟩, .string ⟨#[60]⟩, .string ⟨#[62]⟩, .string ⟨#[60, 60]⟩, .string ⟨#[62, 62]⟩, .string ⟨#[43]⟩, .string ⟨#[45]⟩, .string ⟨#[42]⟩, .string ⟨#[47]⟩, .string ⟨#[37]⟩]) W := fun W => run_build W _ _ _ (by kernel_rfl)
  have b2 : ∀ W, (Instr.build 47 #[(0, .int .i64 0), (1, .int .i64 1), (2, .int .i64 2), (3, .int .i64 3), (4, .int .i64 4), (5, .int .i64 5), (6, .int .i64 5), (7, .int .i64 6), (8, .int .i64 6), (9, .int .i64 6), (10, .int .i64 6), (11, .int .i64 7), (12, .int .i64 7), (13, .int .i64 8), (14, .int .i64 8), (15, .int .i64 9), (16, .int .i64 9), (17, .int .i64 9)]).run Tryd.prog W = .ok (.agg #[.int .i64 0, .int .i64 1, .int .i64 2, .int .i64 3, .int .i64 4, .int .i64 5, .int .i64 5, .int .i64 6, .int .i64 6, .int .i64 6, .int .i64 6, .int .i64 7, .int .i64 7, .int .i64 8, .int .i64 8, .int .i64 9, .int .i64 9, .int .i64 9]) W := fun W => run_build W _ _ _ (by kernel_rfl)
  go_enter Tryd.func6, Tryd.ntmps6
  go_wp2_with (first
    | (refine wpList_store_row rfl 46 _ _ rfl w.heap.size #[.string ⟨#[124, 124]⟩, .string ⟨#[38, 38]⟩, .string ⟨#[124]⟩, .string ⟨#[94]⟩, .string ⟨#[38]⟩, .string ⟨#[61, 61]⟩, .string ⟨#[33, 61]⟩, .string ⟨#[60, 61]⟩, .string ⟨#[62, 61]⟩, .string ⟨#[60]⟩, .string ⟨#[62]⟩, .string ⟨#[60, 60]⟩, .string ⟨#[62, 62]⟩, .string ⟨#[43]⟩, .string ⟨#[45]⟩, .string ⟨#[42]⟩, .string ⟨#[47]⟩, .string ⟨#[37]⟩] rfl rfl 46 _ (heap_alloc_new _ _) (by kernel_rfl) rfl (by kernel_rfl) ?_; rw [setRow_new w w.heap.size _ _ _ rfl])
    | (refine wpList_store_row rfl 47 _ _ rfl (w.heap.size + 1) #[.int .i64 0, .int .i64 1, .int .i64 2, .int .i64 3, .int .i64 4, .int .i64 5, .int .i64 5, .int .i64 6, .int .i64 6, .int .i64 6, .int .i64 6, .int .i64 7, .int .i64 7, .int .i64 8, .int .i64 8, .int .i64 9, .int .i64 9, .int .i64 9] rfl rfl 47 _ (Blk.at (by simp)) (by kernel_rfl) rfl (by kernel_rfl) ?_; rw [setRow_new _ (w.heap.size + 1) _ _ _ (by simp)]))
  obtain ⟨W2, hW2⟩ : ∃ W2, W2 = (w.alloc (.cells ((List.range 18).map fun o => Value.string (S (opB o))).toArray 46)).alloc (.cells ((List.range 18).map fun o => Value.int .i64 (opLev o : Int)).toArray 47) := ⟨_, rfl⟩
  have k1 : Blk W2 w.heap.size 46 ((List.range 18).map fun o => Value.string (S (opB o))).toArray := by rw [hW2]; exact (Blk.at rfl).alloc _
  have k2 : Blk W2 (w.heap.size + 1) 47 ((List.range 18).map fun o => Value.int .i64 (opLev o : Int)).toArray := by rw [hW2]; exact Blk.at (by simp)
  have HB : Hid (Below w.heap.size w W2) := Lib.hid (by rw [hW2]; exact ((Below.refl _ _).alloc (Nat.le_refl _) _).alloc (by simp) _)
  have KC : Hid (∀ k, k < 18 → W2.cell? ⟨w.heap.size, k, none⟩ = some (.string (S (opB k))) ∧ W2.cell? ⟨w.heap.size + 1, k, none⟩ = some (.int .i64 (opLev k : Int))) := Lib.hid fun k hk => ⟨(k1.cell k).trans (by simp [hk]), (k2.cell k).trans (by simp [hk])⟩
  change Code.wp _ _ _ _ ((w.alloc (.cells ((List.range 18).map fun o => Value.string (S (opB o))).toArray 46)).alloc (.cells ((List.range 18).map fun o => Value.int .i64 (opLev o : Int)).toArray 47))
  rw [← hW2]
  clear hW2 k1 k2 b1 b2
  go_loop [5] (fun i => ∃ k : Nat, k ≤ 18 ∧ i = .int .i64 k ∧ Hid (∀ j, j < k → L t ≠ opB j)) (fun i => 18 - (intOf i).toNat)
  case atStart => exact ⟨0, Nat.zero_le _, rfl, Lib.hid fun j hj => absurd hj (by omega)⟩
  case round =>
    obtain ⟨k, hk, rfl, hno⟩ := hrel
    by_cases hlt : k < 18
    · obtain ⟨c1, c2⟩ := KC.out k hlt
      obtain ⟨st, hst⟩ : ∃ st, st = S (opB k) := ⟨_, rfl⟩
      rw [← hst] at c1
      by_cases he : opB k = L t
      · have HF : Hid (IsLev t (opLev k : Int)) := Lib.hid (.inl ⟨k, hlt, he.symm, rfl⟩)
        have e1 : (st.toList == t.toList) = true := by rw [hst, toList_S, he, toList_L]; simp
        clear he hst hno
        go_wp2_with fail
        go_ret
        exact ⟨⟨_, rfl, HF.out⟩, HB.out⟩
      · have HN : Hid (∀ j, j < k + 1 → L t ≠ opB j) := Lib.hid fun j hj => by
          by_cases hjk : j < k
          · exact hno.out j hjk
          · obtain rfl : j = k := by omega
            exact fun e => he e.symm
        have e1 : (st.toList == t.toList) = false := by rw [hst, toList_S, toList_L, beq_eq_false_iff_ne]; exact he
        clear he hst hno
        go_wp2_with fail
        go_round
        case rel => exact ⟨k + 1, by omega, by go_num, HN⟩
        case measure => simp [intOf]; omega
    · have HF : Hid (IsLev t (-1)) := Lib.hid (.inr ⟨rfl, fun o ho => hno.out o (by omega)⟩)
      obtain rfl : k = 18 := by omega
      clear hno
      go_wp2_with fail
      go_ret
      exact ⟨⟨_, rfl, HF.out⟩, HB.out⟩
end Go.Proofs.YtpgneaekflhgnaaDoor
