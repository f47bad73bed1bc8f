/-
  The walks of the document's Find, Set, Unset, Mark.
-/
import Derived.Test.YthfnkgofkdahfaaGreatDoorB5
import Derived.Test.YthfnkgofkdahfaaGreatDoorB4
namespace Go.Proofs.YthfnkgofkdahfaaGreatDoor
open Go.RowKit

theorem find_at {l : List (Nm × Xd)} {k : Nat} {p : Nm × Xd} (hk : l[k]? = some p) (h : ∀ q ∈ l.take k, q.1 ≠ p.1) : find l p.1 = p.2 := by
  obtain ⟨hlt, e⟩ := List.getElem?_eq_some_iff.1 hk
  conv => lhs; rw [← List.take_append_drop k l]
  rw [find_append _ _ _ h, List.drop_eq_getElem_cons hlt, e, find, if_pos rfl]
theorem find_results {w : World} {b : Nat} {tmps : Array Value} {c0 c1 c2 c3 c4 : Value} (h2 : tmps[4]?.getD undef = .pointer (some ⟨b, 0, none⟩)) (h : Blk w b 52 #[c0, c1, c2, c3, c4]) :
    (results Tryz.f28 tmps).run Tryz.prog w = .ok (.agg #[c0, c1, c2, c3, c4]) w := by
  have q0 := h.cell 0
  have q1 := h.cell 1
  have q2 := h.cell 2
  have q3 := h.cell 3
  have q4 := h.cell 4
  simp at q0 q1 q2 q3 q4
  simp [results, Tryz.results28, go_sem, h2, q0, q1, q2, q3, q4]
theorem eq_nm (a : Nm) (s : ByteArray) : (a == s.toList) = decide (a = L s) := by
  rw [toList_L]
  by_cases h : a = L s
  · rw [decide_eq_true h, h]; simp
  · rw [decide_eq_false h]; simpa using h
theorem find_ne_take {l : List (Nm × Xd)} {k : Nat} {p : Nm × Xd} {nm : Nm} (hk : l[k]? = some p) (h : ∀ q ∈ l.take k, q.1 ≠ nm) (hp : p.1 ≠ nm) : ∀ q ∈ l.take (k + 1), q.1 ≠ nm := by
  obtain ⟨hlt, e⟩ := List.getElem?_eq_some_iff.1 hk
  intro q hq
  rw [List.take_succ_eq_append_getElem hlt, List.mem_append, List.mem_singleton, e] at hq
  rcases hq with hq | rfl
  · exact h q hq
  · exact hp

set_option maxHeartbeats 2000000 in
set_option maxRecDepth 100000 in
theorem rfind_any (vL : Value) (l : List (Nm × Xd)) (a : Option Addr) (n c : Nat) (st : Int) (nm : ByteArray) (t0 : Nm) (s0 e0 f0 : Bool) (w : World) (lo : Nat) (hL : LSt w lo vL l) (hl : l.length ≤ 1000) (hf : find l (L nm) = ⟨t0, s0, e0, f0⟩) :
    Calls Tryz.prog 28 #[.agg #[vL, .string ⟨#[115, 104]⟩, .slice a n c, .int .i64 st], .string nm] w fun e w' =>
      e = .returned (.agg #[.string nm, .string ⟨t0.toArray⟩, .bool s0, .bool e0, .bool f0]) ∧ Below w.heap.size w w' := by
  obtain ⟨va, vc, rfl⟩ := own_shape hL
  obtain ⟨N, hN⟩ : ∃ N, N = l.length := ⟨_, rfl⟩
  have HN := Lib.hid hN
  have HL := Lib.hid hL
  have HF := Lib.hid hf
  rw [← hN] at hl
  rw [← hN]
  clear hN hL hf
  go_enter Tryz.func28, Tryz.ntmps28
  go_wp2_with fail
  obtain ⟨w3, hw3⟩ : ∃ W, W = (w.alloc (.cells #[.slice va N vc, .string ⟨#[115, 104]⟩, .slice a n c, .int .i64 st] 30)).alloc (.cells #[.string ⟨#[]⟩, .string ⟨#[]⟩, .bool false, .bool false, .bool false] 52) := ⟨_, rfl⟩
  have HB3 : Hid (Below w.heap.size w w3) := Lib.hid (by rw [hw3]; exact ((Below.refl _ _).alloc (Nat.le_refl _) _).alloc (by simp) _)
  have X2 : Hid (Blk w3 w.heap.size 30 #[.slice va N vc, .string ⟨#[115, 104]⟩, .slice a n c, .int .i64 st]) := Lib.hid (by rw [hw3]; exact (Blk.new w _ _).alloc _)
  have X4 : Hid (Blk w3 (w.heap.size + 1) 52 #[.string ⟨#[]⟩, .string ⟨#[]⟩, .bool false, .bool false, .bool false]) := Lib.hid (by rw [hw3]; have := Blk.new (w.alloc (.cells #[.slice va N vc, .string ⟨#[115, 104]⟩, .slice a n c, .int .i64 st] 30)) 52 #[.string ⟨#[]⟩, .string ⟨#[]⟩, .bool false, .bool false, .bool false]; simpa using this)
  have HL3 : Hid (LSt w3 lo (.slice va N vc) l) := Lib.hid (own_below (by rw [HN.out]; exact HL.out) HB3.out)
  rw [← hw3]
  have y20 := X2.out.cell 0
  have y40 := X4.out.cell 0
  have y41 := X4.out.cell 1
  have y42 := X4.out.cell 2
  have y43 := X4.out.cell 3
  have y44 := X4.out.cell 4
  have f40 := X4.out.free 0
  have f41 := X4.out.free 1
  have f42 := X4.out.free 2
  have f43 := X4.out.free 3
  have f44 := X4.out.free 4
  simp at y20 y40 y41 y42 y43 y44
  clear hw3
  go_loop [5] (fun i => ∃ k : Nat, k ≤ N ∧ i = .int .i64 k ∧ ∀ q ∈ l.take k, q.1 ≠ L nm) (fun i => N - (intOf i).toNat)
  case atStart => exact ⟨0, Nat.zero_le _, rfl, fun q hq => by simp at hq⟩
  case round =>
    obtain ⟨k, hk, rfl, hne⟩ := hrel
    have HNE := Lib.hid hne
    clear hne
    by_cases hlt : k < N
    · obtain ⟨x, hx⟩ : ∃ x, l[k]? = some x := ⟨_, List.getElem?_eq_getElem (by rw [← HN.out]; omega)⟩
      obtain ⟨xn, xt, xs, xe, xf⟩ := x
      obtain ⟨bx, ox, i1, hb1, _, c0, c1, c2, c3, c4⟩ := x_at HL3.out hx
      simp only at c0 c1 c2 c3 c4
      have e1 := eq_nm xn nm
      have HX := Lib.hid hx
      clear hx
      by_cases hq : xn = L nm
      · rw [decide_eq_true hq] at e1
        obtain ⟨rfl, rfl, rfl, rfl⟩ : xt = t0 ∧ xs = s0 ∧ xe = e0 ∧ xf = f0 := by
          have h1 := find_at HX.out (by show ∀ q ∈ l.take k, q.1 ≠ xn; rw [hq]; exact HNE.out)
          simp only at h1
          rw [hq, HF.out] at h1
          cases h1
          exact ⟨rfl, rfl, rfl, rfl⟩
        have hnm : (⟨xn.toArray⟩ : ByteArray) = nm := by rw [hq]; rfl
        rw [hnm] at c0
        have HQ := Lib.hid hq
        clear hq hnm
        go_wp2_with fail
        refine bodyPost_ret (find_results rfl (X4.out.put5 _ _ _ _ _)) rfl ⟨rfl, ?_⟩
        exact ((((HB3.out.setCell (p := ⟨w.heap.size + 1, 0, none⟩) (Nat.le_succ _) _).setCell (p := ⟨w.heap.size + 1, 1, none⟩) (Nat.le_succ _) _).setCell (p := ⟨w.heap.size + 1, 2, none⟩) (Nat.le_succ _) _).setCell (p := ⟨w.heap.size + 1, 3, none⟩) (Nat.le_succ _) _).setCell (p := ⟨w.heap.size + 1, 4, none⟩) (Nat.le_succ _) _
      · rw [decide_eq_false hq] at e1
        have HQ := Lib.hid hq
        clear hq
        go_wp2_with fail
        go_round
        case rel => exact ⟨k + 1, by omega, by go_num, find_ne_take HX.out HNE.out HQ.out⟩
        case measure => simp [intOf]; omega
    · obtain rfl : k = N := by omega
      have hf0 : (⟨t0, s0, e0, f0⟩ : Xd) = d0 := by
        rw [← HF.out, find_none l (L nm) (by have := HNE.out; rwa [List.take_of_length_le (by rw [← HN.out]; exact Nat.le_refl _)] at this)]
      obtain ⟨rfl, rfl, rfl, rfl⟩ : t0 = [] ∧ s0 = false ∧ e0 = false ∧ f0 = false := by
        rw [d0] at hf0
        cases hf0
        exact ⟨rfl, rfl, rfl, rfl⟩
      clear hf0
      go_wp2_with fail
      refine bodyPost_ret (find_results rfl (X4.out.put5 _ _ _ _ _)) rfl ⟨rfl, ?_⟩
      exact ((((HB3.out.setCell (p := ⟨w.heap.size + 1, 0, none⟩) (Nat.le_succ _) _).setCell (p := ⟨w.heap.size + 1, 1, none⟩) (Nat.le_succ _) _).setCell (p := ⟨w.heap.size + 1, 2, none⟩) (Nat.le_succ _) _).setCell (p := ⟨w.heap.size + 1, 3, none⟩) (Nat.le_succ _) _).setCell (p := ⟨w.heap.size + 1, 4, none⟩) (Nat.le_succ _) _
end Go.Proofs.YthfnkgofkdahfaaGreatDoor
