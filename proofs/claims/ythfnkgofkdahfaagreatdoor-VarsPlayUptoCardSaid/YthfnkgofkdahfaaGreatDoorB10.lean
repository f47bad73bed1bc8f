/-
  The walk of the document's Env.
-/
import Derived.Test.YthfnkgofkdahfaaGreatDoorB7
import Derived.Test.YthfnkgofkdahfaaGreatDoorB4
import Derived.Test.YthfnkgofkdahfaaGreatDoorSlStep
import Derived.Deep.RegionLaw
namespace Go.Proofs.YthfnkgofkdahfaaGreatDoor
open Go.RowKit

theorem envR_snoc {l : List (Nm × Xd)} {k : Nat} {p : Nm × Xd} (h : l[k]? = some p) : envR (l.take (k + 1)) = if inEnv p.2 then envR (l.take k) ++ [(p.1, p.2.text)] else envR (l.take k) := by
  obtain ⟨hk, e⟩ := List.getElem?_eq_some_iff.1 h
  rw [envR, List.take_succ_eq_append_getElem hk, List.filter_append, e, List.map_append]
  cases hb : inEnv p.2 <;> simp [hb, envR]
theorem envR_le (l : List (Nm × Xd)) (k : Nat) : (envR (l.take k)).length ≤ k := by
  rw [envR, List.length_map]
  exact Nat.le_trans (List.length_filter_le _ _) (by rw [List.length_take]; omega)

section
variable {lo B : Nat} {V : Value} {l : List (Nm × Xd)} {xs : List ByteArray} {st : Int}
set_option maxHeartbeats 2000000 in
theorem renv_any (w : World) (hR : RSt w lo B V l xs st) (hl : l.length ≤ 1000) (hg : Good l) :
    Calls Tryz.prog 35 #[V] w fun e w' => ∃ v', e = .returned v' ∧ OwnS w' w.heap.size v' ((envR l).map entS) ∧ Below w.heap.size w w' := by
  obtain ⟨vL, a, c, rfl, hL, hE⟩ := hR
  obtain ⟨va, vc, rfl⟩ := own_shape hL
  obtain ⟨N, hN⟩ : ∃ N, N = l.length := ⟨_, rfl⟩
  obtain ⟨n, hn⟩ : ∃ n, n = xs.length := ⟨_, rfl⟩
  have HN := Lib.hid hN
  have HL := Lib.hid hL
  have HG := Lib.hid hg
  rw [← hN] at hl
  rw [← hN, ← hn]
  clear hN hL hg hE hn
  go_enter Tryz.func35, Tryz.ntmps35
  go_wp2_with fail
  obtain ⟨w3, hw3⟩ : ∃ W, W = (w.alloc (.cells #[.slice va N vc, .string ⟨#[115, 104]⟩, .slice a n c, .int .i64 st] 30)) := ⟨_, rfl⟩
  have HB3 : Hid (Below w.heap.size w w3) := Lib.hid (by rw [hw3]; exact (Below.refl _ _).alloc (Nat.le_refl _) _)
  have HS3 : Hid (w3.heap.size = w.heap.size + 1) := Lib.hid (by rw [hw3]; simp)
  have X2 : Hid (Blk w3 w.heap.size 30 #[.slice va N vc, .string ⟨#[115, 104]⟩, .slice a n c, .int .i64 st]) := Lib.hid (by rw [hw3]; exact Blk.new w _ _)
  have HLW : Hid (∀ W, Below w3.heap.size w3 W → LSt W lo (.slice va N vc) l) := Lib.hid fun W hW => own_below (own_below (by rw [HN.out]; exact HL.out) HB3.out) hW
  rw [← hw3]
  clear hw3
  go_loopw [3, 4] (fun v3 i wr => ∃ k : Nat, k ≤ N ∧ i = .int .i64 k ∧ OwnS wr (w.heap.size + 1) v3 ((envR (l.take k)).map entS) ∧ Below w3.heap.size w3 wr) (fun _ i _ => N - (intOf i).toNat)
  case atStart => exact ⟨0, Nat.zero_le _, rfl, OwnS.nil _ _, Below.refl _ _⟩
  case round =>
    obtain ⟨k, hk, rfl, hown, hb⟩ := hrel
    have hbs := hb.size
    have hs3 := HS3.out
    obtain ⟨oa, oc, rfl⟩ := own_shape hown
    have y20 := (X2.out.below hb X2.out.lt).cell 0
    simp at y20
    have hll := envR_le l k
    by_cases hlt : k < N
    · obtain ⟨x, hx⟩ : ∃ x, l[k]? = some x := ⟨_, List.getElem?_eq_getElem (by rw [← HN.out]; omega)⟩
      obtain ⟨xn, xt, xs', xe, xf⟩ := x
      obtain ⟨bx, ox, i1, hb1, _, c0, c1, c2, c3, c4⟩ := x_at (HLW.out wr hb) hx
      have hsn := envR_snoc hx
      have hgx := HG.out _ (List.mem_of_getElem? hx)
      simp only [inEnv] at c0 c1 c2 c3 c4 hsn hgx
      obtain ⟨D, hD⟩ : ∃ D, D = envR (l.take k) := ⟨_, rfl⟩
      rw [← hD] at hown hsn hll ⊢
      obtain ⟨cc, hcc⟩ : ∃ c, c = (D.map entS).length := ⟨_, rfl⟩
      have hcl : cc ≤ k := by rw [hcc, List.length_map]; exact hll
      rw [← hcc]
      rw [OwnS, ← hcc] at hown
      have HSN := Lib.hid hsn
      have HO := Lib.hid hown
      have HB := Lib.hid hb
      have HC := Lib.hid hcc
      have cat1 : (⟨xn.toArray⟩ : ByteArray).size + 1 ≤ 9223372036854775807 := by rw [show (⟨xn.toArray⟩ : ByteArray) = S xn from rfl, S_size]; omega
      have cat2 : (⟨xn.toArray⟩ : ByteArray).size + 1 + xt.length ≤ 9223372036854775807 := by rw [show (⟨xn.toArray⟩ : ByteArray) = S xn from rfl, S_size]; omega
      clear hx hown hb hsn hD hcc hgx hll
      by_cases hin : (xs' && xe) = true
      · obtain ⟨rfl, rfl⟩ : xs' = true ∧ xe = true := by simpa using hin
        clear hin
        have k1 : ∀ V : World, (Op.stringOp .add ⟨xn.toArray⟩ ⟨#[61]⟩).run Tryz.prog V = .ok (.string (⟨xn.toArray⟩ ++ ⟨#[61]⟩)) V := fun V => run_string_add_sum V _ _ (by simpa using cat1)
        have k2 : ∀ V : World, (Op.stringOp .add (⟨xn.toArray⟩ ++ ⟨#[61]⟩) ⟨xt.toArray⟩).run Tryz.prog V = .ok (.string (⟨xn.toArray⟩ ++ ⟨#[61]⟩ ++ ⟨xt.toArray⟩)) V := fun V => run_string_add_sum V _ _ (by simpa using cat2)
        clear cat1 cat2
        have HSL : Hid (Sl (wr.alloc (.cells #[.string (⟨xn.toArray⟩ ++ ⟨#[61]⟩ ++ ⟨xt.toArray⟩)] 9)).drew (wr.heap.size + 1) 1 (.slice (some ⟨wr.heap.size, 0, none⟩) 1 1) 1 [.string (⟨xn.toArray⟩ ++ ⟨#[61]⟩ ++ ⟨xt.toArray⟩)]) := Lib.hid ((sl_made wr #[.string (⟨xn.toArray⟩ ++ ⟨#[61]⟩ ++ ⟨xt.toArray⟩)] 9 1 1 rfl (by unfold maxLen; omega) (Nat.lt_succ_self _)).below (Below.drew (Below.refl _ _)))
        have HOW : Hid ((wr.alloc (.cells #[.string (⟨xn.toArray⟩ ++ ⟨#[61]⟩ ++ ⟨xt.toArray⟩)] 9)).drew.ownsRow (w.heap.size + 1) 9 1 (.slice oa cc oc) cc ((D.map entS).map Value.string)) := Lib.hid (own_below (World.ownsRow.alloc HO.out _) (Below.drew (Below.refl _ _)))
        go_wp2_with fail
        go_region_law (refine step_append_sl rfl _ _ 22 rfl (w.heap.size + 1) 9 Tryz.underlying22 infoS rfl (by decide) (v := .slice oa cc oc) (n := cc) (xs := (D.map entS).map Value.string) rfl HOW.out (m := 1) (news := [.string (⟨xn.toArray⟩ ++ ⟨#[61]⟩ ++ ⟨xt.toArray⟩)]) rfl (B := wr.heap.size + 1) HSL.out (by omega) (by intro u hu; simp at hu; rcases hu with rfl; rfl) (by omega) (by simp; omega) ?_; intro g1 cap1 w6 hown hgrow hlie hglt)
        all_goals
          have HB6 : Hid (Below w3.heap.size w3 w6) := Lib.hid ((Below.drew (HB.out.alloc hbs _)).grown hgrow (by simp; omega) fun p hp => by have := (World.ownsRow.lt HO.out p hp).1; omega)
          have HO6 := Lib.hid hown
          clear hown hgrow hlie hglt k1 k2
          go_wp2_with fail
          go_roundw
          case rel =>
            refine ⟨k + 1, by omega, by go_num, ?_, HB6.out⟩
            rw [HSN.out]
            show World.ownsRow _ _ _ _ _ ((D ++ [(xn, xt)]).map entS).length (((D ++ [(xn, xt)]).map entS).map Value.string)
            rw [List.map_append, List.length_append, ← HC.out, List.map_append]
            have h1 := HO6.out
            rw [entS_eq ⟨xn.toArray⟩ xt] at h1
            exact h1
          case measure => simp [intOf]; omega
      · have hse : (xs' = false ∧ xe = false) ∨ (xs' = false ∧ xe = true) ∨ (xs' = true ∧ xe = false) := by cases xs' <;> cases xe <;> simp_all
        clear hin
        rcases hse with ⟨rfl, rfl⟩ | ⟨rfl, rfl⟩ | ⟨rfl, rfl⟩
        all_goals
          go_wp2_with fail
          go_roundw
          case rel => exact ⟨k + 1, by omega, by go_num, by rw [HSN.out, OwnS]; simp only [Bool.and_false, Bool.false_and, Bool.true_and, Bool.false_eq_true, if_false]; rw [← HC.out]; exact HO.out, HB.out⟩
          case measure => simp [intOf]; omega
    · obtain rfl : k = N := by omega
      rw [List.take_of_length_le (show l.length ≤ k by rw [← HN.out]; exact Nat.le_refl _)] at hown ⊢
      have HO := Lib.hid hown
      have HB := Lib.hid hb
      clear hown hb
      go_wp2_with fail
      go_ret
      exact ⟨_, rfl, own_from HO.out (Nat.le_succ _), HB3.out.trans (HB.out.mono (by omega))⟩
end
end Go.Proofs.YthfnkgofkdahfaaGreatDoor
