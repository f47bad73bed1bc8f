/-
  The walk of the document's Param.
-/
import Derived.Test.YthfnkgofkdahfaaGreatDoorP4
import Derived.Deep.QuietTactic
namespace Go.Proofs.YthfnkgofkdahfaaGreatDoor
open Go.RowKit

theorem or_sign (s : ByteArray) : s = ⟨#[48]⟩ ∨ s = ⟨#[35]⟩ ∨ s = ⟨#[63]⟩ ∨ s = ⟨#[36]⟩ ∨ s = ⟨#[45]⟩ ∨ s = ⟨#[33]⟩ ∨ s = ⟨#[64]⟩ ∨ s = ⟨#[42]⟩ ∨ Plain (L s) := by
  have h : ∀ c : UInt8, L s = [c] → s = ⟨#[c]⟩ := fun c e => by rw [← S_L s, e]; rfl
  by_cases h1 : L s = [48]
  · exact .inl (h _ h1)
  by_cases h2 : L s = [35]
  · exact .inr (.inl (h _ h2))
  by_cases h3 : L s = [63]
  · exact .inr (.inr (.inl (h _ h3)))
  by_cases h4 : L s = [36]
  · exact .inr (.inr (.inr (.inl (h _ h4))))
  by_cases h5 : L s = [45]
  · exact .inr (.inr (.inr (.inr (.inl (h _ h5)))))
  by_cases h6 : L s = [33]
  · exact .inr (.inr (.inr (.inr (.inr (.inl (h _ h6))))))
  by_cases h7 : L s = [64]
  · exact .inr (.inr (.inr (.inr (.inr (.inr (.inl (h _ h7)))))))
  by_cases h8 : L s = [42]
  · exact .inr (.inr (.inr (.inr (.inr (.inr (.inr (.inl (h _ h8))))))))
  exact .inr (.inr (.inr (.inr (.inr (.inr (.inr (.inr ⟨h1, h2, h3, h4, h5, h6, h7, h8⟩)))))))
theorem ne_sign {s : ByteArray} {c : UInt8} (h : L s ≠ [c]) : (s.toList == [c]) = false := by
  rw [toList_L]
  simpa using h

section
variable {lo B : Nat} {V : Value} {l : List (Nm × Xd)} {xs : List ByteArray} {st : Int}
set_option maxHeartbeats 2000000 in
set_option maxRecDepth 100000 in
theorem rparam_any (s : ByteArray) (w : World) (hR : RSt w lo B V l xs st) (hB : B ≤ w.heap.size) (hl : l.length ≤ 1000) (hg : Good l) (hx : xs.length ≤ 50) (hz : ∀ s ∈ xs, s.size ≤ 1048576) (hst : -9223372036854775808 ≤ st ∧ st ≤ 9223372036854775807) (ho : OkP (L s)) :
    Calls Tryz.prog 32 #[V, .string s] w fun e w' => e = .returned (.tuple #[.string ⟨(paramL l (xs.map L) st (L s)).1.toArray⟩, .bool (paramL l (xs.map L) st (L s)).2]) ∧ Below w.heap.size w w' := by
  obtain ⟨vL, a, c, rfl, hL, hE⟩ := hR
  obtain ⟨va, vc, rfl⟩ := own_shape hL
  obtain ⟨n, hn⟩ : ∃ n, n = xs.length := ⟨_, rfl⟩
  obtain ⟨N, hN⟩ : ∃ n, n = l.length := ⟨_, rfl⟩
  have hnl : (xs.map L).length = n := by rw [List.length_map, hn]
  have CJ : Hid (∀ W, Below w.heap.size w W → Calls Tryz.prog 49 #[.slice a n c, .string ⟨#[32]⟩] W fun e w' => e = .returned (.string ⟨(Lib.join (xs.map L) [32]).toArray⟩) ∧ w' = W) := Lib.hid fun W hW => by
    rw [hn]
    exact (rjoin_any a c xs W B (hE.below (hW.mono hB)) hx hz).mono fun e w' h => ⟨h.1, h.2.symm⟩
  have C1 : Hid (∀ W, Calls Tryz.prog 48 #[.int .i64 st] W fun e w' => e = .returned (.string ⟨(Lib.itoa st).toArray⟩) ∧ Below W.heap.size W w') := Lib.hid fun W => rdig_any st hst.1 hst.2 W
  have C2 : Hid (∀ W, Calls Tryz.prog 48 #[.int .i64 (n : Int)] W fun e w' => e = .returned (.string ⟨(Lib.decDigits n).toArray⟩) ∧ Below W.heap.size W w') := Lib.hid fun W => by
    have := rdig_any (n : Int) (by omega) (by omega) W
    rwa [Lib.itoa_nonneg] at this
  have HL := Lib.hid hL
  have HE := Lib.hid hE
  have HG := Lib.hid hg
  have HN := Lib.hid hn
  have HNL := Lib.hid hnl
  have HO := Lib.hid ho
  have HBB := Lib.hid hB
  have HLN := Lib.hid hN
  rw [← hn, ← hN]
  rw [← hn] at hx
  rw [← hN] at hl
  clear hL hE hg hn hnl ho hz hst hB hN
  have P0 : Hid (paramL l (xs.map L) st (L s) = paramL l (xs.map L) st (L s)) := Lib.hid rfl
  rcases or_sign s with rfl | rfl | rfl | rfl | rfl | rfl | rfl | rfl | hpl
  · have HP : Hid (paramL l (xs.map L) st (L ⟨#[48]⟩) = ([115, 104], true)) := Lib.hid rfl
    rw [HP.out]
    clear HP P0
    go_enter Tryz.func32, Tryz.ntmps32
    go_wp2_with fail
    go_ret2
    exact ⟨rfl, (Below.refl _ _).alloc (Nat.le_refl _) _⟩
  · have HP : Hid (paramL l (xs.map L) st (L ⟨#[35]⟩) = (Lib.decDigits n, true)) := Lib.hid (by rw [← HNL.out]; rfl)
    rw [HP.out]
    clear HP P0
    go_enter Tryz.func32, Tryz.ntmps32
    go_wp2_with fail
    refine (C2.out _).mono ?_
    rintro e w1 ⟨rfl, hb1⟩
    have HB1 : Hid (Below w.heap.size w w1) := Lib.hid (((Below.refl _ _).alloc (Nat.le_refl _) _).trans (hb1.mono (by simp)))
    clear hb1
    go_wp2_with fail
    go_ret2
    exact ⟨rfl, HB1.out⟩
  · have HP : Hid (paramL l (xs.map L) st (L ⟨#[63]⟩) = (Lib.itoa st, true)) := Lib.hid rfl
    rw [HP.out]
    clear HP P0
    go_enter Tryz.func32, Tryz.ntmps32
    go_wp2_with fail
    refine (C1.out _).mono ?_
    rintro e w1 ⟨rfl, hb1⟩
    have HB1 : Hid (Below w.heap.size w w1) := Lib.hid (((Below.refl _ _).alloc (Nat.le_refl _) _).trans (hb1.mono (by simp)))
    clear hb1
    go_wp2_with fail
    go_ret2
    exact ⟨rfl, HB1.out⟩
  ·
    have HP : Hid (paramL l (xs.map L) st (L ⟨#[36]⟩) = ([49], true)) := Lib.hid rfl
    rw [HP.out]
    clear HP P0
    go_enter Tryz.func32, Tryz.ntmps32
    go_wp2_with fail
    go_ret2
    exact ⟨rfl, (Below.refl _ _).alloc (Nat.le_refl _) _⟩
  ·
    have HP : Hid (paramL l (xs.map L) st (L ⟨#[45]⟩) = ([], true)) := Lib.hid rfl
    rw [HP.out]
    clear HP P0
    go_enter Tryz.func32, Tryz.ntmps32
    go_wp2_with fail
    go_ret2
    exact ⟨rfl, (Below.refl _ _).alloc (Nat.le_refl _) _⟩
  ·
    have HP : Hid (paramL l (xs.map L) st (L ⟨#[33]⟩) = ([], false)) := Lib.hid rfl
    rw [HP.out]
    clear HP P0
    go_enter Tryz.func32, Tryz.ntmps32
    go_wp2_with fail
    go_ret2
    exact ⟨rfl, (Below.refl _ _).alloc (Nat.le_refl _) _⟩
  ·
    have HP : Hid (paramL l (xs.map L) st (L ⟨#[64]⟩) = (Lib.join (xs.map L) [32], decide (0 < n))) := Lib.hid (by rw [← HNL.out]; rfl)
    rw [HP.out]
    clear HP P0
    go_enter Tryz.func32, Tryz.ntmps32
    go_wp2_with fail
    go_quiet ((go_at_call 49; exact Calls.quiet_of_same (CJ.out _ (by first | exact (Below.refl _ _).alloc (Nat.le_refl _) _ | exact below_drewN ((Below.refl _ _).alloc (Nat.le_refl _) _) _ | exact Below.drew ((Below.refl _ _).alloc (Nat.le_refl _) _)))))
    go_wp2_with fail
    go_ret2
    exact ⟨by first | rfl | simp, below_drewN ((Below.refl _ _).alloc (Nat.le_refl _) _) nq⟩
  ·
    have HP : Hid (paramL l (xs.map L) st (L ⟨#[42]⟩) = (Lib.join (xs.map L) [32], decide (0 < n))) := Lib.hid (by rw [← HNL.out]; rfl)
    rw [HP.out]
    clear HP P0
    go_enter Tryz.func32, Tryz.ntmps32
    go_wp2_with fail
    go_quiet ((go_at_call 49; exact Calls.quiet_of_same (CJ.out _ (by first | exact (Below.refl _ _).alloc (Nat.le_refl _) _ | exact below_drewN ((Below.refl _ _).alloc (Nat.le_refl _) _) _ | exact Below.drew ((Below.refl _ _).alloc (Nat.le_refl _) _)))))
    go_wp2_with fail
    go_ret2
    exact ⟨by first | rfl | simp, below_drewN ((Below.refl _ _).alloc (Nat.le_refl _) _) nq⟩
  · obtain ⟨p1, p2, p3, p4, p5, p6, p7, p8⟩ := id hpl
    have e1 := ne_sign p1
    have e2 := ne_sign p2
    have e3 := ne_sign p3
    have e4 := ne_sign p4
    have e5 := ne_sign p5
    have e6 := ne_sign p6
    have e7 := ne_sign p7
    have e8 := ne_sign p8
    have HPL := Lib.hid hpl
    clear p1 p2 p3 p4 p5 p6 p7 p8 hpl
    obtain ⟨r, hr⟩ : ∃ r, paramL l (xs.map L) st (L s) = r := ⟨_, rfl⟩
    rw [hr] at P0 ⊢
    have HRR := Lib.hid hr
    clear hr
    go_enter Tryz.func32, Tryz.ntmps32
    go_wp2_with fail
    obtain ⟨w3, hw3⟩ : ∃ W, W = w.alloc (.cells #[.slice va N vc, .string ⟨#[115, 104]⟩, .slice a n c, .int .i64 st] 30) := ⟨_, rfl⟩
    have HB3 : Hid (Below w.heap.size w w3) := Lib.hid (by rw [hw3]; exact (Below.refl _ _).alloc (Nat.le_refl _) _)
    have X2 : Hid (Blk w3 w.heap.size 30 #[.slice va N vc, .string ⟨#[115, 104]⟩, .slice a n c, .int .i64 st]) := Lib.hid (by rw [hw3]; exact Blk.new w _ _)
    rw [← hw3]
    clear hw3 C1 C2 CJ
    have C3 : Hid (∀ W (k : Nat), k < n → Calls Tryz.prog 48 #[.int .i64 ((k : Int) + 1)] W fun e w' => e = .returned (.string ⟨(Lib.decDigits (k + 1)).toArray⟩) ∧ Below W.heap.size W w') := Lib.hid fun W k hk => by
      have h1 := rdig_any ((k + 1 : Nat) : Int) (by omega) (by omega) W
      rw [Lib.itoa_nonneg] at h1
      rwa [show ((k + 1 : Nat) : Int) = (k : Int) + 1 by omega] at h1
    go_loopw [6] (fun i wr => ∃ k : Nat, k ≤ n ∧ i = .int .i64 k ∧ (∀ j, j < k → L s ≠ Lib.decDigits (j + 1)) ∧ Below w3.heap.size w3 wr) (fun i _ => n - (intOf i).toNat)
    case atStart => exact ⟨0, Nat.zero_le _, rfl, fun j hj => by omega, Below.refl _ _⟩
    case round =>
      obtain ⟨k, hk, rfl, hne, hb⟩ := hrel
      have HNE := Lib.hid hne
      have HB := Lib.hid hb
      have z := X2.out.below hb X2.out.lt
      have y20 := z.cell 0
      have y21 := z.cell 1
      have y22 := z.cell 2
      have y23 := z.cell 3
      simp at y20 y21 y22 y23
      have hs := hb.size
      have hw2 := X2.out.lt
      clear hne hb z
      by_cases hlt : k < n
      · have hkl : k < xs.length := by rw [← HN.out]; exact hlt
        obtain ⟨x, hx2⟩ : ∃ x, xs[k]? = some x := ⟨_, List.getElem?_eq_getElem hkl⟩
        have C3k := Lib.hid (C3.out wr k hlt)
        obtain ⟨d, hd⟩ : ∃ d, Lib.decDigits (k + 1) = d := ⟨_, rfl⟩
        rw [hd] at C3k
        have HD := Lib.hid hd
        have HX := Lib.hid hx2
        clear hd hx2
        by_cases heq : L s = d
        · have HR : Hid (r = (L x, true)) := Lib.hid (by
            rw [← HRR.out, param_hit HPL.out HO.out (k := k) (by rw [HNL.out]; exact hlt) (heq.trans HD.out.symm), List.getD_eq_getElem?_getD, List.getElem?_map, HX.out]
            rfl)
          have ee : (s.toList == d) = true := by rw [toList_L, heq]; simp
          clear heq P0
          go_wp2_with fail
          refine C3k.out.mono ?_
          rintro e w5 ⟨rfl, hb5⟩
          have HB5 : Hid (Below w3.heap.size w3 w5) := Lib.hid (HB.out.trans (hb5.mono HB.out.size))
          have HBW : Hid (Below w.heap.size w w5) := Lib.hid (HB3.out.trans (HB5.out.mono HB3.out.size))
          have z := X2.out.below HB5.out X2.out.lt
          have q22 := z.cell 2
          simp at q22
          obtain ⟨be, oe, re, _, ce⟩ := (HE.out.below (HBW.out.mono HBB.out)).1.open 22 9 Tryz.underlying22 (by kernel_rfl)
          rw [← HN.out] at re
          have j1 := fun w' => re k c w' hlt
          have d1 : w5.cell? ⟨be, oe + k, none⟩ = some (.string x) := by rw [ce k (by rw [← HN.out]; exact hlt), List.getElem?_map, HX.out]; rfl
          clear hb5 z re ce
          go_wp2_with fail
          go_ret2
          rw [HR.out]
          exact ⟨rfl, HBW.out⟩
        · have ee : (s.toList == d) = false := by rw [toList_L]; simpa using heq
          have HNE2 : Hid (∀ j, j < k + 1 → L s ≠ Lib.decDigits (j + 1)) := Lib.hid fun j hj => by
            rcases Nat.lt_or_ge j k with h | h
            · exact HNE.out j h
            · obtain rfl : j = k := by omega
              rw [HD.out]; exact heq
          clear heq P0
          go_wp2_with fail
          refine C3k.out.mono ?_
          rintro e w5 ⟨rfl, hb5⟩
          have HB5 : Hid (Below w3.heap.size w3 w5) := Lib.hid (HB.out.trans (hb5.mono HB.out.size))
          clear hb5
          go_wp2_with fail
          go_roundw
          case rel => exact ⟨k + 1, by omega, by go_num, HNE2.out, HB5.out⟩
          case measure => simp [intOf]; omega
      · obtain rfl : k = n := by omega
        have HBW : Hid (Below w.heap.size w wr) := Lib.hid (HB3.out.trans (HB.out.mono HB3.out.size))
        obtain ⟨⟨t0, s0, e0, f0⟩, hx⟩ : ∃ x, find l (L s) = x := ⟨_, rfl⟩
        have HR : Hid (r = (t0, s0)) := Lib.hid (by
          rw [← HRR.out, param_miss HG.out HPL.out (fun j hj => HNE.out j (by rw [HNL.out] at hj; exact hj)), hx])
        have CF : Hid (Calls Tryz.prog 28 #[.agg #[.slice va N vc, .string ⟨#[115, 104]⟩, .slice a k c, .int .i64 st], .string s] wr fun e w' =>
            e = .returned (.agg #[.string s, .string ⟨t0.toArray⟩, .bool s0, .bool e0, .bool f0]) ∧ Below wr.heap.size wr w') := Lib.hid (rfind_any (.slice va N vc) l a k c st s t0 s0 e0 f0 wr lo (own_below (by rw [HLN.out]; exact HL.out) HBW.out) (by rw [← HLN.out]; exact hl) hx)
        clear hx P0
        go_wp2_with fail
        refine CF.out.mono ?_
        rintro e w5 ⟨rfl, hb5⟩
        have HB5 : Hid (Below w.heap.size w w5) := Lib.hid (HBW.out.trans (hb5.mono HBW.out.size))
        clear hb5
        go_wp2_with fail
        go_quiet (fail)
        go_wp2_with fail
        go_ret2
        rw [HR.out]
        exact ⟨rfl, below_drewN (HB5.out.alloc HB5.out.size _) nq⟩
end
end Go.Proofs.YthfnkgofkdahfaaGreatDoor
