/-
  The document's walk of an action, bit by bit.
-/
import Derived.Test.YtbfplannbhafeaaDoorM14
namespace Go.Proofs.YtbfplannbhafeaaDoor
open Go.RowKit

/-- The first b bits are what they shall be, the others as they were. -/
def Upto (D m : Nat) (b o : Nat) : Prop := o < 4096 ∧ ∀ j, j < 12 → o.testBit j = if j < b then D.testBit j else m.testBit j
theorem Upto.keep {D m b o : Nat} (h : Upto D m b o) (hd : D.testBit b = m.testBit b) : Upto D m (b + 1) o := by
  refine ⟨h.1, fun j hj => ?_⟩
  rw [h.2 j hj]
  by_cases e : j = b
  · subst e; rw [if_neg (by omega), if_pos (by omega), hd]
  · by_cases h2 : j < b
    · rw [if_pos h2, if_pos (by omega)]
    · rw [if_neg h2, if_neg (by omega)]
theorem Upto.put {D m b o : Nat} (h : Upto D m b o) (hb : b < 12) (y : Bool) (hd : D.testBit b = y) : Upto D m (b + 1) (putN o b y) := by
  refine ⟨put_lt y h.1 hb, fun j hj => ?_⟩
  rw [put_bit]
  by_cases e : j = b
  · subst e; rw [if_pos rfl, if_pos (by omega), hd]
  · rw [if_neg e, h.2 j hj]
    by_cases h2 : j < b
    · rw [if_pos h2, if_pos (by omega)]
    · rw [if_neg h2, if_neg (by omega)]
theorem Upto.all {D m o : Nat} (h : Upto D m 12 o) (hD : D < 4096) : o = D := by
  apply Nat.eq_of_testBit_eq
  intro j
  by_cases hj : j < 12
  · rw [h.2 j hj, if_pos hj]
  · rw [bit_high h.1 (by omega), bit_high hD (by omega)]

set_option maxHeartbeats 4000000 in
set_option maxRecDepth 100000 in
theorem actRef_any (m : Nat) (sign : UInt8) (p q : ByteArray) (dir : Bool) (mask : Nat) (named : Bool) (c : Who) (w : World) (hm : m < 4096) (hk : mask < 4096) (hp : p.size ≤ 100000) (hq : q.size ≤ 100000)
    (hw : WhoIs (L q) c) (hl : ∀ x ∈ L p, isLet x = true) (hs : isSign sign = true) (D : Nat) (hD : D = doSign sign m (masked named mask (letsN c (anyB dir m) 0 (L p))) (masked named mask (c.own ||| c.bes))) :
    Calls Tryd.prog 31 #[.int .i64 m, .int .u8 (sign.toNat : Nat), .string p, .string q, .bool dir, .int .i64 mask, .bool named] w fun e w' => e = .returned (.int .i64 (D : Nat)) ∧ w' = w := by
  have hD4 : D < 4096 := by rw [hD]; exact doSign_lt _ _ _ _ hm (masked_lt _ _ _ (letsN_lt _ _ _ _ (by omega)))
  have hbit : ∀ b, b < 12 → D.testBit b = if named = false ∧ b < 9 ∧ mask.testBit b = true then m.testBit b else
      if sign = 43 then (meantB (L p) c b (anyB dir m) || m.testBit b) else if sign = 45 then (!meantB (L p) c b (anyB dir m) && m.testBit b) else if (meantB (L p) c b (anyB dir m) || goneB c b) = true then meantB (L p) c b (anyB dir m) else m.testBit b := fun b hb => by
    rw [hD]; exact act_bit c named (anyB dir m) mask m (L p) sign b hb hl
  obtain ⟨any, hany⟩ : ∃ any, any = anyB dir m := ⟨_, rfl⟩
  rw [← hany] at hbit
  have han : any = (dir || (m.testBit 0 || m.testBit 3 || m.testBit 6)) := by rw [hany, anyB, any_law]
  obtain ⟨b0, h0⟩ : ∃ b, m.testBit 0 = b := ⟨_, rfl⟩
  obtain ⟨b3, h3⟩ : ∃ b, m.testBit 3 = b := ⟨_, rfl⟩
  obtain ⟨b6, h6⟩ : ∃ b, m.testBit 6 = b := ⟨_, rfl⟩
  rw [h0, h3, h6] at han
  have H0 : Hid (∀ w, Calls Tryd.prog 25 #[.int .i64 m, .int .i64 0] w fun e w' => e = .returned (.bool b0) ∧ w' = w) := Lib.hid fun w => has_any m 0 w hm (by omega) b0 h0
  have H3 : Hid (∀ w, Calls Tryd.prog 25 #[.int .i64 m, .int .i64 3] w fun e w' => e = .returned (.bool b3) ∧ w' = w) := Lib.hid fun w => has_any m 3 w hm (by omega) b3 h3
  have H6 : Hid (∀ w, Calls Tryd.prog 25 #[.int .i64 m, .int .i64 6] w fun e w' => e = .returned (.bool b6) ∧ w' = w) := Lib.hid fun w => has_any m 6 w hm (by omega) b6 h6
  have HB := Lib.hid hbit
  have HD4 := Lib.hid hD4
  have HU0 : Hid (Upto D m 0 m) := Lib.hid ⟨hm, fun j _ => by rw [if_neg (by omega)]⟩
  have HSG : Hid (sign = 43 ∨ sign = 45 ∨ sign = 61) := Lib.hid (by simpa [isSign, or_assoc] using hs)
  have CMB := Lib.hid (fun b (hb : b < 12) w => meant_any p q c b any w hp hq hw hb)
  have CGB := Lib.hid (fun b (hb : b < 12) w => gone_any q c b w hq hw hb)
  have HM := Lib.hid hm
  clear hD hbit hany h0 h3 h6 hD4 hl hw hs hm
  cases dir with
  | true =>
    have ha : any = true := by rw [han]; rfl
    subst ha
    clear han
    go_enter Tryd.func31, Tryd.ntmps31
    go_wp2_with fail
    go_loop [16, 17] (fun o i => ∃ b n : Nat, b ≤ 12 ∧ i = .int .i64 b ∧ o = .int .i64 n ∧ Upto D m b n) (fun _ i => 12 - (intOf i).toNat)
    case atStart => exact ⟨0, m, by omega, rfl, rfl, HU0.out⟩
    case round =>
      obtain ⟨b, n, hb, rfl, rfl, hu⟩ := hrel
      have HU := Lib.hid hu
      clear hu
      by_cases hlt : b < 12
      · obtain ⟨mk, hmk⟩ : ∃ x, mask.testBit b = x := ⟨_, rfl⟩
        obtain ⟨me, hme⟩ : ∃ x, x = meantB (L p) c b true := ⟨_, rfl⟩
        obtain ⟨gn, hgn⟩ : ∃ x, x = goneB c b := ⟨_, rfl⟩
        have hDb := HB.out b hlt
        rw [hmk, ← hme, ← hgn] at hDb
        have CH := Lib.hid (fun w => has_any mask b w hk (by omega) mk hmk)
        have CM := Lib.hid (CMB.out b hlt)
        have CG := Lib.hid (CGB.out b hlt)
        have CT := Lib.hid (fun w => put_any n b true w HU.out.1 hlt)
        have CF := Lib.hid (fun w => put_any n b false w HU.out.1 hlt)
        rw [← hme] at CM
        rw [← hgn] at CG
        have HDB := Lib.hid hDb
        clear hmk hme hgn hDb
        cases named with
        | true =>
          have HN : Hid True := Lib.hid trivial
          rcases HSG.out with hs | hs | hs
          · have e1 : (((sign.toNat : Nat) : Int) == 43) = true := by rw [hs]; rfl
            have e2 : (((sign.toNat : Nat) : Int) == 45) = false := by rw [hs]; rfl
            have e3 : (((sign.toNat : Nat) : Int) == 61) = false := by rw [hs]; rfl
            have HS := Lib.hid hs
            clear hs
            cases me
            · skip
              go_wp2_with (first | (go_at_call 25; refine (CH.out _).mono ?_; rintro e w' ⟨rfl, rfl⟩) | (go_at_call 37; refine (CM.out _).mono ?_; rintro e w' ⟨rfl, rfl⟩) | (go_at_call 38; refine (CG.out _).mono ?_; rintro e w' ⟨rfl, rfl⟩) | (go_at_call 26; first | (with_reducible refine (CT.out _).mono ?_; rintro e w' ⟨rfl, rfl⟩) | (with_reducible refine (CF.out _).mono ?_; rintro e w' ⟨rfl, rfl⟩)))
              all_goals go_round
              all_goals first
                | (case measure => simp [intOf]; omega)
                | (case rel => exact ⟨b + 1, _, by omega, by go_num, rfl, by first | exact HU.out.keep (by rw [HDB.out]; have hS := HS.out; have hN := HN.out; simp [*]; done) | exact HU.out.keep (by rw [HDB.out]; have hS := HS.out; have hN := HN.out; simp [*]; omega) | exact HU.out.put hlt true (by rw [HDB.out]; have hS := HS.out; have hN := HN.out; simp [*]; done) | exact HU.out.put hlt false (by rw [HDB.out]; have hS := HS.out; have hN := HN.out; simp [*]; done) | exact HU.out.put hlt true (by rw [HDB.out]; have hS := HS.out; have hN := HN.out; simp [*]; omega) | exact HU.out.put hlt false (by rw [HDB.out]; have hS := HS.out; have hN := HN.out; simp [*]; omega)⟩)
            · skip
              go_wp2_with (first | (go_at_call 25; refine (CH.out _).mono ?_; rintro e w' ⟨rfl, rfl⟩) | (go_at_call 37; refine (CM.out _).mono ?_; rintro e w' ⟨rfl, rfl⟩) | (go_at_call 38; refine (CG.out _).mono ?_; rintro e w' ⟨rfl, rfl⟩) | (go_at_call 26; first | (with_reducible refine (CT.out _).mono ?_; rintro e w' ⟨rfl, rfl⟩) | (with_reducible refine (CF.out _).mono ?_; rintro e w' ⟨rfl, rfl⟩)))
              all_goals go_round
              all_goals first
                | (case measure => simp [intOf]; omega)
                | (case rel => exact ⟨b + 1, _, by omega, by go_num, rfl, by first | exact HU.out.keep (by rw [HDB.out]; have hS := HS.out; have hN := HN.out; simp [*]; done) | exact HU.out.keep (by rw [HDB.out]; have hS := HS.out; have hN := HN.out; simp [*]; omega) | exact HU.out.put hlt true (by rw [HDB.out]; have hS := HS.out; have hN := HN.out; simp [*]; done) | exact HU.out.put hlt false (by rw [HDB.out]; have hS := HS.out; have hN := HN.out; simp [*]; done) | exact HU.out.put hlt true (by rw [HDB.out]; have hS := HS.out; have hN := HN.out; simp [*]; omega) | exact HU.out.put hlt false (by rw [HDB.out]; have hS := HS.out; have hN := HN.out; simp [*]; omega)⟩)
          · have e1 : (((sign.toNat : Nat) : Int) == 43) = false := by rw [hs]; rfl
            have e2 : (((sign.toNat : Nat) : Int) == 45) = true := by rw [hs]; rfl
            have e3 : (((sign.toNat : Nat) : Int) == 61) = false := by rw [hs]; rfl
            have HS := Lib.hid hs
            clear hs
            cases me
            · skip
              go_wp2_with (first | (go_at_call 25; refine (CH.out _).mono ?_; rintro e w' ⟨rfl, rfl⟩) | (go_at_call 37; refine (CM.out _).mono ?_; rintro e w' ⟨rfl, rfl⟩) | (go_at_call 38; refine (CG.out _).mono ?_; rintro e w' ⟨rfl, rfl⟩) | (go_at_call 26; first | (with_reducible refine (CT.out _).mono ?_; rintro e w' ⟨rfl, rfl⟩) | (with_reducible refine (CF.out _).mono ?_; rintro e w' ⟨rfl, rfl⟩)))
              all_goals go_round
              all_goals first
                | (case measure => simp [intOf]; omega)
                | (case rel => exact ⟨b + 1, _, by omega, by go_num, rfl, by first | exact HU.out.keep (by rw [HDB.out]; have hS := HS.out; have hN := HN.out; simp [*]; done) | exact HU.out.keep (by rw [HDB.out]; have hS := HS.out; have hN := HN.out; simp [*]; omega) | exact HU.out.put hlt true (by rw [HDB.out]; have hS := HS.out; have hN := HN.out; simp [*]; done) | exact HU.out.put hlt false (by rw [HDB.out]; have hS := HS.out; have hN := HN.out; simp [*]; done) | exact HU.out.put hlt true (by rw [HDB.out]; have hS := HS.out; have hN := HN.out; simp [*]; omega) | exact HU.out.put hlt false (by rw [HDB.out]; have hS := HS.out; have hN := HN.out; simp [*]; omega)⟩)
            · skip
              go_wp2_with (first | (go_at_call 25; refine (CH.out _).mono ?_; rintro e w' ⟨rfl, rfl⟩) | (go_at_call 37; refine (CM.out _).mono ?_; rintro e w' ⟨rfl, rfl⟩) | (go_at_call 38; refine (CG.out _).mono ?_; rintro e w' ⟨rfl, rfl⟩) | (go_at_call 26; first | (with_reducible refine (CT.out _).mono ?_; rintro e w' ⟨rfl, rfl⟩) | (with_reducible refine (CF.out _).mono ?_; rintro e w' ⟨rfl, rfl⟩)))
              all_goals go_round
              all_goals first
                | (case measure => simp [intOf]; omega)
                | (case rel => exact ⟨b + 1, _, by omega, by go_num, rfl, by first | exact HU.out.keep (by rw [HDB.out]; have hS := HS.out; have hN := HN.out; simp [*]; done) | exact HU.out.keep (by rw [HDB.out]; have hS := HS.out; have hN := HN.out; simp [*]; omega) | exact HU.out.put hlt true (by rw [HDB.out]; have hS := HS.out; have hN := HN.out; simp [*]; done) | exact HU.out.put hlt false (by rw [HDB.out]; have hS := HS.out; have hN := HN.out; simp [*]; done) | exact HU.out.put hlt true (by rw [HDB.out]; have hS := HS.out; have hN := HN.out; simp [*]; omega) | exact HU.out.put hlt false (by rw [HDB.out]; have hS := HS.out; have hN := HN.out; simp [*]; omega)⟩)
          · have e1 : (((sign.toNat : Nat) : Int) == 43) = false := by rw [hs]; rfl
            have e2 : (((sign.toNat : Nat) : Int) == 45) = false := by rw [hs]; rfl
            have e3 : (((sign.toNat : Nat) : Int) == 61) = true := by rw [hs]; rfl
            have HS := Lib.hid hs
            clear hs
            cases me
            · cases gn
              · skip
                go_wp2_with (first | (go_at_call 25; refine (CH.out _).mono ?_; rintro e w' ⟨rfl, rfl⟩) | (go_at_call 37; refine (CM.out _).mono ?_; rintro e w' ⟨rfl, rfl⟩) | (go_at_call 38; refine (CG.out _).mono ?_; rintro e w' ⟨rfl, rfl⟩) | (go_at_call 26; first | (with_reducible refine (CT.out _).mono ?_; rintro e w' ⟨rfl, rfl⟩) | (with_reducible refine (CF.out _).mono ?_; rintro e w' ⟨rfl, rfl⟩)))
                all_goals go_round
                all_goals first
                  | (case measure => simp [intOf]; omega)
                  | (case rel => exact ⟨b + 1, _, by omega, by go_num, rfl, by first | exact HU.out.keep (by rw [HDB.out]; have hS := HS.out; have hN := HN.out; simp [*]; done) | exact HU.out.keep (by rw [HDB.out]; have hS := HS.out; have hN := HN.out; simp [*]; omega) | exact HU.out.put hlt true (by rw [HDB.out]; have hS := HS.out; have hN := HN.out; simp [*]; done) | exact HU.out.put hlt false (by rw [HDB.out]; have hS := HS.out; have hN := HN.out; simp [*]; done) | exact HU.out.put hlt true (by rw [HDB.out]; have hS := HS.out; have hN := HN.out; simp [*]; omega) | exact HU.out.put hlt false (by rw [HDB.out]; have hS := HS.out; have hN := HN.out; simp [*]; omega)⟩)
              · skip
                go_wp2_with (first | (go_at_call 25; refine (CH.out _).mono ?_; rintro e w' ⟨rfl, rfl⟩) | (go_at_call 37; refine (CM.out _).mono ?_; rintro e w' ⟨rfl, rfl⟩) | (go_at_call 38; refine (CG.out _).mono ?_; rintro e w' ⟨rfl, rfl⟩) | (go_at_call 26; first | (with_reducible refine (CT.out _).mono ?_; rintro e w' ⟨rfl, rfl⟩) | (with_reducible refine (CF.out _).mono ?_; rintro e w' ⟨rfl, rfl⟩)))
                all_goals go_round
                all_goals first
                  | (case measure => simp [intOf]; omega)
                  | (case rel => exact ⟨b + 1, _, by omega, by go_num, rfl, by first | exact HU.out.keep (by rw [HDB.out]; have hS := HS.out; have hN := HN.out; simp [*]; done) | exact HU.out.keep (by rw [HDB.out]; have hS := HS.out; have hN := HN.out; simp [*]; omega) | exact HU.out.put hlt true (by rw [HDB.out]; have hS := HS.out; have hN := HN.out; simp [*]; done) | exact HU.out.put hlt false (by rw [HDB.out]; have hS := HS.out; have hN := HN.out; simp [*]; done) | exact HU.out.put hlt true (by rw [HDB.out]; have hS := HS.out; have hN := HN.out; simp [*]; omega) | exact HU.out.put hlt false (by rw [HDB.out]; have hS := HS.out; have hN := HN.out; simp [*]; omega)⟩)
            · skip
              go_wp2_with (first | (go_at_call 25; refine (CH.out _).mono ?_; rintro e w' ⟨rfl, rfl⟩) | (go_at_call 37; refine (CM.out _).mono ?_; rintro e w' ⟨rfl, rfl⟩) | (go_at_call 38; refine (CG.out _).mono ?_; rintro e w' ⟨rfl, rfl⟩) | (go_at_call 26; first | (with_reducible refine (CT.out _).mono ?_; rintro e w' ⟨rfl, rfl⟩) | (with_reducible refine (CF.out _).mono ?_; rintro e w' ⟨rfl, rfl⟩)))
              all_goals go_round
              all_goals first
                | (case measure => simp [intOf]; omega)
                | (case rel => exact ⟨b + 1, _, by omega, by go_num, rfl, by first | exact HU.out.keep (by rw [HDB.out]; have hS := HS.out; have hN := HN.out; simp [*]; done) | exact HU.out.keep (by rw [HDB.out]; have hS := HS.out; have hN := HN.out; simp [*]; omega) | exact HU.out.put hlt true (by rw [HDB.out]; have hS := HS.out; have hN := HN.out; simp [*]; done) | exact HU.out.put hlt false (by rw [HDB.out]; have hS := HS.out; have hN := HN.out; simp [*]; done) | exact HU.out.put hlt true (by rw [HDB.out]; have hS := HS.out; have hN := HN.out; simp [*]; omega) | exact HU.out.put hlt false (by rw [HDB.out]; have hS := HS.out; have hN := HN.out; simp [*]; omega)⟩)
        | false =>
          by_cases h9 : b < 9
          · cases mk with
            | true =>
              have HS : Hid True := Lib.hid trivial
              have HN := Lib.hid h9
              go_wp2_with (first | (go_at_call 25; refine (CH.out _).mono ?_; rintro e w' ⟨rfl, rfl⟩) | (go_at_call 37; refine (CM.out _).mono ?_; rintro e w' ⟨rfl, rfl⟩) | (go_at_call 38; refine (CG.out _).mono ?_; rintro e w' ⟨rfl, rfl⟩) | (go_at_call 26; first | (with_reducible refine (CT.out _).mono ?_; rintro e w' ⟨rfl, rfl⟩) | (with_reducible refine (CF.out _).mono ?_; rintro e w' ⟨rfl, rfl⟩)))
              all_goals go_round
              all_goals first
                | (case measure => simp [intOf]; omega)
                | (case rel => exact ⟨b + 1, _, by omega, by go_num, rfl, by first | exact HU.out.keep (by rw [HDB.out]; have hS := HS.out; have hN := HN.out; simp [*]; done) | exact HU.out.keep (by rw [HDB.out]; have hS := HS.out; have hN := HN.out; simp [*]; omega) | exact HU.out.put hlt true (by rw [HDB.out]; have hS := HS.out; have hN := HN.out; simp [*]; done) | exact HU.out.put hlt false (by rw [HDB.out]; have hS := HS.out; have hN := HN.out; simp [*]; done) | exact HU.out.put hlt true (by rw [HDB.out]; have hS := HS.out; have hN := HN.out; simp [*]; omega) | exact HU.out.put hlt false (by rw [HDB.out]; have hS := HS.out; have hN := HN.out; simp [*]; omega)⟩)
            | false =>
              have HN : Hid True := Lib.hid trivial
              rcases HSG.out with hs | hs | hs
              · have e1 : (((sign.toNat : Nat) : Int) == 43) = true := by rw [hs]; rfl
                have e2 : (((sign.toNat : Nat) : Int) == 45) = false := by rw [hs]; rfl
                have e3 : (((sign.toNat : Nat) : Int) == 61) = false := by rw [hs]; rfl
                have HS := Lib.hid hs
                clear hs
                cases me
                · skip
                  go_wp2_with (first | (go_at_call 25; refine (CH.out _).mono ?_; rintro e w' ⟨rfl, rfl⟩) | (go_at_call 37; refine (CM.out _).mono ?_; rintro e w' ⟨rfl, rfl⟩) | (go_at_call 38; refine (CG.out _).mono ?_; rintro e w' ⟨rfl, rfl⟩) | (go_at_call 26; first | (with_reducible refine (CT.out _).mono ?_; rintro e w' ⟨rfl, rfl⟩) | (with_reducible refine (CF.out _).mono ?_; rintro e w' ⟨rfl, rfl⟩)))
                  all_goals go_round
                  all_goals first
                    | (case measure => simp [intOf]; omega)
                    | (case rel => exact ⟨b + 1, _, by omega, by go_num, rfl, by first | exact HU.out.keep (by rw [HDB.out]; have hS := HS.out; have hN := HN.out; simp [*]; done) | exact HU.out.keep (by rw [HDB.out]; have hS := HS.out; have hN := HN.out; simp [*]; omega) | exact HU.out.put hlt true (by rw [HDB.out]; have hS := HS.out; have hN := HN.out; simp [*]; done) | exact HU.out.put hlt false (by rw [HDB.out]; have hS := HS.out; have hN := HN.out; simp [*]; done) | exact HU.out.put hlt true (by rw [HDB.out]; have hS := HS.out; have hN := HN.out; simp [*]; omega) | exact HU.out.put hlt false (by rw [HDB.out]; have hS := HS.out; have hN := HN.out; simp [*]; omega)⟩)
                · skip
                  go_wp2_with (first | (go_at_call 25; refine (CH.out _).mono ?_; rintro e w' ⟨rfl, rfl⟩) | (go_at_call 37; refine (CM.out _).mono ?_; rintro e w' ⟨rfl, rfl⟩) | (go_at_call 38; refine (CG.out _).mono ?_; rintro e w' ⟨rfl, rfl⟩) | (go_at_call 26; first | (with_reducible refine (CT.out _).mono ?_; rintro e w' ⟨rfl, rfl⟩) | (with_reducible refine (CF.out _).mono ?_; rintro e w' ⟨rfl, rfl⟩)))
                  all_goals go_round
                  all_goals first
                    | (case measure => simp [intOf]; omega)
                    | (case rel => exact ⟨b + 1, _, by omega, by go_num, rfl, by first | exact HU.out.keep (by rw [HDB.out]; have hS := HS.out; have hN := HN.out; simp [*]; done) | exact HU.out.keep (by rw [HDB.out]; have hS := HS.out; have hN := HN.out; simp [*]; omega) | exact HU.out.put hlt true (by rw [HDB.out]; have hS := HS.out; have hN := HN.out; simp [*]; done) | exact HU.out.put hlt false (by rw [HDB.out]; have hS := HS.out; have hN := HN.out; simp [*]; done) | exact HU.out.put hlt true (by rw [HDB.out]; have hS := HS.out; have hN := HN.out; simp [*]; omega) | exact HU.out.put hlt false (by rw [HDB.out]; have hS := HS.out; have hN := HN.out; simp [*]; omega)⟩)
              · have e1 : (((sign.toNat : Nat) : Int) == 43) = false := by rw [hs]; rfl
                have e2 : (((sign.toNat : Nat) : Int) == 45) = true := by rw [hs]; rfl
                have e3 : (((sign.toNat : Nat) : Int) == 61) = false := by rw [hs]; rfl
                have HS := Lib.hid hs
                clear hs
                cases me
                · skip
                  go_wp2_with (first | (go_at_call 25; refine (CH.out _).mono ?_; rintro e w' ⟨rfl, rfl⟩) | (go_at_call 37; refine (CM.out _).mono ?_; rintro e w' ⟨rfl, rfl⟩) | (go_at_call 38; refine (CG.out _).mono ?_; rintro e w' ⟨rfl, rfl⟩) | (go_at_call 26; first | (with_reducible refine (CT.out _).mono ?_; rintro e w' ⟨rfl, rfl⟩) | (with_reducible refine (CF.out _).mono ?_; rintro e w' ⟨rfl, rfl⟩)))
                  all_goals go_round
                  all_goals first
                    | (case measure => simp [intOf]; omega)
                    | (case rel => exact ⟨b + 1, _, by omega, by go_num, rfl, by first | exact HU.out.keep (by rw [HDB.out]; have hS := HS.out; have hN := HN.out; simp [*]; done) | exact HU.out.keep (by rw [HDB.out]; have hS := HS.out; have hN := HN.out; simp [*]; omega) | exact HU.out.put hlt true (by rw [HDB.out]; have hS := HS.out; have hN := HN.out; simp [*]; done) | exact HU.out.put hlt false (by rw [HDB.out]; have hS := HS.out; have hN := HN.out; simp [*]; done) | exact HU.out.put hlt true (by rw [HDB.out]; have hS := HS.out; have hN := HN.out; simp [*]; omega) | exact HU.out.put hlt false (by rw [HDB.out]; have hS := HS.out; have hN := HN.out; simp [*]; omega)⟩)
                · skip
                  go_wp2_with (first | (go_at_call 25; refine (CH.out _).mono ?_; rintro e w' ⟨rfl, rfl⟩) | (go_at_call 37; refine (CM.out _).mono ?_; rintro e w' ⟨rfl, rfl⟩) | (go_at_call 38; refine (CG.out _).mono ?_; rintro e w' ⟨rfl, rfl⟩) | (go_at_call 26; first | (with_reducible refine (CT.out _).mono ?_; rintro e w' ⟨rfl, rfl⟩) | (with_reducible refine (CF.out _).mono ?_; rintro e w' ⟨rfl, rfl⟩)))
                  all_goals go_round
                  all_goals first
                    | (case measure => simp [intOf]; omega)
                    | (case rel => exact ⟨b + 1, _, by omega, by go_num, rfl, by first | exact HU.out.keep (by rw [HDB.out]; have hS := HS.out; have hN := HN.out; simp [*]; done) | exact HU.out.keep (by rw [HDB.out]; have hS := HS.out; have hN := HN.out; simp [*]; omega) | exact HU.out.put hlt true (by rw [HDB.out]; have hS := HS.out; have hN := HN.out; simp [*]; done) | exact HU.out.put hlt false (by rw [HDB.out]; have hS := HS.out; have hN := HN.out; simp [*]; done) | exact HU.out.put hlt true (by rw [HDB.out]; have hS := HS.out; have hN := HN.out; simp [*]; omega) | exact HU.out.put hlt false (by rw [HDB.out]; have hS := HS.out; have hN := HN.out; simp [*]; omega)⟩)
              · have e1 : (((sign.toNat : Nat) : Int) == 43) = false := by rw [hs]; rfl
                have e2 : (((sign.toNat : Nat) : Int) == 45) = false := by rw [hs]; rfl
                have e3 : (((sign.toNat : Nat) : Int) == 61) = true := by rw [hs]; rfl
                have HS := Lib.hid hs
                clear hs
                cases me
                · cases gn
                  · skip
                    go_wp2_with (first | (go_at_call 25; refine (CH.out _).mono ?_; rintro e w' ⟨rfl, rfl⟩) | (go_at_call 37; refine (CM.out _).mono ?_; rintro e w' ⟨rfl, rfl⟩) | (go_at_call 38; refine (CG.out _).mono ?_; rintro e w' ⟨rfl, rfl⟩) | (go_at_call 26; first | (with_reducible refine (CT.out _).mono ?_; rintro e w' ⟨rfl, rfl⟩) | (with_reducible refine (CF.out _).mono ?_; rintro e w' ⟨rfl, rfl⟩)))
                    all_goals go_round
                    all_goals first
                      | (case measure => simp [intOf]; omega)
                      | (case rel => exact ⟨b + 1, _, by omega, by go_num, rfl, by first | exact HU.out.keep (by rw [HDB.out]; have hS := HS.out; have hN := HN.out; simp [*]; done) | exact HU.out.keep (by rw [HDB.out]; have hS := HS.out; have hN := HN.out; simp [*]; omega) | exact HU.out.put hlt true (by rw [HDB.out]; have hS := HS.out; have hN := HN.out; simp [*]; done) | exact HU.out.put hlt false (by rw [HDB.out]; have hS := HS.out; have hN := HN.out; simp [*]; done) | exact HU.out.put hlt true (by rw [HDB.out]; have hS := HS.out; have hN := HN.out; simp [*]; omega) | exact HU.out.put hlt false (by rw [HDB.out]; have hS := HS.out; have hN := HN.out; simp [*]; omega)⟩)
                  · skip
                    go_wp2_with (first | (go_at_call 25; refine (CH.out _).mono ?_; rintro e w' ⟨rfl, rfl⟩) | (go_at_call 37; refine (CM.out _).mono ?_; rintro e w' ⟨rfl, rfl⟩) | (go_at_call 38; refine (CG.out _).mono ?_; rintro e w' ⟨rfl, rfl⟩) | (go_at_call 26; first | (with_reducible refine (CT.out _).mono ?_; rintro e w' ⟨rfl, rfl⟩) | (with_reducible refine (CF.out _).mono ?_; rintro e w' ⟨rfl, rfl⟩)))
                    all_goals go_round
                    all_goals first
                      | (case measure => simp [intOf]; omega)
                      | (case rel => exact ⟨b + 1, _, by omega, by go_num, rfl, by first | exact HU.out.keep (by rw [HDB.out]; have hS := HS.out; have hN := HN.out; simp [*]; done) | exact HU.out.keep (by rw [HDB.out]; have hS := HS.out; have hN := HN.out; simp [*]; omega) | exact HU.out.put hlt true (by rw [HDB.out]; have hS := HS.out; have hN := HN.out; simp [*]; done) | exact HU.out.put hlt false (by rw [HDB.out]; have hS := HS.out; have hN := HN.out; simp [*]; done) | exact HU.out.put hlt true (by rw [HDB.out]; have hS := HS.out; have hN := HN.out; simp [*]; omega) | exact HU.out.put hlt false (by rw [HDB.out]; have hS := HS.out; have hN := HN.out; simp [*]; omega)⟩)
                · skip
                  go_wp2_with (first | (go_at_call 25; refine (CH.out _).mono ?_; rintro e w' ⟨rfl, rfl⟩) | (go_at_call 37; refine (CM.out _).mono ?_; rintro e w' ⟨rfl, rfl⟩) | (go_at_call 38; refine (CG.out _).mono ?_; rintro e w' ⟨rfl, rfl⟩) | (go_at_call 26; first | (with_reducible refine (CT.out _).mono ?_; rintro e w' ⟨rfl, rfl⟩) | (with_reducible refine (CF.out _).mono ?_; rintro e w' ⟨rfl, rfl⟩)))
                  all_goals go_round
                  all_goals first
                    | (case measure => simp [intOf]; omega)
                    | (case rel => exact ⟨b + 1, _, by omega, by go_num, rfl, by first | exact HU.out.keep (by rw [HDB.out]; have hS := HS.out; have hN := HN.out; simp [*]; done) | exact HU.out.keep (by rw [HDB.out]; have hS := HS.out; have hN := HN.out; simp [*]; omega) | exact HU.out.put hlt true (by rw [HDB.out]; have hS := HS.out; have hN := HN.out; simp [*]; done) | exact HU.out.put hlt false (by rw [HDB.out]; have hS := HS.out; have hN := HN.out; simp [*]; done) | exact HU.out.put hlt true (by rw [HDB.out]; have hS := HS.out; have hN := HN.out; simp [*]; omega) | exact HU.out.put hlt false (by rw [HDB.out]; have hS := HS.out; have hN := HN.out; simp [*]; omega)⟩)
          · have HN := Lib.hid h9
            rcases HSG.out with hs | hs | hs
            · have e1 : (((sign.toNat : Nat) : Int) == 43) = true := by rw [hs]; rfl
              have e2 : (((sign.toNat : Nat) : Int) == 45) = false := by rw [hs]; rfl
              have e3 : (((sign.toNat : Nat) : Int) == 61) = false := by rw [hs]; rfl
              have HS := Lib.hid hs
              clear hs
              cases me
              · skip
                go_wp2_with (first | (go_at_call 25; refine (CH.out _).mono ?_; rintro e w' ⟨rfl, rfl⟩) | (go_at_call 37; refine (CM.out _).mono ?_; rintro e w' ⟨rfl, rfl⟩) | (go_at_call 38; refine (CG.out _).mono ?_; rintro e w' ⟨rfl, rfl⟩) | (go_at_call 26; first | (with_reducible refine (CT.out _).mono ?_; rintro e w' ⟨rfl, rfl⟩) | (with_reducible refine (CF.out _).mono ?_; rintro e w' ⟨rfl, rfl⟩)))
                all_goals go_round
                all_goals first
                  | (case measure => simp [intOf]; omega)
                  | (case rel => exact ⟨b + 1, _, by omega, by go_num, rfl, by first | exact HU.out.keep (by rw [HDB.out]; have hS := HS.out; have hN := HN.out; simp [*]; done) | exact HU.out.keep (by rw [HDB.out]; have hS := HS.out; have hN := HN.out; simp [*]; omega) | exact HU.out.put hlt true (by rw [HDB.out]; have hS := HS.out; have hN := HN.out; simp [*]; done) | exact HU.out.put hlt false (by rw [HDB.out]; have hS := HS.out; have hN := HN.out; simp [*]; done) | exact HU.out.put hlt true (by rw [HDB.out]; have hS := HS.out; have hN := HN.out; simp [*]; omega) | exact HU.out.put hlt false (by rw [HDB.out]; have hS := HS.out; have hN := HN.out; simp [*]; omega)⟩)
              · skip
                go_wp2_with (first | (go_at_call 25; refine (CH.out _).mono ?_; rintro e w' ⟨rfl, rfl⟩) | (go_at_call 37; refine (CM.out _).mono ?_; rintro e w' ⟨rfl, rfl⟩) | (go_at_call 38; refine (CG.out _).mono ?_; rintro e w' ⟨rfl, rfl⟩) | (go_at_call 26; first | (with_reducible refine (CT.out _).mono ?_; rintro e w' ⟨rfl, rfl⟩) | (with_reducible refine (CF.out _).mono ?_; rintro e w' ⟨rfl, rfl⟩)))
                all_goals go_round
                all_goals first
                  | (case measure => simp [intOf]; omega)
                  | (case rel => exact ⟨b + 1, _, by omega, by go_num, rfl, by first | exact HU.out.keep (by rw [HDB.out]; have hS := HS.out; have hN := HN.out; simp [*]; done) | exact HU.out.keep (by rw [HDB.out]; have hS := HS.out; have hN := HN.out; simp [*]; omega) | exact HU.out.put hlt true (by rw [HDB.out]; have hS := HS.out; have hN := HN.out; simp [*]; done) | exact HU.out.put hlt false (by rw [HDB.out]; have hS := HS.out; have hN := HN.out; simp [*]; done) | exact HU.out.put hlt true (by rw [HDB.out]; have hS := HS.out; have hN := HN.out; simp [*]; omega) | exact HU.out.put hlt false (by rw [HDB.out]; have hS := HS.out; have hN := HN.out; simp [*]; omega)⟩)
            · have e1 : (((sign.toNat : Nat) : Int) == 43) = false := by rw [hs]; rfl
              have e2 : (((sign.toNat : Nat) : Int) == 45) = true := by rw [hs]; rfl
              have e3 : (((sign.toNat : Nat) : Int) == 61) = false := by rw [hs]; rfl
              have HS := Lib.hid hs
              clear hs
              cases me
              · skip
                go_wp2_with (first | (go_at_call 25; refine (CH.out _).mono ?_; rintro e w' ⟨rfl, rfl⟩) | (go_at_call 37; refine (CM.out _).mono ?_; rintro e w' ⟨rfl, rfl⟩) | (go_at_call 38; refine (CG.out _).mono ?_; rintro e w' ⟨rfl, rfl⟩) | (go_at_call 26; first | (with_reducible refine (CT.out _).mono ?_; rintro e w' ⟨rfl, rfl⟩) | (with_reducible refine (CF.out _).mono ?_; rintro e w' ⟨rfl, rfl⟩)))
                all_goals go_round
                all_goals first
                  | (case measure => simp [intOf]; omega)
                  | (case rel => exact ⟨b + 1, _, by omega, by go_num, rfl, by first | exact HU.out.keep (by rw [HDB.out]; have hS := HS.out; have hN := HN.out; simp [*]; done) | exact HU.out.keep (by rw [HDB.out]; have hS := HS.out; have hN := HN.out; simp [*]; omega) | exact HU.out.put hlt true (by rw [HDB.out]; have hS := HS.out; have hN := HN.out; simp [*]; done) | exact HU.out.put hlt false (by rw [HDB.out]; have hS := HS.out; have hN := HN.out; simp [*]; done) | exact HU.out.put hlt true (by rw [HDB.out]; have hS := HS.out; have hN := HN.out; simp [*]; omega) | exact HU.out.put hlt false (by rw [HDB.out]; have hS := HS.out; have hN := HN.out; simp [*]; omega)⟩)
              · skip
                go_wp2_with (first | (go_at_call 25; refine (CH.out _).mono ?_; rintro e w' ⟨rfl, rfl⟩) | (go_at_call 37; refine (CM.out _).mono ?_; rintro e w' ⟨rfl, rfl⟩) | (go_at_call 38; refine (CG.out _).mono ?_; rintro e w' ⟨rfl, rfl⟩) | (go_at_call 26; first | (with_reducible refine (CT.out _).mono ?_; rintro e w' ⟨rfl, rfl⟩) | (with_reducible refine (CF.out _).mono ?_; rintro e w' ⟨rfl, rfl⟩)))
                all_goals go_round
                all_goals first
                  | (case measure => simp [intOf]; omega)
                  | (case rel => exact ⟨b + 1, _, by omega, by go_num, rfl, by first | exact HU.out.keep (by rw [HDB.out]; have hS := HS.out; have hN := HN.out; simp [*]; done) | exact HU.out.keep (by rw [HDB.out]; have hS := HS.out; have hN := HN.out; simp [*]; omega) | exact HU.out.put hlt true (by rw [HDB.out]; have hS := HS.out; have hN := HN.out; simp [*]; done) | exact HU.out.put hlt false (by rw [HDB.out]; have hS := HS.out; have hN := HN.out; simp [*]; done) | exact HU.out.put hlt true (by rw [HDB.out]; have hS := HS.out; have hN := HN.out; simp [*]; omega) | exact HU.out.put hlt false (by rw [HDB.out]; have hS := HS.out; have hN := HN.out; simp [*]; omega)⟩)
            · have e1 : (((sign.toNat : Nat) : Int) == 43) = false := by rw [hs]; rfl
              have e2 : (((sign.toNat : Nat) : Int) == 45) = false := by rw [hs]; rfl
              have e3 : (((sign.toNat : Nat) : Int) == 61) = true := by rw [hs]; rfl
              have HS := Lib.hid hs
              clear hs
              cases me
              · cases gn
                · skip
                  go_wp2_with (first | (go_at_call 25; refine (CH.out _).mono ?_; rintro e w' ⟨rfl, rfl⟩) | (go_at_call 37; refine (CM.out _).mono ?_; rintro e w' ⟨rfl, rfl⟩) | (go_at_call 38; refine (CG.out _).mono ?_; rintro e w' ⟨rfl, rfl⟩) | (go_at_call 26; first | (with_reducible refine (CT.out _).mono ?_; rintro e w' ⟨rfl, rfl⟩) | (with_reducible refine (CF.out _).mono ?_; rintro e w' ⟨rfl, rfl⟩)))
                  all_goals go_round
                  all_goals first
                    | (case measure => simp [intOf]; omega)
                    | (case rel => exact ⟨b + 1, _, by omega, by go_num, rfl, by first | exact HU.out.keep (by rw [HDB.out]; have hS := HS.out; have hN := HN.out; simp [*]; done) | exact HU.out.keep (by rw [HDB.out]; have hS := HS.out; have hN := HN.out; simp [*]; omega) | exact HU.out.put hlt true (by rw [HDB.out]; have hS := HS.out; have hN := HN.out; simp [*]; done) | exact HU.out.put hlt false (by rw [HDB.out]; have hS := HS.out; have hN := HN.out; simp [*]; done) | exact HU.out.put hlt true (by rw [HDB.out]; have hS := HS.out; have hN := HN.out; simp [*]; omega) | exact HU.out.put hlt false (by rw [HDB.out]; have hS := HS.out; have hN := HN.out; simp [*]; omega)⟩)
                · skip
                  go_wp2_with (first | (go_at_call 25; refine (CH.out _).mono ?_; rintro e w' ⟨rfl, rfl⟩) | (go_at_call 37; refine (CM.out _).mono ?_; rintro e w' ⟨rfl, rfl⟩) | (go_at_call 38; refine (CG.out _).mono ?_; rintro e w' ⟨rfl, rfl⟩) | (go_at_call 26; first | (with_reducible refine (CT.out _).mono ?_; rintro e w' ⟨rfl, rfl⟩) | (with_reducible refine (CF.out _).mono ?_; rintro e w' ⟨rfl, rfl⟩)))
                  all_goals go_round
                  all_goals first
                    | (case measure => simp [intOf]; omega)
                    | (case rel => exact ⟨b + 1, _, by omega, by go_num, rfl, by first | exact HU.out.keep (by rw [HDB.out]; have hS := HS.out; have hN := HN.out; simp [*]; done) | exact HU.out.keep (by rw [HDB.out]; have hS := HS.out; have hN := HN.out; simp [*]; omega) | exact HU.out.put hlt true (by rw [HDB.out]; have hS := HS.out; have hN := HN.out; simp [*]; done) | exact HU.out.put hlt false (by rw [HDB.out]; have hS := HS.out; have hN := HN.out; simp [*]; done) | exact HU.out.put hlt true (by rw [HDB.out]; have hS := HS.out; have hN := HN.out; simp [*]; omega) | exact HU.out.put hlt false (by rw [HDB.out]; have hS := HS.out; have hN := HN.out; simp [*]; omega)⟩)
              · skip
                go_wp2_with (first | (go_at_call 25; refine (CH.out _).mono ?_; rintro e w' ⟨rfl, rfl⟩) | (go_at_call 37; refine (CM.out _).mono ?_; rintro e w' ⟨rfl, rfl⟩) | (go_at_call 38; refine (CG.out _).mono ?_; rintro e w' ⟨rfl, rfl⟩) | (go_at_call 26; first | (with_reducible refine (CT.out _).mono ?_; rintro e w' ⟨rfl, rfl⟩) | (with_reducible refine (CF.out _).mono ?_; rintro e w' ⟨rfl, rfl⟩)))
                all_goals go_round
                all_goals first
                  | (case measure => simp [intOf]; omega)
                  | (case rel => exact ⟨b + 1, _, by omega, by go_num, rfl, by first | exact HU.out.keep (by rw [HDB.out]; have hS := HS.out; have hN := HN.out; simp [*]; done) | exact HU.out.keep (by rw [HDB.out]; have hS := HS.out; have hN := HN.out; simp [*]; omega) | exact HU.out.put hlt true (by rw [HDB.out]; have hS := HS.out; have hN := HN.out; simp [*]; done) | exact HU.out.put hlt false (by rw [HDB.out]; have hS := HS.out; have hN := HN.out; simp [*]; done) | exact HU.out.put hlt true (by rw [HDB.out]; have hS := HS.out; have hN := HN.out; simp [*]; omega) | exact HU.out.put hlt false (by rw [HDB.out]; have hS := HS.out; have hN := HN.out; simp [*]; omega)⟩)
      · obtain rfl : b = 12 := by omega
        have HF : Hid (n = D) := Lib.hid (HU.out.all HD4.out)
        go_wp2_with fail
        go_ret
        exact ⟨ret_int (by rw [HF.out]), rfl⟩
  | false =>
    rw [Bool.false_or] at han
    cases b0 with
    | true =>
      have ha : any = true := by rw [han]; rfl
      subst ha
      clear han
      go_enter Tryd.func31, Tryd.ntmps31
      go_wp2_with (go_at_call 25; refine (H0.out _).mono ?_; rintro e w' ⟨rfl, rfl⟩)
      go_loop [16, 17] (fun o i => ∃ b n : Nat, b ≤ 12 ∧ i = .int .i64 b ∧ o = .int .i64 n ∧ Upto D m b n) (fun _ i => 12 - (intOf i).toNat)
      case atStart => exact ⟨0, m, by omega, rfl, rfl, HU0.out⟩
      case round =>
        obtain ⟨b, n, hb, rfl, rfl, hu⟩ := hrel
        have HU := Lib.hid hu
        clear hu
        by_cases hlt : b < 12
        · obtain ⟨mk, hmk⟩ : ∃ x, mask.testBit b = x := ⟨_, rfl⟩
          obtain ⟨me, hme⟩ : ∃ x, x = meantB (L p) c b true := ⟨_, rfl⟩
          obtain ⟨gn, hgn⟩ : ∃ x, x = goneB c b := ⟨_, rfl⟩
          have hDb := HB.out b hlt
          rw [hmk, ← hme, ← hgn] at hDb
          have CH := Lib.hid (fun w => has_any mask b w hk (by omega) mk hmk)
          have CM := Lib.hid (CMB.out b hlt)
          have CG := Lib.hid (CGB.out b hlt)
          have CT := Lib.hid (fun w => put_any n b true w HU.out.1 hlt)
          have CF := Lib.hid (fun w => put_any n b false w HU.out.1 hlt)
          rw [← hme] at CM
          rw [← hgn] at CG
          have HDB := Lib.hid hDb
          clear hmk hme hgn hDb
          cases named with
          | true =>
            have HN : Hid True := Lib.hid trivial
            rcases HSG.out with hs | hs | hs
            · have e1 : (((sign.toNat : Nat) : Int) == 43) = true := by rw [hs]; rfl
              have e2 : (((sign.toNat : Nat) : Int) == 45) = false := by rw [hs]; rfl
              have e3 : (((sign.toNat : Nat) : Int) == 61) = false := by rw [hs]; rfl
              have HS := Lib.hid hs
              clear hs
              cases me
              · skip
                go_wp2_with (first | (go_at_call 25; refine (CH.out _).mono ?_; rintro e w' ⟨rfl, rfl⟩) | (go_at_call 37; refine (CM.out _).mono ?_; rintro e w' ⟨rfl, rfl⟩) | (go_at_call 38; refine (CG.out _).mono ?_; rintro e w' ⟨rfl, rfl⟩) | (go_at_call 26; first | (with_reducible refine (CT.out _).mono ?_; rintro e w' ⟨rfl, rfl⟩) | (with_reducible refine (CF.out _).mono ?_; rintro e w' ⟨rfl, rfl⟩)))
                all_goals go_round
                all_goals first
                  | (case measure => simp [intOf]; omega)
                  | (case rel => exact ⟨b + 1, _, by omega, by go_num, rfl, by first | exact HU.out.keep (by rw [HDB.out]; have hS := HS.out; have hN := HN.out; simp [*]; done) | exact HU.out.keep (by rw [HDB.out]; have hS := HS.out; have hN := HN.out; simp [*]; omega) | exact HU.out.put hlt true (by rw [HDB.out]; have hS := HS.out; have hN := HN.out; simp [*]; done) | exact HU.out.put hlt false (by rw [HDB.out]; have hS := HS.out; have hN := HN.out; simp [*]; done) | exact HU.out.put hlt true (by rw [HDB.out]; have hS := HS.out; have hN := HN.out; simp [*]; omega) | exact HU.out.put hlt false (by rw [HDB.out]; have hS := HS.out; have hN := HN.out; simp [*]; omega)⟩)
              · skip
                go_wp2_with (first | (go_at_call 25; refine (CH.out _).mono ?_; rintro e w' ⟨rfl, rfl⟩) | (go_at_call 37; refine (CM.out _).mono ?_; rintro e w' ⟨rfl, rfl⟩) | (go_at_call 38; refine (CG.out _).mono ?_; rintro e w' ⟨rfl, rfl⟩) | (go_at_call 26; first | (with_reducible refine (CT.out _).mono ?_; rintro e w' ⟨rfl, rfl⟩) | (with_reducible refine (CF.out _).mono ?_; rintro e w' ⟨rfl, rfl⟩)))
                all_goals go_round
                all_goals first
                  | (case measure => simp [intOf]; omega)
                  | (case rel => exact ⟨b + 1, _, by omega, by go_num, rfl, by first | exact HU.out.keep (by rw [HDB.out]; have hS := HS.out; have hN := HN.out; simp [*]; done) | exact HU.out.keep (by rw [HDB.out]; have hS := HS.out; have hN := HN.out; simp [*]; omega) | exact HU.out.put hlt true (by rw [HDB.out]; have hS := HS.out; have hN := HN.out; simp [*]; done) | exact HU.out.put hlt false (by rw [HDB.out]; have hS := HS.out; have hN := HN.out; simp [*]; done) | exact HU.out.put hlt true (by rw [HDB.out]; have hS := HS.out; have hN := HN.out; simp [*]; omega) | exact HU.out.put hlt false (by rw [HDB.out]; have hS := HS.out; have hN := HN.out; simp [*]; omega)⟩)
            · have e1 : (((sign.toNat : Nat) : Int) == 43) = false := by rw [hs]; rfl
              have e2 : (((sign.toNat : Nat) : Int) == 45) = true := by rw [hs]; rfl
              have e3 : (((sign.toNat : Nat) : Int) == 61) = false := by rw [hs]; rfl
              have HS := Lib.hid hs
              clear hs
              cases me
              · skip
                go_wp2_with (first | (go_at_call 25; refine (CH.out _).mono ?_; rintro e w' ⟨rfl, rfl⟩) | (go_at_call 37; refine (CM.out _).mono ?_; rintro e w' ⟨rfl, rfl⟩) | (go_at_call 38; refine (CG.out _).mono ?_; rintro e w' ⟨rfl, rfl⟩) | (go_at_call 26; first | (with_reducible refine (CT.out _).mono ?_; rintro e w' ⟨rfl, rfl⟩) | (with_reducible refine (CF.out _).mono ?_; rintro e w' ⟨rfl, rfl⟩)))
                all_goals go_round
                all_goals first
                  | (case measure => simp [intOf]; omega)
                  | (case rel => exact ⟨b + 1, _, by omega, by go_num, rfl, by first | exact HU.out.keep (by rw [HDB.out]; have hS := HS.out; have hN := HN.out; simp [*]; done) | exact HU.out.keep (by rw [HDB.out]; have hS := HS.out; have hN := HN.out; simp [*]; omega) | exact HU.out.put hlt true (by rw [HDB.out]; have hS := HS.out; have hN := HN.out; simp [*]; done) | exact HU.out.put hlt false (by rw [HDB.out]; have hS := HS.out; have hN := HN.out; simp [*]; done) | exact HU.out.put hlt true (by rw [HDB.out]; have hS := HS.out; have hN := HN.out; simp [*]; omega) | exact HU.out.put hlt false (by rw [HDB.out]; have hS := HS.out; have hN := HN.out; simp [*]; omega)⟩)
              · skip
                go_wp2_with (first | (go_at_call 25; refine (CH.out _).mono ?_; rintro e w' ⟨rfl, rfl⟩) | (go_at_call 37; refine (CM.out _).mono ?_; rintro e w' ⟨rfl, rfl⟩) | (go_at_call 38; refine (CG.out _).mono ?_; rintro e w' ⟨rfl, rfl⟩) | (go_at_call 26; first | (with_reducible refine (CT.out _).mono ?_; rintro e w' ⟨rfl, rfl⟩) | (with_reducible refine (CF.out _).mono ?_; rintro e w' ⟨rfl, rfl⟩)))
                all_goals go_round
                all_goals first
                  | (case measure => simp [intOf]; omega)
                  | (case rel => exact ⟨b + 1, _, by omega, by go_num, rfl, by first | exact HU.out.keep (by rw [HDB.out]; have hS := HS.out; have hN := HN.out; simp [*]; done) | exact HU.out.keep (by rw [HDB.out]; have hS := HS.out; have hN := HN.out; simp [*]; omega) | exact HU.out.put hlt true (by rw [HDB.out]; have hS := HS.out; have hN := HN.out; simp [*]; done) | exact HU.out.put hlt false (by rw [HDB.out]; have hS := HS.out; have hN := HN.out; simp [*]; done) | exact HU.out.put hlt true (by rw [HDB.out]; have hS := HS.out; have hN := HN.out; simp [*]; omega) | exact HU.out.put hlt false (by rw [HDB.out]; have hS := HS.out; have hN := HN.out; simp [*]; omega)⟩)
            · have e1 : (((sign.toNat : Nat) : Int) == 43) = false := by rw [hs]; rfl
              have e2 : (((sign.toNat : Nat) : Int) == 45) = false := by rw [hs]; rfl
              have e3 : (((sign.toNat : Nat) : Int) == 61) = true := by rw [hs]; rfl
              have HS := Lib.hid hs
              clear hs
              cases me
              · cases gn
                · skip
                  go_wp2_with (first | (go_at_call 25; refine (CH.out _).mono ?_; rintro e w' ⟨rfl, rfl⟩) | (go_at_call 37; refine (CM.out _).mono ?_; rintro e w' ⟨rfl, rfl⟩) | (go_at_call 38; refine (CG.out _).mono ?_; rintro e w' ⟨rfl, rfl⟩) | (go_at_call 26; first | (with_reducible refine (CT.out _).mono ?_; rintro e w' ⟨rfl, rfl⟩) | (with_reducible refine (CF.out _).mono ?_; rintro e w' ⟨rfl, rfl⟩)))
                  all_goals go_round
                  all_goals first
                    | (case measure => simp [intOf]; omega)
                    | (case rel => exact ⟨b + 1, _, by omega, by go_num, rfl, by first | exact HU.out.keep (by rw [HDB.out]; have hS := HS.out; have hN := HN.out; simp [*]; done) | exact HU.out.keep (by rw [HDB.out]; have hS := HS.out; have hN := HN.out; simp [*]; omega) | exact HU.out.put hlt true (by rw [HDB.out]; have hS := HS.out; have hN := HN.out; simp [*]; done) | exact HU.out.put hlt false (by rw [HDB.out]; have hS := HS.out; have hN := HN.out; simp [*]; done) | exact HU.out.put hlt true (by rw [HDB.out]; have hS := HS.out; have hN := HN.out; simp [*]; omega) | exact HU.out.put hlt false (by rw [HDB.out]; have hS := HS.out; have hN := HN.out; simp [*]; omega)⟩)
                · skip
                  go_wp2_with (first | (go_at_call 25; refine (CH.out _).mono ?_; rintro e w' ⟨rfl, rfl⟩) | (go_at_call 37; refine (CM.out _).mono ?_; rintro e w' ⟨rfl, rfl⟩) | (go_at_call 38; refine (CG.out _).mono ?_; rintro e w' ⟨rfl, rfl⟩) | (go_at_call 26; first | (with_reducible refine (CT.out _).mono ?_; rintro e w' ⟨rfl, rfl⟩) | (with_reducible refine (CF.out _).mono ?_; rintro e w' ⟨rfl, rfl⟩)))
                  all_goals go_round
                  all_goals first
                    | (case measure => simp [intOf]; omega)
                    | (case rel => exact ⟨b + 1, _, by omega, by go_num, rfl, by first | exact HU.out.keep (by rw [HDB.out]; have hS := HS.out; have hN := HN.out; simp [*]; done) | exact HU.out.keep (by rw [HDB.out]; have hS := HS.out; have hN := HN.out; simp [*]; omega) | exact HU.out.put hlt true (by rw [HDB.out]; have hS := HS.out; have hN := HN.out; simp [*]; done) | exact HU.out.put hlt false (by rw [HDB.out]; have hS := HS.out; have hN := HN.out; simp [*]; done) | exact HU.out.put hlt true (by rw [HDB.out]; have hS := HS.out; have hN := HN.out; simp [*]; omega) | exact HU.out.put hlt false (by rw [HDB.out]; have hS := HS.out; have hN := HN.out; simp [*]; omega)⟩)
              · skip
                go_wp2_with (first | (go_at_call 25; refine (CH.out _).mono ?_; rintro e w' ⟨rfl, rfl⟩) | (go_at_call 37; refine (CM.out _).mono ?_; rintro e w' ⟨rfl, rfl⟩) | (go_at_call 38; refine (CG.out _).mono ?_; rintro e w' ⟨rfl, rfl⟩) | (go_at_call 26; first | (with_reducible refine (CT.out _).mono ?_; rintro e w' ⟨rfl, rfl⟩) | (with_reducible refine (CF.out _).mono ?_; rintro e w' ⟨rfl, rfl⟩)))
                all_goals go_round
                all_goals first
                  | (case measure => simp [intOf]; omega)
                  | (case rel => exact ⟨b + 1, _, by omega, by go_num, rfl, by first | exact HU.out.keep (by rw [HDB.out]; have hS := HS.out; have hN := HN.out; simp [*]; done) | exact HU.out.keep (by rw [HDB.out]; have hS := HS.out; have hN := HN.out; simp [*]; omega) | exact HU.out.put hlt true (by rw [HDB.out]; have hS := HS.out; have hN := HN.out; simp [*]; done) | exact HU.out.put hlt false (by rw [HDB.out]; have hS := HS.out; have hN := HN.out; simp [*]; done) | exact HU.out.put hlt true (by rw [HDB.out]; have hS := HS.out; have hN := HN.out; simp [*]; omega) | exact HU.out.put hlt false (by rw [HDB.out]; have hS := HS.out; have hN := HN.out; simp [*]; omega)⟩)
          | false =>
            by_cases h9 : b < 9
            · cases mk with
              | true =>
                have HS : Hid True := Lib.hid trivial
                have HN := Lib.hid h9
                go_wp2_with (first | (go_at_call 25; refine (CH.out _).mono ?_; rintro e w' ⟨rfl, rfl⟩) | (go_at_call 37; refine (CM.out _).mono ?_; rintro e w' ⟨rfl, rfl⟩) | (go_at_call 38; refine (CG.out _).mono ?_; rintro e w' ⟨rfl, rfl⟩) | (go_at_call 26; first | (with_reducible refine (CT.out _).mono ?_; rintro e w' ⟨rfl, rfl⟩) | (with_reducible refine (CF.out _).mono ?_; rintro e w' ⟨rfl, rfl⟩)))
                all_goals go_round
                all_goals first
                  | (case measure => simp [intOf]; omega)
                  | (case rel => exact ⟨b + 1, _, by omega, by go_num, rfl, by first | exact HU.out.keep (by rw [HDB.out]; have hS := HS.out; have hN := HN.out; simp [*]; done) | exact HU.out.keep (by rw [HDB.out]; have hS := HS.out; have hN := HN.out; simp [*]; omega) | exact HU.out.put hlt true (by rw [HDB.out]; have hS := HS.out; have hN := HN.out; simp [*]; done) | exact HU.out.put hlt false (by rw [HDB.out]; have hS := HS.out; have hN := HN.out; simp [*]; done) | exact HU.out.put hlt true (by rw [HDB.out]; have hS := HS.out; have hN := HN.out; simp [*]; omega) | exact HU.out.put hlt false (by rw [HDB.out]; have hS := HS.out; have hN := HN.out; simp [*]; omega)⟩)
              | false =>
                have HN : Hid True := Lib.hid trivial
                rcases HSG.out with hs | hs | hs
                · have e1 : (((sign.toNat : Nat) : Int) == 43) = true := by rw [hs]; rfl
                  have e2 : (((sign.toNat : Nat) : Int) == 45) = false := by rw [hs]; rfl
                  have e3 : (((sign.toNat : Nat) : Int) == 61) = false := by rw [hs]; rfl
                  have HS := Lib.hid hs
                  clear hs
                  cases me
                  · skip
                    go_wp2_with (first | (go_at_call 25; refine (CH.out _).mono ?_; rintro e w' ⟨rfl, rfl⟩) | (go_at_call 37; refine (CM.out _).mono ?_; rintro e w' ⟨rfl, rfl⟩) | (go_at_call 38; refine (CG.out _).mono ?_; rintro e w' ⟨rfl, rfl⟩) | (go_at_call 26; first | (with_reducible refine (CT.out _).mono ?_; rintro e w' ⟨rfl, rfl⟩) | (with_reducible refine (CF.out _).mono ?_; rintro e w' ⟨rfl, rfl⟩)))
                    all_goals go_round
                    all_goals first
                      | (case measure => simp [intOf]; omega)
                      | (case rel => exact ⟨b + 1, _, by omega, by go_num, rfl, by first | exact HU.out.keep (by rw [HDB.out]; have hS := HS.out; have hN := HN.out; simp [*]; done) | exact HU.out.keep (by rw [HDB.out]; have hS := HS.out; have hN := HN.out; simp [*]; omega) | exact HU.out.put hlt true (by rw [HDB.out]; have hS := HS.out; have hN := HN.out; simp [*]; done) | exact HU.out.put hlt false (by rw [HDB.out]; have hS := HS.out; have hN := HN.out; simp [*]; done) | exact HU.out.put hlt true (by rw [HDB.out]; have hS := HS.out; have hN := HN.out; simp [*]; omega) | exact HU.out.put hlt false (by rw [HDB.out]; have hS := HS.out; have hN := HN.out; simp [*]; omega)⟩)
                  · skip
                    go_wp2_with (first | (go_at_call 25; refine (CH.out _).mono ?_; rintro e w' ⟨rfl, rfl⟩) | (go_at_call 37; refine (CM.out _).mono ?_; rintro e w' ⟨rfl, rfl⟩) | (go_at_call 38; refine (CG.out _).mono ?_; rintro e w' ⟨rfl, rfl⟩) | (go_at_call 26; first | (with_reducible refine (CT.out _).mono ?_; rintro e w' ⟨rfl, rfl⟩) | (with_reducible refine (CF.out _).mono ?_; rintro e w' ⟨rfl, rfl⟩)))
                    all_goals go_round
                    all_goals first
                      | (case measure => simp [intOf]; omega)
                      | (case rel => exact ⟨b + 1, _, by omega, by go_num, rfl, by first | exact HU.out.keep (by rw [HDB.out]; have hS := HS.out; have hN := HN.out; simp [*]; done) | exact HU.out.keep (by rw [HDB.out]; have hS := HS.out; have hN := HN.out; simp [*]; omega) | exact HU.out.put hlt true (by rw [HDB.out]; have hS := HS.out; have hN := HN.out; simp [*]; done) | exact HU.out.put hlt false (by rw [HDB.out]; have hS := HS.out; have hN := HN.out; simp [*]; done) | exact HU.out.put hlt true (by rw [HDB.out]; have hS := HS.out; have hN := HN.out; simp [*]; omega) | exact HU.out.put hlt false (by rw [HDB.out]; have hS := HS.out; have hN := HN.out; simp [*]; omega)⟩)
                · have e1 : (((sign.toNat : Nat) : Int) == 43) = false := by rw [hs]; rfl
                  have e2 : (((sign.toNat : Nat) : Int) == 45) = true := by rw [hs]; rfl
                  have e3 : (((sign.toNat : Nat) : Int) == 61) = false := by rw [hs]; rfl
                  have HS := Lib.hid hs
                  clear hs
                  cases me
                  · skip
                    go_wp2_with (first | (go_at_call 25; refine (CH.out _).mono ?_; rintro e w' ⟨rfl, rfl⟩) | (go_at_call 37; refine (CM.out _).mono ?_; rintro e w' ⟨rfl, rfl⟩) | (go_at_call 38; refine (CG.out _).mono ?_; rintro e w' ⟨rfl, rfl⟩) | (go_at_call 26; first | (with_reducible refine (CT.out _).mono ?_; rintro e w' ⟨rfl, rfl⟩) | (with_reducible refine (CF.out _).mono ?_; rintro e w' ⟨rfl, rfl⟩)))
                    all_goals go_round
                    all_goals first
                      | (case measure => simp [intOf]; omega)
                      | (case rel => exact ⟨b + 1, _, by omega, by go_num, rfl, by first | exact HU.out.keep (by rw [HDB.out]; have hS := HS.out; have hN := HN.out; simp [*]; done) | exact HU.out.keep (by rw [HDB.out]; have hS := HS.out; have hN := HN.out; simp [*]; omega) | exact HU.out.put hlt true (by rw [HDB.out]; have hS := HS.out; have hN := HN.out; simp [*]; done) | exact HU.out.put hlt false (by rw [HDB.out]; have hS := HS.out; have hN := HN.out; simp [*]; done) | exact HU.out.put hlt true (by rw [HDB.out]; have hS := HS.out; have hN := HN.out; simp [*]; omega) | exact HU.out.put hlt false (by rw [HDB.out]; have hS := HS.out; have hN := HN.out; simp [*]; omega)⟩)
                  · skip
                    go_wp2_with (first | (go_at_call 25; refine (CH.out _).mono ?_; rintro e w' ⟨rfl, rfl⟩) | (go_at_call 37; refine (CM.out _).mono ?_; rintro e w' ⟨rfl, rfl⟩) | (go_at_call 38; refine (CG.out _).mono ?_; rintro e w' ⟨rfl, rfl⟩) | (go_at_call 26; first | (with_reducible refine (CT.out _).mono ?_; rintro e w' ⟨rfl, rfl⟩) | (with_reducible refine (CF.out _).mono ?_; rintro e w' ⟨rfl, rfl⟩)))
                    all_goals go_round
                    all_goals first
                      | (case measure => simp [intOf]; omega)
                      | (case rel => exact ⟨b + 1, _, by omega, by go_num, rfl, by first | exact HU.out.keep (by rw [HDB.out]; have hS := HS.out; have hN := HN.out; simp [*]; done) | exact HU.out.keep (by rw [HDB.out]; have hS := HS.out; have hN := HN.out; simp [*]; omega) | exact HU.out.put hlt true (by rw [HDB.out]; have hS := HS.out; have hN := HN.out; simp [*]; done) | exact HU.out.put hlt false (by rw [HDB.out]; have hS := HS.out; have hN := HN.out; simp [*]; done) | exact HU.out.put hlt true (by rw [HDB.out]; have hS := HS.out; have hN := HN.out; simp [*]; omega) | exact HU.out.put hlt false (by rw [HDB.out]; have hS := HS.out; have hN := HN.out; simp [*]; omega)⟩)
                · have e1 : (((sign.toNat : Nat) : Int) == 43) = false := by rw [hs]; rfl
                  have e2 : (((sign.toNat : Nat) : Int) == 45) = false := by rw [hs]; rfl
                  have e3 : (((sign.toNat : Nat) : Int) == 61) = true := by rw [hs]; rfl
                  have HS := Lib.hid hs
                  clear hs
                  cases me
                  · cases gn
                    · skip
                      go_wp2_with (first | (go_at_call 25; refine (CH.out _).mono ?_; rintro e w' ⟨rfl, rfl⟩) | (go_at_call 37; refine (CM.out _).mono ?_; rintro e w' ⟨rfl, rfl⟩) | (go_at_call 38; refine (CG.out _).mono ?_; rintro e w' ⟨rfl, rfl⟩) | (go_at_call 26; first | (with_reducible refine (CT.out _).mono ?_; rintro e w' ⟨rfl, rfl⟩) | (with_reducible refine (CF.out _).mono ?_; rintro e w' ⟨rfl, rfl⟩)))
                      all_goals go_round
                      all_goals first
                        | (case measure => simp [intOf]; omega)
                        | (case rel => exact ⟨b + 1, _, by omega, by go_num, rfl, by first | exact HU.out.keep (by rw [HDB.out]; have hS := HS.out; have hN := HN.out; simp [*]; done) | exact HU.out.keep (by rw [HDB.out]; have hS := HS.out; have hN := HN.out; simp [*]; omega) | exact HU.out.put hlt true (by rw [HDB.out]; have hS := HS.out; have hN := HN.out; simp [*]; done) | exact HU.out.put hlt false (by rw [HDB.out]; have hS := HS.out; have hN := HN.out; simp [*]; done) | exact HU.out.put hlt true (by rw [HDB.out]; have hS := HS.out; have hN := HN.out; simp [*]; omega) | exact HU.out.put hlt false (by rw [HDB.out]; have hS := HS.out; have hN := HN.out; simp [*]; omega)⟩)
                    · skip
                      go_wp2_with (first | (go_at_call 25; refine (CH.out _).mono ?_; rintro e w' ⟨rfl, rfl⟩) | (go_at_call 37; refine (CM.out _).mono ?_; rintro e w' ⟨rfl, rfl⟩) | (go_at_call 38; refine (CG.out _).mono ?_; rintro e w' ⟨rfl, rfl⟩) | (go_at_call 26; first | (with_reducible refine (CT.out _).mono ?_; rintro e w' ⟨rfl, rfl⟩) | (with_reducible refine (CF.out _).mono ?_; rintro e w' ⟨rfl, rfl⟩)))
                      all_goals go_round
                      all_goals first
                        | (case measure => simp [intOf]; omega)
                        | (case rel => exact ⟨b + 1, _, by omega, by go_num, rfl, by first | exact HU.out.keep (by rw [HDB.out]; have hS := HS.out; have hN := HN.out; simp [*]; done) | exact HU.out.keep (by rw [HDB.out]; have hS := HS.out; have hN := HN.out; simp [*]; omega) | exact HU.out.put hlt true (by rw [HDB.out]; have hS := HS.out; have hN := HN.out; simp [*]; done) | exact HU.out.put hlt false (by rw [HDB.out]; have hS := HS.out; have hN := HN.out; simp [*]; done) | exact HU.out.put hlt true (by rw [HDB.out]; have hS := HS.out; have hN := HN.out; simp [*]; omega) | exact HU.out.put hlt false (by rw [HDB.out]; have hS := HS.out; have hN := HN.out; simp [*]; omega)⟩)
                  · skip
                    go_wp2_with (first | (go_at_call 25; refine (CH.out _).mono ?_; rintro e w' ⟨rfl, rfl⟩) | (go_at_call 37; refine (CM.out _).mono ?_; rintro e w' ⟨rfl, rfl⟩) | (go_at_call 38; refine (CG.out _).mono ?_; rintro e w' ⟨rfl, rfl⟩) | (go_at_call 26; first | (with_reducible refine (CT.out _).mono ?_; rintro e w' ⟨rfl, rfl⟩) | (with_reducible refine (CF.out _).mono ?_; rintro e w' ⟨rfl, rfl⟩)))
                    all_goals go_round
                    all_goals first
                      | (case measure => simp [intOf]; omega)
                      | (case rel => exact ⟨b + 1, _, by omega, by go_num, rfl, by first | exact HU.out.keep (by rw [HDB.out]; have hS := HS.out; have hN := HN.out; simp [*]; done) | exact HU.out.keep (by rw [HDB.out]; have hS := HS.out; have hN := HN.out; simp [*]; omega) | exact HU.out.put hlt true (by rw [HDB.out]; have hS := HS.out; have hN := HN.out; simp [*]; done) | exact HU.out.put hlt false (by rw [HDB.out]; have hS := HS.out; have hN := HN.out; simp [*]; done) | exact HU.out.put hlt true (by rw [HDB.out]; have hS := HS.out; have hN := HN.out; simp [*]; omega) | exact HU.out.put hlt false (by rw [HDB.out]; have hS := HS.out; have hN := HN.out; simp [*]; omega)⟩)
            · have HN := Lib.hid h9
              rcases HSG.out with hs | hs | hs
              · have e1 : (((sign.toNat : Nat) : Int) == 43) = true := by rw [hs]; rfl
                have e2 : (((sign.toNat : Nat) : Int) == 45) = false := by rw [hs]; rfl
                have e3 : (((sign.toNat : Nat) : Int) == 61) = false := by rw [hs]; rfl
                have HS := Lib.hid hs
                clear hs
                cases me
                · skip
                  go_wp2_with (first | (go_at_call 25; refine (CH.out _).mono ?_; rintro e w' ⟨rfl, rfl⟩) | (go_at_call 37; refine (CM.out _).mono ?_; rintro e w' ⟨rfl, rfl⟩) | (go_at_call 38; refine (CG.out _).mono ?_; rintro e w' ⟨rfl, rfl⟩) | (go_at_call 26; first | (with_reducible refine (CT.out _).mono ?_; rintro e w' ⟨rfl, rfl⟩) | (with_reducible refine (CF.out _).mono ?_; rintro e w' ⟨rfl, rfl⟩)))
                  all_goals go_round
                  all_goals first
                    | (case measure => simp [intOf]; omega)
                    | (case rel => exact ⟨b + 1, _, by omega, by go_num, rfl, by first | exact HU.out.keep (by rw [HDB.out]; have hS := HS.out; have hN := HN.out; simp [*]; done) | exact HU.out.keep (by rw [HDB.out]; have hS := HS.out; have hN := HN.out; simp [*]; omega) | exact HU.out.put hlt true (by rw [HDB.out]; have hS := HS.out; have hN := HN.out; simp [*]; done) | exact HU.out.put hlt false (by rw [HDB.out]; have hS := HS.out; have hN := HN.out; simp [*]; done) | exact HU.out.put hlt true (by rw [HDB.out]; have hS := HS.out; have hN := HN.out; simp [*]; omega) | exact HU.out.put hlt false (by rw [HDB.out]; have hS := HS.out; have hN := HN.out; simp [*]; omega)⟩)
                · skip
                  go_wp2_with (first | (go_at_call 25; refine (CH.out _).mono ?_; rintro e w' ⟨rfl, rfl⟩) | (go_at_call 37; refine (CM.out _).mono ?_; rintro e w' ⟨rfl, rfl⟩) | (go_at_call 38; refine (CG.out _).mono ?_; rintro e w' ⟨rfl, rfl⟩) | (go_at_call 26; first | (with_reducible refine (CT.out _).mono ?_; rintro e w' ⟨rfl, rfl⟩) | (with_reducible refine (CF.out _).mono ?_; rintro e w' ⟨rfl, rfl⟩)))
                  all_goals go_round
                  all_goals first
                    | (case measure => simp [intOf]; omega)
                    | (case rel => exact ⟨b + 1, _, by omega, by go_num, rfl, by first | exact HU.out.keep (by rw [HDB.out]; have hS := HS.out; have hN := HN.out; simp [*]; done) | exact HU.out.keep (by rw [HDB.out]; have hS := HS.out; have hN := HN.out; simp [*]; omega) | exact HU.out.put hlt true (by rw [HDB.out]; have hS := HS.out; have hN := HN.out; simp [*]; done) | exact HU.out.put hlt false (by rw [HDB.out]; have hS := HS.out; have hN := HN.out; simp [*]; done) | exact HU.out.put hlt true (by rw [HDB.out]; have hS := HS.out; have hN := HN.out; simp [*]; omega) | exact HU.out.put hlt false (by rw [HDB.out]; have hS := HS.out; have hN := HN.out; simp [*]; omega)⟩)
              · have e1 : (((sign.toNat : Nat) : Int) == 43) = false := by rw [hs]; rfl
                have e2 : (((sign.toNat : Nat) : Int) == 45) = true := by rw [hs]; rfl
                have e3 : (((sign.toNat : Nat) : Int) == 61) = false := by rw [hs]; rfl
                have HS := Lib.hid hs
                clear hs
                cases me
                · skip
                  go_wp2_with (first | (go_at_call 25; refine (CH.out _).mono ?_; rintro e w' ⟨rfl, rfl⟩) | (go_at_call 37; refine (CM.out _).mono ?_; rintro e w' ⟨rfl, rfl⟩) | (go_at_call 38; refine (CG.out _).mono ?_; rintro e w' ⟨rfl, rfl⟩) | (go_at_call 26; first | (with_reducible refine (CT.out _).mono ?_; rintro e w' ⟨rfl, rfl⟩) | (with_reducible refine (CF.out _).mono ?_; rintro e w' ⟨rfl, rfl⟩)))
                  all_goals go_round
                  all_goals first
                    | (case measure => simp [intOf]; omega)
                    | (case rel => exact ⟨b + 1, _, by omega, by go_num, rfl, by first | exact HU.out.keep (by rw [HDB.out]; have hS := HS.out; have hN := HN.out; simp [*]; done) | exact HU.out.keep (by rw [HDB.out]; have hS := HS.out; have hN := HN.out; simp [*]; omega) | exact HU.out.put hlt true (by rw [HDB.out]; have hS := HS.out; have hN := HN.out; simp [*]; done) | exact HU.out.put hlt false (by rw [HDB.out]; have hS := HS.out; have hN := HN.out; simp [*]; done) | exact HU.out.put hlt true (by rw [HDB.out]; have hS := HS.out; have hN := HN.out; simp [*]; omega) | exact HU.out.put hlt false (by rw [HDB.out]; have hS := HS.out; have hN := HN.out; simp [*]; omega)⟩)
                · skip
                  go_wp2_with (first | (go_at_call 25; refine (CH.out _).mono ?_; rintro e w' ⟨rfl, rfl⟩) | (go_at_call 37; refine (CM.out _).mono ?_; rintro e w' ⟨rfl, rfl⟩) | (go_at_call 38; refine (CG.out _).mono ?_; rintro e w' ⟨rfl, rfl⟩) | (go_at_call 26; first | (with_reducible refine (CT.out _).mono ?_; rintro e w' ⟨rfl, rfl⟩) | (with_reducible refine (CF.out _).mono ?_; rintro e w' ⟨rfl, rfl⟩)))
                  all_goals go_round
                  all_goals first
                    | (case measure => simp [intOf]; omega)
                    | (case rel => exact ⟨b + 1, _, by omega, by go_num, rfl, by first | exact HU.out.keep (by rw [HDB.out]; have hS := HS.out; have hN := HN.out; simp [*]; done) | exact HU.out.keep (by rw [HDB.out]; have hS := HS.out; have hN := HN.out; simp [*]; omega) | exact HU.out.put hlt true (by rw [HDB.out]; have hS := HS.out; have hN := HN.out; simp [*]; done) | exact HU.out.put hlt false (by rw [HDB.out]; have hS := HS.out; have hN := HN.out; simp [*]; done) | exact HU.out.put hlt true (by rw [HDB.out]; have hS := HS.out; have hN := HN.out; simp [*]; omega) | exact HU.out.put hlt false (by rw [HDB.out]; have hS := HS.out; have hN := HN.out; simp [*]; omega)⟩)
              · have e1 : (((sign.toNat : Nat) : Int) == 43) = false := by rw [hs]; rfl
                have e2 : (((sign.toNat : Nat) : Int) == 45) = false := by rw [hs]; rfl
                have e3 : (((sign.toNat : Nat) : Int) == 61) = true := by rw [hs]; rfl
                have HS := Lib.hid hs
                clear hs
                cases me
                · cases gn
                  · skip
                    go_wp2_with (first | (go_at_call 25; refine (CH.out _).mono ?_; rintro e w' ⟨rfl, rfl⟩) | (go_at_call 37; refine (CM.out _).mono ?_; rintro e w' ⟨rfl, rfl⟩) | (go_at_call 38; refine (CG.out _).mono ?_; rintro e w' ⟨rfl, rfl⟩) | (go_at_call 26; first | (with_reducible refine (CT.out _).mono ?_; rintro e w' ⟨rfl, rfl⟩) | (with_reducible refine (CF.out _).mono ?_; rintro e w' ⟨rfl, rfl⟩)))
                    all_goals go_round
                    all_goals first
                      | (case measure => simp [intOf]; omega)
                      | (case rel => exact ⟨b + 1, _, by omega, by go_num, rfl, by first | exact HU.out.keep (by rw [HDB.out]; have hS := HS.out; have hN := HN.out; simp [*]; done) | exact HU.out.keep (by rw [HDB.out]; have hS := HS.out; have hN := HN.out; simp [*]; omega) | exact HU.out.put hlt true (by rw [HDB.out]; have hS := HS.out; have hN := HN.out; simp [*]; done) | exact HU.out.put hlt false (by rw [HDB.out]; have hS := HS.out; have hN := HN.out; simp [*]; done) | exact HU.out.put hlt true (by rw [HDB.out]; have hS := HS.out; have hN := HN.out; simp [*]; omega) | exact HU.out.put hlt false (by rw [HDB.out]; have hS := HS.out; have hN := HN.out; simp [*]; omega)⟩)
                  · skip
                    go_wp2_with (first | (go_at_call 25; refine (CH.out _).mono ?_; rintro e w' ⟨rfl, rfl⟩) | (go_at_call 37; refine (CM.out _).mono ?_; rintro e w' ⟨rfl, rfl⟩) | (go_at_call 38; refine (CG.out _).mono ?_; rintro e w' ⟨rfl, rfl⟩) | (go_at_call 26; first | (with_reducible refine (CT.out _).mono ?_; rintro e w' ⟨rfl, rfl⟩) | (with_reducible refine (CF.out _).mono ?_; rintro e w' ⟨rfl, rfl⟩)))
                    all_goals go_round
                    all_goals first
                      | (case measure => simp [intOf]; omega)
                      | (case rel => exact ⟨b + 1, _, by omega, by go_num, rfl, by first | exact HU.out.keep (by rw [HDB.out]; have hS := HS.out; have hN := HN.out; simp [*]; done) | exact HU.out.keep (by rw [HDB.out]; have hS := HS.out; have hN := HN.out; simp [*]; omega) | exact HU.out.put hlt true (by rw [HDB.out]; have hS := HS.out; have hN := HN.out; simp [*]; done) | exact HU.out.put hlt false (by rw [HDB.out]; have hS := HS.out; have hN := HN.out; simp [*]; done) | exact HU.out.put hlt true (by rw [HDB.out]; have hS := HS.out; have hN := HN.out; simp [*]; omega) | exact HU.out.put hlt false (by rw [HDB.out]; have hS := HS.out; have hN := HN.out; simp [*]; omega)⟩)
                · skip
                  go_wp2_with (first | (go_at_call 25; refine (CH.out _).mono ?_; rintro e w' ⟨rfl, rfl⟩) | (go_at_call 37; refine (CM.out _).mono ?_; rintro e w' ⟨rfl, rfl⟩) | (go_at_call 38; refine (CG.out _).mono ?_; rintro e w' ⟨rfl, rfl⟩) | (go_at_call 26; first | (with_reducible refine (CT.out _).mono ?_; rintro e w' ⟨rfl, rfl⟩) | (with_reducible refine (CF.out _).mono ?_; rintro e w' ⟨rfl, rfl⟩)))
                  all_goals go_round
                  all_goals first
                    | (case measure => simp [intOf]; omega)
                    | (case rel => exact ⟨b + 1, _, by omega, by go_num, rfl, by first | exact HU.out.keep (by rw [HDB.out]; have hS := HS.out; have hN := HN.out; simp [*]; done) | exact HU.out.keep (by rw [HDB.out]; have hS := HS.out; have hN := HN.out; simp [*]; omega) | exact HU.out.put hlt true (by rw [HDB.out]; have hS := HS.out; have hN := HN.out; simp [*]; done) | exact HU.out.put hlt false (by rw [HDB.out]; have hS := HS.out; have hN := HN.out; simp [*]; done) | exact HU.out.put hlt true (by rw [HDB.out]; have hS := HS.out; have hN := HN.out; simp [*]; omega) | exact HU.out.put hlt false (by rw [HDB.out]; have hS := HS.out; have hN := HN.out; simp [*]; omega)⟩)
        · obtain rfl : b = 12 := by omega
          have HF : Hid (n = D) := Lib.hid (HU.out.all HD4.out)
          go_wp2_with fail
          go_ret
          exact ⟨ret_int (by rw [HF.out]), rfl⟩
    | false =>
      cases b3 with
      | true =>
        have ha : any = true := by rw [han]; rfl
        subst ha
        clear han
        go_enter Tryd.func31, Tryd.ntmps31
        go_wp2_with (go_at_call 25; with_reducible first | (refine (H0.out _).mono ?_; rintro e w' ⟨rfl, rfl⟩) | (refine (H3.out _).mono ?_; rintro e w' ⟨rfl, rfl⟩))
        go_loop [16, 17] (fun o i => ∃ b n : Nat, b ≤ 12 ∧ i = .int .i64 b ∧ o = .int .i64 n ∧ Upto D m b n) (fun _ i => 12 - (intOf i).toNat)
        case atStart => exact ⟨0, m, by omega, rfl, rfl, HU0.out⟩
        case round =>
          obtain ⟨b, n, hb, rfl, rfl, hu⟩ := hrel
          have HU := Lib.hid hu
          clear hu
          by_cases hlt : b < 12
          · obtain ⟨mk, hmk⟩ : ∃ x, mask.testBit b = x := ⟨_, rfl⟩
            obtain ⟨me, hme⟩ : ∃ x, x = meantB (L p) c b true := ⟨_, rfl⟩
            obtain ⟨gn, hgn⟩ : ∃ x, x = goneB c b := ⟨_, rfl⟩
            have hDb := HB.out b hlt
            rw [hmk, ← hme, ← hgn] at hDb
            have CH := Lib.hid (fun w => has_any mask b w hk (by omega) mk hmk)
            have CM := Lib.hid (CMB.out b hlt)
            have CG := Lib.hid (CGB.out b hlt)
            have CT := Lib.hid (fun w => put_any n b true w HU.out.1 hlt)
            have CF := Lib.hid (fun w => put_any n b false w HU.out.1 hlt)
            rw [← hme] at CM
            rw [← hgn] at CG
            have HDB := Lib.hid hDb
            clear hmk hme hgn hDb
            cases named with
            | true =>
              have HN : Hid True := Lib.hid trivial
              rcases HSG.out with hs | hs | hs
              · have e1 : (((sign.toNat : Nat) : Int) == 43) = true := by rw [hs]; rfl
                have e2 : (((sign.toNat : Nat) : Int) == 45) = false := by rw [hs]; rfl
                have e3 : (((sign.toNat : Nat) : Int) == 61) = false := by rw [hs]; rfl
                have HS := Lib.hid hs
                clear hs
                cases me
                · skip
                  go_wp2_with (first | (go_at_call 25; refine (CH.out _).mono ?_; rintro e w' ⟨rfl, rfl⟩) | (go_at_call 37; refine (CM.out _).mono ?_; rintro e w' ⟨rfl, rfl⟩) | (go_at_call 38; refine (CG.out _).mono ?_; rintro e w' ⟨rfl, rfl⟩) | (go_at_call 26; first | (with_reducible refine (CT.out _).mono ?_; rintro e w' ⟨rfl, rfl⟩) | (with_reducible refine (CF.out _).mono ?_; rintro e w' ⟨rfl, rfl⟩)))
                  all_goals go_round
                  all_goals first
                    | (case measure => simp [intOf]; omega)
                    | (case rel => exact ⟨b + 1, _, by omega, by go_num, rfl, by first | exact HU.out.keep (by rw [HDB.out]; have hS := HS.out; have hN := HN.out; simp [*]; done) | exact HU.out.keep (by rw [HDB.out]; have hS := HS.out; have hN := HN.out; simp [*]; omega) | exact HU.out.put hlt true (by rw [HDB.out]; have hS := HS.out; have hN := HN.out; simp [*]; done) | exact HU.out.put hlt false (by rw [HDB.out]; have hS := HS.out; have hN := HN.out; simp [*]; done) | exact HU.out.put hlt true (by rw [HDB.out]; have hS := HS.out; have hN := HN.out; simp [*]; omega) | exact HU.out.put hlt false (by rw [HDB.out]; have hS := HS.out; have hN := HN.out; simp [*]; omega)⟩)
                · skip
                  go_wp2_with (first | (go_at_call 25; refine (CH.out _).mono ?_; rintro e w' ⟨rfl, rfl⟩) | (go_at_call 37; refine (CM.out _).mono ?_; rintro e w' ⟨rfl, rfl⟩) | (go_at_call 38; refine (CG.out _).mono ?_; rintro e w' ⟨rfl, rfl⟩) | (go_at_call 26; first | (with_reducible refine (CT.out _).mono ?_; rintro e w' ⟨rfl, rfl⟩) | (with_reducible refine (CF.out _).mono ?_; rintro e w' ⟨rfl, rfl⟩)))
                  all_goals go_round
                  all_goals first
                    | (case measure => simp [intOf]; omega)
                    | (case rel => exact ⟨b + 1, _, by omega, by go_num, rfl, by first | exact HU.out.keep (by rw [HDB.out]; have hS := HS.out; have hN := HN.out; simp [*]; done) | exact HU.out.keep (by rw [HDB.out]; have hS := HS.out; have hN := HN.out; simp [*]; omega) | exact HU.out.put hlt true (by rw [HDB.out]; have hS := HS.out; have hN := HN.out; simp [*]; done) | exact HU.out.put hlt false (by rw [HDB.out]; have hS := HS.out; have hN := HN.out; simp [*]; done) | exact HU.out.put hlt true (by rw [HDB.out]; have hS := HS.out; have hN := HN.out; simp [*]; omega) | exact HU.out.put hlt false (by rw [HDB.out]; have hS := HS.out; have hN := HN.out; simp [*]; omega)⟩)
              · have e1 : (((sign.toNat : Nat) : Int) == 43) = false := by rw [hs]; rfl
                have e2 : (((sign.toNat : Nat) : Int) == 45) = true := by rw [hs]; rfl
                have e3 : (((sign.toNat : Nat) : Int) == 61) = false := by rw [hs]; rfl
                have HS := Lib.hid hs
                clear hs
                cases me
                · skip
                  go_wp2_with (first | (go_at_call 25; refine (CH.out _).mono ?_; rintro e w' ⟨rfl, rfl⟩) | (go_at_call 37; refine (CM.out _).mono ?_; rintro e w' ⟨rfl, rfl⟩) | (go_at_call 38; refine (CG.out _).mono ?_; rintro e w' ⟨rfl, rfl⟩) | (go_at_call 26; first | (with_reducible refine (CT.out _).mono ?_; rintro e w' ⟨rfl, rfl⟩) | (with_reducible refine (CF.out _).mono ?_; rintro e w' ⟨rfl, rfl⟩)))
                  all_goals go_round
                  all_goals first
                    | (case measure => simp [intOf]; omega)
                    | (case rel => exact ⟨b + 1, _, by omega, by go_num, rfl, by first | exact HU.out.keep (by rw [HDB.out]; have hS := HS.out; have hN := HN.out; simp [*]; done) | exact HU.out.keep (by rw [HDB.out]; have hS := HS.out; have hN := HN.out; simp [*]; omega) | exact HU.out.put hlt true (by rw [HDB.out]; have hS := HS.out; have hN := HN.out; simp [*]; done) | exact HU.out.put hlt false (by rw [HDB.out]; have hS := HS.out; have hN := HN.out; simp [*]; done) | exact HU.out.put hlt true (by rw [HDB.out]; have hS := HS.out; have hN := HN.out; simp [*]; omega) | exact HU.out.put hlt false (by rw [HDB.out]; have hS := HS.out; have hN := HN.out; simp [*]; omega)⟩)
                · skip
                  go_wp2_with (first | (go_at_call 25; refine (CH.out _).mono ?_; rintro e w' ⟨rfl, rfl⟩) | (go_at_call 37; refine (CM.out _).mono ?_; rintro e w' ⟨rfl, rfl⟩) | (go_at_call 38; refine (CG.out _).mono ?_; rintro e w' ⟨rfl, rfl⟩) | (go_at_call 26; first | (with_reducible refine (CT.out _).mono ?_; rintro e w' ⟨rfl, rfl⟩) | (with_reducible refine (CF.out _).mono ?_; rintro e w' ⟨rfl, rfl⟩)))
                  all_goals go_round
                  all_goals first
                    | (case measure => simp [intOf]; omega)
                    | (case rel => exact ⟨b + 1, _, by omega, by go_num, rfl, by first | exact HU.out.keep (by rw [HDB.out]; have hS := HS.out; have hN := HN.out; simp [*]; done) | exact HU.out.keep (by rw [HDB.out]; have hS := HS.out; have hN := HN.out; simp [*]; omega) | exact HU.out.put hlt true (by rw [HDB.out]; have hS := HS.out; have hN := HN.out; simp [*]; done) | exact HU.out.put hlt false (by rw [HDB.out]; have hS := HS.out; have hN := HN.out; simp [*]; done) | exact HU.out.put hlt true (by rw [HDB.out]; have hS := HS.out; have hN := HN.out; simp [*]; omega) | exact HU.out.put hlt false (by rw [HDB.out]; have hS := HS.out; have hN := HN.out; simp [*]; omega)⟩)
              · have e1 : (((sign.toNat : Nat) : Int) == 43) = false := by rw [hs]; rfl
                have e2 : (((sign.toNat : Nat) : Int) == 45) = false := by rw [hs]; rfl
                have e3 : (((sign.toNat : Nat) : Int) == 61) = true := by rw [hs]; rfl
                have HS := Lib.hid hs
                clear hs
                cases me
                · cases gn
                  · skip
                    go_wp2_with (first | (go_at_call 25; refine (CH.out _).mono ?_; rintro e w' ⟨rfl, rfl⟩) | (go_at_call 37; refine (CM.out _).mono ?_; rintro e w' ⟨rfl, rfl⟩) | (go_at_call 38; refine (CG.out _).mono ?_; rintro e w' ⟨rfl, rfl⟩) | (go_at_call 26; first | (with_reducible refine (CT.out _).mono ?_; rintro e w' ⟨rfl, rfl⟩) | (with_reducible refine (CF.out _).mono ?_; rintro e w' ⟨rfl, rfl⟩)))
                    all_goals go_round
                    all_goals first
                      | (case measure => simp [intOf]; omega)
                      | (case rel => exact ⟨b + 1, _, by omega, by go_num, rfl, by first | exact HU.out.keep (by rw [HDB.out]; have hS := HS.out; have hN := HN.out; simp [*]; done) | exact HU.out.keep (by rw [HDB.out]; have hS := HS.out; have hN := HN.out; simp [*]; omega) | exact HU.out.put hlt true (by rw [HDB.out]; have hS := HS.out; have hN := HN.out; simp [*]; done) | exact HU.out.put hlt false (by rw [HDB.out]; have hS := HS.out; have hN := HN.out; simp [*]; done) | exact HU.out.put hlt true (by rw [HDB.out]; have hS := HS.out; have hN := HN.out; simp [*]; omega) | exact HU.out.put hlt false (by rw [HDB.out]; have hS := HS.out; have hN := HN.out; simp [*]; omega)⟩)
                  · skip
                    go_wp2_with (first | (go_at_call 25; refine (CH.out _).mono ?_; rintro e w' ⟨rfl, rfl⟩) | (go_at_call 37; refine (CM.out _).mono ?_; rintro e w' ⟨rfl, rfl⟩) | (go_at_call 38; refine (CG.out _).mono ?_; rintro e w' ⟨rfl, rfl⟩) | (go_at_call 26; first | (with_reducible refine (CT.out _).mono ?_; rintro e w' ⟨rfl, rfl⟩) | (with_reducible refine (CF.out _).mono ?_; rintro e w' ⟨rfl, rfl⟩)))
                    all_goals go_round
                    all_goals first
                      | (case measure => simp [intOf]; omega)
                      | (case rel => exact ⟨b + 1, _, by omega, by go_num, rfl, by first | exact HU.out.keep (by rw [HDB.out]; have hS := HS.out; have hN := HN.out; simp [*]; done) | exact HU.out.keep (by rw [HDB.out]; have hS := HS.out; have hN := HN.out; simp [*]; omega) | exact HU.out.put hlt true (by rw [HDB.out]; have hS := HS.out; have hN := HN.out; simp [*]; done) | exact HU.out.put hlt false (by rw [HDB.out]; have hS := HS.out; have hN := HN.out; simp [*]; done) | exact HU.out.put hlt true (by rw [HDB.out]; have hS := HS.out; have hN := HN.out; simp [*]; omega) | exact HU.out.put hlt false (by rw [HDB.out]; have hS := HS.out; have hN := HN.out; simp [*]; omega)⟩)
                · skip
                  go_wp2_with (first | (go_at_call 25; refine (CH.out _).mono ?_; rintro e w' ⟨rfl, rfl⟩) | (go_at_call 37; refine (CM.out _).mono ?_; rintro e w' ⟨rfl, rfl⟩) | (go_at_call 38; refine (CG.out _).mono ?_; rintro e w' ⟨rfl, rfl⟩) | (go_at_call 26; first | (with_reducible refine (CT.out _).mono ?_; rintro e w' ⟨rfl, rfl⟩) | (with_reducible refine (CF.out _).mono ?_; rintro e w' ⟨rfl, rfl⟩)))
                  all_goals go_round
                  all_goals first
                    | (case measure => simp [intOf]; omega)
                    | (case rel => exact ⟨b + 1, _, by omega, by go_num, rfl, by first | exact HU.out.keep (by rw [HDB.out]; have hS := HS.out; have hN := HN.out; simp [*]; done) | exact HU.out.keep (by rw [HDB.out]; have hS := HS.out; have hN := HN.out; simp [*]; omega) | exact HU.out.put hlt true (by rw [HDB.out]; have hS := HS.out; have hN := HN.out; simp [*]; done) | exact HU.out.put hlt false (by rw [HDB.out]; have hS := HS.out; have hN := HN.out; simp [*]; done) | exact HU.out.put hlt true (by rw [HDB.out]; have hS := HS.out; have hN := HN.out; simp [*]; omega) | exact HU.out.put hlt false (by rw [HDB.out]; have hS := HS.out; have hN := HN.out; simp [*]; omega)⟩)
            | false =>
              by_cases h9 : b < 9
              · cases mk with
                | true =>
                  have HS : Hid True := Lib.hid trivial
                  have HN := Lib.hid h9
                  go_wp2_with (first | (go_at_call 25; refine (CH.out _).mono ?_; rintro e w' ⟨rfl, rfl⟩) | (go_at_call 37; refine (CM.out _).mono ?_; rintro e w' ⟨rfl, rfl⟩) | (go_at_call 38; refine (CG.out _).mono ?_; rintro e w' ⟨rfl, rfl⟩) | (go_at_call 26; first | (with_reducible refine (CT.out _).mono ?_; rintro e w' ⟨rfl, rfl⟩) | (with_reducible refine (CF.out _).mono ?_; rintro e w' ⟨rfl, rfl⟩)))
                  all_goals go_round
                  all_goals first
                    | (case measure => simp [intOf]; omega)
                    | (case rel => exact ⟨b + 1, _, by omega, by go_num, rfl, by first | exact HU.out.keep (by rw [HDB.out]; have hS := HS.out; have hN := HN.out; simp [*]; done) | exact HU.out.keep (by rw [HDB.out]; have hS := HS.out; have hN := HN.out; simp [*]; omega) | exact HU.out.put hlt true (by rw [HDB.out]; have hS := HS.out; have hN := HN.out; simp [*]; done) | exact HU.out.put hlt false (by rw [HDB.out]; have hS := HS.out; have hN := HN.out; simp [*]; done) | exact HU.out.put hlt true (by rw [HDB.out]; have hS := HS.out; have hN := HN.out; simp [*]; omega) | exact HU.out.put hlt false (by rw [HDB.out]; have hS := HS.out; have hN := HN.out; simp [*]; omega)⟩)
                | false =>
                  have HN : Hid True := Lib.hid trivial
                  rcases HSG.out with hs | hs | hs
                  · have e1 : (((sign.toNat : Nat) : Int) == 43) = true := by rw [hs]; rfl
                    have e2 : (((sign.toNat : Nat) : Int) == 45) = false := by rw [hs]; rfl
                    have e3 : (((sign.toNat : Nat) : Int) == 61) = false := by rw [hs]; rfl
                    have HS := Lib.hid hs
                    clear hs
                    cases me
                    · skip
                      go_wp2_with (first | (go_at_call 25; refine (CH.out _).mono ?_; rintro e w' ⟨rfl, rfl⟩) | (go_at_call 37; refine (CM.out _).mono ?_; rintro e w' ⟨rfl, rfl⟩) | (go_at_call 38; refine (CG.out _).mono ?_; rintro e w' ⟨rfl, rfl⟩) | (go_at_call 26; first | (with_reducible refine (CT.out _).mono ?_; rintro e w' ⟨rfl, rfl⟩) | (with_reducible refine (CF.out _).mono ?_; rintro e w' ⟨rfl, rfl⟩)))
                      all_goals go_round
                      all_goals first
                        | (case measure => simp [intOf]; omega)
                        | (case rel => exact ⟨b + 1, _, by omega, by go_num, rfl, by first | exact HU.out.keep (by rw [HDB.out]; have hS := HS.out; have hN := HN.out; simp [*]; done) | exact HU.out.keep (by rw [HDB.out]; have hS := HS.out; have hN := HN.out; simp [*]; omega) | exact HU.out.put hlt true (by rw [HDB.out]; have hS := HS.out; have hN := HN.out; simp [*]; done) | exact HU.out.put hlt false (by rw [HDB.out]; have hS := HS.out; have hN := HN.out; simp [*]; done) | exact HU.out.put hlt true (by rw [HDB.out]; have hS := HS.out; have hN := HN.out; simp [*]; omega) | exact HU.out.put hlt false (by rw [HDB.out]; have hS := HS.out; have hN := HN.out; simp [*]; omega)⟩)
                    · skip
                      go_wp2_with (first | (go_at_call 25; refine (CH.out _).mono ?_; rintro e w' ⟨rfl, rfl⟩) | (go_at_call 37; refine (CM.out _).mono ?_; rintro e w' ⟨rfl, rfl⟩) | (go_at_call 38; refine (CG.out _).mono ?_; rintro e w' ⟨rfl, rfl⟩) | (go_at_call 26; first | (with_reducible refine (CT.out _).mono ?_; rintro e w' ⟨rfl, rfl⟩) | (with_reducible refine (CF.out _).mono ?_; rintro e w' ⟨rfl, rfl⟩)))
                      all_goals go_round
                      all_goals first
                        | (case measure => simp [intOf]; omega)
                        | (case rel => exact ⟨b + 1, _, by omega, by go_num, rfl, by first | exact HU.out.keep (by rw [HDB.out]; have hS := HS.out; have hN := HN.out; simp [*]; done) | exact HU.out.keep (by rw [HDB.out]; have hS := HS.out; have hN := HN.out; simp [*]; omega) | exact HU.out.put hlt true (by rw [HDB.out]; have hS := HS.out; have hN := HN.out; simp [*]; done) | exact HU.out.put hlt false (by rw [HDB.out]; have hS := HS.out; have hN := HN.out; simp [*]; done) | exact HU.out.put hlt true (by rw [HDB.out]; have hS := HS.out; have hN := HN.out; simp [*]; omega) | exact HU.out.put hlt false (by rw [HDB.out]; have hS := HS.out; have hN := HN.out; simp [*]; omega)⟩)
                  · have e1 : (((sign.toNat : Nat) : Int) == 43) = false := by rw [hs]; rfl
                    have e2 : (((sign.toNat : Nat) : Int) == 45) = true := by rw [hs]; rfl
                    have e3 : (((sign.toNat : Nat) : Int) == 61) = false := by rw [hs]; rfl
                    have HS := Lib.hid hs
                    clear hs
                    cases me
                    · skip
                      go_wp2_with (first | (go_at_call 25; refine (CH.out _).mono ?_; rintro e w' ⟨rfl, rfl⟩) | (go_at_call 37; refine (CM.out _).mono ?_; rintro e w' ⟨rfl, rfl⟩) | (go_at_call 38; refine (CG.out _).mono ?_; rintro e w' ⟨rfl, rfl⟩) | (go_at_call 26; first | (with_reducible refine (CT.out _).mono ?_; rintro e w' ⟨rfl, rfl⟩) | (with_reducible refine (CF.out _).mono ?_; rintro e w' ⟨rfl, rfl⟩)))
                      all_goals go_round
                      all_goals first
                        | (case measure => simp [intOf]; omega)
                        | (case rel => exact ⟨b + 1, _, by omega, by go_num, rfl, by first | exact HU.out.keep (by rw [HDB.out]; have hS := HS.out; have hN := HN.out; simp [*]; done) | exact HU.out.keep (by rw [HDB.out]; have hS := HS.out; have hN := HN.out; simp [*]; omega) | exact HU.out.put hlt true (by rw [HDB.out]; have hS := HS.out; have hN := HN.out; simp [*]; done) | exact HU.out.put hlt false (by rw [HDB.out]; have hS := HS.out; have hN := HN.out; simp [*]; done) | exact HU.out.put hlt true (by rw [HDB.out]; have hS := HS.out; have hN := HN.out; simp [*]; omega) | exact HU.out.put hlt false (by rw [HDB.out]; have hS := HS.out; have hN := HN.out; simp [*]; omega)⟩)
                    · skip
                      go_wp2_with (first | (go_at_call 25; refine (CH.out _).mono ?_; rintro e w' ⟨rfl, rfl⟩) | (go_at_call 37; refine (CM.out _).mono ?_; rintro e w' ⟨rfl, rfl⟩) | (go_at_call 38; refine (CG.out _).mono ?_; rintro e w' ⟨rfl, rfl⟩) | (go_at_call 26; first | (with_reducible refine (CT.out _).mono ?_; rintro e w' ⟨rfl, rfl⟩) | (with_reducible refine (CF.out _).mono ?_; rintro e w' ⟨rfl, rfl⟩)))
                      all_goals go_round
                      all_goals first
                        | (case measure => simp [intOf]; omega)
                        | (case rel => exact ⟨b + 1, _, by omega, by go_num, rfl, by first | exact HU.out.keep (by rw [HDB.out]; have hS := HS.out; have hN := HN.out; simp [*]; done) | exact HU.out.keep (by rw [HDB.out]; have hS := HS.out; have hN := HN.out; simp [*]; omega) | exact HU.out.put hlt true (by rw [HDB.out]; have hS := HS.out; have hN := HN.out; simp [*]; done) | exact HU.out.put hlt false (by rw [HDB.out]; have hS := HS.out; have hN := HN.out; simp [*]; done) | exact HU.out.put hlt true (by rw [HDB.out]; have hS := HS.out; have hN := HN.out; simp [*]; omega) | exact HU.out.put hlt false (by rw [HDB.out]; have hS := HS.out; have hN := HN.out; simp [*]; omega)⟩)
                  · have e1 : (((sign.toNat : Nat) : Int) == 43) = false := by rw [hs]; rfl
                    have e2 : (((sign.toNat : Nat) : Int) == 45) = false := by rw [hs]; rfl
                    have e3 : (((sign.toNat : Nat) : Int) == 61) = true := by rw [hs]; rfl
                    have HS := Lib.hid hs
                    clear hs
                    cases me
                    · cases gn
                      · skip
                        go_wp2_with (first | (go_at_call 25; refine (CH.out _).mono ?_; rintro e w' ⟨rfl, rfl⟩) | (go_at_call 37; refine (CM.out _).mono ?_; rintro e w' ⟨rfl, rfl⟩) | (go_at_call 38; refine (CG.out _).mono ?_; rintro e w' ⟨rfl, rfl⟩) | (go_at_call 26; first | (with_reducible refine (CT.out _).mono ?_; rintro e w' ⟨rfl, rfl⟩) | (with_reducible refine (CF.out _).mono ?_; rintro e w' ⟨rfl, rfl⟩)))
                        all_goals go_round
                        all_goals first
                          | (case measure => simp [intOf]; omega)
                          | (case rel => exact ⟨b + 1, _, by omega, by go_num, rfl, by first | exact HU.out.keep (by rw [HDB.out]; have hS := HS.out; have hN := HN.out; simp [*]; done) | exact HU.out.keep (by rw [HDB.out]; have hS := HS.out; have hN := HN.out; simp [*]; omega) | exact HU.out.put hlt true (by rw [HDB.out]; have hS := HS.out; have hN := HN.out; simp [*]; done) | exact HU.out.put hlt false (by rw [HDB.out]; have hS := HS.out; have hN := HN.out; simp [*]; done) | exact HU.out.put hlt true (by rw [HDB.out]; have hS := HS.out; have hN := HN.out; simp [*]; omega) | exact HU.out.put hlt false (by rw [HDB.out]; have hS := HS.out; have hN := HN.out; simp [*]; omega)⟩)
                      · skip
                        go_wp2_with (first | (go_at_call 25; refine (CH.out _).mono ?_; rintro e w' ⟨rfl, rfl⟩) | (go_at_call 37; refine (CM.out _).mono ?_; rintro e w' ⟨rfl, rfl⟩) | (go_at_call 38; refine (CG.out _).mono ?_; rintro e w' ⟨rfl, rfl⟩) | (go_at_call 26; first | (with_reducible refine (CT.out _).mono ?_; rintro e w' ⟨rfl, rfl⟩) | (with_reducible refine (CF.out _).mono ?_; rintro e w' ⟨rfl, rfl⟩)))
                        all_goals go_round
                        all_goals first
                          | (case measure => simp [intOf]; omega)
                          | (case rel => exact ⟨b + 1, _, by omega, by go_num, rfl, by first | exact HU.out.keep (by rw [HDB.out]; have hS := HS.out; have hN := HN.out; simp [*]; done) | exact HU.out.keep (by rw [HDB.out]; have hS := HS.out; have hN := HN.out; simp [*]; omega) | exact HU.out.put hlt true (by rw [HDB.out]; have hS := HS.out; have hN := HN.out; simp [*]; done) | exact HU.out.put hlt false (by rw [HDB.out]; have hS := HS.out; have hN := HN.out; simp [*]; done) | exact HU.out.put hlt true (by rw [HDB.out]; have hS := HS.out; have hN := HN.out; simp [*]; omega) | exact HU.out.put hlt false (by rw [HDB.out]; have hS := HS.out; have hN := HN.out; simp [*]; omega)⟩)
                    · skip
                      go_wp2_with (first | (go_at_call 25; refine (CH.out _).mono ?_; rintro e w' ⟨rfl, rfl⟩) | (go_at_call 37; refine (CM.out _).mono ?_; rintro e w' ⟨rfl, rfl⟩) | (go_at_call 38; refine (CG.out _).mono ?_; rintro e w' ⟨rfl, rfl⟩) | (go_at_call 26; first | (with_reducible refine (CT.out _).mono ?_; rintro e w' ⟨rfl, rfl⟩) | (with_reducible refine (CF.out _).mono ?_; rintro e w' ⟨rfl, rfl⟩)))
                      all_goals go_round
                      all_goals first
                        | (case measure => simp [intOf]; omega)
                        | (case rel => exact ⟨b + 1, _, by omega, by go_num, rfl, by first | exact HU.out.keep (by rw [HDB.out]; have hS := HS.out; have hN := HN.out; simp [*]; done) | exact HU.out.keep (by rw [HDB.out]; have hS := HS.out; have hN := HN.out; simp [*]; omega) | exact HU.out.put hlt true (by rw [HDB.out]; have hS := HS.out; have hN := HN.out; simp [*]; done) | exact HU.out.put hlt false (by rw [HDB.out]; have hS := HS.out; have hN := HN.out; simp [*]; done) | exact HU.out.put hlt true (by rw [HDB.out]; have hS := HS.out; have hN := HN.out; simp [*]; omega) | exact HU.out.put hlt false (by rw [HDB.out]; have hS := HS.out; have hN := HN.out; simp [*]; omega)⟩)
              · have HN := Lib.hid h9
                rcases HSG.out with hs | hs | hs
                · have e1 : (((sign.toNat : Nat) : Int) == 43) = true := by rw [hs]; rfl
                  have e2 : (((sign.toNat : Nat) : Int) == 45) = false := by rw [hs]; rfl
                  have e3 : (((sign.toNat : Nat) : Int) == 61) = false := by rw [hs]; rfl
                  have HS := Lib.hid hs
                  clear hs
                  cases me
                  · skip
                    go_wp2_with (first | (go_at_call 25; refine (CH.out _).mono ?_; rintro e w' ⟨rfl, rfl⟩) | (go_at_call 37; refine (CM.out _).mono ?_; rintro e w' ⟨rfl, rfl⟩) | (go_at_call 38; refine (CG.out _).mono ?_; rintro e w' ⟨rfl, rfl⟩) | (go_at_call 26; first | (with_reducible refine (CT.out _).mono ?_; rintro e w' ⟨rfl, rfl⟩) | (with_reducible refine (CF.out _).mono ?_; rintro e w' ⟨rfl, rfl⟩)))
                    all_goals go_round
                    all_goals first
                      | (case measure => simp [intOf]; omega)
                      | (case rel => exact ⟨b + 1, _, by omega, by go_num, rfl, by first | exact HU.out.keep (by rw [HDB.out]; have hS := HS.out; have hN := HN.out; simp [*]; done) | exact HU.out.keep (by rw [HDB.out]; have hS := HS.out; have hN := HN.out; simp [*]; omega) | exact HU.out.put hlt true (by rw [HDB.out]; have hS := HS.out; have hN := HN.out; simp [*]; done) | exact HU.out.put hlt false (by rw [HDB.out]; have hS := HS.out; have hN := HN.out; simp [*]; done) | exact HU.out.put hlt true (by rw [HDB.out]; have hS := HS.out; have hN := HN.out; simp [*]; omega) | exact HU.out.put hlt false (by rw [HDB.out]; have hS := HS.out; have hN := HN.out; simp [*]; omega)⟩)
                  · skip
                    go_wp2_with (first | (go_at_call 25; refine (CH.out _).mono ?_; rintro e w' ⟨rfl, rfl⟩) | (go_at_call 37; refine (CM.out _).mono ?_; rintro e w' ⟨rfl, rfl⟩) | (go_at_call 38; refine (CG.out _).mono ?_; rintro e w' ⟨rfl, rfl⟩) | (go_at_call 26; first | (with_reducible refine (CT.out _).mono ?_; rintro e w' ⟨rfl, rfl⟩) | (with_reducible refine (CF.out _).mono ?_; rintro e w' ⟨rfl, rfl⟩)))
                    all_goals go_round
                    all_goals first
                      | (case measure => simp [intOf]; omega)
                      | (case rel => exact ⟨b + 1, _, by omega, by go_num, rfl, by first | exact HU.out.keep (by rw [HDB.out]; have hS := HS.out; have hN := HN.out; simp [*]; done) | exact HU.out.keep (by rw [HDB.out]; have hS := HS.out; have hN := HN.out; simp [*]; omega) | exact HU.out.put hlt true (by rw [HDB.out]; have hS := HS.out; have hN := HN.out; simp [*]; done) | exact HU.out.put hlt false (by rw [HDB.out]; have hS := HS.out; have hN := HN.out; simp [*]; done) | exact HU.out.put hlt true (by rw [HDB.out]; have hS := HS.out; have hN := HN.out; simp [*]; omega) | exact HU.out.put hlt false (by rw [HDB.out]; have hS := HS.out; have hN := HN.out; simp [*]; omega)⟩)
                · have e1 : (((sign.toNat : Nat) : Int) == 43) = false := by rw [hs]; rfl
                  have e2 : (((sign.toNat : Nat) : Int) == 45) = true := by rw [hs]; rfl
                  have e3 : (((sign.toNat : Nat) : Int) == 61) = false := by rw [hs]; rfl
                  have HS := Lib.hid hs
                  clear hs
                  cases me
                  · skip
                    go_wp2_with (first | (go_at_call 25; refine (CH.out _).mono ?_; rintro e w' ⟨rfl, rfl⟩) | (go_at_call 37; refine (CM.out _).mono ?_; rintro e w' ⟨rfl, rfl⟩) | (go_at_call 38; refine (CG.out _).mono ?_; rintro e w' ⟨rfl, rfl⟩) | (go_at_call 26; first | (with_reducible refine (CT.out _).mono ?_; rintro e w' ⟨rfl, rfl⟩) | (with_reducible refine (CF.out _).mono ?_; rintro e w' ⟨rfl, rfl⟩)))
                    all_goals go_round
                    all_goals first
                      | (case measure => simp [intOf]; omega)
                      | (case rel => exact ⟨b + 1, _, by omega, by go_num, rfl, by first | exact HU.out.keep (by rw [HDB.out]; have hS := HS.out; have hN := HN.out; simp [*]; done) | exact HU.out.keep (by rw [HDB.out]; have hS := HS.out; have hN := HN.out; simp [*]; omega) | exact HU.out.put hlt true (by rw [HDB.out]; have hS := HS.out; have hN := HN.out; simp [*]; done) | exact HU.out.put hlt false (by rw [HDB.out]; have hS := HS.out; have hN := HN.out; simp [*]; done) | exact HU.out.put hlt true (by rw [HDB.out]; have hS := HS.out; have hN := HN.out; simp [*]; omega) | exact HU.out.put hlt false (by rw [HDB.out]; have hS := HS.out; have hN := HN.out; simp [*]; omega)⟩)
                  · skip
                    go_wp2_with (first | (go_at_call 25; refine (CH.out _).mono ?_; rintro e w' ⟨rfl, rfl⟩) | (go_at_call 37; refine (CM.out _).mono ?_; rintro e w' ⟨rfl, rfl⟩) | (go_at_call 38; refine (CG.out _).mono ?_; rintro e w' ⟨rfl, rfl⟩) | (go_at_call 26; first | (with_reducible refine (CT.out _).mono ?_; rintro e w' ⟨rfl, rfl⟩) | (with_reducible refine (CF.out _).mono ?_; rintro e w' ⟨rfl, rfl⟩)))
                    all_goals go_round
                    all_goals first
                      | (case measure => simp [intOf]; omega)
                      | (case rel => exact ⟨b + 1, _, by omega, by go_num, rfl, by first | exact HU.out.keep (by rw [HDB.out]; have hS := HS.out; have hN := HN.out; simp [*]; done) | exact HU.out.keep (by rw [HDB.out]; have hS := HS.out; have hN := HN.out; simp [*]; omega) | exact HU.out.put hlt true (by rw [HDB.out]; have hS := HS.out; have hN := HN.out; simp [*]; done) | exact HU.out.put hlt false (by rw [HDB.out]; have hS := HS.out; have hN := HN.out; simp [*]; done) | exact HU.out.put hlt true (by rw [HDB.out]; have hS := HS.out; have hN := HN.out; simp [*]; omega) | exact HU.out.put hlt false (by rw [HDB.out]; have hS := HS.out; have hN := HN.out; simp [*]; omega)⟩)
                · have e1 : (((sign.toNat : Nat) : Int) == 43) = false := by rw [hs]; rfl
                  have e2 : (((sign.toNat : Nat) : Int) == 45) = false := by rw [hs]; rfl
                  have e3 : (((sign.toNat : Nat) : Int) == 61) = true := by rw [hs]; rfl
                  have HS := Lib.hid hs
                  clear hs
                  cases me
                  · cases gn
                    · skip
                      go_wp2_with (first | (go_at_call 25; refine (CH.out _).mono ?_; rintro e w' ⟨rfl, rfl⟩) | (go_at_call 37; refine (CM.out _).mono ?_; rintro e w' ⟨rfl, rfl⟩) | (go_at_call 38; refine (CG.out _).mono ?_; rintro e w' ⟨rfl, rfl⟩) | (go_at_call 26; first | (with_reducible refine (CT.out _).mono ?_; rintro e w' ⟨rfl, rfl⟩) | (with_reducible refine (CF.out _).mono ?_; rintro e w' ⟨rfl, rfl⟩)))
                      all_goals go_round
                      all_goals first
                        | (case measure => simp [intOf]; omega)
                        | (case rel => exact ⟨b + 1, _, by omega, by go_num, rfl, by first | exact HU.out.keep (by rw [HDB.out]; have hS := HS.out; have hN := HN.out; simp [*]; done) | exact HU.out.keep (by rw [HDB.out]; have hS := HS.out; have hN := HN.out; simp [*]; omega) | exact HU.out.put hlt true (by rw [HDB.out]; have hS := HS.out; have hN := HN.out; simp [*]; done) | exact HU.out.put hlt false (by rw [HDB.out]; have hS := HS.out; have hN := HN.out; simp [*]; done) | exact HU.out.put hlt true (by rw [HDB.out]; have hS := HS.out; have hN := HN.out; simp [*]; omega) | exact HU.out.put hlt false (by rw [HDB.out]; have hS := HS.out; have hN := HN.out; simp [*]; omega)⟩)
                    · skip
                      go_wp2_with (first | (go_at_call 25; refine (CH.out _).mono ?_; rintro e w' ⟨rfl, rfl⟩) | (go_at_call 37; refine (CM.out _).mono ?_; rintro e w' ⟨rfl, rfl⟩) | (go_at_call 38; refine (CG.out _).mono ?_; rintro e w' ⟨rfl, rfl⟩) | (go_at_call 26; first | (with_reducible refine (CT.out _).mono ?_; rintro e w' ⟨rfl, rfl⟩) | (with_reducible refine (CF.out _).mono ?_; rintro e w' ⟨rfl, rfl⟩)))
                      all_goals go_round
                      all_goals first
                        | (case measure => simp [intOf]; omega)
                        | (case rel => exact ⟨b + 1, _, by omega, by go_num, rfl, by first | exact HU.out.keep (by rw [HDB.out]; have hS := HS.out; have hN := HN.out; simp [*]; done) | exact HU.out.keep (by rw [HDB.out]; have hS := HS.out; have hN := HN.out; simp [*]; omega) | exact HU.out.put hlt true (by rw [HDB.out]; have hS := HS.out; have hN := HN.out; simp [*]; done) | exact HU.out.put hlt false (by rw [HDB.out]; have hS := HS.out; have hN := HN.out; simp [*]; done) | exact HU.out.put hlt true (by rw [HDB.out]; have hS := HS.out; have hN := HN.out; simp [*]; omega) | exact HU.out.put hlt false (by rw [HDB.out]; have hS := HS.out; have hN := HN.out; simp [*]; omega)⟩)
                  · skip
                    go_wp2_with (first | (go_at_call 25; refine (CH.out _).mono ?_; rintro e w' ⟨rfl, rfl⟩) | (go_at_call 37; refine (CM.out _).mono ?_; rintro e w' ⟨rfl, rfl⟩) | (go_at_call 38; refine (CG.out _).mono ?_; rintro e w' ⟨rfl, rfl⟩) | (go_at_call 26; first | (with_reducible refine (CT.out _).mono ?_; rintro e w' ⟨rfl, rfl⟩) | (with_reducible refine (CF.out _).mono ?_; rintro e w' ⟨rfl, rfl⟩)))
                    all_goals go_round
                    all_goals first
                      | (case measure => simp [intOf]; omega)
                      | (case rel => exact ⟨b + 1, _, by omega, by go_num, rfl, by first | exact HU.out.keep (by rw [HDB.out]; have hS := HS.out; have hN := HN.out; simp [*]; done) | exact HU.out.keep (by rw [HDB.out]; have hS := HS.out; have hN := HN.out; simp [*]; omega) | exact HU.out.put hlt true (by rw [HDB.out]; have hS := HS.out; have hN := HN.out; simp [*]; done) | exact HU.out.put hlt false (by rw [HDB.out]; have hS := HS.out; have hN := HN.out; simp [*]; done) | exact HU.out.put hlt true (by rw [HDB.out]; have hS := HS.out; have hN := HN.out; simp [*]; omega) | exact HU.out.put hlt false (by rw [HDB.out]; have hS := HS.out; have hN := HN.out; simp [*]; omega)⟩)
          · obtain rfl : b = 12 := by omega
            have HF : Hid (n = D) := Lib.hid (HU.out.all HD4.out)
            go_wp2_with fail
            go_ret
            exact ⟨ret_int (by rw [HF.out]), rfl⟩
      | false =>
        have ha : any = b6 := by rw [han]; simp
        subst ha
        clear han
        go_enter Tryd.func31, Tryd.ntmps31
        go_wp2_with (go_at_call 25; with_reducible first | (refine (H0.out _).mono ?_; rintro e w' ⟨rfl, rfl⟩) | (refine (H3.out _).mono ?_; rintro e w' ⟨rfl, rfl⟩) | (refine (H6.out _).mono ?_; rintro e w' ⟨rfl, rfl⟩))
        go_loop [16, 17] (fun o i => ∃ b n : Nat, b ≤ 12 ∧ i = .int .i64 b ∧ o = .int .i64 n ∧ Upto D m b n) (fun _ i => 12 - (intOf i).toNat)
        case atStart => exact ⟨0, m, by omega, rfl, rfl, HU0.out⟩
        case round =>
          obtain ⟨b, n, hb, rfl, rfl, hu⟩ := hrel
          have HU := Lib.hid hu
          clear hu
          by_cases hlt : b < 12
          · obtain ⟨mk, hmk⟩ : ∃ x, mask.testBit b = x := ⟨_, rfl⟩
            obtain ⟨me, hme⟩ : ∃ x, x = meantB (L p) c b any := ⟨_, rfl⟩
            obtain ⟨gn, hgn⟩ : ∃ x, x = goneB c b := ⟨_, rfl⟩
            have hDb := HB.out b hlt
            rw [hmk, ← hme, ← hgn] at hDb
            have CH := Lib.hid (fun w => has_any mask b w hk (by omega) mk hmk)
            have CM := Lib.hid (CMB.out b hlt)
            have CG := Lib.hid (CGB.out b hlt)
            have CT := Lib.hid (fun w => put_any n b true w HU.out.1 hlt)
            have CF := Lib.hid (fun w => put_any n b false w HU.out.1 hlt)
            rw [← hme] at CM
            rw [← hgn] at CG
            have HDB := Lib.hid hDb
            clear hmk hme hgn hDb
            cases named with
            | true =>
              have HN : Hid True := Lib.hid trivial
              rcases HSG.out with hs | hs | hs
              · have e1 : (((sign.toNat : Nat) : Int) == 43) = true := by rw [hs]; rfl
                have e2 : (((sign.toNat : Nat) : Int) == 45) = false := by rw [hs]; rfl
                have e3 : (((sign.toNat : Nat) : Int) == 61) = false := by rw [hs]; rfl
                have HS := Lib.hid hs
                clear hs
                cases me
                · skip
                  go_wp2_with (first | (go_at_call 25; refine (CH.out _).mono ?_; rintro e w' ⟨rfl, rfl⟩) | (go_at_call 37; refine (CM.out _).mono ?_; rintro e w' ⟨rfl, rfl⟩) | (go_at_call 38; refine (CG.out _).mono ?_; rintro e w' ⟨rfl, rfl⟩) | (go_at_call 26; first | (with_reducible refine (CT.out _).mono ?_; rintro e w' ⟨rfl, rfl⟩) | (with_reducible refine (CF.out _).mono ?_; rintro e w' ⟨rfl, rfl⟩)))
                  all_goals go_round
                  all_goals first
                    | (case measure => simp [intOf]; omega)
                    | (case rel => exact ⟨b + 1, _, by omega, by go_num, rfl, by first | exact HU.out.keep (by rw [HDB.out]; have hS := HS.out; have hN := HN.out; simp [*]; done) | exact HU.out.keep (by rw [HDB.out]; have hS := HS.out; have hN := HN.out; simp [*]; omega) | exact HU.out.put hlt true (by rw [HDB.out]; have hS := HS.out; have hN := HN.out; simp [*]; done) | exact HU.out.put hlt false (by rw [HDB.out]; have hS := HS.out; have hN := HN.out; simp [*]; done) | exact HU.out.put hlt true (by rw [HDB.out]; have hS := HS.out; have hN := HN.out; simp [*]; omega) | exact HU.out.put hlt false (by rw [HDB.out]; have hS := HS.out; have hN := HN.out; simp [*]; omega)⟩)
                · skip
                  go_wp2_with (first | (go_at_call 25; refine (CH.out _).mono ?_; rintro e w' ⟨rfl, rfl⟩) | (go_at_call 37; refine (CM.out _).mono ?_; rintro e w' ⟨rfl, rfl⟩) | (go_at_call 38; refine (CG.out _).mono ?_; rintro e w' ⟨rfl, rfl⟩) | (go_at_call 26; first | (with_reducible refine (CT.out _).mono ?_; rintro e w' ⟨rfl, rfl⟩) | (with_reducible refine (CF.out _).mono ?_; rintro e w' ⟨rfl, rfl⟩)))
                  all_goals go_round
                  all_goals first
                    | (case measure => simp [intOf]; omega)
                    | (case rel => exact ⟨b + 1, _, by omega, by go_num, rfl, by first | exact HU.out.keep (by rw [HDB.out]; have hS := HS.out; have hN := HN.out; simp [*]; done) | exact HU.out.keep (by rw [HDB.out]; have hS := HS.out; have hN := HN.out; simp [*]; omega) | exact HU.out.put hlt true (by rw [HDB.out]; have hS := HS.out; have hN := HN.out; simp [*]; done) | exact HU.out.put hlt false (by rw [HDB.out]; have hS := HS.out; have hN := HN.out; simp [*]; done) | exact HU.out.put hlt true (by rw [HDB.out]; have hS := HS.out; have hN := HN.out; simp [*]; omega) | exact HU.out.put hlt false (by rw [HDB.out]; have hS := HS.out; have hN := HN.out; simp [*]; omega)⟩)
              · have e1 : (((sign.toNat : Nat) : Int) == 43) = false := by rw [hs]; rfl
                have e2 : (((sign.toNat : Nat) : Int) == 45) = true := by rw [hs]; rfl
                have e3 : (((sign.toNat : Nat) : Int) == 61) = false := by rw [hs]; rfl
                have HS := Lib.hid hs
                clear hs
                cases me
                · skip
                  go_wp2_with (first | (go_at_call 25; refine (CH.out _).mono ?_; rintro e w' ⟨rfl, rfl⟩) | (go_at_call 37; refine (CM.out _).mono ?_; rintro e w' ⟨rfl, rfl⟩) | (go_at_call 38; refine (CG.out _).mono ?_; rintro e w' ⟨rfl, rfl⟩) | (go_at_call 26; first | (with_reducible refine (CT.out _).mono ?_; rintro e w' ⟨rfl, rfl⟩) | (with_reducible refine (CF.out _).mono ?_; rintro e w' ⟨rfl, rfl⟩)))
                  all_goals go_round
                  all_goals first
                    | (case measure => simp [intOf]; omega)
                    | (case rel => exact ⟨b + 1, _, by omega, by go_num, rfl, by first | exact HU.out.keep (by rw [HDB.out]; have hS := HS.out; have hN := HN.out; simp [*]; done) | exact HU.out.keep (by rw [HDB.out]; have hS := HS.out; have hN := HN.out; simp [*]; omega) | exact HU.out.put hlt true (by rw [HDB.out]; have hS := HS.out; have hN := HN.out; simp [*]; done) | exact HU.out.put hlt false (by rw [HDB.out]; have hS := HS.out; have hN := HN.out; simp [*]; done) | exact HU.out.put hlt true (by rw [HDB.out]; have hS := HS.out; have hN := HN.out; simp [*]; omega) | exact HU.out.put hlt false (by rw [HDB.out]; have hS := HS.out; have hN := HN.out; simp [*]; omega)⟩)
                · skip
                  go_wp2_with (first | (go_at_call 25; refine (CH.out _).mono ?_; rintro e w' ⟨rfl, rfl⟩) | (go_at_call 37; refine (CM.out _).mono ?_; rintro e w' ⟨rfl, rfl⟩) | (go_at_call 38; refine (CG.out _).mono ?_; rintro e w' ⟨rfl, rfl⟩) | (go_at_call 26; first | (with_reducible refine (CT.out _).mono ?_; rintro e w' ⟨rfl, rfl⟩) | (with_reducible refine (CF.out _).mono ?_; rintro e w' ⟨rfl, rfl⟩)))
                  all_goals go_round
                  all_goals first
                    | (case measure => simp [intOf]; omega)
                    | (case rel => exact ⟨b + 1, _, by omega, by go_num, rfl, by first | exact HU.out.keep (by rw [HDB.out]; have hS := HS.out; have hN := HN.out; simp [*]; done) | exact HU.out.keep (by rw [HDB.out]; have hS := HS.out; have hN := HN.out; simp [*]; omega) | exact HU.out.put hlt true (by rw [HDB.out]; have hS := HS.out; have hN := HN.out; simp [*]; done) | exact HU.out.put hlt false (by rw [HDB.out]; have hS := HS.out; have hN := HN.out; simp [*]; done) | exact HU.out.put hlt true (by rw [HDB.out]; have hS := HS.out; have hN := HN.out; simp [*]; omega) | exact HU.out.put hlt false (by rw [HDB.out]; have hS := HS.out; have hN := HN.out; simp [*]; omega)⟩)
              · have e1 : (((sign.toNat : Nat) : Int) == 43) = false := by rw [hs]; rfl
                have e2 : (((sign.toNat : Nat) : Int) == 45) = false := by rw [hs]; rfl
                have e3 : (((sign.toNat : Nat) : Int) == 61) = true := by rw [hs]; rfl
                have HS := Lib.hid hs
                clear hs
                cases me
                · cases gn
                  · skip
                    go_wp2_with (first | (go_at_call 25; refine (CH.out _).mono ?_; rintro e w' ⟨rfl, rfl⟩) | (go_at_call 37; refine (CM.out _).mono ?_; rintro e w' ⟨rfl, rfl⟩) | (go_at_call 38; refine (CG.out _).mono ?_; rintro e w' ⟨rfl, rfl⟩) | (go_at_call 26; first | (with_reducible refine (CT.out _).mono ?_; rintro e w' ⟨rfl, rfl⟩) | (with_reducible refine (CF.out _).mono ?_; rintro e w' ⟨rfl, rfl⟩)))
                    all_goals go_round
                    all_goals first
                      | (case measure => simp [intOf]; omega)
                      | (case rel => exact ⟨b + 1, _, by omega, by go_num, rfl, by first | exact HU.out.keep (by rw [HDB.out]; have hS := HS.out; have hN := HN.out; simp [*]; done) | exact HU.out.keep (by rw [HDB.out]; have hS := HS.out; have hN := HN.out; simp [*]; omega) | exact HU.out.put hlt true (by rw [HDB.out]; have hS := HS.out; have hN := HN.out; simp [*]; done) | exact HU.out.put hlt false (by rw [HDB.out]; have hS := HS.out; have hN := HN.out; simp [*]; done) | exact HU.out.put hlt true (by rw [HDB.out]; have hS := HS.out; have hN := HN.out; simp [*]; omega) | exact HU.out.put hlt false (by rw [HDB.out]; have hS := HS.out; have hN := HN.out; simp [*]; omega)⟩)
                  · skip
                    go_wp2_with (first | (go_at_call 25; refine (CH.out _).mono ?_; rintro e w' ⟨rfl, rfl⟩) | (go_at_call 37; refine (CM.out _).mono ?_; rintro e w' ⟨rfl, rfl⟩) | (go_at_call 38; refine (CG.out _).mono ?_; rintro e w' ⟨rfl, rfl⟩) | (go_at_call 26; first | (with_reducible refine (CT.out _).mono ?_; rintro e w' ⟨rfl, rfl⟩) | (with_reducible refine (CF.out _).mono ?_; rintro e w' ⟨rfl, rfl⟩)))
                    all_goals go_round
                    all_goals first
                      | (case measure => simp [intOf]; omega)
                      | (case rel => exact ⟨b + 1, _, by omega, by go_num, rfl, by first | exact HU.out.keep (by rw [HDB.out]; have hS := HS.out; have hN := HN.out; simp [*]; done) | exact HU.out.keep (by rw [HDB.out]; have hS := HS.out; have hN := HN.out; simp [*]; omega) | exact HU.out.put hlt true (by rw [HDB.out]; have hS := HS.out; have hN := HN.out; simp [*]; done) | exact HU.out.put hlt false (by rw [HDB.out]; have hS := HS.out; have hN := HN.out; simp [*]; done) | exact HU.out.put hlt true (by rw [HDB.out]; have hS := HS.out; have hN := HN.out; simp [*]; omega) | exact HU.out.put hlt false (by rw [HDB.out]; have hS := HS.out; have hN := HN.out; simp [*]; omega)⟩)
                · skip
                  go_wp2_with (first | (go_at_call 25; refine (CH.out _).mono ?_; rintro e w' ⟨rfl, rfl⟩) | (go_at_call 37; refine (CM.out _).mono ?_; rintro e w' ⟨rfl, rfl⟩) | (go_at_call 38; refine (CG.out _).mono ?_; rintro e w' ⟨rfl, rfl⟩) | (go_at_call 26; first | (with_reducible refine (CT.out _).mono ?_; rintro e w' ⟨rfl, rfl⟩) | (with_reducible refine (CF.out _).mono ?_; rintro e w' ⟨rfl, rfl⟩)))
                  all_goals go_round
                  all_goals first
                    | (case measure => simp [intOf]; omega)
                    | (case rel => exact ⟨b + 1, _, by omega, by go_num, rfl, by first | exact HU.out.keep (by rw [HDB.out]; have hS := HS.out; have hN := HN.out; simp [*]; done) | exact HU.out.keep (by rw [HDB.out]; have hS := HS.out; have hN := HN.out; simp [*]; omega) | exact HU.out.put hlt true (by rw [HDB.out]; have hS := HS.out; have hN := HN.out; simp [*]; done) | exact HU.out.put hlt false (by rw [HDB.out]; have hS := HS.out; have hN := HN.out; simp [*]; done) | exact HU.out.put hlt true (by rw [HDB.out]; have hS := HS.out; have hN := HN.out; simp [*]; omega) | exact HU.out.put hlt false (by rw [HDB.out]; have hS := HS.out; have hN := HN.out; simp [*]; omega)⟩)
            | false =>
              by_cases h9 : b < 9
              · cases mk with
                | true =>
                  have HS : Hid True := Lib.hid trivial
                  have HN := Lib.hid h9
                  go_wp2_with (first | (go_at_call 25; refine (CH.out _).mono ?_; rintro e w' ⟨rfl, rfl⟩) | (go_at_call 37; refine (CM.out _).mono ?_; rintro e w' ⟨rfl, rfl⟩) | (go_at_call 38; refine (CG.out _).mono ?_; rintro e w' ⟨rfl, rfl⟩) | (go_at_call 26; first | (with_reducible refine (CT.out _).mono ?_; rintro e w' ⟨rfl, rfl⟩) | (with_reducible refine (CF.out _).mono ?_; rintro e w' ⟨rfl, rfl⟩)))
                  all_goals go_round
                  all_goals first
                    | (case measure => simp [intOf]; omega)
                    | (case rel => exact ⟨b + 1, _, by omega, by go_num, rfl, by first | exact HU.out.keep (by rw [HDB.out]; have hS := HS.out; have hN := HN.out; simp [*]; done) | exact HU.out.keep (by rw [HDB.out]; have hS := HS.out; have hN := HN.out; simp [*]; omega) | exact HU.out.put hlt true (by rw [HDB.out]; have hS := HS.out; have hN := HN.out; simp [*]; done) | exact HU.out.put hlt false (by rw [HDB.out]; have hS := HS.out; have hN := HN.out; simp [*]; done) | exact HU.out.put hlt true (by rw [HDB.out]; have hS := HS.out; have hN := HN.out; simp [*]; omega) | exact HU.out.put hlt false (by rw [HDB.out]; have hS := HS.out; have hN := HN.out; simp [*]; omega)⟩)
                | false =>
                  have HN : Hid True := Lib.hid trivial
                  rcases HSG.out with hs | hs | hs
                  · have e1 : (((sign.toNat : Nat) : Int) == 43) = true := by rw [hs]; rfl
                    have e2 : (((sign.toNat : Nat) : Int) == 45) = false := by rw [hs]; rfl
                    have e3 : (((sign.toNat : Nat) : Int) == 61) = false := by rw [hs]; rfl
                    have HS := Lib.hid hs
                    clear hs
                    cases me
                    · skip
                      go_wp2_with (first | (go_at_call 25; refine (CH.out _).mono ?_; rintro e w' ⟨rfl, rfl⟩) | (go_at_call 37; refine (CM.out _).mono ?_; rintro e w' ⟨rfl, rfl⟩) | (go_at_call 38; refine (CG.out _).mono ?_; rintro e w' ⟨rfl, rfl⟩) | (go_at_call 26; first | (with_reducible refine (CT.out _).mono ?_; rintro e w' ⟨rfl, rfl⟩) | (with_reducible refine (CF.out _).mono ?_; rintro e w' ⟨rfl, rfl⟩)))
                      all_goals go_round
                      all_goals first
                        | (case measure => simp [intOf]; omega)
                        | (case rel => exact ⟨b + 1, _, by omega, by go_num, rfl, by first | exact HU.out.keep (by rw [HDB.out]; have hS := HS.out; have hN := HN.out; simp [*]; done) | exact HU.out.keep (by rw [HDB.out]; have hS := HS.out; have hN := HN.out; simp [*]; omega) | exact HU.out.put hlt true (by rw [HDB.out]; have hS := HS.out; have hN := HN.out; simp [*]; done) | exact HU.out.put hlt false (by rw [HDB.out]; have hS := HS.out; have hN := HN.out; simp [*]; done) | exact HU.out.put hlt true (by rw [HDB.out]; have hS := HS.out; have hN := HN.out; simp [*]; omega) | exact HU.out.put hlt false (by rw [HDB.out]; have hS := HS.out; have hN := HN.out; simp [*]; omega)⟩)
                    · skip
                      go_wp2_with (first | (go_at_call 25; refine (CH.out _).mono ?_; rintro e w' ⟨rfl, rfl⟩) | (go_at_call 37; refine (CM.out _).mono ?_; rintro e w' ⟨rfl, rfl⟩) | (go_at_call 38; refine (CG.out _).mono ?_; rintro e w' ⟨rfl, rfl⟩) | (go_at_call 26; first | (with_reducible refine (CT.out _).mono ?_; rintro e w' ⟨rfl, rfl⟩) | (with_reducible refine (CF.out _).mono ?_; rintro e w' ⟨rfl, rfl⟩)))
                      all_goals go_round
                      all_goals first
                        | (case measure => simp [intOf]; omega)
                        | (case rel => exact ⟨b + 1, _, by omega, by go_num, rfl, by first | exact HU.out.keep (by rw [HDB.out]; have hS := HS.out; have hN := HN.out; simp [*]; done) | exact HU.out.keep (by rw [HDB.out]; have hS := HS.out; have hN := HN.out; simp [*]; omega) | exact HU.out.put hlt true (by rw [HDB.out]; have hS := HS.out; have hN := HN.out; simp [*]; done) | exact HU.out.put hlt false (by rw [HDB.out]; have hS := HS.out; have hN := HN.out; simp [*]; done) | exact HU.out.put hlt true (by rw [HDB.out]; have hS := HS.out; have hN := HN.out; simp [*]; omega) | exact HU.out.put hlt false (by rw [HDB.out]; have hS := HS.out; have hN := HN.out; simp [*]; omega)⟩)
                  · have e1 : (((sign.toNat : Nat) : Int) == 43) = false := by rw [hs]; rfl
                    have e2 : (((sign.toNat : Nat) : Int) == 45) = true := by rw [hs]; rfl
                    have e3 : (((sign.toNat : Nat) : Int) == 61) = false := by rw [hs]; rfl
                    have HS := Lib.hid hs
                    clear hs
                    cases me
                    · skip
                      go_wp2_with (first | (go_at_call 25; refine (CH.out _).mono ?_; rintro e w' ⟨rfl, rfl⟩) | (go_at_call 37; refine (CM.out _).mono ?_; rintro e w' ⟨rfl, rfl⟩) | (go_at_call 38; refine (CG.out _).mono ?_; rintro e w' ⟨rfl, rfl⟩) | (go_at_call 26; first | (with_reducible refine (CT.out _).mono ?_; rintro e w' ⟨rfl, rfl⟩) | (with_reducible refine (CF.out _).mono ?_; rintro e w' ⟨rfl, rfl⟩)))
                      all_goals go_round
                      all_goals first
                        | (case measure => simp [intOf]; omega)
                        | (case rel => exact ⟨b + 1, _, by omega, by go_num, rfl, by first | exact HU.out.keep (by rw [HDB.out]; have hS := HS.out; have hN := HN.out; simp [*]; done) | exact HU.out.keep (by rw [HDB.out]; have hS := HS.out; have hN := HN.out; simp [*]; omega) | exact HU.out.put hlt true (by rw [HDB.out]; have hS := HS.out; have hN := HN.out; simp [*]; done) | exact HU.out.put hlt false (by rw [HDB.out]; have hS := HS.out; have hN := HN.out; simp [*]; done) | exact HU.out.put hlt true (by rw [HDB.out]; have hS := HS.out; have hN := HN.out; simp [*]; omega) | exact HU.out.put hlt false (by rw [HDB.out]; have hS := HS.out; have hN := HN.out; simp [*]; omega)⟩)
                    · skip
                      go_wp2_with (first | (go_at_call 25; refine (CH.out _).mono ?_; rintro e w' ⟨rfl, rfl⟩) | (go_at_call 37; refine (CM.out _).mono ?_; rintro e w' ⟨rfl, rfl⟩) | (go_at_call 38; refine (CG.out _).mono ?_; rintro e w' ⟨rfl, rfl⟩) | (go_at_call 26; first | (with_reducible refine (CT.out _).mono ?_; rintro e w' ⟨rfl, rfl⟩) | (with_reducible refine (CF.out _).mono ?_; rintro e w' ⟨rfl, rfl⟩)))
                      all_goals go_round
                      all_goals first
                        | (case measure => simp [intOf]; omega)
                        | (case rel => exact ⟨b + 1, _, by omega, by go_num, rfl, by first | exact HU.out.keep (by rw [HDB.out]; have hS := HS.out; have hN := HN.out; simp [*]; done) | exact HU.out.keep (by rw [HDB.out]; have hS := HS.out; have hN := HN.out; simp [*]; omega) | exact HU.out.put hlt true (by rw [HDB.out]; have hS := HS.out; have hN := HN.out; simp [*]; done) | exact HU.out.put hlt false (by rw [HDB.out]; have hS := HS.out; have hN := HN.out; simp [*]; done) | exact HU.out.put hlt true (by rw [HDB.out]; have hS := HS.out; have hN := HN.out; simp [*]; omega) | exact HU.out.put hlt false (by rw [HDB.out]; have hS := HS.out; have hN := HN.out; simp [*]; omega)⟩)
                  · have e1 : (((sign.toNat : Nat) : Int) == 43) = false := by rw [hs]; rfl
                    have e2 : (((sign.toNat : Nat) : Int) == 45) = false := by rw [hs]; rfl
                    have e3 : (((sign.toNat : Nat) : Int) == 61) = true := by rw [hs]; rfl
                    have HS := Lib.hid hs
                    clear hs
                    cases me
                    · cases gn
                      · skip
                        go_wp2_with (first | (go_at_call 25; refine (CH.out _).mono ?_; rintro e w' ⟨rfl, rfl⟩) | (go_at_call 37; refine (CM.out _).mono ?_; rintro e w' ⟨rfl, rfl⟩) | (go_at_call 38; refine (CG.out _).mono ?_; rintro e w' ⟨rfl, rfl⟩) | (go_at_call 26; first | (with_reducible refine (CT.out _).mono ?_; rintro e w' ⟨rfl, rfl⟩) | (with_reducible refine (CF.out _).mono ?_; rintro e w' ⟨rfl, rfl⟩)))
                        all_goals go_round
                        all_goals first
                          | (case measure => simp [intOf]; omega)
                          | (case rel => exact ⟨b + 1, _, by omega, by go_num, rfl, by first | exact HU.out.keep (by rw [HDB.out]; have hS := HS.out; have hN := HN.out; simp [*]; done) | exact HU.out.keep (by rw [HDB.out]; have hS := HS.out; have hN := HN.out; simp [*]; omega) | exact HU.out.put hlt true (by rw [HDB.out]; have hS := HS.out; have hN := HN.out; simp [*]; done) | exact HU.out.put hlt false (by rw [HDB.out]; have hS := HS.out; have hN := HN.out; simp [*]; done) | exact HU.out.put hlt true (by rw [HDB.out]; have hS := HS.out; have hN := HN.out; simp [*]; omega) | exact HU.out.put hlt false (by rw [HDB.out]; have hS := HS.out; have hN := HN.out; simp [*]; omega)⟩)
                      · skip
                        go_wp2_with (first | (go_at_call 25; refine (CH.out _).mono ?_; rintro e w' ⟨rfl, rfl⟩) | (go_at_call 37; refine (CM.out _).mono ?_; rintro e w' ⟨rfl, rfl⟩) | (go_at_call 38; refine (CG.out _).mono ?_; rintro e w' ⟨rfl, rfl⟩) | (go_at_call 26; first | (with_reducible refine (CT.out _).mono ?_; rintro e w' ⟨rfl, rfl⟩) | (with_reducible refine (CF.out _).mono ?_; rintro e w' ⟨rfl, rfl⟩)))
                        all_goals go_round
                        all_goals first
                          | (case measure => simp [intOf]; omega)
                          | (case rel => exact ⟨b + 1, _, by omega, by go_num, rfl, by first | exact HU.out.keep (by rw [HDB.out]; have hS := HS.out; have hN := HN.out; simp [*]; done) | exact HU.out.keep (by rw [HDB.out]; have hS := HS.out; have hN := HN.out; simp [*]; omega) | exact HU.out.put hlt true (by rw [HDB.out]; have hS := HS.out; have hN := HN.out; simp [*]; done) | exact HU.out.put hlt false (by rw [HDB.out]; have hS := HS.out; have hN := HN.out; simp [*]; done) | exact HU.out.put hlt true (by rw [HDB.out]; have hS := HS.out; have hN := HN.out; simp [*]; omega) | exact HU.out.put hlt false (by rw [HDB.out]; have hS := HS.out; have hN := HN.out; simp [*]; omega)⟩)
                    · skip
                      go_wp2_with (first | (go_at_call 25; refine (CH.out _).mono ?_; rintro e w' ⟨rfl, rfl⟩) | (go_at_call 37; refine (CM.out _).mono ?_; rintro e w' ⟨rfl, rfl⟩) | (go_at_call 38; refine (CG.out _).mono ?_; rintro e w' ⟨rfl, rfl⟩) | (go_at_call 26; first | (with_reducible refine (CT.out _).mono ?_; rintro e w' ⟨rfl, rfl⟩) | (with_reducible refine (CF.out _).mono ?_; rintro e w' ⟨rfl, rfl⟩)))
                      all_goals go_round
                      all_goals first
                        | (case measure => simp [intOf]; omega)
                        | (case rel => exact ⟨b + 1, _, by omega, by go_num, rfl, by first | exact HU.out.keep (by rw [HDB.out]; have hS := HS.out; have hN := HN.out; simp [*]; done) | exact HU.out.keep (by rw [HDB.out]; have hS := HS.out; have hN := HN.out; simp [*]; omega) | exact HU.out.put hlt true (by rw [HDB.out]; have hS := HS.out; have hN := HN.out; simp [*]; done) | exact HU.out.put hlt false (by rw [HDB.out]; have hS := HS.out; have hN := HN.out; simp [*]; done) | exact HU.out.put hlt true (by rw [HDB.out]; have hS := HS.out; have hN := HN.out; simp [*]; omega) | exact HU.out.put hlt false (by rw [HDB.out]; have hS := HS.out; have hN := HN.out; simp [*]; omega)⟩)
              · have HN := Lib.hid h9
                rcases HSG.out with hs | hs | hs
                · have e1 : (((sign.toNat : Nat) : Int) == 43) = true := by rw [hs]; rfl
                  have e2 : (((sign.toNat : Nat) : Int) == 45) = false := by rw [hs]; rfl
                  have e3 : (((sign.toNat : Nat) : Int) == 61) = false := by rw [hs]; rfl
                  have HS := Lib.hid hs
                  clear hs
                  cases me
                  · skip
                    go_wp2_with (first | (go_at_call 25; refine (CH.out _).mono ?_; rintro e w' ⟨rfl, rfl⟩) | (go_at_call 37; refine (CM.out _).mono ?_; rintro e w' ⟨rfl, rfl⟩) | (go_at_call 38; refine (CG.out _).mono ?_; rintro e w' ⟨rfl, rfl⟩) | (go_at_call 26; first | (with_reducible refine (CT.out _).mono ?_; rintro e w' ⟨rfl, rfl⟩) | (with_reducible refine (CF.out _).mono ?_; rintro e w' ⟨rfl, rfl⟩)))
                    all_goals go_round
                    all_goals first
                      | (case measure => simp [intOf]; omega)
                      | (case rel => exact ⟨b + 1, _, by omega, by go_num, rfl, by first | exact HU.out.keep (by rw [HDB.out]; have hS := HS.out; have hN := HN.out; simp [*]; done) | exact HU.out.keep (by rw [HDB.out]; have hS := HS.out; have hN := HN.out; simp [*]; omega) | exact HU.out.put hlt true (by rw [HDB.out]; have hS := HS.out; have hN := HN.out; simp [*]; done) | exact HU.out.put hlt false (by rw [HDB.out]; have hS := HS.out; have hN := HN.out; simp [*]; done) | exact HU.out.put hlt true (by rw [HDB.out]; have hS := HS.out; have hN := HN.out; simp [*]; omega) | exact HU.out.put hlt false (by rw [HDB.out]; have hS := HS.out; have hN := HN.out; simp [*]; omega)⟩)
                  · skip
                    go_wp2_with (first | (go_at_call 25; refine (CH.out _).mono ?_; rintro e w' ⟨rfl, rfl⟩) | (go_at_call 37; refine (CM.out _).mono ?_; rintro e w' ⟨rfl, rfl⟩) | (go_at_call 38; refine (CG.out _).mono ?_; rintro e w' ⟨rfl, rfl⟩) | (go_at_call 26; first | (with_reducible refine (CT.out _).mono ?_; rintro e w' ⟨rfl, rfl⟩) | (with_reducible refine (CF.out _).mono ?_; rintro e w' ⟨rfl, rfl⟩)))
                    all_goals go_round
                    all_goals first
                      | (case measure => simp [intOf]; omega)
                      | (case rel => exact ⟨b + 1, _, by omega, by go_num, rfl, by first | exact HU.out.keep (by rw [HDB.out]; have hS := HS.out; have hN := HN.out; simp [*]; done) | exact HU.out.keep (by rw [HDB.out]; have hS := HS.out; have hN := HN.out; simp [*]; omega) | exact HU.out.put hlt true (by rw [HDB.out]; have hS := HS.out; have hN := HN.out; simp [*]; done) | exact HU.out.put hlt false (by rw [HDB.out]; have hS := HS.out; have hN := HN.out; simp [*]; done) | exact HU.out.put hlt true (by rw [HDB.out]; have hS := HS.out; have hN := HN.out; simp [*]; omega) | exact HU.out.put hlt false (by rw [HDB.out]; have hS := HS.out; have hN := HN.out; simp [*]; omega)⟩)
                · have e1 : (((sign.toNat : Nat) : Int) == 43) = false := by rw [hs]; rfl
                  have e2 : (((sign.toNat : Nat) : Int) == 45) = true := by rw [hs]; rfl
                  have e3 : (((sign.toNat : Nat) : Int) == 61) = false := by rw [hs]; rfl
                  have HS := Lib.hid hs
                  clear hs
                  cases me
                  · skip
                    go_wp2_with (first | (go_at_call 25; refine (CH.out _).mono ?_; rintro e w' ⟨rfl, rfl⟩) | (go_at_call 37; refine (CM.out _).mono ?_; rintro e w' ⟨rfl, rfl⟩) | (go_at_call 38; refine (CG.out _).mono ?_; rintro e w' ⟨rfl, rfl⟩) | (go_at_call 26; first | (with_reducible refine (CT.out _).mono ?_; rintro e w' ⟨rfl, rfl⟩) | (with_reducible refine (CF.out _).mono ?_; rintro e w' ⟨rfl, rfl⟩)))
                    all_goals go_round
                    all_goals first
                      | (case measure => simp [intOf]; omega)
                      | (case rel => exact ⟨b + 1, _, by omega, by go_num, rfl, by first | exact HU.out.keep (by rw [HDB.out]; have hS := HS.out; have hN := HN.out; simp [*]; done) | exact HU.out.keep (by rw [HDB.out]; have hS := HS.out; have hN := HN.out; simp [*]; omega) | exact HU.out.put hlt true (by rw [HDB.out]; have hS := HS.out; have hN := HN.out; simp [*]; done) | exact HU.out.put hlt false (by rw [HDB.out]; have hS := HS.out; have hN := HN.out; simp [*]; done) | exact HU.out.put hlt true (by rw [HDB.out]; have hS := HS.out; have hN := HN.out; simp [*]; omega) | exact HU.out.put hlt false (by rw [HDB.out]; have hS := HS.out; have hN := HN.out; simp [*]; omega)⟩)
                  · skip
                    go_wp2_with (first | (go_at_call 25; refine (CH.out _).mono ?_; rintro e w' ⟨rfl, rfl⟩) | (go_at_call 37; refine (CM.out _).mono ?_; rintro e w' ⟨rfl, rfl⟩) | (go_at_call 38; refine (CG.out _).mono ?_; rintro e w' ⟨rfl, rfl⟩) | (go_at_call 26; first | (with_reducible refine (CT.out _).mono ?_; rintro e w' ⟨rfl, rfl⟩) | (with_reducible refine (CF.out _).mono ?_; rintro e w' ⟨rfl, rfl⟩)))
                    all_goals go_round
                    all_goals first
                      | (case measure => simp [intOf]; omega)
                      | (case rel => exact ⟨b + 1, _, by omega, by go_num, rfl, by first | exact HU.out.keep (by rw [HDB.out]; have hS := HS.out; have hN := HN.out; simp [*]; done) | exact HU.out.keep (by rw [HDB.out]; have hS := HS.out; have hN := HN.out; simp [*]; omega) | exact HU.out.put hlt true (by rw [HDB.out]; have hS := HS.out; have hN := HN.out; simp [*]; done) | exact HU.out.put hlt false (by rw [HDB.out]; have hS := HS.out; have hN := HN.out; simp [*]; done) | exact HU.out.put hlt true (by rw [HDB.out]; have hS := HS.out; have hN := HN.out; simp [*]; omega) | exact HU.out.put hlt false (by rw [HDB.out]; have hS := HS.out; have hN := HN.out; simp [*]; omega)⟩)
                · have e1 : (((sign.toNat : Nat) : Int) == 43) = false := by rw [hs]; rfl
                  have e2 : (((sign.toNat : Nat) : Int) == 45) = false := by rw [hs]; rfl
                  have e3 : (((sign.toNat : Nat) : Int) == 61) = true := by rw [hs]; rfl
                  have HS := Lib.hid hs
                  clear hs
                  cases me
                  · cases gn
                    · skip
                      go_wp2_with (first | (go_at_call 25; refine (CH.out _).mono ?_; rintro e w' ⟨rfl, rfl⟩) | (go_at_call 37; refine (CM.out _).mono ?_; rintro e w' ⟨rfl, rfl⟩) | (go_at_call 38; refine (CG.out _).mono ?_; rintro e w' ⟨rfl, rfl⟩) | (go_at_call 26; first | (with_reducible refine (CT.out _).mono ?_; rintro e w' ⟨rfl, rfl⟩) | (with_reducible refine (CF.out _).mono ?_; rintro e w' ⟨rfl, rfl⟩)))
                      all_goals go_round
                      all_goals first
                        | (case measure => simp [intOf]; omega)
                        | (case rel => exact ⟨b + 1, _, by omega, by go_num, rfl, by first | exact HU.out.keep (by rw [HDB.out]; have hS := HS.out; have hN := HN.out; simp [*]; done) | exact HU.out.keep (by rw [HDB.out]; have hS := HS.out; have hN := HN.out; simp [*]; omega) | exact HU.out.put hlt true (by rw [HDB.out]; have hS := HS.out; have hN := HN.out; simp [*]; done) | exact HU.out.put hlt false (by rw [HDB.out]; have hS := HS.out; have hN := HN.out; simp [*]; done) | exact HU.out.put hlt true (by rw [HDB.out]; have hS := HS.out; have hN := HN.out; simp [*]; omega) | exact HU.out.put hlt false (by rw [HDB.out]; have hS := HS.out; have hN := HN.out; simp [*]; omega)⟩)
                    · skip
                      go_wp2_with (first | (go_at_call 25; refine (CH.out _).mono ?_; rintro e w' ⟨rfl, rfl⟩) | (go_at_call 37; refine (CM.out _).mono ?_; rintro e w' ⟨rfl, rfl⟩) | (go_at_call 38; refine (CG.out _).mono ?_; rintro e w' ⟨rfl, rfl⟩) | (go_at_call 26; first | (with_reducible refine (CT.out _).mono ?_; rintro e w' ⟨rfl, rfl⟩) | (with_reducible refine (CF.out _).mono ?_; rintro e w' ⟨rfl, rfl⟩)))
                      all_goals go_round
                      all_goals first
                        | (case measure => simp [intOf]; omega)
                        | (case rel => exact ⟨b + 1, _, by omega, by go_num, rfl, by first | exact HU.out.keep (by rw [HDB.out]; have hS := HS.out; have hN := HN.out; simp [*]; done) | exact HU.out.keep (by rw [HDB.out]; have hS := HS.out; have hN := HN.out; simp [*]; omega) | exact HU.out.put hlt true (by rw [HDB.out]; have hS := HS.out; have hN := HN.out; simp [*]; done) | exact HU.out.put hlt false (by rw [HDB.out]; have hS := HS.out; have hN := HN.out; simp [*]; done) | exact HU.out.put hlt true (by rw [HDB.out]; have hS := HS.out; have hN := HN.out; simp [*]; omega) | exact HU.out.put hlt false (by rw [HDB.out]; have hS := HS.out; have hN := HN.out; simp [*]; omega)⟩)
                  · skip
                    go_wp2_with (first | (go_at_call 25; refine (CH.out _).mono ?_; rintro e w' ⟨rfl, rfl⟩) | (go_at_call 37; refine (CM.out _).mono ?_; rintro e w' ⟨rfl, rfl⟩) | (go_at_call 38; refine (CG.out _).mono ?_; rintro e w' ⟨rfl, rfl⟩) | (go_at_call 26; first | (with_reducible refine (CT.out _).mono ?_; rintro e w' ⟨rfl, rfl⟩) | (with_reducible refine (CF.out _).mono ?_; rintro e w' ⟨rfl, rfl⟩)))
                    all_goals go_round
                    all_goals first
                      | (case measure => simp [intOf]; omega)
                      | (case rel => exact ⟨b + 1, _, by omega, by go_num, rfl, by first | exact HU.out.keep (by rw [HDB.out]; have hS := HS.out; have hN := HN.out; simp [*]; done) | exact HU.out.keep (by rw [HDB.out]; have hS := HS.out; have hN := HN.out; simp [*]; omega) | exact HU.out.put hlt true (by rw [HDB.out]; have hS := HS.out; have hN := HN.out; simp [*]; done) | exact HU.out.put hlt false (by rw [HDB.out]; have hS := HS.out; have hN := HN.out; simp [*]; done) | exact HU.out.put hlt true (by rw [HDB.out]; have hS := HS.out; have hN := HN.out; simp [*]; omega) | exact HU.out.put hlt false (by rw [HDB.out]; have hS := HS.out; have hN := HN.out; simp [*]; omega)⟩)
          · obtain rfl : b = 12 := by omega
            have HF : Hid (n = D) := Lib.hid (HU.out.all HD4.out)
            go_wp2_with fail
            go_ret
            exact ⟨ret_int (by rw [HF.out]), rfl⟩
end Go.Proofs.YtbfplannbhafeaaDoor
