/-
  The walks of choice and assign, where a row of numbers comes; binary at every level.
-/
import Derived.Test.YtpgneaekflhgnaaDoorA14
namespace Go.Proofs.YtpgneaekflhgnaaDoor
open Go.RowKit

theorem bin_all {g : Nat} {s : ByteArray} {bl : Bool} {lf : Int} {vv : Value} (hs : s.size ≤ 1000000) (h1 : 1 ≤ lf) (h2 : lf ≤ 200) : ∀ k, k ≤ 10 → BinOK g s bl lf vv (10 - k)
  | 0, _ => bin_ten hs h1 h2
  | k + 1, h => by
    have ih := bin_all hs h1 h2 k (by omega) (g := g) (s := s) (bl := bl) (vv := vv)
    have e : 10 - k = 10 - (k + 1) + 1 := by omega
    rw [e] at ih
    exact bin_step hs (by omega) ih
theorem tw_zero : ∀ l : List Tok, tw 0 l = l ∧ dw 0 l = [] := fun l => by
  have h := tw_of 0 l [] (fun t _ => Nat.zero_le _) (fun t s e => by cases e)
  rwa [List.append_nil] at h
/-- What a row of numbers ends in: its worth, or the error; all is read. -/
def ValP (g : Nat) (s : ByteArray) (y : Int) (l : List Tok) (lf : Int) (vv : Value) (w : World) : Ending → World → Prop := fun e w' =>
  ((∃ v : Int, e = .returned (.int .i64 v) ∧ worth apO y l = some v ∧ SR w' g s [] lf vv 0) ∨ (worth apO y l = none ∧ e = .panicked (errB 32))) ∧ But g g w w'
section
variable {w : World} {g : Nat} {s : ByteArray} {bl : Bool} {y : Int} {l : List Tok} {lf : Int} {vv : Value}
set_option maxHeartbeats 1000000 in
theorem choice_any (k : SR w g s (Lib.decDigits y.toNat ++ tailS bl l) lf vv 0) (hs : s.size ≤ 1000000) (hy : Num y) (hl : Row l) (h1 : 1 ≤ lf) (h2 : lf ≤ 200) :
    Calls Tryd.prog 34 #[.pointer (some ⟨g, 0, none⟩)] w (ValP g s y l lf vv w) := by
  have C1 : Hid (Calls Tryd.prog 44 #[.pointer (some ⟨g, 0, none⟩), .int .i64 0] w (BinP g s bl 0 y l lf vv 0 w)) := Lib.hid (bin_all hs h1 h2 10 (Nat.le_refl _) w y l 0 hy hl (by omega) (by omega) k)
  have HS := Lib.hid hs
  have hz := tw_zero l
  unfold BinP at C1
  rw [hz.1, hz.2] at C1
  clear hs hy hl h1 h2 k hz
  go_enter Tryd.func34, Tryd.ntmps34
  go_wp2_with fail
  refine C1.out.mono ?_
  rintro e w1 ⟨h12, h3⟩
  rcases h12.symm with ⟨h1, h2, rfl⟩ | ⟨v, rfl, h2, h2'⟩
  · exact ⟨rfl, .inr ⟨h2, rfl⟩, h3⟩
  have HV := Lib.hid (h2 (by first | trivial | rfl))
  have HR := Lib.hid h2'
  have HB := Lib.hid h3
  clear h12 h2 h2' h3
  go_wp2_with fail
  refine (take_none HR.out HS.out ⟨#[63]⟩ rfl).mono ?_
  rintro e w2 ⟨rfl, hs2, hb2⟩
  have HF := Lib.hid (And.intro hs2 (HB.out.trans hb2))
  clear hs2 hb2
  go_wp2_with fail
  go_ret
  exact ⟨.inl ⟨v, rfl, HV.out, HF.out.1⟩, HF.out.2⟩
set_option maxHeartbeats 1000000 in
theorem assign_num (k : SR w g s (Lib.decDigits y.toNat ++ tailS bl l) lf vv 0) (hs : s.size ≤ 1000000) (hy : Num y) (hl : Row l) (h1 : 1 ≤ lf) (h2 : lf ≤ 200) :
    Calls Tryd.prog 18 #[.pointer (some ⟨g, 0, none⟩)] w (ValP g s y l lf vv w) := by
  have CC : Hid (∀ W, SR W g s (Lib.decDigits y.toNat ++ tailS bl l) lf vv 0 → Calls Tryd.prog 34 #[.pointer (some ⟨g, 0, none⟩)] W (ValP g s y l lf vv W)) := Lib.hid fun W h => choice_any h hs hy hl h1 h2
  obtain ⟨c, t, hct⟩ : ∃ c t, Lib.decDigits y.toNat = c :: t := by
    cases h : Lib.decDigits y.toNat with
    | nil => exact absurd h (dec_ne y.toNat)
    | cons c t => exact ⟨c, t, rfl⟩
  have hcd : 48 ≤ c.toNat ∧ c.toNat ≤ 57 := dec_dig y.toNat c (by rw [hct]; simp)
  have HE : Hid (Lib.decDigits y.toNat ++ tailS bl l = c :: (t ++ tailS bl l)) := Lib.hid (by rw [hct]; rfl)
  have C1 := Lib.hid (sname_none (HE.out ▸ k) hs hcd)
  obtain ⟨p, _, _, hb⟩ := k
  have d1 := hb.c1
  clear hb hct hcd hs hy hl h1 h2
  go_enter Tryd.func18, Tryd.ntmps18
  go_wp2_with fail
  refine C1.out.mono ?_
  rintro e w1 ⟨rfl, hs1, hb1⟩
  have HR : Hid (SR w1 g s (Lib.decDigits y.toNat ++ tailS bl l) lf vv 0) := Lib.hid (by rw [HE.out]; exact hs1)
  have HB := Lib.hid hb1
  clear hs1 hb1 d1
  go_wp2_with fail
  refine (CC.out _ HR.out).mono ?_
  rintro e w2 ⟨h12, h3⟩
  rcases h12.symm with ⟨h2, rfl⟩ | ⟨v, rfl, h2, h2'⟩
  · exact ⟨rfl, .inr ⟨h2, rfl⟩, HB.out.trans h3⟩
  have HF := Lib.hid (And.intro h2 (And.intro h2' (HB.out.trans h3)))
  clear h12 h2 h2' h3
  go_wp2_with fail
  go_ret
  exact ⟨.inl ⟨v, rfl, HF.out.1, HF.out.2.1⟩, HF.out.2.2⟩
end
end Go.Proofs.YtpgneaekflhgnaaDoor
