/-
  ArithBinds returns true for every numbers, signs and blanks: the row is worth what the document says, or has its error. The card ties the listed variables to the program's text.
-/
import Derived.Test.YtpgneaekflhgnaaDoorF3
import Derived.Test.YtpgneaekflhgnaaDoorCap
import Derived.Test.YtpgneaekflhgnaaDoorBTab
import Derived.Test.YtpgneaekflhgnaaDoorCards
import Derived.Test.YtpgneaekflhgnaaDoorTie
import Derived.Lay
import Derived.SevenTiedAt
import Derived.Stop.Joined
namespace Go.Proofs.YtpgneaekflhgnaaDoor
open Go.ChangeShapes Go.WideShapes Go.ChangeAt Go.RowKit

set_option maxRecDepth 100000 in
theorem arithBinds_lifted (os : Os) (started : os.Started) (H : Type) (enc : TypeId × Value → H) :
    ReturnsInHanded {} Tryd.checked os 3 .any (fun w args => (Rows.arithBindsSpec.pre enc Tryd.prog Tryd.f3 Rows.arithBindsRow.domain false w args ∧ laidMetH Tryd.prog Rows.arithBindsRow.laid w) ∧ sizedMet enc Tryd.prog Tryd.f3 (OpenSpec.ofChange Rows.arithBindsSpec) false w args)
      (Rows.arithBindsSpec.post enc Tryd.prog Tryd.f3 false true false false) := by
  refine returnsInHanded_of_change_and (C := Tryd.checked) (X := fun w _ => laidMetH Tryd.prog Rows.arithBindsRow.laid w) (fun _ _ _ hh h => h.of_heap hh) Tryd.own started (by kernel_rfl) Tryd.func3
    (ChangeSpec.witness_shaped (enc := enc) (C := Tryd.checked) (os := os) (X := fun w _ => laidMetH Tryd.prog Rows.arithBindsRow.laid w) false (World.laidAll Tryd.prog os Rows.arithBindsRow.laid) #[.slice none 0 0, .slice none 0 0, .bool false] 8 (World.laidAll_os _ _ _)
      (World.shaped_of_ZipB (by kernel_rfl) (by kernel_rfl)) (by kernel_rfl) (by kernel_rfl) (by kernel_rfl)
      (by rw [MakeChecks.laidMetH_plain _ _ _ (by kernel_rfl)]; exact laidMet_laidAll _ (by kernel_rfl) (by kernel_rfl))) ?_
  intro W base args ds gs before hval0 hW _ _ hL _
  have hval : ∀ (j : Nat) t v, Tryd.f3.params[j]? = some t → args[j]? = some v → Value.okWide Tryd.prog W .any base t v := hval0
  have hW' := hW
  obtain ⟨p, q, hA0, hV, rfl, _, _⟩ := hW
  have hA : DataW.TrodAll enc Tryd.prog W 0 (fun _ => true) true Tryd.f3.params.toList args.toList ds p := hA0
  have hAk := hA
  obtain ⟨rfl, rfl⟩ := trodVars_none hV
  simp only [List.append_nil] at hW'
  have hlt : ∀ x ∈ p, x.block < W.heap.size := fun x hx => by simpa using hW'.lt x hx
  rw [Tryd.params3] at hA hval
  obtain ⟨v0, vs0, d0, ds0, p0, q0, hargs, rfl, rfl, h0, r0⟩ := trodAll_cons hA
  obtain ⟨v1, vs1, d1, ds1, p1, q1, rfl, rfl, rfl, h1, r1⟩ := trodAll_cons r0
  obtain ⟨v2, vs2, d2, ds2, p2, q2, rfl, rfl, rfl, h2, r2⟩ := trodAll_cons r1
  obtain ⟨rfl, rfl, rfl⟩ := trodAll_nil r2
  obtain rfl : args = #[v0, v1, v2] := by cases args; simp_all
  obtain ⟨a0, n0, c0, ws0, rfl, hE0, hi0, hn0⟩ := open_ints2 Tryd.underlying22 Tryd.underlying2 (by kernel_rfl) (hval 0 22 v0 rfl rfl) h0 (fun x hx => hlt x (by simp [hx]))
  obtain ⟨a1, n1, c1, ss1, rfl, hE1, hss1⟩ := open_strs Tryd.underlying23 Tryd.underlying9 (by kernel_rfl) (hval 1 23 v1 rfl rfl) h1 (fun x hx => hlt x (by simp [hx]))
  obtain ⟨x2, rfl, rfl, rfl⟩ := open_bool Tryd.underlying4 (hval 2 4 v2 rfl rfl) h2
  clear hA0 hval0
  refine (binds_any a0 n0 c0 ws0 a1 n1 c1 ss1 x2 W hE0 hE1 (slice_caps Tryd.underlying22 h0) (slice_caps Tryd.underlying23 h1) hi0 (tab_errB hL).1).mono fun e W' ⟨he, hb⟩ => ?_
  subst he
  exact ⟨_, rfl, law_post rfl rfl rfl (by kernel_rfl) hW' hAk hb⟩

theorem arithBinds_row : Rows.ArithBindsSaid :=
  OpenClaim.holds_of_wide 3 Tryd.f3 rfl rfl rfl rfl rfl rfl rfl ⟨rfl, rfl, rfl, rfl, rfl⟩ rfl rfl rfl rfl rfl (by kernel_rfl) Tryd.func3 (by kernel_rfl)
    (of_decide_eq_true (by kernel_rfl)) (by unfold Func.isWrapper; first | (rw [if_pos (by decide +kernel)]; kernel_rfl) | (rw [if_neg (by decide +kernel)]; exact ⟨rfl, rfl⟩))
    (fun os started H enc _ => arithBinds_lifted os started H enc)

theorem arithBinds_holds : Rows.ArithBindsCardSaid :=
  Claim7.holds_tied_plain_at .later [] [.data, .data, .data, .sentinel, .sentinel] true (true, "f7eb3d18569fe20d907449ef4efad9c2b60f8f8114022c74a1a7cf08e947e0bd") true arithBinds_row (fun _ h => by cases h) (by kernel_rfl) (fun _ h => by cases h) arithBinds_row_tie rfl ⟨rfl, rfl⟩ (by kernel_rfl) rfl
    (fun f fn hf hfn => by
      obtain rfl : f = 3 := Option.some.inj ((show Tryd.prog.funcNamed "seabag/seabaglaw17.ArithBinds" = some 3 by kernel_rfl).symm.trans hf) |>.symm
      obtain rfl : fn = Tryd.f3 := (Option.some.inj (Tryd.func3.symm.trans hfn)).symm
      exact ⟨by kernel_rfl, fun j t ht => by
        rw [Tryd.params3] at ht
        have hm : t ∈ [22, 23, 4] := by simpa using Array.mem_of_getElem? ht
        have hall : ([22, 23, 4].all fun u => !Tryd.prog.wantsStandIn u) = true := by kernel_rfl
        exact (show Tryd.prog.wantsStandIn t = false by simpa using List.all_eq_true.1 hall t hm)⟩)
    (by kernel_rfl)

#print axioms arithBinds_holds
end Go.Proofs.YtpgneaekflhgnaaDoor
