/-
  TreeParts returns true for every two trees and path: Same, Part and Less answer as the document. The card ties the listed variables to the program's text.
-/
import Derived.Test.YtdelgbkllnccoaaDoorT19
import Derived.Test.YtdelgbkllnccoaaDoorT14
import Derived.Test.YtdelgbkllnccoaaDoorShaped
import Derived.Test.YtdelgbkllnccoaaDoorCards
import Derived.Test.YtdelgbkllnccoaaDoorTie
namespace Go.Proofs.YtdelgbkllnccoaaDoor
open Go.ChangeShapes Go.WideShapes Go.ChangeAt Go.RowKit

set_option maxRecDepth 100000 in
theorem treeParts_lifted (os : Os) (started : os.Started) (H : Type) (enc : TypeId × Value → H) :
    ReturnsInHanded {} Tryd.checked os 4 .any (fun w args => (Rows.treePartsSpec.pre enc Tryd.prog Tryd.f4 Rows.treePartsRow.domain false w args ∧ laidMetH Tryd.prog Rows.treePartsRow.laid w) ∧ sizedMet enc Tryd.prog Tryd.f4 (OpenSpec.ofChange Rows.treePartsSpec) false w args)
      (Rows.treePartsSpec.post enc Tryd.prog Tryd.f4 false true false false) := by
  refine returns_laid (C := Tryd.checked) (X := fun w _ => laidMetH Tryd.prog Rows.treePartsRow.laid w) (fun _ _ _ hh h => h.of_heap hh) Tryd.own started (by kernel_rfl) Tryd.func4
    (ChangeSpec.witness_shaped (enc := enc) (C := Tryd.checked) (os := os) (X := fun w _ => laidMetH Tryd.prog Rows.treePartsRow.laid w) false (World.laidAll Tryd.prog os Rows.treePartsRow.laid) #[.slice none 0 0, .slice none 0 0, .string ⟨#[]⟩] 8 (World.laidAll_os _ _ _)
      (World.shaped_of_ZipB (by kernel_rfl) (by kernel_rfl)) (by kernel_rfl) (by kernel_rfl) (by kernel_rfl)
      (by rw [MakeChecks.laidMetH_plain _ _ _ (by kernel_rfl)]; exact laidMet_laidAll _ (by kernel_rfl) (by kernel_rfl))) ?_
  intro W base args ds gs before hval0 hW hz0 _ hsh
  have hval : ∀ (j : Nat) t v, Tryd.f4.params[j]? = some t → args[j]? = some v → Value.okWide Tryd.prog W .any base t v := hval0
  have hW' := hW
  obtain ⟨p, q, hA0, hV, rfl, _, _⟩ := hW
  have hA : DataW.TrodAll enc Tryd.prog W 0 (fun _ => true) true Tryd.f4.params.toList args.toList ds p := hA0
  have hAk := hA
  obtain ⟨rfl, rfl⟩ := trodVars_none hV
  simp only [List.append_nil] at hW'
  have hlt : ∀ x ∈ p, x.block < W.heap.size := fun x hx => by simpa using hW'.lt x hx
  rw [Tryd.params4] at hA hval
  obtain ⟨v0, vs0, d0, ds0, p0, q0, hargs, rfl, rfl, h0, r0⟩ := trodAll_cons hA
  obtain ⟨v1, vs1, d1, ds1, p1, q1, rfl, rfl, rfl, h1, r1⟩ := trodAll_cons r0
  obtain ⟨v2, vs2, d2, ds2, p2, q2, rfl, rfl, rfl, h2, r2⟩ := trodAll_cons r1
  obtain ⟨rfl, rfl, rfl⟩ := trodAll_nil r2
  obtain rfl : args = #[v0, v1, v2] := by cases args; simp_all
  have hz : (DataW.weightsEach Tryd.prog (Tryd.f4.params.toList ++ Rows.treePartsSpec.plain.varTypes Tryd.prog) (_ ++ _)).all (· ≤ reachBytes) = true := hz0
  rw [Tryd.params4] at hz
  obtain ⟨its0, hsl0, z0⟩ := open_its (hval 0 23 v0 rfl rfl) h0 (fun x hx => hlt x (by simp [hx])) (fun n hn => by simpa using List.all_eq_true.1 hz _ (DataW.weights_mem_each (j := 0) rfl rfl n hn))
  obtain ⟨its1, hsl1, z1⟩ := open_its (hval 1 23 v1 rfl rfl) h1 (fun x hx => hlt x (by simp [hx])) (fun n hn => by simpa using List.all_eq_true.1 hz _ (DataW.weights_mem_each (j := 1) rfl rfl n hn))
  obtain ⟨s2, rfl, rfl, rfl, ws2⟩ := ChangeMaps.open_string Tryd.underlying9 (hval 2 9 v2 rfl rfl) h2
  clear hA0 hval0
  refine (parts_any its0 its1 v0 v1 s2 W (held_of_shape hsh) hsl0 hsl1 z0 z1 ws2).mono fun e W' ⟨he, hb⟩ => ?_
  subst he
  exact ⟨_, rfl, law_post rfl rfl rfl (by kernel_rfl) hW' hAk hb⟩

theorem treeParts_row : Rows.TreePartsSaid :=
  OpenClaim.holds_of_wide 4 Tryd.f4 rfl rfl rfl rfl rfl rfl rfl ⟨rfl, rfl, rfl, rfl, rfl⟩ rfl rfl rfl rfl rfl (by kernel_rfl) Tryd.func4 (by kernel_rfl)
    (of_decide_eq_true (by kernel_rfl)) (by unfold Func.isWrapper; first | (rw [if_pos (by decide +kernel)]; kernel_rfl) | (rw [if_neg (by decide +kernel)]; exact ⟨rfl, rfl⟩))
    (fun os started H enc _ => treeParts_lifted os started H enc)

theorem treeParts_holds : Rows.TreePartsCardSaid :=
  Claim7.holds_tied_plain_at .later [] [.data, .pinned] true (true, "7a95660295ed43609a370058b1ece32cc96b959bbc49e25aec49db840dfbe943") false treeParts_row (fun _ h => by cases h) (by kernel_rfl) (fun _ h => by cases h) treeParts_row_tie rfl ⟨rfl, rfl⟩ (by kernel_rfl) rfl
    (fun f fn hf hfn => by
      obtain rfl : f = 4 := Option.some.inj ((show Tryd.prog.funcNamed "seabag/seabaglaw25.TreeParts" = some 4 by kernel_rfl).symm.trans hf) |>.symm
      obtain rfl : fn = Tryd.f4 := (Option.some.inj (Tryd.func4.symm.trans hfn)).symm
      exact ⟨by kernel_rfl, fun j t ht => by
        rw [Tryd.params4] at ht
        have hm : t ∈ [23, 23, 9] := by simpa using Array.mem_of_getElem? ht
        have hall : ([23, 23, 9].all fun u => !Tryd.prog.wantsStandIn u) = true := by kernel_rfl
        exact (show Tryd.prog.wantsStandIn t = false by simpa using List.all_eq_true.1 hall t hm)⟩)
    (by kernel_rfl)

#print axioms treeParts_holds
end Go.Proofs.YtdelgbkllnccoaaDoor
