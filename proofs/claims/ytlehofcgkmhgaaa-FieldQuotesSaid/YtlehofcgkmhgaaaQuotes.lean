/-
  FieldQuotes returns true for every texts and separators: quoted texts with breaks between are just these fields. No condition.
-/
import Derived.Test.YtlehofcgkmhgaaaF10
import Derived.Test.YtlehofcgkmhgaaaOpen
import Derived.HandedShaped
namespace Go.Proofs.Ytlehofcgkmhgaaa
open Go.ChangeShapes Go.WideShapes Go.ChangeAt Go.RowKit

set_option maxRecDepth 100000 in
theorem fieldQuotes_lifted (os : Os) (started : os.Started) (H : Type) (enc : TypeId × Value → H) :
    ReturnsInHanded {} Try.checked os 3 .any (Rows.fieldQuotesSpec.pre6 enc Try.prog Try.f3 Rows.fieldQuotesRow.domain false) (Rows.fieldQuotesSpec.post enc Try.prog Try.f3 false true false false) := by
  refine returnsInHanded_of_change_shaped (C := Try.checked) Try.own started (by kernel_rfl) Try.func3
    (ChangeSpec.witness6 (enc := enc) (C := Try.checked) false ⟨#[], #[.slice none 0 0, .string ⟨#[]⟩], []⟩ 8 (by kernel_rfl) (by kernel_rfl) (by kernel_rfl) (by kernel_rfl)) ?_
  intro W base args ds gs before hval0 hW _ hz0 hsh _
  have hval : ∀ (j : Nat) t v, Try.f3.params[j]? = some t → args[j]? = some v → Value.okWide Try.prog W .any base t v := hval0
  have hW' := hW
  obtain ⟨p, q, hA0, hV, rfl, _, _⟩ := hW
  have hA : DataW.TrodAll enc Try.prog W 0 (fun _ => true) true Try.f3.params.toList args.toList ds p := hA0
  have hAk := hA
  obtain ⟨rfl, rfl⟩ := trodVars_none hV
  simp only [List.append_nil] at hW'
  have hlt : ∀ x ∈ p, x.block < W.heap.size := fun x hx => by simpa using hW'.lt x hx
  rw [Try.params3] at hA hval
  obtain ⟨v0, vs0, d0, ds0, p0, q0, hargs, rfl, rfl, h0, r0⟩ := trodAll_cons hA
  obtain ⟨v1, vs1, d1, ds1, p1, q1, rfl, rfl, rfl, h1, r1⟩ := trodAll_cons r0
  obtain ⟨rfl, rfl, rfl⟩ := trodAll_nil r1
  obtain rfl : args = #[v0, v1] := by cases args; simp_all
  have hz : (DataW.weightsEach Try.prog (Try.f3.params.toList ++ Rows.fieldQuotesSpec.plain.varTypes Try.prog) (_ ++ _)).all (· ≤ reachBytes) = true := hz0
  rw [Try.params3] at hz
  obtain ⟨a0, n0, c0, ss0, rfl, hE0, zz0⟩ := open_strs_z Try.underlying22 Try.underlying9 (by kernel_rfl) (hval 0 22 v0 rfl rfl) h0 (fun x hx => hlt x (by simp [hx])) (Z := reachBytes) (fun n hn => by simpa using List.all_eq_true.1 hz _ (DataW.weights_mem_each (j := 0) rfl rfl n hn))
  obtain ⟨s1, rfl, rfl, rfl, ws1⟩ := ChangeMaps.open_string Try.underlying9 (hval 1 9 v1 rfl rfl) h1
  have z0 : ∀ s ∈ ss0, s.size ≤ 140737488355327 := fun s hs => Nat.le_trans (zz0 s hs) (by decide)
  clear hA0 hval0
  refine (quotes_any ss0 a0 n0 c0 s1 W hE0 z0 ws1).mono fun e W' ⟨he, hb⟩ => ?_
  subst he
  exact ⟨_, rfl, law_post rfl rfl rfl (by kernel_rfl) hW' hAk hb⟩

theorem fieldQuotes_holds : Rows.FieldQuotesSaid :=
  OpenClaim.holds_of_wide 3 Try.f3 rfl rfl rfl rfl rfl rfl rfl ⟨rfl, rfl, rfl, rfl, rfl⟩ rfl rfl rfl rfl rfl (by kernel_rfl) Try.func3 (by kernel_rfl)
    (of_decide_eq_true (by kernel_rfl)) (by unfold Func.isWrapper; first | (rw [if_pos (by decide +kernel)]; kernel_rfl) | (rw [if_neg (by decide +kernel)]; exact ⟨rfl, rfl⟩))
    (fun os started H enc _ => fieldQuotes_lifted os started H enc)

#print axioms fieldQuotes_holds
end Go.Proofs.Ytlehofcgkmhgaaa
