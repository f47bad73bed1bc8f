/-
  AstRights returns true for every list of commands and every depth, where the input is of bulk at most 1048576: Right says what the document says. The card ties the listed variables to the program's text.
-/
import Derived.Test.YtnackmnoldkihaaGreatDoorQB11
import Derived.Test.YtnackmnoldkihaaGreatDoorQB12
import Derived.Test.YtnackmnoldkihaaGreatDoorQB16
import Derived.Test.YtnackmnoldkihaaGreatDoorCards
import Derived.Test.YtnackmnoldkihaaGreatDoorTie
set_option linter.unusedVariables false
set_option linter.unusedSimpArgs false
/-
  The walk of the law on what may be.
-/
namespace Go.Proofs.YtnackmnoldkihaaGreatDoor
open Go.RowKit

set_option maxHeartbeats 2000000 in
set_option maxRecDepth 100000 in
theorem rights_law (l : List Nd) (v : Value) (deep : Int) (w : World) (d : Nat) (hv : Held w) (hl : NdsIn w w.heap.size d l v) :
    Calls Tryz.prog 3 #[v, .int .i64 deep] w fun e w' => e = .returned (.bool true) ∧ Below w.heap.size w w' := by
  obtain ⟨a, cap, rfl, hz⟩ := hl.shape
  have CA := Lib.hid (anchor_any w hv hv)
  have CS : Hid (∀ W, Below w.heap.size w W → Calls Tryz.prog 8 #[.slice a l.length cap] W fun e w' => (∃ b, e = .returned (.bool b)) ∧ Below W.heap.size W w') :=
    Lib.hid fun W hW => small_any l _ W d (hl.later hW)
  have CN : Hid (∀ W, Below w.heap.size w W → Calls Tryz.prog 9 #[.slice a l.length cap] W fun e w' => (∃ a c, e = .returned (.slice a l.length c) ∧ NdsIn w' w'.heap.size d l (.slice a l.length c)) ∧ Below W.heap.size W w') :=
    Lib.hid fun W hW => nodes_any l _ W d (hl.later hW)
  have CR : Hid (∀ (m : Int), m ≤ 9223372036854775807 → ∀ W, Below w.heap.size w W → Calls Tryz.prog 10 #[.slice a l.length cap, .int .i64 m] W fun e w' => e = .returned (.bool (okL m.toNat l)) ∧ Below W.heap.size W w') :=
    Lib.hid fun m hm W hW => right_any l _ m W d hm (hv.below hv.2 hW) (hl.later hW)
  have CL : Hid (∀ (m : Int), m ≤ 1000 → ∀ (W : World) (v : Value), NdsIn W W.heap.size d l v → ∀ W', Below W.heap.size W W' → Calls Tryz.prog 11 #[v, .int .i64 1, .int .i64 m, .bool true] W' fun e w' => e = .returned (.bool (okL m.toNat l)) ∧ Below W'.heap.size W' w') :=
    Lib.hid fun m hm W v hv W' hW => by
      have := (rlevels m (by omega) (m - 1 + 1).toNat 1 (by omega) (by omega) rfl).2 W' l v d true (hv.later hW)
      rw [Bool.true_or, Bool.and_true, show m - 1 + 1 = m by omega] at this
      exact this
  obtain ⟨n, hn⟩ : ∃ n, l.length = n := ⟨_, rfl⟩
  rw [hn] at CS CN CR hz ⊢
  clear hv hl hn
  go_enter Tryz.func3, Tryz.ntmps3
  go_wp2_with fail
  refine CA.out.mono ?_
  rintro e w1 ⟨rfl, hB1⟩
  go_wp2_with fail
  refine (CS.out _ hB1).mono ?_
  rintro e w2 ⟨⟨b, rfl⟩, hb0⟩
  have hB2 : Below w.heap.size w w2 := since hb0 hB1
  clear hb0
  cases b with
  | false =>
    go_wp2_with fail
    go_ret
    exact ⟨rfl, hB2⟩
  | true =>
    by_cases hd : 1000 < deep
    · have g : decide (1000 < deep) = true := by simp [hd]
      go_wp2_with fail
      go_ret
      exact ⟨rfl, hB2⟩
    · have g : decide (1000 < deep) = false := by simp [hd]
      have CR1 := Lib.hid (CR.out deep (by omega))
      have CR2 := Lib.hid (CR.out 200 (by omega))
      have CL1 := Lib.hid (CL.out deep (by omega))
      have CL2 := Lib.hid (CL.out 200 (by omega))
      clear CR CL
      obtain ⟨r1, hr1⟩ : ∃ r, okL deep.toNat l = r := ⟨_, rfl⟩
      obtain ⟨r2, hr2⟩ : ∃ r, okL (200 : Int).toNat l = r := ⟨_, rfl⟩
      rw [hr1] at CR1 CL1
      rw [hr2] at CR2 CL2
      clear hr1 hr2 hd
      go_wp2_with fail
      refine (CN.out _ hB2).mono ?_
      rintro e w3 ⟨⟨a3, c3, rfl, hx⟩, hb0⟩
      have hB3 : Below w.heap.size w w3 := since hb0 hB2
      have HX := Lib.hid hx
      clear hb0 hx
      have CL3 := Lib.hid (CL1.out w3 _ HX.out)
      have CL4 := Lib.hid (CL2.out w3 _ HX.out)
      go_wp2_with fail
      refine (CR1.out _ hB3).mono ?_
      rintro e w4 ⟨rfl, hb0⟩
      have hB4 : Below w.heap.size w w4 := since hb0 hB3
      have hc4 : Below w3.heap.size w3 w4 := hb0
      clear hb0
      go_wp2_with fail
      refine (CL3.out _ hc4).mono ?_
      rintro e w5 ⟨rfl, hb0⟩
      have hB5 : Below w.heap.size w w5 := since hb0 hB4
      have hc5 : Below w3.heap.size w3 w5 := since hb0 hc4
      clear hb0
      have ge : (r1 == r1) = true := by simp
      have ge2 : (r2 == r2) = true := by simp
      go_wp2_with fail
      refine (CR2.out _ hB5).mono ?_
      rintro e w6 ⟨rfl, hb0⟩
      have hB6 : Below w.heap.size w w6 := since hb0 hB5
      have hc6 : Below w3.heap.size w3 w6 := since hb0 hc5
      clear hb0
      go_wp2_with fail
      refine (CL4.out _ hc6).mono ?_
      rintro e w7 ⟨rfl, hb0⟩
      have hB7 : Below w.heap.size w w7 := since hb0 hB6
      clear hb0
      go_wp2_with fail
      go_ret
      exact ⟨rfl, hB7⟩
end Go.Proofs.YtnackmnoldkihaaGreatDoor
namespace Go.Proofs.YtnackmnoldkihaaGreatDoor
open Go.ChangeShapes Go.WideShapes Go.ChangeAt Go.RowKit

set_option maxRecDepth 100000 in
theorem astRights_reads (os : Os) {H : Type} (enc : TypeId × Value → H) : ∃ places, DataW.whole enc Tryz.prog ((World.laidAll Tryz.prog os Rows.astRightsUptoRow.laid).forCall (fun _ _ => 0) ⟨#[], #[.slice none 0 0, .int .i64 0], []⟩).memory Tryz.f3.params.toList Rows.astRightsSpec.vars false (#[.slice none 0 0, .int .i64 0] : Array Value).toList 8 = some ([.nil, .lit (.int .i64 0)], [], places) :=
  ⟨[], by kernel_rfl⟩
set_option maxRecDepth 100000 in
theorem astRights_lifted (os : Os) (started : os.Started) (H : Type) (enc : TypeId × Value → H) (F : Stop.Interp) :
    ReturnsInHanded {} Tryz.checked os 3 .any ((Rows.OpenSpec.upto Rows.astRightsSpec).preRow enc Tryz.prog Tryz.f3 Rows.astRightsUptoRow.domain false Rows.astRightsUptoRow.laid) (((Rows.OpenSpec.upto Rows.astRightsSpec).at F).post enc Tryz.prog Tryz.f3 false true false false) := by
  obtain ⟨places, hx⟩ := astRights_reads os enc
  refine returnsInHanded_of_row (C := Tryz.checked) (s := Rows.OpenSpec.upto Rows.astRightsSpec) Tryz.own started (by kernel_rfl) Tryz.func3
    (witness_row_shaped (enc := enc) (C := Tryz.checked) (os := os) false (World.laidAll Tryz.prog os Rows.astRightsUptoRow.laid) #[.slice none 0 0, .int .i64 0] (World.laidAll_os _ _ _) (World.shaped_of_ZipB (by kernel_rfl) (by kernel_rfl)) (by kernel_rfl)
      (OpenSpec.preRow_of_cond 8 hx (by kernel_rfl) (fun k hk => by cases hk; kernel_rfl) (by kernel_rfl) (by rw [MakeChecks.laidMetH_plain _ _ _ (by kernel_rfl)]; exact laidMet_laidAll _ (by kernel_rfl) (by kernel_rfl)))) ?_
  intro W base args ds gs before hval0 hW _ hcond _ hL hsh _
  have hval : ∀ (j : Nat) t v, Tryz.f3.params[j]? = some t → args[j]? = some v → Value.okWide Tryz.prog W .any base t v := hval0
  have hW' := hW
  obtain ⟨p, q, hA0, hV, rfl, _, _⟩ := hW
  have hA : DataW.TrodAll enc Tryz.prog W 0 (fun _ => true) true Tryz.f3.params.toList args.toList ds p := hA0
  have hAk := hA
  obtain ⟨rfl, rfl⟩ := trodVars_none hV
  simp only [List.append_nil] at hW'
  have hlt : ∀ x ∈ p, x.block < W.heap.size := fun x hx => by simpa using hW'.lt x hx
  rw [Tryz.params3] at hA hval
  obtain ⟨v0, vs0, d0, ds0, p0, q0, hargs, rfl, rfl, h0, r0⟩ := trodAll_cons hA
  obtain ⟨v1, vs1, d1, ds1, p1, q1, rfl, rfl, rfl, h1, r1⟩ := trodAll_cons r0
  obtain ⟨rfl, rfl, rfl⟩ := trodAll_nil r1
  obtain rfl : args = #[v0, v1] := by cases args; simp_all
  have hbk := of_decide_eq_true (hcond _ rfl)
  simp only [Rows.uptoBulkAll, List.append_nil, List.nil_append, List.cons_append, Nat.add_zero] at hbk
  obtain ⟨dp0, l0, hN0, wN0⟩ := open_nodes (hval 0 22 v0 rfl rfl) h0 (fun x hx => hlt x (by simp [hx])) (by unfold bigN; omega)
  obtain ⟨x1, rfl, rfl, rfl, wx1⟩ := open_int Tryz.underlying3 (hval 1 3 v1 rfl rfl) h1
  have b1 : -9223372036854775808 ≤ x1 ∧ x1 ≤ 9223372036854775807 := by simpa [Lit.wf, IntKind.min, IntKind.max, IntKind.signed, IntKind.bits] using wx1
  clear hA0 hval0
  refine (rights_law l0 v0 x1 W dp0 (held_of_shape hsh) hN0).mono fun e W' ⟨he, hb⟩ => ?_
  subst he
  exact ⟨_, rfl, law_post rfl rfl rfl (by kernel_rfl) hW' hAk hb⟩

theorem astRights_row : Rows.AstRightsUptoSaid :=
  OpenClaim.holds_of_cond 3 Tryz.f3 rfl rfl rfl rfl rfl rfl rfl ⟨rfl, rfl, rfl, rfl, rfl⟩ rfl rfl rfl rfl rfl (by kernel_rfl) Tryz.func3 (by kernel_rfl)
    (of_decide_eq_true (by kernel_rfl)) (by unfold Func.isWrapper; first | (rw [if_pos (by decide +kernel)]; kernel_rfl) | (rw [if_neg (by decide +kernel)]; exact ⟨rfl, rfl⟩))
    (fun os started H enc _ F => by rw [OpenClaim.pre_eq_preRow]; exact astRights_lifted os started H enc F)

theorem astRights_holds : Rows.AstRightsUptoCardSaid :=
  Claim7.holds_tied_plain_at .later [] _ _ _ _ astRights_row (fun _ h => by cases h) (by kernel_rfl) (fun _ h => by cases h) astRightsUpto_row_tie rfl ⟨rfl, rfl⟩ (by kernel_rfl) rfl
    (fun f fn hf hfn => by
      obtain rfl : f = 3 := Option.some.inj ((show Tryz.prog.funcNamed "seabag/seabaglaw14.AstRights" = some 3 by kernel_rfl).symm.trans hf) |>.symm
      obtain rfl : fn = Tryz.f3 := (Option.some.inj (Tryz.func3.symm.trans hfn)).symm
      exact ⟨by kernel_rfl, fun j t ht => by
        rw [Tryz.params3] at ht
        have hm : t ∈ [22, 3] := by simpa using Array.mem_of_getElem? ht
        have hall : ([22, 3].all fun u => !Tryz.prog.wantsStandIn u) = true := by kernel_rfl
        exact (show Tryz.prog.wantsStandIn t = false by simpa using List.all_eq_true.1 hall t hm)⟩)
    (by kernel_rfl)

#print axioms astRights_holds
end Go.Proofs.YtnackmnoldkihaaGreatDoor
