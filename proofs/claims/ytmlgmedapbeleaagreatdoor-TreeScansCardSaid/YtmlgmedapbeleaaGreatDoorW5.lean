/-
  The walks of Items, Tops, Short.
-/
import Derived.Test.YtmlgmedapbeleaaGreatDoorW4
set_option linter.unusedVariables false
set_option linter.unusedSimpArgs false
namespace Go.Proofs.YtmlgmedapbeleaaGreatDoor
open Go.RowKit

theorem its_one (l : List It) : ∀ u ∈ l.flatMap itC, u.oneCell' = true := by
  intro u hu
  obtain ⟨x, _, hx⟩ := List.mem_flatMap.1 hu
  simp [itC] at hx
  rcases hx with rfl | rfl | rfl | rfl | rfl <;> rfl
theorem infoI : (Tryz.prog.info? 71).map (fun i => (i.zero, i.size, i.bytes)) = some (some (.agg #[.string ⟨#[]⟩, .int .i64 0, .int .i64 0, .string ⟨#[]⟩, .string ⟨#[]⟩]), 5, 64) := by kernel_rfl
theorem infoIt : (Tryz.prog.info? 34).map (fun i => (i.zero, i.size, i.bytes)) = some (some (.agg #[.string ⟨#[]⟩, .int .i64 0, .int .i64 0, .string ⟨#[]⟩, .string ⟨#[]⟩]), 5, 64) := by kernel_rfl
theorem take_snoc' {l : List It} {k : Nat} {x : It} (h : l[k]? = some x) : l.take (k + 1) = l.take k ++ [x] := by
  obtain ⟨hk, rfl⟩ := List.getElem?_eq_some_iff.1 h
  exact List.take_succ_eq_append_getElem hk
theorem flat_snoc' {l : List It} {k : Nat} {x : It} (h : l[k]? = some x) : (l.take (k + 1)).flatMap itC = (l.take k).flatMap itC ++ itC x := by
  rw [take_snoc' h, List.flatMap_append]; simp

set_option maxHeartbeats 1000000 in
theorem items_any (l : List It) (v : Value) (w : World) (hl : Tr w w.heap.size v l) (h30 : l.length ≤ 30) :
    Calls Tryz.prog 13 #[v] w fun e w' => ∃ v', e = .returned v' ∧ w'.ownsRow w.heap.size 71 5 v' l.length (l.flatMap itC) ∧ Below w.heap.size w w' := by
  obtain ⟨a, cap, rfl, hm⟩ := tr_shape hl
  obtain ⟨n, hn⟩ : ∃ n, n = l.length := ⟨_, rfl⟩
  rw [← hn] at hm h30
  have HL := Lib.hid hl
  have HN := Lib.hid hn
  clear hl
  rw [← hn]
  clear hn
  go_enter Tryz.func13, Tryz.ntmps13
  go_wp2_with fail
  go_loopw [3, 8] (fun v3 i wr => ∃ k : Nat, k ≤ n ∧ i = .int .i64 k ∧ wr.ownsRow w.heap.size 71 5 v3 k ((l.take k).flatMap itC) ∧ Below w.heap.size w wr) (fun _ i _ => n - (intOf i).toNat)
  case atStart => exact ⟨0, Nat.zero_le _, rfl, World.ownsRow_nil _ _ _ _, Below.refl _ _⟩
  case round =>
    obtain ⟨k, hk, rfl, hown, hb⟩ := hrel
    obtain ⟨wo, rfl⟩ : ∃ wo : World, wo = wr := ⟨_, rfl⟩
    have hbs := hb.size
    obtain ⟨oa, oc, rfl⟩ := own_shape hown
    by_cases hlt : k < n
    · obtain ⟨x, hx⟩ : ∃ x, l[k]? = some x := ⟨_, List.getElem?_eq_getElem (by rw [← HN.out]; omega)⟩
      obtain ⟨b1, o1, i1, hb1, c1⟩ := it_at (HL.out.below hb) 23 34 Tryz.underlying23 (by kernel_rfl) hx (k : Int) rfl
      obtain ⟨c2, c3, c4, c5, c6⟩ := c1
      rw [← HN.out] at i1
      have hb1' : b1 < wo.heap.size := by omega
      have HF := Lib.hid (flat_snoc' hx)
      obtain ⟨p, kk, m, d, s⟩ := x
      simp only at c2 c3 c4 c5 c6
      have HO := Lib.hid hown
      have HB := Lib.hid hb
      clear hx hown hb
      have hk24 : (k + 1) * 64 ≤ 140737488355328 := by omega
      go_wp2_with (at_builtin; go_must ((refine append_sl2 rfl _ _ 40 rfl w.heap.size 71 Tryz.underlying40 infoI rfl (by decide) (v := .slice oa k oc) (n := k) (xs := (l.take k).flatMap itC) rfl ((HO.out.alloc _).alloc _) (m := 1) (news := itC ⟨p, kk, m, d, s⟩) rfl (sl_made_at _ #[.string p, .int .i64 kk, .int .i64 m, .string d, .string s] _ 1 5 rfl (by unfold maxLen; omega) (by simp)) (by omega) (its_one [⟨p, kk, m, d, s⟩]) hk24 (by unfold maxLen; omega) (by simp; omega) ?_); intro g1 cap1 w2 hown hgrow hlie hglt; have HB2 := Lib.hid (((HB.out.alloc hbs _).alloc (by simp; omega) _).grown hgrow (by simp; omega) fun p hp => (World.ownsRow.lt HO.out p hp).1); have HO2 := Lib.hid hown; clear hown hgrow hlie hglt))
      go_roundw
      case rel => exact ⟨k + 1, by omega, by go_num, by rw [HF.out]; exact HO2.out, HB2.out⟩
      case measure => simp [intOf]; omega
    · obtain rfl : k = n := by omega
      have e : l.take k = l := List.take_of_length_le (by rw [← HN.out]; omega)
      rw [e] at hown
      have HO := Lib.hid hown
      have HB := Lib.hid hb
      clear hown hb e
      go_wp2_with fail
      go_ret
      exact ⟨_, rfl, HO.out, HB.out⟩

/-- The names at the top. -/
def topsL (l : List It) : List ByteArray := (l.filter fun x => slB (L x.p)).map It.p
theorem tops_snoc {l : List It} {k : Nat} {x : It} (h : l[k]? = some x) : topsL (l.take (k + 1)) = if slB (L x.p) then topsL (l.take k) ++ [x.p] else topsL (l.take k) := by
  rw [topsL, take_snoc' h, List.filter_append, List.map_append]
  cases hb : slB (L x.p) <;> simp [hb, topsL]
theorem tops_len (l : List It) (k : Nat) : (topsL (l.take k)).length ≤ k := by
  rw [topsL, List.length_map]
  exact Nat.le_trans (List.length_filter_le _ _) (by rw [List.length_take]; omega)
theorem index47 (s : ByteArray) (w : World) : Calls Tryz.prog 73 #[.string s, .int .u8 47] w fun e w' => (∃ n : Int, e = .returned (.int .i64 n) ∧ decide (n < 0) = slB (L s)) ∧ w = w' := by
  refine (indexByte_any s 47 _ w rfl).mono ?_
  rintro e w' ⟨⟨n, rfl, hn⟩, rfl⟩
  refine ⟨⟨n, rfl, ?_⟩, rfl⟩
  have h4 : decide (n < 0) = !decide (0 ≤ n) := by rw [Bool.eq_iff_iff]; simp
  rw [h4, hn, slB, hasB]; rfl

/-- How many bytes an item's texts have; all. -/
def wt (x : It) : Nat := x.p.size + x.d.size + x.s.size
def wts (l : List It) : Nat := (l.map wt).sum
theorem wts_take {l : List It} {k : Nat} {x : It} (h : l[k]? = some x) : wts (l.take (k + 1)) = wts (l.take k) + wt x := by
  rw [wts, wts, take_snoc' h, List.map_append, List.sum_append]; simp
theorem wt_le {l : List It} {x : It} (h : x ∈ l) : wt x ≤ wts l := by
  obtain ⟨k, hk, e⟩ := List.getElem_of_mem h
  have h1 := wts_take (l := l) (k := k) (x := x) (by rw [List.getElem?_eq_getElem hk, e])
  have h2 := sum_take_le wt l (k + 1)
  unfold wts at h1 ⊢
  omega
def shortB (l : List It) : Bool := decide (wts l ≤ 20000) && decide (l.length ≤ 30)

set_option maxHeartbeats 1000000 in
theorem short_any (l : List It) (v : Value) (w : World) (hl : Tr w w.heap.size v l) (hz : ∀ x ∈ l, x.p.size ≤ 140737488355327 ∧ x.d.size ≤ 140737488355327 ∧ x.s.size ≤ 140737488355327) :
    Calls Tryz.prog 11 #[v, .int .i64 30, .int .i64 20000] w fun e w' => e = .returned (.bool (shortB l)) ∧ Below w.heap.size w w' := by
  obtain ⟨a, cap, rfl, hm⟩ := tr_shape hl
  obtain ⟨n, hn⟩ : ∃ n, n = l.length := ⟨_, rfl⟩
  rw [← hn] at hm
  have HL := Lib.hid hl
  have HN := Lib.hid hn
  have HZ := Lib.hid hz
  clear hl hz
  rw [← hn]
  clear hn
  go_enter Tryz.func11, Tryz.ntmps11
  go_wp2_with fail
  go_loopw [7, 12] (fun c i wr => ∃ k : Nat, k ≤ n ∧ i = .int .i64 k ∧ c = .int .i64 ((wts (l.take k) : Nat) : Int) ∧ wts (l.take k) ≤ 20000 ∧ Below w.heap.size w wr) (fun _ i _ => n - (intOf i).toNat)
  case atStart => exact ⟨0, Nat.zero_le _, rfl, rfl, by simp [wts], Below.refl _ _⟩
  case round =>
    obtain ⟨k, hk, rfl, rfl, h5, hb⟩ := hrel
    obtain ⟨wo, rfl⟩ : ∃ wo : World, wo = wr := ⟨_, rfl⟩
    have hbs := hb.size
    by_cases hlt : k < n
    · obtain ⟨x, hx⟩ : ∃ x, l[k]? = some x := ⟨_, List.getElem?_eq_getElem (by rw [← HN.out]; omega)⟩
      obtain ⟨b1, o1, i1, hb1, c1⟩ := it_at (HL.out.below hb) 23 34 Tryz.underlying23 (by kernel_rfl) hx (k : Int) rfl
      obtain ⟨c2, c3, c4, c5, c6⟩ := c1
      rw [← HN.out] at i1
      have hb1' : b1 < wo.heap.size := by omega
      have hsn := wts_take hx
      obtain ⟨z1, z2, z3⟩ := HZ.out x (List.mem_of_getElem? hx)
      have hle := sum_take_le wt l (k + 1)
      obtain ⟨X, hX⟩ : ∃ X, X = wts (l.take k) := ⟨_, rfl⟩
      rw [← hX] at h5 hsn ⊢
      obtain ⟨p, kk, m, d, s⟩ := x
      simp only [wt] at c2 c3 c4 c5 c6 hsn z1 z2 z3
      have HSN := Lib.hid hsn
      have HB := Lib.hid hb
      have HLE := Lib.hid hle
      clear hx hb hsn hX hle
      by_cases hbig : (20000 : Int) < (X : Int) + ((p.size : Int) + (d.size : Int) + (s.size : Int))
      · have HR : Hid (shortB l = false) := Lib.hid (by
          have h1 := HSN.out
          have h2 := HLE.out
          unfold wts at h1
          rw [shortB, decide_eq_false (by unfold wts; omega)]; rfl)
        go_wp2_with fail
        go_ret
        exact ⟨ret_bool HR.out.symm, HB.out.alloc hbs _⟩
      · go_wp2_with fail
        go_roundw
        case rel => exact ⟨k + 1, by omega, by go_num, by rw [HSN.out]; go_num, by rw [HSN.out]; omega, HB.out.alloc hbs _⟩
        case measure => simp [intOf]; omega
    · obtain rfl : k = n := by omega
      have e : l.take k = l := List.take_of_length_le (by rw [← HN.out]; omega)
      rw [e] at h5
      have HR : Hid (shortB l = decide ((k : Int) ≤ 30)) := Lib.hid (by
        rw [shortB, decide_eq_true h5, ← HN.out, Bool.true_and, decide_eq_decide]; omega)
      have HB := Lib.hid hb
      clear hb e
      go_wp2_with fail
      go_ret
      exact ⟨ret_bool HR.out.symm, HB.out⟩
end Go.Proofs.YtmlgmedapbeleaaGreatDoor
