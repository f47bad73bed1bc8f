/-
  put: the walk.
-/
import Derived.Test.YtlehofcgkmhgaaaF2
namespace Go.Proofs.Ytlehofcgkmhgaaa
open Go.RowKit

theorem last_cells (m : List Pc) (p : Pc) : ((m ++ [p]).flatMap pcC)[m.length * 2]? = some (.string p.t) ∧ ((m ++ [p]).flatMap pcC)[m.length * 2 + 1]? = some (.bool p.q) := by
  have hx : (m ++ [p])[m.length]? = some p := by simp
  have h0 := flat_get pcC 2 pcC_len (m ++ [p]) m.length p hx 0 (by omega)
  have h1 := flat_get pcC 2 pcC_len (m ++ [p]) m.length p hx 1 (by omega)
  exact ⟨h0, h1⟩

set_option maxHeartbeats 1000000 in
theorem put_any (s : St) (t : ByteArray) (q : Bool) (g : Nat) (wh ot : ByteArray) (w : World) (h : SpAt w g wh ot s) (hn : s.now.length ≤ 1000000) (hcat : ∀ p ∈ s.now, p.t.size + t.size ≤ 9223372036854775807) :
    Calls Try.prog 16 #[.pointer (some ⟨g, 0, none⟩), .string t, .bool q] w fun e w' => e = .returned (.tuple #[]) ∧ SpAt w' g wh ot (putS s t q) ∧ Below g w w' := by
  obtain ⟨vo, vn, fv, hsp, hout⟩ := h
  have hg := hsp.blk.lt
  have hsp2 := (hsp.set (i := 5) (u := .bool false) (due' := false) rfl rfl rfl).set (i := 4) (u := .bool true) (op' := true) rfl rfl rfl
  obtain ⟨⟨c0, c1, c2, c3, c4, c5⟩, f2, f3, f4, f5⟩ := hsp.cells
  obtain ⟨out, now, op, due⟩ := s
  simp only at hsp hsp2 hout hn hcat c0 c1 c2 c3 c4 c5
  have HO := Lib.hid hout
  have HS2 := Lib.hid hsp2
  have HB0 : Hid (Below g w ((w.setCell ⟨g, 5, none⟩ (.bool false)).setCell ⟨g, 4, none⟩ (.bool true))) := Lib.hid (((Below.refl g w).setCell (Nat.le_refl _) _).setCell (Nat.le_refl _) _)
  have HG2 := Lib.hid hsp2.blk.lt
  clear hout hsp2
  rcases snoc_or now with rfl | ⟨m, p, rfl⟩
  · obtain ⟨a, cap, rfl⟩ := own_shape hsp.own
    have hlo : ∀ k, (Value.slice a 0 cap).ownBlock = some k → g + 1 ≤ k := fun k hk => (World.ownsRow.lt hsp.own k hk).1
    rw [List.length_nil] at c3 HS2
    clear hn hsp hcat
    go_enter Try.func16, Try.ntmps16
    go_wp2_with (at_builtin; go_must ((refine append_sl rfl _ _ 30 rfl (g + 1) 45 Try.underlying30 infoPc rfl (by decide) (v := .slice a 0 cap) (n := 0) (xs := []) rfl (HS2.out.own.alloc _) (m := 1) (news := [.string t, .bool q]) rfl (sl_made_at _ #[.string t, .bool q] _ 1 2 rfl (by unfold maxLen; omega) (by simp)) (by omega) (pcs_one [⟨t, q⟩]) (by omega) (by first | (simp; omega) | omega | (trace_state; fail "A")) ?_); intro g1 cap1 w2 hown hgrow hlie hglt; have HP := Lib.hid (Sp.turn (now' := putN [] t q) (vn' := .slice (some ⟨g1, 0, none⟩) (0 + 1) cap1) (HS2.out.below (Below.alloc (Below.refl _ _) (Nat.le_refl _) _)) (by rw [putN_nil]; exact hown) hgrow (hlie.imp (fun e => e.symm) (fun e => congrArg some e))); obtain ⟨hb2, hcc, hff⟩ := grown_stays HB0.out HG2.out hgrow hlo; have HB := Lib.hid (hb2.setCell (p := ⟨g, 3, none⟩) (Nat.le_refl _) (.slice (some ⟨g1, 0, none⟩) (0 + 1) cap1)); have k3 := (hcc 3).trans HS2.out.cells.1.2.2.2.1; have y3 := (hff 3).trans HS2.out.cells.2.2.1; clear hb2 hcc hff hown hgrow hlie hglt))
    refine bodyPost_end (v := .tuple #[]) (by simp [results, Try.results16, go_sem]) rfl ⟨rfl, ⟨vo, _, fv, HP.out, HO.out⟩, HB.out⟩
  · obtain ⟨pt, pq⟩ := p
    replace hcat : pt.size + t.size ≤ 9223372036854775807 := hcat ⟨pt, pq⟩ (by simp)
    obtain ⟨n, hnm⟩ : ∃ n, n = m.length := ⟨_, rfl⟩
    have hlen : (m ++ [(⟨pt, pq⟩ : Pc)]).length = n + 1 := by simp [hnm]
    obtain ⟨d0, d1⟩ := last_cells m ⟨pt, pq⟩
    have hown := hsp.own
    rw [hlen] at hown hn
    rw [← hnm] at d0 d1
    obtain ⟨gb, cap, rfl, hgb, hgw, i0, hce⟩ := own_at (P := Try.prog) hown 30 Try.underlying30 (by kernel_rfl) (k := n) (by omega) (n : Int) rfl
    have e0 := (hce (n * 2) (by omega)).1.trans d0
    have e1 := (hce (n * 2 + 1) (by omega)).1.trans d1
    have q0 := (hce (n * 2) (by omega)).2
    have hgb' : g < gb := hgb
    have HLEN := Lib.hid hlen
    have HNM := Lib.hid hnm
    clear hown hce d0 d1 hgb hnm
    by_cases hq : pq = q
    · subst hq
      clear hsp hlen
      go_enter Try.func16, Try.ntmps16
      go_wp2
      have hown2 := HS2.out.own
      rw [HLEN.out] at hown2
      obtain ⟨h1, h2⟩ := World.ownsRow.stored hown2 (n * 2) (.string (pt ++ t))
      refine bodyPost_ret (v := .tuple #[]) ?_ rfl ?_
      · simp [results, Try.results16, go_sem]
      refine ⟨rfl, ⟨vo, _, fv, HS2.out.stay (now' := putN (m ++ [⟨pt, pq⟩]) t pq) ?_ h2, HO.out⟩, HB0.out.setCell (by simp; omega) _⟩
      rw [putN_same m ⟨pt, pq⟩ t pq rfl]
      have e2 : (m ++ [(⟨pt ++ t, pq⟩ : Pc)]).length = n + 1 := by simp [HNM.out]
      rw [e2, ← flat_set m ⟨pt, pq⟩ (pt ++ t), ← HNM.out]
      exact h1
    · have hlo : ∀ k, (Value.slice (some ⟨gb, 0, none⟩) (n + 1) cap).ownBlock = some k → g + 1 ≤ k := fun k hk => (World.ownsRow.lt hsp.own k hk).1
      have hqq : q = !pq := by cases q <;> cases pq <;> simp_all
      subst hqq
      have hpo := putN_other m ⟨pt, pq⟩ t (!pq) (by cases pq <;> simp)
      have HPO : Hid ((putN (m ++ [⟨pt, pq⟩]) t (!pq)).length = n + 1 + 1 ∧ (putN (m ++ [⟨pt, pq⟩]) t (!pq)).flatMap pcC = (m ++ [(⟨pt, pq⟩ : Pc)]).flatMap pcC ++ [.string t, .bool (!pq)]) := Lib.hid (by
        rw [hpo, List.length_append, hlen, List.flatMap_append]
        exact ⟨rfl, rfl⟩)
      have HOWN : Hid (((w.setCell ⟨g, 5, none⟩ (.bool false)).setCell ⟨g, 4, none⟩ (.bool true)).ownsRow (g + 1) 45 2 (.slice (some ⟨gb, 0, none⟩) (n + 1) cap) (n + 1) ((m ++ [(⟨pt, pq⟩ : Pc)]).flatMap pcC)) := Lib.hid (by have := HS2.out.own; rw [hlen] at this; exact this)
      clear hsp hlen hpo hq
      cases pq with
      | false =>
        simp only [Bool.not_false] at HPO ⊢
        go_enter Try.func16, Try.ntmps16
        go_wp2_with (at_builtin; go_must ((refine append_sl rfl _ _ 30 rfl (g + 1) 45 Try.underlying30 infoPc rfl (by decide) (v := .slice (some ⟨gb, 0, none⟩) (n + 1) cap) (n := (n + 1)) (xs := (m ++ [(⟨pt, false⟩ : Pc)]).flatMap pcC) rfl (HOWN.out.alloc _) (m := 1) (news := [.string t, .bool true]) rfl (sl_made_at _ #[.string t, .bool true] _ 1 2 rfl (by unfold maxLen; omega) (by simp)) (by omega) (pcs_one [⟨t, true⟩]) (by omega) (by first | (simp; omega) | omega | (trace_state; fail "A")) ?_); intro g1 cap1 w2 hown hgrow hlie hglt; have HP := Lib.hid (Sp.turn (now' := putN (m ++ [(⟨pt, false⟩ : Pc)]) t true) (vn' := .slice (some ⟨g1, 0, none⟩) ((n + 1) + 1) cap1) (HS2.out.below (Below.alloc (Below.refl _ _) (Nat.le_refl _) _)) (by rw [HPO.out.1, HPO.out.2]; exact hown) hgrow (hlie.imp (fun e => e.symm) (fun e => congrArg some e))); obtain ⟨hb2, hcc, hff⟩ := grown_stays HB0.out HG2.out hgrow hlo; have HB := Lib.hid (hb2.setCell (p := ⟨g, 3, none⟩) (Nat.le_refl _) (.slice (some ⟨g1, 0, none⟩) ((n + 1) + 1) cap1)); have k3 := (hcc 3).trans HS2.out.cells.1.2.2.2.1; have y3 := (hff 3).trans HS2.out.cells.2.2.1; clear hb2 hcc hff hown hgrow hlie hglt))
        refine bodyPost_end (v := .tuple #[]) (by simp [results, Try.results16, go_sem]) rfl ⟨rfl, ⟨vo, _, fv, HP.out, HO.out⟩, HB.out⟩
      | true =>
        simp only [Bool.not_true] at HPO ⊢
        go_enter Try.func16, Try.ntmps16
        go_wp2_with (at_builtin; go_must ((refine append_sl rfl _ _ 30 rfl (g + 1) 45 Try.underlying30 infoPc rfl (by decide) (v := .slice (some ⟨gb, 0, none⟩) (n + 1) cap) (n := (n + 1)) (xs := (m ++ [(⟨pt, true⟩ : Pc)]).flatMap pcC) rfl (HOWN.out.alloc _) (m := 1) (news := [.string t, .bool false]) rfl (sl_made_at _ #[.string t, .bool false] _ 1 2 rfl (by unfold maxLen; omega) (by simp)) (by omega) (pcs_one [⟨t, false⟩]) (by omega) (by first | (simp; omega) | omega | (trace_state; fail "A")) ?_); intro g1 cap1 w2 hown hgrow hlie hglt; have HP := Lib.hid (Sp.turn (now' := putN (m ++ [(⟨pt, true⟩ : Pc)]) t false) (vn' := .slice (some ⟨g1, 0, none⟩) ((n + 1) + 1) cap1) (HS2.out.below (Below.alloc (Below.refl _ _) (Nat.le_refl _) _)) (by rw [HPO.out.1, HPO.out.2]; exact hown) hgrow (hlie.imp (fun e => e.symm) (fun e => congrArg some e))); obtain ⟨hb2, hcc, hff⟩ := grown_stays HB0.out HG2.out hgrow hlo; have HB := Lib.hid (hb2.setCell (p := ⟨g, 3, none⟩) (Nat.le_refl _) (.slice (some ⟨g1, 0, none⟩) ((n + 1) + 1) cap1)); have k3 := (hcc 3).trans HS2.out.cells.1.2.2.2.1; have y3 := (hff 3).trans HS2.out.cells.2.2.1; clear hb2 hcc hff hown hgrow hlie hglt))
        refine bodyPost_end (v := .tuple #[]) (by simp [results, Try.results16, go_sem]) rfl ⟨rfl, ⟨vo, _, fv, HP.out, HO.out⟩, HB.out⟩
end Go.Proofs.Ytlehofcgkmhgaaa
