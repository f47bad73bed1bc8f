/-
  Compile: the walk.
-/
import Derived.Test.YtiacoomeakodnaaG7
import Derived.Deep.Cut
namespace Go.Proofs.Ytiacoomeakodnaa
open Go.RowKit

attribute [go_sem] partC

theorem CInv.facts_grown {w wr w5 w1 : World} {v4 pv : Value} {sl : List Sg} {ps : List Pv} (h : CInv w wr v4 pv sl ps) (hb : Below wr.heap.size wr w5) (hg : w5.grownBy w1 pv.ownBlock) :
    w1.cell? ⟨w.heap.size + 1, 0, none⟩ = some pv ∧ w1.frozen? ⟨w.heap.size + 1, 0, none⟩ = false := by
  have h5 := h.next hb
  have h6 := h5.out.grown hg (own_ne h5.own (by omega))
  exact ⟨by rw [h6.cell 0]; rfl, h6.free 0⟩

theorem CInv.own_at {w wr w5 : World} {v4 pv : Value} {sl : List Sg} {ps : List Pv} (h : CInv w wr v4 pv sl ps) {m : Nat} (hm : m = ps.length) (hb : Below wr.heap.size wr w5) : w5.ownsRow (w.heap.size + 2) 49 4 pv m (ps.flatMap ptC) := by
  subst hm
  exact (h.next hb).own

theorem comp_len_aux : ∀ (n : Nat) (l : List Sg), l.length ≤ n → (comp l).length ≤ l.length
  | _, [], _ => by rw [comp_nil]; simp
  | 0, _ :: _, h => by simp at h
  | n + 1, c :: t, h => by
    simp at h
    cases h1 : (isb c 63 || isb c 42) with
    | true => rw [comp_sign h1]; have := comp_len_aux n t h; simp; omega
    | false =>
      cases h2 : isb c 91 with
      | false => rw [comp_byte h1 (by rw [h2]; simp)]; have := comp_len_aux n t h; simp; omega
      | true =>
        cases h3 : setP t with
        | none => rw [comp_byte h1 (fun _ => h3)]; have := comp_len_aux n t h; simp; omega
        | some x =>
          obtain ⟨p, m⟩ := x
          rw [comp_set h2 h3]
          have := comp_len_aux n (t.drop m) (by simp; omega)
          simp at this ⊢; omega

/-- What Compile returns: the pattern in its block. -/
theorem comp_results {w : World} {b : Nat} {tmps : Array Value} {pv : Value} (h2 : tmps[2]?.getD undef = .pointer (some ⟨b, 0, none⟩)) (h : Blk w b 26 #[pv]) :
    (results Try.f12 tmps).run Try.prog w = .ok (.agg #[pv]) w := by
  have q0 := h.cell 0
  simp at q0
  simp [results, Try.results12, go_sem, h2, q0]

theorem setP_of {t : List Sg} {R : Option (List Span × Nat)} (h : setS true (off0 t) [] (t.drop (off0 t)) = R) : setP t = R.map fun x => (⟨91, 0, notS t, x.1⟩, x.2) := by
  have e : (if notS t then t.drop 1 else t) = t.drop (off0 t) := by
    unfold off0
    cases notS t <;> rfl
  unfold setP
  rw [e]
  show (match setS true (off0 t) [] (t.drop (off0 t)) with
    | some (sp, k) => some (⟨91, 0, notS t, sp⟩, k)
    | none => none : Option (Pt × Nat)) = _
  rw [h]
  cases R <;> rfl

set_option maxHeartbeats 4000000 in
set_option maxRecDepth 100000 in
theorem comp_any (l : List Pc) (v : Value) (w : World) (hl : Sl w w.heap.size 2 v l.length (l.flatMap pcC)) (hn : (signsOf l).length ≤ 100000) :
    Calls Try.prog 12 #[v] w (CompPost (comp (signsOf l)) w) := by
  obtain ⟨sl, hsl⟩ : ∃ sl, sl = signsOf l := ⟨_, rfl⟩
  have CSg : Hid (∀ W, Below w.heap.size w W → Calls Try.prog 21 #[v] W (SignsPost sl W)) := Lib.hid fun W hW => by rw [hsl]; exact signs_any l v W ((hl.below hW).mono hW.size) hn
  rw [← hsl] at hn ⊢
  obtain ⟨R, hR⟩ : ∃ R, R = comp sl := ⟨_, rfl⟩
  rw [← hR]
  obtain ⟨n, hnl⟩ : ∃ n, n = sl.length := ⟨_, rfl⟩
  rw [← hnl] at hn
  have HR := Lib.hid hR
  have HN := Lib.hid hnl
  clear hl hsl hR hnl
  go_enter Try.func12, Try.ntmps12
  go_wp2_with fail
  refine wp_scope_again 0 (fun a' w' => ∃ (k : Nat) (ps : List Pv) (pv : Value) (a4 : Option Addr) (c4 : Nat), k ≤ n ∧ ps.length ≤ k ∧ (∃ u : Nat → Value, a' = { tmps := #[u 0, u 1, .pointer (some ⟨w.heap.size, 0, none⟩), .pointer (some ⟨w.heap.size + 1, 0, none⟩), .slice a4 n c4, .int .i64 (k : Nat), u 6, u 7, u 8, u 9, u 10, u 11, u 12, u 13, u 14, u 15, u 16, u 17, u 18, u 19, u 20, u 21, u 22, u 23, u 24, u 25, u 26, u 27, u 28, u 29, u 30, u 31, u 32, u 33, u 34, u 35, u 36, u 37, u 38, u 39, u 40, u 41, u 42, u 43, u 44, u 45, u 46, u 47, u 48, u 49, u 50, u 51, u 52, u 53, u 54, u 55, u 56], defers := [] }) ∧ CInv w w' (.slice a4 n c4) pv sl ps ∧ R = ps.map (·.1) ++ comp (sl.drop k))
    (fun a' _ => n - (intOf (a'.tmps.getD 5 undef)).toNat) rfl ?_ ?_
  · rintro a' wr ⟨k, ps, pv, a4, c4, hk, hps, ⟨u, rfl⟩, hinv, hr⟩
    obtain ⟨m, hm⟩ : ∃ m, m = ps.length := ⟨_, rfl⟩
    have hown := hinv.own
    rw [← hm] at hown hps
    obtain ⟨pa, pcap, rfl⟩ := own_shape hown
    have hz := hinv.size
    have hz0 : w.heap.size < wr.heap.size := by omega
    have hz1 : w.heap.size < wr.heap.size + 1 := by omega
    have hz2 : w.heap.size < wr.heap.size + 1 + 1 := by omega
    have hz3 : w.heap.size < wr.heap.size + 1 + 1 + 1 := by omega
    have hz4 : w.heap.size < wr.heap.size + 1 + 1 + 1 + 1 := by omega
    have r0 := hinv.res.cell 0
    have s0 := hinv.res.free 0
    have p0 := hinv.out.cell 0
    have q0 := hinv.out.free 0
    simp at r0 p0
    have HI := Lib.hid hinv
    have HRR := Lib.hid hr
    have HM := Lib.hid hm
    clear hinv hr hm hown
    by_cases hlt : k < n
    · obtain ⟨x, hx⟩ : ∃ x, sl[k]? = some x := ⟨_, List.getElem?_eq_getElem (by rw [← HN.out]; omega)⟩
      have hl1 := Sl.of_own HI.out.sgs
      obtain ⟨b1, o1, i1, hb1, c1, d1⟩ := sg_at hl1 hx (k : Int) rfl
      obtain ⟨v', j1, hcut⟩ := sgs_cut hl1 (k := k + 1) (by rw [← HN.out]; omega)
      rw [show (((k + 1 : Nat)) : Int) = (k : Int) + 1 by omega] at j1
      have hdr := drop_cons hx
      rw [hdr] at HRR
      have hb1' : b1 < wr.heap.size := hb1
      obtain ⟨q1, hq1⟩ : ∃ r, isb x 63 = r := ⟨_, rfl⟩
      obtain ⟨q2, hq2⟩ : ∃ r, isb x 42 = r := ⟨_, rfl⟩
      obtain ⟨q3, hq3⟩ : ∃ r, isb x 91 = r := ⟨_, rfl⟩
      have C1 := is_at x 63 q1 hq1 63 rfl
      have C2 := is_at x 42 q2 hq2 42 rfl
      have C3 := is_at x 91 q3 hq3 91 rfl
      obtain ⟨t, ht⟩ : ∃ t, t = sl.drop (k + 1) := ⟨_, rfl⟩
      rw [← ht] at hcut HRR
      have htl : t.length = n - (k + 1) := by rw [ht, List.length_drop, HN.out]
      obtain ⟨Rs, hRs⟩ : ∃ r, setS true (off0 t) [] (t.drop (off0 t)) = r := ⟨_, rfl⟩
      have CS : Hid (∀ W, Below wr.heap.size wr W → Calls Try.prog 23 #[v'] W (SetPost (notS t) Rs W)) := Lib.hid fun W hW => by
        rw [← hRs]; exact set_any t v' W ((hcut.below hW).mono hW.size) (by omega)
      have hsp := setP_of hRs
      have HT := Lib.hid ht
      have HSP := Lib.hid hsp
      clear hl1 hcut hdr hx ht htl hRs hsp
      cases q1 with
      | true =>
        have HR2 : Hid (R = (ps ++ [((⟨x.b, 0, false, []⟩ : Pt), Value.slice none 0 0)]).map (·.1) ++ comp (sl.drop (k + 1))) := Lib.hid (by rw [HRR.out, comp_sign (by rw [hq1]; rfl), ← HT.out]; simp)
        clear hq1 hq2 hq3 C2 C3 CS
        go_wp2_with (first | (go_at_call 22; with_reducible first | (refine (C1.out _).mono ?_; rintro e w' ⟨rfl, rfl⟩) | (refine (C2.out _).mono ?_; rintro e w' ⟨rfl, rfl⟩) | (refine (C3.out _).mono ?_; rintro e w' ⟨rfl, rfl⟩)) | (at_builtin; go_must (refine append_sl rfl _ _ 24 rfl (w.heap.size + 2) 49 Try.underlying24 infoPart rfl (by decide) (v := .slice pa m pcap) (n := m) (xs := ps.flatMap ptC) rfl (HI.out.own_at HM.out (by repeat (with_reducible first | exact Below.refl _ _ | refine Below.alloc ?_ (by first | omega | (simp; done) | (simp; omega)) _ | refine Below.setCell ?_ (by simp) _))) (m := 1) (news := ptC ((⟨x.b, 0, false, []⟩ : Pt), Value.slice none 0 0)) rfl (sl_made_at _ #[.int .u8 ((x.b.toNat : Nat) : Int), .int .u8 0, .bool false, .slice none 0 0] _ 1 4 rfl (by unfold maxLen; omega) (by simp)) (by omega) (pts_one ((⟨x.b, 0, false, []⟩ : Pt), Value.slice none 0 0) rfl) (by omega) (by simp; omega) ?_); intro g cap1 w2 hown hgrow hlie hglt; obtain ⟨g3, g4⟩ := HI.out.facts_grown (by repeat (with_reducible first | exact Below.refl _ _ | refine Below.alloc ?_ (by first | omega | (simp; done) | (simp; omega)) _ | refine Below.setCell ?_ (by simp) _)) hgrow; have HP := Lib.hid (HI.out.push (by repeat (with_reducible first | exact Below.refl _ _ | refine Below.alloc ?_ (by first | omega | (simp; done) | (simp; omega)) _ | refine Below.setCell ?_ (by simp) _)) ((⟨x.b, 0, false, []⟩ : Pt), Value.slice none 0 0) (World.ownsRow_nil _ _ _ _) HM.out hown hgrow hlie); clear hown hgrow hlie hglt))
        go_step3
        refine ⟨rfl, ⟨k + 1, ps ++ [((⟨x.b, 0, false, []⟩ : Pt), Value.slice none 0 0)], _, a4, c4, by omega, by rw [List.length_append, ← HM.out]; simp; omega, fr_intro rfl, HP.out, HR2.out⟩, ?_⟩
        simp [intOf]; omega
      | false =>
        cases q2 with
        | true =>
          have HR2 : Hid (R = (ps ++ [((⟨x.b, 0, false, []⟩ : Pt), Value.slice none 0 0)]).map (·.1) ++ comp (sl.drop (k + 1))) := Lib.hid (by rw [HRR.out, comp_sign (by rw [hq1, hq2]; rfl), ← HT.out]; simp)
          clear hq1 hq2 hq3 C3 CS
          go_wp2_with (first | (go_at_call 22; with_reducible first | (refine (C1.out _).mono ?_; rintro e w' ⟨rfl, rfl⟩) | (refine (C2.out _).mono ?_; rintro e w' ⟨rfl, rfl⟩) | (refine (C3.out _).mono ?_; rintro e w' ⟨rfl, rfl⟩)) | (at_builtin; go_must (refine append_sl rfl _ _ 24 rfl (w.heap.size + 2) 49 Try.underlying24 infoPart rfl (by decide) (v := .slice pa m pcap) (n := m) (xs := ps.flatMap ptC) rfl (HI.out.own_at HM.out (by repeat (with_reducible first | exact Below.refl _ _ | refine Below.alloc ?_ (by first | omega | (simp; done) | (simp; omega)) _ | refine Below.setCell ?_ (by simp) _))) (m := 1) (news := ptC ((⟨x.b, 0, false, []⟩ : Pt), Value.slice none 0 0)) rfl (sl_made_at _ #[.int .u8 ((x.b.toNat : Nat) : Int), .int .u8 0, .bool false, .slice none 0 0] _ 1 4 rfl (by unfold maxLen; omega) (by simp)) (by omega) (pts_one ((⟨x.b, 0, false, []⟩ : Pt), Value.slice none 0 0) rfl) (by omega) (by simp; omega) ?_); intro g cap1 w2 hown hgrow hlie hglt; obtain ⟨g3, g4⟩ := HI.out.facts_grown (by repeat (with_reducible first | exact Below.refl _ _ | refine Below.alloc ?_ (by first | omega | (simp; done) | (simp; omega)) _ | refine Below.setCell ?_ (by simp) _)) hgrow; have HP := Lib.hid (HI.out.push (by repeat (with_reducible first | exact Below.refl _ _ | refine Below.alloc ?_ (by first | omega | (simp; done) | (simp; omega)) _ | refine Below.setCell ?_ (by simp) _)) ((⟨x.b, 0, false, []⟩ : Pt), Value.slice none 0 0) (World.ownsRow_nil _ _ _ _) HM.out hown hgrow hlie); clear hown hgrow hlie hglt))
          go_step3
          refine ⟨rfl, ⟨k + 1, ps ++ [((⟨x.b, 0, false, []⟩ : Pt), Value.slice none 0 0)], _, a4, c4, by omega, by rw [List.length_append, ← HM.out]; simp; omega, fr_intro rfl, HP.out, HR2.out⟩, ?_⟩
          simp [intOf]; omega
        | false =>
          cases q3 with
          | false =>
            have HR2 : Hid (R = (ps ++ [((⟨98, x.b, false, []⟩ : Pt), Value.slice none 0 0)]).map (·.1) ++ comp (sl.drop (k + 1))) := Lib.hid (by rw [HRR.out, comp_byte (by rw [hq1, hq2]; rfl) (by rw [hq3]; simp), ← HT.out]; simp)
            clear hq1 hq2 hq3 CS
            go_wp2_with (first | (go_at_call 22; with_reducible first | (refine (C1.out _).mono ?_; rintro e w' ⟨rfl, rfl⟩) | (refine (C2.out _).mono ?_; rintro e w' ⟨rfl, rfl⟩) | (refine (C3.out _).mono ?_; rintro e w' ⟨rfl, rfl⟩)) | (at_builtin; go_must (refine append_sl rfl _ _ 24 rfl (w.heap.size + 2) 49 Try.underlying24 infoPart rfl (by decide) (v := .slice pa m pcap) (n := m) (xs := ps.flatMap ptC) rfl (HI.out.own_at HM.out (by repeat (with_reducible first | exact Below.refl _ _ | refine Below.alloc ?_ (by first | omega | (simp; done) | (simp; omega)) _ | refine Below.setCell ?_ (by simp) _))) (m := 1) (news := ptC ((⟨98, x.b, false, []⟩ : Pt), Value.slice none 0 0)) rfl (sl_made_at _ #[.int .u8 98, .int .u8 ((x.b.toNat : Nat) : Int), .bool false, .slice none 0 0] _ 1 4 rfl (by unfold maxLen; omega) (by simp)) (by omega) (pts_one ((⟨98, x.b, false, []⟩ : Pt), Value.slice none 0 0) rfl) (by omega) (by simp; omega) ?_); intro g cap1 w2 hown hgrow hlie hglt; obtain ⟨g3, g4⟩ := HI.out.facts_grown (by repeat (with_reducible first | exact Below.refl _ _ | refine Below.alloc ?_ (by first | omega | (simp; done) | (simp; omega)) _ | refine Below.setCell ?_ (by simp) _)) hgrow; have HP := Lib.hid (HI.out.push (by repeat (with_reducible first | exact Below.refl _ _ | refine Below.alloc ?_ (by first | omega | (simp; done) | (simp; omega)) _ | refine Below.setCell ?_ (by simp) _)) ((⟨98, x.b, false, []⟩ : Pt), Value.slice none 0 0) (World.ownsRow_nil _ _ _ _) HM.out hown hgrow hlie); clear hown hgrow hlie hglt))
            go_step3
            refine ⟨rfl, ⟨k + 1, ps ++ [((⟨98, x.b, false, []⟩ : Pt), Value.slice none 0 0)], _, a4, c4, by omega, by rw [List.length_append, ← HM.out]; simp; omega, fr_intro rfl, HP.out, HR2.out⟩, ?_⟩
            simp [intOf]; omega
          | true =>
            cases Rs with
            | none =>
              have HR2 : Hid (R = (ps ++ [((⟨98, x.b, false, []⟩ : Pt), Value.slice none 0 0)]).map (·.1) ++ comp (sl.drop (k + 1))) := Lib.hid (by rw [HRR.out, comp_byte (by rw [hq1, hq2]; rfl) (fun _ => HSP.out), ← HT.out]; simp)
              clear hq1 hq2 hq3
              go_wp2_with (go_at_call 22; with_reducible first | (refine (C1.out _).mono ?_; rintro e w' ⟨rfl, rfl⟩) | (refine (C2.out _).mono ?_; rintro e w' ⟨rfl, rfl⟩) | (refine (C3.out _).mono ?_; rintro e w' ⟨rfl, rfl⟩))
              refine (CS.out _ (Below.alloc (Below.alloc (Below.alloc (Below.alloc (Below.alloc (Below.refl _ _) (Nat.le_refl _) _) (by simp) _) (by simp; omega) _) (by simp; omega) _) (by simp; omega) _)).mono ?_
              rintro e w5 ⟨hb5, rfl⟩
              have hz5 := hb5.size
              simp at hz5
              have hz6 : w.heap.size + 1 < w5.heap.size := by omega
              have hz7 : wr.heap.size + 1 < w5.heap.size := by omega
              have hz8 : w.heap.size < w5.heap.size := by omega
              have hz9 : wr.heap.size < w5.heap.size := by omega
              have hB0 := Blk.new (wr.alloc (.cells #[.int .u8 ((x.b.toNat : Nat) : Int), .bool x.q] 54)) 49 #[.int .u8 98, .int .u8 ((x.b.toNat : Nat) : Int), .bool false, .slice none 0 0]
              rw [show (wr.alloc (.cells #[.int .u8 ((x.b.toNat : Nat) : Int), .bool x.q] 54)).heap.size = wr.heap.size + 1 by simp] at hB0
              have hB := (((hB0.alloc _).alloc _).alloc _).below hb5 (by simp)
              have z0 := hB.cell 0
              have z1 := hB.cell 1
              have z2 := hB.cell 2
              have z3 := hB.cell 3
              simp at z0 z1 z2 z3
              have y0 := hB.free 0
              have y1 := hB.free 1
              have y2 := hB.free 2
              have y3 := hB.free 3
              have HBX := Lib.hid hB
              clear hB0 hB
              have z4 := (hb5.cell (p := ⟨w.heap.size + 1, 0, none⟩) (by simp; omega)).trans ((Below.cell (p := ⟨w.heap.size + 1, 0, none⟩) (Below.alloc (Below.alloc (Below.alloc (Below.alloc (Below.alloc (Below.refl _ _) (Nat.le_refl _) _) (by simp) _) (by simp; omega) _) (by simp; omega) _) (by simp; omega) _) hz).trans p0)
              have HB5 := Lib.hid hb5
              clear hb5
              go_wp2_with (first | (go_at_call 22; with_reducible first | (refine (C1.out _).mono ?_; rintro e w' ⟨rfl, rfl⟩) | (refine (C2.out _).mono ?_; rintro e w' ⟨rfl, rfl⟩) | (refine (C3.out _).mono ?_; rintro e w' ⟨rfl, rfl⟩)) | (at_builtin; go_must (refine append_sl rfl _ _ 24 rfl (w.heap.size + 2) 49 Try.underlying24 infoPart rfl (by decide) (v := .slice pa m pcap) (n := m) (xs := ps.flatMap ptC) rfl (HI.out.own_at HM.out (by repeat (with_reducible first | exact Below.refl _ _ | refine Below.trans ?_ (HB5.out.mono (by simp; omega)) | refine Below.alloc ?_ (by first | omega | (simp; done) | (simp; omega)) _ | refine Below.setCell ?_ (by simp) _))) (m := 1) (news := ptC ((⟨98, x.b, false, []⟩ : Pt), Value.slice none 0 0)) rfl (sl_made_at _ #[.int .u8 98, .int .u8 ((x.b.toNat : Nat) : Int), .bool false, .slice none 0 0] _ 1 4 rfl (by unfold maxLen; omega) (by simp)) (by omega) (pts_one ((⟨98, x.b, false, []⟩ : Pt), Value.slice none 0 0) rfl) (by omega) (by simp; omega) ?_); intro g cap1 w2 hown hgrow hlie hglt; obtain ⟨g3, g4⟩ := HI.out.facts_grown (by repeat (with_reducible first | exact Below.refl _ _ | refine Below.trans ?_ (HB5.out.mono (by simp; omega)) | refine Below.alloc ?_ (by first | omega | (simp; done) | (simp; omega)) _ | refine Below.setCell ?_ (by simp) _)) hgrow; have HP := Lib.hid (HI.out.push (by repeat (with_reducible first | exact Below.refl _ _ | refine Below.trans ?_ (HB5.out.mono (by simp; omega)) | refine Below.alloc ?_ (by first | omega | (simp; done) | (simp; omega)) _ | refine Below.setCell ?_ (by simp) _)) ((⟨98, x.b, false, []⟩ : Pt), Value.slice none 0 0) (World.ownsRow_nil _ _ _ _) HM.out hown hgrow hlie); clear hown hgrow hlie hglt))
              go_step3
              refine ⟨rfl, ⟨k + 1, ps ++ [((⟨98, x.b, false, []⟩ : Pt), Value.slice none 0 0)], _, a4, c4, by omega, by rw [List.length_append, ← HM.out]; simp; omega, fr_intro rfl, HP.out, HR2.out⟩, ?_⟩
              simp [intOf]; omega
            | some sn =>
              obtain ⟨sp, mm⟩ := sn
              have hsl := setP_gt HSP.out
              have hkn : k + 1 + mm ≤ n := by
                have := hsl.2
                rw [HT.out, List.length_drop, ← HN.out] at this
                omega
              have HR2 : ∀ sv : Value, Hid (R = (ps ++ [((⟨91, 0, notS t, sp⟩ : Pt), sv)]).map (·.1) ++ comp (sl.drop (k + 1 + mm))) := fun sv => Lib.hid (by rw [HRR.out, comp_set hq3 HSP.out, HT.out, List.drop_drop]; simp)
              have HRa := Lib.hid HR2
              obtain ⟨ng, hng⟩ : ∃ ng, ng = notS t := ⟨_, rfl⟩
              rw [← hng] at CS HRa
              clear hq1 hq2 hq3 hsl HR2 HSP hng
              go_wp2_with (go_at_call 22; with_reducible first | (refine (C1.out _).mono ?_; rintro e w' ⟨rfl, rfl⟩) | (refine (C2.out _).mono ?_; rintro e w' ⟨rfl, rfl⟩) | (refine (C3.out _).mono ?_; rintro e w' ⟨rfl, rfl⟩))
              refine (CS.out _ (Below.alloc (Below.alloc (Below.alloc (Below.alloc (Below.alloc (Below.refl _ _) (Nat.le_refl _) _) (by simp) _) (by simp; omega) _) (by simp; omega) _) (by simp; omega) _)).mono ?_
              rintro e w5 ⟨hb5, sv, rfl, hos⟩
              have hz5 := hb5.size
              simp at hz5
              have hz6 : w.heap.size + 1 < w5.heap.size := by omega
              have hz7 : wr.heap.size + 1 < w5.heap.size := by omega
              have hz8 : w.heap.size < w5.heap.size := by omega
              have hz9 : wr.heap.size < w5.heap.size := by omega
              have hB0 := Blk.new (wr.alloc (.cells #[.int .u8 ((x.b.toNat : Nat) : Int), .bool x.q] 54)) 49 #[.int .u8 98, .int .u8 ((x.b.toNat : Nat) : Int), .bool false, .slice none 0 0]
              rw [show (wr.alloc (.cells #[.int .u8 ((x.b.toNat : Nat) : Int), .bool x.q] 54)).heap.size = wr.heap.size + 1 by simp] at hB0
              have hB := (((hB0.alloc _).alloc _).alloc _).below hb5 (by simp)
              have z0 := hB.cell 0
              have z1 := hB.cell 1
              have z2 := hB.cell 2
              have z3 := hB.cell 3
              simp at z0 z1 z2 z3
              have y0 := hB.free 0
              have y1 := hB.free 1
              have y2 := hB.free 2
              have y3 := hB.free 3
              have HBX := Lib.hid hB
              clear hB0 hB
              have z4 := (hb5.cell (p := ⟨w.heap.size + 1, 0, none⟩) (by simp; omega)).trans ((Below.cell (p := ⟨w.heap.size + 1, 0, none⟩) (Below.alloc (Below.alloc (Below.alloc (Below.alloc (Below.alloc (Below.refl _ _) (Nat.le_refl _) _) (by simp) _) (by simp; omega) _) (by simp; omega) _) (by simp; omega) _) hz).trans p0)
              have HB5 := Lib.hid hb5
              clear hb5
              obtain ⟨sa, scap, rfl⟩ := own_shape hos
              have HOS := Lib.hid hos
              have HR2 := HRa.out (.slice sa sp.length scap)
              clear hos
              go_upto_region 16 with (fail)
              obtain ⟨w6, hw6⟩ : ∃ w6, w6 = (((((w5.setCell ⟨wr.heap.size + 1, 0, none⟩ (.int .u8 91)).setCell ⟨wr.heap.size + 1, 1, none⟩ (.int .u8 0)).setCell ⟨wr.heap.size + 1, 2, none⟩ (.bool ng)).setCell ⟨wr.heap.size + 1, 3, none⟩ (.slice sa sp.length scap)).alloc (.cells #[.int .u8 91, .int .u8 0, .bool ng, .slice sa sp.length scap] 49)) := ⟨_, rfl⟩
              rw [← hw6]
              have HB6 : Hid (Below wr.heap.size wr w6) := Lib.hid (by
                rw [hw6]
                exact Below.alloc ((((((Below.alloc (Below.alloc (Below.alloc (Below.alloc (Below.alloc (Below.refl _ _) (Nat.le_refl _) _) (by simp) _) (by simp; omega) _) (by simp; omega) _) (by simp; omega) _).trans (HB5.out.mono (by simp; omega))).setCell (by simp) _).setCell (by simp) _).setCell (by simp) _).setCell (by simp) _) (by simp; omega) _)
              have HO6 : Hid (w6.ownsRow wr.heap.size 62 2 (.slice sa sp.length scap) sp.length (sp.flatMap spanC)) := Lib.hid (by
                rw [hw6]
                exact own_from ((own_far (own_far (own_far (own_far HOS.out (by simp) _) (by simp) _) (by simp) _) (by simp) _).alloc _) (by simp; omega))
              have hb6 := ((((HBX.out.put 0 (.int .u8 91)).put 1 (.int .u8 0)).put 2 (.bool ng)).put 3 (.slice sa sp.length scap)).alloc (.cells #[.int .u8 91, .int .u8 0, .bool ng, .slice sa sp.length scap] 49)
              rw [← hw6] at hb6
              have hsz6 : w5.heap.size < w6.heap.size := by rw [hw6]; simp
              clear z0 z1 z2 z3 z4 y0 y1 y2 y3 HB5 HOS HBX
              have z0 := hb6.cell 0
              have z1 := hb6.cell 1
              have z2 := hb6.cell 2
              have z3 := hb6.cell 3
              simp at z0 z1 z2 z3
              have z4 := ((HB6.out.cell (p := ⟨w.heap.size + 1, 0, none⟩) hz).trans p0)
              have hz60 : w.heap.size < w6.heap.size := by omega
              have hz61 : w.heap.size + 1 < w6.heap.size := by omega
              have hz62 : wr.heap.size < w6.heap.size := by omega
              have hz63 : wr.heap.size + 1 < w6.heap.size := by omega
              clear hw6 hb6 hsz6 hz5 hz6 hz7 hz8 hz9
              go_wp2_with (first | (go_at_call 22; with_reducible first | (refine (C1.out _).mono ?_; rintro e w' ⟨rfl, rfl⟩) | (refine (C2.out _).mono ?_; rintro e w' ⟨rfl, rfl⟩) | (refine (C3.out _).mono ?_; rintro e w' ⟨rfl, rfl⟩)) | (at_builtin; go_must (refine append_sl rfl _ _ 24 rfl (w.heap.size + 2) 49 Try.underlying24 infoPart rfl (by decide) (v := .slice pa m pcap) (n := m) (xs := ps.flatMap ptC) rfl (HI.out.own_at HM.out (by repeat (with_reducible first | exact Below.refl _ _ | refine Below.trans ?_ HB6.out | refine Below.alloc ?_ (by first | omega | (simp; done) | (simp; omega)) _ | refine Below.setCell ?_ (by simp) _))) (m := 1) (news := ptC ((⟨91, 0, ng, sp⟩ : Pt), Value.slice sa sp.length scap)) rfl (sl_made_at _ #[.int .u8 91, .int .u8 0, .bool ng, .slice sa sp.length scap] _ 1 4 rfl (by unfold maxLen; omega) (by simp)) (by omega) (pts_one ((⟨91, 0, ng, sp⟩ : Pt), Value.slice sa sp.length scap) rfl) (by omega) (by simp; omega) ?_); intro g cap1 w2 hown hgrow hlie hglt; obtain ⟨g3, g4⟩ := HI.out.facts_grown (by repeat (with_reducible first | exact Below.refl _ _ | refine Below.trans ?_ HB6.out | refine Below.alloc ?_ (by first | omega | (simp; done) | (simp; omega)) _ | refine Below.setCell ?_ (by simp) _)) hgrow; have HP := Lib.hid (HI.out.push (by repeat (with_reducible first | exact Below.refl _ _ | refine Below.trans ?_ HB6.out | refine Below.alloc ?_ (by first | omega | (simp; done) | (simp; omega)) _ | refine Below.setCell ?_ (by simp) _)) ((⟨91, 0, ng, sp⟩ : Pt), Value.slice sa sp.length scap) (HO6.out.alloc _) HM.out hown hgrow hlie); clear hown hgrow hlie hglt))
              go_step3
              refine ⟨rfl, ⟨k + 1 + mm, ps ++ [((⟨91, 0, ng, sp⟩ : Pt), Value.slice sa sp.length scap)], _, a4, c4, by omega, by rw [List.length_append, ← HM.out]; simp; omega, fr_intro rfl, HP.out, HR2.out⟩, ?_⟩
              simp [intOf]; omega
    · obtain rfl : k = n := by omega
      have hR : R = ps.map (·.1) := by rw [HRR.out, List.drop_of_length_le (by rw [← HN.out]; omega), comp_nil, List.append_nil]
      subst hR
      go_wp2_with fail
      try simp only [Exit.jump]
      have hfin := HI.out.res.put 0 (.slice pa m pcap)
      refine bodyPost_ret (comp_results rfl hfin) rfl ⟨?_, _, rfl, ?_⟩
      · exact HI.out.bel.setCell (p := ⟨w.heap.size, 0, none⟩) (Nat.le_refl _) _
      · exact HI.out.pat (.slice pa m pcap)
  · intro hR
    go_wp2_with (go_at_call 21; refine (CSg.out _ (Below.alloc (Below.alloc (Below.refl _ _) (Nat.le_refl _) _) (by simp) _)).mono ?_; rintro e w1 ⟨hb, v4, rfl, hown⟩)
    rw [show ((w.alloc (.cells #[.slice none 0 0] 26)).alloc (.cells #[.slice none 0 0] 26)).heap.size = w.heap.size + 2 by simp] at hb hown
    rw [← HN.out] at hown
    obtain ⟨a4, c4, rfl⟩ := own_shape hown
    have HI0 := CInv.start w w1 HN.out hb hown
    clear hb hown CSg
    go_step3
    go_step
    go_step
    exact hR.out _ _ ⟨0, [], _, a4, c4, Nat.zero_le _, Nat.le_refl _, fr_intro rfl, HI0, by rw [HR.out]; rfl⟩
end Go.Proofs.Ytiacoomeakodnaa
