/-
  The walk of the writer's redirs.
-/
import Derived.Test.YtnackmnoldkihaaGreatDoorQB8
import Derived.Lib.SplitLaws
import Derived.Lib.Replace
import Derived.Defers
import Derived.Test.YtnackmnoldkihaaGreatDoorQB3
import Derived.Deep.RegionLaw
set_option linter.unusedVariables false
set_option linter.unusedSimpArgs false
/-
  The walk of the writer's part.
-/
namespace Go.Proofs.YtnackmnoldkihaaGreatDoor
open Go.RowKit

theorem replaceK_flat (c : UInt8) (new : List UInt8) : ∀ s : List UInt8, Lib.replaceK [c] new (Lib.count s [c]) s = s.flatMap fun x => if x = c then new else [x]
  | [] => by
    have : Lib.count [] [c] = 0 := Lib.count_miss (by simp [Lib.index])
    rw [this]; rfl
  | b :: l => by
    have ih := replaceK_flat c new l
    rw [List.flatMap_cons]
    by_cases h : b = c
    · subst h
      have hi : Lib.index (b :: l) [b] = ((0 : Nat) : Int) := by rw [Lib.index]; simp
      rw [Lib.count_cons_eq, Nat.add_comm, Lib.replaceK_hit _ _ _ _ 0 hi, if_pos rfl, ← ih]
      simp
    · rw [Lib.count_cons_ne _ _ _ h, if_neg h]
      cases hk : Lib.count l [c] with
      | zero =>
        rw [hk] at ih
        rw [← ih]; rfl
      | succ m =>
        obtain ⟨i, hi⟩ := Lib.index_of_count (s := l) (old := [c]) (by omega)
        have hi2 : Lib.index (b :: l) [c] = ((i + 1 : Nat) : Int) := by
          rw [Lib.index, if_neg (by simpa using fun e => h e.symm), hi, if_neg (by simp)]; omega
        rw [hk] at ih
        rw [← ih, Lib.replaceK_hit _ _ _ _ (i + 1) hi2, Lib.replaceK_hit _ _ _ _ i hi]
        simp
theorem quo_len (l : List UInt8) : (quoL l).length ≤ 4 * l.length + 2 := by
  have : ∀ l : List UInt8, (l.flatMap fun c => if c = 39 then [39, 92, 39, 39] else [c]).length ≤ 4 * l.length := by
    intro l
    induction l with
    | nil => exact Nat.le_refl _
    | cons c l ih =>
      have e : (if c = 39 then ([39, 92, 39, 39] : List UInt8) else [c]).length ≤ 4 := by split <;> simp
      rw [List.flatMap_cons, List.length_append, List.length_cons]; omega
  have := this l
  rw [quoL, List.length_cons, List.length_append]
  simp only [List.length_cons, List.length_nil]; omega
theorem replace_quo (l : List UInt8) : (39 :: (Lib.replaceAll l [39] [39, 92, 39, 39] ++ [39]) : List UInt8) = quoL l := by
  have : Lib.replaceAll l [39] [39, 92, 39, 39] = Lib.replaceK [39] [39, 92, 39, 39] (Lib.count l [39]) l := by
    rw [Lib.replaceAll, Lib.replace, if_neg (by decide), Lib.replaceNum, if_pos (by omega)]
  rw [this, replaceK_flat, quoL]

/-- The here-documents that had come are laid back. -/
theorem Fr.back {W V : World} {B b : Nat} {dv dv3 : Value} (h : Fr W V B b dv dv3) (hB : B ≤ b) : Fr W (V.setCell ⟨b, 2, none⟩ dv) B b dv dv :=
  ⟨h.low.setCell (p := ⟨b, 2, none⟩) hB _, fun k o ho hb hd hu => (Below.heap_setCell V ⟨b, 2, none⟩ dv k hb).trans (h.kept k o ho hb hd hu), fun _ h => .inl h⟩
theorem Wr.back {U V : World} {B b : Nat} {dv dv3 : Value} {o out3 : List UInt8} {ds ds3 : List DocV} (hU : Wr U B b dv o ds) (hf : Fr (U.setCell ⟨b, 2, none⟩ (.slice none 0 0)) V B b (.slice none 0 0) dv3) (hV : Wr V B b dv3 out3 ds3) (hle : o.length ≤ out3.length) : Wr (V.setCell ⟨b, 2, none⟩ dv) B b dv out3 ds := by
  refine hV.set ?_ (fun r hr => ?_) (Nat.le_trans hU.2.2.2.2 hle)
  · refine ⟨hU.2.2.1.1, ?_⟩
    rcases hU.2.2.1.2 with h | ⟨g, cap, cur, hv, hB, hg, rest⟩
    · exact .inl h
    · refine .inr ⟨g, cap, cur, hv, hB, hf.kept g _ ?_ ?_ (by simp [Value.ownBlock]) (fun c fz e => by injection e with _ e2 _; exact absurd e2 (by decide)), rest⟩
      · rw [Below.heap_setCell _ _ _ _ (fun e => hU.ne (by rw [hv, e]; rfl))]; exact hg
      · intro e; exact hU.ne (by rw [hv, e]; rfl)
  · obtain ⟨d, hd⟩ := hU.2.2.2.1 r hr
    exact ⟨d, hd.keep fun _ _ _ _ hs => hs.below (((Below.refl B U).setCell (p := ⟨b, 2, none⟩) hU.1 _).trans hf.low)⟩

set_option maxHeartbeats 4000000 in
set_option maxRecDepth 100000 in
theorem wpart_any (d : Nat) (ww : St → List Pt → St) (wl : St → List Nd → St) (fw : List Pt → Bool) (fl : List Nd → Bool) (hgw : Grow2 ww) (hgl : Grow2 wl) (hw : WordW d ww fw) (hl : ListW d wl fl) : PartW d (partS ww wl) (partF fw fl) := by
  intro W B b dv out ds p c hH h hc hf hlen
  have HC := Lib.hid hc
  obtain ⟨da, dc, hdv⟩ := h.shape
  subst hdv
  obtain ⟨a1, c1, a2, c2, rfl, ⟨h1, h2⟩, ⟨hlw, hlb⟩, _, hbd⟩ := hc.open
  rw [partF, Bool.and_eq_true] at hf
  have HH := Lib.hid hH
  have HWL := Lib.hid hl
  have HWW := Lib.hid hw
  have HGW := Lib.hid hgw
  have HGL := Lib.hid hgl
  have HW := Lib.hid h
  have HBD := Lib.hid hbd
  have HF := Lib.hid hf
  obtain ⟨r, hr⟩ : ∃ r, partS ww wl (stOf out ds) p = r := ⟨_, rfl⟩
  rw [hr] at hlen ⊢
  rw [partS] at hr
  have HR := Lib.hid hr
  have HLEN := Lib.hid hlen
  have hW0 : W.heap.size ≠ 0 := by have := HH.out.2; have := HW.out.le; omega
  obtain ⟨⟨cm, hcm⟩, hB0⟩ := HH.out
  obtain ⟨cdW, fdW⟩ := HW.out.docs
  have hbW := HW.out.lt
  clear hH h hw hl hf hr hlen hc hbd hgw hgl
  cases hk1 : (p.kind == 1) with
  | true =>
    cases hq : p.quoted with
    | true =>
      have HE : Hid (r = putS (stOf out ds) (quoL (L p.text))) := Lib.hid (by rw [← HR.out, hk1, hq]; rfl)
      have hrl : (Lib.replaceAll (L p.text) [39] [39, 92, 39, 39]).length + 2 = (quoL (L p.text)).length := by rw [← replace_quo]; simp
      have HZ : Hid (out.length + (quoL (L p.text)).length ≤ lim) := Lib.hid (by have := HLEN.out; rw [HE.out, putS] at this; simpa [stOf] using this)
      have hcl := Lib.countB_le ⟨#[39]⟩ (by decide) p.text.size p.text (Nat.le_refl _)
      have hfl := quo_len (L p.text)
      rw [L_size] at hfl
      obtain ⟨q, hqd⟩ : ∃ q, q = S (Lib.replaceAll (L p.text) [39] [39, 92, 39, 39]) := ⟨_, rfl⟩
      have hqz : q.size + 2 = (quoL (L p.text)).length := by rw [hqd, S_size]; exact hrl
      have HQ : Hid (39 :: (L q ++ [39]) = quoL (L p.text)) := Lib.hid (by rw [hqd, L_S]; exact replace_quo _)
      have CR : Hid (∀ X, Below W.heap.size W X → Calls Tryz.prog 121 #[.string p.text, .string ⟨#[39]⟩, .string ⟨#[39, 92, 39, 39]⟩] X fun e w' => e = .returned (.string q) ∧ Below X.heap.size X w') := Lib.hid fun X hX => by
        rw [hqd]
        exact Tryz.strings_ReplaceAll p.text ⟨#[39]⟩ ⟨#[39, 92, 39, 39]⟩ cm X (by omega) ((hX.cell (p := ⟨0, 0, none⟩) (show 0 < W.heap.size by omega)).trans hcm) (by decide) (by
          have e : ByteArray.size ⟨#[39, 92, 39, 39]⟩ = 4 := rfl
          rw [e]; omega)
      have hqz2 : q.size ≤ 8388608 := by omega
      have k1 : ∀ V : World, (Op.stringOp .add ⟨#[39]⟩ q).run Tryz.prog V = .ok (.string (⟨#[39]⟩ ++ q)) V := fun V => run_string_add_sum V _ _ (by simp; omega)
      have k2 : ∀ V : World, (Op.stringOp .add (⟨#[39]⟩ ++ q) ⟨#[39]⟩).run Tryz.prog V = .ok (.string (⟨#[39]⟩ ++ q ++ ⟨#[39]⟩)) V := fun V => run_string_add_sum V _ _ (by simp; omega)
      clear hrl hcl hfl hqd
      go_enter_defers Tryz.func113, Tryz.ntmps113
      go_wp2_with fail
      obtain ⟨V, hV⟩ : ∃ V, V = W.alloc (.cells #[.int .i64 p.kind, .bool true, .string p.text, .string p.op, .slice a1 p.word.length c1, .slice a2 p.body.length c2] 44) := ⟨_, rfl⟩
      have HBV : Hid (Below W.heap.size W V) := Lib.hid (by rw [hV]; exact (Below.refl _ _).alloc (Nat.le_refl _) _)
      have HVB : Hid (Blk V W.heap.size 44 #[.int .i64 p.kind, .bool true, .string p.text, .string p.op, .slice a1 p.word.length c1, .slice a2 p.body.length c2]) := Lib.hid (by rw [hV]; exact Blk.new _ _ _)
      have hgV : W.heap.size < V.heap.size := by rw [hV]; simp
      rw [← hV]
      clear hV
      have HWV := Lib.hid (HW.out.below HBV.out)
      have hgb : W.heap.size ≠ b := by have := HW.out.lt; omega
      have HGD : Hid (Value.ownBlock (.slice da ds.length dc) ≠ some W.heap.size) := Lib.hid fun e => by have := HW.out.far _ e; omega
      have HBW : Hid (Below B W V) := Lib.hid (HBV.out.mono HW.out.le)
      have HFV : Hid (Fr W V B b (.slice da ds.length dc) (.slice da ds.length dc)) := Lib.hid (Fr.of_below HBV.out HW.out.le)
      have x0 := HVB.out.cell 0
      have x1 := HVB.out.cell 1
      have x2 := HVB.out.cell 2
      have x3 := HVB.out.cell 3
      have x4 := HVB.out.cell 4
      have x5 := HVB.out.cell 5
      have xl := HVB.out.lt
      simp at x0 x1 x2 x3 x4 x5
      have CR2 : Hid (∀ X, Below V.heap.size V X → Calls Tryz.prog 121 #[.string p.text, .string ⟨#[39]⟩, .string ⟨#[39, 92, 39, 39]⟩] X fun e w' => e = .returned (.string q) ∧ Below V.heap.size V w') := Lib.hid fun X hX => (CR.out X (since hX HBV.out)).mono fun e w' h => ⟨h.1, hX.trans (h.2.mono hX.size)⟩
      have CW : Hid (∀ X (u : ByteArray), Below V.heap.size V X → out.length + u.size ≤ lim → Calls Tryz.prog 78 #[.pointer (some ⟨b, 0, none⟩), .string u] X fun e w' => e = .returned (.tuple #[.int .i64 u.size, .nilIface]) ∧ Wr w' B b (.slice da ds.length dc) (out ++ L u) ds ∧ Fr V w' B b (.slice da ds.length dc) (.slice da ds.length dc) ∧ Blk w' W.heap.size 44 #[.int .i64 p.kind, .bool true, .string p.text, .string p.op, .slice a1 p.word.length c1, .slice a2 p.body.length c2]) := Lib.hid fun X u hX hu => (HWV.out.str (Fr.refl V B b (.slice da ds.length dc)) hX u hu).mono fun e w' ⟨h1, h2, h3⟩ => ⟨h1, h2, h3, h3.blk HVB.out hgb HGD.out (by decide)⟩
      clear CR
      go_region_held3 (fun w' => w'.cell? ⟨W.heap.size, 2, none⟩ = some (.string p.text)) (go_keep)
        (first
          | (go_at_call 121; with_reducible refine (CR2.out _ (by repeat' (first | (with_reducible assumption) | (with_reducible exact Below.refl _ _) | (with_reducible refine below_drewN ?_ _) | (with_reducible refine below_bytes ?_ ?_ _) | (with_reducible refine Below.alloc ?_ ?_ _) | (with_reducible refine Below.drew ?_) | (with_reducible refine Below.setCell ?_ ?_ _) | go_size))).mono ?_; rintro e w1 ⟨rfl, hb1⟩; have d2 := (hb1.cell hgV).trans x2)
          | (go_at_call 78; with_reducible refine (CW.out _ _ (by repeat' (first | (with_reducible assumption) | (with_reducible exact Below.refl _ _) | (with_reducible refine below_drewN ?_ _) | (with_reducible refine below_bytes ?_ ?_ _) | (with_reducible refine Below.alloc ?_ ?_ _) | (with_reducible refine Below.drew ?_) | (with_reducible refine Below.setCell ?_ ?_ _) | go_size)) ?_).mono ?_; (have := HZ.out; simp; omega); rintro e w2 ⟨rfl, hw2, hf2, hk2⟩; have d2 := hk2.cell 2; simp at d2))
      all_goals
        go_wp2_with fail
        have he : out ++ quoL (L p.text) = out ++ L (⟨#[39]⟩ ++ q ++ ⟨#[39]⟩) := by rw [← HQ.out]; simp [L_append]
        exact ⟨_, results_none rfl _ _ _, rfl, by
          rw [HE.out, putS]
          have := Shown.of hw2 ((Fr.of_below HBV.out HW.out.le).trans hf2)
          rw [← he] at this
          exact this⟩
    | false =>
      have HE : Hid (r = putS (stOf out ds) (L p.text)) := Lib.hid (by rw [← HR.out, hk1, hq]; rfl)
      have HZ : Hid (out.length + p.text.size ≤ lim) := Lib.hid (by have := HLEN.out; rw [HE.out, putS] at this; simpa [stOf, L_size] using this)
      go_enter_defers Tryz.func113, Tryz.ntmps113
      go_wp2_with fail
      obtain ⟨V, hV⟩ : ∃ V, V = W.alloc (.cells #[.int .i64 p.kind, .bool false, .string p.text, .string p.op, .slice a1 p.word.length c1, .slice a2 p.body.length c2] 44) := ⟨_, rfl⟩
      have HBV : Hid (Below W.heap.size W V) := Lib.hid (by rw [hV]; exact (Below.refl _ _).alloc (Nat.le_refl _) _)
      have HVB : Hid (Blk V W.heap.size 44 #[.int .i64 p.kind, .bool false, .string p.text, .string p.op, .slice a1 p.word.length c1, .slice a2 p.body.length c2]) := Lib.hid (by rw [hV]; exact Blk.new _ _ _)
      have hgV : W.heap.size < V.heap.size := by rw [hV]; simp
      rw [← hV]
      clear hV
      have HWV := Lib.hid (HW.out.below HBV.out)
      have hgb : W.heap.size ≠ b := by have := HW.out.lt; omega
      have HGD : Hid (Value.ownBlock (.slice da ds.length dc) ≠ some W.heap.size) := Lib.hid fun e => by have := HW.out.far _ e; omega
      have HBW : Hid (Below B W V) := Lib.hid (HBV.out.mono HW.out.le)
      have HFV : Hid (Fr W V B b (.slice da ds.length dc) (.slice da ds.length dc)) := Lib.hid (Fr.of_below HBV.out HW.out.le)
      have x0 := HVB.out.cell 0
      have x1 := HVB.out.cell 1
      have x2 := HVB.out.cell 2
      have x3 := HVB.out.cell 3
      have x4 := HVB.out.cell 4
      have x5 := HVB.out.cell 5
      have xl := HVB.out.lt
      simp at x0 x1 x2 x3 x4 x5
      go_still_tail 5, (by kernel_rfl)
      go_wp2_with fail
      skip
      refine (HWV.out.str HFV.out (by repeat' (first | (with_reducible assumption) | (with_reducible exact Below.refl _ _) | (with_reducible refine below_drewN ?_ _) | (with_reducible refine below_bytes ?_ ?_ _) | (with_reducible refine Below.alloc ?_ ?_ _) | (with_reducible refine Below.drew ?_) | (with_reducible refine Below.setCell ?_ ?_ _) | go_size)) _ (by have := HZ.out; simp; omega)).mono ?_
      rintro e w1 ⟨rfl, hw0, hf0⟩
      have HWw1 := Lib.hid hw0
      have HFw1 := Lib.hid hf0
      clear hw0 hf0
      go_wp2_with fail
      exact ⟨_, results_none rfl _ _ _, rfl, by
        rw [HE.out, putS]
        exact Shown.of HWw1.out HFw1.out⟩
  | false =>
    cases hk2 : (p.kind == 2) with
    | true =>
      cases hq : p.quoted with
      | false =>
        have HE : Hid (r = coreS ww wl (stOf out ds) p) := Lib.hid (by rw [← HR.out, hk1, hq]; rfl)
        rw [hq] at HC
        go_enter_defers Tryz.func113, Tryz.ntmps113
        go_wp2_with fail
        obtain ⟨V, hV⟩ : ∃ V, V = W.alloc (.cells #[.int .i64 p.kind, .bool false, .string p.text, .string p.op, .slice a1 p.word.length c1, .slice a2 p.body.length c2] 44) := ⟨_, rfl⟩
        have HBV : Hid (Below W.heap.size W V) := Lib.hid (by rw [hV]; exact (Below.refl _ _).alloc (Nat.le_refl _) _)
        have HVB : Hid (Blk V W.heap.size 44 #[.int .i64 p.kind, .bool false, .string p.text, .string p.op, .slice a1 p.word.length c1, .slice a2 p.body.length c2]) := Lib.hid (by rw [hV]; exact Blk.new _ _ _)
        have hgV : W.heap.size < V.heap.size := by rw [hV]; simp
        rw [← hV]
        clear hV
        have HWV := Lib.hid (HW.out.below HBV.out)
        have hgb : W.heap.size ≠ b := by have := HW.out.lt; omega
        have HGD : Hid (Value.ownBlock (.slice da ds.length dc) ≠ some W.heap.size) := Lib.hid fun e => by have := HW.out.far _ e; omega
        have HBW : Hid (Below B W V) := Lib.hid (HBV.out.mono HW.out.le)
        have HFV : Hid (Fr W V B b (.slice da ds.length dc) (.slice da ds.length dc)) := Lib.hid (Fr.of_below HBV.out HW.out.le)
        have x0 := HVB.out.cell 0
        have x1 := HVB.out.cell 1
        have x2 := HVB.out.cell 2
        have x3 := HVB.out.cell 3
        have x4 := HVB.out.cell 4
        have x5 := HVB.out.cell 5
        have xl := HVB.out.lt
        simp at x0 x1 x2 x3 x4 x5
        have HWU := HWV
        have HFU := HFV
        have HUB := HVB
        have HBU := HBW
        have HLC : Hid ((coreS ww wl (stOf (out) ds) p).1.length ≤ lim) := Lib.hid (by
          have := HLEN.out
          rw [HE.out] at this
          exact this)
        obtain ⟨cdoc, fdoc⟩ := HWU.out.docs
        have HCR : Hid (coreS ww wl (stOf (out) ds) p = bif p.kind == 2 then paramS ww (stOf (out) ds) p else bif p.kind == 3 then ((wl (stOf ((out) ++ [36, 40, 10]) []) p.body).1 ++ [41], (stOf (out) ds).2) else putS (stOf (out) ds) ([36, 40, 40] ++ L p.text ++ [41, 41])) := Lib.hid rfl
        obtain ⟨s1, hs1⟩ : ∃ s, coreS ww wl (stOf (out) ds) p = s := ⟨_, rfl⟩
        rw [hs1] at HLC HCR HE
        have HS1 := Lib.hid hs1
        clear hs1
        have HC1 : Hid (s1 = paramS ww (stOf (out) ds) p) := Lib.hid (by rw [HCR.out, hk2]; rfl)
        have CP : Hid (∀ X, Below (V).heap.size V X → Calls Tryz.prog 122 #[.pointer (some ⟨b, 0, none⟩), .agg #[.int .i64 p.kind, .bool false, .string p.text, .string p.op, .slice a1 p.word.length c1, .slice a2 p.body.length c2]] X fun e w' => e = .returned (.tuple #[]) ∧ Shown W B b (.slice da ds.length dc) s1 w') := Lib.hid fun X hX =>
          (wparam_any d ww fw HGW.out HWW.out p _ (HH.out.below (HBU.out.trans (hX.mono HWU.out.le))) (HWU.out.below hX) (HC.out.keep fun _ _ _ _ hs => hs.below (HBU.out.trans (hX.mono HWU.out.le))) HF.out.1 (by rw [← HC1.out]; exact HLC.out)).mono fun e w' ⟨g1, g2⟩ => ⟨g1, by rw [HC1.out]; exact g2.after (HFU.out.later hX HWU.out.le)⟩
        go_wp2_with fail
        refine (CP.out _ (by repeat' (first | (with_reducible assumption) | (with_reducible exact Below.refl _ _) | (with_reducible refine below_drewN ?_ _) | (with_reducible refine below_bytes ?_ ?_ _) | (with_reducible refine Below.alloc ?_ ?_ _) | (with_reducible refine Below.drew ?_) | (with_reducible refine Below.setCell ?_ ?_ _) | go_size))).mono ?_
        rintro e w5 ⟨rfl, hs5⟩
        have HS5 := Lib.hid hs5
        clear hs5
        go_wp2_with fail
        exact ⟨_, results_none rfl _ _ _, rfl, by rw [HE.out]; exact HS5.out⟩
      | true =>
        have HE : Hid (r = putS (coreS ww wl (stOf (out ++ [34]) ds) p) [34]) := Lib.hid (by rw [← HR.out, hk1, hq]; rfl)
        rw [hq] at HC
        have HZQ : Hid ((coreS ww wl (stOf (out ++ [34]) ds) p).1.length + 1 ≤ lim) := Lib.hid (by have := HLEN.out; rw [HE.out, putS] at this; simpa using this)
        have HZ0 : Hid (out.length + 1 ≤ lim) := Lib.hid (by
          have g1 := coreS_grow HGW.out HGL.out (stOf (out ++ [34]) ds) p
          have g2 := HZQ.out
          simp only [stOf, List.length_append, List.length_cons, List.length_nil] at g1 g2 ⊢
          omega)
        go_enter_defers Tryz.func113, Tryz.ntmps113
        go_wp2_with fail
        obtain ⟨V, hV⟩ : ∃ V, V = W.alloc (.cells #[.int .i64 p.kind, .bool true, .string p.text, .string p.op, .slice a1 p.word.length c1, .slice a2 p.body.length c2] 44) := ⟨_, rfl⟩
        have HBV : Hid (Below W.heap.size W V) := Lib.hid (by rw [hV]; exact (Below.refl _ _).alloc (Nat.le_refl _) _)
        have HVB : Hid (Blk V W.heap.size 44 #[.int .i64 p.kind, .bool true, .string p.text, .string p.op, .slice a1 p.word.length c1, .slice a2 p.body.length c2]) := Lib.hid (by rw [hV]; exact Blk.new _ _ _)
        have hgV : W.heap.size < V.heap.size := by rw [hV]; simp
        rw [← hV]
        clear hV
        have HWV := Lib.hid (HW.out.below HBV.out)
        have hgb : W.heap.size ≠ b := by have := HW.out.lt; omega
        have HGD : Hid (Value.ownBlock (.slice da ds.length dc) ≠ some W.heap.size) := Lib.hid fun e => by have := HW.out.far _ e; omega
        have HBW : Hid (Below B W V) := Lib.hid (HBV.out.mono HW.out.le)
        have HFV : Hid (Fr W V B b (.slice da ds.length dc) (.slice da ds.length dc)) := Lib.hid (Fr.of_below HBV.out HW.out.le)
        have x0 := HVB.out.cell 0
        have x1 := HVB.out.cell 1
        have x2 := HVB.out.cell 2
        have x3 := HVB.out.cell 3
        have x4 := HVB.out.cell 4
        have x5 := HVB.out.cell 5
        have xl := HVB.out.lt
        simp at x0 x1 x2 x3 x4 x5
        refine (HWV.out.byte (Fr.refl V B b (.slice da ds.length dc)) (by repeat' (first | (with_reducible assumption) | (with_reducible exact Below.refl _ _) | (with_reducible refine below_drewN ?_ _) | (with_reducible refine below_bytes ?_ ?_ _) | (with_reducible refine Below.alloc ?_ ?_ _) | (with_reducible refine Below.drew ?_) | (with_reducible refine Below.setCell ?_ ?_ _) | go_size)) 34 HZ0.out).mono ?_
        rintro e w1 ⟨rfl, hw1, hf1⟩
        have HWU := Lib.hid hw1
        have HFU := Lib.hid (HFV.out.trans hf1)
        have HUB := Lib.hid (hf1.blk HVB.out hgb HGD.out (by decide))
        have HBU := Lib.hid (HBW.out.trans hf1.low)
        clear hw1 hf1 x0 x1 x2 x3 x4 x5
        have x0 := HUB.out.cell 0
        have x1 := HUB.out.cell 1
        have x2 := HUB.out.cell 2
        have x3 := HUB.out.cell 3
        have x4 := HUB.out.cell 4
        have x5 := HUB.out.cell 5
        have xl := HUB.out.lt
        simp at x0 x1 x2 x3 x4 x5
        have CD : Hid (∀ X, Shown W B b (.slice da ds.length dc) (coreS ww wl (stOf (out ++ [34]) ds) p) X → CallsD Tryz.prog 81 #[.pointer (some ⟨b, 0, none⟩), .int .u8 34] .returning X fun e u' w' => u' = .returning ∧ e = .returned .nilIface ∧ Shown W B b (.slice da ds.length dc) r w') := Lib.hid fun X hX => by
          obtain ⟨dv5, ds5, hw5, hst5, hf5⟩ := shown_st hX
          refine (writeBD hw5 34 (by have := HZQ.out; unfold lim at this; omega) .returning).mono ?_
          rintro e u' w'' ⟨rfl, rfl, hw6, hf6⟩
          refine ⟨rfl, rfl, ?_⟩
          rw [HE.out, putS, ← hst5]
          exact Shown.of hw6 (hf5.trans hf6)
        have HLC : Hid ((coreS ww wl (stOf (out ++ [34]) ds) p).1.length ≤ lim) := Lib.hid (by
          have := HLEN.out
          rw [HE.out] at this
          exact Nat.le_trans (putS_grow _ _) this)
        obtain ⟨cdoc, fdoc⟩ := HWU.out.docs
        have HCR : Hid (coreS ww wl (stOf (out ++ [34]) ds) p = bif p.kind == 2 then paramS ww (stOf (out ++ [34]) ds) p else bif p.kind == 3 then ((wl (stOf ((out ++ [34]) ++ [36, 40, 10]) []) p.body).1 ++ [41], (stOf (out ++ [34]) ds).2) else putS (stOf (out ++ [34]) ds) ([36, 40, 40] ++ L p.text ++ [41, 41])) := Lib.hid rfl
        obtain ⟨s1, hs1⟩ : ∃ s, coreS ww wl (stOf (out ++ [34]) ds) p = s := ⟨_, rfl⟩
        rw [hs1] at HLC HCR HE
        have HS1 := Lib.hid hs1
        clear hs1
        have HC1 : Hid (s1 = paramS ww (stOf (out ++ [34]) ds) p) := Lib.hid (by rw [HCR.out, hk2]; rfl)
        have CP : Hid (∀ X, Below (w1).heap.size w1 X → Calls Tryz.prog 122 #[.pointer (some ⟨b, 0, none⟩), .agg #[.int .i64 p.kind, .bool true, .string p.text, .string p.op, .slice a1 p.word.length c1, .slice a2 p.body.length c2]] X fun e w' => e = .returned (.tuple #[]) ∧ Shown W B b (.slice da ds.length dc) s1 w') := Lib.hid fun X hX =>
          (wparam_any d ww fw HGW.out HWW.out p _ (HH.out.below (HBU.out.trans (hX.mono HWU.out.le))) (HWU.out.below hX) (HC.out.keep fun _ _ _ _ hs => hs.below (HBU.out.trans (hX.mono HWU.out.le))) HF.out.1 (by rw [← HC1.out]; exact HLC.out)).mono fun e w' ⟨g1, g2⟩ => ⟨g1, by rw [HC1.out]; exact g2.after (HFU.out.later hX HWU.out.le)⟩
        go_wp2_with fail
        refine (CP.out _ (by repeat' (first | (with_reducible assumption) | (with_reducible exact Below.refl _ _) | (with_reducible refine below_drewN ?_ _) | (with_reducible refine below_bytes ?_ ?_ _) | (with_reducible refine Below.alloc ?_ ?_ _) | (with_reducible refine Below.drew ?_) | (with_reducible refine Below.setCell ?_ ?_ _) | go_size))).mono ?_
        rintro e w5 ⟨rfl, hs5⟩
        have HS5 := Lib.hid hs5
        clear hs5
        go_wp2_with fail
        (refine leaves_cons (f := 81) (args := #[.pointer (some ⟨b, 0, none⟩), .int .u8 34]) (by simp) (by simp [go_sem]) ?_; refine (CD.out _ (by rw [HS1.out]; exact HS5.out)).mono ?_; rintro e u' w'' ⟨rfl, rfl, hs6⟩; exact ⟨_, results_none rfl _ _ _, rfl, hs6⟩)
    | false =>
      cases hk3 : (p.kind == 3) with
      | true =>
        cases hq : p.quoted with
        | false =>
          have HE : Hid (r = coreS ww wl (stOf out ds) p) := Lib.hid (by rw [← HR.out, hk1, hq]; rfl)
          rw [hq] at HC
          go_enter_defers Tryz.func113, Tryz.ntmps113
          go_upto_region 13 with fail
          obtain ⟨V, hV⟩ : ∃ V, V = W.alloc (.cells #[.int .i64 p.kind, .bool false, .string p.text, .string p.op, .slice a1 p.word.length c1, .slice a2 p.body.length c2] 44) := ⟨_, rfl⟩
          have HBV : Hid (Below W.heap.size W V) := Lib.hid (by rw [hV]; exact (Below.refl _ _).alloc (Nat.le_refl _) _)
          have HVB : Hid (Blk V W.heap.size 44 #[.int .i64 p.kind, .bool false, .string p.text, .string p.op, .slice a1 p.word.length c1, .slice a2 p.body.length c2]) := Lib.hid (by rw [hV]; exact Blk.new _ _ _)
          have hgV : W.heap.size < V.heap.size := by rw [hV]; simp
          rw [← hV]
          clear hV
          have HWV := Lib.hid (HW.out.below HBV.out)
          have hgb : W.heap.size ≠ b := by have := HW.out.lt; omega
          have HGD : Hid (Value.ownBlock (.slice da ds.length dc) ≠ some W.heap.size) := Lib.hid fun e => by have := HW.out.far _ e; omega
          have HBW : Hid (Below B W V) := Lib.hid (HBV.out.mono HW.out.le)
          have HFV : Hid (Fr W V B b (.slice da ds.length dc) (.slice da ds.length dc)) := Lib.hid (Fr.of_below HBV.out HW.out.le)
          have x0 := HVB.out.cell 0
          have x1 := HVB.out.cell 1
          have x2 := HVB.out.cell 2
          have x3 := HVB.out.cell 3
          have x4 := HVB.out.cell 4
          have x5 := HVB.out.cell 5
          have xl := HVB.out.lt
          simp at x0 x1 x2 x3 x4 x5
          have HWU := HWV
          have HFU := HFV
          have HUB := HVB
          have HBU := HBW
          have HLC : Hid ((coreS ww wl (stOf (out) ds) p).1.length ≤ lim) := Lib.hid (by
            have := HLEN.out
            rw [HE.out] at this
            exact this)
          obtain ⟨cdoc, fdoc⟩ := HWU.out.docs
          have HCR : Hid (coreS ww wl (stOf (out) ds) p = bif p.kind == 2 then paramS ww (stOf (out) ds) p else bif p.kind == 3 then ((wl (stOf ((out) ++ [36, 40, 10]) []) p.body).1 ++ [41], (stOf (out) ds).2) else putS (stOf (out) ds) ([36, 40, 40] ++ L p.text ++ [41, 41])) := Lib.hid rfl
          obtain ⟨s1, hs1⟩ : ∃ s, coreS ww wl (stOf (out) ds) p = s := ⟨_, rfl⟩
          rw [hs1] at HLC HCR HE
          have HS1 := Lib.hid hs1
          clear hs1
          have HC1 : Hid (s1 = ((wl (stOf ((out) ++ [36, 40, 10]) []) p.body).1 ++ [41], (stOf (out) ds).2)) := Lib.hid (by rw [HCR.out, hk2, hk3]; rfl)
          have HZ2 : Hid ((wl (stOf ((out) ++ [36, 40, 10]) []) p.body).1.length + 1 ≤ lim) := Lib.hid (by have := HLC.out; rw [HC1.out] at this; simpa using this)
          have HZ1 : Hid ((out).length + 3 ≤ lim) := Lib.hid (by
            have g1 := HGL.out (stOf ((out) ++ [36, 40, 10]) []) p.body
            have g2 := HZ2.out
            simp only [stOf, List.length_append, List.length_cons, List.length_nil] at g1 g2 ⊢
            omega)
          have hcl := HWU.out.clear
          have HWC := Lib.hid hcl.1
          have HFC := Lib.hid (HFU.out.trans hcl.2)
          have hx5 : (V).cell? ⟨W.heap.size, 5, none⟩ = some (.slice a2 p.body.length c2) := x5
          obtain ⟨U1, hU1⟩ : ∃ U1, U1 = (V).setCell ⟨b, 2, none⟩ (.slice none 0 0) := ⟨_, rfl⟩
          have HBC : Hid (Blk U1 W.heap.size 44 #[.int .i64 p.kind, .bool false, .string p.text, .string p.op, .slice a1 p.word.length c1, .slice a2 p.body.length c2]) := Lib.hid (by rw [hU1]; exact HUB.out.far hgb _)
          rw [← hU1] at HWC HFC
          have HU1 := Lib.hid hU1
          clear hU1 hcl
          go_wp2_with fail
          rw [← HU1.out]
          refine (HWC.out.str (Fr.refl U1 B b _) (Below.refl _ _) _ (by have := HZ1.out; simp at this ⊢; omega)).mono ?_
          rintro e w2 ⟨rfl, hw2, hf2⟩
          have HW2 := Lib.hid hw2
          have HF2 := Lib.hid hf2
          have HK2 := Lib.hid (hf2.blk HBC.out hgb (by simp [Value.ownBlock]) (by decide))
          have z5 := HK2.out.cell 5
          simp at z5
          have HBU2 : Hid (Below B W w2) := Lib.hid (HFC.out.low.trans HF2.out.low)
          have CL := Lib.hid (HWL.out w2 B b _ _ [] p.body _ (HH.out.below HBU2.out) HW2.out (HBD.out.below HBU2.out) HF.out.2 (by have := HZ2.out; simp at this ⊢; omega))
          clear hw2 hf2 x0 x1 x2 x3 x4 x5 hx5 cdoc fdoc
          go_wp2_with fail
          refine CL.out.mono ?_
          rintro e w3 ⟨rfl, hs3⟩
          obtain ⟨dv3, ds3, hw3, hst3, hf3⟩ := shown_st hs3
          have HW3 := Lib.hid hw3
          have HST3 := Lib.hid hst3
          have HF3 := Lib.hid (HF2.out.trans hf3)
          clear hs3 hw3 hst3 hf3
          go_wp2_with fail
          refine (HW3.out.byte HF3.out (Below.refl _ _) 41 (by have := HZ2.out; simp [stOf] at this ⊢; omega)).mono ?_
          rintro e w4 ⟨rfl, hw4, hf4⟩
          have HW4 := Lib.hid hw4
          have HF4 := Lib.hid hf4
          obtain ⟨cdoc, fdoc⟩ := hw4.docs
          clear hw4 hf4
          have HBK : Hid (Wr (w4.setCell ⟨b, 2, none⟩ (.slice da ds.length dc)) B b (.slice da ds.length dc) ((wl (stOf ((out) ++ [36, 40, 10]) []) p.body).1 ++ [41]) ds) := Lib.hid (by
            have hle : (out).length ≤ (wl (stOf ((out) ++ [36, 40, 10]) []) p.body).1.length + 1 := by
              have g1 := HGL.out (stOf ((out) ++ [36, 40, 10]) []) p.body
              simp only [stOf, List.length_append, List.length_cons, List.length_nil] at g1 ⊢
              omega
            have h1 := HWU.out.back (by rw [← HU1.out]; exact HF4.out) HW4.out
            simp only [List.append_assoc, List.cons_append, List.nil_append, List.length_append, List.length_cons, List.length_nil, L_mk, List.map_nil] at h1 hle ⊢
            exact h1 (by simpa using hle))
          have HS5 : Hid (Shown W B b (.slice da ds.length dc) s1 (w4.setCell ⟨b, 2, none⟩ (.slice da ds.length dc))) := Lib.hid (by
            rw [HC1.out]
            exact Shown.of HBK.out ((HFC.out.trans HF4.out).back HWU.out.1))
          go_wp2_with fail
          exact ⟨_, results_none rfl _ _ _, rfl, by rw [HE.out]; exact HS5.out⟩
        | true =>
          have HE : Hid (r = putS (coreS ww wl (stOf (out ++ [34]) ds) p) [34]) := Lib.hid (by rw [← HR.out, hk1, hq]; rfl)
          rw [hq] at HC
          have HZQ : Hid ((coreS ww wl (stOf (out ++ [34]) ds) p).1.length + 1 ≤ lim) := Lib.hid (by have := HLEN.out; rw [HE.out, putS] at this; simpa using this)
          have HZ0 : Hid (out.length + 1 ≤ lim) := Lib.hid (by
            have g1 := coreS_grow HGW.out HGL.out (stOf (out ++ [34]) ds) p
            have g2 := HZQ.out
            simp only [stOf, List.length_append, List.length_cons, List.length_nil] at g1 g2 ⊢
            omega)
          go_enter_defers Tryz.func113, Tryz.ntmps113
          go_wp2_with fail
          obtain ⟨V, hV⟩ : ∃ V, V = W.alloc (.cells #[.int .i64 p.kind, .bool true, .string p.text, .string p.op, .slice a1 p.word.length c1, .slice a2 p.body.length c2] 44) := ⟨_, rfl⟩
          have HBV : Hid (Below W.heap.size W V) := Lib.hid (by rw [hV]; exact (Below.refl _ _).alloc (Nat.le_refl _) _)
          have HVB : Hid (Blk V W.heap.size 44 #[.int .i64 p.kind, .bool true, .string p.text, .string p.op, .slice a1 p.word.length c1, .slice a2 p.body.length c2]) := Lib.hid (by rw [hV]; exact Blk.new _ _ _)
          have hgV : W.heap.size < V.heap.size := by rw [hV]; simp
          rw [← hV]
          clear hV
          have HWV := Lib.hid (HW.out.below HBV.out)
          have hgb : W.heap.size ≠ b := by have := HW.out.lt; omega
          have HGD : Hid (Value.ownBlock (.slice da ds.length dc) ≠ some W.heap.size) := Lib.hid fun e => by have := HW.out.far _ e; omega
          have HBW : Hid (Below B W V) := Lib.hid (HBV.out.mono HW.out.le)
          have HFV : Hid (Fr W V B b (.slice da ds.length dc) (.slice da ds.length dc)) := Lib.hid (Fr.of_below HBV.out HW.out.le)
          have x0 := HVB.out.cell 0
          have x1 := HVB.out.cell 1
          have x2 := HVB.out.cell 2
          have x3 := HVB.out.cell 3
          have x4 := HVB.out.cell 4
          have x5 := HVB.out.cell 5
          have xl := HVB.out.lt
          simp at x0 x1 x2 x3 x4 x5
          refine (HWV.out.byte (Fr.refl V B b (.slice da ds.length dc)) (by repeat' (first | (with_reducible assumption) | (with_reducible exact Below.refl _ _) | (with_reducible refine below_drewN ?_ _) | (with_reducible refine below_bytes ?_ ?_ _) | (with_reducible refine Below.alloc ?_ ?_ _) | (with_reducible refine Below.drew ?_) | (with_reducible refine Below.setCell ?_ ?_ _) | go_size)) 34 HZ0.out).mono ?_
          rintro e w1 ⟨rfl, hw1, hf1⟩
          have HWU := Lib.hid hw1
          have HFU := Lib.hid (HFV.out.trans hf1)
          have HUB := Lib.hid (hf1.blk HVB.out hgb HGD.out (by decide))
          have HBU := Lib.hid (HBW.out.trans hf1.low)
          clear hw1 hf1 x0 x1 x2 x3 x4 x5
          have x0 := HUB.out.cell 0
          have x1 := HUB.out.cell 1
          have x2 := HUB.out.cell 2
          have x3 := HUB.out.cell 3
          have x4 := HUB.out.cell 4
          have x5 := HUB.out.cell 5
          have xl := HUB.out.lt
          simp at x0 x1 x2 x3 x4 x5
          have CD : Hid (∀ X, Shown W B b (.slice da ds.length dc) (coreS ww wl (stOf (out ++ [34]) ds) p) X → CallsD Tryz.prog 81 #[.pointer (some ⟨b, 0, none⟩), .int .u8 34] .returning X fun e u' w' => u' = .returning ∧ e = .returned .nilIface ∧ Shown W B b (.slice da ds.length dc) r w') := Lib.hid fun X hX => by
            obtain ⟨dv5, ds5, hw5, hst5, hf5⟩ := shown_st hX
            refine (writeBD hw5 34 (by have := HZQ.out; unfold lim at this; omega) .returning).mono ?_
            rintro e u' w'' ⟨rfl, rfl, hw6, hf6⟩
            refine ⟨rfl, rfl, ?_⟩
            rw [HE.out, putS, ← hst5]
            exact Shown.of hw6 (hf5.trans hf6)
          have HLC : Hid ((coreS ww wl (stOf (out ++ [34]) ds) p).1.length ≤ lim) := Lib.hid (by
            have := HLEN.out
            rw [HE.out] at this
            exact Nat.le_trans (putS_grow _ _) this)
          obtain ⟨cdoc, fdoc⟩ := HWU.out.docs
          have HCR : Hid (coreS ww wl (stOf (out ++ [34]) ds) p = bif p.kind == 2 then paramS ww (stOf (out ++ [34]) ds) p else bif p.kind == 3 then ((wl (stOf ((out ++ [34]) ++ [36, 40, 10]) []) p.body).1 ++ [41], (stOf (out ++ [34]) ds).2) else putS (stOf (out ++ [34]) ds) ([36, 40, 40] ++ L p.text ++ [41, 41])) := Lib.hid rfl
          obtain ⟨s1, hs1⟩ : ∃ s, coreS ww wl (stOf (out ++ [34]) ds) p = s := ⟨_, rfl⟩
          rw [hs1] at HLC HCR HE
          have HS1 := Lib.hid hs1
          clear hs1
          have HC1 : Hid (s1 = ((wl (stOf ((out ++ [34]) ++ [36, 40, 10]) []) p.body).1 ++ [41], (stOf (out ++ [34]) ds).2)) := Lib.hid (by rw [HCR.out, hk2, hk3]; rfl)
          have HZ2 : Hid ((wl (stOf ((out ++ [34]) ++ [36, 40, 10]) []) p.body).1.length + 1 ≤ lim) := Lib.hid (by have := HLC.out; rw [HC1.out] at this; simpa using this)
          have HZ1 : Hid ((out ++ [34]).length + 3 ≤ lim) := Lib.hid (by
            have g1 := HGL.out (stOf ((out ++ [34]) ++ [36, 40, 10]) []) p.body
            have g2 := HZ2.out
            simp only [stOf, List.length_append, List.length_cons, List.length_nil] at g1 g2 ⊢
            omega)
          have hcl := HWU.out.clear
          have HWC := Lib.hid hcl.1
          have HFC := Lib.hid (HFU.out.trans hcl.2)
          have hx5 : (w1).cell? ⟨W.heap.size, 5, none⟩ = some (.slice a2 p.body.length c2) := x5
          obtain ⟨U1, hU1⟩ : ∃ U1, U1 = (w1).setCell ⟨b, 2, none⟩ (.slice none 0 0) := ⟨_, rfl⟩
          have HBC : Hid (Blk U1 W.heap.size 44 #[.int .i64 p.kind, .bool true, .string p.text, .string p.op, .slice a1 p.word.length c1, .slice a2 p.body.length c2]) := Lib.hid (by rw [hU1]; exact HUB.out.far hgb _)
          rw [← hU1] at HWC HFC
          have HU1 := Lib.hid hU1
          clear hU1 hcl
          go_wp2_with fail
          rw [← HU1.out]
          refine (HWC.out.str (Fr.refl U1 B b _) (Below.refl _ _) _ (by have := HZ1.out; simp at this ⊢; omega)).mono ?_
          rintro e w2 ⟨rfl, hw2, hf2⟩
          have HW2 := Lib.hid hw2
          have HF2 := Lib.hid hf2
          have HK2 := Lib.hid (hf2.blk HBC.out hgb (by simp [Value.ownBlock]) (by decide))
          have z5 := HK2.out.cell 5
          simp at z5
          have HBU2 : Hid (Below B W w2) := Lib.hid (HFC.out.low.trans HF2.out.low)
          have CL := Lib.hid (HWL.out w2 B b _ _ [] p.body _ (HH.out.below HBU2.out) HW2.out (HBD.out.below HBU2.out) HF.out.2 (by have := HZ2.out; simp at this ⊢; omega))
          clear hw2 hf2 x0 x1 x2 x3 x4 x5 hx5 cdoc fdoc
          go_wp2_with fail
          refine CL.out.mono ?_
          rintro e w3 ⟨rfl, hs3⟩
          obtain ⟨dv3, ds3, hw3, hst3, hf3⟩ := shown_st hs3
          have HW3 := Lib.hid hw3
          have HST3 := Lib.hid hst3
          have HF3 := Lib.hid (HF2.out.trans hf3)
          clear hs3 hw3 hst3 hf3
          go_wp2_with fail
          refine (HW3.out.byte HF3.out (Below.refl _ _) 41 (by have := HZ2.out; simp [stOf] at this ⊢; omega)).mono ?_
          rintro e w4 ⟨rfl, hw4, hf4⟩
          have HW4 := Lib.hid hw4
          have HF4 := Lib.hid hf4
          obtain ⟨cdoc, fdoc⟩ := hw4.docs
          clear hw4 hf4
          have HBK : Hid (Wr (w4.setCell ⟨b, 2, none⟩ (.slice da ds.length dc)) B b (.slice da ds.length dc) ((wl (stOf ((out ++ [34]) ++ [36, 40, 10]) []) p.body).1 ++ [41]) ds) := Lib.hid (by
            have hle : (out ++ [34]).length ≤ (wl (stOf ((out ++ [34]) ++ [36, 40, 10]) []) p.body).1.length + 1 := by
              have g1 := HGL.out (stOf ((out ++ [34]) ++ [36, 40, 10]) []) p.body
              simp only [stOf, List.length_append, List.length_cons, List.length_nil] at g1 ⊢
              omega
            have h1 := HWU.out.back (by rw [← HU1.out]; exact HF4.out) HW4.out
            simp only [List.append_assoc, List.cons_append, List.nil_append, List.length_append, List.length_cons, List.length_nil, L_mk, List.map_nil] at h1 hle ⊢
            exact h1 (by simpa using hle))
          have HS5 : Hid (Shown W B b (.slice da ds.length dc) s1 (w4.setCell ⟨b, 2, none⟩ (.slice da ds.length dc))) := Lib.hid (by
            rw [HC1.out]
            exact Shown.of HBK.out ((HFC.out.trans HF4.out).back HWU.out.1))
          go_wp2_with fail
          (refine leaves_cons (f := 81) (args := #[.pointer (some ⟨b, 0, none⟩), .int .u8 34]) (by simp) (by simp [go_sem]) ?_; refine (CD.out _ (by rw [HS1.out]; exact HS5.out)).mono ?_; rintro e u' w'' ⟨rfl, rfl, hs6⟩; exact ⟨_, results_none rfl _ _ _, rfl, hs6⟩)
      | false =>
        cases hq : p.quoted with
        | false =>
          have HE : Hid (r = coreS ww wl (stOf out ds) p) := Lib.hid (by rw [← HR.out, hk1, hq]; rfl)
          rw [hq] at HC
          go_enter_defers Tryz.func113, Tryz.ntmps113
          go_wp2_with fail
          obtain ⟨V, hV⟩ : ∃ V, V = W.alloc (.cells #[.int .i64 p.kind, .bool false, .string p.text, .string p.op, .slice a1 p.word.length c1, .slice a2 p.body.length c2] 44) := ⟨_, rfl⟩
          have HBV : Hid (Below W.heap.size W V) := Lib.hid (by rw [hV]; exact (Below.refl _ _).alloc (Nat.le_refl _) _)
          have HVB : Hid (Blk V W.heap.size 44 #[.int .i64 p.kind, .bool false, .string p.text, .string p.op, .slice a1 p.word.length c1, .slice a2 p.body.length c2]) := Lib.hid (by rw [hV]; exact Blk.new _ _ _)
          have hgV : W.heap.size < V.heap.size := by rw [hV]; simp
          rw [← hV]
          clear hV
          have HWV := Lib.hid (HW.out.below HBV.out)
          have hgb : W.heap.size ≠ b := by have := HW.out.lt; omega
          have HGD : Hid (Value.ownBlock (.slice da ds.length dc) ≠ some W.heap.size) := Lib.hid fun e => by have := HW.out.far _ e; omega
          have HBW : Hid (Below B W V) := Lib.hid (HBV.out.mono HW.out.le)
          have HFV : Hid (Fr W V B b (.slice da ds.length dc) (.slice da ds.length dc)) := Lib.hid (Fr.of_below HBV.out HW.out.le)
          have x0 := HVB.out.cell 0
          have x1 := HVB.out.cell 1
          have x2 := HVB.out.cell 2
          have x3 := HVB.out.cell 3
          have x4 := HVB.out.cell 4
          have x5 := HVB.out.cell 5
          have xl := HVB.out.lt
          simp at x0 x1 x2 x3 x4 x5
          have HWU := HWV
          have HFU := HFV
          have HUB := HVB
          have HBU := HBW
          have HLC : Hid ((coreS ww wl (stOf (out) ds) p).1.length ≤ lim) := Lib.hid (by
            have := HLEN.out
            rw [HE.out] at this
            exact this)
          obtain ⟨cdoc, fdoc⟩ := HWU.out.docs
          have HCR : Hid (coreS ww wl (stOf (out) ds) p = bif p.kind == 2 then paramS ww (stOf (out) ds) p else bif p.kind == 3 then ((wl (stOf ((out) ++ [36, 40, 10]) []) p.body).1 ++ [41], (stOf (out) ds).2) else putS (stOf (out) ds) ([36, 40, 40] ++ L p.text ++ [41, 41])) := Lib.hid rfl
          obtain ⟨s1, hs1⟩ : ∃ s, coreS ww wl (stOf (out) ds) p = s := ⟨_, rfl⟩
          rw [hs1] at HLC HCR HE
          have HS1 := Lib.hid hs1
          clear hs1
          have HC1 : Hid (s1 = putS (stOf (out) ds) ([36, 40, 40] ++ L p.text ++ [41, 41])) := Lib.hid (by rw [HCR.out, hk2, hk3]; rfl)
          have HZ1 : Hid ((out).length + (3 + p.text.size + 2) ≤ lim) := Lib.hid (by
            have g2 := HLC.out
            rw [HC1.out, putS] at g2
            simp only [stOf, List.length_append, List.length_cons, List.length_nil, L_size] at g2 ⊢
            omega)
          have k1 : ∀ V : World, (Op.stringOp .add (⟨#[36, 40, 40]⟩ : ByteArray) p.text).run Tryz.prog V = .ok (.string ((⟨#[36, 40, 40]⟩ : ByteArray) ++ p.text)) V := fun V => run_string_add_sum V _ _ (by simp; omega)
          have k2 : ∀ V : World, (Op.stringOp .add ((⟨#[36, 40, 40]⟩ : ByteArray) ++ p.text) ⟨#[41, 41]⟩).run Tryz.prog V = .ok (.string (((⟨#[36, 40, 40]⟩ : ByteArray) ++ p.text) ++ ⟨#[41, 41]⟩)) V := fun V => run_string_add_sum V _ _ (by simp; omega)
          go_wp2_with fail
          go_still_tail 7, (by kernel_rfl)
          go_wp2_with fail
          refine (HWU.out.str HFU.out (by repeat' (first | (with_reducible assumption) | (with_reducible exact Below.refl _ _) | (with_reducible refine below_drewN ?_ _) | (with_reducible refine below_bytes ?_ ?_ _) | (with_reducible refine Below.alloc ?_ ?_ _) | (with_reducible refine Below.drew ?_) | (with_reducible refine Below.setCell ?_ ?_ _) | go_size)) _ (by have := HZ1.out; simp at this ⊢; omega)).mono ?_
          rintro e w5 ⟨rfl, hw5, hf5⟩
          have HS5 : Hid (Shown W B b (.slice da ds.length dc) s1 w5) := Lib.hid (by
            rw [HC1.out, putS]
            have := Shown.of hw5 hf5
            simpa [stOf, L_append] using this)
          clear hw5 hf5
          go_wp2_with fail
          exact ⟨_, results_none rfl _ _ _, rfl, by rw [HE.out]; exact HS5.out⟩
        | true =>
          have HE : Hid (r = putS (coreS ww wl (stOf (out ++ [34]) ds) p) [34]) := Lib.hid (by rw [← HR.out, hk1, hq]; rfl)
          rw [hq] at HC
          have HZQ : Hid ((coreS ww wl (stOf (out ++ [34]) ds) p).1.length + 1 ≤ lim) := Lib.hid (by have := HLEN.out; rw [HE.out, putS] at this; simpa using this)
          have HZ0 : Hid (out.length + 1 ≤ lim) := Lib.hid (by
            have g1 := coreS_grow HGW.out HGL.out (stOf (out ++ [34]) ds) p
            have g2 := HZQ.out
            simp only [stOf, List.length_append, List.length_cons, List.length_nil] at g1 g2 ⊢
            omega)
          go_enter_defers Tryz.func113, Tryz.ntmps113
          go_wp2_with fail
          obtain ⟨V, hV⟩ : ∃ V, V = W.alloc (.cells #[.int .i64 p.kind, .bool true, .string p.text, .string p.op, .slice a1 p.word.length c1, .slice a2 p.body.length c2] 44) := ⟨_, rfl⟩
          have HBV : Hid (Below W.heap.size W V) := Lib.hid (by rw [hV]; exact (Below.refl _ _).alloc (Nat.le_refl _) _)
          have HVB : Hid (Blk V W.heap.size 44 #[.int .i64 p.kind, .bool true, .string p.text, .string p.op, .slice a1 p.word.length c1, .slice a2 p.body.length c2]) := Lib.hid (by rw [hV]; exact Blk.new _ _ _)
          have hgV : W.heap.size < V.heap.size := by rw [hV]; simp
          rw [← hV]
          clear hV
          have HWV := Lib.hid (HW.out.below HBV.out)
          have hgb : W.heap.size ≠ b := by have := HW.out.lt; omega
          have HGD : Hid (Value.ownBlock (.slice da ds.length dc) ≠ some W.heap.size) := Lib.hid fun e => by have := HW.out.far _ e; omega
          have HBW : Hid (Below B W V) := Lib.hid (HBV.out.mono HW.out.le)
          have HFV : Hid (Fr W V B b (.slice da ds.length dc) (.slice da ds.length dc)) := Lib.hid (Fr.of_below HBV.out HW.out.le)
          have x0 := HVB.out.cell 0
          have x1 := HVB.out.cell 1
          have x2 := HVB.out.cell 2
          have x3 := HVB.out.cell 3
          have x4 := HVB.out.cell 4
          have x5 := HVB.out.cell 5
          have xl := HVB.out.lt
          simp at x0 x1 x2 x3 x4 x5
          refine (HWV.out.byte (Fr.refl V B b (.slice da ds.length dc)) (by repeat' (first | (with_reducible assumption) | (with_reducible exact Below.refl _ _) | (with_reducible refine below_drewN ?_ _) | (with_reducible refine below_bytes ?_ ?_ _) | (with_reducible refine Below.alloc ?_ ?_ _) | (with_reducible refine Below.drew ?_) | (with_reducible refine Below.setCell ?_ ?_ _) | go_size)) 34 HZ0.out).mono ?_
          rintro e w1 ⟨rfl, hw1, hf1⟩
          have HWU := Lib.hid hw1
          have HFU := Lib.hid (HFV.out.trans hf1)
          have HUB := Lib.hid (hf1.blk HVB.out hgb HGD.out (by decide))
          have HBU := Lib.hid (HBW.out.trans hf1.low)
          clear hw1 hf1 x0 x1 x2 x3 x4 x5
          have x0 := HUB.out.cell 0
          have x1 := HUB.out.cell 1
          have x2 := HUB.out.cell 2
          have x3 := HUB.out.cell 3
          have x4 := HUB.out.cell 4
          have x5 := HUB.out.cell 5
          have xl := HUB.out.lt
          simp at x0 x1 x2 x3 x4 x5
          have CD : Hid (∀ X, Shown W B b (.slice da ds.length dc) (coreS ww wl (stOf (out ++ [34]) ds) p) X → CallsD Tryz.prog 81 #[.pointer (some ⟨b, 0, none⟩), .int .u8 34] .returning X fun e u' w' => u' = .returning ∧ e = .returned .nilIface ∧ Shown W B b (.slice da ds.length dc) r w') := Lib.hid fun X hX => by
            obtain ⟨dv5, ds5, hw5, hst5, hf5⟩ := shown_st hX
            refine (writeBD hw5 34 (by have := HZQ.out; unfold lim at this; omega) .returning).mono ?_
            rintro e u' w'' ⟨rfl, rfl, hw6, hf6⟩
            refine ⟨rfl, rfl, ?_⟩
            rw [HE.out, putS, ← hst5]
            exact Shown.of hw6 (hf5.trans hf6)
          have HLC : Hid ((coreS ww wl (stOf (out ++ [34]) ds) p).1.length ≤ lim) := Lib.hid (by
            have := HLEN.out
            rw [HE.out] at this
            exact Nat.le_trans (putS_grow _ _) this)
          obtain ⟨cdoc, fdoc⟩ := HWU.out.docs
          have HCR : Hid (coreS ww wl (stOf (out ++ [34]) ds) p = bif p.kind == 2 then paramS ww (stOf (out ++ [34]) ds) p else bif p.kind == 3 then ((wl (stOf ((out ++ [34]) ++ [36, 40, 10]) []) p.body).1 ++ [41], (stOf (out ++ [34]) ds).2) else putS (stOf (out ++ [34]) ds) ([36, 40, 40] ++ L p.text ++ [41, 41])) := Lib.hid rfl
          obtain ⟨s1, hs1⟩ : ∃ s, coreS ww wl (stOf (out ++ [34]) ds) p = s := ⟨_, rfl⟩
          rw [hs1] at HLC HCR HE
          have HS1 := Lib.hid hs1
          clear hs1
          have HC1 : Hid (s1 = putS (stOf (out ++ [34]) ds) ([36, 40, 40] ++ L p.text ++ [41, 41])) := Lib.hid (by rw [HCR.out, hk2, hk3]; rfl)
          have HZ1 : Hid ((out ++ [34]).length + (3 + p.text.size + 2) ≤ lim) := Lib.hid (by
            have g2 := HLC.out
            rw [HC1.out, putS] at g2
            simp only [stOf, List.length_append, List.length_cons, List.length_nil, L_size] at g2 ⊢
            omega)
          have k1 : ∀ V : World, (Op.stringOp .add (⟨#[36, 40, 40]⟩ : ByteArray) p.text).run Tryz.prog V = .ok (.string ((⟨#[36, 40, 40]⟩ : ByteArray) ++ p.text)) V := fun V => run_string_add_sum V _ _ (by simp; omega)
          have k2 : ∀ V : World, (Op.stringOp .add ((⟨#[36, 40, 40]⟩ : ByteArray) ++ p.text) ⟨#[41, 41]⟩).run Tryz.prog V = .ok (.string (((⟨#[36, 40, 40]⟩ : ByteArray) ++ p.text) ++ ⟨#[41, 41]⟩)) V := fun V => run_string_add_sum V _ _ (by simp; omega)
          go_wp2_with fail
          go_still_tail 7, (by kernel_rfl)
          go_wp2_with fail
          refine (HWU.out.str HFU.out (by repeat' (first | (with_reducible assumption) | (with_reducible exact Below.refl _ _) | (with_reducible refine below_drewN ?_ _) | (with_reducible refine below_bytes ?_ ?_ _) | (with_reducible refine Below.alloc ?_ ?_ _) | (with_reducible refine Below.drew ?_) | (with_reducible refine Below.setCell ?_ ?_ _) | go_size)) _ (by have := HZ1.out; simp at this ⊢; omega)).mono ?_
          rintro e w5 ⟨rfl, hw5, hf5⟩
          have HS5 : Hid (Shown W B b (.slice da ds.length dc) s1 w5) := Lib.hid (by
            rw [HC1.out, putS]
            have := Shown.of hw5 hf5
            simpa [stOf, L_append] using this)
          clear hw5 hf5
          go_wp2_with fail
          (refine leaves_cons (f := 81) (args := #[.pointer (some ⟨b, 0, none⟩), .int .u8 34]) (by simp) (by simp [go_sem]) ?_; refine (CD.out _ (by rw [HS1.out]; exact HS5.out)).mono ?_; rintro e u' w'' ⟨rfl, rfl, hs6⟩; exact ⟨_, results_none rfl _ _ _, rfl, hs6⟩)
end Go.Proofs.YtnackmnoldkihaaGreatDoor
/-
  append to a slice of the call's own, at a step of a region that draws its order.
-/
namespace Go.Proofs.YtnackmnoldkihaaGreatDoor
open Go.RowKit

section
variable {w : World} {size : Nat}
/-- The same at a step of a region that draws its order. -/
theorem step_append_sl {P : Program} {ops : Array Oper} {o : Oper} {a : Act} {K : Act → World → Prop} {Q : Exit → Act → World → Prop} {E : Prop} (hgd : o.guard = none) (s x : Operand) (t : TypeId)
    (ho : o.op = .call { callee := .builtin .append, args := #[s, x], argTypes := #[t, t] }) (base : Nat) (e : TypeId) {z : Value} {bytes : Nat} (ht : P.underlying t = some (.slice e))
    (hinfo : (P.info? e).map (fun i => (i.zero, i.size, i.bytes)) = some (some z, size, bytes)) (hzs : z.cells.size = size) (hsz : 0 < size)
    {v : Value} {n : Nat} {xs : List Value} (hs : a.eval s = v) (hown : w.ownsRow base e size v n xs) {vx : Value} {m : Nat} {news : List Value} {B : Nat} (hx : a.eval x = vx) (hsl : Sl w B size vx m news) (hne : 0 < m) (h1 : ∀ u ∈ news, u.oneCell' = true)
    (hlen : (n + m) * (bytes + 1) ≤ 140737488355328) (hbase : base ≤ w.heap.size)
    (h : ∀ g cap w', w'.ownsRow base e size (.slice (some ⟨g, 0, none⟩) (n + m) cap) (n + m) (xs ++ news) → w.grownBy w' v.ownBlock → (v.ownBlock = some g ∨ g = w.heap.size) → g < w'.heap.size → K (a.put o.dst (.slice (some ⟨g, 0, none⟩) (n + m) cap)) w') :
    if Region.wanted o (yielded ops a.tmps) = true then Oper.wp P o a w K Q else E := by
  obtain ⟨i0, hi, hz0, hz1, hz2⟩ := info_parts hinfo
  obtain ⟨k1, ax, cx, rfl, k3, k4, k5⟩ := hsl
  rcases k5 with k5 | ⟨b, off, rfl, kB, kc⟩
  · omega
  have hb1 : (n + m) * bytes ≤ 140737488355328 := Nat.le_trans (Nat.mul_le_mul_left _ (by omega)) hlen
  have hb2 : n + m ≤ 140737488355328 := Nat.le_trans (Nat.le_mul_of_pos_right _ (by omega)) hlen
  exact step_append_lies w hgd s x t ho base e i0 z size bytes ht hi hz0 hz1 hz2 hzs hsz v n xs hs hown ⟨b, off, none⟩ m cx news hx k1 (fun j u hj => by
    have hj' : j < m * size := by rw [← k1]; exact (List.getElem?_eq_some_iff.1 hj).1
    rw [addr_add, kc j hj', hj]) h1 hne (by unfold maxLen; omega) hb1 hbase _ rfl h
end
end Go.Proofs.YtnackmnoldkihaaGreatDoor
/-
  The writer, step by step, as what has been shown; the walks of block and redirs.
-/
namespace Go.Proofs.YtnackmnoldkihaaGreatDoor
open Go.RowKit

section
variable {W V X W' : World} {B b : Nat} {dv : Value} {s : St}
theorem Shown.start {out : List UInt8} {ds : List DocV} (h : Wr W B b dv out ds) : Shown W B b dv (stOf out ds) W := Shown.of h (Fr.refl W B b dv)
theorem Shown.low (h : Shown V B b dv s W) : Below B V W := by obtain ⟨_, _, _, _, hf⟩ := h; exact hf.low
theorem Shown.le (h : Shown V B b dv s W) : B ≤ W.heap.size := by obtain ⟨_, _, _, hw, _⟩ := h; exact hw.le
theorem Shown.blk {g : Nat} {t : TypeId} {cs : Array Value} (h : Shown V B b dv s W) (hk : Blk V g t cs) (hg : g ≠ b) (hd : dv.ownBlock ≠ some g) (ht : t ≠ 5) : Blk W g t cs := by
  obtain ⟨_, _, _, _, hf⟩ := h
  exact hf.blk hk hg hd ht
theorem Shown.later (h : Shown V B b dv s W) (hb : Below W.heap.size W X) : Shown V B b dv s X := by
  obtain ⟨dv1, ds1, h1, h2, h3⟩ := h
  exact ⟨dv1, ds1, h1, h2.below hb, h3.later hb h2.le⟩
theorem Shown.str (h : Shown V B b dv s W) (hb : Below W.heap.size W X) (t : ByteArray) (hlen : s.1.length + t.size ≤ lim) :
    Calls Tryz.prog 78 #[.pointer (some ⟨b, 0, none⟩), .string t] X fun e w' => e = .returned (.tuple #[.int .i64 t.size, .nilIface]) ∧ Shown V B b dv (putS s (L t)) w' := by
  obtain ⟨dv1, ds1, h1, h2, h3⟩ := h
  exact (h2.str h3 hb t hlen).mono fun e w' ⟨g1, g2, g3⟩ => ⟨g1, dv1, ds1, h1, g2, g3⟩
theorem Shown.byte (h : Shown V B b dv s W) (hb : Below W.heap.size W X) (c : UInt8) (hlen : s.1.length + 1 ≤ lim) :
    Calls Tryz.prog 81 #[.pointer (some ⟨b, 0, none⟩), .int .u8 ((c.toNat : Nat) : Int)] X fun e w' => e = .returned .nilIface ∧ Shown V B b dv (putS s [c]) w' := by
  obtain ⟨dv1, ds1, h1, h2, h3⟩ := h
  exact (h2.byte h3 hb c hlen).mono fun e w' ⟨g1, g2, g3⟩ => ⟨g1, dv1, ds1, h1, g2, g3⟩
theorem Shown.line (h : Shown V B b dv s W) (hb : Below W.heap.size W X) (hlen : (lineS s).1.length ≤ lim) :
    Calls Tryz.prog 62 #[.pointer (some ⟨b, 0, none⟩)] X fun e w' => e = .returned (.tuple #[]) ∧ Shown V B b dv (lineS s) w' := by
  obtain ⟨dv1, ds1, h1, h2, h3⟩ := shown_st (h.later hb)
  rw [← h2] at hlen ⊢
  exact (line_any h1 hlen).mono fun e w' ⟨g1, g2⟩ => ⟨g1, g2.after h3⟩
theorem Shown.word {d : Nat} {ww : St → List Pt → St} {fw : List Pt → Bool} (hw : WordW d ww fw) (h : Shown V B b dv s W) (hb : Below W.heap.size W X) (hH : Hd V B) {l : List Pt} {v : Value} (hl : PtsIn V B d l v) (hf : fw l = true) (hlen : (ww s l).1.length ≤ lim) :
    Calls Tryz.prog 101 #[.pointer (some ⟨b, 0, none⟩), v] X fun e w' => e = .returned (.tuple #[]) ∧ Shown V B b dv (ww s l) w' := by
  have hx := h.later hb
  obtain ⟨dv1, ds1, h1, h2, h3⟩ := shown_st hx
  rw [← h2] at hlen ⊢
  exact (hw X B b dv1 _ ds1 l v (hH.below hx.low) h1 (hl.below hx.low) hf hlen).mono fun e w' ⟨g1, g2⟩ => ⟨g1, g2.after h3⟩
theorem Shown.list {d : Nat} {wl : St → List Nd → St} {fl : List Nd → Bool} (hw : ListW d wl fl) (h : Shown V B b dv s W) (hb : Below W.heap.size W X) (hH : Hd V B) {l : List Nd} {v : Value} (hl : NdsIn V B d l v) (hf : fl l = true) (hlen : (wl s l).1.length ≤ lim) :
    Calls Tryz.prog 48 #[.pointer (some ⟨b, 0, none⟩), v] X fun e w' => e = .returned (.tuple #[]) ∧ Shown V B b dv (wl s l) w' := by
  have hx := h.later hb
  obtain ⟨dv1, ds1, h1, h2, h3⟩ := shown_st hx
  rw [← h2] at hlen ⊢
  exact (hw X B b dv1 _ ds1 l v (hH.below hx.low) h1 (hl.below hx.low) hf hlen).mono fun e w' ⟨g1, g2⟩ => ⟨g1, g2.after h3⟩
theorem Shown.node {d : Nat} {wn : St → Nd → St} {fn : Nd → Bool} (hw : NodeW d wn fn) (h : Shown V B b dv s W) (hb : Below W.heap.size W X) (hH : Hd V B) {x : Nd} {c : List Value} (hl : NdC V B d x c) (hf : fn x = true) (hlen : (wn s x).1.length ≤ lim) :
    Calls Tryz.prog 61 #[.pointer (some ⟨b, 0, none⟩), .agg c.toArray] X fun e w' => e = .returned (.tuple #[]) ∧ Shown V B b dv (wn s x) w' := by
  have hx := h.later hb
  obtain ⟨dv1, ds1, h1, h2, h3⟩ := shown_st hx
  rw [← h2] at hlen ⊢
  exact (hw X B b dv1 _ ds1 x c (hH.below hx.low) h1 (hl.keep fun _ _ _ _ hs => hs.below hx.low) hf hlen).mono fun e w' ⟨g1, g2⟩ => ⟨g1, g2.after h3⟩
end

set_option maxHeartbeats 1000000 in
set_option maxRecDepth 100000 in
theorem wblock_any {d : Nat} {wl : St → List Nd → St} {fl : List Nd → Bool} (hw : ListW d wl fl) (hg : Grow2 wl) {V W X : World} {B b : Nat} {dv : Value} {s : St} (h : Shown V B b dv s W) (hb : Below W.heap.size W X) (hH : Hd V B) (head : ByteArray) {l : List Nd} {v : Value} (hl : NdsIn V B d l v) (hf : fl l = true) (hlen : (blockS wl s (L head) l).1.length ≤ lim) :
    Calls Tryz.prog 103 #[.pointer (some ⟨b, 0, none⟩), .string head, v] X fun e w' => e = .returned (.tuple #[]) ∧ Shown V B b dv (blockS wl s (L head) l) w' := by
  have hl2 : (lineS (putS s (L head))).1.length ≤ lim := Nat.le_trans (hg _ _) hlen
  have C1 := Lib.hid ((h.later hb).str (Below.refl _ _) head (by
    have := Nat.le_trans (lineS_grow (putS s (L head))) hl2
    simpa [putS, L_size] using this))
  obtain ⟨a, cap, rfl, _⟩ := hl.shape
  have HL := Lib.hid hl
  have HH := Lib.hid hH
  have HW := Lib.hid hw
  have HF := Lib.hid hf
  have HLEN := Lib.hid hlen
  have HL2 := Lib.hid hl2
  clear h hb hl hH hw hf hlen hl2 hg
  go_enter Tryz.func103, Tryz.ntmps103
  go_wp2_with fail
  refine C1.out.mono ?_
  rintro e w1 ⟨rfl, hs1⟩
  have C2 := Lib.hid (hs1.line (Below.refl _ _) HL2.out)
  clear hs1
  go_wp2_with fail
  refine C2.out.mono ?_
  rintro e w2 ⟨rfl, hs2⟩
  have C3 := Lib.hid (hs2.list HW.out (Below.refl _ _) HH.out HL.out HF.out HLEN.out)
  clear hs2
  go_wp2_with fail
  refine C3.out.mono ?_
  rintro e w3 ⟨rfl, hs3⟩
  have HS3 := Lib.hid hs3
  clear hs3
  go_wp2_with fail
  go_end0
  exact ⟨rfl, HS3.out⟩

/-! ### lists that are written one behind the other -/
theorem redirs_snoc (wd : St → List Pt → St) (r : Rd) : ∀ (l : List Rd) (s : St) (bl : Bool), redirsS wd s (l ++ [r]) bl = redirS wd (nextS (redirsS wd s l bl) (bl || !l.isEmpty)) r
  | [], s, bl => by simp [redirsS]
  | a :: l, s, bl => by
    rw [List.cons_append, redirsS, redirs_snoc wd r l, redirsS]; simp
theorem assigns_snoc (wd : St → List Pt → St) (a : As) : ∀ (l : List As) (s : St) (bl : Bool), assignsS wd s (l ++ [a]) bl = wd (putS (nextS (assignsS wd s l bl) (bl || !l.isEmpty)) (L a.name ++ [61])) a.word
  | [], s, bl => by simp [assignsS]
  | x :: l, s, bl => by
    rw [List.cons_append, assignsS, assigns_snoc wd a l, assignsS]; simp
theorem words_snoc (wd : St → List Pt → St) (y : List Pt) : ∀ (l : List (List Pt)) (s : St) (bl : Bool), wordsS wd s (l ++ [y]) bl = wd (nextS (wordsS wd s l bl) (bl || !l.isEmpty)) y
  | [], s, bl => by simp [wordsS]
  | x :: l, s, bl => by
    rw [List.cons_append, wordsS, words_snoc wd y l, wordsS]; simp
theorem bars_snoc (wd : St → List Pt → St) (y : List Pt) : ∀ (l : List (List Pt)) (s : St) (bl : Bool), barsS wd s (l ++ [y]) bl = wd (bif bl || !l.isEmpty then putS (barsS wd s l bl) [32, 124, 32] else barsS wd s l bl) y
  | [], s, bl => by simp [barsS]
  | x :: l, s, bl => by
    rw [List.cons_append, barsS, bars_snoc wd y l, barsS]; simp
theorem join_snoc (nd : St → Nd → St) (sign : List UInt8) (y : List Nd) : ∀ (l : List (List Nd)) (s : St) (bl : Bool), joinS nd sign s (l ++ [y]) bl = oneS nd (bif bl || !l.isEmpty then putS (joinS nd sign s l bl) sign else joinS nd sign s l bl) y
  | [], s, bl => by simp [joinS]
  | x :: l, s, bl => by
    rw [List.cons_append, joinS, join_snoc nd sign y l, joinS]; simp
theorem take_snoc' {α : Type} {l : List α} {k : Nat} {x : α} (h : l[k]? = some x) : l.take (k + 1) = l.take k ++ [x] := by rw [List.take_add_one, h]; rfl
theorem take_empty {α : Type} {l : List α} {k : Nat} (h : k < l.length) : (!(l.take k).isEmpty) = decide (0 < k) := by
  cases k with
  | zero => rfl
  | succ k => cases l with
    | nil => simp at h
    | cons a l => rfl
/-- What has been written of a list so far is no longer than the whole. -/
theorem redirs_take_le {wd : St → List Pt → St} (hw : Grow2 wd) (l : List Rd) (s : St) (bl : Bool) (k : Nat) : (redirsS wd s (l.take k) bl).1.length ≤ (redirsS wd s l bl).1.length := by
  have : ∀ (l m : List Rd) (s : St) (bl : Bool), (redirsS wd s l bl).1.length ≤ (redirsS wd s (l ++ m) bl).1.length := by
    intro l m
    induction l with
    | nil => exact fun s bl => redirsS_grow hw m s bl
    | cons a l ih => exact fun s bl => ih _ _
  have h := this (l.take k) (l.drop k) s bl
  rwa [List.take_append_drop] at h
theorem assigns_take_le {wd : St → List Pt → St} (hw : Grow2 wd) (l : List As) (s : St) (bl : Bool) (k : Nat) : (assignsS wd s (l.take k) bl).1.length ≤ (assignsS wd s l bl).1.length := by
  have : ∀ (l m : List As) (s : St) (bl : Bool), (assignsS wd s l bl).1.length ≤ (assignsS wd s (l ++ m) bl).1.length := by
    intro l m
    induction l with
    | nil => exact fun s bl => assignsS_grow hw m s bl
    | cons a l ih => exact fun s bl => ih _ _
  have h := this (l.take k) (l.drop k) s bl
  rwa [List.take_append_drop] at h
theorem words_take_le {wd : St → List Pt → St} (hw : Grow2 wd) (l : List (List Pt)) (s : St) (bl : Bool) (k : Nat) : (wordsS wd s (l.take k) bl).1.length ≤ (wordsS wd s l bl).1.length := by
  have : ∀ (l m : List (List Pt)) (s : St) (bl : Bool), (wordsS wd s l bl).1.length ≤ (wordsS wd s (l ++ m) bl).1.length := by
    intro l m
    induction l with
    | nil => exact fun s bl => wordsS_grow hw m s bl
    | cons a l ih => exact fun s bl => ih _ _
  have h := this (l.take k) (l.drop k) s bl
  rwa [List.take_append_drop] at h
theorem bars_take_le {wd : St → List Pt → St} (hw : Grow2 wd) (l : List (List Pt)) (s : St) (bl : Bool) (k : Nat) : (barsS wd s (l.take k) bl).1.length ≤ (barsS wd s l bl).1.length := by
  have : ∀ (l m : List (List Pt)) (s : St) (bl : Bool), (barsS wd s l bl).1.length ≤ (barsS wd s (l ++ m) bl).1.length := by
    intro l m
    induction l with
    | nil => exact fun s bl => barsS_grow hw m s bl
    | cons a l ih => exact fun s bl => ih _ _
  have h := this (l.take k) (l.drop k) s bl
  rwa [List.take_append_drop] at h
theorem join_take_le {nd : St → Nd → St} (hn : Grow2 nd) (sign : List UInt8) (l : List (List Nd)) (s : St) (bl : Bool) (k : Nat) : (joinS nd sign s (l.take k) bl).1.length ≤ (joinS nd sign s l bl).1.length := by
  have : ∀ (l m : List (List Nd)) (s : St) (bl : Bool), (joinS nd sign s l bl).1.length ≤ (joinS nd sign s (l ++ m) bl).1.length := by
    intro l m
    induction l with
    | nil => exact fun s bl => joinS_grow hn sign m s bl
    | cons a l ih => exact fun s bl => ih _ _
  have h := this (l.take k) (l.drop k) s bl
  rwa [List.take_append_drop] at h
end Go.Proofs.YtnackmnoldkihaaGreatDoor
namespace Go.Proofs.YtnackmnoldkihaaGreatDoor
open Go.RowKit

theorem infoRd : (Tryz.prog.info? 31).map (fun i => (i.zero, i.size, i.bytes)) = some (some (.agg #[.int .i64 0, .string ByteArray.empty, .string ByteArray.empty, .slice none 0 0]), 4, 64) := by kernel_rfl
theorem fd_digits (n : Int) (h0 : 0 ≤ n) (h9 : n ≤ 9) : Lib.decDigits n.toNat = fdL n := by
  obtain ⟨k, rfl⟩ : ∃ k : Nat, n = k := ⟨n.toNat, by omega⟩
  have hk : k ≤ 9 := by omega
  rw [fdL, Int.toNat_natCast]
  clear h0 h9
  revert k
  decide +kernel

/-- One here-document more. -/
theorem Shown.push {V W W2 : World} {B b : Nat} {dv dv1 : Value} {out : List UInt8} {ds : List DocV} {r : Rd} {d n : Nat} {a : Option Addr} {c : Nat} {g cap : Nat} (hf : Fr V W B b dv dv1) (hw : Wr W B b dv1 out ds) (hr : RdC W B d r [.int .i64 r.fd, .string r.op, .string r.tag, .slice a n c]) (hz : ds.length + 1 ≤ out.length)
    (hown : W2.ownsRow B 31 4 (.slice (some ⟨g, 0, none⟩) (ds.length + 1) cap) (ds.length + 1) (ds.flatMap docCells ++ [.int .i64 r.fd, .string r.op, .string r.tag, .slice a n c])) (hg : W.grownBy W2 dv1.ownBlock) (hl : dv1.ownBlock = some g ∨ W.heap.size ≤ g) :
    Shown V B b dv (out, ds.map (·.1) ++ [r]) (W2.setCell ⟨b, 2, none⟩ (.slice (some ⟨g, 0, none⟩) (ds.length + 1) cap)) := by
  have hb2 : Below B W W2 := (Below.refl B W).grown hg hw.le fun k hk => (hw.far k hk).1
  have hblk : W2.heap[b]? = W.heap[b]? := hg.block b hw.lt (fun e => hw.ne e.symm)
  have hw2 : Wr W2 B b dv1 out ds ∨ True := .inr trivial
  obtain ⟨hB, ⟨v, p, h1, h2, h3⟩, h4, h5, h6⟩ := hw
  have h1' : W2.heap[b]? = some (.cells #[p, v, dv1] 84 (0, 0)) := hblk.trans h1
  have h3' : OwnB W2 B v out := h3.kept hg (by
    rcases h4.2 with ⟨hd, _⟩ | ⟨g2, _, cur, hd, _, hg2, _⟩
    · rcases h3.2 with ⟨hv, _⟩ | ⟨g3, _, _, hv, _⟩
      · left; rw [hv]; rfl
      · right; rw [hv, hd]; simp [Value.ownBlock]
    · right; rw [hd]; exact row_ne h3 hg2 (by decide))
  have hown' : W2.ownsRow B 31 4 (.slice (some ⟨g, 0, none⟩) (ds.length + 1) cap) (ds ++ [((r, .slice a n c) : DocV)]).length ((ds ++ [((r, .slice a n c) : DocV)]).flatMap docCells) := by
    rw [List.length_append, List.flatMap_append]
    simpa [docCells] using hown
  have hst := (Below.refl B W2).setCell (p := ⟨b, 2, none⟩) hB (Value.slice (some ⟨g, 0, none⟩) (ds.length + 1) cap)
  refine ⟨_, ds ++ [(r, .slice a n c)], by simp, ⟨hB, ⟨v, p, heap_put h1' 2 _, h2, row_set h3' (row_ne h3' h1' (by decide)) 2 _⟩, row_set hown' (row_ne hown' h1' (by decide)) 2 _, fun x hx => ?_, by rw [List.length_append]; exact hz⟩, hf.trans ⟨hb2.trans hst, fun k o ho hb hd hu => ?_, fun k hk => ?_⟩⟩
  · rcases List.mem_append.1 hx with hx | hx
    · obtain ⟨d', hd'⟩ := h5 x hx
      exact ⟨d', hd'.keep fun _ _ _ _ hs => hs.below (hb2.trans hst)⟩
    · simp at hx
      subst hx
      exact ⟨d, hr.keep fun _ _ _ _ hs => hs.below (hb2.trans hst)⟩
  · rw [Below.heap_setCell _ _ _ _ hb, hg.block k (Array.getElem?_eq_some_iff.1 ho).1 (fun e => hd e.symm)]
    exact ho
  · simp [Value.ownBlock] at hk
    subst hk
    exact hl

theorem Wr.grown_docs {W W2 : World} {B b : Nat} {dv : Value} {out : List UInt8} {ds : List DocV} (h : Wr W B b dv out ds) (hg : W.grownBy W2 dv.ownBlock) : W2.cell? ⟨b, 2, none⟩ = some dv ∧ W2.frozen? ⟨b, 2, none⟩ = false := by
  obtain ⟨v, p, h1⟩ := h.block
  have h2 : W2.heap[b]? = some (.cells #[p, v, dv] 84 (0, 0)) := (hg.block b h.lt (fun e => h.ne e.symm)).trans h1
  exact ⟨by rw [Lib.cell_of_heap h2]; rfl, Lib.frozen_of_heap h2 2⟩
theorem litr_spell (b : Bool) : (bif b then true else false) = b := by cases b <;> rfl

set_option maxHeartbeats 4000000 in
set_option maxRecDepth 100000 in
theorem wredirs_any {d : Nat} {wd : St → List Pt → St} {fw : List Pt → Bool} (hwd : WordW d wd fw) (hg : Grow2 wd) {W : World} {B b : Nat} {dv : Value} {out : List UInt8} {ds : List DocV} (h : Wr W B b dv out ds) (hH : Hd W B) {l : List Rd} {v : Value} (hl : RdsIn W B d l v) (hf : l.all (redirF fw) = true) (bl : Bool) (hlen : (redirsS wd (stOf out ds) l bl).1.length ≤ lim) :
    Calls Tryz.prog 80 #[.pointer (some ⟨b, 0, none⟩), v, .bool bl] W fun e w' => e = .returned (.tuple #[]) ∧ Shown W B b dv (redirsS wd (stOf out ds) l bl) w' := by
  obtain ⟨a, cap, rfl, hz⟩ := hl.len
  obtain ⟨n, hn⟩ : ∃ n, l.length = n := ⟨_, rfl⟩
  rw [hn] at hl hz ⊢
  have HL := Lib.hid hl
  have HN := Lib.hid hn
  have HH := Lib.hid hH
  have HWD := Lib.hid hwd
  have HG := Lib.hid hg
  have HW := Lib.hid h
  have HFA := Lib.hid (List.all_eq_true.1 hf)
  have HLEN : Hid (∀ k, (redirsS wd (stOf out ds) (l.take k) bl).1.length ≤ lim) := Lib.hid fun k => Nat.le_trans (redirs_take_le hg l _ bl k) hlen
  clear hl hn hH hwd hg h hf hlen
  go_enter Tryz.func80, Tryz.ntmps80
  go_wp2_with fail
  go_loopw [2, 10] (fun t i U => ∃ (k : Nat) (q : Bool), k ≤ n ∧ i = .int .i64 k ∧ t = .bool q ∧ q = (bl || decide (0 < k)) ∧ Shown W B b dv (redirsS wd (stOf out ds) (l.take k) bl) U) (fun _ i _ => n - (intOf i).toNat)
  case atStart => exact ⟨0, bl, Nat.zero_le _, rfl, rfl, by simp, Shown.start HW.out⟩
  case round =>
    obtain ⟨k, q, hk, rfl, rfl, hq, hsh⟩ := hrel
    have HQ := Lib.hid hq
    obtain ⟨s, hs⟩ : ∃ s, redirsS wd (stOf out ds) (l.take k) bl = s := ⟨_, rfl⟩
    rw [hs] at hsh
    obtain ⟨dv1, ds1, hw1, hst, hf1⟩ := shown_st hsh
    have HS := Lib.hid hs
    have HW1 := Lib.hid hw1
    have HST := Lib.hid hst
    have HF1 := Lib.hid hf1
    have hB := hf1.low
    have hBW := HW.out.le
    have hHw := HH.out.below hB
    have HHW := Lib.hid hHw
    clear hsh hw1 hst hf1 hq hs hHw
    by_cases hlt : k < n
    · obtain ⟨x, hx⟩ : ∃ x, l[k]? = .some x := ⟨_, List.getElem?_eq_getElem (by rw [HN.out]; exact hlt)⟩
      have hl1 := HL.out.imp (fun xs hs => hs.below hB) (F' := RdC wr B d) fun x _ c h => h.keep fun _ _ _ _ hs => hs.below hB
      obtain ⟨b1, o, c, hi, hbB, hce, hC, _⟩ := hl1.at 32 31 Tryz.underlying32 (by kernel_rfl) hx
      have hfx := HFA.out x (List.mem_of_getElem? hx)
      rw [redirF, Bool.and_eq_true, Bool.and_eq_true, decide_eq_true_eq, decide_eq_true_eq] at hfx
      obtain ⟨⟨hfd0, hfd9⟩, hfw⟩ := hfx
      have HFW := Lib.hid hfw
      have HX : Hid (redirsS wd (stOf out ds) (l.take (k + 1)) bl = redirS wd (nextS s q) x) := Lib.hid (by
        rw [take_snoc' hx, redirs_snoc, HS.out, HQ.out, take_empty (by rw [HN.out]; exact hlt)])
      have HLX : Hid ((redirS wd (nextS s q) x).1.length ≤ lim) := Lib.hid (by rw [← HX.out]; exact HLEN.out (k + 1))
      have HC := Lib.hid hC
      obtain ⟨a1, c1, rfl, ⟨hz1, hz2⟩, _, hzw, hxw⟩ := hC.open
      have e0 := hce 0 _ rfl
      have e1 := hce 1 _ rfl
      have e2 := hce 2 _ rfl
      have e3 := hce 3 _ rfl
      have hbB' := Nat.lt_of_lt_of_le hbB HW1.out.le
      rw [Nat.add_zero] at e0
      -- the round's own world, the box made
      obtain ⟨X, hX⟩ : ∃ X, X = wr.alloc (.cells #[.int .i64 x.fd, .string x.op, .string x.tag, .slice a1 x.word.length c1] 31) := ⟨_, rfl⟩
      have HBX : Hid (Below wr.heap.size wr X) := Lib.hid (by rw [hX]; exact (Below.refl _ _).alloc (Nat.le_refl _) _)
      have HKX : Hid (Blk X wr.heap.size 31 #[.int .i64 x.fd, .string x.op, .string x.tag, .slice a1 x.word.length c1]) := Lib.hid (by rw [hX]; exact Blk.new _ _ _)
      have HXE := Lib.hid hX
      have hgX : wr.heap.size < X.heap.size := by rw [hX]; simp
      have HSX : Hid (Shown X B b dv1 s X) := Lib.hid (by have := Shown.start (HW1.out.below HBX.out); rwa [HST.out] at this)
      have HFX : Hid (Fr W X B b dv dv1) := Lib.hid (HF1.out.later HBX.out HW1.out.le)
      have hgb : wr.heap.size ≠ b := by have := HW1.out.lt; omega
      have HGD : Hid (dv1.ownBlock ≠ some wr.heap.size) := Lib.hid fun e => by have := HW1.out.far _ e; omega
      have HHX : Hid (Hd X B) := Lib.hid (HHW.out.below (HBX.out.mono HW1.out.le))
      have HXW : Hid (PtsIn X B d x.word (.slice a1 x.word.length c1)) := Lib.hid (hxw.below (HBX.out.mono HW1.out.le))
      have HCX : Hid (RdC X B d x [.int .i64 x.fd, .string x.op, .string x.tag, .slice a1 x.word.length c1]) := Lib.hid (HC.out.keep fun _ _ _ _ hs => hs.below (HBX.out.mono HW1.out.le))
      clear hx hce hC hl1 hX hxw hfw
      -- the parts of what is written
      have HRX : Hid (redirS wd (nextS s q) x = bif L x.op == [60, 60] then ((putS (putS (nextS s q) (fdL x.fd ++ L x.op)) (bif litrB x.word then 39 :: (L x.tag ++ [39]) else L x.tag)).1, (nextS s q).2 ++ [x]) else wd (putS (nextS s q) (fdL x.fd ++ L x.op)) x.word) := Lib.hid rfl
      have HZ2 : Hid ((putS (nextS s q) (fdL x.fd ++ L x.op)).1.length ≤ lim) := Lib.hid (by
        have h1 := HLX.out
        rw [HRX.out] at h1
        cases hc : L x.op == [60, 60] with
        | true => rw [hc] at h1; exact Nat.le_trans (putS_grow _ _) h1
        | false => rw [hc] at h1; exact Nat.le_trans (HG.out _ _) h1)
      have HZ1 : Hid ((nextS s q).1.length ≤ lim) := Lib.hid (Nat.le_trans (putS_grow _ _) HZ2.out)
      -- the blank
      have CI : Hid (∀ U, Calls Tryz.prog 105 #[.int .i64 x.fd] U fun e w' => e = .returned (.string (S (fdL x.fd))) ∧ U = w') := Lib.hid fun U => by
        have h1 := Tryz.strconv_Itoa_small x.fd.toNat (by omega) U
        rw [Int.toNat_of_nonneg hfd0, fd_digits _ hfd0 hfd9] at h1
        exact h1.mono fun e w' h => ⟨h.1, h.2.symm⟩
      obtain ⟨fs, hfs⟩ : ∃ f, f = S (fdL x.fd) := ⟨_, rfl⟩
      have hfz : fs.size = 1 := by rw [hfs]; rfl
      have HFS : Hid (L fs = fdL x.fd) := Lib.hid (by rw [hfs, L_S])
      rw [← hfs] at CI
      have k1 : ∀ V : World, (Op.stringOp .add fs x.op).run Tryz.prog V = .ok (.string (fs ++ x.op)) V := fun V => run_string_add_sum V _ _ (by omega)
      clear hfs
      have HS2 : Hid (∀ q', putS (nextS s q') (L (fs ++ x.op)) = putS (nextS s q') (fdL x.fd ++ L x.op)) := Lib.hid fun q' => by rw [L_append, HFS.out]
      cases hop : (L x.op == [60, 60]) with
      | false =>
        have eo : (x.op.toList == [60, 60]) = false := by rw [toList_L]; exact hop
        have HRE : Hid (redirS wd (nextS s q) x = wd (putS (nextS s q) (fdL x.fd ++ L x.op)) x.word) := Lib.hid (by rw [HRX.out, hop]; rfl)
        clear hop HRX
        cases q with
        | false =>
          have hsa : Shown X B b dv1 (nextS s false) X := HSX.out
          go_wp2_with fail
          rw [← HXE.out]
          -- X: the world behind the blank, what has been shown there, its cells
          have HSA := Lib.hid hsa
          have HKA := Lib.hid (hsa.blk HKX.out hgb HGD.out (by decide))
          clear hsa
          have y0 := HKA.out.cell 0
          have y1 := HKA.out.cell 1
          have y2 := HKA.out.cell 2
          have y3 := HKA.out.cell 3
          have yl := HKA.out.lt
          simp at y0 y1 y2 y3
          have CW : Hid (∀ U u, Below (X).heap.size X U → (nextS s false).1.length + u.size ≤ lim → Calls Tryz.prog 78 #[.pointer (some ⟨b, 0, none⟩), .string u] U fun e w' => e = .returned (.tuple #[.int .i64 u.size, .nilIface]) ∧ Shown X B b dv1 (putS (nextS s false) (L u)) w' ∧ Blk w' wr.heap.size 31 #[.int .i64 x.fd, .string x.op, .string x.tag, .slice a1 x.word.length c1]) := Lib.hid fun U u hU hu =>
            (HSA.out.str hU u hu).mono fun e w' ⟨g1, g2⟩ => ⟨g1, g2, g2.blk HKX.out hgb HGD.out (by decide)⟩
          go_wp2_with fail
          go_region_held3 (fun w' => w'.cell? ⟨wr.heap.size, 0, none⟩ = some (.int .i64 x.fd) ∧ w'.cell? ⟨wr.heap.size, 1, none⟩ = some (.string x.op)) (go_keep)
            (first
              | (go_at_call 105; with_reducible refine (CI.out _).mono ?_; rintro e w2 ⟨rfl, rfl⟩)
              | (go_at_call 78; with_reducible refine (CW.out _ _ (by repeat' (first | (with_reducible assumption) | (with_reducible exact Below.refl _ _) | (with_reducible refine below_drewN ?_ _) | (with_reducible refine below_bytes ?_ ?_ _) | (with_reducible refine Below.alloc ?_ ?_ _) | (with_reducible refine Below.drew ?_) | (with_reducible refine Below.setCell ?_ ?_ _) | go_size)) ?_).mono ?_; (have := HZ2.out; rw [putS] at this; simp [L_size] at this ⊢; have hq1 : (fdL x.fd).length = 1 := rfl; omega); rintro e w3 ⟨rfl, hs3, hk3⟩; have d0 := hk3.cell 0; have d1 := hk3.cell 1; simp at d0 d1))
          all_goals
            rw [HS2.out] at hs3
            have CWD := Lib.hid (hs3.word HWD.out (Below.refl _ _) HHX.out HXW.out HFW.out (by rw [← HRE.out]; exact HLX.out))
            have y1' := hk3.cell 1
            have y3' := hk3.cell 3
            simp at y1' y3'
            clear hs3 hk3
            go_wp2_with fail
            refine CWD.out.mono ?_
            rintro e w4 ⟨rfl, hs4⟩
            have HSE : Hid (Shown X B b dv1 (redirS wd (nextS s false) x) w4) := Lib.hid (by rw [HRE.out]; exact hs4)
            clear hs4
            go_wp2_with fail
            go_roundw
            case rel => exact ⟨k + 1, true, by omega, by go_num, rfl, by simp, by rw [HX.out]; exact Shown.after HFX.out HSE.out⟩
            case measure => simp [intOf]; omega
        | true =>
          have CB := Lib.hid (HSX.out.byte (Below.refl _ _) 32 (by have := HZ1.out; simpa [nextS, putS] using this))
          go_wp2_with fail
          rw [← HXE.out]
          refine CB.out.mono ?_
          rintro e w2 ⟨rfl, hsa⟩
          -- w2: the world behind the blank, what has been shown there, its cells
          have HSA := Lib.hid hsa
          have HKA := Lib.hid (hsa.blk HKX.out hgb HGD.out (by decide))
          clear hsa
          have y0 := HKA.out.cell 0
          have y1 := HKA.out.cell 1
          have y2 := HKA.out.cell 2
          have y3 := HKA.out.cell 3
          have yl := HKA.out.lt
          simp at y0 y1 y2 y3
          have CW : Hid (∀ U u, Below (w2).heap.size w2 U → (nextS s true).1.length + u.size ≤ lim → Calls Tryz.prog 78 #[.pointer (some ⟨b, 0, none⟩), .string u] U fun e w' => e = .returned (.tuple #[.int .i64 u.size, .nilIface]) ∧ Shown X B b dv1 (putS (nextS s true) (L u)) w' ∧ Blk w' wr.heap.size 31 #[.int .i64 x.fd, .string x.op, .string x.tag, .slice a1 x.word.length c1]) := Lib.hid fun U u hU hu =>
            (HSA.out.str hU u hu).mono fun e w' ⟨g1, g2⟩ => ⟨g1, g2, g2.blk HKX.out hgb HGD.out (by decide)⟩
          go_wp2_with fail
          go_region_held3 (fun w' => w'.cell? ⟨wr.heap.size, 0, none⟩ = some (.int .i64 x.fd) ∧ w'.cell? ⟨wr.heap.size, 1, none⟩ = some (.string x.op)) (go_keep)
            (first
              | (go_at_call 105; with_reducible refine (CI.out _).mono ?_; rintro e w2 ⟨rfl, rfl⟩)
              | (go_at_call 78; with_reducible refine (CW.out _ _ (by repeat' (first | (with_reducible assumption) | (with_reducible exact Below.refl _ _) | (with_reducible refine below_drewN ?_ _) | (with_reducible refine below_bytes ?_ ?_ _) | (with_reducible refine Below.alloc ?_ ?_ _) | (with_reducible refine Below.drew ?_) | (with_reducible refine Below.setCell ?_ ?_ _) | go_size)) ?_).mono ?_; (have := HZ2.out; rw [putS] at this; simp [L_size] at this ⊢; have hq1 : (fdL x.fd).length = 1 := rfl; omega); rintro e w3 ⟨rfl, hs3, hk3⟩; have d0 := hk3.cell 0; have d1 := hk3.cell 1; simp at d0 d1))
          all_goals
            rw [HS2.out] at hs3
            have CWD := Lib.hid (hs3.word HWD.out (Below.refl _ _) HHX.out HXW.out HFW.out (by rw [← HRE.out]; exact HLX.out))
            have y1' := hk3.cell 1
            have y3' := hk3.cell 3
            simp at y1' y3'
            clear hs3 hk3
            go_wp2_with fail
            refine CWD.out.mono ?_
            rintro e w4 ⟨rfl, hs4⟩
            have HSE : Hid (Shown X B b dv1 (redirS wd (nextS s true) x) w4) := Lib.hid (by rw [HRE.out]; exact hs4)
            clear hs4
            go_wp2_with fail
            go_roundw
            case rel => exact ⟨k + 1, true, by omega, by go_num, rfl, by simp, by rw [HX.out]; exact Shown.after HFX.out HSE.out⟩
            case measure => simp [intOf]; omega
      | true =>
        have eo : (x.op.toList == [60, 60]) = true := by rw [toList_L]; exact hop
        have HRE : Hid (redirS wd (nextS s q) x = ((putS (putS (nextS s q) (fdL x.fd ++ L x.op)) (bif litrB x.word then 39 :: (L x.tag ++ [39]) else L x.tag)).1, (nextS s q).2 ++ [x])) := Lib.hid (by rw [HRX.out, hop]; rfl)
        have hol : x.op.size = 2 := by rw [← L_size, eq_of_beq hop]; rfl
        clear hop HRX
        have HZ3 : Hid (∀ q', q' = q → (putS (putS (nextS s q') (fdL x.fd ++ L x.op)) (bif litrB x.word then 39 :: (L x.tag ++ [39]) else L x.tag)).1.length ≤ lim) := Lib.hid fun q' e => by
          have h1 := HLX.out
          rw [HRE.out] at h1
          rw [e]; exact h1
        have CLt : Hid (∀ U, Below B X U → B ≤ U.heap.size → Calls Tryz.prog 15 #[.agg #[.int .i64 x.fd, .string x.op, .string x.tag, .slice a1 x.word.length c1]] U fun e w' => e = .returned (.bool (litrB x.word)) ∧ Below U.heap.size U w') := Lib.hid fun U hU hB => literal_any x U d _ (HCX.out.keep fun _ _ _ _ hs => (hs.below hU).mono hB)
        obtain ⟨lt, hlt0⟩ : ∃ b, litrB x.word = b := ⟨_, rfl⟩
        rw [hlt0] at CLt HRE HZ3
        clear hlt0
        have k2 : ∀ V : World, (Op.stringOp .add (⟨#[39]⟩ : ByteArray) x.tag).run Tryz.prog V = .ok (.string ((⟨#[39]⟩ : ByteArray) ++ x.tag)) V := fun V => run_string_add_sum V _ _ (by simp; omega)
        have k3 : ∀ V : World, (Op.stringOp .add ((⟨#[39]⟩ : ByteArray) ++ x.tag) ⟨#[39]⟩).run Tryz.prog V = .ok (.string (((⟨#[39]⟩ : ByteArray) ++ x.tag) ++ ⟨#[39]⟩)) V := fun V => run_string_add_sum V _ _ (by simp; omega)
        have HSD : Hid (s.2.length ≤ s.1.length) := Lib.hid (by have h1 := HW1.out.2.2.2.2; have h2 := congrArg (fun z : St => z.2.length) HST.out; simp only [stOf, List.length_map] at h2; omega)
        cases q with
        | false =>
          have hsa : Shown X B b dv1 (nextS s false) X := HSX.out
          go_wp2_with fail
          rw [← HXE.out]
          -- X: the world behind the blank, what has been shown there, its cells
          have HSA := Lib.hid hsa
          have HKA := Lib.hid (hsa.blk HKX.out hgb HGD.out (by decide))
          clear hsa
          have y0 := HKA.out.cell 0
          have y1 := HKA.out.cell 1
          have y2 := HKA.out.cell 2
          have y3 := HKA.out.cell 3
          have yl := HKA.out.lt
          simp at y0 y1 y2 y3
          have CW : Hid (∀ U u, Below (X).heap.size X U → (nextS s false).1.length + u.size ≤ lim → Calls Tryz.prog 78 #[.pointer (some ⟨b, 0, none⟩), .string u] U fun e w' => e = .returned (.tuple #[.int .i64 u.size, .nilIface]) ∧ Shown X B b dv1 (putS (nextS s false) (L u)) w' ∧ Blk w' wr.heap.size 31 #[.int .i64 x.fd, .string x.op, .string x.tag, .slice a1 x.word.length c1]) := Lib.hid fun U u hU hu =>
            (HSA.out.str hU u hu).mono fun e w' ⟨g1, g2⟩ => ⟨g1, g2, g2.blk HKX.out hgb HGD.out (by decide)⟩
          go_wp2_with fail
          go_region_held3 (fun w' => w'.cell? ⟨wr.heap.size, 0, none⟩ = some (.int .i64 x.fd) ∧ w'.cell? ⟨wr.heap.size, 1, none⟩ = some (.string x.op)) (go_keep)
            (first
              | (go_at_call 105; with_reducible refine (CI.out _).mono ?_; rintro e w2 ⟨rfl, rfl⟩)
              | (go_at_call 78; with_reducible refine (CW.out _ _ (by repeat' (first | (with_reducible assumption) | (with_reducible exact Below.refl _ _) | (with_reducible refine below_drewN ?_ _) | (with_reducible refine below_bytes ?_ ?_ _) | (with_reducible refine Below.alloc ?_ ?_ _) | (with_reducible refine Below.drew ?_) | (with_reducible refine Below.setCell ?_ ?_ _) | go_size)) ?_).mono ?_; (have := HZ2.out; rw [putS] at this; simp [L_size] at this ⊢; have hq1 : (fdL x.fd).length = 1 := rfl; omega); rintro e w3 ⟨rfl, hs3, hk3⟩; have d0 := hk3.cell 0; have d1 := hk3.cell 1; simp at d0 d1))
          all_goals
            rw [HS2.out] at hs3
            have CL3 := Lib.hid (CLt.out w3 hs3.low hs3.le)
            have HS3 := Lib.hid hs3
            have HK3 := Lib.hid hk3
            clear d0 d1 hs3 hk3 y0 y1 y2 y3 yl
            have z0 := HK3.out.cell 0
            have z1 := HK3.out.cell 1
            have z2 := HK3.out.cell 2
            have z3 := HK3.out.cell 3
            have zl := HK3.out.lt
            simp at z0 z1 z2 z3
            go_wp2_with fail
            refine CL3.out.mono ?_
            rintro e w4 ⟨rfl, hb4⟩
            have HS4 := Lib.hid (HS3.out.later hb4)
            have HK4 := Lib.hid (HK3.out.below hb4 HK3.out.lt)
            clear hb4 z0 z1 z2 z3 zl CL3
            have z0 := HK4.out.cell 0
            have z1 := HK4.out.cell 1
            have z2 := HK4.out.cell 2
            have z3 := HK4.out.cell 3
            have zl := HK4.out.lt
            simp at z0 z1 z2 z3
            cases lt with
            | true =>
              go_wp2_with fail
              go_still_tail 7, (by kernel_rfl)
              go_wp2_with fail
              refine (HS4.out.str (by repeat' (first | (with_reducible assumption) | (with_reducible exact Below.refl _ _) | (with_reducible refine below_drewN ?_ _) | (with_reducible refine below_bytes ?_ ?_ _) | (with_reducible refine Below.alloc ?_ ?_ _) | (with_reducible refine Below.drew ?_) | (with_reducible refine Below.setCell ?_ ?_ _) | go_size)) _ (by have := HZ3.out false rfl; simp [putS, L_size] at this ⊢; have hq1 : (fdL x.fd).length = 1 := rfl; omega)).mono ?_
              rintro e w5 ⟨rfl, hs5⟩
              have hs5 : Shown X B b dv1 (putS (putS (nextS s false) (fdL x.fd ++ L x.op)) (39 :: (L x.tag ++ [39]))) w5 := by simpa [L_append] using hs5
              clear z0 z1 z2 z3 zl
              -- behind the tag: w5, hs5
              have HK5 := Lib.hid (hs5.blk HKX.out hgb HGD.out (by decide))
              obtain ⟨dv2, ds2, hw5, hst5, hf5⟩ := shown_st hs5
              have hlow5 := hs5.low
              obtain ⟨da, dc, rfl⟩ := hw5.shape
              obtain ⟨n2, hn2⟩ : ∃ n, ds2.length = n := ⟨_, rfl⟩
              obtain ⟨o5, ho5⟩ : ∃ o, (putS (putS (nextS s false) (fdL x.fd ++ L x.op)) (39 :: (L x.tag ++ [39]))).1 = o := ⟨_, rfl⟩
              have hn2o : n2 + 1 ≤ o5.length := by
                have h1 := hst5
                have h2 : n2 ≤ (nextS s false).1.length := by
                  have e1 := congrArg (fun z : St => z.2.length) h1
                  have e2 : (nextS s false).2 = s.2 := rfl
                  have e3 := HSD.out
                  have e4 := nextS_grow s false
                  simp only [stOf, putS, List.length_map, e2] at e1
                  omega
                have h3 : o5.length = (nextS s false).1.length + 3 + (39 :: (L x.tag ++ [39])).length := by rw [← ho5]; simp [putS, L_size, hol, fdL]; omega
                omega
              have hlim5 : o5.length ≤ lim := by rw [← ho5]; have := HZ3.out false rfl; simpa using this
              unfold lim at hlim5
              rw [ho5] at hw5 hst5
              have HST5 : Hid (ds2.map (·.1) = (nextS s false).2) := Lib.hid (by have := congrArg Prod.snd hst5; simpa [stOf, putS] using this)
              rw [hn2] at hw5 hf5
              have HN2 := Lib.hid hn2
              have HO5 := Lib.hid ho5
              obtain ⟨cdoc, fdoc⟩ := hw5.docs
              have hb5 := hw5.lt
              have hle5 := hw5.le
              have HOW := Lib.hid hw5.2.2.1
              rw [hn2] at HOW
              have HW5 := Lib.hid hw5
              have HF5 := Lib.hid hf5
              have HC5 : Hid (RdC w5 B d x [.int .i64 x.fd, .string x.op, .string x.tag, .slice a1 x.word.length c1]) := Lib.hid (HCX.out.keep fun _ _ _ _ hs => hs.below hlow5)
              have z0 := HK5.out.cell 0
              have z1 := HK5.out.cell 1
              have z2 := HK5.out.cell 2
              have z3 := HK5.out.cell 3
              have zl := HK5.out.lt
              simp at z0 z1 z2 z3
              clear hs5 hw5 hf5 hst5 hn2 ho5 hlow5
              go_wp2_with fail
              go_region_law (refine step_append_sl rfl _ _ 32 rfl B 31 Tryz.underlying32 infoRd rfl (by decide) (v := .slice da n2 dc) (n := n2) (xs := ds2.flatMap docCells) rfl (by first | exact (own_below HOW.out (Below.drew (Below.refl _ _))).alloc _ | exact own_below (HOW.out.alloc _) (Below.drew (Below.refl _ _))) (m := 1) (news := [.int .i64 x.fd, .string x.op, .string x.tag, .slice a1 x.word.length c1]) rfl (sl_made_at _ #[.int .i64 x.fd, .string x.op, .string x.tag, .slice a1 x.word.length c1] _ 1 4 rfl (by unfold maxLen; omega) (by simp)) (by omega) (by intro u hu; simp at hu; rcases hu with rfl | rfl | rfl | rfl <;> rfl) (by omega) (by simp; omega) ?_; intro g1 cap1 w6 hown hgrow hlie hglt; have hg6 : (w5.alloc (.cells #[.int .i64 x.fd, .string x.op, .string x.tag, .slice a1 x.word.length c1] 31)).grownBy w6 (Value.slice da n2 dc).ownBlock := ⟨hgrow.os, hgrow.tape, hgrow.output, hgrow.size, hgrow.block⟩; have HP6 := Lib.hid (Shown.push ((HF5.out.later ((Below.refl _ _).alloc (Nat.le_refl _) _) hle5)) (HW5.out.below ((Below.refl _ _).alloc (Nat.le_refl _) _)) (HC5.out.keep fun _ _ _ _ hs => hs.below ((Below.refl _ _).alloc hle5 _)) (by rw [HN2.out]; exact hn2o) (by rw [HN2.out]; exact hown) hg6 (hlie.imp id fun e => by rw [e]; simp)); have hcf6 := (HW5.out.below ((Below.refl _ _).alloc (Nat.le_refl _) _)).grown_docs hg6; have c6 := hcf6.1; have f6 := hcf6.2; clear hcf6 hown hgrow hlie hg6)
              all_goals
                have HSE : Hid (Shown X B b dv1 (redirS wd (nextS s false) x) _) := Lib.hid (by
                  rw [HRE.out]
                  have h1 := HP6.out
                  rw [HN2.out, HST5.out, ← HO5.out] at h1
                  exact h1)
                go_wp2_with fail
                go_roundw
                case rel => exact ⟨k + 1, true, by omega, by go_num, rfl, by simp, by rw [HX.out]; exact Shown.after HFX.out HSE.out⟩
                case measure => simp [intOf]; omega
            | false =>
              go_wp2_with fail
              go_still_tail 5, (by kernel_rfl)
              go_wp2_with fail
              refine (HS4.out.str (by repeat' (first | (with_reducible assumption) | (with_reducible exact Below.refl _ _) | (with_reducible refine below_drewN ?_ _) | (with_reducible refine below_bytes ?_ ?_ _) | (with_reducible refine Below.alloc ?_ ?_ _) | (with_reducible refine Below.drew ?_) | (with_reducible refine Below.setCell ?_ ?_ _) | go_size)) _ (by have := HZ3.out false rfl; simp [putS, L_size] at this ⊢; have hq1 : (fdL x.fd).length = 1 := rfl; omega)).mono ?_
              rintro e w5 ⟨rfl, hs5⟩
              clear z0 z1 z2 z3 zl
              -- behind the tag: w5, hs5
              have HK5 := Lib.hid (hs5.blk HKX.out hgb HGD.out (by decide))
              obtain ⟨dv2, ds2, hw5, hst5, hf5⟩ := shown_st hs5
              have hlow5 := hs5.low
              obtain ⟨da, dc, rfl⟩ := hw5.shape
              obtain ⟨n2, hn2⟩ : ∃ n, ds2.length = n := ⟨_, rfl⟩
              obtain ⟨o5, ho5⟩ : ∃ o, (putS (putS (nextS s false) (fdL x.fd ++ L x.op)) (L x.tag)).1 = o := ⟨_, rfl⟩
              have hn2o : n2 + 1 ≤ o5.length := by
                have h1 := hst5
                have h2 : n2 ≤ (nextS s false).1.length := by
                  have e1 := congrArg (fun z : St => z.2.length) h1
                  have e2 : (nextS s false).2 = s.2 := rfl
                  have e3 := HSD.out
                  have e4 := nextS_grow s false
                  simp only [stOf, putS, List.length_map, e2] at e1
                  omega
                have h3 : o5.length = (nextS s false).1.length + 3 + (L x.tag).length := by rw [← ho5]; simp [putS, L_size, hol, fdL]; omega
                omega
              have hlim5 : o5.length ≤ lim := by rw [← ho5]; have := HZ3.out false rfl; simpa using this
              unfold lim at hlim5
              rw [ho5] at hw5 hst5
              have HST5 : Hid (ds2.map (·.1) = (nextS s false).2) := Lib.hid (by have := congrArg Prod.snd hst5; simpa [stOf, putS] using this)
              rw [hn2] at hw5 hf5
              have HN2 := Lib.hid hn2
              have HO5 := Lib.hid ho5
              obtain ⟨cdoc, fdoc⟩ := hw5.docs
              have hb5 := hw5.lt
              have hle5 := hw5.le
              have HOW := Lib.hid hw5.2.2.1
              rw [hn2] at HOW
              have HW5 := Lib.hid hw5
              have HF5 := Lib.hid hf5
              have HC5 : Hid (RdC w5 B d x [.int .i64 x.fd, .string x.op, .string x.tag, .slice a1 x.word.length c1]) := Lib.hid (HCX.out.keep fun _ _ _ _ hs => hs.below hlow5)
              have z0 := HK5.out.cell 0
              have z1 := HK5.out.cell 1
              have z2 := HK5.out.cell 2
              have z3 := HK5.out.cell 3
              have zl := HK5.out.lt
              simp at z0 z1 z2 z3
              clear hs5 hw5 hf5 hst5 hn2 ho5 hlow5
              go_wp2_with fail
              go_region_law (refine step_append_sl rfl _ _ 32 rfl B 31 Tryz.underlying32 infoRd rfl (by decide) (v := .slice da n2 dc) (n := n2) (xs := ds2.flatMap docCells) rfl (by first | exact (own_below HOW.out (Below.drew (Below.refl _ _))).alloc _ | exact own_below (HOW.out.alloc _) (Below.drew (Below.refl _ _))) (m := 1) (news := [.int .i64 x.fd, .string x.op, .string x.tag, .slice a1 x.word.length c1]) rfl (sl_made_at _ #[.int .i64 x.fd, .string x.op, .string x.tag, .slice a1 x.word.length c1] _ 1 4 rfl (by unfold maxLen; omega) (by simp)) (by omega) (by intro u hu; simp at hu; rcases hu with rfl | rfl | rfl | rfl <;> rfl) (by omega) (by simp; omega) ?_; intro g1 cap1 w6 hown hgrow hlie hglt; have hg6 : (w5.alloc (.cells #[.int .i64 x.fd, .string x.op, .string x.tag, .slice a1 x.word.length c1] 31)).grownBy w6 (Value.slice da n2 dc).ownBlock := ⟨hgrow.os, hgrow.tape, hgrow.output, hgrow.size, hgrow.block⟩; have HP6 := Lib.hid (Shown.push ((HF5.out.later ((Below.refl _ _).alloc (Nat.le_refl _) _) hle5)) (HW5.out.below ((Below.refl _ _).alloc (Nat.le_refl _) _)) (HC5.out.keep fun _ _ _ _ hs => hs.below ((Below.refl _ _).alloc hle5 _)) (by rw [HN2.out]; exact hn2o) (by rw [HN2.out]; exact hown) hg6 (hlie.imp id fun e => by rw [e]; simp)); have hcf6 := (HW5.out.below ((Below.refl _ _).alloc (Nat.le_refl _) _)).grown_docs hg6; have c6 := hcf6.1; have f6 := hcf6.2; clear hcf6 hown hgrow hlie hg6)
              all_goals
                have HSE : Hid (Shown X B b dv1 (redirS wd (nextS s false) x) _) := Lib.hid (by
                  rw [HRE.out]
                  have h1 := HP6.out
                  rw [HN2.out, HST5.out, ← HO5.out] at h1
                  exact h1)
                go_wp2_with fail
                go_roundw
                case rel => exact ⟨k + 1, true, by omega, by go_num, rfl, by simp, by rw [HX.out]; exact Shown.after HFX.out HSE.out⟩
                case measure => simp [intOf]; omega
        | true =>
          have CB := Lib.hid (HSX.out.byte (Below.refl _ _) 32 (by have := HZ1.out; simpa [nextS, putS] using this))
          go_wp2_with fail
          rw [← HXE.out]
          refine CB.out.mono ?_
          rintro e w2 ⟨rfl, hsa⟩
          -- w2: the world behind the blank, what has been shown there, its cells
          have HSA := Lib.hid hsa
          have HKA := Lib.hid (hsa.blk HKX.out hgb HGD.out (by decide))
          clear hsa
          have y0 := HKA.out.cell 0
          have y1 := HKA.out.cell 1
          have y2 := HKA.out.cell 2
          have y3 := HKA.out.cell 3
          have yl := HKA.out.lt
          simp at y0 y1 y2 y3
          have CW : Hid (∀ U u, Below (w2).heap.size w2 U → (nextS s true).1.length + u.size ≤ lim → Calls Tryz.prog 78 #[.pointer (some ⟨b, 0, none⟩), .string u] U fun e w' => e = .returned (.tuple #[.int .i64 u.size, .nilIface]) ∧ Shown X B b dv1 (putS (nextS s true) (L u)) w' ∧ Blk w' wr.heap.size 31 #[.int .i64 x.fd, .string x.op, .string x.tag, .slice a1 x.word.length c1]) := Lib.hid fun U u hU hu =>
            (HSA.out.str hU u hu).mono fun e w' ⟨g1, g2⟩ => ⟨g1, g2, g2.blk HKX.out hgb HGD.out (by decide)⟩
          go_wp2_with fail
          go_region_held3 (fun w' => w'.cell? ⟨wr.heap.size, 0, none⟩ = some (.int .i64 x.fd) ∧ w'.cell? ⟨wr.heap.size, 1, none⟩ = some (.string x.op)) (go_keep)
            (first
              | (go_at_call 105; with_reducible refine (CI.out _).mono ?_; rintro e w2 ⟨rfl, rfl⟩)
              | (go_at_call 78; with_reducible refine (CW.out _ _ (by repeat' (first | (with_reducible assumption) | (with_reducible exact Below.refl _ _) | (with_reducible refine below_drewN ?_ _) | (with_reducible refine below_bytes ?_ ?_ _) | (with_reducible refine Below.alloc ?_ ?_ _) | (with_reducible refine Below.drew ?_) | (with_reducible refine Below.setCell ?_ ?_ _) | go_size)) ?_).mono ?_; (have := HZ2.out; rw [putS] at this; simp [L_size] at this ⊢; have hq1 : (fdL x.fd).length = 1 := rfl; omega); rintro e w3 ⟨rfl, hs3, hk3⟩; have d0 := hk3.cell 0; have d1 := hk3.cell 1; simp at d0 d1))
          all_goals
            rw [HS2.out] at hs3
            have CL3 := Lib.hid (CLt.out w3 hs3.low hs3.le)
            have HS3 := Lib.hid hs3
            have HK3 := Lib.hid hk3
            clear d0 d1 hs3 hk3 y0 y1 y2 y3 yl
            have z0 := HK3.out.cell 0
            have z1 := HK3.out.cell 1
            have z2 := HK3.out.cell 2
            have z3 := HK3.out.cell 3
            have zl := HK3.out.lt
            simp at z0 z1 z2 z3
            go_wp2_with fail
            refine CL3.out.mono ?_
            rintro e w4 ⟨rfl, hb4⟩
            have HS4 := Lib.hid (HS3.out.later hb4)
            have HK4 := Lib.hid (HK3.out.below hb4 HK3.out.lt)
            clear hb4 z0 z1 z2 z3 zl CL3
            have z0 := HK4.out.cell 0
            have z1 := HK4.out.cell 1
            have z2 := HK4.out.cell 2
            have z3 := HK4.out.cell 3
            have zl := HK4.out.lt
            simp at z0 z1 z2 z3
            cases lt with
            | true =>
              go_wp2_with fail
              go_still_tail 7, (by kernel_rfl)
              go_wp2_with fail
              refine (HS4.out.str (by repeat' (first | (with_reducible assumption) | (with_reducible exact Below.refl _ _) | (with_reducible refine below_drewN ?_ _) | (with_reducible refine below_bytes ?_ ?_ _) | (with_reducible refine Below.alloc ?_ ?_ _) | (with_reducible refine Below.drew ?_) | (with_reducible refine Below.setCell ?_ ?_ _) | go_size)) _ (by have := HZ3.out true rfl; simp [putS, L_size] at this ⊢; have hq1 : (fdL x.fd).length = 1 := rfl; omega)).mono ?_
              rintro e w5 ⟨rfl, hs5⟩
              have hs5 : Shown X B b dv1 (putS (putS (nextS s true) (fdL x.fd ++ L x.op)) (39 :: (L x.tag ++ [39]))) w5 := by simpa [L_append] using hs5
              clear z0 z1 z2 z3 zl
              -- behind the tag: w5, hs5
              have HK5 := Lib.hid (hs5.blk HKX.out hgb HGD.out (by decide))
              obtain ⟨dv2, ds2, hw5, hst5, hf5⟩ := shown_st hs5
              have hlow5 := hs5.low
              obtain ⟨da, dc, rfl⟩ := hw5.shape
              obtain ⟨n2, hn2⟩ : ∃ n, ds2.length = n := ⟨_, rfl⟩
              obtain ⟨o5, ho5⟩ : ∃ o, (putS (putS (nextS s true) (fdL x.fd ++ L x.op)) (39 :: (L x.tag ++ [39]))).1 = o := ⟨_, rfl⟩
              have hn2o : n2 + 1 ≤ o5.length := by
                have h1 := hst5
                have h2 : n2 ≤ (nextS s true).1.length := by
                  have e1 := congrArg (fun z : St => z.2.length) h1
                  have e2 : (nextS s true).2 = s.2 := rfl
                  have e3 := HSD.out
                  have e4 := nextS_grow s true
                  simp only [stOf, putS, List.length_map, e2] at e1
                  omega
                have h3 : o5.length = (nextS s true).1.length + 3 + (39 :: (L x.tag ++ [39])).length := by rw [← ho5]; simp [putS, L_size, hol, fdL]; omega
                omega
              have hlim5 : o5.length ≤ lim := by rw [← ho5]; have := HZ3.out true rfl; simpa using this
              unfold lim at hlim5
              rw [ho5] at hw5 hst5
              have HST5 : Hid (ds2.map (·.1) = (nextS s true).2) := Lib.hid (by have := congrArg Prod.snd hst5; simpa [stOf, putS] using this)
              rw [hn2] at hw5 hf5
              have HN2 := Lib.hid hn2
              have HO5 := Lib.hid ho5
              obtain ⟨cdoc, fdoc⟩ := hw5.docs
              have hb5 := hw5.lt
              have hle5 := hw5.le
              have HOW := Lib.hid hw5.2.2.1
              rw [hn2] at HOW
              have HW5 := Lib.hid hw5
              have HF5 := Lib.hid hf5
              have HC5 : Hid (RdC w5 B d x [.int .i64 x.fd, .string x.op, .string x.tag, .slice a1 x.word.length c1]) := Lib.hid (HCX.out.keep fun _ _ _ _ hs => hs.below hlow5)
              have z0 := HK5.out.cell 0
              have z1 := HK5.out.cell 1
              have z2 := HK5.out.cell 2
              have z3 := HK5.out.cell 3
              have zl := HK5.out.lt
              simp at z0 z1 z2 z3
              clear hs5 hw5 hf5 hst5 hn2 ho5 hlow5
              go_wp2_with fail
              go_region_law (refine step_append_sl rfl _ _ 32 rfl B 31 Tryz.underlying32 infoRd rfl (by decide) (v := .slice da n2 dc) (n := n2) (xs := ds2.flatMap docCells) rfl (by first | exact (own_below HOW.out (Below.drew (Below.refl _ _))).alloc _ | exact own_below (HOW.out.alloc _) (Below.drew (Below.refl _ _))) (m := 1) (news := [.int .i64 x.fd, .string x.op, .string x.tag, .slice a1 x.word.length c1]) rfl (sl_made_at _ #[.int .i64 x.fd, .string x.op, .string x.tag, .slice a1 x.word.length c1] _ 1 4 rfl (by unfold maxLen; omega) (by simp)) (by omega) (by intro u hu; simp at hu; rcases hu with rfl | rfl | rfl | rfl <;> rfl) (by omega) (by simp; omega) ?_; intro g1 cap1 w6 hown hgrow hlie hglt; have hg6 : (w5.alloc (.cells #[.int .i64 x.fd, .string x.op, .string x.tag, .slice a1 x.word.length c1] 31)).grownBy w6 (Value.slice da n2 dc).ownBlock := ⟨hgrow.os, hgrow.tape, hgrow.output, hgrow.size, hgrow.block⟩; have HP6 := Lib.hid (Shown.push ((HF5.out.later ((Below.refl _ _).alloc (Nat.le_refl _) _) hle5)) (HW5.out.below ((Below.refl _ _).alloc (Nat.le_refl _) _)) (HC5.out.keep fun _ _ _ _ hs => hs.below ((Below.refl _ _).alloc hle5 _)) (by rw [HN2.out]; exact hn2o) (by rw [HN2.out]; exact hown) hg6 (hlie.imp id fun e => by rw [e]; simp)); have hcf6 := (HW5.out.below ((Below.refl _ _).alloc (Nat.le_refl _) _)).grown_docs hg6; have c6 := hcf6.1; have f6 := hcf6.2; clear hcf6 hown hgrow hlie hg6)
              all_goals
                have HSE : Hid (Shown X B b dv1 (redirS wd (nextS s true) x) _) := Lib.hid (by
                  rw [HRE.out]
                  have h1 := HP6.out
                  rw [HN2.out, HST5.out, ← HO5.out] at h1
                  exact h1)
                go_wp2_with fail
                go_roundw
                case rel => exact ⟨k + 1, true, by omega, by go_num, rfl, by simp, by rw [HX.out]; exact Shown.after HFX.out HSE.out⟩
                case measure => simp [intOf]; omega
            | false =>
              go_wp2_with fail
              go_still_tail 5, (by kernel_rfl)
              go_wp2_with fail
              refine (HS4.out.str (by repeat' (first | (with_reducible assumption) | (with_reducible exact Below.refl _ _) | (with_reducible refine below_drewN ?_ _) | (with_reducible refine below_bytes ?_ ?_ _) | (with_reducible refine Below.alloc ?_ ?_ _) | (with_reducible refine Below.drew ?_) | (with_reducible refine Below.setCell ?_ ?_ _) | go_size)) _ (by have := HZ3.out true rfl; simp [putS, L_size] at this ⊢; have hq1 : (fdL x.fd).length = 1 := rfl; omega)).mono ?_
              rintro e w5 ⟨rfl, hs5⟩
              clear z0 z1 z2 z3 zl
              -- behind the tag: w5, hs5
              have HK5 := Lib.hid (hs5.blk HKX.out hgb HGD.out (by decide))
              obtain ⟨dv2, ds2, hw5, hst5, hf5⟩ := shown_st hs5
              have hlow5 := hs5.low
              obtain ⟨da, dc, rfl⟩ := hw5.shape
              obtain ⟨n2, hn2⟩ : ∃ n, ds2.length = n := ⟨_, rfl⟩
              obtain ⟨o5, ho5⟩ : ∃ o, (putS (putS (nextS s true) (fdL x.fd ++ L x.op)) (L x.tag)).1 = o := ⟨_, rfl⟩
              have hn2o : n2 + 1 ≤ o5.length := by
                have h1 := hst5
                have h2 : n2 ≤ (nextS s true).1.length := by
                  have e1 := congrArg (fun z : St => z.2.length) h1
                  have e2 : (nextS s true).2 = s.2 := rfl
                  have e3 := HSD.out
                  have e4 := nextS_grow s true
                  simp only [stOf, putS, List.length_map, e2] at e1
                  omega
                have h3 : o5.length = (nextS s true).1.length + 3 + (L x.tag).length := by rw [← ho5]; simp [putS, L_size, hol, fdL]; omega
                omega
              have hlim5 : o5.length ≤ lim := by rw [← ho5]; have := HZ3.out true rfl; simpa using this
              unfold lim at hlim5
              rw [ho5] at hw5 hst5
              have HST5 : Hid (ds2.map (·.1) = (nextS s true).2) := Lib.hid (by have := congrArg Prod.snd hst5; simpa [stOf, putS] using this)
              rw [hn2] at hw5 hf5
              have HN2 := Lib.hid hn2
              have HO5 := Lib.hid ho5
              obtain ⟨cdoc, fdoc⟩ := hw5.docs
              have hb5 := hw5.lt
              have hle5 := hw5.le
              have HOW := Lib.hid hw5.2.2.1
              rw [hn2] at HOW
              have HW5 := Lib.hid hw5
              have HF5 := Lib.hid hf5
              have HC5 : Hid (RdC w5 B d x [.int .i64 x.fd, .string x.op, .string x.tag, .slice a1 x.word.length c1]) := Lib.hid (HCX.out.keep fun _ _ _ _ hs => hs.below hlow5)
              have z0 := HK5.out.cell 0
              have z1 := HK5.out.cell 1
              have z2 := HK5.out.cell 2
              have z3 := HK5.out.cell 3
              have zl := HK5.out.lt
              simp at z0 z1 z2 z3
              clear hs5 hw5 hf5 hst5 hn2 ho5 hlow5
              go_wp2_with fail
              go_region_law (refine step_append_sl rfl _ _ 32 rfl B 31 Tryz.underlying32 infoRd rfl (by decide) (v := .slice da n2 dc) (n := n2) (xs := ds2.flatMap docCells) rfl (by first | exact (own_below HOW.out (Below.drew (Below.refl _ _))).alloc _ | exact own_below (HOW.out.alloc _) (Below.drew (Below.refl _ _))) (m := 1) (news := [.int .i64 x.fd, .string x.op, .string x.tag, .slice a1 x.word.length c1]) rfl (sl_made_at _ #[.int .i64 x.fd, .string x.op, .string x.tag, .slice a1 x.word.length c1] _ 1 4 rfl (by unfold maxLen; omega) (by simp)) (by omega) (by intro u hu; simp at hu; rcases hu with rfl | rfl | rfl | rfl <;> rfl) (by omega) (by simp; omega) ?_; intro g1 cap1 w6 hown hgrow hlie hglt; have hg6 : (w5.alloc (.cells #[.int .i64 x.fd, .string x.op, .string x.tag, .slice a1 x.word.length c1] 31)).grownBy w6 (Value.slice da n2 dc).ownBlock := ⟨hgrow.os, hgrow.tape, hgrow.output, hgrow.size, hgrow.block⟩; have HP6 := Lib.hid (Shown.push ((HF5.out.later ((Below.refl _ _).alloc (Nat.le_refl _) _) hle5)) (HW5.out.below ((Below.refl _ _).alloc (Nat.le_refl _) _)) (HC5.out.keep fun _ _ _ _ hs => hs.below ((Below.refl _ _).alloc hle5 _)) (by rw [HN2.out]; exact hn2o) (by rw [HN2.out]; exact hown) hg6 (hlie.imp id fun e => by rw [e]; simp)); have hcf6 := (HW5.out.below ((Below.refl _ _).alloc (Nat.le_refl _) _)).grown_docs hg6; have c6 := hcf6.1; have f6 := hcf6.2; clear hcf6 hown hgrow hlie hg6)
              all_goals
                have HSE : Hid (Shown X B b dv1 (redirS wd (nextS s true) x) _) := Lib.hid (by
                  rw [HRE.out]
                  have h1 := HP6.out
                  rw [HN2.out, HST5.out, ← HO5.out] at h1
                  exact h1)
                go_wp2_with fail
                go_roundw
                case rel => exact ⟨k + 1, true, by omega, by go_num, rfl, by simp, by rw [HX.out]; exact Shown.after HFX.out HSE.out⟩
                case measure => simp [intOf]; omega
    · have HTK : Hid (l.take k = l) := Lib.hid (List.take_of_length_le (by rw [HN.out]; omega))
      rw [HTK.out] at HS
      go_wp2_with fail
      go_end0
      refine ⟨rfl, ?_⟩
      rw [HS.out]
      have := Shown.of HW1.out HF1.out
      rwa [HST.out] at this
end Go.Proofs.YtnackmnoldkihaaGreatDoor
