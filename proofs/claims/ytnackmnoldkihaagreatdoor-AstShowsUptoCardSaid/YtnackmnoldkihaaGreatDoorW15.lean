/-
  The walk of the writer's part.
-/
import Derived.Test.YtnackmnoldkihaaGreatDoorW14
import Derived.Lib.SplitLaws
import Derived.Lib.Replace
import Derived.Defers
set_option linter.unusedVariables false
set_option linter.unusedSimpArgs false
namespace Go.Proofs.YtnackmnoldkihaaGreatDoor
open Go.RowKit

theorem replaceK_flat (c : UInt8) (new : List UInt8) : ∀ s : List UInt8, Lib.replaceK [c] new (Lib.count s [c]) s = s.flatMap fun x => if x = c then new else [x]
 | [] => by
   have : Lib.count [] [c] = 0 := Lib.count_miss (by simp [Lib.index])
   rw [this]; rfl
 | b :: l => by
   have ih := replaceK_flat c new l
   rw [List.flatMap_cons]
   by_cases h : b = c
   · subst h
     have hi : Lib.index (b :: l) [b] = ((0 : Nat) : Int) := by rw [Lib.index]; simp
     rw [Lib.count_cons_eq, Nat.add_comm, Lib.replaceK_hit _ _ _ _ 0 hi, if_pos rfl, ← ih]
     simp
   · rw [Lib.count_cons_ne _ _ _ h, if_neg h]
     cases hk : Lib.count l [c] with
     | zero =>
       rw [hk] at ih
       rw [← ih]; rfl
     | succ m =>
       obtain ⟨i, hi⟩ := Lib.index_of_count (s := l) (old := [c]) (by omega)
       have hi2 : Lib.index (b :: l) [c] = ((i + 1 : Nat) : Int) := by
        rw [Lib.index, if_neg (by simpa using fun e => h e.symm), hi, if_neg (by simp)]; omega
       rw [hk] at ih
       rw [← ih, Lib.replaceK_hit _ _ _ _ (i + 1) hi2, Lib.replaceK_hit _ _ _ _ i hi]
       simp
theorem quo_len (l : List UInt8) : (quoL l).length ≤ 4 * l.length + 2 := by
 have : ∀ l : List UInt8, (l.flatMap fun c => if c = 39 then [39, 92, 39, 39] else [c]).length ≤ 4 * l.length := by
  intro l
  induction l with
  | nil => exact Nat.le_refl _
  | cons c l ih =>
    have e : (if c = 39 then ([39, 92, 39, 39] : List UInt8) else [c]).length ≤ 4 := by split <;> simp
    rw [List.flatMap_cons, List.length_append, List.length_cons]; omega
 have := this l
 rw [quoL, List.length_cons, List.length_append]
 simp only [List.length_cons, List.length_nil]; omega
theorem replace_quo (l : List UInt8) : (39 :: (Lib.replaceAll l [39] [39, 92, 39, 39] ++ [39]) : List UInt8) = quoL l := by
 have : Lib.replaceAll l [39] [39, 92, 39, 39] = Lib.replaceK [39] [39, 92, 39, 39] (Lib.count l [39]) l := by
  rw [Lib.replaceAll, Lib.replace, if_neg (by decide), Lib.replaceNum, if_pos (by omega)]
 rw [this, replaceK_flat, quoL]

/-- The here-documents that had come are laid back. -/
theorem Fr.back {W V : World} {B b : Nat} {dv dv3 : Value} (h : Fr W V B b dv dv3) (hB : B ≤ b) : Fr W (V.setCell ⟨b, 2, none⟩ dv) B b dv dv :=
 ⟨h.low.setCell (p := ⟨b, 2, none⟩) hB _, fun k o ho hb hd hu => (Below.heap_setCell V ⟨b, 2, none⟩ dv k hb).trans (h.kept k o ho hb hd hu), fun _ h => .inl h⟩
theorem Wr.back {U V : World} {B b : Nat} {dv dv3 : Value} {o out3 : List UInt8} {ds ds3 : List DocV} (hU : Wr U B b dv o ds) (hf : Fr (U.setCell ⟨b, 2, none⟩ (.slice none 0 0)) V B b (.slice none 0 0) dv3) (hV : Wr V B b dv3 out3 ds3) (hle : o.length ≤ out3.length) : Wr (V.setCell ⟨b, 2, none⟩ dv) B b dv out3 ds := by
 refine hV.set ?_ (fun r hr => ?_) (Nat.le_trans hU.2.2.2.2 hle)
 · refine ⟨hU.2.2.1.1, ?_⟩
   rcases hU.2.2.1.2 with h | ⟨g, cap, cur, hv, hB, hg, rest⟩
   · exact .inl h
   · refine .inr ⟨g, cap, cur, hv, hB, hf.kept g _ ?_ ?_ (by simp [Value.ownBlock]) (fun c fz e => by injection e with _ e2 _; exact absurd e2 (by decide)), rest⟩
     · rw [Below.heap_setCell _ _ _ _ (fun e => hU.ne (by rw [hv, e]; rfl))]; exact hg
     · intro e; exact hU.ne (by rw [hv, e]; rfl)
 · obtain ⟨d, hd⟩ := hU.2.2.2.1 r hr
   exact ⟨d, hd.keep fun _ _ _ _ hs => hs.below (((Below.refl B U).setCell (p := ⟨b, 2, none⟩) hU.1 _).trans hf.low)⟩

set_option maxHeartbeats 4000000 in
set_option maxRecDepth 100000 in
theorem wpart_any (d : Nat) (ww : St → List Pt → St) (wl : St → List Nd → St) (fw : List Pt → Bool) (fl : List Nd → Bool) (hgw : Grow2 ww) (hgl : Grow2 wl) (hw : WordW d ww fw) (hl : ListW d wl fl) : PartW d (partS ww wl) (partF fw fl) := by
 intro W B b dv out ds p c hH h hc hf hlen
 have HC := Lib.hid hc
 obtain ⟨da, dc, hdv⟩ := h.shape
 subst hdv
 obtain ⟨a1, c1, a2, c2, rfl, ⟨h1, h2⟩, ⟨hlw, hlb⟩, _, hbd⟩ := hc.open
 rw [partF, Bool.and_eq_true] at hf
 have HH := Lib.hid hH
 have HWL := Lib.hid hl
 have HWW := Lib.hid hw
 have HGW := Lib.hid hgw
 have HGL := Lib.hid hgl
 have HW := Lib.hid h
 have HBD := Lib.hid hbd
 have HF := Lib.hid hf
 obtain ⟨r, hr⟩ : ∃ r, partS ww wl (stOf out ds) p = r := ⟨_, rfl⟩
 rw [hr] at hlen ⊢
 rw [partS] at hr
 have HR := Lib.hid hr
 have HLEN := Lib.hid hlen
 have hW0 : W.heap.size ≠ 0 := by have := HH.out.2; have := HW.out.le; omega
 obtain ⟨⟨cm, hcm⟩, hB0⟩ := HH.out
 obtain ⟨cdW, fdW⟩ := HW.out.docs
 have hbW := HW.out.lt
 clear hH h hw hl hf hr hlen hc hbd hgw hgl
 cases hk1 : (p.kind == 1) with
 | true =>
   cases hq : p.quoted with
   | true =>
     have HE : Hid (r = putS (stOf out ds) (quoL (L p.text))) := Lib.hid (by rw [← HR.out, hk1, hq]; rfl)
     have hrl : (Lib.replaceAll (L p.text) [39] [39, 92, 39, 39]).length + 2 = (quoL (L p.text)).length := by rw [← replace_quo]; simp
     have HZ : Hid (out.length + (quoL (L p.text)).length ≤ lim) := Lib.hid (by have := HLEN.out; rw [HE.out, putS] at this; simpa [stOf] using this)
     have hcl := Lib.countB_le ⟨#[39]⟩ (by decide) p.text.size p.text (Nat.le_refl _)
     have hfl := quo_len (L p.text)
     rw [L_size] at hfl
     obtain ⟨q, hqd⟩ : ∃ q, q = S (Lib.replaceAll (L p.text) [39] [39, 92, 39, 39]) := ⟨_, rfl⟩
     have hqz : q.size + 2 = (quoL (L p.text)).length := by rw [hqd, S_size]; exact hrl
     have HQ : Hid (39 :: (L q ++ [39]) = quoL (L p.text)) := Lib.hid (by rw [hqd, L_S]; exact replace_quo _)
     have CR : Hid (∀ X, Below W.heap.size W X → Calls Tryz.prog 121 #[.string p.text, .string ⟨#[39]⟩, .string ⟨#[39, 92, 39, 39]⟩] X fun e w' => e = .returned (.string q) ∧ Below X.heap.size X w') := Lib.hid fun X hX => by
      rw [hqd]
      exact Tryz.strings_ReplaceAll p.text ⟨#[39]⟩ ⟨#[39, 92, 39, 39]⟩ cm X (by omega) ((hX.cell (p := ⟨0, 0, none⟩) (show 0 < W.heap.size by omega)).trans hcm) (by decide) (by
       have e : ByteArray.size ⟨#[39, 92, 39, 39]⟩ = 4 := rfl
       rw [e]; omega)
     have hqz2 : q.size ≤ 8388608 := by omega
     have k1 : ∀ V : World, (Op.stringOp .add ⟨#[39]⟩ q).run Tryz.prog V = .ok (.string (⟨#[39]⟩ ++ q)) V := fun V => run_string_add_sum V _ _ (by simp; omega)
     have k2 : ∀ V : World, (Op.stringOp .add (⟨#[39]⟩ ++ q) ⟨#[39]⟩).run Tryz.prog V = .ok (.string (⟨#[39]⟩ ++ q ++ ⟨#[39]⟩)) V := fun V => run_string_add_sum V _ _ (by simp; omega)
     clear hrl hcl hfl hqd
     go_enter_defers Tryz.func113, Tryz.ntmps113
     go_wp2_with fail
     obtain ⟨V, hV⟩ : ∃ V, V = W.alloc (.cells #[.int .i64 p.kind, .bool true, .string p.text, .string p.op, .slice a1 p.word.length c1, .slice a2 p.body.length c2] 44) := ⟨_, rfl⟩
     have HBV : Hid (Below W.heap.size W V) := Lib.hid (by rw [hV]; exact (Below.refl _ _).alloc (Nat.le_refl _) _)
     have HVB : Hid (Blk V W.heap.size 44 #[.int .i64 p.kind, .bool true, .string p.text, .string p.op, .slice a1 p.word.length c1, .slice a2 p.body.length c2]) := Lib.hid (by rw [hV]; exact Blk.new _ _ _)
     have hgV : W.heap.size < V.heap.size := by rw [hV]; simp
     rw [← hV]
     clear hV
     have HWV := Lib.hid (HW.out.below HBV.out)
     have hgb : W.heap.size ≠ b := by have := HW.out.lt; omega
     have HGD : Hid (Value.ownBlock (.slice da ds.length dc) ≠ some W.heap.size) := Lib.hid fun e => by have := HW.out.far _ e; omega
     have HBW : Hid (Below B W V) := Lib.hid (HBV.out.mono HW.out.le)
     have HFV : Hid (Fr W V B b (.slice da ds.length dc) (.slice da ds.length dc)) := Lib.hid (Fr.of_below HBV.out HW.out.le)
     obtain ⟨x0, x1, x2, x3, x4, x5, xl⟩ := HVB.out.box6
     have CR2 : Hid (∀ X, Below V.heap.size V X → Calls Tryz.prog 121 #[.string p.text, .string ⟨#[39]⟩, .string ⟨#[39, 92, 39, 39]⟩] X fun e w' => e = .returned (.string q) ∧ Below V.heap.size V w') := Lib.hid fun X hX => (CR.out X (since hX HBV.out)).mono fun e w' h => ⟨h.1, hX.trans (h.2.mono hX.size)⟩
     have CW : Hid (∀ X (u : ByteArray), Below V.heap.size V X → out.length + u.size ≤ lim → Calls Tryz.prog 78 #[.pointer (some ⟨b, 0, none⟩), .string u] X fun e w' => e = .returned (.tuple #[.int .i64 u.size, .nilIface]) ∧ Wr w' B b (.slice da ds.length dc) (out ++ L u) ds ∧ Fr V w' B b (.slice da ds.length dc) (.slice da ds.length dc) ∧ Blk w' W.heap.size 44 #[.int .i64 p.kind, .bool true, .string p.text, .string p.op, .slice a1 p.word.length c1, .slice a2 p.body.length c2]) := Lib.hid fun X u hX hu => (HWV.out.str (Fr.refl V B b (.slice da ds.length dc)) hX u hu).mono fun e w' ⟨h1, h2, h3⟩ => ⟨h1, h2, h3, h3.blk HVB.out hgb HGD.out (by decide)⟩
     clear CR
     go_region_held3 (fun w' => w'.cell? ⟨W.heap.size, 2, none⟩ = some (.string p.text)) (go_keep)
      (first
       | (go_at_call 121; with_reducible refine (CR2.out _ bg).mono ?_; rintro e w1 ⟨rfl, hb1⟩; have d2 := (hb1.cell hgV).trans x2)
       | (go_at_call 78; with_reducible refine (CW.out _ _ bg ?_).mono ?_; (have := HZ.out; simp; omega); rintro e w2 ⟨rfl, hw2, hf2, hk2⟩; have d2 := hk2.cell 2; simp at d2))
     all_goals
      go_wp2_with fail
      have he : out ++ quoL (L p.text) = out ++ L (⟨#[39]⟩ ++ q ++ ⟨#[39]⟩) := by rw [← HQ.out]; simp [L_append]
      exact ⟨_, results_none rfl _ _ _, rfl, by
       rw [HE.out, putS]
       have := Shown.of hw2 ((Fr.of_below HBV.out HW.out.le).trans hf2)
       rw [← he] at this
       exact this⟩
   | false =>
     have HE : Hid (r = putS (stOf out ds) (L p.text)) := Lib.hid (by rw [← HR.out, hk1, hq]; rfl)
     have HZ : Hid (out.length + p.text.size ≤ lim) := Lib.hid (by have := HLEN.out; rw [HE.out, putS] at this; simpa [stOf, L_size] using this)
     go_enter_defers Tryz.func113, Tryz.ntmps113
     go_wp2_with fail
     obtain ⟨V, hV⟩ : ∃ V, V = W.alloc (.cells #[.int .i64 p.kind, .bool false, .string p.text, .string p.op, .slice a1 p.word.length c1, .slice a2 p.body.length c2] 44) := ⟨_, rfl⟩
     have HBV : Hid (Below W.heap.size W V) := Lib.hid (by rw [hV]; exact (Below.refl _ _).alloc (Nat.le_refl _) _)
     have HVB : Hid (Blk V W.heap.size 44 #[.int .i64 p.kind, .bool false, .string p.text, .string p.op, .slice a1 p.word.length c1, .slice a2 p.body.length c2]) := Lib.hid (by rw [hV]; exact Blk.new _ _ _)
     have hgV : W.heap.size < V.heap.size := by rw [hV]; simp
     rw [← hV]
     clear hV
     have HWV := Lib.hid (HW.out.below HBV.out)
     have hgb : W.heap.size ≠ b := by have := HW.out.lt; omega
     have HGD : Hid (Value.ownBlock (.slice da ds.length dc) ≠ some W.heap.size) := Lib.hid fun e => by have := HW.out.far _ e; omega
     have HBW : Hid (Below B W V) := Lib.hid (HBV.out.mono HW.out.le)
     have HFV : Hid (Fr W V B b (.slice da ds.length dc) (.slice da ds.length dc)) := Lib.hid (Fr.of_below HBV.out HW.out.le)
     obtain ⟨x0, x1, x2, x3, x4, x5, xl⟩ := HVB.out.box6
     go_still_tail 5, (by kernel_rfl)
     go_wp2_with fail
     skip
     refine (HWV.out.str HFV.out bg _ (by have := HZ.out; simp; omega)).mono ?_
     rintro e w1 ⟨rfl, hw0, hf0⟩
     have HWw1 := Lib.hid hw0
     have HFw1 := Lib.hid hf0
     clear hw0 hf0
     go_wp2_with fail
     exact ⟨_, results_none rfl _ _ _, rfl, by
      rw [HE.out, putS]
      exact Shown.of HWw1.out HFw1.out⟩
 | false =>
   cases hk2 : (p.kind == 2) with
   | true =>
     cases hq : p.quoted with
     | false =>
       have HE : Hid (r = coreS ww wl (stOf out ds) p) := Lib.hid (by rw [← HR.out, hk1, hq]; rfl)
       rw [hq] at HC
       go_enter_defers Tryz.func113, Tryz.ntmps113
       go_wp2_with fail
       obtain ⟨V, hV⟩ : ∃ V, V = W.alloc (.cells #[.int .i64 p.kind, .bool false, .string p.text, .string p.op, .slice a1 p.word.length c1, .slice a2 p.body.length c2] 44) := ⟨_, rfl⟩
       have HBV : Hid (Below W.heap.size W V) := Lib.hid (by rw [hV]; exact (Below.refl _ _).alloc (Nat.le_refl _) _)
       have HVB : Hid (Blk V W.heap.size 44 #[.int .i64 p.kind, .bool false, .string p.text, .string p.op, .slice a1 p.word.length c1, .slice a2 p.body.length c2]) := Lib.hid (by rw [hV]; exact Blk.new _ _ _)
       have hgV : W.heap.size < V.heap.size := by rw [hV]; simp
       rw [← hV]
       clear hV
       have HWV := Lib.hid (HW.out.below HBV.out)
       have hgb : W.heap.size ≠ b := by have := HW.out.lt; omega
       have HGD : Hid (Value.ownBlock (.slice da ds.length dc) ≠ some W.heap.size) := Lib.hid fun e => by have := HW.out.far _ e; omega
       have HBW : Hid (Below B W V) := Lib.hid (HBV.out.mono HW.out.le)
       have HFV : Hid (Fr W V B b (.slice da ds.length dc) (.slice da ds.length dc)) := Lib.hid (Fr.of_below HBV.out HW.out.le)
       obtain ⟨x0, x1, x2, x3, x4, x5, xl⟩ := HVB.out.box6
       have HWU := HWV
       have HFU := HFV
       have HUB := HVB
       have HBU := HBW
       have HLC : Hid ((coreS ww wl (stOf (out) ds) p).1.length ≤ lim) := Lib.hid (by
        have := HLEN.out
        rw [HE.out] at this
        exact this)
       obtain ⟨cdoc, fdoc⟩ := HWU.out.docs
       have HCR : Hid (coreS ww wl (stOf (out) ds) p = bif p.kind == 2 then paramS ww (stOf (out) ds) p else bif p.kind == 3 then ((wl (stOf ((out) ++ [36, 40, 10]) []) p.body).1 ++ [41], (stOf (out) ds).2) else putS (stOf (out) ds) ([36, 40, 40] ++ L p.text ++ [41, 41])) := Lib.hid rfl
       obtain ⟨s1, hs1⟩ : ∃ s, coreS ww wl (stOf (out) ds) p = s := ⟨_, rfl⟩
       rw [hs1] at HLC HCR HE
       have HS1 := Lib.hid hs1
       clear hs1
       have HC1 : Hid (s1 = paramS ww (stOf (out) ds) p) := Lib.hid (by rw [HCR.out, hk2]; rfl)
       have CP : Hid (∀ X, Below (V).heap.size V X → Calls Tryz.prog 122 #[.pointer (some ⟨b, 0, none⟩), .agg #[.int .i64 p.kind, .bool false, .string p.text, .string p.op, .slice a1 p.word.length c1, .slice a2 p.body.length c2]] X fun e w' => e = .returned (.tuple #[]) ∧ Shown W B b (.slice da ds.length dc) s1 w') := Lib.hid fun X hX =>
        (wparam_any d ww fw HGW.out HWW.out p _ (HH.out.below (HBU.out.trans (hX.mono HWU.out.le))) (HWU.out.below hX) (HC.out.keep fun _ _ _ _ hs => hs.below (HBU.out.trans (hX.mono HWU.out.le))) HF.out.1 (by rw [← HC1.out]; exact HLC.out)).mono fun e w' ⟨g1, g2⟩ => ⟨g1, by rw [HC1.out]; exact g2.after (HFU.out.later hX HWU.out.le)⟩
       go_wp2_with fail
       refine (CP.out _ bg).mono ?_
       rintro e w5 ⟨rfl, hs5⟩
       have HS5 := Lib.hid hs5
       clear hs5
       go_wp2_with fail
       exact ⟨_, results_none rfl _ _ _, rfl, by rw [HE.out]; exact HS5.out⟩
     | true =>
       have HE : Hid (r = putS (coreS ww wl (stOf (out ++ [34]) ds) p) [34]) := Lib.hid (by rw [← HR.out, hk1, hq]; rfl)
       rw [hq] at HC
       have HZQ : Hid ((coreS ww wl (stOf (out ++ [34]) ds) p).1.length + 1 ≤ lim) := Lib.hid (by have := HLEN.out; rw [HE.out, putS] at this; simpa using this)
       have HZ0 : Hid (out.length + 1 ≤ lim) := Lib.hid (by
        have g1 := coreS_grow HGW.out HGL.out (stOf (out ++ [34]) ds) p
        have g2 := HZQ.out
        simp only [stOf, List.length_append, List.length_cons, List.length_nil] at g1 g2 ⊢
        omega)
       go_enter_defers Tryz.func113, Tryz.ntmps113
       go_wp2_with fail
       obtain ⟨V, hV⟩ : ∃ V, V = W.alloc (.cells #[.int .i64 p.kind, .bool true, .string p.text, .string p.op, .slice a1 p.word.length c1, .slice a2 p.body.length c2] 44) := ⟨_, rfl⟩
       have HBV : Hid (Below W.heap.size W V) := Lib.hid (by rw [hV]; exact (Below.refl _ _).alloc (Nat.le_refl _) _)
       have HVB : Hid (Blk V W.heap.size 44 #[.int .i64 p.kind, .bool true, .string p.text, .string p.op, .slice a1 p.word.length c1, .slice a2 p.body.length c2]) := Lib.hid (by rw [hV]; exact Blk.new _ _ _)
       have hgV : W.heap.size < V.heap.size := by rw [hV]; simp
       rw [← hV]
       clear hV
       have HWV := Lib.hid (HW.out.below HBV.out)
       have hgb : W.heap.size ≠ b := by have := HW.out.lt; omega
       have HGD : Hid (Value.ownBlock (.slice da ds.length dc) ≠ some W.heap.size) := Lib.hid fun e => by have := HW.out.far _ e; omega
       have HBW : Hid (Below B W V) := Lib.hid (HBV.out.mono HW.out.le)
       have HFV : Hid (Fr W V B b (.slice da ds.length dc) (.slice da ds.length dc)) := Lib.hid (Fr.of_below HBV.out HW.out.le)
       obtain ⟨x0, x1, x2, x3, x4, x5, xl⟩ := HVB.out.box6
       refine (HWV.out.byte (Fr.refl V B b (.slice da ds.length dc)) bg 34 HZ0.out).mono ?_
       rintro e w1 ⟨rfl, hw1, hf1⟩
       have HWU := Lib.hid hw1
       have HFU := Lib.hid (HFV.out.trans hf1)
       have HUB := Lib.hid (hf1.blk HVB.out hgb HGD.out (by decide))
       have HBU := Lib.hid (HBW.out.trans hf1.low)
       clear hw1 hf1 x0 x1 x2 x3 x4 x5
       obtain ⟨x0, x1, x2, x3, x4, x5, xl⟩ := HUB.out.box6
       have CD : Hid (∀ X, Shown W B b (.slice da ds.length dc) (coreS ww wl (stOf (out ++ [34]) ds) p) X → CallsD Tryz.prog 81 #[.pointer (some ⟨b, 0, none⟩), .int .u8 34] .returning X fun e u' w' => u' = .returning ∧ e = .returned .nilIface ∧ Shown W B b (.slice da ds.length dc) r w') := Lib.hid fun X hX => by
        obtain ⟨dv5, ds5, hw5, hst5, hf5⟩ := shown_st hX
        refine (writeBD hw5 34 (by have := HZQ.out; unfold lim at this; omega) .returning).mono ?_
        rintro e u' w'' ⟨rfl, rfl, hw6, hf6⟩
        refine ⟨rfl, rfl, ?_⟩
        rw [HE.out, putS, ← hst5]
        exact Shown.of hw6 (hf5.trans hf6)
       have HLC : Hid ((coreS ww wl (stOf (out ++ [34]) ds) p).1.length ≤ lim) := Lib.hid (by
        have := HLEN.out
        rw [HE.out] at this
        exact Nat.le_trans (putS_grow _ _) this)
       obtain ⟨cdoc, fdoc⟩ := HWU.out.docs
       have HCR : Hid (coreS ww wl (stOf (out ++ [34]) ds) p = bif p.kind == 2 then paramS ww (stOf (out ++ [34]) ds) p else bif p.kind == 3 then ((wl (stOf ((out ++ [34]) ++ [36, 40, 10]) []) p.body).1 ++ [41], (stOf (out ++ [34]) ds).2) else putS (stOf (out ++ [34]) ds) ([36, 40, 40] ++ L p.text ++ [41, 41])) := Lib.hid rfl
       obtain ⟨s1, hs1⟩ : ∃ s, coreS ww wl (stOf (out ++ [34]) ds) p = s := ⟨_, rfl⟩
       rw [hs1] at HLC HCR HE
       have HS1 := Lib.hid hs1
       clear hs1
       have HC1 : Hid (s1 = paramS ww (stOf (out ++ [34]) ds) p) := Lib.hid (by rw [HCR.out, hk2]; rfl)
       have CP : Hid (∀ X, Below (w1).heap.size w1 X → Calls Tryz.prog 122 #[.pointer (some ⟨b, 0, none⟩), .agg #[.int .i64 p.kind, .bool true, .string p.text, .string p.op, .slice a1 p.word.length c1, .slice a2 p.body.length c2]] X fun e w' => e = .returned (.tuple #[]) ∧ Shown W B b (.slice da ds.length dc) s1 w') := Lib.hid fun X hX =>
        (wparam_any d ww fw HGW.out HWW.out p _ (HH.out.below (HBU.out.trans (hX.mono HWU.out.le))) (HWU.out.below hX) (HC.out.keep fun _ _ _ _ hs => hs.below (HBU.out.trans (hX.mono HWU.out.le))) HF.out.1 (by rw [← HC1.out]; exact HLC.out)).mono fun e w' ⟨g1, g2⟩ => ⟨g1, by rw [HC1.out]; exact g2.after (HFU.out.later hX HWU.out.le)⟩
       go_wp2_with fail
       refine (CP.out _ bg).mono ?_
       rintro e w5 ⟨rfl, hs5⟩
       have HS5 := Lib.hid hs5
       clear hs5
       go_wp2_with fail
       (refine leaves_cons (f := 81) (args := #[.pointer (some ⟨b, 0, none⟩), .int .u8 34]) (by simp) (by simp [go_sem]) ?_; refine (CD.out _ (by rw [HS1.out]; exact HS5.out)).mono ?_; rintro e u' w'' ⟨rfl, rfl, hs6⟩; exact ⟨_, results_none rfl _ _ _, rfl, hs6⟩)
   | false =>
     cases hk3 : (p.kind == 3) with
     | true =>
       cases hq : p.quoted with
       | false =>
         have HE : Hid (r = coreS ww wl (stOf out ds) p) := Lib.hid (by rw [← HR.out, hk1, hq]; rfl)
         rw [hq] at HC
         go_enter_defers Tryz.func113, Tryz.ntmps113
         go_upto_region 13 with fail
         obtain ⟨V, hV⟩ : ∃ V, V = W.alloc (.cells #[.int .i64 p.kind, .bool false, .string p.text, .string p.op, .slice a1 p.word.length c1, .slice a2 p.body.length c2] 44) := ⟨_, rfl⟩
         have HBV : Hid (Below W.heap.size W V) := Lib.hid (by rw [hV]; exact (Below.refl _ _).alloc (Nat.le_refl _) _)
         have HVB : Hid (Blk V W.heap.size 44 #[.int .i64 p.kind, .bool false, .string p.text, .string p.op, .slice a1 p.word.length c1, .slice a2 p.body.length c2]) := Lib.hid (by rw [hV]; exact Blk.new _ _ _)
         have hgV : W.heap.size < V.heap.size := by rw [hV]; simp
         rw [← hV]
         clear hV
         have HWV := Lib.hid (HW.out.below HBV.out)
         have hgb : W.heap.size ≠ b := by have := HW.out.lt; omega
         have HGD : Hid (Value.ownBlock (.slice da ds.length dc) ≠ some W.heap.size) := Lib.hid fun e => by have := HW.out.far _ e; omega
         have HBW : Hid (Below B W V) := Lib.hid (HBV.out.mono HW.out.le)
         have HFV : Hid (Fr W V B b (.slice da ds.length dc) (.slice da ds.length dc)) := Lib.hid (Fr.of_below HBV.out HW.out.le)
         obtain ⟨x0, x1, x2, x3, x4, x5, xl⟩ := HVB.out.box6
         have HWU := HWV
         have HFU := HFV
         have HUB := HVB
         have HBU := HBW
         have HLC : Hid ((coreS ww wl (stOf (out) ds) p).1.length ≤ lim) := Lib.hid (by
          have := HLEN.out
          rw [HE.out] at this
          exact this)
         obtain ⟨cdoc, fdoc⟩ := HWU.out.docs
         have HCR : Hid (coreS ww wl (stOf (out) ds) p = bif p.kind == 2 then paramS ww (stOf (out) ds) p else bif p.kind == 3 then ((wl (stOf ((out) ++ [36, 40, 10]) []) p.body).1 ++ [41], (stOf (out) ds).2) else putS (stOf (out) ds) ([36, 40, 40] ++ L p.text ++ [41, 41])) := Lib.hid rfl
         obtain ⟨s1, hs1⟩ : ∃ s, coreS ww wl (stOf (out) ds) p = s := ⟨_, rfl⟩
         rw [hs1] at HLC HCR HE
         have HS1 := Lib.hid hs1
         clear hs1
         have HC1 : Hid (s1 = ((wl (stOf ((out) ++ [36, 40, 10]) []) p.body).1 ++ [41], (stOf (out) ds).2)) := Lib.hid (by rw [HCR.out, hk2, hk3]; rfl)
         have HZ2 : Hid ((wl (stOf ((out) ++ [36, 40, 10]) []) p.body).1.length + 1 ≤ lim) := Lib.hid (by have := HLC.out; rw [HC1.out] at this; simpa using this)
         have HZ1 : Hid ((out).length + 3 ≤ lim) := Lib.hid (by
          have g1 := HGL.out (stOf ((out) ++ [36, 40, 10]) []) p.body
          have g2 := HZ2.out
          simp only [stOf, List.length_append, List.length_cons, List.length_nil] at g1 g2 ⊢
          omega)
         have hcl := HWU.out.clear
         have HWC := Lib.hid hcl.1
         have HFC := Lib.hid (HFU.out.trans hcl.2)
         have hx5 : (V).cell? ⟨W.heap.size, 5, none⟩ = some (.slice a2 p.body.length c2) := x5
         obtain ⟨U1, hU1⟩ : ∃ U1, U1 = (V).setCell ⟨b, 2, none⟩ (.slice none 0 0) := ⟨_, rfl⟩
         have HBC : Hid (Blk U1 W.heap.size 44 #[.int .i64 p.kind, .bool false, .string p.text, .string p.op, .slice a1 p.word.length c1, .slice a2 p.body.length c2]) := Lib.hid (by rw [hU1]; exact HUB.out.far hgb _)
         rw [← hU1] at HWC HFC
         have HU1 := Lib.hid hU1
         clear hU1 hcl
         go_wp2_with fail
         rw [← HU1.out]
         refine (HWC.out.str (Fr.refl U1 B b _) (Below.refl _ _) _ (by have := HZ1.out; simp at this ⊢; omega)).mono ?_
         rintro e w2 ⟨rfl, hw2, hf2⟩
         have HW2 := Lib.hid hw2
         have HF2 := Lib.hid hf2
         have HK2 := Lib.hid (hf2.blk HBC.out hgb (by simp [Value.ownBlock]) (by decide))
         have z5 := HK2.out.cell 5
         simp at z5
         have HBU2 : Hid (Below B W w2) := Lib.hid (HFC.out.low.trans HF2.out.low)
         have CL := Lib.hid (HWL.out w2 B b _ _ [] p.body _ (HH.out.below HBU2.out) HW2.out (HBD.out.below HBU2.out) HF.out.2 (by have := HZ2.out; simp at this ⊢; omega))
         clear hw2 hf2 x0 x1 x2 x3 x4 x5 hx5 cdoc fdoc
         go_wp2_with fail
         refine CL.out.mono ?_
         rintro e w3 ⟨rfl, hs3⟩
         obtain ⟨dv3, ds3, hw3, hst3, hf3⟩ := shown_st hs3
         have HW3 := Lib.hid hw3
         have HST3 := Lib.hid hst3
         have HF3 := Lib.hid (HF2.out.trans hf3)
         clear hs3 hw3 hst3 hf3
         go_wp2_with fail
         refine (HW3.out.byte HF3.out (Below.refl _ _) 41 (by have := HZ2.out; simp [stOf] at this ⊢; omega)).mono ?_
         rintro e w4 ⟨rfl, hw4, hf4⟩
         have HW4 := Lib.hid hw4
         have HF4 := Lib.hid hf4
         obtain ⟨cdoc, fdoc⟩ := hw4.docs
         clear hw4 hf4
         have HBK : Hid (Wr (w4.setCell ⟨b, 2, none⟩ (.slice da ds.length dc)) B b (.slice da ds.length dc) ((wl (stOf ((out) ++ [36, 40, 10]) []) p.body).1 ++ [41]) ds) := Lib.hid (by
          have hle : (out).length ≤ (wl (stOf ((out) ++ [36, 40, 10]) []) p.body).1.length + 1 := by
           have g1 := HGL.out (stOf ((out) ++ [36, 40, 10]) []) p.body
           simp only [stOf, List.length_append, List.length_cons, List.length_nil] at g1 ⊢
           omega
          have h1 := HWU.out.back (by rw [← HU1.out]; exact HF4.out) HW4.out
          simp only [List.append_assoc, List.cons_append, List.nil_append, List.length_append, List.length_cons, List.length_nil, L_mk, List.map_nil] at h1 hle ⊢
          exact h1 (by simpa using hle))
         have HS5 : Hid (Shown W B b (.slice da ds.length dc) s1 (w4.setCell ⟨b, 2, none⟩ (.slice da ds.length dc))) := Lib.hid (by
          rw [HC1.out]
          exact Shown.of HBK.out ((HFC.out.trans HF4.out).back HWU.out.1))
         go_wp2_with fail
         exact ⟨_, results_none rfl _ _ _, rfl, by rw [HE.out]; exact HS5.out⟩
       | true =>
         have HE : Hid (r = putS (coreS ww wl (stOf (out ++ [34]) ds) p) [34]) := Lib.hid (by rw [← HR.out, hk1, hq]; rfl)
         rw [hq] at HC
         have HZQ : Hid ((coreS ww wl (stOf (out ++ [34]) ds) p).1.length + 1 ≤ lim) := Lib.hid (by have := HLEN.out; rw [HE.out, putS] at this; simpa using this)
         have HZ0 : Hid (out.length + 1 ≤ lim) := Lib.hid (by
          have g1 := coreS_grow HGW.out HGL.out (stOf (out ++ [34]) ds) p
          have g2 := HZQ.out
          simp only [stOf, List.length_append, List.length_cons, List.length_nil] at g1 g2 ⊢
          omega)
         go_enter_defers Tryz.func113, Tryz.ntmps113
         go_wp2_with fail
         obtain ⟨V, hV⟩ : ∃ V, V = W.alloc (.cells #[.int .i64 p.kind, .bool true, .string p.text, .string p.op, .slice a1 p.word.length c1, .slice a2 p.body.length c2] 44) := ⟨_, rfl⟩
         have HBV : Hid (Below W.heap.size W V) := Lib.hid (by rw [hV]; exact (Below.refl _ _).alloc (Nat.le_refl _) _)
         have HVB : Hid (Blk V W.heap.size 44 #[.int .i64 p.kind, .bool true, .string p.text, .string p.op, .slice a1 p.word.length c1, .slice a2 p.body.length c2]) := Lib.hid (by rw [hV]; exact Blk.new _ _ _)
         have hgV : W.heap.size < V.heap.size := by rw [hV]; simp
         rw [← hV]
         clear hV
         have HWV := Lib.hid (HW.out.below HBV.out)
         have hgb : W.heap.size ≠ b := by have := HW.out.lt; omega
         have HGD : Hid (Value.ownBlock (.slice da ds.length dc) ≠ some W.heap.size) := Lib.hid fun e => by have := HW.out.far _ e; omega
         have HBW : Hid (Below B W V) := Lib.hid (HBV.out.mono HW.out.le)
         have HFV : Hid (Fr W V B b (.slice da ds.length dc) (.slice da ds.length dc)) := Lib.hid (Fr.of_below HBV.out HW.out.le)
         obtain ⟨x0, x1, x2, x3, x4, x5, xl⟩ := HVB.out.box6
         refine (HWV.out.byte (Fr.refl V B b (.slice da ds.length dc)) bg 34 HZ0.out).mono ?_
         rintro e w1 ⟨rfl, hw1, hf1⟩
         have HWU := Lib.hid hw1
         have HFU := Lib.hid (HFV.out.trans hf1)
         have HUB := Lib.hid (hf1.blk HVB.out hgb HGD.out (by decide))
         have HBU := Lib.hid (HBW.out.trans hf1.low)
         clear hw1 hf1 x0 x1 x2 x3 x4 x5
         obtain ⟨x0, x1, x2, x3, x4, x5, xl⟩ := HUB.out.box6
         have CD : Hid (∀ X, Shown W B b (.slice da ds.length dc) (coreS ww wl (stOf (out ++ [34]) ds) p) X → CallsD Tryz.prog 81 #[.pointer (some ⟨b, 0, none⟩), .int .u8 34] .returning X fun e u' w' => u' = .returning ∧ e = .returned .nilIface ∧ Shown W B b (.slice da ds.length dc) r w') := Lib.hid fun X hX => by
          obtain ⟨dv5, ds5, hw5, hst5, hf5⟩ := shown_st hX
          refine (writeBD hw5 34 (by have := HZQ.out; unfold lim at this; omega) .returning).mono ?_
          rintro e u' w'' ⟨rfl, rfl, hw6, hf6⟩
          refine ⟨rfl, rfl, ?_⟩
          rw [HE.out, putS, ← hst5]
          exact Shown.of hw6 (hf5.trans hf6)
         have HLC : Hid ((coreS ww wl (stOf (out ++ [34]) ds) p).1.length ≤ lim) := Lib.hid (by
          have := HLEN.out
          rw [HE.out] at this
          exact Nat.le_trans (putS_grow _ _) this)
         obtain ⟨cdoc, fdoc⟩ := HWU.out.docs
         have HCR : Hid (coreS ww wl (stOf (out ++ [34]) ds) p = bif p.kind == 2 then paramS ww (stOf (out ++ [34]) ds) p else bif p.kind == 3 then ((wl (stOf ((out ++ [34]) ++ [36, 40, 10]) []) p.body).1 ++ [41], (stOf (out ++ [34]) ds).2) else putS (stOf (out ++ [34]) ds) ([36, 40, 40] ++ L p.text ++ [41, 41])) := Lib.hid rfl
         obtain ⟨s1, hs1⟩ : ∃ s, coreS ww wl (stOf (out ++ [34]) ds) p = s := ⟨_, rfl⟩
         rw [hs1] at HLC HCR HE
         have HS1 := Lib.hid hs1
         clear hs1
         have HC1 : Hid (s1 = ((wl (stOf ((out ++ [34]) ++ [36, 40, 10]) []) p.body).1 ++ [41], (stOf (out ++ [34]) ds).2)) := Lib.hid (by rw [HCR.out, hk2, hk3]; rfl)
         have HZ2 : Hid ((wl (stOf ((out ++ [34]) ++ [36, 40, 10]) []) p.body).1.length + 1 ≤ lim) := Lib.hid (by have := HLC.out; rw [HC1.out] at this; simpa using this)
         have HZ1 : Hid ((out ++ [34]).length + 3 ≤ lim) := Lib.hid (by
          have g1 := HGL.out (stOf ((out ++ [34]) ++ [36, 40, 10]) []) p.body
          have g2 := HZ2.out
          simp only [stOf, List.length_append, List.length_cons, List.length_nil] at g1 g2 ⊢
          omega)
         have hcl := HWU.out.clear
         have HWC := Lib.hid hcl.1
         have HFC := Lib.hid (HFU.out.trans hcl.2)
         have hx5 : (w1).cell? ⟨W.heap.size, 5, none⟩ = some (.slice a2 p.body.length c2) := x5
         obtain ⟨U1, hU1⟩ : ∃ U1, U1 = (w1).setCell ⟨b, 2, none⟩ (.slice none 0 0) := ⟨_, rfl⟩
         have HBC : Hid (Blk U1 W.heap.size 44 #[.int .i64 p.kind, .bool true, .string p.text, .string p.op, .slice a1 p.word.length c1, .slice a2 p.body.length c2]) := Lib.hid (by rw [hU1]; exact HUB.out.far hgb _)
         rw [← hU1] at HWC HFC
         have HU1 := Lib.hid hU1
         clear hU1 hcl
         go_wp2_with fail
         rw [← HU1.out]
         refine (HWC.out.str (Fr.refl U1 B b _) (Below.refl _ _) _ (by have := HZ1.out; simp at this ⊢; omega)).mono ?_
         rintro e w2 ⟨rfl, hw2, hf2⟩
         have HW2 := Lib.hid hw2
         have HF2 := Lib.hid hf2
         have HK2 := Lib.hid (hf2.blk HBC.out hgb (by simp [Value.ownBlock]) (by decide))
         have z5 := HK2.out.cell 5
         simp at z5
         have HBU2 : Hid (Below B W w2) := Lib.hid (HFC.out.low.trans HF2.out.low)
         have CL := Lib.hid (HWL.out w2 B b _ _ [] p.body _ (HH.out.below HBU2.out) HW2.out (HBD.out.below HBU2.out) HF.out.2 (by have := HZ2.out; simp at this ⊢; omega))
         clear hw2 hf2 x0 x1 x2 x3 x4 x5 hx5 cdoc fdoc
         go_wp2_with fail
         refine CL.out.mono ?_
         rintro e w3 ⟨rfl, hs3⟩
         obtain ⟨dv3, ds3, hw3, hst3, hf3⟩ := shown_st hs3
         have HW3 := Lib.hid hw3
         have HST3 := Lib.hid hst3
         have HF3 := Lib.hid (HF2.out.trans hf3)
         clear hs3 hw3 hst3 hf3
         go_wp2_with fail
         refine (HW3.out.byte HF3.out (Below.refl _ _) 41 (by have := HZ2.out; simp [stOf] at this ⊢; omega)).mono ?_
         rintro e w4 ⟨rfl, hw4, hf4⟩
         have HW4 := Lib.hid hw4
         have HF4 := Lib.hid hf4
         obtain ⟨cdoc, fdoc⟩ := hw4.docs
         clear hw4 hf4
         have HBK : Hid (Wr (w4.setCell ⟨b, 2, none⟩ (.slice da ds.length dc)) B b (.slice da ds.length dc) ((wl (stOf ((out ++ [34]) ++ [36, 40, 10]) []) p.body).1 ++ [41]) ds) := Lib.hid (by
          have hle : (out ++ [34]).length ≤ (wl (stOf ((out ++ [34]) ++ [36, 40, 10]) []) p.body).1.length + 1 := by
           have g1 := HGL.out (stOf ((out ++ [34]) ++ [36, 40, 10]) []) p.body
           simp only [stOf, List.length_append, List.length_cons, List.length_nil] at g1 ⊢
           omega
          have h1 := HWU.out.back (by rw [← HU1.out]; exact HF4.out) HW4.out
          simp only [List.append_assoc, List.cons_append, List.nil_append, List.length_append, List.length_cons, List.length_nil, L_mk, List.map_nil] at h1 hle ⊢
          exact h1 (by simpa using hle))
         have HS5 : Hid (Shown W B b (.slice da ds.length dc) s1 (w4.setCell ⟨b, 2, none⟩ (.slice da ds.length dc))) := Lib.hid (by
          rw [HC1.out]
          exact Shown.of HBK.out ((HFC.out.trans HF4.out).back HWU.out.1))
         go_wp2_with fail
         (refine leaves_cons (f := 81) (args := #[.pointer (some ⟨b, 0, none⟩), .int .u8 34]) (by simp) (by simp [go_sem]) ?_; refine (CD.out _ (by rw [HS1.out]; exact HS5.out)).mono ?_; rintro e u' w'' ⟨rfl, rfl, hs6⟩; exact ⟨_, results_none rfl _ _ _, rfl, hs6⟩)
     | false =>
       cases hq : p.quoted with
       | false =>
         have HE : Hid (r = coreS ww wl (stOf out ds) p) := Lib.hid (by rw [← HR.out, hk1, hq]; rfl)
         rw [hq] at HC
         go_enter_defers Tryz.func113, Tryz.ntmps113
         go_wp2_with fail
         obtain ⟨V, hV⟩ : ∃ V, V = W.alloc (.cells #[.int .i64 p.kind, .bool false, .string p.text, .string p.op, .slice a1 p.word.length c1, .slice a2 p.body.length c2] 44) := ⟨_, rfl⟩
         have HBV : Hid (Below W.heap.size W V) := Lib.hid (by rw [hV]; exact (Below.refl _ _).alloc (Nat.le_refl _) _)
         have HVB : Hid (Blk V W.heap.size 44 #[.int .i64 p.kind, .bool false, .string p.text, .string p.op, .slice a1 p.word.length c1, .slice a2 p.body.length c2]) := Lib.hid (by rw [hV]; exact Blk.new _ _ _)
         have hgV : W.heap.size < V.heap.size := by rw [hV]; simp
         rw [← hV]
         clear hV
         have HWV := Lib.hid (HW.out.below HBV.out)
         have hgb : W.heap.size ≠ b := by have := HW.out.lt; omega
         have HGD : Hid (Value.ownBlock (.slice da ds.length dc) ≠ some W.heap.size) := Lib.hid fun e => by have := HW.out.far _ e; omega
         have HBW : Hid (Below B W V) := Lib.hid (HBV.out.mono HW.out.le)
         have HFV : Hid (Fr W V B b (.slice da ds.length dc) (.slice da ds.length dc)) := Lib.hid (Fr.of_below HBV.out HW.out.le)
         obtain ⟨x0, x1, x2, x3, x4, x5, xl⟩ := HVB.out.box6
         have HWU := HWV
         have HFU := HFV
         have HUB := HVB
         have HBU := HBW
         have HLC : Hid ((coreS ww wl (stOf (out) ds) p).1.length ≤ lim) := Lib.hid (by
          have := HLEN.out
          rw [HE.out] at this
          exact this)
         obtain ⟨cdoc, fdoc⟩ := HWU.out.docs
         have HCR : Hid (coreS ww wl (stOf (out) ds) p = bif p.kind == 2 then paramS ww (stOf (out) ds) p else bif p.kind == 3 then ((wl (stOf ((out) ++ [36, 40, 10]) []) p.body).1 ++ [41], (stOf (out) ds).2) else putS (stOf (out) ds) ([36, 40, 40] ++ L p.text ++ [41, 41])) := Lib.hid rfl
         obtain ⟨s1, hs1⟩ : ∃ s, coreS ww wl (stOf (out) ds) p = s := ⟨_, rfl⟩
         rw [hs1] at HLC HCR HE
         have HS1 := Lib.hid hs1
         clear hs1
         have HC1 : Hid (s1 = putS (stOf (out) ds) ([36, 40, 40] ++ L p.text ++ [41, 41])) := Lib.hid (by rw [HCR.out, hk2, hk3]; rfl)
         have HZ1 : Hid ((out).length + (3 + p.text.size + 2) ≤ lim) := Lib.hid (by
          have g2 := HLC.out
          rw [HC1.out, putS] at g2
          simp only [stOf, List.length_append, List.length_cons, List.length_nil, L_size] at g2 ⊢
          omega)
         have k1 : ∀ V : World, (Op.stringOp .add (⟨#[36, 40, 40]⟩ : ByteArray) p.text).run Tryz.prog V = .ok (.string ((⟨#[36, 40, 40]⟩ : ByteArray) ++ p.text)) V := fun V => run_string_add_sum V _ _ (by simp; omega)
         have k2 : ∀ V : World, (Op.stringOp .add ((⟨#[36, 40, 40]⟩ : ByteArray) ++ p.text) ⟨#[41, 41]⟩).run Tryz.prog V = .ok (.string (((⟨#[36, 40, 40]⟩ : ByteArray) ++ p.text) ++ ⟨#[41, 41]⟩)) V := fun V => run_string_add_sum V _ _ (by simp; omega)
         go_wp2_with fail
         go_still_tail 7, (by kernel_rfl)
         go_wp2_with fail
         refine (HWU.out.str HFU.out bg _ (by have := HZ1.out; simp at this ⊢; omega)).mono ?_
         rintro e w5 ⟨rfl, hw5, hf5⟩
         have HS5 : Hid (Shown W B b (.slice da ds.length dc) s1 w5) := Lib.hid (by
          rw [HC1.out, putS]
          have := Shown.of hw5 hf5
          simpa [stOf, L_append] using this)
         clear hw5 hf5
         go_wp2_with fail
         exact ⟨_, results_none rfl _ _ _, rfl, by rw [HE.out]; exact HS5.out⟩
       | true =>
         have HE : Hid (r = putS (coreS ww wl (stOf (out ++ [34]) ds) p) [34]) := Lib.hid (by rw [← HR.out, hk1, hq]; rfl)
         rw [hq] at HC
         have HZQ : Hid ((coreS ww wl (stOf (out ++ [34]) ds) p).1.length + 1 ≤ lim) := Lib.hid (by have := HLEN.out; rw [HE.out, putS] at this; simpa using this)
         have HZ0 : Hid (out.length + 1 ≤ lim) := Lib.hid (by
          have g1 := coreS_grow HGW.out HGL.out (stOf (out ++ [34]) ds) p
          have g2 := HZQ.out
          simp only [stOf, List.length_append, List.length_cons, List.length_nil] at g1 g2 ⊢
          omega)
         go_enter_defers Tryz.func113, Tryz.ntmps113
         go_wp2_with fail
         obtain ⟨V, hV⟩ : ∃ V, V = W.alloc (.cells #[.int .i64 p.kind, .bool true, .string p.text, .string p.op, .slice a1 p.word.length c1, .slice a2 p.body.length c2] 44) := ⟨_, rfl⟩
         have HBV : Hid (Below W.heap.size W V) := Lib.hid (by rw [hV]; exact (Below.refl _ _).alloc (Nat.le_refl _) _)
         have HVB : Hid (Blk V W.heap.size 44 #[.int .i64 p.kind, .bool true, .string p.text, .string p.op, .slice a1 p.word.length c1, .slice a2 p.body.length c2]) := Lib.hid (by rw [hV]; exact Blk.new _ _ _)
         have hgV : W.heap.size < V.heap.size := by rw [hV]; simp
         rw [← hV]
         clear hV
         have HWV := Lib.hid (HW.out.below HBV.out)
         have hgb : W.heap.size ≠ b := by have := HW.out.lt; omega
         have HGD : Hid (Value.ownBlock (.slice da ds.length dc) ≠ some W.heap.size) := Lib.hid fun e => by have := HW.out.far _ e; omega
         have HBW : Hid (Below B W V) := Lib.hid (HBV.out.mono HW.out.le)
         have HFV : Hid (Fr W V B b (.slice da ds.length dc) (.slice da ds.length dc)) := Lib.hid (Fr.of_below HBV.out HW.out.le)
         obtain ⟨x0, x1, x2, x3, x4, x5, xl⟩ := HVB.out.box6
         refine (HWV.out.byte (Fr.refl V B b (.slice da ds.length dc)) bg 34 HZ0.out).mono ?_
         rintro e w1 ⟨rfl, hw1, hf1⟩
         have HWU := Lib.hid hw1
         have HFU := Lib.hid (HFV.out.trans hf1)
         have HUB := Lib.hid (hf1.blk HVB.out hgb HGD.out (by decide))
         have HBU := Lib.hid (HBW.out.trans hf1.low)
         clear hw1 hf1 x0 x1 x2 x3 x4 x5
         obtain ⟨x0, x1, x2, x3, x4, x5, xl⟩ := HUB.out.box6
         have CD : Hid (∀ X, Shown W B b (.slice da ds.length dc) (coreS ww wl (stOf (out ++ [34]) ds) p) X → CallsD Tryz.prog 81 #[.pointer (some ⟨b, 0, none⟩), .int .u8 34] .returning X fun e u' w' => u' = .returning ∧ e = .returned .nilIface ∧ Shown W B b (.slice da ds.length dc) r w') := Lib.hid fun X hX => by
          obtain ⟨dv5, ds5, hw5, hst5, hf5⟩ := shown_st hX
          refine (writeBD hw5 34 (by have := HZQ.out; unfold lim at this; omega) .returning).mono ?_
          rintro e u' w'' ⟨rfl, rfl, hw6, hf6⟩
          refine ⟨rfl, rfl, ?_⟩
          rw [HE.out, putS, ← hst5]
          exact Shown.of hw6 (hf5.trans hf6)
         have HLC : Hid ((coreS ww wl (stOf (out ++ [34]) ds) p).1.length ≤ lim) := Lib.hid (by
          have := HLEN.out
          rw [HE.out] at this
          exact Nat.le_trans (putS_grow _ _) this)
         obtain ⟨cdoc, fdoc⟩ := HWU.out.docs
         have HCR : Hid (coreS ww wl (stOf (out ++ [34]) ds) p = bif p.kind == 2 then paramS ww (stOf (out ++ [34]) ds) p else bif p.kind == 3 then ((wl (stOf ((out ++ [34]) ++ [36, 40, 10]) []) p.body).1 ++ [41], (stOf (out ++ [34]) ds).2) else putS (stOf (out ++ [34]) ds) ([36, 40, 40] ++ L p.text ++ [41, 41])) := Lib.hid rfl
         obtain ⟨s1, hs1⟩ : ∃ s, coreS ww wl (stOf (out ++ [34]) ds) p = s := ⟨_, rfl⟩
         rw [hs1] at HLC HCR HE
         have HS1 := Lib.hid hs1
         clear hs1
         have HC1 : Hid (s1 = putS (stOf (out ++ [34]) ds) ([36, 40, 40] ++ L p.text ++ [41, 41])) := Lib.hid (by rw [HCR.out, hk2, hk3]; rfl)
         have HZ1 : Hid ((out ++ [34]).length + (3 + p.text.size + 2) ≤ lim) := Lib.hid (by
          have g2 := HLC.out
          rw [HC1.out, putS] at g2
          simp only [stOf, List.length_append, List.length_cons, List.length_nil, L_size] at g2 ⊢
          omega)
         have k1 : ∀ V : World, (Op.stringOp .add (⟨#[36, 40, 40]⟩ : ByteArray) p.text).run Tryz.prog V = .ok (.string ((⟨#[36, 40, 40]⟩ : ByteArray) ++ p.text)) V := fun V => run_string_add_sum V _ _ (by simp; omega)
         have k2 : ∀ V : World, (Op.stringOp .add ((⟨#[36, 40, 40]⟩ : ByteArray) ++ p.text) ⟨#[41, 41]⟩).run Tryz.prog V = .ok (.string (((⟨#[36, 40, 40]⟩ : ByteArray) ++ p.text) ++ ⟨#[41, 41]⟩)) V := fun V => run_string_add_sum V _ _ (by simp; omega)
         go_wp2_with fail
         go_still_tail 7, (by kernel_rfl)
         go_wp2_with fail
         refine (HWU.out.str HFU.out bg _ (by have := HZ1.out; simp at this ⊢; omega)).mono ?_
         rintro e w5 ⟨rfl, hw5, hf5⟩
         have HS5 : Hid (Shown W B b (.slice da ds.length dc) s1 w5) := Lib.hid (by
          rw [HC1.out, putS]
          have := Shown.of hw5 hf5
          simpa [stOf, L_append] using this)
         clear hw5 hf5
         go_wp2_with fail
         (refine leaves_cons (f := 81) (args := #[.pointer (some ⟨b, 0, none⟩), .int .u8 34]) (by simp) (by simp [go_sem]) ?_; refine (CD.out _ (by rw [HS1.out]; exact HS5.out)).mono ?_; rintro e u' w'' ⟨rfl, rfl, hs6⟩; exact ⟨_, results_none rfl _ _ _, rfl, hs6⟩)
end Go.Proofs.YtnackmnoldkihaaGreatDoor
