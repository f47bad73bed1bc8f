/-
  The walk of the writer's param.
-/
import Derived.Test.YtnackmnoldkihaaGreatDoorW13
import Derived.Deep.RegionHeld3
import Derived.StillTailTactics
set_option linter.unusedVariables false
set_option linter.unusedSimpArgs false
/-
  The writer, step by step: small laws; the walks of doc and line.
-/
namespace Go.Proofs.YtnackmnoldkihaaGreatDoor
open Go.RowKit

/-- The library's one variable holds some number. -/
def Hd (W : World) (B : Nat) : Prop := (∃ c, W.cell? ⟨0, 0, none⟩ = some (.int .i64 c)) ∧ 0 < B
theorem Hd.below {W W' : World} {B : Nat} (h : Hd W B) (hb : Below B W W') : Hd W' B := by
 obtain ⟨⟨c, hc⟩, h0⟩ := h
 exact ⟨⟨c, (hb.cell (p := ⟨0, 0, none⟩) h0).trans hc⟩, h0⟩
def stOf (out : List UInt8) (ds : List DocV) : St := (out, ds.map (·.1))
/-- What a call of the writer leaves. -/
def Shown (W : World) (B b : Nat) (dv : Value) (s : St) (W' : World) : Prop := ∃ dv' ds', ds'.map (·.1) = s.2 ∧ Wr W' B b dv' s.1 ds' ∧ Fr W W' B b dv dv'
section
variable {W V X W' : World} {B b : Nat} {dv dv1 : Value} {out : List UInt8} {ds : List DocV}
theorem Shown.of (hw : Wr W' B b dv1 out ds) (hf : Fr W W' B b dv dv1) : Shown W B b dv (stOf out ds) W' := ⟨dv1, ds, rfl, hw, hf⟩
theorem Shown.after {s : St} (hf : Fr W V B b dv dv1) (h : Shown V B b dv1 s W') : Shown W B b dv s W' := by
 obtain ⟨dv2, ds2, h1, h2, h3⟩ := h
 exact ⟨dv2, ds2, h1, h2, hf.trans h3⟩
theorem Fr.later (hf : Fr W V B b dv dv1) (hb : Below V.heap.size V X) (hB : B ≤ V.heap.size) : Fr W X B b dv dv1 := hf.trans (Fr.of_below hb hB)
/-- A string more. -/
theorem Wr.str (h : Wr V B b dv1 out ds) (hf : Fr W V B b dv dv1) (hb : Below V.heap.size V X) (s : ByteArray) (hlen : out.length + s.size ≤ lim) :
 Calls Tryz.prog 78 #[.pointer (some ⟨b, 0, none⟩), .string s] X fun e w' => e = .returned (.tuple #[.int .i64 s.size, .nilIface]) ∧ Wr w' B b dv1 (out ++ L s) ds ∧ Fr W w' B b dv dv1 :=
 (writeS (h.below hb) s (by unfold lim at hlen; omega)).mono fun e w' ⟨h1, h2, h3⟩ => ⟨h1, h2, (hf.later hb h.le).trans h3⟩
/-- A byte more. -/
theorem Wr.byte (h : Wr V B b dv1 out ds) (hf : Fr W V B b dv dv1) (hb : Below V.heap.size V X) (c : UInt8) (hlen : out.length + 1 ≤ lim) :
 Calls Tryz.prog 81 #[.pointer (some ⟨b, 0, none⟩), .int .u8 ((c.toNat : Nat) : Int)] X fun e w' => e = .returned .nilIface ∧ Wr w' B b dv1 (out ++ [c]) ds ∧ Fr W w' B b dv dv1 :=
 (writeB (h.below hb) c (by unfold lim at hlen; omega)).mono fun e w' ⟨h1, h2, h3⟩ => ⟨h1, h2, (hf.later hb h.le).trans h3⟩
theorem Wr.block (h : Wr W B b dv out ds) : ∃ v p, W.heap[b]? = some (.cells #[p, v, dv] 84 (0, 0)) := by
 obtain ⟨_, ⟨v, p, h1, _⟩, _⟩ := h
 exact ⟨v, p, h1⟩
theorem Wr.docs (h : Wr W B b dv out ds) : W.cell? ⟨b, 2, none⟩ = some dv ∧ W.frozen? ⟨b, 2, none⟩ = false := by
 obtain ⟨v, p, h1⟩ := h.block
 exact ⟨by rw [Lib.cell_of_heap h1]; rfl, Lib.frozen_of_heap h1 2⟩
theorem Wr.shape (h : Wr W B b dv out ds) : ∃ a cap, dv = .slice a ds.length cap := own_shape h.2.2.1
theorem Wr.far (h : Wr W B b dv out ds) : ∀ k, dv.ownBlock = some k → B ≤ k ∧ k < W.heap.size := h.2.2.1.lt
theorem Wr.ne (h : Wr W B b dv out ds) : dv.ownBlock ≠ some b := by
 obtain ⟨v, p, h1⟩ := h.block
 exact row_ne h.2.2.1 h1 (by decide)
/-- A here-document that comes. -/
theorem Wr.doc_at (h : Wr W B b dv out ds) {k : Nat} {r : DocV} (hr : ds[k]? = some r) : ∃ g o a c d, (∀ w' : World, (Instr.indexAt 32 dv (.int .i64 (k : Int))).run Tryz.prog w' = .ok (.pointer (some ⟨g, o, none⟩)) w') ∧ g < W.heap.size ∧
 W.cell? ⟨g, o, none⟩ = some (.int .i64 r.1.fd) ∧ W.cell? ⟨g, o + 1, none⟩ = some (.string r.1.op) ∧ W.cell? ⟨g, o + 2, none⟩ = some (.string r.1.tag) ∧ W.cell? ⟨g, o + 3, none⟩ = some (.slice a r.1.word.length c) ∧ RdC W B d r.1 [.int .i64 r.1.fd, .string r.1.op, .string r.1.tag, .slice a r.1.word.length c] := by
 have hk := (List.getElem?_eq_some_iff.1 hr).1
 obtain ⟨d, hd⟩ := h.2.2.2.1 r (List.mem_of_getElem? hr)
 obtain ⟨a, c, e, _⟩ := hd.open
 obtain ⟨a', cap, g, off, hv, _, _, hi, hlt, hc⟩ := (Sl.of_own h.2.2.1).open (P := Tryz.prog) 32 31 Tryz.underlying32 (by kernel_rfl)
 have cell : ∀ j, j < 4 → W.cell? ⟨g, off + k * 4 + j, none⟩ = (docCells r)[j]? := fun j hj => by
  rw [Nat.add_assoc, hc (k * 4 + j) (by omega)]
  exact flat_get docCells 4 (fun _ => rfl) ds k r hr j hj
 rw [e] at cell hd
 refine ⟨g, off + k * 4, a, c, d, fun w' => by rw [hv]; exact hi k w' hk, by omega, cell 0 (by omega), cell 1 (by omega), cell 2 (by omega), cell 3 (by omega), hd⟩
/-- Other here-documents are laid into it. -/
theorem Wr.set (h : Wr W B b dv out ds) {dv' : Value} {ds' : List DocV} (hown : W.ownsRow B 31 4 dv' ds'.length (ds'.flatMap docCells)) (hdat : ∀ r ∈ ds', ∃ d, RdC W B d r.1 (docCells r)) (hds : ds'.length ≤ out.length) : Wr (W.setCell ⟨b, 2, none⟩ dv') B b dv' out ds' := by
 obtain ⟨hB, ⟨v, p, h1, h2, h3⟩, h4, h5⟩ := h
 refine ⟨hB, ⟨v, p, heap_put h1 2 _, h2, row_set h3 (row_ne h3 h1 (by decide)) 2 _⟩, row_set hown (row_ne hown h1 (by decide)) 2 _, fun r hr => ?_, hds⟩
 obtain ⟨d, hd⟩ := hdat r hr
 exact ⟨d, hd.keep fun _ _ _ _ hs => hs.below ((Below.refl B W).setCell (p := ⟨b, 2, none⟩) hB _)⟩
theorem Fr.set (hB : B ≤ b) (dv dv' : Value) (hd : ∀ k, dv'.ownBlock = some k → dv.ownBlock = some k ∨ W.heap.size ≤ k) : Fr W (W.setCell ⟨b, 2, none⟩ dv') B b dv dv' :=
 ⟨(Below.refl B W).setCell (p := ⟨b, 2, none⟩) hB _, fun k o ho hb _ _ => (Below.heap_setCell W ⟨b, 2, none⟩ dv' k hb).trans ho, hd⟩
theorem Wr.clear (h : Wr W B b dv out ds) : Wr (W.setCell ⟨b, 2, none⟩ (.slice none 0 0)) B b (.slice none 0 0) out [] ∧ Fr W (W.setCell ⟨b, 2, none⟩ (.slice none 0 0)) B b dv (.slice none 0 0) :=
 ⟨h.set (World.ownsRow_nil _ _ _ _) (by simp) (Nat.zero_le _), Fr.set h.1 dv _ (by simp [Value.ownBlock])⟩
end

set_option maxHeartbeats 1000000 in
set_option maxRecDepth 100000 in
theorem wdoc_any {W : World} {B b : Nat} {dv : Value} {out : List UInt8} {ds : List DocV} (h : Wr W B b dv out ds) (r : Rd) (d : Nat) (c : List Value) (hr : RdC W B d r c) (hlen : (out ++ docW r).length ≤ lim) :
 Calls Tryz.prog 82 #[.pointer (some ⟨b, 0, none⟩), .agg c.toArray] W fun e w' => e = .returned (.tuple #[]) ∧ Wr w' B b dv (out ++ docW r) ds ∧ Fr W w' B b dv dv := by
 have HR := Lib.hid hr
 have HW := Lib.hid h
 have hle := h.le
 obtain ⟨a1, c1, rfl, ⟨h1, h2⟩, hsum, hlw, hw⟩ := hr.open
 have hdz : (docL r.word).length ≤ 8388608 := by have := flat_docP (litrB r.word) r.word; rw [docL]; omega
 obtain ⟨s, hs⟩ : ∃ s, S (docL r.word) = s := ⟨_, rfl⟩
 have hsz : s.size ≤ 8388608 := by rw [← hs, S_size]; exact hdz
 have HS : Hid (docL r.word = L s) := Lib.hid (by rw [← hs, L_S])
 have CD : Hid (∀ V, Below W.heap.size W V → Calls Tryz.prog 12 #[.agg #[.int .i64 r.fd, .string r.op, .string r.tag, .slice a1 r.word.length c1]] V fun e w' => e = .returned (.string s) ∧ Below V.heap.size V w') := Lib.hid fun V hV => by
  rw [← hs]; exact doc_any r V d _ (HR.out.keep fun _ _ _ _ hh => (hh.below (hV.mono hle)).mono (Nat.le_trans hle hV.size))
 have HL : Hid (out.length + (s.size + r.tag.size + 1) ≤ lim) := Lib.hid (by
  rw [docW, HS.out, List.length_append, List.length_append, List.length_append, L_size, L_size] at hlen
  simpa [Nat.add_assoc] using hlen)
 clear hs hdz hw hsum hlw hr h hlen
 go_enter Tryz.func82, Tryz.ntmps82
 go_wp2_with fail
 obtain ⟨X, hX⟩ : ∃ X, X = W.alloc (.cells #[.int .i64 r.fd, .string r.op, .string r.tag, .slice a1 r.word.length c1] 31) := ⟨_, rfl⟩
 have HBX : Hid (Below W.heap.size W X) := Lib.hid (by rw [hX]; exact (Below.refl _ _).alloc (Nat.le_refl _) _)
 have HXB : Hid (Blk X W.heap.size 31 #[.int .i64 r.fd, .string r.op, .string r.tag, .slice a1 r.word.length c1]) := Lib.hid (by rw [hX]; exact Blk.new _ _ _)
 have x0 := HXB.out.cell 0
 have x1 := HXB.out.cell 1
 have x2 := HXB.out.cell 2
 have x3 := HXB.out.cell 3
 simp at x0 x1 x2 x3
 have hgX : W.heap.size < X.heap.size := by rw [hX]; simp
 rw [← hX]
 clear hX
 have CD2 : Hid (∀ V, Below X.heap.size X V → Calls Tryz.prog 12 #[.agg #[.int .i64 r.fd, .string r.op, .string r.tag, .slice a1 r.word.length c1]] V fun e w' => e = .returned (.string s) ∧ Below X.heap.size X w') := Lib.hid fun V hV => (CD.out V (since hV HBX.out)).mono fun e w' h => ⟨h.1, hV.trans (h.2.mono hV.size)⟩
 have HWX := Lib.hid (HW.out.below HBX.out)
 have CW : Hid (∀ V (u : ByteArray), Below X.heap.size X V → out.length + u.size ≤ lim → Calls Tryz.prog 78 #[.pointer (some ⟨b, 0, none⟩), .string u] V fun e w' => e = .returned (.tuple #[.int .i64 u.size, .nilIface]) ∧ Wr w' B b dv (out ++ L u) ds ∧ Fr X w' B b dv dv ∧ Blk w' W.heap.size 31 #[.int .i64 r.fd, .string r.op, .string r.tag, .slice a1 r.word.length c1]) := Lib.hid fun V u hV hu => (HWX.out.str (Fr.refl X B b dv) hV u hu).mono fun e w' ⟨h1, h2, h3⟩ => ⟨h1, h2, h3, h3.blk HXB.out (by have := HW.out.lt; omega) (fun e => by have := HW.out.far _ e; omega) (by decide)⟩
 have k7 : ∀ V : World, (Op.stringOp .add s r.tag).run Tryz.prog V = .ok (.string (s ++ r.tag)) V := fun V => run_string_add_sum V _ _ (by omega)
 have k8 : ∀ V : World, (Op.stringOp .add (s ++ r.tag) ⟨#[10]⟩).run Tryz.prog V = .ok (.string (s ++ r.tag ++ ⟨#[10]⟩)) V := fun V => run_string_add_sum V _ _ (by simp; omega)
 clear CD
 go_region_held3 (fun w' => w'.cell? ⟨W.heap.size, 0, none⟩ = some (.int .i64 r.fd) ∧ w'.cell? ⟨W.heap.size, 1, none⟩ = some (.string r.op) ∧ w'.cell? ⟨W.heap.size, 2, none⟩ = some (.string r.tag) ∧ w'.cell? ⟨W.heap.size, 3, none⟩ = some (.slice a1 r.word.length c1)) (go_keep)
  (first
   | (go_at_call 12; with_reducible refine (CD2.out _ bg).mono ?_; rintro e w1 ⟨rfl, hb1⟩; have d0 := (hb1.cell hgX).trans x0; have d1 := (hb1.cell hgX).trans x1; have d2 := (hb1.cell hgX).trans x2; have d3 := (hb1.cell hgX).trans x3)
   | (go_at_call 78; with_reducible refine (CW.out _ _ bg ?_).mono ?_; (have := HL.out; simp; omega); rintro e w2 ⟨rfl, hw2, hf2, hk2⟩; have d0 := hk2.cell 0; have d1 := hk2.cell 1; have d2 := hk2.cell 2; have d3 := hk2.cell 3; simp at d0 d1 d2 d3))
 all_goals
  go_wp2_with fail
  go_end0
  have hdw : docW r = L (s ++ r.tag ++ ⟨#[10]⟩) := by rw [docW, HS.out, L_append, L_append]; rfl
  rw [hdw]
  exact ⟨rfl, hw2, (Fr.of_below HBX.out hle).trans hf2⟩

theorem docs_take {ds : List DocV} {k : Nat} {r : DocV} (h : ds[k]? = some r) : (ds.take (k + 1)).flatMap (fun r => docW r.1) = (ds.take k).flatMap (fun r => docW r.1) ++ docW r.1 := flat_snoc h
theorem flat_take_le {α β : Type} (f : α → List β) (l : List α) (k : Nat) : ((l.take k).flatMap f).length ≤ (l.flatMap f).length := by
 have : l.flatMap f = (l.take k).flatMap f ++ (l.drop k).flatMap f := by rw [← List.flatMap_append, List.take_append_drop]
 rw [this, List.length_append]; omega

set_option maxHeartbeats 1000000 in
set_option maxRecDepth 100000 in
theorem line_any {W : World} {B b : Nat} {dv : Value} {out : List UInt8} {ds : List DocV} (h : Wr W B b dv out ds) (hlen : (lineS (stOf out ds)).1.length ≤ lim) :
 Calls Tryz.prog 62 #[.pointer (some ⟨b, 0, none⟩)] W fun e w' => e = .returned (.tuple #[]) ∧ Shown W B b dv (lineS (stOf out ds)) w' := by
 have hfl : (stOf out ds).2.flatMap docW = ds.flatMap fun r => docW r.1 := by rw [stOf, List.flatMap_map]
 have HLS : Hid (lineS (stOf out ds) = (out ++ 10 :: ds.flatMap (fun r => docW r.1), [])) := Lib.hid (by rw [lineS, hfl]; rfl)
 have HLEN : Hid (∀ k, (out ++ 10 :: (ds.take k).flatMap (fun r => docW r.1)).length ≤ lim) := Lib.hid fun k => by
  have := flat_take_le (fun r : DocV => docW r.1) ds k
  rw [HLS.out] at hlen
  simp only [List.length_append, List.length_cons] at hlen ⊢
  omega
 obtain ⟨a, cap, rfl⟩ := h.shape
 obtain ⟨n, hn⟩ : ∃ n, ds.length = n := ⟨_, rfl⟩
 have hnm : n ≤ 9223372036854775807 := by have := (Sl.of_own h.2.2.1).len; unfold maxLen at this; omega
 rw [hn] at h ⊢
 have HN := Lib.hid hn
 have CB := Lib.hid (h.byte (Fr.refl W B b _) (Below.refl _ _) 10 (by have := HLEN.out 0; simpa using this))
 have hbW := h.lt
 have hBb := h.1
 have HFAR := Lib.hid h.far
 clear h hn hfl hlen
 go_enter Tryz.func62, Tryz.ntmps62
 go_wp2_with fail
 refine CB.out.mono ?_
 rintro e w1 ⟨rfl, hw1, hf1⟩
 have HW1 := Lib.hid hw1
 have HF1 := Lib.hid hf1
 obtain ⟨c2, f2⟩ := hw1.docs
 clear hw1 hf1
 go_wp2_with fail
 go_loopw [13] (fun i V => ∃ k : Nat, k ≤ n ∧ i = .int .i64 k ∧ Wr V B b (.slice a n cap) (out ++ 10 :: (ds.take k).flatMap (fun r => docW r.1)) ds ∧ Fr W V B b (.slice a n cap) (.slice a n cap)) (fun i _ => n - (intOf i).toNat)
 case atStart => exact ⟨0, Nat.zero_le _, rfl, by simpa using HW1.out, HF1.out⟩
 case round =>
  obtain ⟨k, hk, rfl, hw, hf⟩ := hrel
  have HW := Lib.hid hw
  have HF := Lib.hid hf
  obtain ⟨c2, f2⟩ := hw.docs
  clear hw hf
  by_cases hlt : k < n
  · obtain ⟨r, hr⟩ : ∃ r, ds[k]? = .some r := ⟨_, List.getElem?_eq_getElem (by rw [HN.out]; exact hlt)⟩
    obtain ⟨g, o, a1, c1, d, hi, hgW, e0, e1, e2, e3, hrd⟩ := HW.out.doc_at hr
    have HTK := Lib.hid (docs_take hr)
    have CD : Hid (∀ V, Below wr.heap.size wr V → Calls Tryz.prog 82 #[.pointer (some ⟨b, 0, none⟩), .agg #[.int .i64 r.1.fd, .string r.1.op, .string r.1.tag, .slice a1 r.1.word.length c1]] V fun e w' => e = .returned (.tuple #[]) ∧ Wr w' B b (.slice a n cap) (out ++ 10 :: (ds.take k).flatMap (fun r => docW r.1) ++ docW r.1) ds ∧ Fr W w' B b (.slice a n cap) (.slice a n cap)) := Lib.hid fun V hV =>
     (wdoc_any (HW.out.below hV) r.1 d _ (hrd.keep fun _ _ _ _ hs => hs.below (hV.mono HW.out.le)) (by have := HLEN.out (k + 1); rw [HTK.out] at this; simpa using this)).mono fun e w' ⟨h1, h2, h3⟩ => ⟨h1, h2, (HF.out.later hV HW.out.le).trans h3⟩
    clear hr hrd
    go_wp2_with fail
    refine (CD.out _ bg).mono ?_
    rintro e w2 ⟨rfl, hw2, hf2⟩
    have HW2 := Lib.hid hw2
    have HF2 := Lib.hid hf2
    clear hw2 hf2
    go_wp2_with fail
    go_roundw
    case rel => exact ⟨k + 1, by omega, by go_num, by rw [HTK.out]; simpa using HW2.out, HF2.out⟩
    case measure => simp [intOf]; omega
  · have HTK : Hid (ds.take k = ds) := Lib.hid (List.take_of_length_le (by rw [HN.out]; omega))
    go_wp2_with fail
    go_end0
    have hc := HW.out.clear
    refine ⟨rfl, .slice none 0 0, [], by rw [HLS.out]; rfl, ?_, HF.out.trans hc.2⟩
    rw [HLS.out]
    have := hc.1
    rwa [HTK.out] at this
end Go.Proofs.YtnackmnoldkihaaGreatDoor
/-
  The walks of the writer's word, list, param.
-/
namespace Go.Proofs.YtnackmnoldkihaaGreatDoor
open Go.RowKit

/-- The writer's word, list, node. -/
def WordW (d : Nat) (ww : St → List Pt → St) (fw : List Pt → Bool) : Prop := ∀ (W : World) (B b : Nat) (dv : Value) (out : List UInt8) (ds : List DocV) (l : List Pt) (v : Value), Hd W B → Wr W B b dv out ds → PtsIn W B d l v → fw l = true → (ww (stOf out ds) l).1.length ≤ lim →
 Calls Tryz.prog 101 #[.pointer (some ⟨b, 0, none⟩), v] W fun e w' => e = .returned (.tuple #[]) ∧ Shown W B b dv (ww (stOf out ds) l) w'
def ListW (d : Nat) (wl : St → List Nd → St) (fl : List Nd → Bool) : Prop := ∀ (W : World) (B b : Nat) (dv : Value) (out : List UInt8) (ds : List DocV) (l : List Nd) (v : Value), Hd W B → Wr W B b dv out ds → NdsIn W B d l v → fl l = true → (wl (stOf out ds) l).1.length ≤ lim →
 Calls Tryz.prog 48 #[.pointer (some ⟨b, 0, none⟩), v] W fun e w' => e = .returned (.tuple #[]) ∧ Shown W B b dv (wl (stOf out ds) l) w'
def NodeW (d : Nat) (wn : St → Nd → St) (fn : Nd → Bool) : Prop := ∀ (W : World) (B b : Nat) (dv : Value) (out : List UInt8) (ds : List DocV) (x : Nd) (c : List Value), Hd W B → Wr W B b dv out ds → NdC W B d x c → fn x = true → (wn (stOf out ds) x).1.length ≤ lim →
 Calls Tryz.prog 61 #[.pointer (some ⟨b, 0, none⟩), .agg c.toArray] W fun e w' => e = .returned (.tuple #[]) ∧ Shown W B b dv (wn (stOf out ds) x) w'
def PartW (d : Nat) (wp : St → Pt → St) (fp : Pt → Bool) : Prop := ∀ (W : World) (B b : Nat) (dv : Value) (out : List UInt8) (ds : List DocV) (x : Pt) (c : List Value), Hd W B → Wr W B b dv out ds → PtC W B d x c → fp x = true → (wp (stOf out ds) x).1.length ≤ lim →
 Calls Tryz.prog 113 #[.pointer (some ⟨b, 0, none⟩), .agg c.toArray] W fun e w' => e = .returned (.tuple #[]) ∧ Shown W B b dv (wp (stOf out ds) x) w'

theorem fold_take {α : Type} {f : St → α → St} {l : List α} {k : Nat} {x : α} (h : l[k]? = some x) (s : St) : (l.take (k + 1)).foldl f s = f ((l.take k).foldl f s) x := by
 rw [List.take_add_one, h, List.foldl_append]; rfl
theorem fold_take_le {α : Type} {f : St → α → St} (hg : Grow2 f) (l : List α) (s : St) (k : Nat) : ((l.take k).foldl f s).1.length ≤ (l.foldl f s).1.length := by
 have : l.foldl f s = (l.drop k).foldl f ((l.take k).foldl f s) := by rw [← List.foldl_append, List.take_append_drop]
 rw [this]
 exact fold_grow hg _ _
theorem shown_st {W W' : World} {B b : Nat} {dv : Value} {s : St} (h : Shown W B b dv s W') : ∃ dv' ds', Wr W' B b dv' s.1 ds' ∧ stOf s.1 ds' = s ∧ Fr W W' B b dv dv' := by
 obtain ⟨dv', ds', h1, h2, h3⟩ := h
 exact ⟨dv', ds', h2, by rw [stOf, h1], h3⟩

set_option maxHeartbeats 1000000 in
set_option maxRecDepth 100000 in
theorem wword_any (d : Nat) (wp : St → Pt → St) (fp : Pt → Bool) (hg : Grow2 wp) (hp : PartW d wp fp) : WordW (d + 1) (fun s l => l.foldl wp s) (fun l => l.all fp) := by
 intro W B b dv out ds l v hH h hl hf hlen
 rw [PtsIn.succ] at hl
 obtain ⟨a, cap, rfl, hz⟩ := hl.len
 obtain ⟨n, hn⟩ : ∃ n, l.length = n := ⟨_, rfl⟩
 rw [hn] at hl hz ⊢
 have HL := Lib.hid hl
 have HN := Lib.hid hn
 have HH := Lib.hid hH
 have HP := Lib.hid hp
 have HW := Lib.hid h
 have HFA := Lib.hid (List.all_eq_true.1 hf)
 have HLEN : Hid (∀ k, ((l.take k).foldl wp (stOf out ds)).1.length ≤ lim) := Lib.hid fun k => Nat.le_trans (fold_take_le hg l _ k) hlen
 clear hl hn hH hp h hf hlen
 go_enter Tryz.func101, Tryz.ntmps101
 go_wp2_with fail
 go_loopw [8] (fun i V => ∃ k : Nat, k ≤ n ∧ i = .int .i64 k ∧ Shown W B b dv ((l.take k).foldl wp (stOf out ds)) V) (fun i _ => n - (intOf i).toNat)
 case atStart => exact ⟨0, Nat.zero_le _, rfl, Shown.of HW.out (Fr.refl W B b dv)⟩
 case round =>
  obtain ⟨k, hk, rfl, hsh⟩ := hrel
  obtain ⟨dv1, ds1, hw1, hst, hf1⟩ := shown_st hsh
  have HW1 := Lib.hid hw1
  have HST := Lib.hid hst
  have HF1 := Lib.hid hf1
  have hB := hf1.low
  have hBW := HW.out.le
  clear hsh hw1 hst hf1
  by_cases hlt : k < n
  · obtain ⟨x, hx⟩ : ∃ x, l[k]? = .some x := ⟨_, List.getElem?_eq_getElem (by rw [HN.out]; exact hlt)⟩
    have hl1 := HL.out.imp (fun xs hs => hs.below hB) (F' := PtC wr B d) fun x _ c h => h.keep fun _ _ _ _ hs => hs.below hB
    obtain ⟨b1, o, c, hi, hbB, hce, hC, _⟩ := hl1.at 29 44 Tryz.underlying29 (by kernel_rfl) hx
    have HX := Lib.hid (fold_take (f := wp) hx (stOf out ds))
    have HC := Lib.hid hC
    have HFX : Hid (fp x = true) := Lib.hid (HFA.out x (List.mem_of_getElem? hx))
    obtain ⟨a1, c1, a2, c2, rfl, _⟩ := hC.open
    have CP : Hid (∀ V, Below wr.heap.size wr V → Calls Tryz.prog 113 #[.pointer (some ⟨b, 0, none⟩), .agg #[.int .i64 x.kind, .bool x.quoted, .string x.text, .string x.op, .slice a1 x.word.length c1, .slice a2 x.body.length c2]] V fun e w' => e = .returned (.tuple #[]) ∧ Shown W B b dv ((l.take (k + 1)).foldl wp (stOf out ds)) w') := Lib.hid fun V hV =>
     (HP.out V B b dv1 _ ds1 x _ (HH.out.below (hB.trans (hV.mono HW1.out.le))) (HW1.out.below hV) (HC.out.keep fun _ _ _ _ hs => hs.below (hV.mono HW1.out.le)) HFX.out (by rw [HST.out, ← HX.out]; exact HLEN.out (k + 1))).mono fun e w' ⟨h1, h2⟩ => ⟨h1, by rw [HX.out]; rw [HST.out] at h2; exact h2.after (HF1.out.later hV HW1.out.le)⟩
    have e0 := hce 0 _ rfl
    have e1 := hce 1 _ rfl
    have e2 := hce 2 _ rfl
    have e3 := hce 3 _ rfl
    have e4 := hce 4 _ rfl
    have e5 := hce 5 _ rfl
    have hbB' := Nat.lt_of_lt_of_le hbB HW1.out.le
    rw [Nat.add_zero] at e0
    clear hx hce hC hl1
    go_wp2_with fail
    refine (CP.out _ bg).mono ?_
    rintro e w1 ⟨rfl, hs1⟩
    have HS1 := Lib.hid hs1
    clear hs1
    go_wp2_with fail
    go_roundw
    case rel => exact ⟨k + 1, by omega, by go_num, HS1.out⟩
    case measure => simp [intOf]; omega
  · have HTK : Hid (l.take k = l) := Lib.hid (List.take_of_length_le (by rw [HN.out]; omega))
    rw [HTK.out] at HW1 HST
    go_wp2_with fail
    go_end0
    refine ⟨rfl, ?_⟩
    have := Shown.of HW1.out HF1.out
    rwa [HST.out] at this

set_option maxHeartbeats 1000000 in
set_option maxRecDepth 100000 in
theorem wlist_any (d : Nat) (wn : St → Nd → St) (fn : Nd → Bool) (hg : Grow2 wn) (hp : NodeW d wn fn) : ListW (d + 1) (fun s l => l.foldl (fun s x => lineS (wn s x)) s) (fun l => l.all fn) := by
 intro W B b dv out ds l v hH h hl hf hlen
 rw [NdsIn.succ] at hl
 obtain ⟨a, cap, rfl, hz⟩ := hl.len
 obtain ⟨n, hn⟩ : ∃ n, l.length = n := ⟨_, rfl⟩
 rw [hn] at hl hz ⊢
 obtain ⟨wp, hwp⟩ : ∃ wp : St → Nd → St, wp = fun s x => lineS (wn s x) := ⟨_, rfl⟩
 have hg2 : Grow2 wp := fun s x => by rw [hwp]; exact Nat.le_trans (hg s x) (lineS_grow _)
 rw [← hwp] at hlen ⊢
 have HL := Lib.hid hl
 have HN := Lib.hid hn
 have HH := Lib.hid hH
 have HP := Lib.hid hp
 have HW := Lib.hid h
 have HWP := Lib.hid hwp
 have HFA := Lib.hid (List.all_eq_true.1 hf)
 have HLEN : Hid (∀ k, ((l.take k).foldl wp (stOf out ds)).1.length ≤ lim) := Lib.hid fun k => Nat.le_trans (fold_take_le hg2 l _ k) hlen
 clear hl hn hH hp h hf hlen hwp hg2
 go_enter Tryz.func48, Tryz.ntmps48
 go_wp2_with fail
 go_loopw [8] (fun i V => ∃ k : Nat, k ≤ n ∧ i = .int .i64 k ∧ Shown W B b dv ((l.take k).foldl wp (stOf out ds)) V) (fun i _ => n - (intOf i).toNat)
 case atStart => exact ⟨0, Nat.zero_le _, rfl, Shown.of HW.out (Fr.refl W B b dv)⟩
 case round =>
  obtain ⟨k, hk, rfl, hsh⟩ := hrel
  obtain ⟨dv1, ds1, hw1, hst, hf1⟩ := shown_st hsh
  have HW1 := Lib.hid hw1
  have HST := Lib.hid hst
  have HF1 := Lib.hid hf1
  have hB := hf1.low
  have hBW := HW.out.le
  clear hsh hw1 hst hf1
  by_cases hlt : k < n
  · obtain ⟨x, hx⟩ : ∃ x, l[k]? = .some x := ⟨_, List.getElem?_eq_getElem (by rw [HN.out]; exact hlt)⟩
    have hl1 := HL.out.imp (fun xs hs => hs.below hB) (F' := NdC wr B d) fun x _ c h => h.keep fun _ _ _ _ hs => hs.below hB
    obtain ⟨b1, o, c, hi, hbB, hce, hC, _⟩ := hl1.at 22 38 Tryz.underlying22 (by kernel_rfl) hx
    have HX : Hid ((l.take (k + 1)).foldl wp (stOf out ds) = lineS (wn ((l.take k).foldl wp (stOf out ds)) x)) := Lib.hid (by rw [fold_take hx, HWP.out])
    have HLE := Lib.hid (HLEN.out (k + 1))
    rw [HX.out] at HLE
    have HC := Lib.hid hC
    have HFX : Hid (fn x = true) := Lib.hid (HFA.out x (List.mem_of_getElem? hx))
    obtain ⟨a1, c1, a2, c2, a3, c3, a4, c4, a5, c5, rfl, _⟩ := hC.open
    have CP : Hid (∀ V, Below wr.heap.size wr V → Calls Tryz.prog 61 #[.pointer (some ⟨b, 0, none⟩), .agg #[.int .i64 x.kind, .string x.name, .slice a1 x.assigns.length c1, .slice a2 x.words.length c2, .slice a3 x.redirs.length c3, .slice a4 x.lists.length c4, .slice a5 x.arms.length c5]] V fun e w' => e = .returned (.tuple #[]) ∧ Shown W B b dv (wn ((l.take k).foldl wp (stOf out ds)) x) w') := Lib.hid fun V hV =>
     (HP.out V B b dv1 _ ds1 x _ (HH.out.below (hB.trans (hV.mono HW1.out.le))) (HW1.out.below hV) (HC.out.keep fun _ _ _ _ hs => hs.below (hV.mono HW1.out.le)) HFX.out (by rw [HST.out]; exact Nat.le_trans (lineS_grow _) HLE.out)).mono fun e w' ⟨h1, h2⟩ => ⟨h1, by rw [HST.out] at h2; exact h2.after (HF1.out.later hV HW1.out.le)⟩
    have e0 := hce 0 _ rfl
    have e1 := hce 1 _ rfl
    have e2 := hce 2 _ rfl
    have e3 := hce 3 _ rfl
    have e4 := hce 4 _ rfl
    have e5 := hce 5 _ rfl
    have e6 := hce 6 _ rfl
    have hbB' := Nat.lt_of_lt_of_le hbB HW1.out.le
    rw [Nat.add_zero] at e0
    clear hx hce hC hl1
    go_wp2_with fail
    refine (CP.out _ bg).mono ?_
    rintro e w1 ⟨rfl, hs1⟩
    obtain ⟨dv2, ds2, hw2, hst2, hf2⟩ := shown_st hs1
    have CL : Hid (Calls Tryz.prog 62 #[.pointer (some ⟨b, 0, none⟩)] w1 fun e w' => e = .returned (.tuple #[]) ∧ Shown W B b dv ((l.take (k + 1)).foldl wp (stOf out ds)) w') := Lib.hid
     ((line_any hw2 (by rw [hst2]; exact HLE.out)).mono fun e w' ⟨h1, h2⟩ => ⟨h1, by rw [HX.out]; rw [hst2] at h2; exact h2.after hf2⟩)
    clear hs1 hw2 hst2 hf2
    go_wp2_with fail
    refine CL.out.mono ?_
    rintro e w2 ⟨rfl, hs2⟩
    have HS2 := Lib.hid hs2
    clear hs2
    go_wp2_with fail
    go_roundw
    case rel => exact ⟨k + 1, by omega, by go_num, HS2.out⟩
    case measure => simp [intOf]; omega
  · have HTK : Hid (l.take k = l) := Lib.hid (List.take_of_length_le (by rw [HN.out]; omega))
    rw [HTK.out] at HW1 HST
    go_wp2_with fail
    go_end0
    refine ⟨rfl, ?_⟩
    have := Shown.of HW1.out HF1.out
    rwa [HST.out] at this
end Go.Proofs.YtnackmnoldkihaaGreatDoor
namespace Go.Proofs.YtnackmnoldkihaaGreatDoor
open Go.RowKit

theorem len3 {a b c : List UInt8} {n : Nat} (h : (a ++ (b ++ c)).length ≤ n) : a.length + (b.length + c.length) ≤ n := by simpa using h

set_option maxHeartbeats 1000000 in
set_option maxRecDepth 100000 in
theorem wparam_any (d : Nat) (ww : St → List Pt → St) (fw : List Pt → Bool) (hg : Grow2 ww) (hp : WordW d ww fw) {W : World} {B b : Nat} {dv : Value} {out : List UInt8} {ds : List DocV} (p : Pt) (c : List Value) (hH : Hd W B) (h : Wr W B b dv out ds) (hc : PtC W B d p c) (hf : fw p.word = true) (hlen : (paramS ww (stOf out ds) p).1.length ≤ lim) :
 Calls Tryz.prog 122 #[.pointer (some ⟨b, 0, none⟩), .agg c.toArray] W fun e w' => e = .returned (.tuple #[]) ∧ Shown W B b dv (paramS ww (stOf out ds) p) w' := by
 obtain ⟨a1, c1, a2, c2, rfl, ⟨h1, h2⟩, ⟨hlw, hlb⟩, hw, _⟩ := hc.open
 have HH := Lib.hid hH
 have HP := Lib.hid hp
 have HG := Lib.hid hg
 have HW := Lib.hid h
 have HPW := Lib.hid hw
 have HF := Lib.hid hf
 obtain ⟨r, hr⟩ : ∃ r, paramS ww (stOf out ds) p = r := ⟨_, rfl⟩
 rw [hr] at hlen ⊢
 rw [paramS] at hr
 have HR := Lib.hid hr
 have HLEN := Lib.hid hlen
 clear hH hp hg h hw hf hr hlen hc
 cases hoe : (L p.op).isEmpty with
 | true =>
   have e1 : p.op.toList.isEmpty = true := by rw [isEmpty_L]; exact hoe
   have HE : Hid (r = putS (stOf out ds) ([36, 123] ++ L p.text ++ [125])) := Lib.hid (by rw [← HR.out, hoe]; rfl)
   have HZ : Hid (out.length + (2 + p.text.size + 1) ≤ lim) := Lib.hid (by have := HLEN.out; rw [HE.out, putS] at this; simp [stOf, L_size] at this; omega)
   have k1 : ∀ V : World, (Op.stringOp .add (⟨#[36, 123]⟩ : ByteArray) p.text).run Tryz.prog V = .ok (.string ((⟨#[36, 123]⟩ : ByteArray) ++ p.text)) V := fun V => run_string_add_sum V _ _ (by simp; omega)
   have k2 : ∀ V : World, (Op.stringOp .add ((⟨#[36, 123]⟩ : ByteArray) ++ p.text) ⟨#[125]⟩).run Tryz.prog V = .ok (.string (((⟨#[36, 123]⟩ : ByteArray) ++ p.text) ++ ⟨#[125]⟩)) V := fun V => run_string_add_sum V _ _ (by simp; omega)
   clear hoe
   go_enter Tryz.func122, Tryz.ntmps122
   go_wp2_with fail
   obtain ⟨V, hV⟩ : ∃ V, V = W.alloc (.cells #[.int .i64 p.kind, .bool p.quoted, .string p.text, .string p.op, .slice a1 p.word.length c1, .slice a2 p.body.length c2] 44) := ⟨_, rfl⟩
   have HBV : Hid (Below W.heap.size W V) := Lib.hid (by rw [hV]; exact (Below.refl _ _).alloc (Nat.le_refl _) _)
   have HVB : Hid (Blk V W.heap.size 44 #[.int .i64 p.kind, .bool p.quoted, .string p.text, .string p.op, .slice a1 p.word.length c1, .slice a2 p.body.length c2]) := Lib.hid (by rw [hV]; exact Blk.new _ _ _)
   have hgV : W.heap.size < V.heap.size := by rw [hV]; simp
   rw [← hV]
   clear hV
   have HWV := Lib.hid (HW.out.below HBV.out)
   have hgb : W.heap.size ≠ b := by have := HW.out.lt; omega
   have HGD : Hid (Value.ownBlock (dv) ≠ some W.heap.size) := Lib.hid fun e => by have := HW.out.far _ e; omega
   have HBW : Hid (Below B W V) := Lib.hid (HBV.out.mono HW.out.le)
   have HFV : Hid (Fr W V B b (dv) (dv)) := Lib.hid (Fr.of_below HBV.out HW.out.le)
   obtain ⟨x0, x1, x2, x3, x4, x5, xl⟩ := HVB.out.box6
   go_still_tail 7, (by kernel_rfl)
   go_wp2_with fail
   refine (HWV.out.str HFV.out bg _ (by have := HZ.out; simp; omega)).mono ?_
   rintro e w1 ⟨rfl, hw0, hf0⟩
   have HWw1 := Lib.hid hw0
   have HFw1 := Lib.hid hf0
   clear hw0 hf0
   go_wp2_with fail
   go_end0
   refine ⟨rfl, ?_⟩
   have := Shown.of HWw1.out HFw1.out
   rw [HE.out, putS]
   simpa [stOf, L_append] using this
 | false =>
   have e1 : p.op.toList.isEmpty = false := by rw [isEmpty_L]; exact hoe
   cases hol : (L p.op == [108, 101, 110]) with
   | true =>
     have e3 : (p.op.toList == [108, 101, 110]) = true := by rw [toList_L]; exact hol
     have HE : Hid (r = putS (stOf out ds) ([36, 123, 35] ++ L p.text ++ [125])) := Lib.hid (by rw [← HR.out, hoe, hol]; rfl)
     have HZ : Hid (out.length + (3 + p.text.size + 1) ≤ lim) := Lib.hid (by have := HLEN.out; rw [HE.out, putS] at this; simp [stOf, L_size] at this; omega)
     have k1 : ∀ V : World, (Op.stringOp .add (⟨#[36, 123, 35]⟩ : ByteArray) p.text).run Tryz.prog V = .ok (.string ((⟨#[36, 123, 35]⟩ : ByteArray) ++ p.text)) V := fun V => run_string_add_sum V _ _ (by simp; omega)
     have k2 : ∀ V : World, (Op.stringOp .add ((⟨#[36, 123, 35]⟩ : ByteArray) ++ p.text) ⟨#[125]⟩).run Tryz.prog V = .ok (.string (((⟨#[36, 123, 35]⟩ : ByteArray) ++ p.text) ++ ⟨#[125]⟩)) V := fun V => run_string_add_sum V _ _ (by simp; omega)
     clear hoe hol
     go_enter Tryz.func122, Tryz.ntmps122
     go_wp2_with fail
     obtain ⟨V, hV⟩ : ∃ V, V = W.alloc (.cells #[.int .i64 p.kind, .bool p.quoted, .string p.text, .string p.op, .slice a1 p.word.length c1, .slice a2 p.body.length c2] 44) := ⟨_, rfl⟩
     have HBV : Hid (Below W.heap.size W V) := Lib.hid (by rw [hV]; exact (Below.refl _ _).alloc (Nat.le_refl _) _)
     have HVB : Hid (Blk V W.heap.size 44 #[.int .i64 p.kind, .bool p.quoted, .string p.text, .string p.op, .slice a1 p.word.length c1, .slice a2 p.body.length c2]) := Lib.hid (by rw [hV]; exact Blk.new _ _ _)
     have hgV : W.heap.size < V.heap.size := by rw [hV]; simp
     rw [← hV]
     clear hV
     have HWV := Lib.hid (HW.out.below HBV.out)
     have hgb : W.heap.size ≠ b := by have := HW.out.lt; omega
     have HGD : Hid (Value.ownBlock (dv) ≠ some W.heap.size) := Lib.hid fun e => by have := HW.out.far _ e; omega
     have HBW : Hid (Below B W V) := Lib.hid (HBV.out.mono HW.out.le)
     have HFV : Hid (Fr W V B b (dv) (dv)) := Lib.hid (Fr.of_below HBV.out HW.out.le)
     obtain ⟨x0, x1, x2, x3, x4, x5, xl⟩ := HVB.out.box6
     go_still_tail 7, (by kernel_rfl)
     go_wp2_with fail
     refine (HWV.out.str HFV.out bg _ (by have := HZ.out; simp; omega)).mono ?_
     rintro e w1 ⟨rfl, hw0, hf0⟩
     have HWw1 := Lib.hid hw0
     have HFw1 := Lib.hid hf0
     clear hw0 hf0
     go_wp2_with fail
     go_end0
     refine ⟨rfl, ?_⟩
     have := Shown.of HWw1.out HFw1.out
     rw [HE.out, putS]
     simpa [stOf, L_append] using this
   | false =>
     have e3 : (p.op.toList == [108, 101, 110]) = false := by rw [toList_L]; exact hol
     have HE : Hid (r = putS (ww (stOf (out ++ ([36, 123] ++ L p.text ++ L p.op)) ds) p.word) [125]) := Lib.hid (by rw [← HR.out, hoe, hol]; rfl)
     have HZ3 : Hid ((ww (stOf (out ++ ([36, 123] ++ L p.text ++ L p.op)) ds) p.word).1.length + 1 ≤ lim) := Lib.hid (by have := HLEN.out; rw [HE.out, putS] at this; simpa using this)
     have HZ : Hid (out.length + (2 + p.text.size + p.op.size) ≤ lim) := Lib.hid (by
      have h1 := HG.out (stOf (out ++ ([36, 123] ++ L p.text ++ L p.op)) ds) p.word
      have h2 := HZ3.out
      simp [stOf, L_size] at h1 h2
      omega)
     have k1 : ∀ V : World, (Op.stringOp .add (⟨#[36, 123]⟩ : ByteArray) p.text).run Tryz.prog V = .ok (.string ((⟨#[36, 123]⟩ : ByteArray) ++ p.text)) V := fun V => run_string_add_sum V _ _ (by simp; omega)
     have k2 : ∀ V : World, (Op.stringOp .add ((⟨#[36, 123]⟩ : ByteArray) ++ p.text) p.op).run Tryz.prog V = .ok (.string (((⟨#[36, 123]⟩ : ByteArray) ++ p.text) ++ p.op)) V := fun V => run_string_add_sum V _ _ (by simp; omega)
     clear hoe hol
     go_enter Tryz.func122, Tryz.ntmps122
     go_wp2_with fail
     obtain ⟨V, hV⟩ : ∃ V, V = W.alloc (.cells #[.int .i64 p.kind, .bool p.quoted, .string p.text, .string p.op, .slice a1 p.word.length c1, .slice a2 p.body.length c2] 44) := ⟨_, rfl⟩
     have HBV : Hid (Below W.heap.size W V) := Lib.hid (by rw [hV]; exact (Below.refl _ _).alloc (Nat.le_refl _) _)
     have HVB : Hid (Blk V W.heap.size 44 #[.int .i64 p.kind, .bool p.quoted, .string p.text, .string p.op, .slice a1 p.word.length c1, .slice a2 p.body.length c2]) := Lib.hid (by rw [hV]; exact Blk.new _ _ _)
     have hgV : W.heap.size < V.heap.size := by rw [hV]; simp
     rw [← hV]
     clear hV
     have HWV := Lib.hid (HW.out.below HBV.out)
     have hgb : W.heap.size ≠ b := by have := HW.out.lt; omega
     have HGD : Hid (Value.ownBlock (dv) ≠ some W.heap.size) := Lib.hid fun e => by have := HW.out.far _ e; omega
     have HBW : Hid (Below B W V) := Lib.hid (HBV.out.mono HW.out.le)
     have HFV : Hid (Fr W V B b (dv) (dv)) := Lib.hid (Fr.of_below HBV.out HW.out.le)
     obtain ⟨x0, x1, x2, x3, x4, x5, xl⟩ := HVB.out.box6
     go_still_tail 9, (by kernel_rfl)
     go_wp2_with fail
     refine (HWV.out.str (Lib.hid (Fr.refl V B b dv)).out bg _ (by have := HZ.out; simp; omega)).mono ?_
     rintro e w1 ⟨rfl, hw0, hf0⟩
     have HWw1 := Lib.hid hw0
     have HFw1 := Lib.hid hf0
     clear hw0 hf0
     have HK1 := Lib.hid (HFw1.out.blk HVB.out hgb HGD.out (by decide))
     clear x0 x1 x2 x3 x4 x5
     obtain ⟨y0, y1, y2, y3, y4, y5, yl⟩ := HK1.out.box6
     have CW := Lib.hid (HP.out w1 B b dv _ ds p.word _ (HH.out.below (HBW.out.trans HFw1.out.low)) HWw1.out (HPW.out.below (HBW.out.trans HFw1.out.low)) HF.out (by have := HZ3.out; simp [L_append] at this ⊢; omega))
     go_wp2_with fail
     refine CW.out.mono ?_
     rintro e w2 ⟨rfl, hs2⟩
     obtain ⟨dv2, ds2, hw2, hst2, hf2⟩ := shown_st hs2
     have HW2 := Lib.hid hw2
     have HST2 := Lib.hid hst2
     have HF2 := Lib.hid ((HFV.out.trans HFw1.out).trans hf2)
     clear hs2 hw2 hst2 hf2
     have CB : Hid (∀ X, Below w2.heap.size w2 X → Calls Tryz.prog 81 #[.pointer (some ⟨b, 0, none⟩), .int .u8 125] X fun e w' => e = .returned .nilIface ∧ Shown W B b dv r w') := Lib.hid fun X hX =>
      (HW2.out.byte HF2.out hX 125 (by have := HZ3.out; simp [L_append] at this ⊢; omega)).mono fun e w' ⟨h1, h2, h3⟩ => ⟨h1, by
       have := Shown.of h2 h3
       rw [HE.out, putS]
       have e : (ww (stOf (out ++ ([36, 123] ++ L p.text ++ L p.op)) ds) p.word) = (ww (stOf (out ++ L (⟨#[36, 123]⟩ ++ p.text ++ p.op)) ds) p.word) := by simp [L_append]
       rw [e, ← HST2.out]
       simpa [stOf] using this⟩
     go_wp2_with fail
     refine (CB.out _ bg).mono ?_
     rintro e w3 ⟨rfl, hs3⟩
     have HS3 := Lib.hid hs3
     clear hs3
     go_wp2_with fail
     go_end0
     exact ⟨rfl, HS3.out⟩
end Go.Proofs.YtnackmnoldkihaaGreatDoor
