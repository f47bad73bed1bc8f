/-
  The walk of the writer's arms.
-/
import Derived.Test.YtnackmnoldkihaaDoorQB8
import Derived.Deep.RegionLaw
/-
  The writer, step by step, as what has been shown; the walks of block and redirs.
-/
namespace Go.Proofs.YtnackmnoldkihaaDoor
open Go.RowKit

section
variable {W V X W' : World} {B b : Nat} {dv : Value} {s : St}
theorem Shown.start {out : List UInt8} {ds : List DocV} (h : Wr W B b dv out ds) : Shown W B b dv (stOf out ds) W := Shown.of h (Fr.refl W B b dv)
theorem Shown.low (h : Shown V B b dv s W) : Below B V W := by obtain ⟨_, _, _, _, hf⟩ := h; exact hf.low
theorem Shown.le (h : Shown V B b dv s W) : B ≤ W.heap.size := by obtain ⟨_, _, _, hw, _⟩ := h; exact hw.le
theorem Shown.blk {g : Nat} {t : TypeId} {cs : Array Value} (h : Shown V B b dv s W) (hk : Blk V g t cs) (hg : g ≠ b) (hd : dv.ownBlock ≠ some g) (ht : t ≠ 5) : Blk W g t cs := by
  obtain ⟨_, _, _, _, hf⟩ := h
  exact hf.blk hk hg hd ht
theorem Shown.later (h : Shown V B b dv s W) (hb : Below W.heap.size W X) : Shown V B b dv s X := by
  obtain ⟨dv1, ds1, h1, h2, h3⟩ := h
  exact ⟨dv1, ds1, h1, h2.below hb, h3.later hb h2.le⟩
theorem Shown.str (h : Shown V B b dv s W) (hb : Below W.heap.size W X) (t : ByteArray) (hlen : s.1.length + t.size ≤ lim) :
    Calls Tryd.prog 24 #[.pointer (some ⟨b, 0, none⟩), .string t] X fun e w' => e = .returned (.tuple #[.int .i64 t.size, .nilIface]) ∧ Shown V B b dv (putS s (L t)) w' := by
  obtain ⟨dv1, ds1, h1, h2, h3⟩ := h
  exact (h2.str h3 hb t hlen).mono fun e w' ⟨g1, g2, g3⟩ => ⟨g1, dv1, ds1, h1, g2, g3⟩
theorem Shown.byte (h : Shown V B b dv s W) (hb : Below W.heap.size W X) (c : UInt8) (hlen : s.1.length + 1 ≤ lim) :
    Calls Tryd.prog 27 #[.pointer (some ⟨b, 0, none⟩), .int .u8 ((c.toNat : Nat) : Int)] X fun e w' => e = .returned .nilIface ∧ Shown V B b dv (putS s [c]) w' := by
  obtain ⟨dv1, ds1, h1, h2, h3⟩ := h
  exact (h2.byte h3 hb c hlen).mono fun e w' ⟨g1, g2, g3⟩ => ⟨g1, dv1, ds1, h1, g2, g3⟩
theorem Shown.line (h : Shown V B b dv s W) (hb : Below W.heap.size W X) (hlen : (lineS s).1.length ≤ lim) :
    Calls Tryd.prog 15 #[.pointer (some ⟨b, 0, none⟩)] X fun e w' => e = .returned (.tuple #[]) ∧ Shown V B b dv (lineS s) w' := by
  obtain ⟨dv1, ds1, h1, h2, h3⟩ := shown_st (h.later hb)
  rw [← h2] at hlen ⊢
  exact (line_any h1 hlen).mono fun e w' ⟨g1, g2⟩ => ⟨g1, g2.after h3⟩
theorem Shown.word {d : Nat} {ww : St → List Pt → St} {fw : List Pt → Bool} (hw : WordW d ww fw) (h : Shown V B b dv s W) (hb : Below W.heap.size W X) (hH : Hd V B) {l : List Pt} {v : Value} (hl : PtsIn V B d l v) (hf : fw l = true) (hlen : (ww s l).1.length ≤ lim) :
    Calls Tryd.prog 43 #[.pointer (some ⟨b, 0, none⟩), v] X fun e w' => e = .returned (.tuple #[]) ∧ Shown V B b dv (ww s l) w' := by
  have hx := h.later hb
  obtain ⟨dv1, ds1, h1, h2, h3⟩ := shown_st hx
  rw [← h2] at hlen ⊢
  exact (hw X B b dv1 _ ds1 l v (hH.below hx.low) h1 (hl.below hx.low) hf hlen).mono fun e w' ⟨g1, g2⟩ => ⟨g1, g2.after h3⟩
theorem Shown.list {d : Nat} {wl : St → List Nd → St} {fl : List Nd → Bool} (hw : ListW d wl fl) (h : Shown V B b dv s W) (hb : Below W.heap.size W X) (hH : Hd V B) {l : List Nd} {v : Value} (hl : NdsIn V B d l v) (hf : fl l = true) (hlen : (wl s l).1.length ≤ lim) :
    Calls Tryd.prog 10 #[.pointer (some ⟨b, 0, none⟩), v] X fun e w' => e = .returned (.tuple #[]) ∧ Shown V B b dv (wl s l) w' := by
  have hx := h.later hb
  obtain ⟨dv1, ds1, h1, h2, h3⟩ := shown_st hx
  rw [← h2] at hlen ⊢
  exact (hw X B b dv1 _ ds1 l v (hH.below hx.low) h1 (hl.below hx.low) hf hlen).mono fun e w' ⟨g1, g2⟩ => ⟨g1, g2.after h3⟩
theorem Shown.node {d : Nat} {wn : St → Nd → St} {fn : Nd → Bool} (hw : NodeW d wn fn) (h : Shown V B b dv s W) (hb : Below W.heap.size W X) (hH : Hd V B) {x : Nd} {c : List Value} (hl : NdC V B d x c) (hf : fn x = true) (hlen : (wn s x).1.length ≤ lim) :
    Calls Tryd.prog 14 #[.pointer (some ⟨b, 0, none⟩), .agg c.toArray] X fun e w' => e = .returned (.tuple #[]) ∧ Shown V B b dv (wn s x) w' := by
  have hx := h.later hb
  obtain ⟨dv1, ds1, h1, h2, h3⟩ := shown_st hx
  rw [← h2] at hlen ⊢
  exact (hw X B b dv1 _ ds1 x c (hH.below hx.low) h1 (hl.keep fun _ _ _ _ hs => hs.below hx.low) hf hlen).mono fun e w' ⟨g1, g2⟩ => ⟨g1, g2.after h3⟩
end

set_option maxHeartbeats 1000000 in
set_option maxRecDepth 100000 in
theorem wblock_any {d : Nat} {wl : St → List Nd → St} {fl : List Nd → Bool} (hw : ListW d wl fl) (hg : Grow2 wl) {V W X : World} {B b : Nat} {dv : Value} {s : St} (h : Shown V B b dv s W) (hb : Below W.heap.size W X) (hH : Hd V B) (head : ByteArray) {l : List Nd} {v : Value} (hl : NdsIn V B d l v) (hf : fl l = true) (hlen : (blockS wl s (L head) l).1.length ≤ lim) :
    Calls Tryd.prog 45 #[.pointer (some ⟨b, 0, none⟩), .string head, v] X fun e w' => e = .returned (.tuple #[]) ∧ Shown V B b dv (blockS wl s (L head) l) w' := by
  have hl2 : (lineS (putS s (L head))).1.length ≤ lim := Nat.le_trans (hg _ _) hlen
  have C1 := Lib.hid ((h.later hb).str (Below.refl _ _) head (by
    have := Nat.le_trans (lineS_grow (putS s (L head))) hl2
    simpa [putS, L_size] using this))
  obtain ⟨a, cap, rfl, _⟩ := hl.shape
  have HL := Lib.hid hl
  have HH := Lib.hid hH
  have HW := Lib.hid hw
  have HF := Lib.hid hf
  have HLEN := Lib.hid hlen
  have HL2 := Lib.hid hl2
  clear h hb hl hH hw hf hlen hl2 hg
  go_enter Tryd.func45, Tryd.ntmps45
  go_wp2_with fail
  refine C1.out.mono ?_
  rintro e w1 ⟨rfl, hs1⟩
  have C2 := Lib.hid (hs1.line (Below.refl _ _) HL2.out)
  clear hs1
  go_wp2_with fail
  refine C2.out.mono ?_
  rintro e w2 ⟨rfl, hs2⟩
  have C3 := Lib.hid (hs2.list HW.out (Below.refl _ _) HH.out HL.out HF.out HLEN.out)
  clear hs2
  go_wp2_with fail
  refine C3.out.mono ?_
  rintro e w3 ⟨rfl, hs3⟩
  have HS3 := Lib.hid hs3
  clear hs3
  go_wp2_with fail
  go_end0
  exact ⟨rfl, HS3.out⟩

/-! ### lists that are written one behind the other -/
theorem redirs_snoc (wd : St → List Pt → St) (r : Rd) : ∀ (l : List Rd) (s : St) (bl : Bool), redirsS wd s (l ++ [r]) bl = redirS wd (nextS (redirsS wd s l bl) (bl || !l.isEmpty)) r
  | [], s, bl => by simp [redirsS]
  | a :: l, s, bl => by
    rw [List.cons_append, redirsS, redirs_snoc wd r l, redirsS]; simp
theorem assigns_snoc (wd : St → List Pt → St) (a : As) : ∀ (l : List As) (s : St) (bl : Bool), assignsS wd s (l ++ [a]) bl = wd (putS (nextS (assignsS wd s l bl) (bl || !l.isEmpty)) (L a.name ++ [61])) a.word
  | [], s, bl => by simp [assignsS]
  | x :: l, s, bl => by
    rw [List.cons_append, assignsS, assigns_snoc wd a l, assignsS]; simp
theorem words_snoc (wd : St → List Pt → St) (y : List Pt) : ∀ (l : List (List Pt)) (s : St) (bl : Bool), wordsS wd s (l ++ [y]) bl = wd (nextS (wordsS wd s l bl) (bl || !l.isEmpty)) y
  | [], s, bl => by simp [wordsS]
  | x :: l, s, bl => by
    rw [List.cons_append, wordsS, words_snoc wd y l, wordsS]; simp
theorem bars_snoc (wd : St → List Pt → St) (y : List Pt) : ∀ (l : List (List Pt)) (s : St) (bl : Bool), barsS wd s (l ++ [y]) bl = wd (bif bl || !l.isEmpty then putS (barsS wd s l bl) [32, 124, 32] else barsS wd s l bl) y
  | [], s, bl => by simp [barsS]
  | x :: l, s, bl => by
    rw [List.cons_append, barsS, bars_snoc wd y l, barsS]; simp
theorem join_snoc (nd : St → Nd → St) (sign : List UInt8) (y : List Nd) : ∀ (l : List (List Nd)) (s : St) (bl : Bool), joinS nd sign s (l ++ [y]) bl = oneS nd (bif bl || !l.isEmpty then putS (joinS nd sign s l bl) sign else joinS nd sign s l bl) y
  | [], s, bl => by simp [joinS]
  | x :: l, s, bl => by
    rw [List.cons_append, joinS, join_snoc nd sign y l, joinS]; simp
theorem take_snoc' {α : Type} {l : List α} {k : Nat} {x : α} (h : l[k]? = some x) : l.take (k + 1) = l.take k ++ [x] := by rw [List.take_add_one, h]; rfl
theorem take_empty {α : Type} {l : List α} {k : Nat} (h : k < l.length) : (!(l.take k).isEmpty) = decide (0 < k) := by
  cases k with
  | zero => rfl
  | succ k => cases l with
    | nil => simp at h
    | cons a l => rfl
/-- What has been written of a list so far is no longer than the whole. -/
theorem redirs_take_le {wd : St → List Pt → St} (hw : Grow2 wd) (l : List Rd) (s : St) (bl : Bool) (k : Nat) : (redirsS wd s (l.take k) bl).1.length ≤ (redirsS wd s l bl).1.length := by
  have : ∀ (l m : List Rd) (s : St) (bl : Bool), (redirsS wd s l bl).1.length ≤ (redirsS wd s (l ++ m) bl).1.length := by
    intro l m
    induction l with
    | nil => exact fun s bl => redirsS_grow hw m s bl
    | cons a l ih => exact fun s bl => ih _ _
  have h := this (l.take k) (l.drop k) s bl
  rwa [List.take_append_drop] at h
theorem assigns_take_le {wd : St → List Pt → St} (hw : Grow2 wd) (l : List As) (s : St) (bl : Bool) (k : Nat) : (assignsS wd s (l.take k) bl).1.length ≤ (assignsS wd s l bl).1.length := by
  have : ∀ (l m : List As) (s : St) (bl : Bool), (assignsS wd s l bl).1.length ≤ (assignsS wd s (l ++ m) bl).1.length := by
    intro l m
    induction l with
    | nil => exact fun s bl => assignsS_grow hw m s bl
    | cons a l ih => exact fun s bl => ih _ _
  have h := this (l.take k) (l.drop k) s bl
  rwa [List.take_append_drop] at h
theorem words_take_le {wd : St → List Pt → St} (hw : Grow2 wd) (l : List (List Pt)) (s : St) (bl : Bool) (k : Nat) : (wordsS wd s (l.take k) bl).1.length ≤ (wordsS wd s l bl).1.length := by
  have : ∀ (l m : List (List Pt)) (s : St) (bl : Bool), (wordsS wd s l bl).1.length ≤ (wordsS wd s (l ++ m) bl).1.length := by
    intro l m
    induction l with
    | nil => exact fun s bl => wordsS_grow hw m s bl
    | cons a l ih => exact fun s bl => ih _ _
  have h := this (l.take k) (l.drop k) s bl
  rwa [List.take_append_drop] at h
theorem bars_take_le {wd : St → List Pt → St} (hw : Grow2 wd) (l : List (List Pt)) (s : St) (bl : Bool) (k : Nat) : (barsS wd s (l.take k) bl).1.length ≤ (barsS wd s l bl).1.length := by
  have : ∀ (l m : List (List Pt)) (s : St) (bl : Bool), (barsS wd s l bl).1.length ≤ (barsS wd s (l ++ m) bl).1.length := by
    intro l m
    induction l with
    | nil => exact fun s bl => barsS_grow hw m s bl
    | cons a l ih => exact fun s bl => ih _ _
  have h := this (l.take k) (l.drop k) s bl
  rwa [List.take_append_drop] at h
theorem join_take_le {nd : St → Nd → St} (hn : Grow2 nd) (sign : List UInt8) (l : List (List Nd)) (s : St) (bl : Bool) (k : Nat) : (joinS nd sign s (l.take k) bl).1.length ≤ (joinS nd sign s l bl).1.length := by
  have : ∀ (l m : List (List Nd)) (s : St) (bl : Bool), (joinS nd sign s l bl).1.length ≤ (joinS nd sign s (l ++ m) bl).1.length := by
    intro l m
    induction l with
    | nil => exact fun s bl => joinS_grow hn sign m s bl
    | cons a l ih => exact fun s bl => ih _ _
  have h := this (l.take k) (l.drop k) s bl
  rwa [List.take_append_drop] at h
end Go.Proofs.YtnackmnoldkihaaDoor
/-
  The walk of the writer's redirs.
-/
namespace Go.Proofs.YtnackmnoldkihaaDoor
open Go.RowKit

theorem infoRd : (Tryd.prog.info? 31).map (fun i => (i.zero, i.size, i.bytes)) = some (some (.agg #[.int .i64 0, .string ByteArray.empty, .string ByteArray.empty, .slice none 0 0]), 4, 64) := by kernel_rfl
theorem fd_digits (n : Int) (h0 : 0 ≤ n) (h9 : n ≤ 9) : Lib.decDigits n.toNat = fdL n := by
  obtain ⟨k, rfl⟩ : ∃ k : Nat, n = k := ⟨n.toNat, by omega⟩
  have hk : k ≤ 9 := by omega
  rw [fdL, Int.toNat_natCast]
  clear h0 h9
  revert k
  decide +kernel

/-- One here-document more. -/
theorem Shown.push {V W W2 : World} {B b : Nat} {dv dv1 : Value} {out : List UInt8} {ds : List DocV} {r : Rd} {d n : Nat} {a : Option Addr} {c : Nat} {g cap : Nat} (hf : Fr V W B b dv dv1) (hw : Wr W B b dv1 out ds) (hr : RdC W B d r [.int .i64 r.fd, .string r.op, .string r.tag, .slice a n c]) (hz : ds.length + 1 ≤ out.length)
    (hown : W2.ownsRow B 31 4 (.slice (some ⟨g, 0, none⟩) (ds.length + 1) cap) (ds.length + 1) (ds.flatMap docCells ++ [.int .i64 r.fd, .string r.op, .string r.tag, .slice a n c])) (hg : W.grownBy W2 dv1.ownBlock) (hl : dv1.ownBlock = some g ∨ W.heap.size ≤ g) :
    Shown V B b dv (out, ds.map (·.1) ++ [r]) (W2.setCell ⟨b, 2, none⟩ (.slice (some ⟨g, 0, none⟩) (ds.length + 1) cap)) := by
  have hb2 : Below B W W2 := (Below.refl B W).grown hg hw.le fun k hk => (hw.far k hk).1
  have hblk : W2.heap[b]? = W.heap[b]? := hg.block b hw.lt (fun e => hw.ne e.symm)
  have hw2 : Wr W2 B b dv1 out ds ∨ True := .inr trivial
  obtain ⟨hB, ⟨v, p, h1, h2, h3⟩, h4, h5, h6⟩ := hw
  have h1' : W2.heap[b]? = some (.cells #[p, v, dv1] 49 (0, 0)) := hblk.trans h1
  have h3' : OwnB W2 B v out := h3.kept hg (by
    rcases h4.2 with ⟨hd, _⟩ | ⟨g2, _, cur, hd, _, hg2, _⟩
    · rcases h3.2 with ⟨hv, _⟩ | ⟨g3, _, _, hv, _⟩
      · left; rw [hv]; rfl
      · right; rw [hv, hd]; simp [Value.ownBlock]
    · right; rw [hd]; exact row_ne h3 hg2 (by decide))
  have hown' : W2.ownsRow B 31 4 (.slice (some ⟨g, 0, none⟩) (ds.length + 1) cap) (ds ++ [((r, .slice a n c) : DocV)]).length ((ds ++ [((r, .slice a n c) : DocV)]).flatMap docCells) := by
    rw [List.length_append, List.flatMap_append]
    simpa [docCells] using hown
  have hst := (Below.refl B W2).setCell (p := ⟨b, 2, none⟩) hB (Value.slice (some ⟨g, 0, none⟩) (ds.length + 1) cap)
  refine ⟨_, ds ++ [(r, .slice a n c)], by simp, ⟨hB, ⟨v, p, heap_put h1' 2 _, h2, row_set h3' (row_ne h3' h1' (by decide)) 2 _⟩, row_set hown' (row_ne hown' h1' (by decide)) 2 _, fun x hx => ?_, by rw [List.length_append]; exact hz⟩, hf.trans ⟨hb2.trans hst, fun k o ho hb hd hu => ?_, fun k hk => ?_⟩⟩
  · rcases List.mem_append.1 hx with hx | hx
    · obtain ⟨d', hd'⟩ := h5 x hx
      exact ⟨d', hd'.keep fun _ _ _ _ hs => hs.below (hb2.trans hst)⟩
    · simp at hx
      subst hx
      exact ⟨d, hr.keep fun _ _ _ _ hs => hs.below (hb2.trans hst)⟩
  · rw [Below.heap_setCell _ _ _ _ hb, hg.block k (Array.getElem?_eq_some_iff.1 ho).1 (fun e => hd e.symm)]
    exact ho
  · simp [Value.ownBlock] at hk
    subst hk
    exact hl

theorem Wr.grown_docs {W W2 : World} {B b : Nat} {dv : Value} {out : List UInt8} {ds : List DocV} (h : Wr W B b dv out ds) (hg : W.grownBy W2 dv.ownBlock) : W2.cell? ⟨b, 2, none⟩ = some dv ∧ W2.frozen? ⟨b, 2, none⟩ = false := by
  obtain ⟨v, p, h1⟩ := h.block
  have h2 : W2.heap[b]? = some (.cells #[p, v, dv] 49 (0, 0)) := (hg.block b h.lt (fun e => h.ne e.symm)).trans h1
  exact ⟨by rw [Lib.cell_of_heap h2]; rfl, Lib.frozen_of_heap h2 2⟩
theorem litr_spell (b : Bool) : (bif b then true else false) = b := by cases b <;> rfl

set_option maxHeartbeats 4000000 in
set_option maxRecDepth 100000 in
theorem wredirs_any {d : Nat} {wd : St → List Pt → St} {fw : List Pt → Bool} (hwd : WordW d wd fw) (hg : Grow2 wd) {W : World} {B b : Nat} {dv : Value} {out : List UInt8} {ds : List DocV} (h : Wr W B b dv out ds) (hH : Hd W B) {l : List Rd} {v : Value} (hl : RdsIn W B d l v) (hf : l.all (redirF fw) = true) (bl : Bool) (hlen : (redirsS wd (stOf out ds) l bl).1.length ≤ lim) :
    Calls Tryd.prog 26 #[.pointer (some ⟨b, 0, none⟩), v, .bool bl] W fun e w' => e = .returned (.tuple #[]) ∧ Shown W B b dv (redirsS wd (stOf out ds) l bl) w' := by
  obtain ⟨a, cap, rfl, hz⟩ := hl.len
  obtain ⟨n, hn⟩ : ∃ n, l.length = n := ⟨_, rfl⟩
  rw [hn] at hl hz ⊢
  have HL := Lib.hid hl
  have HN := Lib.hid hn
  have HH := Lib.hid hH
  have HWD := Lib.hid hwd
  have HG := Lib.hid hg
  have HW := Lib.hid h
  have HFA := Lib.hid (List.all_eq_true.1 hf)
  have HLEN : Hid (∀ k, (redirsS wd (stOf out ds) (l.take k) bl).1.length ≤ lim) := Lib.hid fun k => Nat.le_trans (redirs_take_le hg l _ bl k) hlen
  clear hl hn hH hwd hg h hf hlen
  go_enter Tryd.func26, Tryd.ntmps26
  go_wp2_with fail
  go_loopw [2, 10] (fun t i U => ∃ (k : Nat) (q : Bool), k ≤ n ∧ i = .int .i64 k ∧ t = .bool q ∧ q = (bl || decide (0 < k)) ∧ Shown W B b dv (redirsS wd (stOf out ds) (l.take k) bl) U) (fun _ i _ => n - (intOf i).toNat)
  case atStart => exact ⟨0, bl, Nat.zero_le _, rfl, rfl, by simp, Shown.start HW.out⟩
  case round =>
    obtain ⟨k, q, hk, rfl, rfl, hq, hsh⟩ := hrel
    have HQ := Lib.hid hq
    obtain ⟨s, hs⟩ : ∃ s, redirsS wd (stOf out ds) (l.take k) bl = s := ⟨_, rfl⟩
    rw [hs] at hsh
    obtain ⟨dv1, ds1, hw1, hst, hf1⟩ := shown_st hsh
    have HS := Lib.hid hs
    have HW1 := Lib.hid hw1
    have HST := Lib.hid hst
    have HF1 := Lib.hid hf1
    have hB := hf1.low
    have hBW := HW.out.le
    have hHw := HH.out.below hB
    have HHW := Lib.hid hHw
    clear hsh hw1 hst hf1 hq hs hHw
    by_cases hlt : k < n
    · obtain ⟨x, hx⟩ : ∃ x, l[k]? = .some x := ⟨_, List.getElem?_eq_getElem (by rw [HN.out]; exact hlt)⟩
      have hl1 := HL.out.imp (fun xs hs => hs.below hB) (F' := RdC wr B d) fun x _ c h => h.keep fun _ _ _ _ hs => hs.below hB
      obtain ⟨b1, o, c, hi, hbB, hce, hC, _⟩ := hl1.at 32 31 Tryd.underlying32 (by kernel_rfl) hx
      have hfx := HFA.out x (List.mem_of_getElem? hx)
      rw [redirF, Bool.and_eq_true, Bool.and_eq_true, decide_eq_true_eq, decide_eq_true_eq] at hfx
      obtain ⟨⟨hfd0, hfd9⟩, hfw⟩ := hfx
      have HFW := Lib.hid hfw
      have HX : Hid (redirsS wd (stOf out ds) (l.take (k + 1)) bl = redirS wd (nextS s q) x) := Lib.hid (by
        rw [take_snoc' hx, redirs_snoc, HS.out, HQ.out, take_empty (by rw [HN.out]; exact hlt)])
      have HLX : Hid ((redirS wd (nextS s q) x).1.length ≤ lim) := Lib.hid (by rw [← HX.out]; exact HLEN.out (k + 1))
      have HC := Lib.hid hC
      obtain ⟨a1, c1, rfl, ⟨hz1, hz2⟩, _, hzw, hxw⟩ := hC.open
      have e0 := hce 0 _ rfl
      have e1 := hce 1 _ rfl
      have e2 := hce 2 _ rfl
      have e3 := hce 3 _ rfl
      have hbB' := Nat.lt_of_lt_of_le hbB HW1.out.le
      rw [Nat.add_zero] at e0
      -- the round's own world, the box made
      obtain ⟨X, hX⟩ : ∃ X, X = wr.alloc (.cells #[.int .i64 x.fd, .string x.op, .string x.tag, .slice a1 x.word.length c1] 31) := ⟨_, rfl⟩
      have HBX : Hid (Below wr.heap.size wr X) := Lib.hid (by rw [hX]; exact (Below.refl _ _).alloc (Nat.le_refl _) _)
      have HKX : Hid (Blk X wr.heap.size 31 #[.int .i64 x.fd, .string x.op, .string x.tag, .slice a1 x.word.length c1]) := Lib.hid (by rw [hX]; exact Blk.new _ _ _)
      have HXE := Lib.hid hX
      have hgX : wr.heap.size < X.heap.size := by rw [hX]; simp
      have HSX : Hid (Shown X B b dv1 s X) := Lib.hid (by have := Shown.start (HW1.out.below HBX.out); rwa [HST.out] at this)
      have HFX : Hid (Fr W X B b dv dv1) := Lib.hid (HF1.out.later HBX.out HW1.out.le)
      have hgb : wr.heap.size ≠ b := by have := HW1.out.lt; omega
      have HGD : Hid (dv1.ownBlock ≠ some wr.heap.size) := Lib.hid fun e => by have := HW1.out.far _ e; omega
      have HHX : Hid (Hd X B) := Lib.hid (HHW.out.below (HBX.out.mono HW1.out.le))
      have HXW : Hid (PtsIn X B d x.word (.slice a1 x.word.length c1)) := Lib.hid (hxw.below (HBX.out.mono HW1.out.le))
      have HCX : Hid (RdC X B d x [.int .i64 x.fd, .string x.op, .string x.tag, .slice a1 x.word.length c1]) := Lib.hid (HC.out.keep fun _ _ _ _ hs => hs.below (HBX.out.mono HW1.out.le))
      clear hx hce hC hl1 hX hxw hfw
      -- the parts of what is written
      have HRX : Hid (redirS wd (nextS s q) x = bif L x.op == [60, 60] then ((putS (putS (nextS s q) (fdL x.fd ++ L x.op)) (bif litrB x.word then 39 :: (L x.tag ++ [39]) else L x.tag)).1, (nextS s q).2 ++ [x]) else wd (putS (nextS s q) (fdL x.fd ++ L x.op)) x.word) := Lib.hid rfl
      have HZ2 : Hid ((putS (nextS s q) (fdL x.fd ++ L x.op)).1.length ≤ lim) := Lib.hid (by
        have h1 := HLX.out
        rw [HRX.out] at h1
        cases hc : L x.op == [60, 60] with
        | true => rw [hc] at h1; exact Nat.le_trans (putS_grow _ _) h1
        | false => rw [hc] at h1; exact Nat.le_trans (HG.out _ _) h1)
      have HZ1 : Hid ((nextS s q).1.length ≤ lim) := Lib.hid (Nat.le_trans (putS_grow _ _) HZ2.out)
      -- the blank
      have CI : Hid (∀ U, Calls Tryd.prog 47 #[.int .i64 x.fd] U fun e w' => e = .returned (.string (S (fdL x.fd))) ∧ U = w') := Lib.hid fun U => by
        have h1 := Tryd.strconv_Itoa_small x.fd.toNat (by omega) U
        rw [Int.toNat_of_nonneg hfd0, fd_digits _ hfd0 hfd9] at h1
        exact h1.mono fun e w' h => ⟨h.1, h.2.symm⟩
      obtain ⟨fs, hfs⟩ : ∃ f, f = S (fdL x.fd) := ⟨_, rfl⟩
      have hfz : fs.size = 1 := by rw [hfs]; rfl
      have HFS : Hid (L fs = fdL x.fd) := Lib.hid (by rw [hfs, L_S])
      rw [← hfs] at CI
      have k1 : ∀ V : World, (Op.stringOp .add fs x.op).run Tryd.prog V = .ok (.string (fs ++ x.op)) V := fun V => run_string_add_sum V _ _ (by omega)
      clear hfs
      have HS2 : Hid (∀ q', putS (nextS s q') (L (fs ++ x.op)) = putS (nextS s q') (fdL x.fd ++ L x.op)) := Lib.hid fun q' => by rw [L_append, HFS.out]
      cases hop : (L x.op == [60, 60]) with
      | false =>
        have eo : (x.op.toList == [60, 60]) = false := by rw [toList_L]; exact hop
        have HRE : Hid (redirS wd (nextS s q) x = wd (putS (nextS s q) (fdL x.fd ++ L x.op)) x.word) := Lib.hid (by rw [HRX.out, hop]; rfl)
        clear hop HRX
        cases q with
        | false =>
          have hsa : Shown X B b dv1 (nextS s false) X := HSX.out
          go_wp2_with fail
          rw [← HXE.out]
          -- X: the world behind the blank, what has been shown there, its cells
          have HSA := Lib.hid hsa
          have HKA := Lib.hid (hsa.blk HKX.out hgb HGD.out (by decide))
          clear hsa
          have y0 := HKA.out.cell 0
          have y1 := HKA.out.cell 1
          have y2 := HKA.out.cell 2
          have y3 := HKA.out.cell 3
          have yl := HKA.out.lt
          simp at y0 y1 y2 y3
          have CW : Hid (∀ U u, Below (X).heap.size X U → (nextS s false).1.length + u.size ≤ lim → Calls Tryd.prog 24 #[.pointer (some ⟨b, 0, none⟩), .string u] U fun e w' => e = .returned (.tuple #[.int .i64 u.size, .nilIface]) ∧ Shown X B b dv1 (putS (nextS s false) (L u)) w' ∧ Blk w' wr.heap.size 31 #[.int .i64 x.fd, .string x.op, .string x.tag, .slice a1 x.word.length c1]) := Lib.hid fun U u hU hu =>
            (HSA.out.str hU u hu).mono fun e w' ⟨g1, g2⟩ => ⟨g1, g2, g2.blk HKX.out hgb HGD.out (by decide)⟩
          go_wp2_with fail
          go_region_held3 (fun w' => w'.cell? ⟨wr.heap.size, 0, none⟩ = some (.int .i64 x.fd) ∧ w'.cell? ⟨wr.heap.size, 1, none⟩ = some (.string x.op)) (go_keep)
            (first
              | (go_at_call 47; with_reducible refine (CI.out _).mono ?_; rintro e w2 ⟨rfl, rfl⟩)
              | (go_at_call 24; with_reducible refine (CW.out _ _ (by repeat' (first | (with_reducible assumption) | (with_reducible exact Below.refl _ _) | (with_reducible refine below_drewN ?_ _) | (with_reducible refine below_bytes ?_ ?_ _) | (with_reducible refine Below.alloc ?_ ?_ _) | (with_reducible refine Below.drew ?_) | (with_reducible refine Below.setCell ?_ ?_ _) | go_size)) ?_).mono ?_; (have := HZ2.out; rw [putS] at this; simp [L_size] at this ⊢; have hq1 : (fdL x.fd).length = 1 := rfl; omega); rintro e w3 ⟨rfl, hs3, hk3⟩; have d0 := hk3.cell 0; have d1 := hk3.cell 1; simp at d0 d1))
          all_goals
            rw [HS2.out] at hs3
            have CWD := Lib.hid (hs3.word HWD.out (Below.refl _ _) HHX.out HXW.out HFW.out (by rw [← HRE.out]; exact HLX.out))
            have y1' := hk3.cell 1
            have y3' := hk3.cell 3
            simp at y1' y3'
            clear hs3 hk3
            go_wp2_with fail
            refine CWD.out.mono ?_
            rintro e w4 ⟨rfl, hs4⟩
            have HSE : Hid (Shown X B b dv1 (redirS wd (nextS s false) x) w4) := Lib.hid (by rw [HRE.out]; exact hs4)
            clear hs4
            go_wp2_with fail
            go_roundw
            case rel => exact ⟨k + 1, true, by omega, by go_num, rfl, by simp, by rw [HX.out]; exact Shown.after HFX.out HSE.out⟩
            case measure => simp [intOf]; omega
        | true =>
          have CB := Lib.hid (HSX.out.byte (Below.refl _ _) 32 (by have := HZ1.out; simpa [nextS, putS] using this))
          go_wp2_with fail
          rw [← HXE.out]
          refine CB.out.mono ?_
          rintro e w2 ⟨rfl, hsa⟩
          -- w2: the world behind the blank, what has been shown there, its cells
          have HSA := Lib.hid hsa
          have HKA := Lib.hid (hsa.blk HKX.out hgb HGD.out (by decide))
          clear hsa
          have y0 := HKA.out.cell 0
          have y1 := HKA.out.cell 1
          have y2 := HKA.out.cell 2
          have y3 := HKA.out.cell 3
          have yl := HKA.out.lt
          simp at y0 y1 y2 y3
          have CW : Hid (∀ U u, Below (w2).heap.size w2 U → (nextS s true).1.length + u.size ≤ lim → Calls Tryd.prog 24 #[.pointer (some ⟨b, 0, none⟩), .string u] U fun e w' => e = .returned (.tuple #[.int .i64 u.size, .nilIface]) ∧ Shown X B b dv1 (putS (nextS s true) (L u)) w' ∧ Blk w' wr.heap.size 31 #[.int .i64 x.fd, .string x.op, .string x.tag, .slice a1 x.word.length c1]) := Lib.hid fun U u hU hu =>
            (HSA.out.str hU u hu).mono fun e w' ⟨g1, g2⟩ => ⟨g1, g2, g2.blk HKX.out hgb HGD.out (by decide)⟩
          go_wp2_with fail
          go_region_held3 (fun w' => w'.cell? ⟨wr.heap.size, 0, none⟩ = some (.int .i64 x.fd) ∧ w'.cell? ⟨wr.heap.size, 1, none⟩ = some (.string x.op)) (go_keep)
            (first
              | (go_at_call 47; with_reducible refine (CI.out _).mono ?_; rintro e w2 ⟨rfl, rfl⟩)
              | (go_at_call 24; with_reducible refine (CW.out _ _ (by repeat' (first | (with_reducible assumption) | (with_reducible exact Below.refl _ _) | (with_reducible refine below_drewN ?_ _) | (with_reducible refine below_bytes ?_ ?_ _) | (with_reducible refine Below.alloc ?_ ?_ _) | (with_reducible refine Below.drew ?_) | (with_reducible refine Below.setCell ?_ ?_ _) | go_size)) ?_).mono ?_; (have := HZ2.out; rw [putS] at this; simp [L_size] at this ⊢; have hq1 : (fdL x.fd).length = 1 := rfl; omega); rintro e w3 ⟨rfl, hs3, hk3⟩; have d0 := hk3.cell 0; have d1 := hk3.cell 1; simp at d0 d1))
          all_goals
            rw [HS2.out] at hs3
            have CWD := Lib.hid (hs3.word HWD.out (Below.refl _ _) HHX.out HXW.out HFW.out (by rw [← HRE.out]; exact HLX.out))
            have y1' := hk3.cell 1
            have y3' := hk3.cell 3
            simp at y1' y3'
            clear hs3 hk3
            go_wp2_with fail
            refine CWD.out.mono ?_
            rintro e w4 ⟨rfl, hs4⟩
            have HSE : Hid (Shown X B b dv1 (redirS wd (nextS s true) x) w4) := Lib.hid (by rw [HRE.out]; exact hs4)
            clear hs4
            go_wp2_with fail
            go_roundw
            case rel => exact ⟨k + 1, true, by omega, by go_num, rfl, by simp, by rw [HX.out]; exact Shown.after HFX.out HSE.out⟩
            case measure => simp [intOf]; omega
      | true =>
        have eo : (x.op.toList == [60, 60]) = true := by rw [toList_L]; exact hop
        have HRE : Hid (redirS wd (nextS s q) x = ((putS (putS (nextS s q) (fdL x.fd ++ L x.op)) (bif litrB x.word then 39 :: (L x.tag ++ [39]) else L x.tag)).1, (nextS s q).2 ++ [x])) := Lib.hid (by rw [HRX.out, hop]; rfl)
        have hol : x.op.size = 2 := by rw [← L_size, eq_of_beq hop]; rfl
        clear hop HRX
        have HZ3 : Hid (∀ q', q' = q → (putS (putS (nextS s q') (fdL x.fd ++ L x.op)) (bif litrB x.word then 39 :: (L x.tag ++ [39]) else L x.tag)).1.length ≤ lim) := Lib.hid fun q' e => by
          have h1 := HLX.out
          rw [HRE.out] at h1
          rw [e]; exact h1
        have CLt : Hid (∀ U, Below B X U → B ≤ U.heap.size → Calls Tryd.prog 48 #[.agg #[.int .i64 x.fd, .string x.op, .string x.tag, .slice a1 x.word.length c1]] U fun e w' => e = .returned (.bool (litrB x.word)) ∧ Below U.heap.size U w') := Lib.hid fun U hU hB => literal_any x U d _ (HCX.out.keep fun _ _ _ _ hs => (hs.below hU).mono hB)
        obtain ⟨lt, hlt0⟩ : ∃ b, litrB x.word = b := ⟨_, rfl⟩
        rw [hlt0] at CLt HRE HZ3
        clear hlt0
        have k2 : ∀ V : World, (Op.stringOp .add (⟨#[39]⟩ : ByteArray) x.tag).run Tryd.prog V = .ok (.string ((⟨#[39]⟩ : ByteArray) ++ x.tag)) V := fun V => run_string_add_sum V _ _ (by simp; omega)
        have k3 : ∀ V : World, (Op.stringOp .add ((⟨#[39]⟩ : ByteArray) ++ x.tag) ⟨#[39]⟩).run Tryd.prog V = .ok (.string (((⟨#[39]⟩ : ByteArray) ++ x.tag) ++ ⟨#[39]⟩)) V := fun V => run_string_add_sum V _ _ (by simp; omega)
        have HSD : Hid (s.2.length ≤ s.1.length) := Lib.hid (by have h1 := HW1.out.2.2.2.2; have h2 := congrArg (fun z : St => z.2.length) HST.out; simp only [stOf, List.length_map] at h2; omega)
        cases q with
        | false =>
          have hsa : Shown X B b dv1 (nextS s false) X := HSX.out
          go_wp2_with fail
          rw [← HXE.out]
          -- X: the world behind the blank, what has been shown there, its cells
          have HSA := Lib.hid hsa
          have HKA := Lib.hid (hsa.blk HKX.out hgb HGD.out (by decide))
          clear hsa
          have y0 := HKA.out.cell 0
          have y1 := HKA.out.cell 1
          have y2 := HKA.out.cell 2
          have y3 := HKA.out.cell 3
          have yl := HKA.out.lt
          simp at y0 y1 y2 y3
          have CW : Hid (∀ U u, Below (X).heap.size X U → (nextS s false).1.length + u.size ≤ lim → Calls Tryd.prog 24 #[.pointer (some ⟨b, 0, none⟩), .string u] U fun e w' => e = .returned (.tuple #[.int .i64 u.size, .nilIface]) ∧ Shown X B b dv1 (putS (nextS s false) (L u)) w' ∧ Blk w' wr.heap.size 31 #[.int .i64 x.fd, .string x.op, .string x.tag, .slice a1 x.word.length c1]) := Lib.hid fun U u hU hu =>
            (HSA.out.str hU u hu).mono fun e w' ⟨g1, g2⟩ => ⟨g1, g2, g2.blk HKX.out hgb HGD.out (by decide)⟩
          go_wp2_with fail
          go_region_held3 (fun w' => w'.cell? ⟨wr.heap.size, 0, none⟩ = some (.int .i64 x.fd) ∧ w'.cell? ⟨wr.heap.size, 1, none⟩ = some (.string x.op)) (go_keep)
            (first
              | (go_at_call 47; with_reducible refine (CI.out _).mono ?_; rintro e w2 ⟨rfl, rfl⟩)
              | (go_at_call 24; with_reducible refine (CW.out _ _ (by repeat' (first | (with_reducible assumption) | (with_reducible exact Below.refl _ _) | (with_reducible refine below_drewN ?_ _) | (with_reducible refine below_bytes ?_ ?_ _) | (with_reducible refine Below.alloc ?_ ?_ _) | (with_reducible refine Below.drew ?_) | (with_reducible refine Below.setCell ?_ ?_ _) | go_size)) ?_).mono ?_; (have := HZ2.out; rw [putS] at this; simp [L_size] at this ⊢; have hq1 : (fdL x.fd).length = 1 := rfl; omega); rintro e w3 ⟨rfl, hs3, hk3⟩; have d0 := hk3.cell 0; have d1 := hk3.cell 1; simp at d0 d1))
          all_goals
            rw [HS2.out] at hs3
            have CL3 := Lib.hid (CLt.out w3 hs3.low hs3.le)
            have HS3 := Lib.hid hs3
            have HK3 := Lib.hid hk3
            clear d0 d1 hs3 hk3 y0 y1 y2 y3 yl
            have z0 := HK3.out.cell 0
            have z1 := HK3.out.cell 1
            have z2 := HK3.out.cell 2
            have z3 := HK3.out.cell 3
            have zl := HK3.out.lt
            simp at z0 z1 z2 z3
            go_wp2_with fail
            refine CL3.out.mono ?_
            rintro e w4 ⟨rfl, hb4⟩
            have HS4 := Lib.hid (HS3.out.later hb4)
            have HK4 := Lib.hid (HK3.out.below hb4 HK3.out.lt)
            clear hb4 z0 z1 z2 z3 zl CL3
            have z0 := HK4.out.cell 0
            have z1 := HK4.out.cell 1
            have z2 := HK4.out.cell 2
            have z3 := HK4.out.cell 3
            have zl := HK4.out.lt
            simp at z0 z1 z2 z3
            cases lt with
            | true =>
              go_wp2_with fail
              go_still_tail 7, (by kernel_rfl)
              go_wp2_with fail
              refine (HS4.out.str (by repeat' (first | (with_reducible assumption) | (with_reducible exact Below.refl _ _) | (with_reducible refine below_drewN ?_ _) | (with_reducible refine below_bytes ?_ ?_ _) | (with_reducible refine Below.alloc ?_ ?_ _) | (with_reducible refine Below.drew ?_) | (with_reducible refine Below.setCell ?_ ?_ _) | go_size)) _ (by have := HZ3.out false rfl; simp [putS, L_size] at this ⊢; have hq1 : (fdL x.fd).length = 1 := rfl; omega)).mono ?_
              rintro e w5 ⟨rfl, hs5⟩
              have hs5 : Shown X B b dv1 (putS (putS (nextS s false) (fdL x.fd ++ L x.op)) (39 :: (L x.tag ++ [39]))) w5 := by simpa [L_append] using hs5
              clear z0 z1 z2 z3 zl
              -- behind the tag: w5, hs5
              have HK5 := Lib.hid (hs5.blk HKX.out hgb HGD.out (by decide))
              obtain ⟨dv2, ds2, hw5, hst5, hf5⟩ := shown_st hs5
              have hlow5 := hs5.low
              obtain ⟨da, dc, rfl⟩ := hw5.shape
              obtain ⟨n2, hn2⟩ : ∃ n, ds2.length = n := ⟨_, rfl⟩
              obtain ⟨o5, ho5⟩ : ∃ o, (putS (putS (nextS s false) (fdL x.fd ++ L x.op)) (39 :: (L x.tag ++ [39]))).1 = o := ⟨_, rfl⟩
              have hn2o : n2 + 1 ≤ o5.length := by
                have h1 := hst5
                have h2 : n2 ≤ (nextS s false).1.length := by
                  have e1 := congrArg (fun z : St => z.2.length) h1
                  have e2 : (nextS s false).2 = s.2 := rfl
                  have e3 := HSD.out
                  have e4 := nextS_grow s false
                  simp only [stOf, putS, List.length_map, e2] at e1
                  omega
                have h3 : o5.length = (nextS s false).1.length + 3 + (39 :: (L x.tag ++ [39])).length := by rw [← ho5]; simp [putS, L_size, hol, fdL]; omega
                omega
              have hlim5 : o5.length ≤ lim := by rw [← ho5]; have := HZ3.out false rfl; simpa using this
              unfold lim at hlim5
              rw [ho5] at hw5 hst5
              have HST5 : Hid (ds2.map (·.1) = (nextS s false).2) := Lib.hid (by have := congrArg Prod.snd hst5; simpa [stOf, putS] using this)
              rw [hn2] at hw5 hf5
              have HN2 := Lib.hid hn2
              have HO5 := Lib.hid ho5
              obtain ⟨cdoc, fdoc⟩ := hw5.docs
              have hb5 := hw5.lt
              have hle5 := hw5.le
              have HOW := Lib.hid hw5.2.2.1
              rw [hn2] at HOW
              have HW5 := Lib.hid hw5
              have HF5 := Lib.hid hf5
              have HC5 : Hid (RdC w5 B d x [.int .i64 x.fd, .string x.op, .string x.tag, .slice a1 x.word.length c1]) := Lib.hid (HCX.out.keep fun _ _ _ _ hs => hs.below hlow5)
              have z0 := HK5.out.cell 0
              have z1 := HK5.out.cell 1
              have z2 := HK5.out.cell 2
              have z3 := HK5.out.cell 3
              have zl := HK5.out.lt
              simp at z0 z1 z2 z3
              clear hs5 hw5 hf5 hst5 hn2 ho5 hlow5
              go_wp2_with fail
              go_region_law (refine step_append_sl rfl _ _ 32 rfl B 31 Tryd.underlying32 infoRd rfl (by decide) (v := .slice da n2 dc) (n := n2) (xs := ds2.flatMap docCells) rfl (by first | exact (own_below HOW.out (Below.drew (Below.refl _ _))).alloc _ | exact own_below (HOW.out.alloc _) (Below.drew (Below.refl _ _))) (m := 1) (news := [.int .i64 x.fd, .string x.op, .string x.tag, .slice a1 x.word.length c1]) rfl (sl_made_at _ #[.int .i64 x.fd, .string x.op, .string x.tag, .slice a1 x.word.length c1] _ 1 4 rfl (by unfold maxLen; omega) (by simp)) (by omega) (by intro u hu; simp at hu; rcases hu with rfl | rfl | rfl | rfl <;> rfl) (by omega) (by simp; omega) ?_; intro g1 cap1 w6 hown hgrow hlie hglt; have hg6 : (w5.alloc (.cells #[.int .i64 x.fd, .string x.op, .string x.tag, .slice a1 x.word.length c1] 31)).grownBy w6 (Value.slice da n2 dc).ownBlock := ⟨hgrow.os, hgrow.tape, hgrow.output, hgrow.size, hgrow.block⟩; have HP6 := Lib.hid (Shown.push ((HF5.out.later ((Below.refl _ _).alloc (Nat.le_refl _) _) hle5)) (HW5.out.below ((Below.refl _ _).alloc (Nat.le_refl _) _)) (HC5.out.keep fun _ _ _ _ hs => hs.below ((Below.refl _ _).alloc hle5 _)) (by rw [HN2.out]; exact hn2o) (by rw [HN2.out]; exact hown) hg6 (hlie.imp id fun e => by rw [e]; simp)); have hcf6 := (HW5.out.below ((Below.refl _ _).alloc (Nat.le_refl _) _)).grown_docs hg6; have c6 := hcf6.1; have f6 := hcf6.2; clear hcf6 hown hgrow hlie hg6)
              all_goals
                have HSE : Hid (Shown X B b dv1 (redirS wd (nextS s false) x) _) := Lib.hid (by
                  rw [HRE.out]
                  have h1 := HP6.out
                  rw [HN2.out, HST5.out, ← HO5.out] at h1
                  exact h1)
                go_wp2_with fail
                go_roundw
                case rel => exact ⟨k + 1, true, by omega, by go_num, rfl, by simp, by rw [HX.out]; exact Shown.after HFX.out HSE.out⟩
                case measure => simp [intOf]; omega
            | false =>
              go_wp2_with fail
              go_still_tail 5, (by kernel_rfl)
              go_wp2_with fail
              refine (HS4.out.str (by repeat' (first | (with_reducible assumption) | (with_reducible exact Below.refl _ _) | (with_reducible refine below_drewN ?_ _) | (with_reducible refine below_bytes ?_ ?_ _) | (with_reducible refine Below.alloc ?_ ?_ _) | (with_reducible refine Below.drew ?_) | (with_reducible refine Below.setCell ?_ ?_ _) | go_size)) _ (by have := HZ3.out false rfl; simp [putS, L_size] at this ⊢; have hq1 : (fdL x.fd).length = 1 := rfl; omega)).mono ?_
              rintro e w5 ⟨rfl, hs5⟩
              clear z0 z1 z2 z3 zl
              -- behind the tag: w5, hs5
              have HK5 := Lib.hid (hs5.blk HKX.out hgb HGD.out (by decide))
              obtain ⟨dv2, ds2, hw5, hst5, hf5⟩ := shown_st hs5
              have hlow5 := hs5.low
              obtain ⟨da, dc, rfl⟩ := hw5.shape
              obtain ⟨n2, hn2⟩ : ∃ n, ds2.length = n := ⟨_, rfl⟩
              obtain ⟨o5, ho5⟩ : ∃ o, (putS (putS (nextS s false) (fdL x.fd ++ L x.op)) (L x.tag)).1 = o := ⟨_, rfl⟩
              have hn2o : n2 + 1 ≤ o5.length := by
                have h1 := hst5
                have h2 : n2 ≤ (nextS s false).1.length := by
                  have e1 := congrArg (fun z : St => z.2.length) h1
                  have e2 : (nextS s false).2 = s.2 := rfl
                  have e3 := HSD.out
                  have e4 := nextS_grow s false
                  simp only [stOf, putS, List.length_map, e2] at e1
                  omega
                have h3 : o5.length = (nextS s false).1.length + 3 + (L x.tag).length := by rw [← ho5]; simp [putS, L_size, hol, fdL]; omega
                omega
              have hlim5 : o5.length ≤ lim := by rw [← ho5]; have := HZ3.out false rfl; simpa using this
              unfold lim at hlim5
              rw [ho5] at hw5 hst5
              have HST5 : Hid (ds2.map (·.1) = (nextS s false).2) := Lib.hid (by have := congrArg Prod.snd hst5; simpa [stOf, putS] using this)
              rw [hn2] at hw5 hf5
              have HN2 := Lib.hid hn2
              have HO5 := Lib.hid ho5
              obtain ⟨cdoc, fdoc⟩ := hw5.docs
              have hb5 := hw5.lt
              have hle5 := hw5.le
              have HOW := Lib.hid hw5.2.2.1
              rw [hn2] at HOW
              have HW5 := Lib.hid hw5
              have HF5 := Lib.hid hf5
              have HC5 : Hid (RdC w5 B d x [.int .i64 x.fd, .string x.op, .string x.tag, .slice a1 x.word.length c1]) := Lib.hid (HCX.out.keep fun _ _ _ _ hs => hs.below hlow5)
              have z0 := HK5.out.cell 0
              have z1 := HK5.out.cell 1
              have z2 := HK5.out.cell 2
              have z3 := HK5.out.cell 3
              have zl := HK5.out.lt
              simp at z0 z1 z2 z3
              clear hs5 hw5 hf5 hst5 hn2 ho5 hlow5
              go_wp2_with fail
              go_region_law (refine step_append_sl rfl _ _ 32 rfl B 31 Tryd.underlying32 infoRd rfl (by decide) (v := .slice da n2 dc) (n := n2) (xs := ds2.flatMap docCells) rfl (by first | exact (own_below HOW.out (Below.drew (Below.refl _ _))).alloc _ | exact own_below (HOW.out.alloc _) (Below.drew (Below.refl _ _))) (m := 1) (news := [.int .i64 x.fd, .string x.op, .string x.tag, .slice a1 x.word.length c1]) rfl (sl_made_at _ #[.int .i64 x.fd, .string x.op, .string x.tag, .slice a1 x.word.length c1] _ 1 4 rfl (by unfold maxLen; omega) (by simp)) (by omega) (by intro u hu; simp at hu; rcases hu with rfl | rfl | rfl | rfl <;> rfl) (by omega) (by simp; omega) ?_; intro g1 cap1 w6 hown hgrow hlie hglt; have hg6 : (w5.alloc (.cells #[.int .i64 x.fd, .string x.op, .string x.tag, .slice a1 x.word.length c1] 31)).grownBy w6 (Value.slice da n2 dc).ownBlock := ⟨hgrow.os, hgrow.tape, hgrow.output, hgrow.size, hgrow.block⟩; have HP6 := Lib.hid (Shown.push ((HF5.out.later ((Below.refl _ _).alloc (Nat.le_refl _) _) hle5)) (HW5.out.below ((Below.refl _ _).alloc (Nat.le_refl _) _)) (HC5.out.keep fun _ _ _ _ hs => hs.below ((Below.refl _ _).alloc hle5 _)) (by rw [HN2.out]; exact hn2o) (by rw [HN2.out]; exact hown) hg6 (hlie.imp id fun e => by rw [e]; simp)); have hcf6 := (HW5.out.below ((Below.refl _ _).alloc (Nat.le_refl _) _)).grown_docs hg6; have c6 := hcf6.1; have f6 := hcf6.2; clear hcf6 hown hgrow hlie hg6)
              all_goals
                have HSE : Hid (Shown X B b dv1 (redirS wd (nextS s false) x) _) := Lib.hid (by
                  rw [HRE.out]
                  have h1 := HP6.out
                  rw [HN2.out, HST5.out, ← HO5.out] at h1
                  exact h1)
                go_wp2_with fail
                go_roundw
                case rel => exact ⟨k + 1, true, by omega, by go_num, rfl, by simp, by rw [HX.out]; exact Shown.after HFX.out HSE.out⟩
                case measure => simp [intOf]; omega
        | true =>
          have CB := Lib.hid (HSX.out.byte (Below.refl _ _) 32 (by have := HZ1.out; simpa [nextS, putS] using this))
          go_wp2_with fail
          rw [← HXE.out]
          refine CB.out.mono ?_
          rintro e w2 ⟨rfl, hsa⟩
          -- w2: the world behind the blank, what has been shown there, its cells
          have HSA := Lib.hid hsa
          have HKA := Lib.hid (hsa.blk HKX.out hgb HGD.out (by decide))
          clear hsa
          have y0 := HKA.out.cell 0
          have y1 := HKA.out.cell 1
          have y2 := HKA.out.cell 2
          have y3 := HKA.out.cell 3
          have yl := HKA.out.lt
          simp at y0 y1 y2 y3
          have CW : Hid (∀ U u, Below (w2).heap.size w2 U → (nextS s true).1.length + u.size ≤ lim → Calls Tryd.prog 24 #[.pointer (some ⟨b, 0, none⟩), .string u] U fun e w' => e = .returned (.tuple #[.int .i64 u.size, .nilIface]) ∧ Shown X B b dv1 (putS (nextS s true) (L u)) w' ∧ Blk w' wr.heap.size 31 #[.int .i64 x.fd, .string x.op, .string x.tag, .slice a1 x.word.length c1]) := Lib.hid fun U u hU hu =>
            (HSA.out.str hU u hu).mono fun e w' ⟨g1, g2⟩ => ⟨g1, g2, g2.blk HKX.out hgb HGD.out (by decide)⟩
          go_wp2_with fail
          go_region_held3 (fun w' => w'.cell? ⟨wr.heap.size, 0, none⟩ = some (.int .i64 x.fd) ∧ w'.cell? ⟨wr.heap.size, 1, none⟩ = some (.string x.op)) (go_keep)
            (first
              | (go_at_call 47; with_reducible refine (CI.out _).mono ?_; rintro e w2 ⟨rfl, rfl⟩)
              | (go_at_call 24; with_reducible refine (CW.out _ _ (by repeat' (first | (with_reducible assumption) | (with_reducible exact Below.refl _ _) | (with_reducible refine below_drewN ?_ _) | (with_reducible refine below_bytes ?_ ?_ _) | (with_reducible refine Below.alloc ?_ ?_ _) | (with_reducible refine Below.drew ?_) | (with_reducible refine Below.setCell ?_ ?_ _) | go_size)) ?_).mono ?_; (have := HZ2.out; rw [putS] at this; simp [L_size] at this ⊢; have hq1 : (fdL x.fd).length = 1 := rfl; omega); rintro e w3 ⟨rfl, hs3, hk3⟩; have d0 := hk3.cell 0; have d1 := hk3.cell 1; simp at d0 d1))
          all_goals
            rw [HS2.out] at hs3
            have CL3 := Lib.hid (CLt.out w3 hs3.low hs3.le)
            have HS3 := Lib.hid hs3
            have HK3 := Lib.hid hk3
            clear d0 d1 hs3 hk3 y0 y1 y2 y3 yl
            have z0 := HK3.out.cell 0
            have z1 := HK3.out.cell 1
            have z2 := HK3.out.cell 2
            have z3 := HK3.out.cell 3
            have zl := HK3.out.lt
            simp at z0 z1 z2 z3
            go_wp2_with fail
            refine CL3.out.mono ?_
            rintro e w4 ⟨rfl, hb4⟩
            have HS4 := Lib.hid (HS3.out.later hb4)
            have HK4 := Lib.hid (HK3.out.below hb4 HK3.out.lt)
            clear hb4 z0 z1 z2 z3 zl CL3
            have z0 := HK4.out.cell 0
            have z1 := HK4.out.cell 1
            have z2 := HK4.out.cell 2
            have z3 := HK4.out.cell 3
            have zl := HK4.out.lt
            simp at z0 z1 z2 z3
            cases lt with
            | true =>
              go_wp2_with fail
              go_still_tail 7, (by kernel_rfl)
              go_wp2_with fail
              refine (HS4.out.str (by repeat' (first | (with_reducible assumption) | (with_reducible exact Below.refl _ _) | (with_reducible refine below_drewN ?_ _) | (with_reducible refine below_bytes ?_ ?_ _) | (with_reducible refine Below.alloc ?_ ?_ _) | (with_reducible refine Below.drew ?_) | (with_reducible refine Below.setCell ?_ ?_ _) | go_size)) _ (by have := HZ3.out true rfl; simp [putS, L_size] at this ⊢; have hq1 : (fdL x.fd).length = 1 := rfl; omega)).mono ?_
              rintro e w5 ⟨rfl, hs5⟩
              have hs5 : Shown X B b dv1 (putS (putS (nextS s true) (fdL x.fd ++ L x.op)) (39 :: (L x.tag ++ [39]))) w5 := by simpa [L_append] using hs5
              clear z0 z1 z2 z3 zl
              -- behind the tag: w5, hs5
              have HK5 := Lib.hid (hs5.blk HKX.out hgb HGD.out (by decide))
              obtain ⟨dv2, ds2, hw5, hst5, hf5⟩ := shown_st hs5
              have hlow5 := hs5.low
              obtain ⟨da, dc, rfl⟩ := hw5.shape
              obtain ⟨n2, hn2⟩ : ∃ n, ds2.length = n := ⟨_, rfl⟩
              obtain ⟨o5, ho5⟩ : ∃ o, (putS (putS (nextS s true) (fdL x.fd ++ L x.op)) (39 :: (L x.tag ++ [39]))).1 = o := ⟨_, rfl⟩
              have hn2o : n2 + 1 ≤ o5.length := by
                have h1 := hst5
                have h2 : n2 ≤ (nextS s true).1.length := by
                  have e1 := congrArg (fun z : St => z.2.length) h1
                  have e2 : (nextS s true).2 = s.2 := rfl
                  have e3 := HSD.out
                  have e4 := nextS_grow s true
                  simp only [stOf, putS, List.length_map, e2] at e1
                  omega
                have h3 : o5.length = (nextS s true).1.length + 3 + (39 :: (L x.tag ++ [39])).length := by rw [← ho5]; simp [putS, L_size, hol, fdL]; omega
                omega
              have hlim5 : o5.length ≤ lim := by rw [← ho5]; have := HZ3.out true rfl; simpa using this
              unfold lim at hlim5
              rw [ho5] at hw5 hst5
              have HST5 : Hid (ds2.map (·.1) = (nextS s true).2) := Lib.hid (by have := congrArg Prod.snd hst5; simpa [stOf, putS] using this)
              rw [hn2] at hw5 hf5
              have HN2 := Lib.hid hn2
              have HO5 := Lib.hid ho5
              obtain ⟨cdoc, fdoc⟩ := hw5.docs
              have hb5 := hw5.lt
              have hle5 := hw5.le
              have HOW := Lib.hid hw5.2.2.1
              rw [hn2] at HOW
              have HW5 := Lib.hid hw5
              have HF5 := Lib.hid hf5
              have HC5 : Hid (RdC w5 B d x [.int .i64 x.fd, .string x.op, .string x.tag, .slice a1 x.word.length c1]) := Lib.hid (HCX.out.keep fun _ _ _ _ hs => hs.below hlow5)
              have z0 := HK5.out.cell 0
              have z1 := HK5.out.cell 1
              have z2 := HK5.out.cell 2
              have z3 := HK5.out.cell 3
              have zl := HK5.out.lt
              simp at z0 z1 z2 z3
              clear hs5 hw5 hf5 hst5 hn2 ho5 hlow5
              go_wp2_with fail
              go_region_law (refine step_append_sl rfl _ _ 32 rfl B 31 Tryd.underlying32 infoRd rfl (by decide) (v := .slice da n2 dc) (n := n2) (xs := ds2.flatMap docCells) rfl (by first | exact (own_below HOW.out (Below.drew (Below.refl _ _))).alloc _ | exact own_below (HOW.out.alloc _) (Below.drew (Below.refl _ _))) (m := 1) (news := [.int .i64 x.fd, .string x.op, .string x.tag, .slice a1 x.word.length c1]) rfl (sl_made_at _ #[.int .i64 x.fd, .string x.op, .string x.tag, .slice a1 x.word.length c1] _ 1 4 rfl (by unfold maxLen; omega) (by simp)) (by omega) (by intro u hu; simp at hu; rcases hu with rfl | rfl | rfl | rfl <;> rfl) (by omega) (by simp; omega) ?_; intro g1 cap1 w6 hown hgrow hlie hglt; have hg6 : (w5.alloc (.cells #[.int .i64 x.fd, .string x.op, .string x.tag, .slice a1 x.word.length c1] 31)).grownBy w6 (Value.slice da n2 dc).ownBlock := ⟨hgrow.os, hgrow.tape, hgrow.output, hgrow.size, hgrow.block⟩; have HP6 := Lib.hid (Shown.push ((HF5.out.later ((Below.refl _ _).alloc (Nat.le_refl _) _) hle5)) (HW5.out.below ((Below.refl _ _).alloc (Nat.le_refl _) _)) (HC5.out.keep fun _ _ _ _ hs => hs.below ((Below.refl _ _).alloc hle5 _)) (by rw [HN2.out]; exact hn2o) (by rw [HN2.out]; exact hown) hg6 (hlie.imp id fun e => by rw [e]; simp)); have hcf6 := (HW5.out.below ((Below.refl _ _).alloc (Nat.le_refl _) _)).grown_docs hg6; have c6 := hcf6.1; have f6 := hcf6.2; clear hcf6 hown hgrow hlie hg6)
              all_goals
                have HSE : Hid (Shown X B b dv1 (redirS wd (nextS s true) x) _) := Lib.hid (by
                  rw [HRE.out]
                  have h1 := HP6.out
                  rw [HN2.out, HST5.out, ← HO5.out] at h1
                  exact h1)
                go_wp2_with fail
                go_roundw
                case rel => exact ⟨k + 1, true, by omega, by go_num, rfl, by simp, by rw [HX.out]; exact Shown.after HFX.out HSE.out⟩
                case measure => simp [intOf]; omega
            | false =>
              go_wp2_with fail
              go_still_tail 5, (by kernel_rfl)
              go_wp2_with fail
              refine (HS4.out.str (by repeat' (first | (with_reducible assumption) | (with_reducible exact Below.refl _ _) | (with_reducible refine below_drewN ?_ _) | (with_reducible refine below_bytes ?_ ?_ _) | (with_reducible refine Below.alloc ?_ ?_ _) | (with_reducible refine Below.drew ?_) | (with_reducible refine Below.setCell ?_ ?_ _) | go_size)) _ (by have := HZ3.out true rfl; simp [putS, L_size] at this ⊢; have hq1 : (fdL x.fd).length = 1 := rfl; omega)).mono ?_
              rintro e w5 ⟨rfl, hs5⟩
              clear z0 z1 z2 z3 zl
              -- behind the tag: w5, hs5
              have HK5 := Lib.hid (hs5.blk HKX.out hgb HGD.out (by decide))
              obtain ⟨dv2, ds2, hw5, hst5, hf5⟩ := shown_st hs5
              have hlow5 := hs5.low
              obtain ⟨da, dc, rfl⟩ := hw5.shape
              obtain ⟨n2, hn2⟩ : ∃ n, ds2.length = n := ⟨_, rfl⟩
              obtain ⟨o5, ho5⟩ : ∃ o, (putS (putS (nextS s true) (fdL x.fd ++ L x.op)) (L x.tag)).1 = o := ⟨_, rfl⟩
              have hn2o : n2 + 1 ≤ o5.length := by
                have h1 := hst5
                have h2 : n2 ≤ (nextS s true).1.length := by
                  have e1 := congrArg (fun z : St => z.2.length) h1
                  have e2 : (nextS s true).2 = s.2 := rfl
                  have e3 := HSD.out
                  have e4 := nextS_grow s true
                  simp only [stOf, putS, List.length_map, e2] at e1
                  omega
                have h3 : o5.length = (nextS s true).1.length + 3 + (L x.tag).length := by rw [← ho5]; simp [putS, L_size, hol, fdL]; omega
                omega
              have hlim5 : o5.length ≤ lim := by rw [← ho5]; have := HZ3.out true rfl; simpa using this
              unfold lim at hlim5
              rw [ho5] at hw5 hst5
              have HST5 : Hid (ds2.map (·.1) = (nextS s true).2) := Lib.hid (by have := congrArg Prod.snd hst5; simpa [stOf, putS] using this)
              rw [hn2] at hw5 hf5
              have HN2 := Lib.hid hn2
              have HO5 := Lib.hid ho5
              obtain ⟨cdoc, fdoc⟩ := hw5.docs
              have hb5 := hw5.lt
              have hle5 := hw5.le
              have HOW := Lib.hid hw5.2.2.1
              rw [hn2] at HOW
              have HW5 := Lib.hid hw5
              have HF5 := Lib.hid hf5
              have HC5 : Hid (RdC w5 B d x [.int .i64 x.fd, .string x.op, .string x.tag, .slice a1 x.word.length c1]) := Lib.hid (HCX.out.keep fun _ _ _ _ hs => hs.below hlow5)
              have z0 := HK5.out.cell 0
              have z1 := HK5.out.cell 1
              have z2 := HK5.out.cell 2
              have z3 := HK5.out.cell 3
              have zl := HK5.out.lt
              simp at z0 z1 z2 z3
              clear hs5 hw5 hf5 hst5 hn2 ho5 hlow5
              go_wp2_with fail
              go_region_law (refine step_append_sl rfl _ _ 32 rfl B 31 Tryd.underlying32 infoRd rfl (by decide) (v := .slice da n2 dc) (n := n2) (xs := ds2.flatMap docCells) rfl (by first | exact (own_below HOW.out (Below.drew (Below.refl _ _))).alloc _ | exact own_below (HOW.out.alloc _) (Below.drew (Below.refl _ _))) (m := 1) (news := [.int .i64 x.fd, .string x.op, .string x.tag, .slice a1 x.word.length c1]) rfl (sl_made_at _ #[.int .i64 x.fd, .string x.op, .string x.tag, .slice a1 x.word.length c1] _ 1 4 rfl (by unfold maxLen; omega) (by simp)) (by omega) (by intro u hu; simp at hu; rcases hu with rfl | rfl | rfl | rfl <;> rfl) (by omega) (by simp; omega) ?_; intro g1 cap1 w6 hown hgrow hlie hglt; have hg6 : (w5.alloc (.cells #[.int .i64 x.fd, .string x.op, .string x.tag, .slice a1 x.word.length c1] 31)).grownBy w6 (Value.slice da n2 dc).ownBlock := ⟨hgrow.os, hgrow.tape, hgrow.output, hgrow.size, hgrow.block⟩; have HP6 := Lib.hid (Shown.push ((HF5.out.later ((Below.refl _ _).alloc (Nat.le_refl _) _) hle5)) (HW5.out.below ((Below.refl _ _).alloc (Nat.le_refl _) _)) (HC5.out.keep fun _ _ _ _ hs => hs.below ((Below.refl _ _).alloc hle5 _)) (by rw [HN2.out]; exact hn2o) (by rw [HN2.out]; exact hown) hg6 (hlie.imp id fun e => by rw [e]; simp)); have hcf6 := (HW5.out.below ((Below.refl _ _).alloc (Nat.le_refl _) _)).grown_docs hg6; have c6 := hcf6.1; have f6 := hcf6.2; clear hcf6 hown hgrow hlie hg6)
              all_goals
                have HSE : Hid (Shown X B b dv1 (redirS wd (nextS s true) x) _) := Lib.hid (by
                  rw [HRE.out]
                  have h1 := HP6.out
                  rw [HN2.out, HST5.out, ← HO5.out] at h1
                  exact h1)
                go_wp2_with fail
                go_roundw
                case rel => exact ⟨k + 1, true, by omega, by go_num, rfl, by simp, by rw [HX.out]; exact Shown.after HFX.out HSE.out⟩
                case measure => simp [intOf]; omega
    · have HTK : Hid (l.take k = l) := Lib.hid (List.take_of_length_le (by rw [HN.out]; omega))
      rw [HTK.out] at HS
      go_wp2_with fail
      go_end0
      refine ⟨rfl, ?_⟩
      rw [HS.out]
      have := Shown.of HW1.out HF1.out
      rwa [HST.out] at this
end Go.Proofs.YtnackmnoldkihaaDoor
/-
  The writer beside boxes that are written; the walks of simple and of its closure.
-/
namespace Go.Proofs.YtnackmnoldkihaaDoor
open Go.RowKit

/-- Boxes stay. -/
def Keeps (U U' : World) : Prop := ∀ g t cs, Blk U g t cs → t ≠ 5 → t ≠ 31 → t ≠ 49 → Blk U' g t cs
theorem Keeps.trans {U U' U'' : World} (h : Keeps U U') (h' : Keeps U' U'') : Keeps U U'' := fun g t cs hk h1 h2 h3 => h' g t cs (h g t cs hk h1 h2 h3) h1 h2 h3
theorem Keeps.of_below {U U' : World} (h : Below U.heap.size U U') : Keeps U U' := fun _ _ _ hk _ _ _ => hk.below h hk.lt
section
variable {V W X U U' W' : World} {B b : Nat} {dv : Value} {s : St}
theorem blk_ne {g : Nat} {t : TypeId} {cs : Array Value} {out : List UInt8} {ds : List DocV} (h : Wr U B b dv out ds) (hk : Blk U g t cs) (ht : t ≠ 49) : g ≠ b := fun e => by
  obtain ⟨v, p, h1⟩ := h.block
  subst e
  rw [show U.heap[g]? = some (.cells cs t (0, 0)) from hk] at h1
  injection h1 with h1
  injection h1 with _ h2 _
  exact ht h2
theorem Shown.keeps {out : List UInt8} {ds : List DocV} (hw : Wr U B b dv out ds) (h : Shown U B b dv s U') : Keeps U U' := fun g t cs hk h1 h2 h3 => by
  refine h.blk hk ?_ (row_ne hw.2.2.1 hk h2) h1
  exact blk_ne hw hk h3
theorem Shown.str2 (h : Shown V B b dv s W) (hb : Below W.heap.size W X) (t : ByteArray) (hlen : s.1.length + t.size ≤ lim) :
    Calls Tryd.prog 24 #[.pointer (some ⟨b, 0, none⟩), .string t] X fun e w' => e = .returned (.tuple #[.int .i64 t.size, .nilIface]) ∧ Shown V B b dv (putS s (L t)) w' ∧ Keeps X w' := by
  obtain ⟨dv1, ds1, h1, h2, h3⟩ := shown_st (h.later hb)
  have hst := Shown.start h1
  rw [h2] at hst
  exact (hst.str (Below.refl _ _) t hlen).mono fun e w' ⟨g1, g2⟩ => ⟨g1, g2.after h3, g2.keeps h1⟩
theorem Shown.byte2 (h : Shown V B b dv s W) (hb : Below W.heap.size W X) (c : UInt8) (hlen : s.1.length + 1 ≤ lim) :
    Calls Tryd.prog 27 #[.pointer (some ⟨b, 0, none⟩), .int .u8 ((c.toNat : Nat) : Int)] X fun e w' => e = .returned .nilIface ∧ Shown V B b dv (putS s [c]) w' ∧ Keeps X w' := by
  obtain ⟨dv1, ds1, h1, h2, h3⟩ := shown_st (h.later hb)
  have hst := Shown.start h1
  rw [h2] at hst
  exact (hst.byte (Below.refl _ _) c hlen).mono fun e w' ⟨g1, g2⟩ => ⟨g1, g2.after h3, g2.keeps h1⟩
theorem Shown.word2 {d : Nat} {ww : St → List Pt → St} {fw : List Pt → Bool} (hw : WordW d ww fw) (h : Shown V B b dv s W) (hb : Below W.heap.size W X) (hH : Hd V B) {l : List Pt} {v : Value} (hl : PtsIn V B d l v) (hf : fw l = true) (hlen : (ww s l).1.length ≤ lim) :
    Calls Tryd.prog 43 #[.pointer (some ⟨b, 0, none⟩), v] X fun e w' => e = .returned (.tuple #[]) ∧ Shown V B b dv (ww s l) w' ∧ Keeps X w' := by
  have hx := h.later hb
  obtain ⟨dv1, ds1, h1, h2, h3⟩ := shown_st hx
  rw [← h2] at hlen ⊢
  exact (hw X B b dv1 _ ds1 l v (hH.below hx.low) h1 (hl.below hx.low) hf hlen).mono fun e w' ⟨g1, g2⟩ => ⟨g1, g2.after h3, g2.keeps h1⟩
/-- A store into a box of the call's own. -/
theorem Shown.poke {g i : Nat} {t : TypeId} {cs : Array Value} (h : Shown V B b dv s W) (hk : Blk W g t cs) (hg : V.heap.size ≤ g) (hB : B ≤ V.heap.size) (h1 : t ≠ 5) (h2 : t ≠ 31) (h3 : t ≠ 49) (u : Value) : Shown V B b dv s (W.setCell ⟨g, i, none⟩ u) := by
  obtain ⟨dv1, ds1, e1, hw, hf⟩ := h
  have hgb : g ≠ b := blk_ne hw hk h3
  have hlow := (Below.refl B W).setCell (p := ⟨g, i, none⟩) (show B ≤ g by omega) u
  obtain ⟨hBb, ⟨v, p, k1, k2, k3⟩, k4, k5, k6⟩ := hw
  refine ⟨dv1, ds1, e1, ⟨hBb, ⟨v, p, (Below.heap_setCell W _ u b (Ne.symm hgb)).trans k1, k2, row_set k3 (row_ne k3 hk h1) i u⟩, row_set k4 (row_ne k4 hk h2) i u, fun r hr => ?_, k6⟩, ⟨hf.low.trans hlow, fun k o ho hb hd hu => ?_, hf.own⟩⟩
  · obtain ⟨d, hd⟩ := k5 r hr
    exact ⟨d, hd.keep fun _ _ _ _ hs => hs.below hlow⟩
  · rw [Below.heap_setCell W ⟨g, i, none⟩ u k (by have := (Array.getElem?_eq_some_iff.1 ho).1; simp; omega)]
    exact hf.kept k o ho hb hd hu
end

theorem enters_next (args : Array Value) (W : World) : (callFunc 42 args).run Tryd.prog W = .ok (Next.enter 42 args) W := by kernel_rfl

/-- The blank ahead, and its mark. -/
theorem next_any {V W X : World} {B b g0 g1 : Nat} {dv : Value} {s : St} {q : Bool} (h : Shown V B b dv s W) (hb : Below W.heap.size W X) (hk0 : Blk X g0 43 #[.pointer (some ⟨b, 0, none⟩)]) (hk1 : Blk X g1 4 #[.bool q]) (hg1 : V.heap.size ≤ g1) (hB : B ≤ V.heap.size) (hlen : (nextS s q).1.length ≤ lim) :
    Calls Tryd.prog 42 #[.pointer (some ⟨g1, 0, none⟩), .pointer (some ⟨g0, 0, none⟩)] X fun e w' => e = .returned (.tuple #[]) ∧ Shown V B b dv (nextS s q) w' ∧ Blk w' g1 4 #[.bool true] ∧ ∀ g t cs, g ≠ g1 → Blk X g t cs → t ≠ 5 → t ≠ 31 → t ≠ 49 → Blk w' g t cs := by
  have c0 := hk0.cell 0
  have c1 := hk1.cell 0
  have f1 := hk1.free 0
  simp at c0 c1
  have HS := Lib.hid (h.later hb)
  have HK0 := Lib.hid hk0
  have HK1 := Lib.hid hk1
  have HLEN := Lib.hid hlen
  clear h hb hk0 hk1 hlen
  cases q with
  | false =>
    go_enter Tryd.func42, Tryd.ntmps42
    go_wp2_with fail
    go_end0
    exact ⟨rfl, HS.out.poke HK1.out hg1 hB (by decide) (by decide) (by decide) _, HK1.out.put 0 _, fun g t cs hne hk _ _ _ => hk.far hne _⟩
  | true =>
    have CB := Lib.hid (HS.out.byte2 (Below.refl _ _) 32 (by have := HLEN.out; simpa [nextS, putS] using this))
    go_enter Tryd.func42, Tryd.ntmps42
    go_wp2_with fail
    refine CB.out.mono ?_
    rintro e w2 ⟨rfl, hs2, hkp⟩
    have HK2 := Lib.hid (hkp g1 _ _ HK1.out (by decide) (by decide) (by decide))
    have HS2 := Lib.hid hs2
    have HKP := Lib.hid hkp
    have c1' := HK2.out.cell 0
    have f1' := HK2.out.free 0
    simp at c1'
    clear hs2 hkp c0 c1 f1
    go_wp2_with fail
    go_end0
    exact ⟨rfl, HS2.out.poke HK2.out hg1 hB (by decide) (by decide) (by decide) _, HK2.out.put 0 _, fun g t cs hne hk h1 h2 h3 => (HKP.out g t cs hk h1 h2 h3).far hne _⟩

/-- The three boxes of simple. -/
def B3 (W U : World) (b : Nat) (cs : Array Value) (q : Bool) : Prop := Blk U W.heap.size 43 #[.pointer (some ⟨b, 0, none⟩)] ∧ Blk U (W.heap.size + 1) 37 cs ∧ Blk U (W.heap.size + 1 + 1) 4 #[.bool q]
theorem B3.keeps {W U U' : World} {b : Nat} {cs : Array Value} {q : Bool} (h : B3 W U b cs q) (hk : Keeps U U') : B3 W U' b cs q :=
  ⟨hk _ _ _ h.1 (by decide) (by decide) (by decide), hk _ _ _ h.2.1 (by decide) (by decide) (by decide), hk _ _ _ h.2.2 (by decide) (by decide) (by decide)⟩
theorem B3.next {W U U' : World} {b : Nat} {cs : Array Value} {q : Bool} (h : B3 W U b cs q) (h1 : Blk U' (W.heap.size + 1 + 1) 4 #[.bool true]) (hk : ∀ g t cs, g ≠ W.heap.size + 1 + 1 → Blk U g t cs → t ≠ 5 → t ≠ 31 → t ≠ 49 → Blk U' g t cs) : B3 W U' b cs true :=
  ⟨hk _ _ _ (by omega) h.1 (by decide) (by decide) (by decide), hk _ _ _ (by omega) h.2.1 (by decide) (by decide) (by decide), h1⟩

set_option maxHeartbeats 4000000 in
set_option maxRecDepth 100000 in
theorem wsimple_any {d : Nat} {wd : St → List Pt → St} {fw : List Pt → Bool} (hwd : WordW d wd fw) (hg : Grow2 wd) {W : World} {B b : Nat} {dv : Value} {out : List UInt8} {ds : List DocV} (x : Nd) (c : List Value) (h : Wr W B b dv out ds) (hH : Hd W B) (hc : NdC W B d x c) (hfa : x.assigns.all (fun a => fw a.word) = true) (hfw : x.words.all fw = true) (hfr : x.redirs.all (redirF fw) = true) (hlen : (simpleS wd (stOf out ds) x).1.length ≤ lim) :
    Calls Tryd.prog 22 #[.pointer (some ⟨b, 0, none⟩), .agg c.toArray] W fun e w' => e = .returned (.tuple #[]) ∧ Shown W B b dv (simpleS wd (stOf out ds) x) w' := by
  obtain ⟨a1, c1, a2, c2, a3, c3, a4, c4, a5, c5, rfl, hxz, ⟨hn1, hn2, hn3, hn4, hn5⟩, hA, hWd, hRd, _⟩ := hc.open
  obtain ⟨n1, hl1⟩ : ∃ n, x.assigns.length = n := ⟨_, rfl⟩
  obtain ⟨n2, hl2⟩ : ∃ n, x.words.length = n := ⟨_, rfl⟩
  obtain ⟨n3, hl3⟩ : ∃ n, x.redirs.length = n := ⟨_, rfl⟩
  obtain ⟨n4, hl4⟩ : ∃ n, x.lists.length = n := ⟨_, rfl⟩
  obtain ⟨n5, hl5⟩ : ∃ n, x.arms.length = n := ⟨_, rfl⟩
  rw [hl1] at hn1 hA
  rw [hl2] at hn2 hWd
  rw [hl3] at hn3 hRd
  rw [hl1, hl2, hl3, hl4, hl5]
  have HA := Lib.hid hA
  have HWS := Lib.hid hWd
  have HRS := Lib.hid hRd
  have HH := Lib.hid hH
  have HWD := Lib.hid hwd
  have HG := Lib.hid hg
  have HW := Lib.hid h
  have HFA := Lib.hid (List.all_eq_true.1 hfa)
  have HFW := Lib.hid (List.all_eq_true.1 hfw)
  have HFR := Lib.hid hfr
  have N1 := Lib.hid hl1
  have N2 := Lib.hid hl2
  have N3 := Lib.hid hl3
  obtain ⟨s0, hs0⟩ : ∃ s, stOf out ds = s := ⟨_, rfl⟩
  rw [hs0] at hlen ⊢
  have HS0 := Lib.hid hs0
  obtain ⟨sa, hsa⟩ : ∃ s, assignsS wd s0 x.assigns false = s := ⟨_, rfl⟩
  obtain ⟨sw, hsw⟩ : ∃ s, wordsS wd sa x.words (!x.assigns.isEmpty) = s := ⟨_, rfl⟩
  have hr : simpleS wd s0 x = redirsS wd sw x.redirs (!(x.assigns.isEmpty && x.words.isEmpty)) := by rw [simpleS, hsa, hsw]
  obtain ⟨r, hr0⟩ : ∃ r, simpleS wd s0 x = r := ⟨_, rfl⟩
  rw [hr0] at hlen hr ⊢
  have HR := Lib.hid hr
  have HLEN := Lib.hid hlen
  have HLW : Hid (sw.1.length ≤ lim) := Lib.hid (Nat.le_trans (by rw [hr]; exact redirsS_grow hg _ _ _) hlen)
  have HLA : Hid (sa.1.length ≤ lim) := Lib.hid (Nat.le_trans (by rw [← hsw]; exact wordsS_grow hg _ _ _) HLW.out)
  have HLAT : Hid (∀ k, (assignsS wd s0 (x.assigns.take k) false).1.length ≤ lim) := Lib.hid fun k => Nat.le_trans (assigns_take_le hg _ _ _ k) (by rw [hsa]; exact HLA.out)
  have HLWT : Hid (∀ k, (wordsS wd sa (x.words.take k) (!x.assigns.isEmpty)).1.length ≤ lim) := Lib.hid fun k => Nat.le_trans (words_take_le hg _ _ _ k) (by rw [hsw]; exact HLW.out)
  have HSA := Lib.hid hsa
  have HSW := Lib.hid hsw
  have hle := h.le
  clear hl1 hl2 hl3 hl4 hl5 hA hWd hRd hH hwd hg h hfa hfw hfr hlen hc hs0 hsa hsw hr hr0
  obtain ⟨nc, hnc⟩ : ∃ cs : Array Value, cs = #[.int .i64 x.kind, .string x.name, .slice a1 n1 c1, .slice a2 n2 c2, .slice a3 n3 c3, .slice a4 n4 c4, .slice a5 n5 c5] := ⟨_, rfl⟩
  have HNC := Lib.hid hnc
  have HB3 : Hid (B3 W (((W.alloc (.cells #[.pointer (some ⟨b, 0, none⟩)] 43)).alloc (.cells nc 37)).alloc (.cells #[.bool false] 4)) b nc false) := Lib.hid ⟨((Blk.at rfl).alloc _).alloc _, (Blk.at (by simp)).alloc _, Blk.at (by simp)⟩
  have HBL : Hid (Below W.heap.size W (((W.alloc (.cells #[.pointer (some ⟨b, 0, none⟩)] 43)).alloc (.cells nc 37)).alloc (.cells #[.bool false] 4))) := Lib.hid (by repeat' (first | (with_reducible assumption) | (with_reducible exact Below.refl _ _) | (with_reducible refine below_drewN ?_ _) | (with_reducible refine below_bytes ?_ ?_ _) | (with_reducible refine Below.alloc ?_ ?_ _) | (with_reducible refine Below.drew ?_) | (with_reducible refine Below.setCell ?_ ?_ _) | go_size))
  obtain ⟨U, hU⟩ : ∃ U, U = (((W.alloc (.cells #[.pointer (some ⟨b, 0, none⟩)] 43)).alloc (.cells nc 37)).alloc (.cells #[.bool false] 4)) := ⟨_, rfl⟩
  rw [← hU] at HB3 HBL
  rw [hnc] at hU
  have HUE := Lib.hid hU
  clear hU hnc
  have HSU : Hid (Shown W B b dv s0 U) := Lib.hid (by have := (Shown.start HW.out).later HBL.out; rwa [HS0.out] at this)
  go_enter Tryd.func22, Tryd.ntmps22
  go_upto_region 3 with fail
  rw [← HUE.out]
  have HB := HB3
  have HK0 := Lib.hid (HB.out.1)
  have HK1 := Lib.hid (HB.out.2.1)
  rw [HNC.out] at HK1
  have HK2 := Lib.hid (HB.out.2.2)
  have b0 := HK0.out.cell 0
  have m0 := HK2.out.cell 0
  have m1 := HK2.out.lt
  simp at b0 m0
  have y0 := HK1.out.cell 0
  have y1 := HK1.out.cell 1
  have y2 := HK1.out.cell 2
  have y3 := HK1.out.cell 3
  have y4 := HK1.out.cell 4
  have y5 := HK1.out.cell 5
  have y6 := HK1.out.cell 6
  have yl := HK1.out.lt
  simp at y0 y1 y2 y3 y4 y5 y6
  go_wp2_with fail
  clear b0 m0 m1 y0 y1 y2 y3 y4 y5 y6 yl HK0 HK1 HK2 HB
  go_loopw [14] (fun i U => ∃ (k : Nat) (q : Bool), k ≤ n1 ∧ i = .int .i64 k ∧ q = decide (0 < k) ∧ Shown W B b dv (assignsS wd s0 (x.assigns.take k) false) U ∧ B3 W U b nc q) (fun i _ => n1 - (intOf i).toNat)
  case atStart => exact ⟨0, false, Nat.zero_le _, rfl, rfl, HSU.out, HB3.out⟩
  case round =>
    obtain ⟨k, q, hk, rfl, hq, hsh, hb3⟩ := hrel
    have HQ := Lib.hid hq
    have HB := Lib.hid hb3
    obtain ⟨s, hs⟩ : ∃ s, assignsS wd s0 (x.assigns.take k) false = s := ⟨_, rfl⟩
    rw [hs] at hsh
    have HS := Lib.hid hs
    have HSH := Lib.hid hsh
    have hlow := hsh.low
    have hleW := hsh.le
    clear hsh hb3 hq hs
    have HK0 := Lib.hid (HB.out.1)
    have HK1 := Lib.hid (HB.out.2.1)
    rw [HNC.out] at HK1
    have HK2 := Lib.hid (HB.out.2.2)
    have b0 := HK0.out.cell 0
    have m0 := HK2.out.cell 0
    have m1 := HK2.out.lt
    simp at b0 m0
    have y0 := HK1.out.cell 0
    have y1 := HK1.out.cell 1
    have y2 := HK1.out.cell 2
    have y3 := HK1.out.cell 3
    have y4 := HK1.out.cell 4
    have y5 := HK1.out.cell 5
    have y6 := HK1.out.cell 6
    have yl := HK1.out.lt
    simp at y0 y1 y2 y3 y4 y5 y6
    by_cases hlt : k < n1
    · obtain ⟨y, hy⟩ : ∃ y, x.assigns[k]? = .some y := ⟨_, List.getElem?_eq_getElem (by rw [N1.out]; exact hlt)⟩
      obtain ⟨b1, o, c, hi, hbB, hce, hC, _⟩ := HA.out.at 33 53 Tryd.underlying33 (by kernel_rfl) hy
      have HSX : Hid (assignsS wd s0 (x.assigns.take (k + 1)) false = wd (putS (nextS s q) (L y.name ++ [61])) y.word) := Lib.hid (by
        rw [take_snoc' hy, assigns_snoc, HS.out, HQ.out, take_empty (by rw [N1.out]; exact hlt), Bool.false_or])
      have HLX := Lib.hid (HLAT.out (k + 1))
      rw [HSX.out] at HLX
      have HZ2 : Hid ((putS (nextS s q) (L y.name ++ [61])).1.length ≤ lim) := Lib.hid (Nat.le_trans (HG.out _ _) HLX.out)
      have HZ1 : Hid ((nextS s q).1.length ≤ lim) := Lib.hid (Nat.le_trans (putS_grow _ _) HZ2.out)
      have HFY : Hid (fw y.word = true) := Lib.hid (HFA.out y (List.mem_of_getElem? hy))
      obtain ⟨a6, c6, rfl, hyz, hyl, hyp⟩ := hC.open
      have HYP := Lib.hid hyp
      have e0 := (hlow.cell hbB).trans (hce 0 _ rfl)
      have e1 := (hlow.cell hbB).trans (hce 1 _ rfl)
      have hbB' := Nat.lt_of_lt_of_le hbB hleW
      rw [Nat.add_zero] at e0
      obtain ⟨X, hX⟩ : ∃ X, X = wr.alloc (.cells #[.string y.name, .slice a6 y.word.length c6] 53) := ⟨_, rfl⟩
      have HBX : Hid (Below wr.heap.size wr X) := Lib.hid (by rw [hX]; exact (Below.refl _ _).alloc (Nat.le_refl _) _)
      have HKX : Hid (Blk X wr.heap.size 53 #[.string y.name, .slice a6 y.word.length c6]) := Lib.hid (by rw [hX]; exact Blk.new _ _ _)
      have HXE := Lib.hid hX
      have HB3X := Lib.hid (HB.out.keeps (Keeps.of_below HBX.out))
      have hgne : wr.heap.size ≠ W.heap.size + 1 + 1 := by omega
      have CN := Lib.hid (next_any HSH.out HBX.out HB3X.out.1 HB3X.out.2.2 (by omega) hle HZ1.out)
      clear hy hce hC hX hyp
      go_wp2_with fail
      rw [← HXE.out]
      refine CN.out.mono ?_
      rintro e w2 ⟨rfl, hs2, hm2, hk2⟩
      have HB2 := Lib.hid (HB3X.out.next hm2 hk2)
      have HY2 := Lib.hid (hk2 _ _ _ hgne HKX.out (by decide) (by decide) (by decide))
      have C2 : Hid (∀ X2, Below w2.heap.size w2 X2 → Calls Tryd.prog 24 #[.pointer (some ⟨b, 0, none⟩), .string (y.name ++ ⟨#[61]⟩)] X2 fun e w' => e = .returned (.tuple #[.int .i64 (y.name.size + 1 : Nat), .nilIface]) ∧ Shown W B b dv (putS (nextS s q) (L y.name ++ [61])) w' ∧ Keeps X2 w') := Lib.hid fun X2 hX2 => by
        have h1 := hs2.str2 hX2 (y.name ++ ⟨#[61]⟩) (by have := HZ2.out; simp [putS, L_size] at this ⊢; omega)
        have e : L (y.name ++ ⟨#[61]⟩) = L y.name ++ [61] := by simp [L_append]
        have e2 : (y.name ++ (⟨#[61]⟩ : ByteArray)).size = y.name.size + 1 := by simp
        rw [e, e2] at h1
        exact h1
      clear hs2 hm2 hk2 b0 m0 m1 y0 y1 y2 y3 y4 y5 y6 yl HK0 HK1 HK2 CN
      have HB := HB2
      have HK0 := Lib.hid (HB.out.1)
      have HK1 := Lib.hid (HB.out.2.1)
      rw [HNC.out] at HK1
      have HK2 := Lib.hid (HB.out.2.2)
      have b0 := HK0.out.cell 0
      have m0 := HK2.out.cell 0
      have m1 := HK2.out.lt
      simp at b0 m0
      have y0 := HK1.out.cell 0
      have y1 := HK1.out.cell 1
      have y2 := HK1.out.cell 2
      have y3 := HK1.out.cell 3
      have y4 := HK1.out.cell 4
      have y5 := HK1.out.cell 5
      have y6 := HK1.out.cell 6
      have yl := HK1.out.lt
      simp at y0 y1 y2 y3 y4 y5 y6
      have z0 := HY2.out.cell 0
      have z1 := HY2.out.cell 1
      have zl := HY2.out.lt
      simp at z0 z1
      have k1 : ∀ V : World, (Op.stringOp .add y.name (⟨#[61]⟩ : ByteArray)).run Tryd.prog V = .ok (.string (y.name ++ (⟨#[61]⟩ : ByteArray))) V := fun V => run_string_add_sum V _ _ (by simp; omega)
      go_wp2_with fail
      go_still_tail 6, (by kernel_rfl)
      go_wp2_with fail
      refine (C2.out _ (by repeat' (first | (with_reducible assumption) | (with_reducible exact Below.refl _ _) | (with_reducible refine below_drewN ?_ _) | (with_reducible refine below_bytes ?_ ?_ _) | (with_reducible refine Below.alloc ?_ ?_ _) | (with_reducible refine Below.drew ?_) | (with_reducible refine Below.setCell ?_ ?_ _) | go_size))).mono ?_
      rintro e w3 ⟨rfl, hs3, hk3⟩
      have HB3' := Lib.hid (HB2.out.keeps (Keeps.trans (Keeps.of_below (by repeat' (first | (with_reducible assumption) | (with_reducible exact Below.refl _ _) | (with_reducible refine below_drewN ?_ _) | (with_reducible refine below_bytes ?_ ?_ _) | (with_reducible refine Below.alloc ?_ ?_ _) | (with_reducible refine Below.drew ?_) | (with_reducible refine Below.setCell ?_ ?_ _) | go_size))) hk3))
      have HY3 := Lib.hid ((Keeps.trans (Keeps.of_below (by repeat' (first | (with_reducible assumption) | (with_reducible exact Below.refl _ _) | (with_reducible refine below_drewN ?_ _) | (with_reducible refine below_bytes ?_ ?_ _) | (with_reducible refine Below.alloc ?_ ?_ _) | (with_reducible refine Below.drew ?_) | (with_reducible refine Below.setCell ?_ ?_ _) | go_size))) hk3) _ _ _ HY2.out (by decide) (by decide) (by decide))
      have C3 := Lib.hid (hs3.word2 HWD.out (Below.refl _ _) HH.out HYP.out HFY.out HLX.out)
      clear hs3 hk3 b0 m0 m1 y0 y1 y2 y3 y4 y5 y6 yl z0 z1 zl HK0 HK1 HK2 HB C2
      have HB := HB3'
      have HK0 := Lib.hid (HB.out.1)
      have HK1 := Lib.hid (HB.out.2.1)
      rw [HNC.out] at HK1
      have HK2 := Lib.hid (HB.out.2.2)
      have b0 := HK0.out.cell 0
      have m0 := HK2.out.cell 0
      have m1 := HK2.out.lt
      simp at b0 m0
      have y0 := HK1.out.cell 0
      have y1 := HK1.out.cell 1
      have y2 := HK1.out.cell 2
      have y3 := HK1.out.cell 3
      have y4 := HK1.out.cell 4
      have y5 := HK1.out.cell 5
      have y6 := HK1.out.cell 6
      have yl := HK1.out.lt
      simp at y0 y1 y2 y3 y4 y5 y6
      have z1 := HY3.out.cell 1
      have zl := HY3.out.lt
      simp at z1
      go_wp2_with fail
      refine C3.out.mono ?_
      rintro e w4 ⟨rfl, hs4, hk4⟩
      have HB4 := Lib.hid (HB3'.out.keeps hk4)
      have HS4 := Lib.hid hs4
      clear hs4 hk4
      go_wp2_with fail
      go_roundw
      case rel => exact ⟨k + 1, true, by omega, by go_num, by simp, by rw [HSX.out]; exact HS4.out, HB4.out⟩
      case measure => simp [intOf]; omega
    · have HTK : Hid (x.assigns.take k = x.assigns) := Lib.hid (List.take_of_length_le (by rw [N1.out]; omega))
      have HSE : Hid (s = sa) := Lib.hid (by rw [← HS.out, HTK.out]; exact HSA.out)
      have HQ1 : Hid (q = !x.assigns.isEmpty) := Lib.hid (by rw [HQ.out, nil_of N1.out]; by_cases h0 : n1 = 0 <;> simp [h0] <;> omega)
      rw [HSE.out] at HSH
      go_wp2_with fail
      clear b0 m0 m1 y0 y1 y2 y3 y4 y5 y6 yl HK0 HK1 HK2 hlow hleW
      go_loopw [35] (fun i U => ∃ (j : Nat) (q : Bool), j ≤ n2 ∧ i = .int .i64 j ∧ q = (!x.assigns.isEmpty || decide (0 < j)) ∧ Shown W B b dv (wordsS wd sa (x.words.take j) (!x.assigns.isEmpty)) U ∧ B3 W U b nc q) (fun i _ => n2 - (intOf i).toNat)
      case atStart => exact ⟨0, q, Nat.zero_le _, rfl, by rw [HQ1.out]; simp, HSH.out, HB.out⟩
      case round =>
        clear HB HSH HQ HQ1 HS HSE HTK
        obtain ⟨j, q2, hj, rfl, hq, hsh, hb3⟩ := hrel
        have HQ := Lib.hid hq
        have HB := Lib.hid hb3
        obtain ⟨s2, hs⟩ : ∃ s, wordsS wd sa (x.words.take j) (!x.assigns.isEmpty) = s := ⟨_, rfl⟩
        rw [hs] at hsh
        have HS := Lib.hid hs
        have HSH := Lib.hid hsh
        have hlow := hsh.low
        have hleW := hsh.le
        clear hsh hb3 hq hs
        have HK0 := Lib.hid (HB.out.1)
        have HK1 := Lib.hid (HB.out.2.1)
        rw [HNC.out] at HK1
        have HK2 := Lib.hid (HB.out.2.2)
        have b0 := HK0.out.cell 0
        have m0 := HK2.out.cell 0
        have m1 := HK2.out.lt
        simp at b0 m0
        have y0 := HK1.out.cell 0
        have y1 := HK1.out.cell 1
        have y2 := HK1.out.cell 2
        have y3 := HK1.out.cell 3
        have y4 := HK1.out.cell 4
        have y5 := HK1.out.cell 5
        have y6 := HK1.out.cell 6
        have yl := HK1.out.lt
        simp at y0 y1 y2 y3 y4 y5 y6
        by_cases hlt2 : j < n2
        · obtain ⟨y, hy⟩ : ∃ y, x.words[j]? = .some y := ⟨_, List.getElem?_eq_getElem (by rw [N2.out]; exact hlt2)⟩
          obtain ⟨b1, o, c, hi, hbB, hce, ⟨yv, rfl, hyp⟩, _⟩ := HWS.out.at 29 26 Tryd.underlying29 (by kernel_rfl) hy
          obtain ⟨a6, c6, rfl, _⟩ := hyp.shape
          have HSX : Hid (wordsS wd sa (x.words.take (j + 1)) (!x.assigns.isEmpty) = wd (nextS s2 q2) y) := Lib.hid (by
            rw [take_snoc' hy, words_snoc, HS.out, HQ.out, take_empty (by rw [N2.out]; exact hlt2)])
          have HLX := Lib.hid (HLWT.out (j + 1))
          rw [HSX.out] at HLX
          have HZ1 : Hid ((nextS s2 q2).1.length ≤ lim) := Lib.hid (Nat.le_trans (HG.out _ _) HLX.out)
          have HFY : Hid (fw y = true) := Lib.hid (HFW.out y (List.mem_of_getElem? hy))
          have HYP := Lib.hid hyp
          have e0 := (hlow.cell hbB).trans (hce 0 _ rfl)
          have hbB' := Nat.lt_of_lt_of_le hbB hleW
          rw [Nat.add_zero] at e0
          have CN := Lib.hid (next_any HSH.out (Below.refl _ _) HB.out.1 HB.out.2.2 (by omega) hle HZ1.out)
          clear hy hce hyp
          go_wp2_with fail
          refine CN.out.mono ?_
          rintro e w2 ⟨rfl, hs2, hm2, hk2⟩
          have HB2 := Lib.hid (HB.out.next hm2 hk2)
          have C3 := Lib.hid (hs2.word2 HWD.out (Below.refl _ _) HH.out HYP.out HFY.out HLX.out)
          clear hs2 hm2 hk2 b0 m0 m1 y0 y1 y2 y3 y4 y5 y6 yl HK0 HK1 HK2 CN HB
          have HB := HB2
          have HK0 := Lib.hid (HB.out.1)
          have HK1 := Lib.hid (HB.out.2.1)
          rw [HNC.out] at HK1
          have HK2 := Lib.hid (HB.out.2.2)
          have b0 := HK0.out.cell 0
          have m0 := HK2.out.cell 0
          have m1 := HK2.out.lt
          simp at b0 m0
          have y0 := HK1.out.cell 0
          have y1 := HK1.out.cell 1
          have y2 := HK1.out.cell 2
          have y3 := HK1.out.cell 3
          have y4 := HK1.out.cell 4
          have y5 := HK1.out.cell 5
          have y6 := HK1.out.cell 6
          have yl := HK1.out.lt
          simp at y0 y1 y2 y3 y4 y5 y6
          go_wp2_with fail
          refine C3.out.mono ?_
          rintro e w4 ⟨rfl, hs4, hk4⟩
          have HB4 := Lib.hid (HB2.out.keeps hk4)
          have HS4 := Lib.hid hs4
          clear hs4 hk4
          go_wp2_with fail
          go_roundw
          case rel => exact ⟨j + 1, true, by omega, by go_num, by simp, by rw [HSX.out]; exact HS4.out, HB4.out⟩
          case measure => simp [intOf]; omega
        · have HTK : Hid (x.words.take j = x.words) := Lib.hid (List.take_of_length_le (by rw [N2.out]; omega))
          have HSE : Hid (s2 = sw) := Lib.hid (by rw [← HS.out, HTK.out]; exact HSW.out)
          have HQ1 : Hid (q2 = !(x.assigns.isEmpty && x.words.isEmpty)) := Lib.hid (by
            rw [HQ.out, nil_of N2.out]
            cases x.assigns.isEmpty
            · rfl
            · by_cases h0 : n2 = 0 <;> simp [h0] <;> omega)
          rw [HSE.out] at HSH
          have CR : Hid (Calls Tryd.prog 26 #[.pointer (some ⟨b, 0, none⟩), .slice a3 n3 c3, .bool q2] wr fun e w' => e = .returned (.tuple #[]) ∧ Shown W B b dv r w') := Lib.hid (by
            obtain ⟨dv1, ds1, h1, h2, h3⟩ := shown_st HSH.out
            have hlow1 := HSH.out.low
            have h4 := wredirs_any HWD.out HG.out h1 (HH.out.below hlow1) (HRS.out.imp (fun xs hs => hs.below hlow1) fun _ _ _ h => h.keep fun _ _ _ _ hs => hs.below hlow1) HFR.out q2 (by rw [h2, HQ1.out, ← HR.out]; exact HLEN.out)
            rw [h2, HQ1.out, ← HR.out] at h4
            rw [HQ1.out]
            exact h4.mono fun e w' ⟨g1, g2⟩ => ⟨g1, g2.after h3⟩)
          go_wp2_with fail
          refine CR.out.mono ?_
          rintro e w5 ⟨rfl, hs5⟩
          have HS5 := Lib.hid hs5
          clear hs5
          go_wp2_with fail
          go_end0
          exact ⟨rfl, HS5.out⟩
end Go.Proofs.YtnackmnoldkihaaDoor
/-
  The walks of the writer's join and arms.
-/
namespace Go.Proofs.YtnackmnoldkihaaDoor
open Go.RowKit

/-- The first command of a list. -/
theorem NdsIn.head {w : World} {B d : Nat} {l : List Nd} {v : Value} (h : NdsIn w B d l v) (h0 : 0 < l.length) : ∃ x r d' b o c, l = x :: r ∧ d = d' + 1 ∧ (∀ w' : World, (Instr.indexAt 22 v (.int .i64 0)).run Tryd.prog w' = .ok (.pointer (some ⟨b, o, none⟩)) w') ∧ b < B ∧ CellsAt w b o c ∧ NdC w B d' x c := by
  cases d with
  | zero => rw [NdsIn] at h; obtain rfl := h.zero; simp at h0
  | succ d =>
    rw [NdsIn.succ] at h
    cases l with
    | nil => simp at h0
    | cons x r =>
      obtain ⟨b, o, c, hi, hb, hc, hC, _⟩ := h.at 22 37 Tryd.underlying22 (by kernel_rfl) (k := 0) (x := x) rfl
      exact ⟨x, r, d, b, o, c, rfl, rfl, fun w' => hi w', hb, hc, hC⟩

set_option maxHeartbeats 2000000 in
set_option maxRecDepth 100000 in
theorem wjoin_any {D : Nat} {wn : St → Nd → St} {fn : Nd → Bool} (hwn : ∀ d, D = d + 1 → NodeW d wn fn) (hg : Grow2 wn) {V W X : World} {B b : Nat} {dv : Value} {s0 : St} (h : Shown V B b dv s0 W) (hb : Below W.heap.size W X) (hH : Hd V B) (sign : ByteArray) (l : List (List Nd)) (v : Value) (hl : LssIn V B D l v) (hf : l.all (fun y => y.all fn) = true) (hf2 : l.all (fun y => !y.isEmpty) = true) (hlen : (joinS wn (L sign) s0 l false).1.length ≤ lim) :
    Calls Tryd.prog 23 #[.pointer (some ⟨b, 0, none⟩), .string sign, v] X fun e w' => e = .returned (.tuple #[]) ∧ Shown V B b dv (joinS wn (L sign) s0 l false) w' := by
  obtain ⟨a, cap, rfl, hz⟩ := hl.len
  obtain ⟨n, hn⟩ : ∃ n, l.length = n := ⟨_, rfl⟩
  rw [hn] at hl hz ⊢
  have HSX := Lib.hid (h.later hb)
  have HL := Lib.hid hl
  have HN := Lib.hid hn
  have HH := Lib.hid hH
  have HWN := Lib.hid hwn
  have HG := Lib.hid hg
  have HFA := Lib.hid (List.all_eq_true.1 hf)
  have HFB := Lib.hid (List.all_eq_true.1 hf2)
  have HLEN : Hid (∀ k, (joinS wn (L sign) s0 (l.take k) false).1.length ≤ lim) := Lib.hid fun k => Nat.le_trans (join_take_le hg (L sign) l _ false k) hlen
  clear hl hn hH hwn hg h hb hf hf2 hlen
  go_enter Tryd.func23, Tryd.ntmps23
  go_wp2_with fail
  go_loopw [10] (fun i U => ∃ k : Nat, k ≤ n ∧ i = .int .i64 k ∧ Shown V B b dv (joinS wn (L sign) s0 (l.take k) false) U) (fun i _ => n - (intOf i).toNat)
  case atStart => exact ⟨0, Nat.zero_le _, rfl, HSX.out⟩
  case round =>
    obtain ⟨k, hk, rfl, hsh⟩ := hrel
    obtain ⟨s, hs⟩ : ∃ s, joinS wn (L sign) s0 (l.take k) false = s := ⟨_, rfl⟩
    rw [hs] at hsh
    have HS := Lib.hid hs
    have HSH := Lib.hid hsh
    have hlow := hsh.low
    have hleW := hsh.le
    clear hsh hs
    by_cases hlt : k < n
    · obtain ⟨y, hy⟩ : ∃ y, l[k]? = .some y := ⟨_, List.getElem?_eq_getElem (by rw [HN.out]; exact hlt)⟩
      obtain ⟨b1, o, c, hi, hbB, hce, ⟨yv, rfl, hyp⟩, _⟩ := HL.out.at 34 22 Tryd.underlying34 (by kernel_rfl) hy
      have hm := List.mem_of_getElem? hy
      have hye := HFB.out y hm
      obtain ⟨x, r, d', b2, o2, c, hyx, hdd, hi2, hbB2, hce2, hC⟩ := hyp.head (by cases y with | nil => simp at hye | cons => simp)
      have HWN2 := Lib.hid (HWN.out d' hdd)
      obtain ⟨a6, c6, rfl, _⟩ := hyp.shape
      have HSX1 : Hid (joinS wn (L sign) s0 (l.take (k + 1)) false = wn (bif decide (0 < k) then putS s (L sign) else s) x) := Lib.hid (by
        rw [take_snoc' hy, join_snoc, HS.out, take_empty (by rw [HN.out]; exact hlt), Bool.false_or, hyx, oneS])
      have HLX := Lib.hid (HLEN.out (k + 1))
      rw [HSX1.out] at HLX
      have HFY : Hid (fn x = true) := Lib.hid (by
        have h1 := HFA.out y hm
        rw [hyx] at h1
        exact List.all_eq_true.1 h1 x (by simp))
      have HC := Lib.hid hC
      obtain ⟨a1, c1, a2, c2, a3, c3, a4, c4, a5, c5, rfl, _⟩ := hC.open
      have e0 := (hlow.cell hbB).trans (hce 0 _ rfl)
      have f0 := (hlow.cell hbB2).trans (hce2 0 _ rfl)
      have f1 := (hlow.cell hbB2).trans (hce2 1 _ rfl)
      have f2 := (hlow.cell hbB2).trans (hce2 2 _ rfl)
      have f3 := (hlow.cell hbB2).trans (hce2 3 _ rfl)
      have f4 := (hlow.cell hbB2).trans (hce2 4 _ rfl)
      have f5 := (hlow.cell hbB2).trans (hce2 5 _ rfl)
      have f6 := (hlow.cell hbB2).trans (hce2 6 _ rfl)
      rw [Nat.add_zero] at e0 f0
      obtain ⟨ny, hny⟩ : ∃ n, y.length = n := ⟨_, rfl⟩
      rw [hny] at e0 hi2
      have HCE : Hid (∀ U, Below B V U → U.cell? ⟨b2, o2, none⟩ = some (.int .i64 x.kind) ∧ U.cell? ⟨b2, o2 + 1, none⟩ = some (.string x.name) ∧ U.cell? ⟨b2, o2 + 2, none⟩ = some (.slice a1 x.assigns.length c1) ∧ U.cell? ⟨b2, o2 + 3, none⟩ = some (.slice a2 x.words.length c2) ∧ U.cell? ⟨b2, o2 + 4, none⟩ = some (.slice a3 x.redirs.length c3) ∧ U.cell? ⟨b2, o2 + 5, none⟩ = some (.slice a4 x.lists.length c4) ∧ U.cell? ⟨b2, o2 + 6, none⟩ = some (.slice a5 x.arms.length c5)) := Lib.hid fun U hU =>
        ⟨(hU.cell hbB2).trans (hce2 0 _ rfl), (hU.cell hbB2).trans (hce2 1 _ rfl), (hU.cell hbB2).trans (hce2 2 _ rfl), (hU.cell hbB2).trans (hce2 3 _ rfl), (hU.cell hbB2).trans (hce2 4 _ rfl), (hU.cell hbB2).trans (hce2 5 _ rfl), (hU.cell hbB2).trans (hce2 6 _ rfl)⟩
      clear hy hce hC hyp hce2 hyx hye hm hny hdd
      by_cases h0 : k = 0
      · subst h0
        have hi0 : ∀ w' : World, (Instr.indexAt 34 (.slice a n cap) (.int .i64 0)).run Tryd.prog w' = .ok (.pointer (some ⟨b1, o, none⟩)) w' := fun w' => hi w'
        have HLX2 := HLX
        have CN := Lib.hid (HSH.out.node HWN2.out (Below.refl _ _) HH.out HC.out HFY.out (by have := HLX2.out; simpa using this))
        go_wp2_with fail
        refine CN.out.mono ?_
        rintro e w2 ⟨rfl, hs2⟩
        have HS2 := Lib.hid hs2
        clear hs2
        go_wp2_with fail
        go_roundw
        case rel => exact ⟨0 + 1, by omega, by go_num, by rw [HSX1.out]; simpa using HS2.out⟩
        case measure => simp [intOf]; omega
      · have hk0 : decide ((0 : Int) < (k : Int)) = true := by simp; omega
        have hk1 : decide (0 < k) = true := by simp; omega
        rw [hk1] at HLX HSX1
        have CS := Lib.hid (HSH.out.str (Below.refl _ _) sign (by
          have h1 := Nat.le_trans (HG.out (putS s (L sign)) x) HLX.out
          simpa [putS, L_size] using h1))
        go_wp2_with fail
        refine CS.out.mono ?_
        rintro e w2 ⟨rfl, hs2⟩
        obtain ⟨g0, g1, g2, g3, g4, g5, g6⟩ := HCE.out w2 hs2.low
        have CN := Lib.hid (hs2.node HWN2.out (Below.refl _ _) HH.out HC.out HFY.out HLX.out)
        clear hs2
        go_wp2_with fail
        refine CN.out.mono ?_
        rintro e w3 ⟨rfl, hs3⟩
        have HS3 := Lib.hid hs3
        clear hs3
        go_wp2_with fail
        go_roundw
        case rel => exact ⟨k + 1, by omega, by go_num, by rw [HSX1.out]; exact HS3.out⟩
        case measure => simp [intOf]; omega
    · have HTK : Hid (l.take k = l) := Lib.hid (List.take_of_length_le (by rw [HN.out]; omega))
      go_wp2_with fail
      go_end0
      refine ⟨rfl, ?_⟩
      have h1 := HSH.out
      rwa [← HS.out, HTK.out] at h1
end Go.Proofs.YtnackmnoldkihaaDoor
namespace Go.Proofs.YtnackmnoldkihaaDoor
open Go.RowKit

/-- A call that shows more leaves the boxes. -/
theorem Shown.twice {V W X : World} {B b : Nat} {dv : Value} {s s' : St} {f : FuncId} {args : Array Value} {v : Ending} (h : Shown V B b dv s W) (hb : Below W.heap.size W X) (hc : ∀ dv1, Shown X B b dv1 s X → Calls Tryd.prog f args X fun e w' => e = v ∧ Shown X B b dv1 s' w') :
    Calls Tryd.prog f args X fun e w' => e = v ∧ Shown V B b dv s' w' ∧ Keeps X w' := by
  obtain ⟨dv1, ds1, h1, h2, h3⟩ := shown_st (h.later hb)
  have hst := Shown.start h1
  rw [h2] at hst
  exact (hc dv1 hst).mono fun e w' ⟨g1, g2⟩ => ⟨g1, g2.after h3, g2.keeps h1⟩
theorem Shown.line2 {V W X : World} {B b : Nat} {dv : Value} {s : St} (h : Shown V B b dv s W) (hb : Below W.heap.size W X) (hlen : (lineS s).1.length ≤ lim) :
    Calls Tryd.prog 15 #[.pointer (some ⟨b, 0, none⟩)] X fun e w' => e = .returned (.tuple #[]) ∧ Shown V B b dv (lineS s) w' ∧ Keeps X w' :=
  h.twice hb fun _ h1 => h1.line (Below.refl _ _) hlen
theorem Shown.block2 {d : Nat} {wl : St → List Nd → St} {fl : List Nd → Bool} (hw : ListW d wl fl) (hg : Grow2 wl) {V W X : World} {B b : Nat} {dv : Value} {s : St} (h : Shown V B b dv s W) (hb : Below W.heap.size W X) (hH : Hd V B) (head : ByteArray) {l : List Nd} {v : Value} (hl : NdsIn V B d l v) (hf : fl l = true) (hlen : (blockS wl s (L head) l).1.length ≤ lim) :
    Calls Tryd.prog 45 #[.pointer (some ⟨b, 0, none⟩), .string head, v] X fun e w' => e = .returned (.tuple #[]) ∧ Shown V B b dv (blockS wl s (L head) l) w' ∧ Keeps X w' := by
  have hx := h.later hb
  exact h.twice hb fun _ h1 => wblock_any hw hg h1 (Below.refl _ _) (hH.below hx.low) head (hl.below hx.low) hf hlen
set_option maxHeartbeats 4000000 in
set_option maxRecDepth 100000 in
theorem warms_any {d : Nat} {wd : St → List Pt → St} {fw : List Pt → Bool} (hwd : WordW d wd fw) (hg : Grow2 wd) {wl : St → List Nd → St} {fl : List Nd → Bool} (hwl : ListW d wl fl) (hgl : Grow2 wl) {W : World} {B b : Nat} {dv : Value} {out : List UInt8} {ds : List DocV} (x : Nd) (c : List Value) (h : Wr W B b dv out ds) (hH : Hd W B) (hc : NdC W B d x c) (hw0 : 0 < x.words.length) (hfw : x.words.all fw = true) (hfa : x.arms.all (fun a => a.words.all fw && fl a.body) = true) (hlen : (caseS wd wl (stOf out ds) x).1.length ≤ lim) :
    Calls Tryd.prog 46 #[.pointer (some ⟨b, 0, none⟩), .agg c.toArray] W fun e w' => e = .returned (.tuple #[]) ∧ Shown W B b dv (caseS wd wl (stOf out ds) x) w' := by
  obtain ⟨a1, c1, a2, c2, a3, c3, a4, c4, a5, c5, rfl, hxz, ⟨hn1, hn2, hn3, hn4, hn5⟩, _, hWd, _, _, hAr⟩ := hc.open
  obtain ⟨y0w, bw, ow, aw, cw, ⟨ry, hyw⟩, hiw, hbw, hcw⟩ := hWd.first hw0
  obtain ⟨hcw0, hyp0⟩ := hcw
  obtain ⟨n1, hl1⟩ : ∃ n, x.assigns.length = n := ⟨_, rfl⟩
  obtain ⟨n2, hl2⟩ : ∃ n, x.words.length = n := ⟨_, rfl⟩
  obtain ⟨n3, hl3⟩ : ∃ n, x.redirs.length = n := ⟨_, rfl⟩
  obtain ⟨n4, hl4⟩ : ∃ n, x.lists.length = n := ⟨_, rfl⟩
  obtain ⟨n5, hl5⟩ : ∃ n, x.arms.length = n := ⟨_, rfl⟩
  rw [hl2] at hn2 hw0 hiw
  rw [hl5] at hn5 hAr
  rw [hl1, hl2, hl3, hl4, hl5]
  have HA := Lib.hid hAr
  have HYP0 := Lib.hid hyp0
  have HH := Lib.hid hH
  have HWD := Lib.hid hwd
  have HWL := Lib.hid hwl
  have HG := Lib.hid hg
  have HGL := Lib.hid hgl
  have HW := Lib.hid h
  have HFY0 : Hid (fw y0w = true) := Lib.hid (List.all_eq_true.1 hfw y0w (by rw [hyw]; simp))
  have HFA := Lib.hid (List.all_eq_true.1 hfa)
  have HN := Lib.hid hl5
  obtain ⟨s0, hs0⟩ : ∃ s, stOf out ds = s := ⟨_, rfl⟩
  rw [hs0] at hlen ⊢
  have HS0 := Lib.hid hs0
  have HGA : Hid (Grow2 (armS wd wl)) := Lib.hid (armS_grow hg hgl)
  obtain ⟨s1, hs1⟩ : ∃ s, lineS (putS (wd (putS s0 [99, 97, 115, 101, 32]) y0w) [32, 105, 110]) = s := ⟨_, rfl⟩
  have hfst : firstW x = y0w := by rw [firstW, hyw]
  have HR : Hid (caseS wd wl s0 x = putS (x.arms.foldl (armS wd wl) s1) [101, 115, 97, 99]) := Lib.hid (by rw [caseS, hfst, hs1])
  rw [HR.out] at hlen ⊢
  have HLEN := Lib.hid hlen
  have HLA : Hid (∀ k, ((x.arms.take k).foldl (armS wd wl) s1).1.length ≤ lim) := Lib.hid fun k => Nat.le_trans (fold_take_le HGA.out _ _ k) (Nat.le_trans (putS_grow _ _) hlen)
  have HL1 : Hid (s1.1.length ≤ lim) := Lib.hid (HLA.out 0)
  have HL2 : Hid ((putS (wd (putS s0 [99, 97, 115, 101, 32]) y0w) [32, 105, 110]).1.length ≤ lim) := Lib.hid (Nat.le_trans (by rw [← hs1]; exact lineS_grow _) HL1.out)
  have HL3 : Hid ((wd (putS s0 [99, 97, 115, 101, 32]) y0w).1.length ≤ lim) := Lib.hid (Nat.le_trans (putS_grow _ _) HL2.out)
  have HL4 : Hid ((putS s0 [99, 97, 115, 101, 32]).1.length ≤ lim) := Lib.hid (Nat.le_trans (hg _ _) HL3.out)
  have HS1 := Lib.hid hs1
  have hle := h.le
  clear hl1 hl2 hl3 hl4 hl5 hWd hAr hH hwd hwl hg hgl h hfa hfw hlen hc hs0 hs1 hyp0 hfst hyw
  obtain ⟨nc, hnc⟩ : ∃ cs : Array Value, cs = #[.int .i64 x.kind, .string x.name, .slice a1 n1 c1, .slice a2 n2 c2, .slice a3 n3 c3, .slice a4 n4 c4, .slice a5 n5 c5] := ⟨_, rfl⟩
  have HNC := Lib.hid hnc
  obtain ⟨U, hU⟩ : ∃ U, U = W.alloc (.cells nc 37) := ⟨_, rfl⟩
  have HB0 : Hid (Blk U W.heap.size 37 nc) := Lib.hid (by rw [hU]; exact Blk.at rfl)
  have HBL : Hid (Below W.heap.size W U) := Lib.hid (by rw [hU]; exact (Below.refl _ _).alloc (Nat.le_refl _) _)
  rw [hnc] at hU
  have HUE := Lib.hid hU
  clear hU hnc
  have HSU : Hid (Shown W B b dv s0 U) := Lib.hid (by have := (Shown.start HW.out).later HBL.out; rwa [HS0.out] at this)
  have C1 := Lib.hid (HSU.out.str2 (Below.refl _ _) ⟨#[99, 97, 115, 101, 32]⟩ (by have := HL4.out; simpa [putS] using this))
  go_enter Tryd.func46, Tryd.ntmps46
  go_wp2_with fail
  rw [← HUE.out]
  refine C1.out.mono ?_
  rintro e w1 ⟨rfl, hs1, hk1⟩
  have HB1 := Lib.hid (hk1 _ _ _ HB0.out (by decide) (by decide) (by decide))
  have HBN := Lib.hid (HNC.out ▸ HB1.out)
  have e0 := (hs1.low.cell hbw).trans hcw0
  have C2 := Lib.hid (hs1.word2 HWD.out (Below.refl _ _) HH.out HYP0.out HFY0.out HL3.out)
  clear hs1 hk1 C1
  have y0 := HBN.out.cell 0
  have y1 := HBN.out.cell 1
  have y2 := HBN.out.cell 2
  have y3 := HBN.out.cell 3
  have y4 := HBN.out.cell 4
  have y5 := HBN.out.cell 5
  have y6 := HBN.out.cell 6
  have yl := HBN.out.lt
  simp at y0 y1 y2 y3 y4 y5 y6
  go_wp2_with fail
  refine C2.out.mono ?_
  rintro e w2 ⟨rfl, hs2, hk2⟩
  have HB2 := Lib.hid (hk2 _ _ _ HB1.out (by decide) (by decide) (by decide))
  have C3 := Lib.hid (hs2.str2 (Below.refl _ _) ⟨#[32, 105, 110]⟩ (by have := HL2.out; simpa [putS] using this))
  clear hs2 hk2 C2 y0 y1 y2 y3 y4 y5 y6 yl HBN e0
  go_wp2_with fail
  refine C3.out.mono ?_
  rintro e w3 ⟨rfl, hs3, hk3⟩
  have HB3 := Lib.hid (hk3 _ _ _ HB2.out (by decide) (by decide) (by decide))
  have C4 := Lib.hid (hs3.line2 (Below.refl _ _) (by have := HL1.out; rw [← HS1.out] at this; exact this))
  clear hs3 hk3 C3
  go_wp2_with fail
  refine C4.out.mono ?_
  rintro e w4 ⟨rfl, hs4, hk4⟩
  have HB4 := Lib.hid (hk4 _ _ _ HB3.out (by decide) (by decide) (by decide))
  have HS4 : Hid (Shown W B b dv s1 w4) := Lib.hid (by rw [← HS1.out]; exact hs4)
  clear hs4 hk4 C4
  have HBN := Lib.hid (HNC.out ▸ HB4.out)
  have y0 := HBN.out.cell 0
  have y1 := HBN.out.cell 1
  have y2 := HBN.out.cell 2
  have y3 := HBN.out.cell 3
  have y4 := HBN.out.cell 4
  have y5 := HBN.out.cell 5
  have y6 := HBN.out.cell 6
  have yl := HBN.out.lt
  simp at y0 y1 y2 y3 y4 y5 y6
  go_wp2_with fail
  clear y0 y1 y2 y3 y4 y5 y6 yl HBN
  go_loopw [27] (fun i U => ∃ k : Nat, k ≤ n5 ∧ i = .int .i64 k ∧ Shown W B b dv ((x.arms.take k).foldl (armS wd wl) s1) U ∧ Blk U W.heap.size 37 nc) (fun i _ => n5 - (intOf i).toNat)
  case atStart => exact ⟨0, Nat.zero_le _, rfl, HS4.out, HB4.out⟩
  case round =>
    obtain ⟨k, hk, rfl, hsh, hbk⟩ := hrel
    obtain ⟨wo, rfl⟩ : ∃ wo : World, wo = wr := ⟨_, rfl⟩
    obtain ⟨s, hs⟩ : ∃ s, (x.arms.take k).foldl (armS wd wl) s1 = s := ⟨_, rfl⟩
    rw [hs] at hsh
    have HS := Lib.hid hs
    have HSH := Lib.hid hsh
    have HBK := Lib.hid hbk
    have hlow := hsh.low
    have hleW := hsh.le
    clear hsh hs hbk HB4 HS4
    by_cases hlt : k < n5
    · obtain ⟨y, hy⟩ : ∃ y, x.arms[k]? = .some y := ⟨_, List.getElem?_eq_getElem (by rw [HN.out]; exact hlt)⟩
      obtain ⟨b1, o, c, hi, hbB, hce, hC, _⟩ := HA.out.at 35 56 Tryd.underlying35 (by kernel_rfl) hy
      obtain ⟨a6, c6, a7, c7, rfl, ⟨hz6, hz7⟩, hyw, hyb⟩ := hC.open
      have HSX : Hid ((x.arms.take (k + 1)).foldl (armS wd wl) s1 = armS wd wl s y) := Lib.hid (by rw [fold_take hy, HS.out])
      have hm := List.mem_of_getElem? hy
      have hf := HFA.out y hm
      rw [Bool.and_eq_true] at hf
      have HFW := Lib.hid (List.all_eq_true.1 hf.1)
      have HFB : Hid (fl y.body = true) := Lib.hid hf.2
      have HYB := Lib.hid hyb
      obtain ⟨n6, hn6⟩ : ∃ n, y.words.length = n := ⟨_, rfl⟩
      obtain ⟨n7, hn7⟩ : ∃ n, y.body.length = n := ⟨_, rfl⟩
      have e0 := (hlow.cell hbB).trans (hce 0 _ rfl)
      have e1 := (hlow.cell hbB).trans (hce 1 _ rfl)
      have hbB' := Nat.lt_of_lt_of_le hbB hleW
      rw [Nat.add_zero] at e0
      rw [hn6] at e0 hyw hz6
      rw [hn7] at e1 HYB hz7
      have HYW := Lib.hid hyw
      have N6 := Lib.hid hn6
      obtain ⟨sa, hsa⟩ : ∃ s', barsS wd (putS s [40]) y.words false = s' := ⟨_, rfl⟩
      obtain ⟨sb, hsb⟩ : ∃ s', blockS wl sa [41] y.body = s' := ⟨_, rfl⟩
      have HSY : Hid (armS wd wl s y = lineS (putS sb [59, 59])) := Lib.hid (by rw [armS, hsa, hsb])
      have HSA := Lib.hid hsa
      have HSB := Lib.hid hsb
      have HZ0 : Hid ((lineS (putS sb [59, 59])).1.length ≤ lim) := Lib.hid (by have := HLA.out (k + 1); rwa [HSX.out, HSY.out] at this)
      have HZ1 : Hid ((putS sb [59, 59]).1.length ≤ lim) := Lib.hid (Nat.le_trans (lineS_grow _) HZ0.out)
      have HZ2 : Hid (sb.1.length ≤ lim) := Lib.hid (Nat.le_trans (putS_grow _ _) HZ1.out)
      have HZ3 : Hid (sa.1.length ≤ lim) := Lib.hid (Nat.le_trans (by rw [← hsb]; exact blockS_grow HGL.out _ _ _) HZ2.out)
      have HZ4 : Hid (∀ j, (barsS wd (putS s [40]) (y.words.take j) false).1.length ≤ lim) := Lib.hid fun j => Nat.le_trans (bars_take_le HG.out _ _ _ j) (by rw [hsa]; exact HZ3.out)
      obtain ⟨X, hX⟩ : ∃ X, X = wo.alloc (.cells #[.slice a6 n6 c6, .slice a7 n7 c7] 56) := ⟨_, rfl⟩
      have HBX : Hid (Below wo.heap.size wo X) := Lib.hid (by rw [hX]; exact (Below.refl _ _).alloc (Nat.le_refl _) _)
      have HKX : Hid (Blk X wo.heap.size 56 #[.slice a6 n6 c6, .slice a7 n7 c7]) := Lib.hid (by rw [hX]; exact Blk.new _ _ _)
      have HBKX := Lib.hid (HBK.out.below HBX.out HBK.out.lt)
      have HXE := Lib.hid hX
      have CB := Lib.hid (HSH.out.byte2 HBX.out 40 (by have := HZ4.out 0; simpa [barsS, putS] using this))
      have HBN := Lib.hid (HNC.out ▸ HBK.out)
      have y0 := HBN.out.cell 0
      have y1 := HBN.out.cell 1
      have y2 := HBN.out.cell 2
      have y3 := HBN.out.cell 3
      have y4 := HBN.out.cell 4
      have y5 := HBN.out.cell 5
      have y6 := HBN.out.cell 6
      have yl := HBN.out.lt
      simp at y0 y1 y2 y3 y4 y5 y6
      clear hy hce hC hX hyw hyb hm hf hn6 hn7 hsa hsb
      go_wp2_with fail
      rw [← HXE.out]
      refine CB.out.mono ?_
      rintro e w5 ⟨rfl, hs5, hk5⟩
      have HB5 := Lib.hid (hk5 _ _ _ HBKX.out (by decide) (by decide) (by decide))
      have HK5 := Lib.hid (hk5 _ _ _ HKX.out (by decide) (by decide) (by decide))
      have HS5 := Lib.hid hs5
      clear hs5 hk5 CB y0 y1 y2 y3 y4 y5 y6 yl HBN
      have z0 := HK5.out.cell 0
      have z1 := HK5.out.cell 1
      have zl := HK5.out.lt
      simp at z0 z1
      go_wp2_with fail
      clear z0 z1 zl
      go_loopw [38] (fun i U => ∃ j : Nat, j ≤ n6 ∧ i = .int .i64 j ∧ Shown W B b dv (barsS wd (putS s [40]) (y.words.take j) false) U ∧ Blk U W.heap.size 37 nc ∧ Blk U wo.heap.size 56 #[.slice a6 n6 c6, .slice a7 n7 c7]) (fun i _ => n6 - (intOf i).toNat)
      case atStart => exact ⟨0, Nat.zero_le _, rfl, HS5.out, HB5.out, HK5.out⟩
      case round =>
        obtain ⟨j, hj, rfl, hsh, hbk, hkk⟩ := hrel
        obtain ⟨sj, hsj⟩ : ∃ s', barsS wd (putS s [40]) (y.words.take j) false = s' := ⟨_, rfl⟩
        rw [hsj] at hsh
        have HSJ := Lib.hid hsj
        have HSH2 := Lib.hid hsh
        have HB6 := Lib.hid hbk
        have HK6 := Lib.hid hkk
        have hlow2 := hsh.low
        clear hsh hbk hkk hsj HB5 HK5 HS5
        have z0 := HK6.out.cell 0
        have z1 := HK6.out.cell 1
        have zl := HK6.out.lt
        simp at z0 z1
        by_cases hlt2 : j < n6
        · obtain ⟨p, hp⟩ : ∃ p, y.words[j]? = .some p := ⟨_, List.getElem?_eq_getElem (by rw [N6.out]; exact hlt2)⟩
          obtain ⟨b2, o2, c, hi2, hbB2, hce2, ⟨pv, rfl, hpp⟩, _⟩ := HYW.out.at 29 26 Tryd.underlying29 (by kernel_rfl) hp
          obtain ⟨a8, c8, rfl, _⟩ := hpp.shape
          have HP1 : Hid (barsS wd (putS s [40]) (y.words.take (j + 1)) false = wd (bif decide (0 < j) then putS sj [32, 124, 32] else sj) p) := Lib.hid (by
            rw [take_snoc' hp, bars_snoc, HSJ.out, take_empty (by rw [N6.out]; exact hlt2), Bool.false_or])
          have HLP := Lib.hid (HZ4.out (j + 1))
          rw [HP1.out] at HLP
          have HFP : Hid (fw p = true) := Lib.hid (HFW.out p (List.mem_of_getElem? hp))
          have HPP := Lib.hid hpp
          have q0 := (hlow2.cell hbB2).trans (hce2 0 _ rfl)
          rw [Nat.add_zero] at q0
          clear hp hpp
          by_cases h0 : j = 0
          · subst h0
            have hi0 : ∀ w' : World, (Instr.indexAt 29 (.slice a6 n6 c6) (.int .i64 0)).run Tryd.prog w' = .ok (.pointer (some ⟨b2, o2, none⟩)) w' := fun w' => hi2 w'
            have CW := Lib.hid (HSH2.out.word2 HWD.out (Below.refl _ _) HH.out HPP.out HFP.out (by have := HLP.out; simpa using this))
            go_wp2_with fail
            refine CW.out.mono ?_
            rintro e w8 ⟨rfl, hs8, hk8⟩
            have HS8 := Lib.hid hs8
            have HB8 := Lib.hid (hk8 _ _ _ HB6.out (by decide) (by decide) (by decide))
            have HK8 := Lib.hid (hk8 _ _ _ HK6.out (by decide) (by decide) (by decide))
            clear hs8 hk8
            go_wp2_with fail
            go_roundw
            case rel => exact ⟨0 + 1, by omega, by go_num, by rw [HP1.out]; simpa using HS8.out, HB8.out, HK8.out⟩
            case measure => simp [intOf]; omega
          · have hk0 : decide ((0 : Int) < (j : Int)) = true := by simp; omega
            have hk1 : decide (0 < j) = true := by simp; omega
            rw [hk1] at HLP HP1
            have CS := Lib.hid (HSH2.out.str2 (Below.refl _ _) ⟨#[32, 124, 32]⟩ (by
              have h1 := Nat.le_trans (HG.out (putS sj [32, 124, 32]) p) HLP.out
              simpa [putS] using h1))
            go_wp2_with fail
            refine CS.out.mono ?_
            rintro e w7 ⟨rfl, hs7, hk7⟩
            have HB7 := Lib.hid (hk7 _ _ _ HB6.out (by decide) (by decide) (by decide))
            have HK7 := Lib.hid (hk7 _ _ _ HK6.out (by decide) (by decide) (by decide))
            have q0 := (hs7.low.cell hbB2).trans (hce2 0 _ rfl)
            rw [Nat.add_zero] at q0
            have CW := Lib.hid (hs7.word2 HWD.out (Below.refl _ _) HH.out HPP.out HFP.out HLP.out)
            clear hs7 hk7
            go_wp2_with fail
            refine CW.out.mono ?_
            rintro e w8 ⟨rfl, hs8, hk8⟩
            have HS8 := Lib.hid hs8
            have HB8 := Lib.hid (hk8 _ _ _ HB7.out (by decide) (by decide) (by decide))
            have HK8 := Lib.hid (hk8 _ _ _ HK7.out (by decide) (by decide) (by decide))
            clear hs8 hk8
            go_wp2_with fail
            go_roundw
            case rel => exact ⟨j + 1, by omega, by go_num, by rw [HP1.out]; exact HS8.out, HB8.out, HK8.out⟩
            case measure => simp [intOf]; omega
        · have HTK : Hid (y.words.take j = y.words) := Lib.hid (List.take_of_length_le (by rw [N6.out]; omega))
          have HSE : Hid (sj = sa) := Lib.hid (by rw [← HSJ.out, HTK.out]; exact HSA.out)
          rw [HSE.out] at HSH2
          have CK := Lib.hid (HSH2.out.block2 HWL.out HGL.out (Below.refl _ _) HH.out ⟨#[41]⟩ HYB.out HFB.out (by have := HZ2.out; rw [← HSB.out] at this; exact this))
          go_wp2_with fail
          refine CK.out.mono ?_
          rintro e w7 ⟨rfl, hs7, hk7⟩
          have HB7 := Lib.hid (hk7 _ _ _ HB6.out (by decide) (by decide) (by decide))
          have hs7' : Shown W B b dv sb w7 := by rw [← HSB.out]; exact hs7
          have CS := Lib.hid (hs7'.str2 (Below.refl _ _) ⟨#[59, 59]⟩ (by have := HZ1.out; simpa [putS] using this))
          clear hs7 hs7' hk7 z0 z1 zl
          go_wp2_with fail
          refine CS.out.mono ?_
          rintro e w8 ⟨rfl, hs8, hk8⟩
          have HB8 := Lib.hid (hk8 _ _ _ HB7.out (by decide) (by decide) (by decide))
          have CL := Lib.hid (hs8.line2 (Below.refl _ _) HZ0.out)
          clear hs8 hk8
          go_wp2_with fail
          refine CL.out.mono ?_
          rintro e w9 ⟨rfl, hs9, hk9⟩
          have HB9 := Lib.hid (hk9 _ _ _ HB8.out (by decide) (by decide) (by decide))
          have HS9 := Lib.hid hs9
          clear hs9 hk9
          go_wp2_with fail
          go_roundw
          case rel => exact ⟨k + 1, by omega, by go_num, by rw [HSX.out, HSY.out]; exact HS9.out, HB9.out⟩
          case measure => simp [intOf]; omega
    · have HTK : Hid (x.arms.take k = x.arms) := Lib.hid (List.take_of_length_le (by rw [HN.out]; omega))
      rw [HTK.out] at HS
      have CE := Lib.hid (HSH.out.str (Below.refl _ _) ⟨#[101, 115, 97, 99]⟩ (by have := HLEN.out; rw [HS.out] at this; simpa [putS] using this))
      have HBN := Lib.hid (HNC.out ▸ HBK.out)
      have y0 := HBN.out.cell 0
      have y1 := HBN.out.cell 1
      have y2 := HBN.out.cell 2
      have y3 := HBN.out.cell 3
      have y4 := HBN.out.cell 4
      have y5 := HBN.out.cell 5
      have y6 := HBN.out.cell 6
      have yl := HBN.out.lt
      simp at y0 y1 y2 y3 y4 y5 y6
      go_wp2_with fail
      refine CE.out.mono ?_
      rintro e w5 ⟨rfl, hs5⟩
      have HS5 := Lib.hid hs5
      clear hs5
      go_wp2_with fail
      go_end0
      exact ⟨rfl, by rw [HS.out]; exact HS5.out⟩
end Go.Proofs.YtnackmnoldkihaaDoor
