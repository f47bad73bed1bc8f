/-
  append to a slice of the call's own, at a step of a region that draws its order.
-/
import Derived.Test.YtnackmnoldkihaaDoorQB7
import Derived.Deep.RegionHeld3
import Derived.StillTailTactics
import Derived.Lib.SplitLaws
import Derived.Lib.Replace
import Derived.Defers
import Derived.Test.YtnackmnoldkihaaDoorQB3
/-
  What is written, in plain words: a text and the here-documents that come.
-/
namespace Go.Proofs.YtnackmnoldkihaaDoor
open Go.RowKit

/-- What has been written; the here-documents that come. -/
abbrev St := List UInt8 × List Rd
def lim : Nat := 1099511627776
def putS (s : St) (t : List UInt8) : St := (s.1 ++ t, s.2)
/-- A here-document, its tag behind it. -/
def docW (r : Rd) : List UInt8 := docL r.word ++ L r.tag ++ [10]
def lineS (s : St) : St := (s.1 ++ 10 :: s.2.flatMap docW, [])
/-- A text between single quotes. -/
def quoL (l : List UInt8) : List UInt8 := 39 :: ((l.flatMap fun c => if c = 39 then [39, 92, 39, 39] else [c]) ++ [39])
def paramS (ww : St → List Pt → St) (s : St) (p : Pt) : St :=
  bif (L p.op).isEmpty then putS s ([36, 123] ++ L p.text ++ [125]) else bif L p.op == [108, 101, 110] then putS s ([36, 123, 35] ++ L p.text ++ [125]) else putS (ww (putS s ([36, 123] ++ L p.text ++ L p.op)) p.word) [125]
def coreS (ww : St → List Pt → St) (wl : St → List Nd → St) (s : St) (p : Pt) : St :=
  bif p.kind == 2 then paramS ww s p else bif p.kind == 3 then ((wl (s.1 ++ [36, 40, 10], []) p.body).1 ++ [41], s.2) else putS s ([36, 40, 40] ++ L p.text ++ [41, 41])
def partS (ww : St → List Pt → St) (wl : St → List Nd → St) (s : St) (p : Pt) : St :=
  bif p.kind == 1 then putS s (bif p.quoted then quoL (L p.text) else L p.text) else bif p.quoted then putS (coreS ww wl (putS s [34]) p) [34] else coreS ww wl s p
def nextS (s : St) (blank : Bool) : St := bif blank then putS s [32] else s
/-- A number of one digit. -/
def fdL (n : Int) : List UInt8 := [UInt8.ofNat (48 + n.toNat)]
def redirS (wd : St → List Pt → St) (s : St) (r : Rd) : St :=
  bif L r.op == [60, 60] then ((putS (putS s (fdL r.fd ++ L r.op)) (bif litrB r.word then 39 :: (L r.tag ++ [39]) else L r.tag)).1, s.2 ++ [r]) else wd (putS s (fdL r.fd ++ L r.op)) r.word
def redirsS (wd : St → List Pt → St) : St → List Rd → Bool → St
  | s, [], _ => s
  | s, r :: l, blank => redirsS wd (redirS wd (nextS s blank) r) l true
def assignsS (wd : St → List Pt → St) : St → List As → Bool → St
  | s, [], _ => s
  | s, a :: l, blank => assignsS wd (wd (putS (nextS s blank) (L a.name ++ [61])) a.word) l true
def wordsS (wd : St → List Pt → St) : St → List (List Pt) → Bool → St
  | s, [], _ => s
  | s, y :: l, blank => wordsS wd (wd (nextS s blank) y) l true
def simpleS (wd : St → List Pt → St) (s : St) (x : Nd) : St :=
  redirsS wd (wordsS wd (assignsS wd s x.assigns false) x.words (!x.assigns.isEmpty)) x.redirs (!(x.assigns.isEmpty && x.words.isEmpty))
def blockS (ls : St → List Nd → St) (s : St) (head : List UInt8) (l : List Nd) : St := ls (lineS (putS s head)) l
def oneS (nd : St → Nd → St) (s : St) (l : List Nd) : St := match l with | [] => s | x :: _ => nd s x
def joinS (nd : St → Nd → St) (sign : List UInt8) : St → List (List Nd) → Bool → St
  | s, [], _ => s
  | s, y :: l, more => joinS nd sign (oneS nd (bif more then putS s sign else s) y) l true
def barsS (wd : St → List Pt → St) : St → List (List Pt) → Bool → St
  | s, [], _ => s
  | s, y :: l, more => barsS wd (wd (bif more then putS s [32, 124, 32] else s) y) l true
def armS (wd : St → List Pt → St) (ls : St → List Nd → St) (s : St) (a : Ar) : St :=
  lineS (putS (blockS ls (barsS wd (putS s [40]) a.words false) [41] a.body) [59, 59])
def firstW (x : Nd) : List Pt := match x.words with | [] => [] | y :: _ => y
def listAt (x : Nd) (k : Nat) : List Nd := x.lists.getD k []
def caseS (wd : St → List Pt → St) (ls : St → List Nd → St) (s : St) (x : Nd) : St :=
  putS (x.arms.foldl (armS wd ls) (lineS (putS (wd (putS s [99, 97, 115, 101, 32]) (firstW x)) [32, 105, 110]))) [101, 115, 97, 99]
def compS (wd : St → List Pt → St) (ls : St → List Nd → St) (s : St) (x : Nd) : St :=
  bif x.kind == 6 then putS (bif decide (2 < x.lists.length) then blockS ls (blockS ls (blockS ls s [105, 102] (listAt x 0)) [116, 104, 101, 110] (listAt x 1)) [101, 108, 115, 101] (listAt x 2) else blockS ls (blockS ls s [105, 102] (listAt x 0)) [116, 104, 101, 110] (listAt x 1)) [102, 105] else
  bif x.kind == 7 then putS (blockS ls (blockS ls s [119, 104, 105, 108, 101] (listAt x 0)) [100, 111] (listAt x 1)) [100, 111, 110, 101] else
  bif x.kind == 8 then putS (blockS ls (blockS ls s [117, 110, 116, 105, 108] (listAt x 0)) [100, 111] (listAt x 1)) [100, 111, 110, 101] else
  bif x.kind == 9 then putS (blockS ls (lineS (wordsS wd (putS s ([102, 111, 114, 32] ++ L x.name ++ [32, 105, 110])) x.words true)) [100, 111] (listAt x 0)) [100, 111, 110, 101] else
  bif x.kind == 10 then caseS wd ls s x else
  bif x.kind == 12 then putS (blockS ls s [40] (listAt x 0)) [41] else putS (blockS ls s [123] (listAt x 0)) [125]
def bodyS (wd : St → List Pt → St) (ls : St → List Nd → St) (nd : St → Nd → St) (s : St) (x : Nd) : St :=
  bif x.kind == 2 then joinS nd [32, 124, 32] s x.lists false else
  bif x.kind == 3 then joinS nd [32, 38, 38, 32] s x.lists false else
  bif x.kind == 4 then joinS nd [32, 124, 124, 32] s x.lists false else
  bif x.kind == 5 then oneS nd (putS s [33, 32]) (listAt x 0) else
  bif x.kind == 11 then oneS nd (putS s (L x.name ++ [40, 41, 32])) (listAt x 0) else compS wd ls s x
def nodeS (wd : St → List Pt → St) (ls : St → List Nd → St) (nd : St → Nd → St) (s : St) (x : Nd) : St :=
  bif x.kind == 1 then simpleS wd s x else redirsS wd (bodyS wd ls nd s x) x.redirs true
/-- word, list, node, at every depth. -/
def levS : Nat → (St → List Pt → St) × (St → List Nd → St) × (St → Nd → St)
  | 0 => (fun s _ => s, fun s _ => s, nodeS (fun s _ => s) (fun s _ => s) fun s _ => s)
  | d + 1 => (fun s l => l.foldl (partS (levS d).1 (levS d).2.1) s, fun s l => l.foldl (fun s x => lineS ((levS d).2.2 s x)) s,
      nodeS (fun s l => l.foldl (partS (levS d).1 (levS d).2.1) s) (fun s l => l.foldl (fun s x => lineS ((levS d).2.2 s x)) s) (levS d).2.2)
def showL (d : Nat) (l : List Nd) : List UInt8 := ((levS d).2.1 ([], []) l).1

/-! ### what a walk wants of a command -/
def partF (fw : List Pt → Bool) (fl : List Nd → Bool) (p : Pt) : Bool := fw p.word && fl p.body
def redirF (fw : List Pt → Bool) (r : Rd) : Bool := (decide (0 ≤ r.fd) && decide (r.fd ≤ 9)) && fw r.word
def shapeF (x : Nd) : Bool :=
  bif x.kind == 1 then true else bif (x.kind == 2 || x.kind == 3) || x.kind == 4 then x.lists.all (fun l => !l.isEmpty) else bif x.kind == 5 || x.kind == 11 then (match x.lists with | [] => false | y :: _ => !y.isEmpty) else
  bif x.kind == 6 || (x.kind == 7 || x.kind == 8) then decide (2 ≤ x.lists.length) else bif x.kind == 10 then !x.words.isEmpty else decide (1 ≤ x.lists.length)
def nodeF (fw : List Pt → Bool) (fl : List Nd → Bool) (fn : Nd → Bool) (x : Nd) : Bool :=
  shapeF x && (x.assigns.all (fun a => fw a.word) && (x.words.all fw && (x.redirs.all (redirF fw) && (x.lists.all fl && (x.lists.all (fun l => l.all fn) && x.arms.all (fun a => a.words.all fw && fl a.body))))))
def levF : Nat → (List Pt → Bool) × (List Nd → Bool) × (Nd → Bool)
  | 0 => (fun _ => true, fun _ => true, nodeF (fun _ => true) (fun _ => true) fun _ => true)
  | d + 1 => (fun l => l.all (partF (levF d).1 (levF d).2.1), fun l => l.all (levF d).2.2, nodeF (fun l => l.all (partF (levF d).1 (levF d).2.1)) (fun l => l.all (levF d).2.2) (levF d).2.2)

/-! ### it only grows -/
def Grow2 {α : Type} (f : St → α → St) : Prop := ∀ s x, s.1.length ≤ (f s x).1.length
theorem putS_grow (s : St) (t : List UInt8) : s.1.length ≤ (putS s t).1.length := by simp [putS]
theorem lineS_grow (s : St) : s.1.length ≤ (lineS s).1.length := by simp [lineS]
theorem fold_grow {α : Type} {f : St → α → St} (h : Grow2 f) (l : List α) (s : St) : s.1.length ≤ (l.foldl f s).1.length := by
  induction l generalizing s with
  | nil => exact Nat.le_refl _
  | cons x l ih => exact Nat.le_trans (h s x) (ih (f s x))
theorem nextS_grow (s : St) (b : Bool) : s.1.length ≤ (nextS s b).1.length := by cases b <;> simp [nextS, putS]
section
variable {wd : St → List Pt → St} {ls : St → List Nd → St} {nd : St → Nd → St} (hw : Grow2 wd) (hl : Grow2 ls) (hn : Grow2 nd)
include hw
theorem paramS_grow : Grow2 (paramS wd) := fun s p => by
  rw [paramS]
  cases (L p.op).isEmpty
  · cases L p.op == [108, 101, 110]
    · exact Nat.le_trans (putS_grow s _) (Nat.le_trans (hw _ _) (putS_grow _ _))
    · exact putS_grow s _
  · exact putS_grow s _
theorem redirS_grow : Grow2 (redirS wd) := fun s r => by
  rw [redirS]
  cases L r.op == [60, 60]
  · exact Nat.le_trans (putS_grow s _) (hw _ _)
  · exact Nat.le_trans (putS_grow s _) (putS_grow _ _)
theorem redirsS_grow (l : List Rd) : ∀ (s : St) (b : Bool), s.1.length ≤ (redirsS wd s l b).1.length := by
  induction l with
  | nil => exact fun s b => Nat.le_refl _
  | cons r l ih => exact fun s b => Nat.le_trans (nextS_grow s b) (Nat.le_trans (redirS_grow hw _ r) (ih _ _))
theorem assignsS_grow (l : List As) : ∀ (s : St) (b : Bool), s.1.length ≤ (assignsS wd s l b).1.length := by
  induction l with
  | nil => exact fun s b => Nat.le_refl _
  | cons r l ih => exact fun s b => Nat.le_trans (nextS_grow s b) (Nat.le_trans (putS_grow _ _) (Nat.le_trans (hw _ _) (ih _ _)))
theorem wordsS_grow (l : List (List Pt)) : ∀ (s : St) (b : Bool), s.1.length ≤ (wordsS wd s l b).1.length := by
  induction l with
  | nil => exact fun s b => Nat.le_refl _
  | cons r l ih => exact fun s b => Nat.le_trans (nextS_grow s b) (Nat.le_trans (hw _ _) (ih _ _))
theorem barsS_grow (l : List (List Pt)) : ∀ (s : St) (b : Bool), s.1.length ≤ (barsS wd s l b).1.length := by
  induction l with
  | nil => exact fun s b => Nat.le_refl _
  | cons r l ih => exact fun s b => Nat.le_trans (by cases b <;> simp [putS]) (Nat.le_trans (hw _ _) (ih _ _))
theorem simpleS_grow : Grow2 (simpleS wd) := fun s x =>
  Nat.le_trans (assignsS_grow hw _ _ _) (Nat.le_trans (wordsS_grow hw _ _ _) (redirsS_grow hw _ _ _))
omit hw
include hl
theorem blockS_grow (head : List UInt8) : ∀ s l, s.1.length ≤ (blockS ls s head l).1.length := fun s l => Nat.le_trans (putS_grow s head) (Nat.le_trans (lineS_grow _) (hl _ _))
include hw
theorem coreS_grow : Grow2 (coreS wd ls) := fun s p => by
  rw [coreS]
  cases p.kind == 2
  · cases p.kind == 3
    · exact putS_grow s _
    · refine Nat.le_trans ?_ (Nat.le_trans (hl (s.1 ++ [36, 40, 10], []) p.body) ?_) <;> simp
  · exact paramS_grow hw s p
theorem partS_grow : Grow2 (partS wd ls) := fun s p => by
  rw [partS]
  cases p.kind == 1
  · cases p.quoted
    · exact coreS_grow hw hl s p
    · exact Nat.le_trans (putS_grow s _) (Nat.le_trans (coreS_grow hw hl _ p) (putS_grow _ _))
  · exact putS_grow s _
theorem armS_grow : Grow2 (armS wd ls) := fun s a =>
  Nat.le_trans (putS_grow s _) (Nat.le_trans (barsS_grow hw _ _ _) (Nat.le_trans (blockS_grow hl _ _ _) (Nat.le_trans (putS_grow _ _) (lineS_grow _))))
theorem caseS_grow : Grow2 (caseS wd ls) := fun s x =>
  Nat.le_trans (putS_grow s _) (Nat.le_trans (hw _ _) (Nat.le_trans (putS_grow _ _) (Nat.le_trans (lineS_grow _) (Nat.le_trans (fold_grow (armS_grow hw hl) _ _) (putS_grow _ _)))))
theorem compS_grow : Grow2 (compS wd ls) := fun s x => by
  have b := fun h => blockS_grow (ls := ls) hl h
  rw [compS]
  cases x.kind == 6
  · cases x.kind == 7
    · cases x.kind == 8
      · cases x.kind == 9
        · cases x.kind == 10
          · cases x.kind == 12 <;> exact Nat.le_trans (b _ _ _) (putS_grow _ _)
          · exact caseS_grow hw hl s x
        · exact Nat.le_trans (putS_grow s _) (Nat.le_trans (wordsS_grow hw _ _ _) (Nat.le_trans (lineS_grow _) (Nat.le_trans (b _ _ _) (putS_grow _ _))))
      · exact Nat.le_trans (b _ _ _) (Nat.le_trans (b _ _ _) (putS_grow _ _))
    · exact Nat.le_trans (b _ _ _) (Nat.le_trans (b _ _ _) (putS_grow _ _))
  · cases decide (2 < x.lists.length)
    · exact Nat.le_trans (b _ _ _) (Nat.le_trans (b _ _ _) (putS_grow _ _))
    · exact Nat.le_trans (b _ _ _) (Nat.le_trans (b _ _ _) (Nat.le_trans (b _ _ _) (putS_grow _ _)))
omit hw hl
include hn
theorem oneS_grow : Grow2 (oneS nd) := fun s l => by
  cases l with
  | nil => exact Nat.le_refl _
  | cons x r => exact hn s x
theorem joinS_grow (sign : List UInt8) (l : List (List Nd)) : ∀ (s : St) (b : Bool), s.1.length ≤ (joinS nd sign s l b).1.length := by
  induction l with
  | nil => exact fun s b => Nat.le_refl _
  | cons r l ih => exact fun s b => Nat.le_trans (by cases b <;> simp [putS]) (Nat.le_trans (oneS_grow hn _ _) (ih _ _))
include hw hl
theorem bodyS_grow : Grow2 (bodyS wd ls nd) := fun s x => by
  rw [bodyS]
  cases x.kind == 2
  · cases x.kind == 3
    · cases x.kind == 4
      · cases x.kind == 5
        · cases x.kind == 11
          · exact compS_grow hw hl s x
          · exact Nat.le_trans (putS_grow s _) (oneS_grow hn _ _)
        · exact Nat.le_trans (putS_grow s _) (oneS_grow hn _ _)
      · exact joinS_grow hn _ _ _ _
    · exact joinS_grow hn _ _ _ _
  · exact joinS_grow hn _ _ _ _
theorem nodeS_grow : Grow2 (nodeS wd ls nd) := fun s x => by
  rw [nodeS]
  cases x.kind == 1
  · exact Nat.le_trans (bodyS_grow hw hl hn s x) (redirsS_grow hw _ _ _)
  · exact simpleS_grow hw s x
end
theorem levS_grow : ∀ d, Grow2 (levS d).1 ∧ Grow2 (levS d).2.1 ∧ Grow2 (levS d).2.2
  | 0 => ⟨fun _ _ => Nat.le_refl _, fun _ _ => Nat.le_refl _, nodeS_grow (fun _ _ => Nat.le_refl _) (fun _ _ => Nat.le_refl _) fun _ _ => Nat.le_refl _⟩
  | d + 1 => by
    obtain ⟨h1, h2, h3⟩ := levS_grow d
    have hw : Grow2 (levS (d + 1)).1 := fun s l => fold_grow (partS_grow h1 h2) l s
    have hl : Grow2 (levS (d + 1)).2.1 := fun s l => fold_grow (fun s x => Nat.le_trans (h3 s x) (lineS_grow _)) l s
    exact ⟨hw, hl, nodeS_grow hw hl h3⟩
end Go.Proofs.YtnackmnoldkihaaDoor
/-
  The writer, step by step: small laws; the walks of doc and line.
-/
namespace Go.Proofs.YtnackmnoldkihaaDoor
open Go.RowKit

/-- The library's one variable holds some number. -/
def Hd (W : World) (B : Nat) : Prop := (∃ c, W.cell? ⟨0, 0, none⟩ = some (.int .i64 c)) ∧ 0 < B
theorem Hd.below {W W' : World} {B : Nat} (h : Hd W B) (hb : Below B W W') : Hd W' B := by
  obtain ⟨⟨c, hc⟩, h0⟩ := h
  exact ⟨⟨c, (hb.cell (p := ⟨0, 0, none⟩) h0).trans hc⟩, h0⟩
def stOf (out : List UInt8) (ds : List DocV) : St := (out, ds.map (·.1))
/-- What a call of the writer leaves. -/
def Shown (W : World) (B b : Nat) (dv : Value) (s : St) (W' : World) : Prop := ∃ dv' ds', ds'.map (·.1) = s.2 ∧ Wr W' B b dv' s.1 ds' ∧ Fr W W' B b dv dv'
section
variable {W V X W' : World} {B b : Nat} {dv dv1 : Value} {out : List UInt8} {ds : List DocV}
theorem Shown.of (hw : Wr W' B b dv1 out ds) (hf : Fr W W' B b dv dv1) : Shown W B b dv (stOf out ds) W' := ⟨dv1, ds, rfl, hw, hf⟩
theorem Shown.after {s : St} (hf : Fr W V B b dv dv1) (h : Shown V B b dv1 s W') : Shown W B b dv s W' := by
  obtain ⟨dv2, ds2, h1, h2, h3⟩ := h
  exact ⟨dv2, ds2, h1, h2, hf.trans h3⟩
theorem Fr.later (hf : Fr W V B b dv dv1) (hb : Below V.heap.size V X) (hB : B ≤ V.heap.size) : Fr W X B b dv dv1 := hf.trans (Fr.of_below hb hB)
/-- A string more. -/
theorem Wr.str (h : Wr V B b dv1 out ds) (hf : Fr W V B b dv dv1) (hb : Below V.heap.size V X) (s : ByteArray) (hlen : out.length + s.size ≤ lim) :
    Calls Tryd.prog 24 #[.pointer (some ⟨b, 0, none⟩), .string s] X fun e w' => e = .returned (.tuple #[.int .i64 s.size, .nilIface]) ∧ Wr w' B b dv1 (out ++ L s) ds ∧ Fr W w' B b dv dv1 :=
  (writeS (h.below hb) s (by unfold lim at hlen; omega)).mono fun e w' ⟨h1, h2, h3⟩ => ⟨h1, h2, (hf.later hb h.le).trans h3⟩
/-- A byte more. -/
theorem Wr.byte (h : Wr V B b dv1 out ds) (hf : Fr W V B b dv dv1) (hb : Below V.heap.size V X) (c : UInt8) (hlen : out.length + 1 ≤ lim) :
    Calls Tryd.prog 27 #[.pointer (some ⟨b, 0, none⟩), .int .u8 ((c.toNat : Nat) : Int)] X fun e w' => e = .returned .nilIface ∧ Wr w' B b dv1 (out ++ [c]) ds ∧ Fr W w' B b dv dv1 :=
  (writeB (h.below hb) c (by unfold lim at hlen; omega)).mono fun e w' ⟨h1, h2, h3⟩ => ⟨h1, h2, (hf.later hb h.le).trans h3⟩
theorem Wr.block (h : Wr W B b dv out ds) : ∃ v p, W.heap[b]? = some (.cells #[p, v, dv] 49 (0, 0)) := by
  obtain ⟨_, ⟨v, p, h1, _⟩, _⟩ := h
  exact ⟨v, p, h1⟩
theorem Wr.docs (h : Wr W B b dv out ds) : W.cell? ⟨b, 2, none⟩ = some dv ∧ W.frozen? ⟨b, 2, none⟩ = false := by
  obtain ⟨v, p, h1⟩ := h.block
  exact ⟨by rw [Lib.cell_of_heap h1]; rfl, Lib.frozen_of_heap h1 2⟩
theorem Wr.shape (h : Wr W B b dv out ds) : ∃ a cap, dv = .slice a ds.length cap := own_shape h.2.2.1
theorem Wr.far (h : Wr W B b dv out ds) : ∀ k, dv.ownBlock = some k → B ≤ k ∧ k < W.heap.size := h.2.2.1.lt
theorem Wr.ne (h : Wr W B b dv out ds) : dv.ownBlock ≠ some b := by
  obtain ⟨v, p, h1⟩ := h.block
  exact row_ne h.2.2.1 h1 (by decide)
/-- A here-document that comes. -/
theorem Wr.doc_at (h : Wr W B b dv out ds) {k : Nat} {r : DocV} (hr : ds[k]? = some r) : ∃ g o a c d, (∀ w' : World, (Instr.indexAt 32 dv (.int .i64 (k : Int))).run Tryd.prog w' = .ok (.pointer (some ⟨g, o, none⟩)) w') ∧ g < W.heap.size ∧
    W.cell? ⟨g, o, none⟩ = some (.int .i64 r.1.fd) ∧ W.cell? ⟨g, o + 1, none⟩ = some (.string r.1.op) ∧ W.cell? ⟨g, o + 2, none⟩ = some (.string r.1.tag) ∧ W.cell? ⟨g, o + 3, none⟩ = some (.slice a r.1.word.length c) ∧ RdC W B d r.1 [.int .i64 r.1.fd, .string r.1.op, .string r.1.tag, .slice a r.1.word.length c] := by
  have hk := (List.getElem?_eq_some_iff.1 hr).1
  obtain ⟨d, hd⟩ := h.2.2.2.1 r (List.mem_of_getElem? hr)
  obtain ⟨a, c, e, _⟩ := hd.open
  obtain ⟨a', cap, g, off, hv, _, _, hi, hlt, hc⟩ := (Sl.of_own h.2.2.1).open (P := Tryd.prog) 32 31 Tryd.underlying32 (by kernel_rfl)
  have cell : ∀ j, j < 4 → W.cell? ⟨g, off + k * 4 + j, none⟩ = (docCells r)[j]? := fun j hj => by
    rw [Nat.add_assoc, hc (k * 4 + j) (by omega)]
    exact flat_get docCells 4 (fun _ => rfl) ds k r hr j hj
  rw [e] at cell hd
  refine ⟨g, off + k * 4, a, c, d, fun w' => by rw [hv]; exact hi k w' hk, by omega, cell 0 (by omega), cell 1 (by omega), cell 2 (by omega), cell 3 (by omega), hd⟩
/-- Other here-documents are laid into it. -/
theorem Wr.set (h : Wr W B b dv out ds) {dv' : Value} {ds' : List DocV} (hown : W.ownsRow B 31 4 dv' ds'.length (ds'.flatMap docCells)) (hdat : ∀ r ∈ ds', ∃ d, RdC W B d r.1 (docCells r)) (hds : ds'.length ≤ out.length) : Wr (W.setCell ⟨b, 2, none⟩ dv') B b dv' out ds' := by
  obtain ⟨hB, ⟨v, p, h1, h2, h3⟩, h4, h5⟩ := h
  refine ⟨hB, ⟨v, p, heap_put h1 2 _, h2, row_set h3 (row_ne h3 h1 (by decide)) 2 _⟩, row_set hown (row_ne hown h1 (by decide)) 2 _, fun r hr => ?_, hds⟩
  obtain ⟨d, hd⟩ := hdat r hr
  exact ⟨d, hd.keep fun _ _ _ _ hs => hs.below ((Below.refl B W).setCell (p := ⟨b, 2, none⟩) hB _)⟩
theorem Fr.set (hB : B ≤ b) (dv dv' : Value) (hd : ∀ k, dv'.ownBlock = some k → dv.ownBlock = some k ∨ W.heap.size ≤ k) : Fr W (W.setCell ⟨b, 2, none⟩ dv') B b dv dv' :=
  ⟨(Below.refl B W).setCell (p := ⟨b, 2, none⟩) hB _, fun k o ho hb _ _ => (Below.heap_setCell W ⟨b, 2, none⟩ dv' k hb).trans ho, hd⟩
theorem Wr.clear (h : Wr W B b dv out ds) : Wr (W.setCell ⟨b, 2, none⟩ (.slice none 0 0)) B b (.slice none 0 0) out [] ∧ Fr W (W.setCell ⟨b, 2, none⟩ (.slice none 0 0)) B b dv (.slice none 0 0) :=
  ⟨h.set (World.ownsRow_nil _ _ _ _) (by simp) (Nat.zero_le _), Fr.set h.1 dv _ (by simp [Value.ownBlock])⟩
end

set_option maxHeartbeats 1000000 in
set_option maxRecDepth 100000 in
theorem wdoc_any {W : World} {B b : Nat} {dv : Value} {out : List UInt8} {ds : List DocV} (h : Wr W B b dv out ds) (r : Rd) (d : Nat) (c : List Value) (hr : RdC W B d r c) (hlen : (out ++ docW r).length ≤ lim) :
    Calls Tryd.prog 28 #[.pointer (some ⟨b, 0, none⟩), .agg c.toArray] W fun e w' => e = .returned (.tuple #[]) ∧ Wr w' B b dv (out ++ docW r) ds ∧ Fr W w' B b dv dv := by
  have HR := Lib.hid hr
  have HW := Lib.hid h
  have hle := h.le
  obtain ⟨a1, c1, rfl, ⟨h1, h2⟩, hsum, hlw, hw⟩ := hr.open
  have hdz : (docL r.word).length ≤ 8388608 := by have := flat_docP (litrB r.word) r.word; rw [docL]; omega
  obtain ⟨s, hs⟩ : ∃ s, S (docL r.word) = s := ⟨_, rfl⟩
  have hsz : s.size ≤ 8388608 := by rw [← hs, S_size]; exact hdz
  have HS : Hid (docL r.word = L s) := Lib.hid (by rw [← hs, L_S])
  have CD : Hid (∀ V, Below W.heap.size W V → Calls Tryd.prog 49 #[.agg #[.int .i64 r.fd, .string r.op, .string r.tag, .slice a1 r.word.length c1]] V fun e w' => e = .returned (.string s) ∧ Below V.heap.size V w') := Lib.hid fun V hV => by
    rw [← hs]; exact doc_any r V d _ (HR.out.keep fun _ _ _ _ hh => (hh.below (hV.mono hle)).mono (Nat.le_trans hle hV.size))
  have HL : Hid (out.length + (s.size + r.tag.size + 1) ≤ lim) := Lib.hid (by
    rw [docW, HS.out, List.length_append, List.length_append, List.length_append, L_size, L_size] at hlen
    simpa [Nat.add_assoc] using hlen)
  clear hs hdz hw hsum hlw hr h hlen
  go_enter Tryd.func28, Tryd.ntmps28
  go_wp2_with fail
  obtain ⟨X, hX⟩ : ∃ X, X = W.alloc (.cells #[.int .i64 r.fd, .string r.op, .string r.tag, .slice a1 r.word.length c1] 31) := ⟨_, rfl⟩
  have HBX : Hid (Below W.heap.size W X) := Lib.hid (by rw [hX]; exact (Below.refl _ _).alloc (Nat.le_refl _) _)
  have HXB : Hid (Blk X W.heap.size 31 #[.int .i64 r.fd, .string r.op, .string r.tag, .slice a1 r.word.length c1]) := Lib.hid (by rw [hX]; exact Blk.new _ _ _)
  have x0 := HXB.out.cell 0
  have x1 := HXB.out.cell 1
  have x2 := HXB.out.cell 2
  have x3 := HXB.out.cell 3
  simp at x0 x1 x2 x3
  have hgX : W.heap.size < X.heap.size := by rw [hX]; simp
  rw [← hX]
  clear hX
  have CD2 : Hid (∀ V, Below X.heap.size X V → Calls Tryd.prog 49 #[.agg #[.int .i64 r.fd, .string r.op, .string r.tag, .slice a1 r.word.length c1]] V fun e w' => e = .returned (.string s) ∧ Below X.heap.size X w') := Lib.hid fun V hV => (CD.out V (since hV HBX.out)).mono fun e w' h => ⟨h.1, hV.trans (h.2.mono hV.size)⟩
  have HWX := Lib.hid (HW.out.below HBX.out)
  have CW : Hid (∀ V (u : ByteArray), Below X.heap.size X V → out.length + u.size ≤ lim → Calls Tryd.prog 24 #[.pointer (some ⟨b, 0, none⟩), .string u] V fun e w' => e = .returned (.tuple #[.int .i64 u.size, .nilIface]) ∧ Wr w' B b dv (out ++ L u) ds ∧ Fr X w' B b dv dv ∧ Blk w' W.heap.size 31 #[.int .i64 r.fd, .string r.op, .string r.tag, .slice a1 r.word.length c1]) := Lib.hid fun V u hV hu => (HWX.out.str (Fr.refl X B b dv) hV u hu).mono fun e w' ⟨h1, h2, h3⟩ => ⟨h1, h2, h3, h3.blk HXB.out (by have := HW.out.lt; omega) (fun e => by have := HW.out.far _ e; omega) (by decide)⟩
  have k7 : ∀ V : World, (Op.stringOp .add s r.tag).run Tryd.prog V = .ok (.string (s ++ r.tag)) V := fun V => run_string_add_sum V _ _ (by omega)
  have k8 : ∀ V : World, (Op.stringOp .add (s ++ r.tag) ⟨#[10]⟩).run Tryd.prog V = .ok (.string (s ++ r.tag ++ ⟨#[10]⟩)) V := fun V => run_string_add_sum V _ _ (by simp; omega)
  clear CD
  go_region_held3 (fun w' => w'.cell? ⟨W.heap.size, 0, none⟩ = some (.int .i64 r.fd) ∧ w'.cell? ⟨W.heap.size, 1, none⟩ = some (.string r.op) ∧ w'.cell? ⟨W.heap.size, 2, none⟩ = some (.string r.tag) ∧ w'.cell? ⟨W.heap.size, 3, none⟩ = some (.slice a1 r.word.length c1)) (go_keep)
    (first
      | (go_at_call 49; with_reducible refine (CD2.out _ (by repeat' (first | (with_reducible assumption) | (with_reducible exact Below.refl _ _) | (with_reducible refine below_drewN ?_ _) | (with_reducible refine below_bytes ?_ ?_ _) | (with_reducible refine Below.alloc ?_ ?_ _) | (with_reducible refine Below.drew ?_) | (with_reducible refine Below.setCell ?_ ?_ _) | go_size))).mono ?_; rintro e w1 ⟨rfl, hb1⟩; have d0 := (hb1.cell hgX).trans x0; have d1 := (hb1.cell hgX).trans x1; have d2 := (hb1.cell hgX).trans x2; have d3 := (hb1.cell hgX).trans x3)
      | (go_at_call 24; with_reducible refine (CW.out _ _ (by repeat' (first | (with_reducible assumption) | (with_reducible exact Below.refl _ _) | (with_reducible refine below_drewN ?_ _) | (with_reducible refine below_bytes ?_ ?_ _) | (with_reducible refine Below.alloc ?_ ?_ _) | (with_reducible refine Below.drew ?_) | (with_reducible refine Below.setCell ?_ ?_ _) | go_size)) ?_).mono ?_; (have := HL.out; simp; omega); rintro e w2 ⟨rfl, hw2, hf2, hk2⟩; have d0 := hk2.cell 0; have d1 := hk2.cell 1; have d2 := hk2.cell 2; have d3 := hk2.cell 3; simp at d0 d1 d2 d3))
  all_goals
    go_wp2_with fail
    go_end0
    have hdw : docW r = L (s ++ r.tag ++ ⟨#[10]⟩) := by rw [docW, HS.out, L_append, L_append]; rfl
    rw [hdw]
    exact ⟨rfl, hw2, (Fr.of_below HBX.out hle).trans hf2⟩

theorem docs_take {ds : List DocV} {k : Nat} {r : DocV} (h : ds[k]? = some r) : (ds.take (k + 1)).flatMap (fun r => docW r.1) = (ds.take k).flatMap (fun r => docW r.1) ++ docW r.1 := flat_snoc h
theorem flat_take_le {α β : Type} (f : α → List β) (l : List α) (k : Nat) : ((l.take k).flatMap f).length ≤ (l.flatMap f).length := by
  have : l.flatMap f = (l.take k).flatMap f ++ (l.drop k).flatMap f := by rw [← List.flatMap_append, List.take_append_drop]
  rw [this, List.length_append]; omega

set_option maxHeartbeats 1000000 in
set_option maxRecDepth 100000 in
theorem line_any {W : World} {B b : Nat} {dv : Value} {out : List UInt8} {ds : List DocV} (h : Wr W B b dv out ds) (hlen : (lineS (stOf out ds)).1.length ≤ lim) :
    Calls Tryd.prog 15 #[.pointer (some ⟨b, 0, none⟩)] W fun e w' => e = .returned (.tuple #[]) ∧ Shown W B b dv (lineS (stOf out ds)) w' := by
  have hfl : (stOf out ds).2.flatMap docW = ds.flatMap fun r => docW r.1 := by rw [stOf, List.flatMap_map]
  have HLS : Hid (lineS (stOf out ds) = (out ++ 10 :: ds.flatMap (fun r => docW r.1), [])) := Lib.hid (by rw [lineS, hfl]; rfl)
  have HLEN : Hid (∀ k, (out ++ 10 :: (ds.take k).flatMap (fun r => docW r.1)).length ≤ lim) := Lib.hid fun k => by
    have := flat_take_le (fun r : DocV => docW r.1) ds k
    rw [HLS.out] at hlen
    simp only [List.length_append, List.length_cons] at hlen ⊢
    omega
  obtain ⟨a, cap, rfl⟩ := h.shape
  obtain ⟨n, hn⟩ : ∃ n, ds.length = n := ⟨_, rfl⟩
  have hnm : n ≤ 9223372036854775807 := by have := (Sl.of_own h.2.2.1).len; unfold maxLen at this; omega
  rw [hn] at h ⊢
  have HN := Lib.hid hn
  have CB := Lib.hid (h.byte (Fr.refl W B b _) (Below.refl _ _) 10 (by have := HLEN.out 0; simpa using this))
  have hbW := h.lt
  have hBb := h.1
  have HFAR := Lib.hid h.far
  clear h hn hfl hlen
  go_enter Tryd.func15, Tryd.ntmps15
  go_wp2_with fail
  refine CB.out.mono ?_
  rintro e w1 ⟨rfl, hw1, hf1⟩
  have HW1 := Lib.hid hw1
  have HF1 := Lib.hid hf1
  obtain ⟨c2, f2⟩ := hw1.docs
  clear hw1 hf1
  go_wp2_with fail
  go_loopw [13] (fun i V => ∃ k : Nat, k ≤ n ∧ i = .int .i64 k ∧ Wr V B b (.slice a n cap) (out ++ 10 :: (ds.take k).flatMap (fun r => docW r.1)) ds ∧ Fr W V B b (.slice a n cap) (.slice a n cap)) (fun i _ => n - (intOf i).toNat)
  case atStart => exact ⟨0, Nat.zero_le _, rfl, by simpa using HW1.out, HF1.out⟩
  case round =>
    obtain ⟨k, hk, rfl, hw, hf⟩ := hrel
    have HW := Lib.hid hw
    have HF := Lib.hid hf
    obtain ⟨c2, f2⟩ := hw.docs
    clear hw hf
    by_cases hlt : k < n
    · obtain ⟨r, hr⟩ : ∃ r, ds[k]? = .some r := ⟨_, List.getElem?_eq_getElem (by rw [HN.out]; exact hlt)⟩
      obtain ⟨g, o, a1, c1, d, hi, hgW, e0, e1, e2, e3, hrd⟩ := HW.out.doc_at hr
      have HTK := Lib.hid (docs_take hr)
      have CD : Hid (∀ V, Below wr.heap.size wr V → Calls Tryd.prog 28 #[.pointer (some ⟨b, 0, none⟩), .agg #[.int .i64 r.1.fd, .string r.1.op, .string r.1.tag, .slice a1 r.1.word.length c1]] V fun e w' => e = .returned (.tuple #[]) ∧ Wr w' B b (.slice a n cap) (out ++ 10 :: (ds.take k).flatMap (fun r => docW r.1) ++ docW r.1) ds ∧ Fr W w' B b (.slice a n cap) (.slice a n cap)) := Lib.hid fun V hV =>
        (wdoc_any (HW.out.below hV) r.1 d _ (hrd.keep fun _ _ _ _ hs => hs.below (hV.mono HW.out.le)) (by have := HLEN.out (k + 1); rw [HTK.out] at this; simpa using this)).mono fun e w' ⟨h1, h2, h3⟩ => ⟨h1, h2, (HF.out.later hV HW.out.le).trans h3⟩
      clear hr hrd
      go_wp2_with fail
      refine (CD.out _ (by repeat' (first | (with_reducible assumption) | (with_reducible exact Below.refl _ _) | (with_reducible refine below_drewN ?_ _) | (with_reducible refine below_bytes ?_ ?_ _) | (with_reducible refine Below.alloc ?_ ?_ _) | (with_reducible refine Below.drew ?_) | (with_reducible refine Below.setCell ?_ ?_ _) | go_size))).mono ?_
      rintro e w2 ⟨rfl, hw2, hf2⟩
      have HW2 := Lib.hid hw2
      have HF2 := Lib.hid hf2
      clear hw2 hf2
      go_wp2_with fail
      go_roundw
      case rel => exact ⟨k + 1, by omega, by go_num, by rw [HTK.out]; simpa using HW2.out, HF2.out⟩
      case measure => simp [intOf]; omega
    · have HTK : Hid (ds.take k = ds) := Lib.hid (List.take_of_length_le (by rw [HN.out]; omega))
      go_wp2_with fail
      go_end0
      have hc := HW.out.clear
      refine ⟨rfl, .slice none 0 0, [], by rw [HLS.out]; rfl, ?_, HF.out.trans hc.2⟩
      rw [HLS.out]
      have := hc.1
      rwa [HTK.out] at this
end Go.Proofs.YtnackmnoldkihaaDoor
/-
  The walks of the writer's word, list, param.
-/
namespace Go.Proofs.YtnackmnoldkihaaDoor
open Go.RowKit

/-- The writer's word, list, node. -/
def WordW (d : Nat) (ww : St → List Pt → St) (fw : List Pt → Bool) : Prop := ∀ (W : World) (B b : Nat) (dv : Value) (out : List UInt8) (ds : List DocV) (l : List Pt) (v : Value), Hd W B → Wr W B b dv out ds → PtsIn W B d l v → fw l = true → (ww (stOf out ds) l).1.length ≤ lim →
  Calls Tryd.prog 43 #[.pointer (some ⟨b, 0, none⟩), v] W fun e w' => e = .returned (.tuple #[]) ∧ Shown W B b dv (ww (stOf out ds) l) w'
def ListW (d : Nat) (wl : St → List Nd → St) (fl : List Nd → Bool) : Prop := ∀ (W : World) (B b : Nat) (dv : Value) (out : List UInt8) (ds : List DocV) (l : List Nd) (v : Value), Hd W B → Wr W B b dv out ds → NdsIn W B d l v → fl l = true → (wl (stOf out ds) l).1.length ≤ lim →
  Calls Tryd.prog 10 #[.pointer (some ⟨b, 0, none⟩), v] W fun e w' => e = .returned (.tuple #[]) ∧ Shown W B b dv (wl (stOf out ds) l) w'
def NodeW (d : Nat) (wn : St → Nd → St) (fn : Nd → Bool) : Prop := ∀ (W : World) (B b : Nat) (dv : Value) (out : List UInt8) (ds : List DocV) (x : Nd) (c : List Value), Hd W B → Wr W B b dv out ds → NdC W B d x c → fn x = true → (wn (stOf out ds) x).1.length ≤ lim →
  Calls Tryd.prog 14 #[.pointer (some ⟨b, 0, none⟩), .agg c.toArray] W fun e w' => e = .returned (.tuple #[]) ∧ Shown W B b dv (wn (stOf out ds) x) w'
def PartW (d : Nat) (wp : St → Pt → St) (fp : Pt → Bool) : Prop := ∀ (W : World) (B b : Nat) (dv : Value) (out : List UInt8) (ds : List DocV) (x : Pt) (c : List Value), Hd W B → Wr W B b dv out ds → PtC W B d x c → fp x = true → (wp (stOf out ds) x).1.length ≤ lim →
  Calls Tryd.prog 57 #[.pointer (some ⟨b, 0, none⟩), .agg c.toArray] W fun e w' => e = .returned (.tuple #[]) ∧ Shown W B b dv (wp (stOf out ds) x) w'

theorem fold_take {α : Type} {f : St → α → St} {l : List α} {k : Nat} {x : α} (h : l[k]? = some x) (s : St) : (l.take (k + 1)).foldl f s = f ((l.take k).foldl f s) x := by
  rw [List.take_add_one, h, List.foldl_append]; rfl
theorem fold_take_le {α : Type} {f : St → α → St} (hg : Grow2 f) (l : List α) (s : St) (k : Nat) : ((l.take k).foldl f s).1.length ≤ (l.foldl f s).1.length := by
  have : l.foldl f s = (l.drop k).foldl f ((l.take k).foldl f s) := by rw [← List.foldl_append, List.take_append_drop]
  rw [this]
  exact fold_grow hg _ _
theorem shown_st {W W' : World} {B b : Nat} {dv : Value} {s : St} (h : Shown W B b dv s W') : ∃ dv' ds', Wr W' B b dv' s.1 ds' ∧ stOf s.1 ds' = s ∧ Fr W W' B b dv dv' := by
  obtain ⟨dv', ds', h1, h2, h3⟩ := h
  exact ⟨dv', ds', h2, by rw [stOf, h1], h3⟩

set_option maxHeartbeats 1000000 in
set_option maxRecDepth 100000 in
theorem wword_any (d : Nat) (wp : St → Pt → St) (fp : Pt → Bool) (hg : Grow2 wp) (hp : PartW d wp fp) : WordW (d + 1) (fun s l => l.foldl wp s) (fun l => l.all fp) := by
  intro W B b dv out ds l v hH h hl hf hlen
  rw [PtsIn.succ] at hl
  obtain ⟨a, cap, rfl, hz⟩ := hl.len
  obtain ⟨n, hn⟩ : ∃ n, l.length = n := ⟨_, rfl⟩
  rw [hn] at hl hz ⊢
  have HL := Lib.hid hl
  have HN := Lib.hid hn
  have HH := Lib.hid hH
  have HP := Lib.hid hp
  have HW := Lib.hid h
  have HFA := Lib.hid (List.all_eq_true.1 hf)
  have HLEN : Hid (∀ k, ((l.take k).foldl wp (stOf out ds)).1.length ≤ lim) := Lib.hid fun k => Nat.le_trans (fold_take_le hg l _ k) hlen
  clear hl hn hH hp h hf hlen
  go_enter Tryd.func43, Tryd.ntmps43
  go_wp2_with fail
  go_loopw [8] (fun i V => ∃ k : Nat, k ≤ n ∧ i = .int .i64 k ∧ Shown W B b dv ((l.take k).foldl wp (stOf out ds)) V) (fun i _ => n - (intOf i).toNat)
  case atStart => exact ⟨0, Nat.zero_le _, rfl, Shown.of HW.out (Fr.refl W B b dv)⟩
  case round =>
    obtain ⟨k, hk, rfl, hsh⟩ := hrel
    obtain ⟨dv1, ds1, hw1, hst, hf1⟩ := shown_st hsh
    have HW1 := Lib.hid hw1
    have HST := Lib.hid hst
    have HF1 := Lib.hid hf1
    have hB := hf1.low
    have hBW := HW.out.le
    clear hsh hw1 hst hf1
    by_cases hlt : k < n
    · obtain ⟨x, hx⟩ : ∃ x, l[k]? = .some x := ⟨_, List.getElem?_eq_getElem (by rw [HN.out]; exact hlt)⟩
      have hl1 := HL.out.imp (fun xs hs => hs.below hB) (F' := PtC wr B d) fun x _ c h => h.keep fun _ _ _ _ hs => hs.below hB
      obtain ⟨b1, o, c, hi, hbB, hce, hC, _⟩ := hl1.at 26 28 Tryd.underlying26 (by kernel_rfl) hx
      have HX := Lib.hid (fold_take (f := wp) hx (stOf out ds))
      have HC := Lib.hid hC
      have HFX : Hid (fp x = true) := Lib.hid (HFA.out x (List.mem_of_getElem? hx))
      obtain ⟨a1, c1, a2, c2, rfl, _⟩ := hC.open
      have CP : Hid (∀ V, Below wr.heap.size wr V → Calls Tryd.prog 57 #[.pointer (some ⟨b, 0, none⟩), .agg #[.int .i64 x.kind, .bool x.quoted, .string x.text, .string x.op, .slice a1 x.word.length c1, .slice a2 x.body.length c2]] V fun e w' => e = .returned (.tuple #[]) ∧ Shown W B b dv ((l.take (k + 1)).foldl wp (stOf out ds)) w') := Lib.hid fun V hV =>
        (HP.out V B b dv1 _ ds1 x _ (HH.out.below (hB.trans (hV.mono HW1.out.le))) (HW1.out.below hV) (HC.out.keep fun _ _ _ _ hs => hs.below (hV.mono HW1.out.le)) HFX.out (by rw [HST.out, ← HX.out]; exact HLEN.out (k + 1))).mono fun e w' ⟨h1, h2⟩ => ⟨h1, by rw [HX.out]; rw [HST.out] at h2; exact h2.after (HF1.out.later hV HW1.out.le)⟩
      have e0 := hce 0 _ rfl
      have e1 := hce 1 _ rfl
      have e2 := hce 2 _ rfl
      have e3 := hce 3 _ rfl
      have e4 := hce 4 _ rfl
      have e5 := hce 5 _ rfl
      have hbB' := Nat.lt_of_lt_of_le hbB HW1.out.le
      rw [Nat.add_zero] at e0
      clear hx hce hC hl1
      go_wp2_with fail
      refine (CP.out _ (by repeat' (first | (with_reducible assumption) | (with_reducible exact Below.refl _ _) | (with_reducible refine below_drewN ?_ _) | (with_reducible refine below_bytes ?_ ?_ _) | (with_reducible refine Below.alloc ?_ ?_ _) | (with_reducible refine Below.drew ?_) | (with_reducible refine Below.setCell ?_ ?_ _) | go_size))).mono ?_
      rintro e w1 ⟨rfl, hs1⟩
      have HS1 := Lib.hid hs1
      clear hs1
      go_wp2_with fail
      go_roundw
      case rel => exact ⟨k + 1, by omega, by go_num, HS1.out⟩
      case measure => simp [intOf]; omega
    · have HTK : Hid (l.take k = l) := Lib.hid (List.take_of_length_le (by rw [HN.out]; omega))
      rw [HTK.out] at HW1 HST
      go_wp2_with fail
      go_end0
      refine ⟨rfl, ?_⟩
      have := Shown.of HW1.out HF1.out
      rwa [HST.out] at this

set_option maxHeartbeats 1000000 in
set_option maxRecDepth 100000 in
theorem wlist_any (d : Nat) (wn : St → Nd → St) (fn : Nd → Bool) (hg : Grow2 wn) (hp : NodeW d wn fn) : ListW (d + 1) (fun s l => l.foldl (fun s x => lineS (wn s x)) s) (fun l => l.all fn) := by
  intro W B b dv out ds l v hH h hl hf hlen
  rw [NdsIn.succ] at hl
  obtain ⟨a, cap, rfl, hz⟩ := hl.len
  obtain ⟨n, hn⟩ : ∃ n, l.length = n := ⟨_, rfl⟩
  rw [hn] at hl hz ⊢
  obtain ⟨wp, hwp⟩ : ∃ wp : St → Nd → St, wp = fun s x => lineS (wn s x) := ⟨_, rfl⟩
  have hg2 : Grow2 wp := fun s x => by rw [hwp]; exact Nat.le_trans (hg s x) (lineS_grow _)
  rw [← hwp] at hlen ⊢
  have HL := Lib.hid hl
  have HN := Lib.hid hn
  have HH := Lib.hid hH
  have HP := Lib.hid hp
  have HW := Lib.hid h
  have HWP := Lib.hid hwp
  have HFA := Lib.hid (List.all_eq_true.1 hf)
  have HLEN : Hid (∀ k, ((l.take k).foldl wp (stOf out ds)).1.length ≤ lim) := Lib.hid fun k => Nat.le_trans (fold_take_le hg2 l _ k) hlen
  clear hl hn hH hp h hf hlen hwp hg2
  go_enter Tryd.func10, Tryd.ntmps10
  go_wp2_with fail
  go_loopw [8] (fun i V => ∃ k : Nat, k ≤ n ∧ i = .int .i64 k ∧ Shown W B b dv ((l.take k).foldl wp (stOf out ds)) V) (fun i _ => n - (intOf i).toNat)
  case atStart => exact ⟨0, Nat.zero_le _, rfl, Shown.of HW.out (Fr.refl W B b dv)⟩
  case round =>
    obtain ⟨k, hk, rfl, hsh⟩ := hrel
    obtain ⟨dv1, ds1, hw1, hst, hf1⟩ := shown_st hsh
    have HW1 := Lib.hid hw1
    have HST := Lib.hid hst
    have HF1 := Lib.hid hf1
    have hB := hf1.low
    have hBW := HW.out.le
    clear hsh hw1 hst hf1
    by_cases hlt : k < n
    · obtain ⟨x, hx⟩ : ∃ x, l[k]? = .some x := ⟨_, List.getElem?_eq_getElem (by rw [HN.out]; exact hlt)⟩
      have hl1 := HL.out.imp (fun xs hs => hs.below hB) (F' := NdC wr B d) fun x _ c h => h.keep fun _ _ _ _ hs => hs.below hB
      obtain ⟨b1, o, c, hi, hbB, hce, hC, _⟩ := hl1.at 22 37 Tryd.underlying22 (by kernel_rfl) hx
      have HX : Hid ((l.take (k + 1)).foldl wp (stOf out ds) = lineS (wn ((l.take k).foldl wp (stOf out ds)) x)) := Lib.hid (by rw [fold_take hx, HWP.out])
      have HLE := Lib.hid (HLEN.out (k + 1))
      rw [HX.out] at HLE
      have HC := Lib.hid hC
      have HFX : Hid (fn x = true) := Lib.hid (HFA.out x (List.mem_of_getElem? hx))
      obtain ⟨a1, c1, a2, c2, a3, c3, a4, c4, a5, c5, rfl, _⟩ := hC.open
      have CP : Hid (∀ V, Below wr.heap.size wr V → Calls Tryd.prog 14 #[.pointer (some ⟨b, 0, none⟩), .agg #[.int .i64 x.kind, .string x.name, .slice a1 x.assigns.length c1, .slice a2 x.words.length c2, .slice a3 x.redirs.length c3, .slice a4 x.lists.length c4, .slice a5 x.arms.length c5]] V fun e w' => e = .returned (.tuple #[]) ∧ Shown W B b dv (wn ((l.take k).foldl wp (stOf out ds)) x) w') := Lib.hid fun V hV =>
        (HP.out V B b dv1 _ ds1 x _ (HH.out.below (hB.trans (hV.mono HW1.out.le))) (HW1.out.below hV) (HC.out.keep fun _ _ _ _ hs => hs.below (hV.mono HW1.out.le)) HFX.out (by rw [HST.out]; exact Nat.le_trans (lineS_grow _) HLE.out)).mono fun e w' ⟨h1, h2⟩ => ⟨h1, by rw [HST.out] at h2; exact h2.after (HF1.out.later hV HW1.out.le)⟩
      have e0 := hce 0 _ rfl
      have e1 := hce 1 _ rfl
      have e2 := hce 2 _ rfl
      have e3 := hce 3 _ rfl
      have e4 := hce 4 _ rfl
      have e5 := hce 5 _ rfl
      have e6 := hce 6 _ rfl
      have hbB' := Nat.lt_of_lt_of_le hbB HW1.out.le
      rw [Nat.add_zero] at e0
      clear hx hce hC hl1
      go_wp2_with fail
      refine (CP.out _ (by repeat' (first | (with_reducible assumption) | (with_reducible exact Below.refl _ _) | (with_reducible refine below_drewN ?_ _) | (with_reducible refine below_bytes ?_ ?_ _) | (with_reducible refine Below.alloc ?_ ?_ _) | (with_reducible refine Below.drew ?_) | (with_reducible refine Below.setCell ?_ ?_ _) | go_size))).mono ?_
      rintro e w1 ⟨rfl, hs1⟩
      obtain ⟨dv2, ds2, hw2, hst2, hf2⟩ := shown_st hs1
      have CL : Hid (Calls Tryd.prog 15 #[.pointer (some ⟨b, 0, none⟩)] w1 fun e w' => e = .returned (.tuple #[]) ∧ Shown W B b dv ((l.take (k + 1)).foldl wp (stOf out ds)) w') := Lib.hid
        ((line_any hw2 (by rw [hst2]; exact HLE.out)).mono fun e w' ⟨h1, h2⟩ => ⟨h1, by rw [HX.out]; rw [hst2] at h2; exact h2.after hf2⟩)
      clear hs1 hw2 hst2 hf2
      go_wp2_with fail
      refine CL.out.mono ?_
      rintro e w2 ⟨rfl, hs2⟩
      have HS2 := Lib.hid hs2
      clear hs2
      go_wp2_with fail
      go_roundw
      case rel => exact ⟨k + 1, by omega, by go_num, HS2.out⟩
      case measure => simp [intOf]; omega
    · have HTK : Hid (l.take k = l) := Lib.hid (List.take_of_length_le (by rw [HN.out]; omega))
      rw [HTK.out] at HW1 HST
      go_wp2_with fail
      go_end0
      refine ⟨rfl, ?_⟩
      have := Shown.of HW1.out HF1.out
      rwa [HST.out] at this
end Go.Proofs.YtnackmnoldkihaaDoor
/-
  The walk of the writer's param.
-/
namespace Go.Proofs.YtnackmnoldkihaaDoor
open Go.RowKit

theorem len3 {a b c : List UInt8} {n : Nat} (h : (a ++ (b ++ c)).length ≤ n) : a.length + (b.length + c.length) ≤ n := by simpa using h

set_option maxHeartbeats 1000000 in
set_option maxRecDepth 100000 in
theorem wparam_any (d : Nat) (ww : St → List Pt → St) (fw : List Pt → Bool) (hg : Grow2 ww) (hp : WordW d ww fw) {W : World} {B b : Nat} {dv : Value} {out : List UInt8} {ds : List DocV} (p : Pt) (c : List Value) (hH : Hd W B) (h : Wr W B b dv out ds) (hc : PtC W B d p c) (hf : fw p.word = true) (hlen : (paramS ww (stOf out ds) p).1.length ≤ lim) :
    Calls Tryd.prog 71 #[.pointer (some ⟨b, 0, none⟩), .agg c.toArray] W fun e w' => e = .returned (.tuple #[]) ∧ Shown W B b dv (paramS ww (stOf out ds) p) w' := by
  obtain ⟨a1, c1, a2, c2, rfl, ⟨h1, h2⟩, ⟨hlw, hlb⟩, hw, _⟩ := hc.open
  have HH := Lib.hid hH
  have HP := Lib.hid hp
  have HG := Lib.hid hg
  have HW := Lib.hid h
  have HPW := Lib.hid hw
  have HF := Lib.hid hf
  obtain ⟨r, hr⟩ : ∃ r, paramS ww (stOf out ds) p = r := ⟨_, rfl⟩
  rw [hr] at hlen ⊢
  rw [paramS] at hr
  have HR := Lib.hid hr
  have HLEN := Lib.hid hlen
  clear hH hp hg h hw hf hr hlen hc
  cases hoe : (L p.op).isEmpty with
  | true =>
    have e1 : p.op.toList.isEmpty = true := by rw [isEmpty_L]; exact hoe
    have HE : Hid (r = putS (stOf out ds) ([36, 123] ++ L p.text ++ [125])) := Lib.hid (by rw [← HR.out, hoe]; rfl)
    have HZ : Hid (out.length + (2 + p.text.size + 1) ≤ lim) := Lib.hid (by have := HLEN.out; rw [HE.out, putS] at this; simp [stOf, L_size] at this; omega)
    have k1 : ∀ V : World, (Op.stringOp .add (⟨#[36, 123]⟩ : ByteArray) p.text).run Tryd.prog V = .ok (.string ((⟨#[36, 123]⟩ : ByteArray) ++ p.text)) V := fun V => run_string_add_sum V _ _ (by simp; omega)
    have k2 : ∀ V : World, (Op.stringOp .add ((⟨#[36, 123]⟩ : ByteArray) ++ p.text) ⟨#[125]⟩).run Tryd.prog V = .ok (.string (((⟨#[36, 123]⟩ : ByteArray) ++ p.text) ++ ⟨#[125]⟩)) V := fun V => run_string_add_sum V _ _ (by simp; omega)
    clear hoe
    go_enter Tryd.func71, Tryd.ntmps71
    go_wp2_with fail
    obtain ⟨V, hV⟩ : ∃ V, V = W.alloc (.cells #[.int .i64 p.kind, .bool p.quoted, .string p.text, .string p.op, .slice a1 p.word.length c1, .slice a2 p.body.length c2] 28) := ⟨_, rfl⟩
    have HBV : Hid (Below W.heap.size W V) := Lib.hid (by rw [hV]; exact (Below.refl _ _).alloc (Nat.le_refl _) _)
    have HVB : Hid (Blk V W.heap.size 28 #[.int .i64 p.kind, .bool p.quoted, .string p.text, .string p.op, .slice a1 p.word.length c1, .slice a2 p.body.length c2]) := Lib.hid (by rw [hV]; exact Blk.new _ _ _)
    have hgV : W.heap.size < V.heap.size := by rw [hV]; simp
    rw [← hV]
    clear hV
    have HWV := Lib.hid (HW.out.below HBV.out)
    have hgb : W.heap.size ≠ b := by have := HW.out.lt; omega
    have HGD : Hid (Value.ownBlock (dv) ≠ some W.heap.size) := Lib.hid fun e => by have := HW.out.far _ e; omega
    have HBW : Hid (Below B W V) := Lib.hid (HBV.out.mono HW.out.le)
    have HFV : Hid (Fr W V B b (dv) (dv)) := Lib.hid (Fr.of_below HBV.out HW.out.le)
    have x0 := HVB.out.cell 0
    have x1 := HVB.out.cell 1
    have x2 := HVB.out.cell 2
    have x3 := HVB.out.cell 3
    have x4 := HVB.out.cell 4
    have x5 := HVB.out.cell 5
    have xl := HVB.out.lt
    simp at x0 x1 x2 x3 x4 x5
    go_still_tail 7, (by kernel_rfl)
    go_wp2_with fail
    refine (HWV.out.str HFV.out (by repeat' (first | (with_reducible assumption) | (with_reducible exact Below.refl _ _) | (with_reducible refine below_drewN ?_ _) | (with_reducible refine below_bytes ?_ ?_ _) | (with_reducible refine Below.alloc ?_ ?_ _) | (with_reducible refine Below.drew ?_) | (with_reducible refine Below.setCell ?_ ?_ _) | go_size)) _ (by have := HZ.out; simp; omega)).mono ?_
    rintro e w1 ⟨rfl, hw0, hf0⟩
    have HWw1 := Lib.hid hw0
    have HFw1 := Lib.hid hf0
    clear hw0 hf0
    go_wp2_with fail
    go_end0
    refine ⟨rfl, ?_⟩
    have := Shown.of HWw1.out HFw1.out
    rw [HE.out, putS]
    simpa [stOf, L_append] using this
  | false =>
    have e1 : p.op.toList.isEmpty = false := by rw [isEmpty_L]; exact hoe
    cases hol : (L p.op == [108, 101, 110]) with
    | true =>
      have e3 : (p.op.toList == [108, 101, 110]) = true := by rw [toList_L]; exact hol
      have HE : Hid (r = putS (stOf out ds) ([36, 123, 35] ++ L p.text ++ [125])) := Lib.hid (by rw [← HR.out, hoe, hol]; rfl)
      have HZ : Hid (out.length + (3 + p.text.size + 1) ≤ lim) := Lib.hid (by have := HLEN.out; rw [HE.out, putS] at this; simp [stOf, L_size] at this; omega)
      have k1 : ∀ V : World, (Op.stringOp .add (⟨#[36, 123, 35]⟩ : ByteArray) p.text).run Tryd.prog V = .ok (.string ((⟨#[36, 123, 35]⟩ : ByteArray) ++ p.text)) V := fun V => run_string_add_sum V _ _ (by simp; omega)
      have k2 : ∀ V : World, (Op.stringOp .add ((⟨#[36, 123, 35]⟩ : ByteArray) ++ p.text) ⟨#[125]⟩).run Tryd.prog V = .ok (.string (((⟨#[36, 123, 35]⟩ : ByteArray) ++ p.text) ++ ⟨#[125]⟩)) V := fun V => run_string_add_sum V _ _ (by simp; omega)
      clear hoe hol
      go_enter Tryd.func71, Tryd.ntmps71
      go_wp2_with fail
      obtain ⟨V, hV⟩ : ∃ V, V = W.alloc (.cells #[.int .i64 p.kind, .bool p.quoted, .string p.text, .string p.op, .slice a1 p.word.length c1, .slice a2 p.body.length c2] 28) := ⟨_, rfl⟩
      have HBV : Hid (Below W.heap.size W V) := Lib.hid (by rw [hV]; exact (Below.refl _ _).alloc (Nat.le_refl _) _)
      have HVB : Hid (Blk V W.heap.size 28 #[.int .i64 p.kind, .bool p.quoted, .string p.text, .string p.op, .slice a1 p.word.length c1, .slice a2 p.body.length c2]) := Lib.hid (by rw [hV]; exact Blk.new _ _ _)
      have hgV : W.heap.size < V.heap.size := by rw [hV]; simp
      rw [← hV]
      clear hV
      have HWV := Lib.hid (HW.out.below HBV.out)
      have hgb : W.heap.size ≠ b := by have := HW.out.lt; omega
      have HGD : Hid (Value.ownBlock (dv) ≠ some W.heap.size) := Lib.hid fun e => by have := HW.out.far _ e; omega
      have HBW : Hid (Below B W V) := Lib.hid (HBV.out.mono HW.out.le)
      have HFV : Hid (Fr W V B b (dv) (dv)) := Lib.hid (Fr.of_below HBV.out HW.out.le)
      have x0 := HVB.out.cell 0
      have x1 := HVB.out.cell 1
      have x2 := HVB.out.cell 2
      have x3 := HVB.out.cell 3
      have x4 := HVB.out.cell 4
      have x5 := HVB.out.cell 5
      have xl := HVB.out.lt
      simp at x0 x1 x2 x3 x4 x5
      go_still_tail 7, (by kernel_rfl)
      go_wp2_with fail
      refine (HWV.out.str HFV.out (by repeat' (first | (with_reducible assumption) | (with_reducible exact Below.refl _ _) | (with_reducible refine below_drewN ?_ _) | (with_reducible refine below_bytes ?_ ?_ _) | (with_reducible refine Below.alloc ?_ ?_ _) | (with_reducible refine Below.drew ?_) | (with_reducible refine Below.setCell ?_ ?_ _) | go_size)) _ (by have := HZ.out; simp; omega)).mono ?_
      rintro e w1 ⟨rfl, hw0, hf0⟩
      have HWw1 := Lib.hid hw0
      have HFw1 := Lib.hid hf0
      clear hw0 hf0
      go_wp2_with fail
      go_end0
      refine ⟨rfl, ?_⟩
      have := Shown.of HWw1.out HFw1.out
      rw [HE.out, putS]
      simpa [stOf, L_append] using this
    | false =>
      have e3 : (p.op.toList == [108, 101, 110]) = false := by rw [toList_L]; exact hol
      have HE : Hid (r = putS (ww (stOf (out ++ ([36, 123] ++ L p.text ++ L p.op)) ds) p.word) [125]) := Lib.hid (by rw [← HR.out, hoe, hol]; rfl)
      have HZ3 : Hid ((ww (stOf (out ++ ([36, 123] ++ L p.text ++ L p.op)) ds) p.word).1.length + 1 ≤ lim) := Lib.hid (by have := HLEN.out; rw [HE.out, putS] at this; simpa using this)
      have HZ : Hid (out.length + (2 + p.text.size + p.op.size) ≤ lim) := Lib.hid (by
        have h1 := HG.out (stOf (out ++ ([36, 123] ++ L p.text ++ L p.op)) ds) p.word
        have h2 := HZ3.out
        simp [stOf, L_size] at h1 h2
        omega)
      have k1 : ∀ V : World, (Op.stringOp .add (⟨#[36, 123]⟩ : ByteArray) p.text).run Tryd.prog V = .ok (.string ((⟨#[36, 123]⟩ : ByteArray) ++ p.text)) V := fun V => run_string_add_sum V _ _ (by simp; omega)
      have k2 : ∀ V : World, (Op.stringOp .add ((⟨#[36, 123]⟩ : ByteArray) ++ p.text) p.op).run Tryd.prog V = .ok (.string (((⟨#[36, 123]⟩ : ByteArray) ++ p.text) ++ p.op)) V := fun V => run_string_add_sum V _ _ (by simp; omega)
      clear hoe hol
      go_enter Tryd.func71, Tryd.ntmps71
      go_wp2_with fail
      obtain ⟨V, hV⟩ : ∃ V, V = W.alloc (.cells #[.int .i64 p.kind, .bool p.quoted, .string p.text, .string p.op, .slice a1 p.word.length c1, .slice a2 p.body.length c2] 28) := ⟨_, rfl⟩
      have HBV : Hid (Below W.heap.size W V) := Lib.hid (by rw [hV]; exact (Below.refl _ _).alloc (Nat.le_refl _) _)
      have HVB : Hid (Blk V W.heap.size 28 #[.int .i64 p.kind, .bool p.quoted, .string p.text, .string p.op, .slice a1 p.word.length c1, .slice a2 p.body.length c2]) := Lib.hid (by rw [hV]; exact Blk.new _ _ _)
      have hgV : W.heap.size < V.heap.size := by rw [hV]; simp
      rw [← hV]
      clear hV
      have HWV := Lib.hid (HW.out.below HBV.out)
      have hgb : W.heap.size ≠ b := by have := HW.out.lt; omega
      have HGD : Hid (Value.ownBlock (dv) ≠ some W.heap.size) := Lib.hid fun e => by have := HW.out.far _ e; omega
      have HBW : Hid (Below B W V) := Lib.hid (HBV.out.mono HW.out.le)
      have HFV : Hid (Fr W V B b (dv) (dv)) := Lib.hid (Fr.of_below HBV.out HW.out.le)
      have x0 := HVB.out.cell 0
      have x1 := HVB.out.cell 1
      have x2 := HVB.out.cell 2
      have x3 := HVB.out.cell 3
      have x4 := HVB.out.cell 4
      have x5 := HVB.out.cell 5
      have xl := HVB.out.lt
      simp at x0 x1 x2 x3 x4 x5
      go_still_tail 9, (by kernel_rfl)
      go_wp2_with fail
      refine (HWV.out.str (Lib.hid (Fr.refl V B b dv)).out (by repeat' (first | (with_reducible assumption) | (with_reducible exact Below.refl _ _) | (with_reducible refine below_drewN ?_ _) | (with_reducible refine below_bytes ?_ ?_ _) | (with_reducible refine Below.alloc ?_ ?_ _) | (with_reducible refine Below.drew ?_) | (with_reducible refine Below.setCell ?_ ?_ _) | go_size)) _ (by have := HZ.out; simp; omega)).mono ?_
      rintro e w1 ⟨rfl, hw0, hf0⟩
      have HWw1 := Lib.hid hw0
      have HFw1 := Lib.hid hf0
      clear hw0 hf0
      have HK1 := Lib.hid (HFw1.out.blk HVB.out hgb HGD.out (by decide))
      clear x0 x1 x2 x3 x4 x5
      have y0 := HK1.out.cell 0
      have y1 := HK1.out.cell 1
      have y2 := HK1.out.cell 2
      have y3 := HK1.out.cell 3
      have y4 := HK1.out.cell 4
      have y5 := HK1.out.cell 5
      have yl := HK1.out.lt
      simp at y0 y1 y2 y3 y4 y5
      have CW := Lib.hid (HP.out w1 B b dv _ ds p.word _ (HH.out.below (HBW.out.trans HFw1.out.low)) HWw1.out (HPW.out.below (HBW.out.trans HFw1.out.low)) HF.out (by have := HZ3.out; simp [L_append] at this ⊢; omega))
      go_wp2_with fail
      refine CW.out.mono ?_
      rintro e w2 ⟨rfl, hs2⟩
      obtain ⟨dv2, ds2, hw2, hst2, hf2⟩ := shown_st hs2
      have HW2 := Lib.hid hw2
      have HST2 := Lib.hid hst2
      have HF2 := Lib.hid ((HFV.out.trans HFw1.out).trans hf2)
      clear hs2 hw2 hst2 hf2
      have CB : Hid (∀ X, Below w2.heap.size w2 X → Calls Tryd.prog 27 #[.pointer (some ⟨b, 0, none⟩), .int .u8 125] X fun e w' => e = .returned .nilIface ∧ Shown W B b dv r w') := Lib.hid fun X hX =>
        (HW2.out.byte HF2.out hX 125 (by have := HZ3.out; simp [L_append] at this ⊢; omega)).mono fun e w' ⟨h1, h2, h3⟩ => ⟨h1, by
          have := Shown.of h2 h3
          rw [HE.out, putS]
          have e : (ww (stOf (out ++ ([36, 123] ++ L p.text ++ L p.op)) ds) p.word) = (ww (stOf (out ++ L (⟨#[36, 123]⟩ ++ p.text ++ p.op)) ds) p.word) := by simp [L_append]
          rw [e, ← HST2.out]
          simpa [stOf] using this⟩
      go_wp2_with fail
      refine (CB.out _ (by repeat' (first | (with_reducible assumption) | (with_reducible exact Below.refl _ _) | (with_reducible refine below_drewN ?_ _) | (with_reducible refine below_bytes ?_ ?_ _) | (with_reducible refine Below.alloc ?_ ?_ _) | (with_reducible refine Below.drew ?_) | (with_reducible refine Below.setCell ?_ ?_ _) | go_size))).mono ?_
      rintro e w3 ⟨rfl, hs3⟩
      have HS3 := Lib.hid hs3
      clear hs3
      go_wp2_with fail
      go_end0
      exact ⟨rfl, HS3.out⟩
end Go.Proofs.YtnackmnoldkihaaDoor
/-
  The walk of the writer's part.
-/
namespace Go.Proofs.YtnackmnoldkihaaDoor
open Go.RowKit

theorem replaceK_flat (c : UInt8) (new : List UInt8) : ∀ s : List UInt8, Lib.replaceK [c] new (Lib.count s [c]) s = s.flatMap fun x => if x = c then new else [x]
  | [] => by
    have : Lib.count [] [c] = 0 := Lib.count_miss (by simp [Lib.index])
    rw [this]; rfl
  | b :: l => by
    have ih := replaceK_flat c new l
    rw [List.flatMap_cons]
    by_cases h : b = c
    · subst h
      have hi : Lib.index (b :: l) [b] = ((0 : Nat) : Int) := by rw [Lib.index]; simp
      rw [Lib.count_cons_eq, Nat.add_comm, Lib.replaceK_hit _ _ _ _ 0 hi, if_pos rfl, ← ih]
      simp
    · rw [Lib.count_cons_ne _ _ _ h, if_neg h]
      cases hk : Lib.count l [c] with
      | zero =>
        rw [hk] at ih
        rw [← ih]; rfl
      | succ m =>
        obtain ⟨i, hi⟩ := Lib.index_of_count (s := l) (old := [c]) (by omega)
        have hi2 : Lib.index (b :: l) [c] = ((i + 1 : Nat) : Int) := by
          rw [Lib.index, if_neg (by simpa using fun e => h e.symm), hi, if_neg (by simp)]; omega
        rw [hk] at ih
        rw [← ih, Lib.replaceK_hit _ _ _ _ (i + 1) hi2, Lib.replaceK_hit _ _ _ _ i hi]
        simp
theorem quo_len (l : List UInt8) : (quoL l).length ≤ 4 * l.length + 2 := by
  have : ∀ l : List UInt8, (l.flatMap fun c => if c = 39 then [39, 92, 39, 39] else [c]).length ≤ 4 * l.length := by
    intro l
    induction l with
    | nil => exact Nat.le_refl _
    | cons c l ih =>
      have e : (if c = 39 then ([39, 92, 39, 39] : List UInt8) else [c]).length ≤ 4 := by split <;> simp
      rw [List.flatMap_cons, List.length_append, List.length_cons]; omega
  have := this l
  rw [quoL, List.length_cons, List.length_append]
  simp only [List.length_cons, List.length_nil]; omega
theorem replace_quo (l : List UInt8) : (39 :: (Lib.replaceAll l [39] [39, 92, 39, 39] ++ [39]) : List UInt8) = quoL l := by
  have : Lib.replaceAll l [39] [39, 92, 39, 39] = Lib.replaceK [39] [39, 92, 39, 39] (Lib.count l [39]) l := by
    rw [Lib.replaceAll, Lib.replace, if_neg (by decide), Lib.replaceNum, if_pos (by omega)]
  rw [this, replaceK_flat, quoL]

/-- The here-documents that had come are laid back. -/
theorem Fr.back {W V : World} {B b : Nat} {dv dv3 : Value} (h : Fr W V B b dv dv3) (hB : B ≤ b) : Fr W (V.setCell ⟨b, 2, none⟩ dv) B b dv dv :=
  ⟨h.low.setCell (p := ⟨b, 2, none⟩) hB _, fun k o ho hb hd hu => (Below.heap_setCell V ⟨b, 2, none⟩ dv k hb).trans (h.kept k o ho hb hd hu), fun _ h => .inl h⟩
theorem Wr.back {U V : World} {B b : Nat} {dv dv3 : Value} {o out3 : List UInt8} {ds ds3 : List DocV} (hU : Wr U B b dv o ds) (hf : Fr (U.setCell ⟨b, 2, none⟩ (.slice none 0 0)) V B b (.slice none 0 0) dv3) (hV : Wr V B b dv3 out3 ds3) (hle : o.length ≤ out3.length) : Wr (V.setCell ⟨b, 2, none⟩ dv) B b dv out3 ds := by
  refine hV.set ?_ (fun r hr => ?_) (Nat.le_trans hU.2.2.2.2 hle)
  · refine ⟨hU.2.2.1.1, ?_⟩
    rcases hU.2.2.1.2 with h | ⟨g, cap, cur, hv, hB, hg, rest⟩
    · exact .inl h
    · refine .inr ⟨g, cap, cur, hv, hB, hf.kept g _ ?_ ?_ (by simp [Value.ownBlock]) (fun c fz e => by injection e with _ e2 _; exact absurd e2 (by decide)), rest⟩
      · rw [Below.heap_setCell _ _ _ _ (fun e => hU.ne (by rw [hv, e]; rfl))]; exact hg
      · intro e; exact hU.ne (by rw [hv, e]; rfl)
  · obtain ⟨d, hd⟩ := hU.2.2.2.1 r hr
    exact ⟨d, hd.keep fun _ _ _ _ hs => hs.below (((Below.refl B U).setCell (p := ⟨b, 2, none⟩) hU.1 _).trans hf.low)⟩

set_option maxHeartbeats 4000000 in
set_option maxRecDepth 100000 in
theorem wpart_any (d : Nat) (ww : St → List Pt → St) (wl : St → List Nd → St) (fw : List Pt → Bool) (fl : List Nd → Bool) (hgw : Grow2 ww) (hgl : Grow2 wl) (hw : WordW d ww fw) (hl : ListW d wl fl) : PartW d (partS ww wl) (partF fw fl) := by
  intro W B b dv out ds p c hH h hc hf hlen
  have HC := Lib.hid hc
  obtain ⟨da, dc, hdv⟩ := h.shape
  subst hdv
  obtain ⟨a1, c1, a2, c2, rfl, ⟨h1, h2⟩, ⟨hlw, hlb⟩, _, hbd⟩ := hc.open
  rw [partF, Bool.and_eq_true] at hf
  have HH := Lib.hid hH
  have HWL := Lib.hid hl
  have HWW := Lib.hid hw
  have HGW := Lib.hid hgw
  have HGL := Lib.hid hgl
  have HW := Lib.hid h
  have HBD := Lib.hid hbd
  have HF := Lib.hid hf
  obtain ⟨r, hr⟩ : ∃ r, partS ww wl (stOf out ds) p = r := ⟨_, rfl⟩
  rw [hr] at hlen ⊢
  rw [partS] at hr
  have HR := Lib.hid hr
  have HLEN := Lib.hid hlen
  have hW0 : W.heap.size ≠ 0 := by have := HH.out.2; have := HW.out.le; omega
  obtain ⟨⟨cm, hcm⟩, hB0⟩ := HH.out
  obtain ⟨cdW, fdW⟩ := HW.out.docs
  have hbW := HW.out.lt
  clear hH h hw hl hf hr hlen hc hbd hgw hgl
  cases hk1 : (p.kind == 1) with
  | true =>
    cases hq : p.quoted with
    | true =>
      have HE : Hid (r = putS (stOf out ds) (quoL (L p.text))) := Lib.hid (by rw [← HR.out, hk1, hq]; rfl)
      have hrl : (Lib.replaceAll (L p.text) [39] [39, 92, 39, 39]).length + 2 = (quoL (L p.text)).length := by rw [← replace_quo]; simp
      have HZ : Hid (out.length + (quoL (L p.text)).length ≤ lim) := Lib.hid (by have := HLEN.out; rw [HE.out, putS] at this; simpa [stOf] using this)
      have hcl := Lib.countB_le ⟨#[39]⟩ (by decide) p.text.size p.text (Nat.le_refl _)
      have hfl := quo_len (L p.text)
      rw [L_size] at hfl
      obtain ⟨q, hqd⟩ : ∃ q, q = S (Lib.replaceAll (L p.text) [39] [39, 92, 39, 39]) := ⟨_, rfl⟩
      have hqz : q.size + 2 = (quoL (L p.text)).length := by rw [hqd, S_size]; exact hrl
      have HQ : Hid (39 :: (L q ++ [39]) = quoL (L p.text)) := Lib.hid (by rw [hqd, L_S]; exact replace_quo _)
      have CR : Hid (∀ X, Below W.heap.size W X → Calls Tryd.prog 70 #[.string p.text, .string ⟨#[39]⟩, .string ⟨#[39, 92, 39, 39]⟩] X fun e w' => e = .returned (.string q) ∧ Below X.heap.size X w') := Lib.hid fun X hX => by
        rw [hqd]
        exact Tryd.strings_ReplaceAll p.text ⟨#[39]⟩ ⟨#[39, 92, 39, 39]⟩ cm X (by omega) ((hX.cell (p := ⟨0, 0, none⟩) (show 0 < W.heap.size by omega)).trans hcm) (by decide) (by
          have e : ByteArray.size ⟨#[39, 92, 39, 39]⟩ = 4 := rfl
          rw [e]; omega)
      have hqz2 : q.size ≤ 8388608 := by omega
      have k1 : ∀ V : World, (Op.stringOp .add ⟨#[39]⟩ q).run Tryd.prog V = .ok (.string (⟨#[39]⟩ ++ q)) V := fun V => run_string_add_sum V _ _ (by simp; omega)
      have k2 : ∀ V : World, (Op.stringOp .add (⟨#[39]⟩ ++ q) ⟨#[39]⟩).run Tryd.prog V = .ok (.string (⟨#[39]⟩ ++ q ++ ⟨#[39]⟩)) V := fun V => run_string_add_sum V _ _ (by simp; omega)
      clear hrl hcl hfl hqd
      go_enter_defers Tryd.func57, Tryd.ntmps57
      go_wp2_with fail
      obtain ⟨V, hV⟩ : ∃ V, V = W.alloc (.cells #[.int .i64 p.kind, .bool true, .string p.text, .string p.op, .slice a1 p.word.length c1, .slice a2 p.body.length c2] 28) := ⟨_, rfl⟩
      have HBV : Hid (Below W.heap.size W V) := Lib.hid (by rw [hV]; exact (Below.refl _ _).alloc (Nat.le_refl _) _)
      have HVB : Hid (Blk V W.heap.size 28 #[.int .i64 p.kind, .bool true, .string p.text, .string p.op, .slice a1 p.word.length c1, .slice a2 p.body.length c2]) := Lib.hid (by rw [hV]; exact Blk.new _ _ _)
      have hgV : W.heap.size < V.heap.size := by rw [hV]; simp
      rw [← hV]
      clear hV
      have HWV := Lib.hid (HW.out.below HBV.out)
      have hgb : W.heap.size ≠ b := by have := HW.out.lt; omega
      have HGD : Hid (Value.ownBlock (.slice da ds.length dc) ≠ some W.heap.size) := Lib.hid fun e => by have := HW.out.far _ e; omega
      have HBW : Hid (Below B W V) := Lib.hid (HBV.out.mono HW.out.le)
      have HFV : Hid (Fr W V B b (.slice da ds.length dc) (.slice da ds.length dc)) := Lib.hid (Fr.of_below HBV.out HW.out.le)
      have x0 := HVB.out.cell 0
      have x1 := HVB.out.cell 1
      have x2 := HVB.out.cell 2
      have x3 := HVB.out.cell 3
      have x4 := HVB.out.cell 4
      have x5 := HVB.out.cell 5
      have xl := HVB.out.lt
      simp at x0 x1 x2 x3 x4 x5
      have CR2 : Hid (∀ X, Below V.heap.size V X → Calls Tryd.prog 70 #[.string p.text, .string ⟨#[39]⟩, .string ⟨#[39, 92, 39, 39]⟩] X fun e w' => e = .returned (.string q) ∧ Below V.heap.size V w') := Lib.hid fun X hX => (CR.out X (since hX HBV.out)).mono fun e w' h => ⟨h.1, hX.trans (h.2.mono hX.size)⟩
      have CW : Hid (∀ X (u : ByteArray), Below V.heap.size V X → out.length + u.size ≤ lim → Calls Tryd.prog 24 #[.pointer (some ⟨b, 0, none⟩), .string u] X fun e w' => e = .returned (.tuple #[.int .i64 u.size, .nilIface]) ∧ Wr w' B b (.slice da ds.length dc) (out ++ L u) ds ∧ Fr V w' B b (.slice da ds.length dc) (.slice da ds.length dc) ∧ Blk w' W.heap.size 28 #[.int .i64 p.kind, .bool true, .string p.text, .string p.op, .slice a1 p.word.length c1, .slice a2 p.body.length c2]) := Lib.hid fun X u hX hu => (HWV.out.str (Fr.refl V B b (.slice da ds.length dc)) hX u hu).mono fun e w' ⟨h1, h2, h3⟩ => ⟨h1, h2, h3, h3.blk HVB.out hgb HGD.out (by decide)⟩
      clear CR
      go_region_held3 (fun w' => w'.cell? ⟨W.heap.size, 2, none⟩ = some (.string p.text)) (go_keep)
        (first
          | (go_at_call 70; with_reducible refine (CR2.out _ (by repeat' (first | (with_reducible assumption) | (with_reducible exact Below.refl _ _) | (with_reducible refine below_drewN ?_ _) | (with_reducible refine below_bytes ?_ ?_ _) | (with_reducible refine Below.alloc ?_ ?_ _) | (with_reducible refine Below.drew ?_) | (with_reducible refine Below.setCell ?_ ?_ _) | go_size))).mono ?_; rintro e w1 ⟨rfl, hb1⟩; have d2 := (hb1.cell hgV).trans x2)
          | (go_at_call 24; with_reducible refine (CW.out _ _ (by repeat' (first | (with_reducible assumption) | (with_reducible exact Below.refl _ _) | (with_reducible refine below_drewN ?_ _) | (with_reducible refine below_bytes ?_ ?_ _) | (with_reducible refine Below.alloc ?_ ?_ _) | (with_reducible refine Below.drew ?_) | (with_reducible refine Below.setCell ?_ ?_ _) | go_size)) ?_).mono ?_; (have := HZ.out; simp; omega); rintro e w2 ⟨rfl, hw2, hf2, hk2⟩; have d2 := hk2.cell 2; simp at d2))
      all_goals
        go_wp2_with fail
        have he : out ++ quoL (L p.text) = out ++ L (⟨#[39]⟩ ++ q ++ ⟨#[39]⟩) := by rw [← HQ.out]; simp [L_append]
        exact ⟨_, results_none rfl _ _ _, rfl, by
          rw [HE.out, putS]
          have := Shown.of hw2 ((Fr.of_below HBV.out HW.out.le).trans hf2)
          rw [← he] at this
          exact this⟩
    | false =>
      have HE : Hid (r = putS (stOf out ds) (L p.text)) := Lib.hid (by rw [← HR.out, hk1, hq]; rfl)
      have HZ : Hid (out.length + p.text.size ≤ lim) := Lib.hid (by have := HLEN.out; rw [HE.out, putS] at this; simpa [stOf, L_size] using this)
      go_enter_defers Tryd.func57, Tryd.ntmps57
      go_wp2_with fail
      obtain ⟨V, hV⟩ : ∃ V, V = W.alloc (.cells #[.int .i64 p.kind, .bool false, .string p.text, .string p.op, .slice a1 p.word.length c1, .slice a2 p.body.length c2] 28) := ⟨_, rfl⟩
      have HBV : Hid (Below W.heap.size W V) := Lib.hid (by rw [hV]; exact (Below.refl _ _).alloc (Nat.le_refl _) _)
      have HVB : Hid (Blk V W.heap.size 28 #[.int .i64 p.kind, .bool false, .string p.text, .string p.op, .slice a1 p.word.length c1, .slice a2 p.body.length c2]) := Lib.hid (by rw [hV]; exact Blk.new _ _ _)
      have hgV : W.heap.size < V.heap.size := by rw [hV]; simp
      rw [← hV]
      clear hV
      have HWV := Lib.hid (HW.out.below HBV.out)
      have hgb : W.heap.size ≠ b := by have := HW.out.lt; omega
      have HGD : Hid (Value.ownBlock (.slice da ds.length dc) ≠ some W.heap.size) := Lib.hid fun e => by have := HW.out.far _ e; omega
      have HBW : Hid (Below B W V) := Lib.hid (HBV.out.mono HW.out.le)
      have HFV : Hid (Fr W V B b (.slice da ds.length dc) (.slice da ds.length dc)) := Lib.hid (Fr.of_below HBV.out HW.out.le)
      have x0 := HVB.out.cell 0
      have x1 := HVB.out.cell 1
      have x2 := HVB.out.cell 2
      have x3 := HVB.out.cell 3
      have x4 := HVB.out.cell 4
      have x5 := HVB.out.cell 5
      have xl := HVB.out.lt
      simp at x0 x1 x2 x3 x4 x5
      go_still_tail 5, (by kernel_rfl)
      go_wp2_with fail
      skip
      refine (HWV.out.str HFV.out (by repeat' (first | (with_reducible assumption) | (with_reducible exact Below.refl _ _) | (with_reducible refine below_drewN ?_ _) | (with_reducible refine below_bytes ?_ ?_ _) | (with_reducible refine Below.alloc ?_ ?_ _) | (with_reducible refine Below.drew ?_) | (with_reducible refine Below.setCell ?_ ?_ _) | go_size)) _ (by have := HZ.out; simp; omega)).mono ?_
      rintro e w1 ⟨rfl, hw0, hf0⟩
      have HWw1 := Lib.hid hw0
      have HFw1 := Lib.hid hf0
      clear hw0 hf0
      go_wp2_with fail
      exact ⟨_, results_none rfl _ _ _, rfl, by
        rw [HE.out, putS]
        exact Shown.of HWw1.out HFw1.out⟩
  | false =>
    cases hk2 : (p.kind == 2) with
    | true =>
      cases hq : p.quoted with
      | false =>
        have HE : Hid (r = coreS ww wl (stOf out ds) p) := Lib.hid (by rw [← HR.out, hk1, hq]; rfl)
        rw [hq] at HC
        go_enter_defers Tryd.func57, Tryd.ntmps57
        go_wp2_with fail
        obtain ⟨V, hV⟩ : ∃ V, V = W.alloc (.cells #[.int .i64 p.kind, .bool false, .string p.text, .string p.op, .slice a1 p.word.length c1, .slice a2 p.body.length c2] 28) := ⟨_, rfl⟩
        have HBV : Hid (Below W.heap.size W V) := Lib.hid (by rw [hV]; exact (Below.refl _ _).alloc (Nat.le_refl _) _)
        have HVB : Hid (Blk V W.heap.size 28 #[.int .i64 p.kind, .bool false, .string p.text, .string p.op, .slice a1 p.word.length c1, .slice a2 p.body.length c2]) := Lib.hid (by rw [hV]; exact Blk.new _ _ _)
        have hgV : W.heap.size < V.heap.size := by rw [hV]; simp
        rw [← hV]
        clear hV
        have HWV := Lib.hid (HW.out.below HBV.out)
        have hgb : W.heap.size ≠ b := by have := HW.out.lt; omega
        have HGD : Hid (Value.ownBlock (.slice da ds.length dc) ≠ some W.heap.size) := Lib.hid fun e => by have := HW.out.far _ e; omega
        have HBW : Hid (Below B W V) := Lib.hid (HBV.out.mono HW.out.le)
        have HFV : Hid (Fr W V B b (.slice da ds.length dc) (.slice da ds.length dc)) := Lib.hid (Fr.of_below HBV.out HW.out.le)
        have x0 := HVB.out.cell 0
        have x1 := HVB.out.cell 1
        have x2 := HVB.out.cell 2
        have x3 := HVB.out.cell 3
        have x4 := HVB.out.cell 4
        have x5 := HVB.out.cell 5
        have xl := HVB.out.lt
        simp at x0 x1 x2 x3 x4 x5
        have HWU := HWV
        have HFU := HFV
        have HUB := HVB
        have HBU := HBW
        have HLC : Hid ((coreS ww wl (stOf (out) ds) p).1.length ≤ lim) := Lib.hid (by
          have := HLEN.out
          rw [HE.out] at this
          exact this)
        obtain ⟨cdoc, fdoc⟩ := HWU.out.docs
        have HCR : Hid (coreS ww wl (stOf (out) ds) p = bif p.kind == 2 then paramS ww (stOf (out) ds) p else bif p.kind == 3 then ((wl (stOf ((out) ++ [36, 40, 10]) []) p.body).1 ++ [41], (stOf (out) ds).2) else putS (stOf (out) ds) ([36, 40, 40] ++ L p.text ++ [41, 41])) := Lib.hid rfl
        obtain ⟨s1, hs1⟩ : ∃ s, coreS ww wl (stOf (out) ds) p = s := ⟨_, rfl⟩
        rw [hs1] at HLC HCR HE
        have HS1 := Lib.hid hs1
        clear hs1
        have HC1 : Hid (s1 = paramS ww (stOf (out) ds) p) := Lib.hid (by rw [HCR.out, hk2]; rfl)
        have CP : Hid (∀ X, Below (V).heap.size V X → Calls Tryd.prog 71 #[.pointer (some ⟨b, 0, none⟩), .agg #[.int .i64 p.kind, .bool false, .string p.text, .string p.op, .slice a1 p.word.length c1, .slice a2 p.body.length c2]] X fun e w' => e = .returned (.tuple #[]) ∧ Shown W B b (.slice da ds.length dc) s1 w') := Lib.hid fun X hX =>
          (wparam_any d ww fw HGW.out HWW.out p _ (HH.out.below (HBU.out.trans (hX.mono HWU.out.le))) (HWU.out.below hX) (HC.out.keep fun _ _ _ _ hs => hs.below (HBU.out.trans (hX.mono HWU.out.le))) HF.out.1 (by rw [← HC1.out]; exact HLC.out)).mono fun e w' ⟨g1, g2⟩ => ⟨g1, by rw [HC1.out]; exact g2.after (HFU.out.later hX HWU.out.le)⟩
        go_wp2_with fail
        refine (CP.out _ (by repeat' (first | (with_reducible assumption) | (with_reducible exact Below.refl _ _) | (with_reducible refine below_drewN ?_ _) | (with_reducible refine below_bytes ?_ ?_ _) | (with_reducible refine Below.alloc ?_ ?_ _) | (with_reducible refine Below.drew ?_) | (with_reducible refine Below.setCell ?_ ?_ _) | go_size))).mono ?_
        rintro e w5 ⟨rfl, hs5⟩
        have HS5 := Lib.hid hs5
        clear hs5
        go_wp2_with fail
        exact ⟨_, results_none rfl _ _ _, rfl, by rw [HE.out]; exact HS5.out⟩
      | true =>
        have HE : Hid (r = putS (coreS ww wl (stOf (out ++ [34]) ds) p) [34]) := Lib.hid (by rw [← HR.out, hk1, hq]; rfl)
        rw [hq] at HC
        have HZQ : Hid ((coreS ww wl (stOf (out ++ [34]) ds) p).1.length + 1 ≤ lim) := Lib.hid (by have := HLEN.out; rw [HE.out, putS] at this; simpa using this)
        have HZ0 : Hid (out.length + 1 ≤ lim) := Lib.hid (by
          have g1 := coreS_grow HGW.out HGL.out (stOf (out ++ [34]) ds) p
          have g2 := HZQ.out
          simp only [stOf, List.length_append, List.length_cons, List.length_nil] at g1 g2 ⊢
          omega)
        go_enter_defers Tryd.func57, Tryd.ntmps57
        go_wp2_with fail
        obtain ⟨V, hV⟩ : ∃ V, V = W.alloc (.cells #[.int .i64 p.kind, .bool true, .string p.text, .string p.op, .slice a1 p.word.length c1, .slice a2 p.body.length c2] 28) := ⟨_, rfl⟩
        have HBV : Hid (Below W.heap.size W V) := Lib.hid (by rw [hV]; exact (Below.refl _ _).alloc (Nat.le_refl _) _)
        have HVB : Hid (Blk V W.heap.size 28 #[.int .i64 p.kind, .bool true, .string p.text, .string p.op, .slice a1 p.word.length c1, .slice a2 p.body.length c2]) := Lib.hid (by rw [hV]; exact Blk.new _ _ _)
        have hgV : W.heap.size < V.heap.size := by rw [hV]; simp
        rw [← hV]
        clear hV
        have HWV := Lib.hid (HW.out.below HBV.out)
        have hgb : W.heap.size ≠ b := by have := HW.out.lt; omega
        have HGD : Hid (Value.ownBlock (.slice da ds.length dc) ≠ some W.heap.size) := Lib.hid fun e => by have := HW.out.far _ e; omega
        have HBW : Hid (Below B W V) := Lib.hid (HBV.out.mono HW.out.le)
        have HFV : Hid (Fr W V B b (.slice da ds.length dc) (.slice da ds.length dc)) := Lib.hid (Fr.of_below HBV.out HW.out.le)
        have x0 := HVB.out.cell 0
        have x1 := HVB.out.cell 1
        have x2 := HVB.out.cell 2
        have x3 := HVB.out.cell 3
        have x4 := HVB.out.cell 4
        have x5 := HVB.out.cell 5
        have xl := HVB.out.lt
        simp at x0 x1 x2 x3 x4 x5
        refine (HWV.out.byte (Fr.refl V B b (.slice da ds.length dc)) (by repeat' (first | (with_reducible assumption) | (with_reducible exact Below.refl _ _) | (with_reducible refine below_drewN ?_ _) | (with_reducible refine below_bytes ?_ ?_ _) | (with_reducible refine Below.alloc ?_ ?_ _) | (with_reducible refine Below.drew ?_) | (with_reducible refine Below.setCell ?_ ?_ _) | go_size)) 34 HZ0.out).mono ?_
        rintro e w1 ⟨rfl, hw1, hf1⟩
        have HWU := Lib.hid hw1
        have HFU := Lib.hid (HFV.out.trans hf1)
        have HUB := Lib.hid (hf1.blk HVB.out hgb HGD.out (by decide))
        have HBU := Lib.hid (HBW.out.trans hf1.low)
        clear hw1 hf1 x0 x1 x2 x3 x4 x5
        have x0 := HUB.out.cell 0
        have x1 := HUB.out.cell 1
        have x2 := HUB.out.cell 2
        have x3 := HUB.out.cell 3
        have x4 := HUB.out.cell 4
        have x5 := HUB.out.cell 5
        have xl := HUB.out.lt
        simp at x0 x1 x2 x3 x4 x5
        have CD : Hid (∀ X, Shown W B b (.slice da ds.length dc) (coreS ww wl (stOf (out ++ [34]) ds) p) X → CallsD Tryd.prog 27 #[.pointer (some ⟨b, 0, none⟩), .int .u8 34] .returning X fun e u' w' => u' = .returning ∧ e = .returned .nilIface ∧ Shown W B b (.slice da ds.length dc) r w') := Lib.hid fun X hX => by
          obtain ⟨dv5, ds5, hw5, hst5, hf5⟩ := shown_st hX
          refine (writeBD hw5 34 (by have := HZQ.out; unfold lim at this; omega) .returning).mono ?_
          rintro e u' w'' ⟨rfl, rfl, hw6, hf6⟩
          refine ⟨rfl, rfl, ?_⟩
          rw [HE.out, putS, ← hst5]
          exact Shown.of hw6 (hf5.trans hf6)
        have HLC : Hid ((coreS ww wl (stOf (out ++ [34]) ds) p).1.length ≤ lim) := Lib.hid (by
          have := HLEN.out
          rw [HE.out] at this
          exact Nat.le_trans (putS_grow _ _) this)
        obtain ⟨cdoc, fdoc⟩ := HWU.out.docs
        have HCR : Hid (coreS ww wl (stOf (out ++ [34]) ds) p = bif p.kind == 2 then paramS ww (stOf (out ++ [34]) ds) p else bif p.kind == 3 then ((wl (stOf ((out ++ [34]) ++ [36, 40, 10]) []) p.body).1 ++ [41], (stOf (out ++ [34]) ds).2) else putS (stOf (out ++ [34]) ds) ([36, 40, 40] ++ L p.text ++ [41, 41])) := Lib.hid rfl
        obtain ⟨s1, hs1⟩ : ∃ s, coreS ww wl (stOf (out ++ [34]) ds) p = s := ⟨_, rfl⟩
        rw [hs1] at HLC HCR HE
        have HS1 := Lib.hid hs1
        clear hs1
        have HC1 : Hid (s1 = paramS ww (stOf (out ++ [34]) ds) p) := Lib.hid (by rw [HCR.out, hk2]; rfl)
        have CP : Hid (∀ X, Below (w1).heap.size w1 X → Calls Tryd.prog 71 #[.pointer (some ⟨b, 0, none⟩), .agg #[.int .i64 p.kind, .bool true, .string p.text, .string p.op, .slice a1 p.word.length c1, .slice a2 p.body.length c2]] X fun e w' => e = .returned (.tuple #[]) ∧ Shown W B b (.slice da ds.length dc) s1 w') := Lib.hid fun X hX =>
          (wparam_any d ww fw HGW.out HWW.out p _ (HH.out.below (HBU.out.trans (hX.mono HWU.out.le))) (HWU.out.below hX) (HC.out.keep fun _ _ _ _ hs => hs.below (HBU.out.trans (hX.mono HWU.out.le))) HF.out.1 (by rw [← HC1.out]; exact HLC.out)).mono fun e w' ⟨g1, g2⟩ => ⟨g1, by rw [HC1.out]; exact g2.after (HFU.out.later hX HWU.out.le)⟩
        go_wp2_with fail
        refine (CP.out _ (by repeat' (first | (with_reducible assumption) | (with_reducible exact Below.refl _ _) | (with_reducible refine below_drewN ?_ _) | (with_reducible refine below_bytes ?_ ?_ _) | (with_reducible refine Below.alloc ?_ ?_ _) | (with_reducible refine Below.drew ?_) | (with_reducible refine Below.setCell ?_ ?_ _) | go_size))).mono ?_
        rintro e w5 ⟨rfl, hs5⟩
        have HS5 := Lib.hid hs5
        clear hs5
        go_wp2_with fail
        (refine leaves_cons (f := 27) (args := #[.pointer (some ⟨b, 0, none⟩), .int .u8 34]) (by simp) (by simp [go_sem]) ?_; refine (CD.out _ (by rw [HS1.out]; exact HS5.out)).mono ?_; rintro e u' w'' ⟨rfl, rfl, hs6⟩; exact ⟨_, results_none rfl _ _ _, rfl, hs6⟩)
    | false =>
      cases hk3 : (p.kind == 3) with
      | true =>
        cases hq : p.quoted with
        | false =>
          have HE : Hid (r = coreS ww wl (stOf out ds) p) := Lib.hid (by rw [← HR.out, hk1, hq]; rfl)
          rw [hq] at HC
          go_enter_defers Tryd.func57, Tryd.ntmps57
          go_upto_region 13 with fail
          obtain ⟨V, hV⟩ : ∃ V, V = W.alloc (.cells #[.int .i64 p.kind, .bool false, .string p.text, .string p.op, .slice a1 p.word.length c1, .slice a2 p.body.length c2] 28) := ⟨_, rfl⟩
          have HBV : Hid (Below W.heap.size W V) := Lib.hid (by rw [hV]; exact (Below.refl _ _).alloc (Nat.le_refl _) _)
          have HVB : Hid (Blk V W.heap.size 28 #[.int .i64 p.kind, .bool false, .string p.text, .string p.op, .slice a1 p.word.length c1, .slice a2 p.body.length c2]) := Lib.hid (by rw [hV]; exact Blk.new _ _ _)
          have hgV : W.heap.size < V.heap.size := by rw [hV]; simp
          rw [← hV]
          clear hV
          have HWV := Lib.hid (HW.out.below HBV.out)
          have hgb : W.heap.size ≠ b := by have := HW.out.lt; omega
          have HGD : Hid (Value.ownBlock (.slice da ds.length dc) ≠ some W.heap.size) := Lib.hid fun e => by have := HW.out.far _ e; omega
          have HBW : Hid (Below B W V) := Lib.hid (HBV.out.mono HW.out.le)
          have HFV : Hid (Fr W V B b (.slice da ds.length dc) (.slice da ds.length dc)) := Lib.hid (Fr.of_below HBV.out HW.out.le)
          have x0 := HVB.out.cell 0
          have x1 := HVB.out.cell 1
          have x2 := HVB.out.cell 2
          have x3 := HVB.out.cell 3
          have x4 := HVB.out.cell 4
          have x5 := HVB.out.cell 5
          have xl := HVB.out.lt
          simp at x0 x1 x2 x3 x4 x5
          have HWU := HWV
          have HFU := HFV
          have HUB := HVB
          have HBU := HBW
          have HLC : Hid ((coreS ww wl (stOf (out) ds) p).1.length ≤ lim) := Lib.hid (by
            have := HLEN.out
            rw [HE.out] at this
            exact this)
          obtain ⟨cdoc, fdoc⟩ := HWU.out.docs
          have HCR : Hid (coreS ww wl (stOf (out) ds) p = bif p.kind == 2 then paramS ww (stOf (out) ds) p else bif p.kind == 3 then ((wl (stOf ((out) ++ [36, 40, 10]) []) p.body).1 ++ [41], (stOf (out) ds).2) else putS (stOf (out) ds) ([36, 40, 40] ++ L p.text ++ [41, 41])) := Lib.hid rfl
          obtain ⟨s1, hs1⟩ : ∃ s, coreS ww wl (stOf (out) ds) p = s := ⟨_, rfl⟩
          rw [hs1] at HLC HCR HE
          have HS1 := Lib.hid hs1
          clear hs1
          have HC1 : Hid (s1 = ((wl (stOf ((out) ++ [36, 40, 10]) []) p.body).1 ++ [41], (stOf (out) ds).2)) := Lib.hid (by rw [HCR.out, hk2, hk3]; rfl)
          have HZ2 : Hid ((wl (stOf ((out) ++ [36, 40, 10]) []) p.body).1.length + 1 ≤ lim) := Lib.hid (by have := HLC.out; rw [HC1.out] at this; simpa using this)
          have HZ1 : Hid ((out).length + 3 ≤ lim) := Lib.hid (by
            have g1 := HGL.out (stOf ((out) ++ [36, 40, 10]) []) p.body
            have g2 := HZ2.out
            simp only [stOf, List.length_append, List.length_cons, List.length_nil] at g1 g2 ⊢
            omega)
          have hcl := HWU.out.clear
          have HWC := Lib.hid hcl.1
          have HFC := Lib.hid (HFU.out.trans hcl.2)
          have hx5 : (V).cell? ⟨W.heap.size, 5, none⟩ = some (.slice a2 p.body.length c2) := x5
          obtain ⟨U1, hU1⟩ : ∃ U1, U1 = (V).setCell ⟨b, 2, none⟩ (.slice none 0 0) := ⟨_, rfl⟩
          have HBC : Hid (Blk U1 W.heap.size 28 #[.int .i64 p.kind, .bool false, .string p.text, .string p.op, .slice a1 p.word.length c1, .slice a2 p.body.length c2]) := Lib.hid (by rw [hU1]; exact HUB.out.far hgb _)
          rw [← hU1] at HWC HFC
          have HU1 := Lib.hid hU1
          clear hU1 hcl
          go_wp2_with fail
          rw [← HU1.out]
          refine (HWC.out.str (Fr.refl U1 B b _) (Below.refl _ _) _ (by have := HZ1.out; simp at this ⊢; omega)).mono ?_
          rintro e w2 ⟨rfl, hw2, hf2⟩
          have HW2 := Lib.hid hw2
          have HF2 := Lib.hid hf2
          have HK2 := Lib.hid (hf2.blk HBC.out hgb (by simp [Value.ownBlock]) (by decide))
          have z5 := HK2.out.cell 5
          simp at z5
          have HBU2 : Hid (Below B W w2) := Lib.hid (HFC.out.low.trans HF2.out.low)
          have CL := Lib.hid (HWL.out w2 B b _ _ [] p.body _ (HH.out.below HBU2.out) HW2.out (HBD.out.below HBU2.out) HF.out.2 (by have := HZ2.out; simp at this ⊢; omega))
          clear hw2 hf2 x0 x1 x2 x3 x4 x5 hx5 cdoc fdoc
          go_wp2_with fail
          refine CL.out.mono ?_
          rintro e w3 ⟨rfl, hs3⟩
          obtain ⟨dv3, ds3, hw3, hst3, hf3⟩ := shown_st hs3
          have HW3 := Lib.hid hw3
          have HST3 := Lib.hid hst3
          have HF3 := Lib.hid (HF2.out.trans hf3)
          clear hs3 hw3 hst3 hf3
          go_wp2_with fail
          refine (HW3.out.byte HF3.out (Below.refl _ _) 41 (by have := HZ2.out; simp [stOf] at this ⊢; omega)).mono ?_
          rintro e w4 ⟨rfl, hw4, hf4⟩
          have HW4 := Lib.hid hw4
          have HF4 := Lib.hid hf4
          obtain ⟨cdoc, fdoc⟩ := hw4.docs
          clear hw4 hf4
          have HBK : Hid (Wr (w4.setCell ⟨b, 2, none⟩ (.slice da ds.length dc)) B b (.slice da ds.length dc) ((wl (stOf ((out) ++ [36, 40, 10]) []) p.body).1 ++ [41]) ds) := Lib.hid (by
            have hle : (out).length ≤ (wl (stOf ((out) ++ [36, 40, 10]) []) p.body).1.length + 1 := by
              have g1 := HGL.out (stOf ((out) ++ [36, 40, 10]) []) p.body
              simp only [stOf, List.length_append, List.length_cons, List.length_nil] at g1 ⊢
              omega
            have h1 := HWU.out.back (by rw [← HU1.out]; exact HF4.out) HW4.out
            simp only [List.append_assoc, List.cons_append, List.nil_append, List.length_append, List.length_cons, List.length_nil, L_mk, List.map_nil] at h1 hle ⊢
            exact h1 (by simpa using hle))
          have HS5 : Hid (Shown W B b (.slice da ds.length dc) s1 (w4.setCell ⟨b, 2, none⟩ (.slice da ds.length dc))) := Lib.hid (by
            rw [HC1.out]
            exact Shown.of HBK.out ((HFC.out.trans HF4.out).back HWU.out.1))
          go_wp2_with fail
          exact ⟨_, results_none rfl _ _ _, rfl, by rw [HE.out]; exact HS5.out⟩
        | true =>
          have HE : Hid (r = putS (coreS ww wl (stOf (out ++ [34]) ds) p) [34]) := Lib.hid (by rw [← HR.out, hk1, hq]; rfl)
          rw [hq] at HC
          have HZQ : Hid ((coreS ww wl (stOf (out ++ [34]) ds) p).1.length + 1 ≤ lim) := Lib.hid (by have := HLEN.out; rw [HE.out, putS] at this; simpa using this)
          have HZ0 : Hid (out.length + 1 ≤ lim) := Lib.hid (by
            have g1 := coreS_grow HGW.out HGL.out (stOf (out ++ [34]) ds) p
            have g2 := HZQ.out
            simp only [stOf, List.length_append, List.length_cons, List.length_nil] at g1 g2 ⊢
            omega)
          go_enter_defers Tryd.func57, Tryd.ntmps57
          go_wp2_with fail
          obtain ⟨V, hV⟩ : ∃ V, V = W.alloc (.cells #[.int .i64 p.kind, .bool true, .string p.text, .string p.op, .slice a1 p.word.length c1, .slice a2 p.body.length c2] 28) := ⟨_, rfl⟩
          have HBV : Hid (Below W.heap.size W V) := Lib.hid (by rw [hV]; exact (Below.refl _ _).alloc (Nat.le_refl _) _)
          have HVB : Hid (Blk V W.heap.size 28 #[.int .i64 p.kind, .bool true, .string p.text, .string p.op, .slice a1 p.word.length c1, .slice a2 p.body.length c2]) := Lib.hid (by rw [hV]; exact Blk.new _ _ _)
          have hgV : W.heap.size < V.heap.size := by rw [hV]; simp
          rw [← hV]
          clear hV
          have HWV := Lib.hid (HW.out.below HBV.out)
          have hgb : W.heap.size ≠ b := by have := HW.out.lt; omega
          have HGD : Hid (Value.ownBlock (.slice da ds.length dc) ≠ some W.heap.size) := Lib.hid fun e => by have := HW.out.far _ e; omega
          have HBW : Hid (Below B W V) := Lib.hid (HBV.out.mono HW.out.le)
          have HFV : Hid (Fr W V B b (.slice da ds.length dc) (.slice da ds.length dc)) := Lib.hid (Fr.of_below HBV.out HW.out.le)
          have x0 := HVB.out.cell 0
          have x1 := HVB.out.cell 1
          have x2 := HVB.out.cell 2
          have x3 := HVB.out.cell 3
          have x4 := HVB.out.cell 4
          have x5 := HVB.out.cell 5
          have xl := HVB.out.lt
          simp at x0 x1 x2 x3 x4 x5
          refine (HWV.out.byte (Fr.refl V B b (.slice da ds.length dc)) (by repeat' (first | (with_reducible assumption) | (with_reducible exact Below.refl _ _) | (with_reducible refine below_drewN ?_ _) | (with_reducible refine below_bytes ?_ ?_ _) | (with_reducible refine Below.alloc ?_ ?_ _) | (with_reducible refine Below.drew ?_) | (with_reducible refine Below.setCell ?_ ?_ _) | go_size)) 34 HZ0.out).mono ?_
          rintro e w1 ⟨rfl, hw1, hf1⟩
          have HWU := Lib.hid hw1
          have HFU := Lib.hid (HFV.out.trans hf1)
          have HUB := Lib.hid (hf1.blk HVB.out hgb HGD.out (by decide))
          have HBU := Lib.hid (HBW.out.trans hf1.low)
          clear hw1 hf1 x0 x1 x2 x3 x4 x5
          have x0 := HUB.out.cell 0
          have x1 := HUB.out.cell 1
          have x2 := HUB.out.cell 2
          have x3 := HUB.out.cell 3
          have x4 := HUB.out.cell 4
          have x5 := HUB.out.cell 5
          have xl := HUB.out.lt
          simp at x0 x1 x2 x3 x4 x5
          have CD : Hid (∀ X, Shown W B b (.slice da ds.length dc) (coreS ww wl (stOf (out ++ [34]) ds) p) X → CallsD Tryd.prog 27 #[.pointer (some ⟨b, 0, none⟩), .int .u8 34] .returning X fun e u' w' => u' = .returning ∧ e = .returned .nilIface ∧ Shown W B b (.slice da ds.length dc) r w') := Lib.hid fun X hX => by
            obtain ⟨dv5, ds5, hw5, hst5, hf5⟩ := shown_st hX
            refine (writeBD hw5 34 (by have := HZQ.out; unfold lim at this; omega) .returning).mono ?_
            rintro e u' w'' ⟨rfl, rfl, hw6, hf6⟩
            refine ⟨rfl, rfl, ?_⟩
            rw [HE.out, putS, ← hst5]
            exact Shown.of hw6 (hf5.trans hf6)
          have HLC : Hid ((coreS ww wl (stOf (out ++ [34]) ds) p).1.length ≤ lim) := Lib.hid (by
            have := HLEN.out
            rw [HE.out] at this
            exact Nat.le_trans (putS_grow _ _) this)
          obtain ⟨cdoc, fdoc⟩ := HWU.out.docs
          have HCR : Hid (coreS ww wl (stOf (out ++ [34]) ds) p = bif p.kind == 2 then paramS ww (stOf (out ++ [34]) ds) p else bif p.kind == 3 then ((wl (stOf ((out ++ [34]) ++ [36, 40, 10]) []) p.body).1 ++ [41], (stOf (out ++ [34]) ds).2) else putS (stOf (out ++ [34]) ds) ([36, 40, 40] ++ L p.text ++ [41, 41])) := Lib.hid rfl
          obtain ⟨s1, hs1⟩ : ∃ s, coreS ww wl (stOf (out ++ [34]) ds) p = s := ⟨_, rfl⟩
          rw [hs1] at HLC HCR HE
          have HS1 := Lib.hid hs1
          clear hs1
          have HC1 : Hid (s1 = ((wl (stOf ((out ++ [34]) ++ [36, 40, 10]) []) p.body).1 ++ [41], (stOf (out ++ [34]) ds).2)) := Lib.hid (by rw [HCR.out, hk2, hk3]; rfl)
          have HZ2 : Hid ((wl (stOf ((out ++ [34]) ++ [36, 40, 10]) []) p.body).1.length + 1 ≤ lim) := Lib.hid (by have := HLC.out; rw [HC1.out] at this; simpa using this)
          have HZ1 : Hid ((out ++ [34]).length + 3 ≤ lim) := Lib.hid (by
            have g1 := HGL.out (stOf ((out ++ [34]) ++ [36, 40, 10]) []) p.body
            have g2 := HZ2.out
            simp only [stOf, List.length_append, List.length_cons, List.length_nil] at g1 g2 ⊢
            omega)
          have hcl := HWU.out.clear
          have HWC := Lib.hid hcl.1
          have HFC := Lib.hid (HFU.out.trans hcl.2)
          have hx5 : (w1).cell? ⟨W.heap.size, 5, none⟩ = some (.slice a2 p.body.length c2) := x5
          obtain ⟨U1, hU1⟩ : ∃ U1, U1 = (w1).setCell ⟨b, 2, none⟩ (.slice none 0 0) := ⟨_, rfl⟩
          have HBC : Hid (Blk U1 W.heap.size 28 #[.int .i64 p.kind, .bool true, .string p.text, .string p.op, .slice a1 p.word.length c1, .slice a2 p.body.length c2]) := Lib.hid (by rw [hU1]; exact HUB.out.far hgb _)
          rw [← hU1] at HWC HFC
          have HU1 := Lib.hid hU1
          clear hU1 hcl
          go_wp2_with fail
          rw [← HU1.out]
          refine (HWC.out.str (Fr.refl U1 B b _) (Below.refl _ _) _ (by have := HZ1.out; simp at this ⊢; omega)).mono ?_
          rintro e w2 ⟨rfl, hw2, hf2⟩
          have HW2 := Lib.hid hw2
          have HF2 := Lib.hid hf2
          have HK2 := Lib.hid (hf2.blk HBC.out hgb (by simp [Value.ownBlock]) (by decide))
          have z5 := HK2.out.cell 5
          simp at z5
          have HBU2 : Hid (Below B W w2) := Lib.hid (HFC.out.low.trans HF2.out.low)
          have CL := Lib.hid (HWL.out w2 B b _ _ [] p.body _ (HH.out.below HBU2.out) HW2.out (HBD.out.below HBU2.out) HF.out.2 (by have := HZ2.out; simp at this ⊢; omega))
          clear hw2 hf2 x0 x1 x2 x3 x4 x5 hx5 cdoc fdoc
          go_wp2_with fail
          refine CL.out.mono ?_
          rintro e w3 ⟨rfl, hs3⟩
          obtain ⟨dv3, ds3, hw3, hst3, hf3⟩ := shown_st hs3
          have HW3 := Lib.hid hw3
          have HST3 := Lib.hid hst3
          have HF3 := Lib.hid (HF2.out.trans hf3)
          clear hs3 hw3 hst3 hf3
          go_wp2_with fail
          refine (HW3.out.byte HF3.out (Below.refl _ _) 41 (by have := HZ2.out; simp [stOf] at this ⊢; omega)).mono ?_
          rintro e w4 ⟨rfl, hw4, hf4⟩
          have HW4 := Lib.hid hw4
          have HF4 := Lib.hid hf4
          obtain ⟨cdoc, fdoc⟩ := hw4.docs
          clear hw4 hf4
          have HBK : Hid (Wr (w4.setCell ⟨b, 2, none⟩ (.slice da ds.length dc)) B b (.slice da ds.length dc) ((wl (stOf ((out ++ [34]) ++ [36, 40, 10]) []) p.body).1 ++ [41]) ds) := Lib.hid (by
            have hle : (out ++ [34]).length ≤ (wl (stOf ((out ++ [34]) ++ [36, 40, 10]) []) p.body).1.length + 1 := by
              have g1 := HGL.out (stOf ((out ++ [34]) ++ [36, 40, 10]) []) p.body
              simp only [stOf, List.length_append, List.length_cons, List.length_nil] at g1 ⊢
              omega
            have h1 := HWU.out.back (by rw [← HU1.out]; exact HF4.out) HW4.out
            simp only [List.append_assoc, List.cons_append, List.nil_append, List.length_append, List.length_cons, List.length_nil, L_mk, List.map_nil] at h1 hle ⊢
            exact h1 (by simpa using hle))
          have HS5 : Hid (Shown W B b (.slice da ds.length dc) s1 (w4.setCell ⟨b, 2, none⟩ (.slice da ds.length dc))) := Lib.hid (by
            rw [HC1.out]
            exact Shown.of HBK.out ((HFC.out.trans HF4.out).back HWU.out.1))
          go_wp2_with fail
          (refine leaves_cons (f := 27) (args := #[.pointer (some ⟨b, 0, none⟩), .int .u8 34]) (by simp) (by simp [go_sem]) ?_; refine (CD.out _ (by rw [HS1.out]; exact HS5.out)).mono ?_; rintro e u' w'' ⟨rfl, rfl, hs6⟩; exact ⟨_, results_none rfl _ _ _, rfl, hs6⟩)
      | false =>
        cases hq : p.quoted with
        | false =>
          have HE : Hid (r = coreS ww wl (stOf out ds) p) := Lib.hid (by rw [← HR.out, hk1, hq]; rfl)
          rw [hq] at HC
          go_enter_defers Tryd.func57, Tryd.ntmps57
          go_wp2_with fail
          obtain ⟨V, hV⟩ : ∃ V, V = W.alloc (.cells #[.int .i64 p.kind, .bool false, .string p.text, .string p.op, .slice a1 p.word.length c1, .slice a2 p.body.length c2] 28) := ⟨_, rfl⟩
          have HBV : Hid (Below W.heap.size W V) := Lib.hid (by rw [hV]; exact (Below.refl _ _).alloc (Nat.le_refl _) _)
          have HVB : Hid (Blk V W.heap.size 28 #[.int .i64 p.kind, .bool false, .string p.text, .string p.op, .slice a1 p.word.length c1, .slice a2 p.body.length c2]) := Lib.hid (by rw [hV]; exact Blk.new _ _ _)
          have hgV : W.heap.size < V.heap.size := by rw [hV]; simp
          rw [← hV]
          clear hV
          have HWV := Lib.hid (HW.out.below HBV.out)
          have hgb : W.heap.size ≠ b := by have := HW.out.lt; omega
          have HGD : Hid (Value.ownBlock (.slice da ds.length dc) ≠ some W.heap.size) := Lib.hid fun e => by have := HW.out.far _ e; omega
          have HBW : Hid (Below B W V) := Lib.hid (HBV.out.mono HW.out.le)
          have HFV : Hid (Fr W V B b (.slice da ds.length dc) (.slice da ds.length dc)) := Lib.hid (Fr.of_below HBV.out HW.out.le)
          have x0 := HVB.out.cell 0
          have x1 := HVB.out.cell 1
          have x2 := HVB.out.cell 2
          have x3 := HVB.out.cell 3
          have x4 := HVB.out.cell 4
          have x5 := HVB.out.cell 5
          have xl := HVB.out.lt
          simp at x0 x1 x2 x3 x4 x5
          have HWU := HWV
          have HFU := HFV
          have HUB := HVB
          have HBU := HBW
          have HLC : Hid ((coreS ww wl (stOf (out) ds) p).1.length ≤ lim) := Lib.hid (by
            have := HLEN.out
            rw [HE.out] at this
            exact this)
          obtain ⟨cdoc, fdoc⟩ := HWU.out.docs
          have HCR : Hid (coreS ww wl (stOf (out) ds) p = bif p.kind == 2 then paramS ww (stOf (out) ds) p else bif p.kind == 3 then ((wl (stOf ((out) ++ [36, 40, 10]) []) p.body).1 ++ [41], (stOf (out) ds).2) else putS (stOf (out) ds) ([36, 40, 40] ++ L p.text ++ [41, 41])) := Lib.hid rfl
          obtain ⟨s1, hs1⟩ : ∃ s, coreS ww wl (stOf (out) ds) p = s := ⟨_, rfl⟩
          rw [hs1] at HLC HCR HE
          have HS1 := Lib.hid hs1
          clear hs1
          have HC1 : Hid (s1 = putS (stOf (out) ds) ([36, 40, 40] ++ L p.text ++ [41, 41])) := Lib.hid (by rw [HCR.out, hk2, hk3]; rfl)
          have HZ1 : Hid ((out).length + (3 + p.text.size + 2) ≤ lim) := Lib.hid (by
            have g2 := HLC.out
            rw [HC1.out, putS] at g2
            simp only [stOf, List.length_append, List.length_cons, List.length_nil, L_size] at g2 ⊢
            omega)
          have k1 : ∀ V : World, (Op.stringOp .add (⟨#[36, 40, 40]⟩ : ByteArray) p.text).run Tryd.prog V = .ok (.string ((⟨#[36, 40, 40]⟩ : ByteArray) ++ p.text)) V := fun V => run_string_add_sum V _ _ (by simp; omega)
          have k2 : ∀ V : World, (Op.stringOp .add ((⟨#[36, 40, 40]⟩ : ByteArray) ++ p.text) ⟨#[41, 41]⟩).run Tryd.prog V = .ok (.string (((⟨#[36, 40, 40]⟩ : ByteArray) ++ p.text) ++ ⟨#[41, 41]⟩)) V := fun V => run_string_add_sum V _ _ (by simp; omega)
          go_wp2_with fail
          go_still_tail 7, (by kernel_rfl)
          go_wp2_with fail
          refine (HWU.out.str HFU.out (by repeat' (first | (with_reducible assumption) | (with_reducible exact Below.refl _ _) | (with_reducible refine below_drewN ?_ _) | (with_reducible refine below_bytes ?_ ?_ _) | (with_reducible refine Below.alloc ?_ ?_ _) | (with_reducible refine Below.drew ?_) | (with_reducible refine Below.setCell ?_ ?_ _) | go_size)) _ (by have := HZ1.out; simp at this ⊢; omega)).mono ?_
          rintro e w5 ⟨rfl, hw5, hf5⟩
          have HS5 : Hid (Shown W B b (.slice da ds.length dc) s1 w5) := Lib.hid (by
            rw [HC1.out, putS]
            have := Shown.of hw5 hf5
            simpa [stOf, L_append] using this)
          clear hw5 hf5
          go_wp2_with fail
          exact ⟨_, results_none rfl _ _ _, rfl, by rw [HE.out]; exact HS5.out⟩
        | true =>
          have HE : Hid (r = putS (coreS ww wl (stOf (out ++ [34]) ds) p) [34]) := Lib.hid (by rw [← HR.out, hk1, hq]; rfl)
          rw [hq] at HC
          have HZQ : Hid ((coreS ww wl (stOf (out ++ [34]) ds) p).1.length + 1 ≤ lim) := Lib.hid (by have := HLEN.out; rw [HE.out, putS] at this; simpa using this)
          have HZ0 : Hid (out.length + 1 ≤ lim) := Lib.hid (by
            have g1 := coreS_grow HGW.out HGL.out (stOf (out ++ [34]) ds) p
            have g2 := HZQ.out
            simp only [stOf, List.length_append, List.length_cons, List.length_nil] at g1 g2 ⊢
            omega)
          go_enter_defers Tryd.func57, Tryd.ntmps57
          go_wp2_with fail
          obtain ⟨V, hV⟩ : ∃ V, V = W.alloc (.cells #[.int .i64 p.kind, .bool true, .string p.text, .string p.op, .slice a1 p.word.length c1, .slice a2 p.body.length c2] 28) := ⟨_, rfl⟩
          have HBV : Hid (Below W.heap.size W V) := Lib.hid (by rw [hV]; exact (Below.refl _ _).alloc (Nat.le_refl _) _)
          have HVB : Hid (Blk V W.heap.size 28 #[.int .i64 p.kind, .bool true, .string p.text, .string p.op, .slice a1 p.word.length c1, .slice a2 p.body.length c2]) := Lib.hid (by rw [hV]; exact Blk.new _ _ _)
          have hgV : W.heap.size < V.heap.size := by rw [hV]; simp
          rw [← hV]
          clear hV
          have HWV := Lib.hid (HW.out.below HBV.out)
          have hgb : W.heap.size ≠ b := by have := HW.out.lt; omega
          have HGD : Hid (Value.ownBlock (.slice da ds.length dc) ≠ some W.heap.size) := Lib.hid fun e => by have := HW.out.far _ e; omega
          have HBW : Hid (Below B W V) := Lib.hid (HBV.out.mono HW.out.le)
          have HFV : Hid (Fr W V B b (.slice da ds.length dc) (.slice da ds.length dc)) := Lib.hid (Fr.of_below HBV.out HW.out.le)
          have x0 := HVB.out.cell 0
          have x1 := HVB.out.cell 1
          have x2 := HVB.out.cell 2
          have x3 := HVB.out.cell 3
          have x4 := HVB.out.cell 4
          have x5 := HVB.out.cell 5
          have xl := HVB.out.lt
          simp at x0 x1 x2 x3 x4 x5
          refine (HWV.out.byte (Fr.refl V B b (.slice da ds.length dc)) (by repeat' (first | (with_reducible assumption) | (with_reducible exact Below.refl _ _) | (with_reducible refine below_drewN ?_ _) | (with_reducible refine below_bytes ?_ ?_ _) | (with_reducible refine Below.alloc ?_ ?_ _) | (with_reducible refine Below.drew ?_) | (with_reducible refine Below.setCell ?_ ?_ _) | go_size)) 34 HZ0.out).mono ?_
          rintro e w1 ⟨rfl, hw1, hf1⟩
          have HWU := Lib.hid hw1
          have HFU := Lib.hid (HFV.out.trans hf1)
          have HUB := Lib.hid (hf1.blk HVB.out hgb HGD.out (by decide))
          have HBU := Lib.hid (HBW.out.trans hf1.low)
          clear hw1 hf1 x0 x1 x2 x3 x4 x5
          have x0 := HUB.out.cell 0
          have x1 := HUB.out.cell 1
          have x2 := HUB.out.cell 2
          have x3 := HUB.out.cell 3
          have x4 := HUB.out.cell 4
          have x5 := HUB.out.cell 5
          have xl := HUB.out.lt
          simp at x0 x1 x2 x3 x4 x5
          have CD : Hid (∀ X, Shown W B b (.slice da ds.length dc) (coreS ww wl (stOf (out ++ [34]) ds) p) X → CallsD Tryd.prog 27 #[.pointer (some ⟨b, 0, none⟩), .int .u8 34] .returning X fun e u' w' => u' = .returning ∧ e = .returned .nilIface ∧ Shown W B b (.slice da ds.length dc) r w') := Lib.hid fun X hX => by
            obtain ⟨dv5, ds5, hw5, hst5, hf5⟩ := shown_st hX
            refine (writeBD hw5 34 (by have := HZQ.out; unfold lim at this; omega) .returning).mono ?_
            rintro e u' w'' ⟨rfl, rfl, hw6, hf6⟩
            refine ⟨rfl, rfl, ?_⟩
            rw [HE.out, putS, ← hst5]
            exact Shown.of hw6 (hf5.trans hf6)
          have HLC : Hid ((coreS ww wl (stOf (out ++ [34]) ds) p).1.length ≤ lim) := Lib.hid (by
            have := HLEN.out
            rw [HE.out] at this
            exact Nat.le_trans (putS_grow _ _) this)
          obtain ⟨cdoc, fdoc⟩ := HWU.out.docs
          have HCR : Hid (coreS ww wl (stOf (out ++ [34]) ds) p = bif p.kind == 2 then paramS ww (stOf (out ++ [34]) ds) p else bif p.kind == 3 then ((wl (stOf ((out ++ [34]) ++ [36, 40, 10]) []) p.body).1 ++ [41], (stOf (out ++ [34]) ds).2) else putS (stOf (out ++ [34]) ds) ([36, 40, 40] ++ L p.text ++ [41, 41])) := Lib.hid rfl
          obtain ⟨s1, hs1⟩ : ∃ s, coreS ww wl (stOf (out ++ [34]) ds) p = s := ⟨_, rfl⟩
          rw [hs1] at HLC HCR HE
          have HS1 := Lib.hid hs1
          clear hs1
          have HC1 : Hid (s1 = putS (stOf (out ++ [34]) ds) ([36, 40, 40] ++ L p.text ++ [41, 41])) := Lib.hid (by rw [HCR.out, hk2, hk3]; rfl)
          have HZ1 : Hid ((out ++ [34]).length + (3 + p.text.size + 2) ≤ lim) := Lib.hid (by
            have g2 := HLC.out
            rw [HC1.out, putS] at g2
            simp only [stOf, List.length_append, List.length_cons, List.length_nil, L_size] at g2 ⊢
            omega)
          have k1 : ∀ V : World, (Op.stringOp .add (⟨#[36, 40, 40]⟩ : ByteArray) p.text).run Tryd.prog V = .ok (.string ((⟨#[36, 40, 40]⟩ : ByteArray) ++ p.text)) V := fun V => run_string_add_sum V _ _ (by simp; omega)
          have k2 : ∀ V : World, (Op.stringOp .add ((⟨#[36, 40, 40]⟩ : ByteArray) ++ p.text) ⟨#[41, 41]⟩).run Tryd.prog V = .ok (.string (((⟨#[36, 40, 40]⟩ : ByteArray) ++ p.text) ++ ⟨#[41, 41]⟩)) V := fun V => run_string_add_sum V _ _ (by simp; omega)
          go_wp2_with fail
          go_still_tail 7, (by kernel_rfl)
          go_wp2_with fail
          refine (HWU.out.str HFU.out (by repeat' (first | (with_reducible assumption) | (with_reducible exact Below.refl _ _) | (with_reducible refine below_drewN ?_ _) | (with_reducible refine below_bytes ?_ ?_ _) | (with_reducible refine Below.alloc ?_ ?_ _) | (with_reducible refine Below.drew ?_) | (with_reducible refine Below.setCell ?_ ?_ _) | go_size)) _ (by have := HZ1.out; simp at this ⊢; omega)).mono ?_
          rintro e w5 ⟨rfl, hw5, hf5⟩
          have HS5 : Hid (Shown W B b (.slice da ds.length dc) s1 w5) := Lib.hid (by
            rw [HC1.out, putS]
            have := Shown.of hw5 hf5
            simpa [stOf, L_append] using this)
          clear hw5 hf5
          go_wp2_with fail
          (refine leaves_cons (f := 27) (args := #[.pointer (some ⟨b, 0, none⟩), .int .u8 34]) (by simp) (by simp [go_sem]) ?_; refine (CD.out _ (by rw [HS1.out]; exact HS5.out)).mono ?_; rintro e u' w'' ⟨rfl, rfl, hs6⟩; exact ⟨_, results_none rfl _ _ _, rfl, hs6⟩)
end Go.Proofs.YtnackmnoldkihaaDoor
namespace Go.Proofs.YtnackmnoldkihaaDoor
open Go.RowKit

section
variable {w : World} {size : Nat}
/-- The same at a step of a region that draws its order. -/
theorem step_append_sl {P : Program} {ops : Array Oper} {o : Oper} {a : Act} {K : Act → World → Prop} {Q : Exit → Act → World → Prop} {E : Prop} (hgd : o.guard = none) (s x : Operand) (t : TypeId)
    (ho : o.op = .call { callee := .builtin .append, args := #[s, x], argTypes := #[t, t] }) (base : Nat) (e : TypeId) {z : Value} {bytes : Nat} (ht : P.underlying t = some (.slice e))
    (hinfo : (P.info? e).map (fun i => (i.zero, i.size, i.bytes)) = some (some z, size, bytes)) (hzs : z.cells.size = size) (hsz : 0 < size)
    {v : Value} {n : Nat} {xs : List Value} (hs : a.eval s = v) (hown : w.ownsRow base e size v n xs) {vx : Value} {m : Nat} {news : List Value} {B : Nat} (hx : a.eval x = vx) (hsl : Sl w B size vx m news) (hne : 0 < m) (h1 : ∀ u ∈ news, u.oneCell' = true)
    (hlen : (n + m) * (bytes + 1) ≤ 140737488355328) (hbase : base ≤ w.heap.size)
    (h : ∀ g cap w', w'.ownsRow base e size (.slice (some ⟨g, 0, none⟩) (n + m) cap) (n + m) (xs ++ news) → w.grownBy w' v.ownBlock → (v.ownBlock = some g ∨ g = w.heap.size) → g < w'.heap.size → K (a.put o.dst (.slice (some ⟨g, 0, none⟩) (n + m) cap)) w') :
    if Region.wanted o (yielded ops a.tmps) = true then Oper.wp P o a w K Q else E := by
  obtain ⟨i0, hi, hz0, hz1, hz2⟩ := info_parts hinfo
  obtain ⟨k1, ax, cx, rfl, k3, k4, k5⟩ := hsl
  rcases k5 with k5 | ⟨b, off, rfl, kB, kc⟩
  · omega
  have hb1 : (n + m) * bytes ≤ 140737488355328 := Nat.le_trans (Nat.mul_le_mul_left _ (by omega)) hlen
  have hb2 : n + m ≤ 140737488355328 := Nat.le_trans (Nat.le_mul_of_pos_right _ (by omega)) hlen
  exact step_append_lies w hgd s x t ho base e i0 z size bytes ht hi hz0 hz1 hz2 hzs hsz v n xs hs hown ⟨b, off, none⟩ m cx news hx k1 (fun j u hj => by
    have hj' : j < m * size := by rw [← k1]; exact (List.getElem?_eq_some_iff.1 hj).1
    rw [addr_add, kc j hj', hj]) h1 hne (by unfold maxLen; omega) hb1 hbase _ rfl h
end
end Go.Proofs.YtnackmnoldkihaaDoor
