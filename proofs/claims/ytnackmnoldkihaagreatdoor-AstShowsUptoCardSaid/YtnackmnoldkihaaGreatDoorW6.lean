/-
  The walks of word and list: each part, each command.
-/
import Derived.Test.YtnackmnoldkihaaGreatDoorW5
import Derived.StillTailTactics
import Derived.Deep.RegionWith
set_option linter.unusedVariables false
set_option linter.unusedSimpArgs false
/-
  What may be, level by level: plain definitions.
-/
namespace Go.Proofs.YtnackmnoldkihaaGreatDoor
open Go.RowKit

/-- The first part of the word would be read as one with the Op. -/
def pctB (p : Pt) : Bool := L p.op == [37] && (match p.word with | [] => false | x :: _ => x.kind == 1 && !x.quoted && List.isPrefixOf [37] (L x.text))
/-- A parameter. -/
def paramB (wd : List Pt → Bool) (p : Pt) : Bool :=
 !(!p.body.isEmpty || (!(nameL (L p.text) || numB (L p.text)) && !specB (L p.text))) &&
 (bif (L p.op).isEmpty then p.word.isEmpty else bif L p.op == [108, 101, 110] then ((nameL (L p.text) || numB (L p.text)) && p.word.isEmpty) else (!pctB p && (oneB opWs (L p.op) && (!(L p.text == [35]) && wd p.word))))
/-- An empty quoted text is ahead. -/
def hollowB (q : Option Pt) : Bool := match q with | none => false | some x => x.kind == 1 && (x.quoted && (L x.text).isEmpty)
/-- A part, at a level that is left. -/
def partB (wd : List Pt → Bool) (ls : List Nd → Bool) (q : Option Pt) (p : Pt) : Bool :=
 !(p.quoted && hollowB q) &&
 (bif p.kind == 1 then litB q p else bif p.kind == 2 then paramB wd p else bif p.kind == 3 then ((L p.text).isEmpty && ((L p.op).isEmpty && (p.word.isEmpty && ls p.body))) else bif p.kind == 4 then (sumB (L p.text) && ((L p.op).isEmpty && (p.word.isEmpty && p.body.isEmpty))) else false)
/-- Parts, each behind the one ahead. -/
def partsB (f : Option Pt → Pt → Bool) : Option Pt → List Pt → Bool
 | _, [] => true
 | q, p :: l => f q p && partsB f (some p) l
/-- What a here-document's text is written with. -/
def escL (l : List UInt8) : List UInt8 := l.flatMap fun c => if c = 92 ∨ c = 36 ∨ c = 96 then [92, c] else [c]
/-- A here-document stands as it is. -/
def litrB (w : List Pt) : Bool := match w with | [] => true | [p] => p.kind == 1 | _ => false
def docP (lit : Bool) (p : Pt) : List UInt8 := bif p.kind == 2 then [36, 123] ++ L p.text ++ [125] else bif p.kind == 4 then [36, 40, 40] ++ L p.text ++ [41, 41] else bif lit then L p.text else escL (L p.text)
/-- A here-document, written. -/
def docL (w : List Pt) : List UInt8 := w.flatMap (docP (litrB w))
def docPartB (p : Pt) : Bool := p.quoted && ((L p.op).isEmpty && (!(p.kind == 3) && !(p.kind == 4 && hasB (L p.text) 10)))
def docB (wd : List Pt → Bool) (r : Rd) : Bool :=
 nameL (L r.tag) && (wd r.word && (r.word.all docPartB && (r.word.isEmpty || (List.isSuffixOf [10] (docL r.word) && !Lib.contains (10 :: docL r.word) (10 :: (L r.tag ++ [10]))))))
def redWs : List (List UInt8) := [[60], [62], [62, 62], [60, 62], [62, 124], [60, 38], [62, 38]]
def redirB (wd : List Pt → Bool) (r : Rd) : Bool :=
 (decide (0 ≤ r.fd) && decide (r.fd ≤ 9)) && (bif L r.op == [60, 60] then docB wd r else (oneB redWs (L r.op) && ((L r.tag).isEmpty && (wd r.word && !r.word.isEmpty))))
/-- A word may be a command's first one. -/
def firstB (w : List Pt) : Bool := match w with
 | [] => true
 | p :: l => bif p.kind == 1 && !p.quoted then (!((Lib.cut (L p.text) [61]).2.2 && nameL (Lib.cut (L p.text) [61]).1) && !(l.isEmpty && oneB reservedWs (L p.text))) else true
def simpleB (wd : List Pt → Bool) (x : Nd) : Bool :=
 x.assigns.all (fun a => nameL (L a.name) && wd a.word) && ((match x.words with | [] => true | y :: _ => firstB y) &&
 ((L x.name).isEmpty && ((x.lists.isEmpty && x.arms.isEmpty) && !(x.assigns.isEmpty && (x.words.isEmpty && x.redirs.isEmpty)))))
def someB (wd : List Pt → Bool) (y : List Pt) : Bool := wd y && !y.isEmpty
def somesB (ls : List Nd → Bool) (y : List Nd) : Bool := ls y && !y.isEmpty
def listsB (ls : List Nd → Bool) (x : Nd) (count : Nat) : Bool := decide (x.lists.length = count) && x.lists.all (somesB ls)
/-- Each list is one command; of which kind, by its place. -/
def soleB (may : Nat → Int → Bool) : Nat → List (List Nd) → Bool
 | _, [] => true
 | i, l :: r => (match l with | [x] => may i x.kind | _ => false) && soleB may (i + 1) r
def aloneB (ls : List Nd → Bool) (x : Nd) (count : Nat) (may : Nat → Int → Bool) : Bool := decide (count ≤ x.lists.length) && (x.lists.all (somesB ls) && soleB may 0 x.lists)
def bareN (x : Nd) : Bool := (L x.name).isEmpty && (x.assigns.isEmpty && (x.words.isEmpty && x.arms.isEmpty))
def mayPipe (_ : Nat) (k : Int) : Bool := k == 1 || decide (6 ≤ k)
def mayNot (_ : Nat) (k : Int) : Bool := k == 1 || (k == 2 || decide (6 ≤ k))
def mayAnd (i : Nat) (k : Int) : Bool := decide (i = 0) || (k != 3 && k != 4)
def mayFunc (_ : Nat) (k : Int) : Bool := decide (6 ≤ k) && k != 11
def joinedB (ls : List Nd → Bool) (x : Nd) : Bool :=
 (bareN x && x.redirs.isEmpty) && (bif x.kind == 2 then aloneB ls x 2 mayPipe else bif x.kind == 5 then (decide (x.lists.length = 1) && aloneB ls x 1 mayNot) else (decide (x.lists.length = 2) && aloneB ls x 2 mayAnd))
def armB (wd : List Pt → Bool) (ls : List Nd → Bool) (a : Ar) : Bool := !a.words.isEmpty && (ls a.body && a.words.all (someB wd))
def compoundB (wd : List Pt → Bool) (ls : List Nd → Bool) (x : Nd) : Bool :=
 bif x.kind == 6 then (bareN x && (listsB ls x 2 || listsB ls x 3)) else
 bif x.kind == 7 || x.kind == 8 then (bareN x && listsB ls x 2) else
 bif x.kind == 12 || x.kind == 13 then (bareN x && listsB ls x 1) else
 bif x.kind == 9 then (nameL (L x.name) && ((x.assigns.isEmpty && x.arms.isEmpty) && listsB ls x 1)) else
 bif x.kind == 10 then ((L x.name).isEmpty && (x.assigns.isEmpty && (decide (x.words.length = 1) && (listsB ls x 0 && x.arms.all (armB wd ls))))) else
 bif x.kind == 11 then (nameL (L x.name) && (!oneB reservedWs (L x.name) && ((x.assigns.isEmpty && (x.words.isEmpty && (x.arms.isEmpty && x.redirs.isEmpty))) && (decide (x.lists.length = 1) && aloneB ls x 1 mayFunc)))) else false
/-- A command, at a level that is left. -/
def nodeB (wd : List Pt → Bool) (ls : List Nd → Bool) (x : Nd) : Bool :=
 x.words.all (someB wd) && (x.redirs.all (redirB wd) && (bif x.kind == 1 then simpleB wd x else bif (x.kind == 2 || x.kind == 3) || (x.kind == 4 || x.kind == 5) then joinedB ls x else compoundB wd ls x))
mutual
/-- Words, so many levels left. -/
def okW : Nat → List Pt → Bool
 | 0, l => l.isEmpty
 | n + 1, l => partsB (partB (okW n) (okL n)) none l
/-- Commands, so many levels left. -/
def okL : Nat → List Nd → Bool
 | 0, l => l.isEmpty
 | n + 1, l => l.all (nodeB (okW n) (okL n))
end

/-- c.word, so many levels left. -/
def WordAt (m : Int) (wd : List Pt → Bool) : Prop := ∀ (W : World) (l : List Pt) (v : Value) (d : Nat) (some : Bool), Held W → PtsIn W W.heap.size d l v →
 Calls Tryz.prog 66 #[.agg #[.int .i64 m], v, .bool some] W fun e w' => e = .returned (.bool (wd l && (!some || !l.isEmpty))) ∧ Below W.heap.size W w'
/-- c.list. -/
def ListAt (m : Int) (ls : List Nd → Bool) : Prop := ∀ (W : World) (l : List Nd) (v : Value) (d : Nat) (some : Bool), Held W → NdsIn W W.heap.size d l v →
 Calls Tryz.prog 39 #[.agg #[.int .i64 m], v, .bool some] W fun e w' => e = .returned (.bool (ls l && (some || !l.isEmpty))) ∧ Below W.heap.size W w'
/-- What a call does that only reads, wherever it comes behind w. -/
def Reads (w : World) (f : Nat) (args : Array Value) (v : Value) : Prop := ∀ W, Below w.heap.size w W → Calls Tryz.prog f args W fun e w' => e = .returned v ∧ Below W.heap.size W w'
theorem WordAt.reads {m : Int} {wd : List Pt → Bool} (h : WordAt m wd) {w : World} (hv : Held w) {l : List Pt} {v : Value} {d : Nat} (hl : PtsIn w w.heap.size d l v) (some : Bool) : Reads w 66 #[.agg #[.int .i64 m], v, .bool some] (.bool (wd l && (!some || !l.isEmpty))) :=
 fun W hb => h W l v d some (hv.below hv.2 hb) ((hl.below hb).mono hb.size)
theorem ListAt.reads {m : Int} {ls : List Nd → Bool} (h : ListAt m ls) {w : World} (hv : Held w) {l : List Nd} {v : Value} {d : Nat} (hl : NdsIn w w.heap.size d l v) (some : Bool) : Reads w 39 #[.agg #[.int .i64 m], v, .bool some] (.bool (ls l && (some || !l.isEmpty))) :=
 fun W hb => h W l v d some (hv.below hv.2 hb) ((hl.below hb).mono hb.size)
end Go.Proofs.YtnackmnoldkihaaGreatDoor
namespace Go.Proofs.YtnackmnoldkihaaGreatDoor
open Go.RowKit

section
variable {w : World} {B d : Nat}
theorem SlOf.len {α : Type} {size : Nat} {F : α → List Value → Prop} {l : List α} {v : Value} (h : SlOf w B size F l v) : ∃ a cap, v = .slice a l.length cap ∧ l.length ≤ 1048576 := by
 obtain ⟨a, c, e⟩ := h.shape
 exact ⟨a, c, e, h.1⟩
/-- What lies in a command's cells. -/
theorem NdC.open {x : Nd} {c : List Value} (h : NdC w B d x c) : ∃ a1 c1 a2 c2 a3 c3 a4 c4 a5 c5, c = [.int .i64 x.kind, .string x.name, .slice a1 x.assigns.length c1, .slice a2 x.words.length c2, .slice a3 x.redirs.length c3, .slice a4 x.lists.length c4, .slice a5 x.arms.length c5] ∧
 x.name.size ≤ 1048576 ∧ (x.assigns.length ≤ 1048576 ∧ x.words.length ≤ 1048576 ∧ x.redirs.length ≤ 1048576 ∧ x.lists.length ≤ 1048576 ∧ x.arms.length ≤ 1048576) ∧
 AssIn w B d x.assigns (.slice a1 x.assigns.length c1) ∧ WdsIn w B d x.words (.slice a2 x.words.length c2) ∧ RdsIn w B d x.redirs (.slice a3 x.redirs.length c3) ∧ LssIn w B d x.lists (.slice a4 x.lists.length c4) ∧ ArsIn w B d x.arms (.slice a5 x.arms.length c5) := by
 obtain ⟨h0, av, wv, rv, lv, mv, e, h1, h2, h3, h4, h5⟩ := h
 obtain ⟨a1, c1, rfl, z1⟩ := h1.len
 obtain ⟨a2, c2, rfl, z2⟩ := h2.len
 obtain ⟨a3, c3, rfl, z3⟩ := h3.len
 obtain ⟨a4, c4, rfl, z4⟩ := h4.len
 obtain ⟨a5, c5, rfl, z5⟩ := h5.len
 exact ⟨a1, c1, a2, c2, a3, c3, a4, c4, a5, c5, e, h0, ⟨z1, z2, z3, z4, z5⟩, h1, h2, h3, h4, h5⟩
theorem PtC.open {p : Pt} {c : List Value} (h : PtC w B d p c) : ∃ a1 c1 a2 c2, c = [.int .i64 p.kind, .bool p.quoted, .string p.text, .string p.op, .slice a1 p.word.length c1, .slice a2 p.body.length c2] ∧
 (p.text.size ≤ 1048576 ∧ p.op.size ≤ 1048576) ∧ (p.word.length ≤ 1048576 ∧ p.body.length ≤ 1048576) ∧ PtsIn w B d p.word (.slice a1 p.word.length c1) ∧ NdsIn w B d p.body (.slice a2 p.body.length c2) := by
 obtain ⟨h1, h2, wv, bv, e, h3, h4⟩ := h
 obtain ⟨a1, c1, rfl, z1⟩ := h3.shape
 obtain ⟨a2, c2, rfl, z2⟩ := h4.shape
 exact ⟨a1, c1, a2, c2, e, ⟨h1, h2⟩, ⟨z1, z2⟩, h3, h4⟩
end
theorem SlOf.zero {α : Type} {w : World} {B size : Nat} {l : List α} {v : Value} (h : SlOf w B size (fun _ _ => False) l v) : l = [] := by
 obtain ⟨_, cs, h1, _, _, h2⟩ := h
 cases l with
 | nil => rfl
 | cons x l =>
   cases cs with
   | nil => simp at h1
   | cons c cs => exact (h2 0 x c rfl rfl).elim
theorem SlOf.of_nil {α : Type} {w : World} {B size : Nat} {F : α → List Value → Prop} {v : Value} (h : SlOf w B size (fun _ _ => False) ([] : List α) v) : SlOf w B size F [] v := h.imp (fun _ h => h) fun _ hx => by simp at hx
/-- Any depth is one more than some depth. -/
theorem NdsIn.up {w : World} {B d : Nat} {l : List Nd} {v : Value} (h : NdsIn w B d l v) : ∃ d', SlOf w B 7 (NdC w B d') l v := by
 cases d with
 | zero => rw [NdsIn] at h; obtain rfl := h.zero; exact ⟨0, h.of_nil⟩
 | succ d => rw [NdsIn.succ] at h; exact ⟨d, h⟩
theorem PtsIn.up {w : World} {B d : Nat} {l : List Pt} {v : Value} (h : PtsIn w B d l v) : ∃ d', SlOf w B 6 (PtC w B d') l v := by
 cases d with
 | zero => rw [PtsIn] at h; obtain rfl := h.zero; exact ⟨0, h.of_nil⟩
 | succ d => rw [PtsIn.succ] at h; exact ⟨d, h⟩
theorem pos_dec (n : Nat) : decide (0 < n) = !decide (n = 0) := by cases n <;> simp
theorem NdC.later {w w' : World} {d : Nat} {x : Nd} {c : List Value} (h : NdC w w.heap.size d x c) (hb : Below w.heap.size w w') : NdC w' w'.heap.size d x c := h.keep fun _ _ _ _ hs => (hs.below hb).mono hb.size
theorem PtC.later {w w' : World} {d : Nat} {x : Pt} {c : List Value} (h : PtC w w.heap.size d x c) (hb : Below w.heap.size w w') : PtC w' w'.heap.size d x c := h.keep fun _ _ _ _ hs => (hs.below hb).mono hb.size
theorem nil_of {α : Type} {l : List α} {n : Nat} (h : l.length = n) : l.isEmpty = decide (n = 0) := by subst h; cases l <;> simp

set_option maxHeartbeats 1000000 in
theorem list_any (m : Int) (nd : Nd → Bool) (hnd : ∀ (W : World) (x : Nd) (d : Nat) (c : List Value), Held W → NdC W W.heap.size d x c → Calls Tryz.prog 54 #[.agg #[.int .i64 m], .agg c.toArray] W fun e w' => e = .returned (.bool (nd x)) ∧ Below W.heap.size W w') : ListAt m (fun l => l.all nd) := by
 intro w l v d some hv hl
 obtain ⟨d, hl⟩ := hl.up
 obtain ⟨a, cap, rfl, hz⟩ := hl.len
 obtain ⟨n, hn⟩ : ∃ n, l.length = n := ⟨_, rfl⟩
 rw [hn] at hl hz ⊢
 have HL := Lib.hid hl
 have HV := Lib.hid hv
 have HN := Lib.hid hn
 have HND := Lib.hid hnd
 have HE := Lib.hid (nil_of hn)
 clear hl hn hv hnd
 go_enter Tryz.func39, Tryz.ntmps39
 go_wp2_with fail
 go_loopw [11] (fun i W => ∃ k : Nat, k ≤ n ∧ i = .int .i64 k ∧ (l.take k).all nd = true ∧ Blk W w.heap.size 67 #[.int .i64 m] ∧ Below w.heap.size w W) (fun i _ => n - (intOf i).toNat)
 case atStart => exact ⟨0, Nat.zero_le _, rfl, by simp, Blk.new _ _ _, bg⟩
 case round =>
  obtain ⟨k, hk, rfl, hal, hbk, hb⟩ := hrel
  have HAL := Lib.hid hal
  have HBK := Lib.hid hbk
  have hbl := hbk.lt
  have b0 := hbk.cell 0
  simp at b0
  clear hal hbk
  by_cases hlt : k < n
  · obtain ⟨x, hx⟩ : ∃ x, l[k]? = .some x := ⟨_, List.getElem?_eq_getElem (by rw [HN.out]; exact hlt)⟩
    obtain ⟨b, o, c, hi, hbB, hce, hC, _⟩ := HL.out.at 22 38 Tryz.underlying22 (by kernel_rfl) hx
    have HX := Lib.hid hx
    have HC := Lib.hid hC
    obtain ⟨a1, c1, a2, c2, a3, c3, a4, c4, a5, c5, rfl, hC⟩ := hC.open
    have CN := Lib.hid fun W hW => HND.out W x d _ (HV.out.below HV.out.2 hW) (HC.out.later hW)
    have e0 := (hb.cell hbB).trans (hce 0 _ rfl)
    have e1 := (hb.cell hbB).trans (hce 1 _ rfl)
    have e2 := (hb.cell hbB).trans (hce 2 _ rfl)
    have e3 := (hb.cell hbB).trans (hce 3 _ rfl)
    have e4 := (hb.cell hbB).trans (hce 4 _ rfl)
    have e5 := (hb.cell hbB).trans (hce 5 _ rfl)
    have e6 := (hb.cell hbB).trans (hce 6 _ rfl)
    have hbB' := Nat.lt_of_lt_of_le hbB hb.size
    rw [Nat.add_zero] at e0
    clear hx hce hC
    obtain ⟨r, hr⟩ : ∃ r, nd x = r := ⟨_, rfl⟩
    rw [hr] at CN
    have HR := Lib.hid hr
    clear hr
    go_wp2_with fail
    refine (CN.out _ bg).mono ?_
    rintro e w1 ⟨rfl, hb1⟩
    have HB1 := Lib.hid hb1
    have hb1' : Below w.heap.size w w1 := since hb1 bg
    clear hb1
    cases r with
    | false =>
      go_wp2
      go_ret
      exact ⟨ret_bool (by rw [all_no HX.out HR.out]; rfl), hb1'⟩
    | true =>
      go_wp2
      go_roundw
      case rel => exact ⟨k + 1, by omega, by go_num, all_to HAL.out HX.out HR.out, (HBK.out.alloc _).below HB1.out (by simp; omega), hb1'⟩
      case measure => simp [intOf]; omega
  · have HR : Hid (l.all nd = true) := Lib.hid (all_end HAL.out (by rw [HN.out]; omega))
    cases some with
    | true =>
      go_wp2
      go_ret
      exact ⟨ret_bool (by rw [HR.out]; rfl), hb⟩
    | false =>
      go_wp2
      go_ret
      exact ⟨ret_bool (by rw [HR.out, HE.out]; simp [pos_dec]), hb⟩

def prevOf (l : List Pt) (k : Nat) : Option Pt := if k = 0 then none else l[k - 1]?
/-- So far: all parts ahead of the k-th may be. -/
def partsTo (f : Option Pt → Pt → Bool) (l : List Pt) (k : Nat) : Prop := partsB f none l = partsB f (prevOf l k) (l.drop k)
theorem partsTo_step {f : Option Pt → Pt → Bool} {l : List Pt} {k : Nat} {x : Pt} (h : partsTo f l k) (hx : l[k]? = some x) (hf : f (prevOf l k) x = true) : partsTo f l (k + 1) := by
 obtain ⟨hk, hx'⟩ := List.getElem?_eq_some_iff.1 hx
 rw [partsTo, h, List.drop_eq_getElem_cons hk, hx', partsB, hf, Bool.true_and, prevOf, if_neg (by omega), Nat.add_sub_cancel, hx]
theorem partsTo_no {f : Option Pt → Pt → Bool} {l : List Pt} {k : Nat} {x : Pt} (h : partsTo f l k) (hx : l[k]? = some x) (hf : f (prevOf l k) x = false) : partsB f none l = false := by
 obtain ⟨hk, hx'⟩ := List.getElem?_eq_some_iff.1 hx
 rw [h, List.drop_eq_getElem_cons hk, hx', partsB, hf, Bool.false_and]
theorem partsTo_end {f : Option Pt → Pt → Bool} {l : List Pt} {k : Nat} (h : partsTo f l k) (hk : l.length ≤ k) : partsB f none l = true := by
 rw [h, List.drop_of_length_le hk, partsB]
/-- The pointer to the part ahead. -/
def PrevV (w : World) (l : List Pt) (v : Value) (k : Nat) (pv : Value) : Prop := (k = 0 ∧ pv = .pointer none) ∨ (0 < k ∧ ∀ w' : World, (Instr.indexAt 29 v (.int .i64 ((k - 1 : Nat) : Int))).run Tryz.prog w' = .ok pv w')

set_option maxHeartbeats 1000000 in
set_option maxRecDepth 100000 in
theorem word_any (m : Int) (pt : Option Pt → Pt → Bool) (hpt : ∀ (W : World) (q : Option Pt) (x : Pt) (d : Nat) (c : List Value) (pv : Value), Held W → PtC W W.heap.size d x c → PrevAt W W.heap.size d q pv → Calls Tryz.prog 88 #[.agg #[.int .i64 m], .agg c.toArray, pv] W fun e w' => e = .returned (.bool (pt q x)) ∧ Below W.heap.size W w') : WordAt m (partsB pt none) := by
 intro w l v d sm hv hl
 obtain ⟨d, hl⟩ := hl.up
 obtain ⟨a, cap, rfl, hz⟩ := hl.len
 obtain ⟨n, hn⟩ : ∃ n, l.length = n := ⟨_, rfl⟩
 rw [hn] at hl hz ⊢
 have HL := Lib.hid hl
 have HV := Lib.hid hv
 have HN := Lib.hid hn
 have HPT := Lib.hid hpt
 have HE := Lib.hid (nil_of hn)
 clear hl hn hv hpt
 go_enter Tryz.func66, Tryz.ntmps66
 go_wp2_with fail
 go_loopw [7, 11] (fun p i W => ∃ (k : Nat) (ob : Option Addr), k ≤ n ∧ i = .int .i64 k ∧ p = .pointer ob ∧ partsTo pt l k ∧ PrevAt w w.heap.size d (prevOf l k) (.pointer ob) ∧ Blk W w.heap.size 67 #[.int .i64 m] ∧ Below w.heap.size w W) (fun _ i _ => n - (intOf i).toNat)
 case atStart => exact ⟨0, .none, Nat.zero_le _, rfl, rfl, rfl, rfl, Blk.new _ _ _, bg⟩
 case round =>
  obtain ⟨k, ob, hk, rfl, rfl, hto, hpa, hbk, hb⟩ := hrel
  have HTO := Lib.hid hto
  have HPA := Lib.hid hpa
  have HBK := Lib.hid hbk
  have hbl := hbk.lt
  have b0 := hbk.cell 0
  simp at b0
  clear hto hbk hpa
  by_cases hlt : k < n
  · obtain ⟨x, hx⟩ : ∃ x, l[k]? = .some x := ⟨_, List.getElem?_eq_getElem (by rw [HN.out]; exact hlt)⟩
    obtain ⟨b, o, c, hi, hbB, hce, hC, _⟩ := HL.out.at 29 44 Tryz.underlying29 (by kernel_rfl) hx
    have HX := Lib.hid hx
    have HC := Lib.hid hC
    have HCE := Lib.hid hce
    obtain ⟨a1, c1, a2, c2, rfl, hC⟩ := hC.open
    have CN := Lib.hid fun W hW => HPT.out W _ x d _ _ (HV.out.below HV.out.2 hW) (HC.out.later hW) (HPA.out.keep hW hW.size)
    have e0 := (hb.cell hbB).trans (hce 0 _ rfl)
    have e1 := (hb.cell hbB).trans (hce 1 _ rfl)
    have e2 := (hb.cell hbB).trans (hce 2 _ rfl)
    have e3 := (hb.cell hbB).trans (hce 3 _ rfl)
    have e4 := (hb.cell hbB).trans (hce 4 _ rfl)
    have e5 := (hb.cell hbB).trans (hce 5 _ rfl)
    have hbB' := Nat.lt_of_lt_of_le hbB hb.size
    rw [Nat.add_zero] at e0
    clear hx hce hC
    obtain ⟨r, hr⟩ : ∃ r, pt (prevOf l k) x = r := ⟨_, rfl⟩
    rw [hr] at CN
    have HR := Lib.hid hr
    clear hr
    go_wp2_with fail
    go_still_tail 6, (by kernel_rfl)
    go_wp2_with fail
    refine (CN.out _ bg).mono ?_
    rintro e w1 ⟨rfl, hb1⟩
    have HB1 := Lib.hid hb1
    have hb1' : Below w.heap.size w w1 := since hb1 bg
    clear hb1
    cases r with
    | false =>
      go_wp2
      go_ret
      exact ⟨ret_bool (by rw [partsTo_no HTO.out HX.out HR.out]; rfl), hb1'⟩
    | true =>
      go_wp2
      go_roundw
      case rel => exact ⟨k + 1, some ⟨b, o, none⟩, by omega, by go_num, rfl, partsTo_step HTO.out HX.out HR.out, by
       rw [prevOf, if_neg (by omega), Nat.add_sub_cancel, HX.out]
       exact ⟨b, o, _, rfl, hbB, HCE.out, HC.out⟩, Blk.below (w := wr.drew) HBK.out HB1.out hbl, hb1'⟩
      case measure => simp [intOf]; omega
  · have HR : Hid (partsB pt none l = true) := Lib.hid (partsTo_end HTO.out (by rw [HN.out]; omega))
    cases sm with
    | true =>
      go_wp2
      go_ret
      exact ⟨ret_bool (by rw [HR.out, HE.out]; simp [pos_dec]), hb⟩
    | false =>
      go_wp2
      go_ret
      exact ⟨ret_bool (by rw [HR.out]; rfl), hb⟩
end Go.Proofs.YtnackmnoldkihaaGreatDoor
