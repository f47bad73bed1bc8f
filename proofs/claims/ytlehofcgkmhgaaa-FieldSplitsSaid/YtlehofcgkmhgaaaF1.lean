/-
  Fields, plain: pieces put behind each other; the machine that splits; the document's machine, byte by byte.
-/
import Derived.Test.YtlehofcgkmhgaaaLib
namespace Go.Proofs.Ytlehofcgkmhgaaa
open Go.RowKit

/-- A piece of a field. -/
structure Pc where
  t : ByteArray
  q : Bool
/-- A piece that came in. -/
structure In where
  t : ByteArray
  q : Bool
  s : Bool
  b : Bool
/-- A byte, and whether it is quoted. -/
structure Sg where
  b : UInt8
  q : Bool

def putN (now : List Pc) (t : ByteArray) (q : Bool) : List Pc := match now.getLast? with
  | some p => if p.q = q then now.dropLast ++ [⟨p.t ++ t, q⟩] else now ++ [⟨t, q⟩]
  | none => [⟨t, q⟩]
theorem putN_nil (t : ByteArray) (q : Bool) : putN [] t q = [⟨t, q⟩] := rfl
theorem putN_same (l : List Pc) (p : Pc) (t : ByteArray) (q : Bool) (h : p.q = q) : putN (l ++ [p]) t q = l ++ [⟨p.t ++ t, q⟩] := by
  simp [putN, h]
theorem putN_other (l : List Pc) (p : Pc) (t : ByteArray) (q : Bool) (h : p.q ≠ q) : putN (l ++ [p]) t q = l ++ [p] ++ [⟨t, q⟩] := by
  simp [putN, h]
theorem snoc_or {α : Type} (l : List α) : l = [] ∨ ∃ m x, l = m ++ [x] := by
  rcases List.eq_nil_or_concat l with h | ⟨m, x, h⟩
  · exact .inl h
  · exact .inr ⟨m, x, by rw [h, List.concat_eq_append]⟩
theorem putN_putN (l : List Pc) (a b : ByteArray) (q : Bool) : putN (putN l a q) b q = putN l (a ++ b) q := by
  rcases snoc_or l with rfl | ⟨m, p, rfl⟩
  · rw [putN_nil, putN_nil]
    exact putN_same [] _ _ _ rfl
  · by_cases h : p.q = q
    · rw [putN_same _ _ _ _ h, putN_same _ _ _ _ h, putN_same _ _ _ _ rfl]
      simp only [L_inj (show L (p.t ++ a ++ b) = L (p.t ++ (a ++ b)) by simp [L_append])]
    · rw [putN_other _ _ _ _ h, putN_other _ _ _ _ h, putN_same _ _ _ _ rfl]
theorem putN_len (l : List Pc) (t : ByteArray) (q : Bool) : (putN l t q).length ≤ l.length + 1 := by
  rcases snoc_or l with rfl | ⟨m, p, rfl⟩
  · rw [putN_nil]; simp
  · by_cases h : p.q = q
    · rw [putN_same _ _ _ _ h]; simp
    · rw [putN_other _ _ _ _ h]; simp

def flat (l : List Pc) : List Sg := l.flatMap fun p => (L p.t).map fun b => ⟨b, p.q⟩
theorem flat_put (l : List Pc) (t : ByteArray) (q : Bool) : flat (putN l t q) = flat l ++ (L t).map fun b => ⟨b, q⟩ := by
  rcases snoc_or l with rfl | ⟨m, p, rfl⟩
  · rw [putN_nil]; simp [flat]
  · by_cases h : p.q = q
    · rw [putN_same _ _ _ _ h]; simp [flat, L_append, h]
    · rw [putN_other _ _ _ _ h]; simp [flat]
/-- No two that are quoted alike stand side by side. -/
def Alt (l : List Pc) : Prop := ∀ k p r, l[k]? = some p → l[k + 1]? = some r → p.q ≠ r.q
theorem Alt.nil : Alt [] := by intro k p r h; simp at h
theorem Alt.init {l : List Pc} {p : Pc} (h : Alt (l ++ [p])) : Alt l := by
  intro k a b ha hb
  have h1 := (List.getElem?_eq_some_iff.1 ha).1
  have h2 := (List.getElem?_eq_some_iff.1 hb).1
  exact h k a b (by rw [List.getElem?_append_left h1]; exact ha) (by rw [List.getElem?_append_left h2]; exact hb)
theorem Alt.snoc {l : List Pc} {r : Pc} (h : Alt l) (hl : ∀ p, l.getLast? = some p → p.q ≠ r.q) : Alt (l ++ [r]) := by
  intro k a b ha hb
  have h2 := (List.getElem?_eq_some_iff.1 hb).1
  simp at h2
  by_cases hk : k + 1 < l.length
  · rw [List.getElem?_append_left (by omega)] at ha
    rw [List.getElem?_append_left hk] at hb
    exact h k a b ha hb
  · have hk2 : k + 1 = l.length := by omega
    rw [List.getElem?_append_left (by omega)] at ha
    rw [List.getElem?_append_right (by omega), hk2] at hb
    simp at hb
    subst hb
    exact hl a (by rw [List.getLast?_eq_getElem?, ← hk2]; simpa using ha)
theorem Alt.last {l : List Pc} {p : Pc} (h : Alt (l ++ [p])) : ∀ x, l.getLast? = some x → x.q ≠ p.q := by
  intro x hx
  rcases snoc_or l with rfl | ⟨m, y, rfl⟩
  · simp at hx
  · simp at hx; subst hx
    exact h m.length y p (by simp) (by rw [List.getElem?_append_right (by simp)]; simp)
theorem Alt.put {l : List Pc} (h : Alt l) (t : ByteArray) (q : Bool) : Alt (putN l t q) := by
  rcases snoc_or l with rfl | ⟨m, p, rfl⟩
  · rw [putN_nil]; exact Alt.snoc (l := []) Alt.nil (by simp)
  · by_cases hq : p.q = q
    · rw [putN_same _ _ _ _ hq]
      exact h.init.snoc fun x hx => by have := h.last x hx; rw [hq] at this; exact this
    · rw [putN_other _ _ _ _ hq]
      exact h.snoc fun x hx => by simp at hx; subst hx; exact hq

/-! ### the machine that splits -/
structure St where
  out : List (List Pc)
  now : List Pc
  op : Bool
  due : Bool
def St0 : St := ⟨[], [], false, false⟩
def putS (s : St) (t : ByteArray) (q : Bool) : St := ⟨s.out, putN s.now t q, true, false⟩
def endS (s : St) (must : Bool) : St := ⟨if s.op || must then s.out ++ [s.now] else s.out, [], false, s.due⟩
def isW (c : UInt8) : Bool := c == 32 || c == 9 || c == 10
def hasB (l : List UInt8) (c : UInt8) : Bool := decide (c ∈ l)
def stepB (ifs : List UInt8) (s : St) (c : UInt8) : St :=
  if hasB ifs c then if isW c then (if s.op then ⟨s.out ++ [s.now], [], false, true⟩ else s) else if s.due then ⟨s.out, s.now, s.op, false⟩ else endS s true
  else putS s (S [c]) false
def stepP (ifs : List UInt8) (s : St) (p : In) : St :=
  if p.b then ⟨(endS s false).out, [], false, false⟩ else if p.q then putS s p.t true else if p.s then (L p.t).foldl (stepB ifs) s else if (L p.t).isEmpty then s else putS s p.t false
def splitF (ifs : List UInt8) (l : List In) : List (List Pc) := (endS (l.foldl (stepP ifs) St0) false).out

theorem fold_plain (ifs : List UInt8) : ∀ (t : List UInt8) (s : St), t ≠ [] → (∀ c ∈ t, hasB ifs c = false) → t.foldl (stepB ifs) s = putS s (S t) false
  | [], _, h, _ => absurd rfl h
  | [c], s, _, h => by
    show stepB ifs s c = _
    rw [stepB, h c (by simp)]; rfl
  | c :: d :: t, s, _, h => by
    rw [List.foldl_cons, fold_plain ifs (d :: t) _ (by simp) (fun x hx => h x (by simp [hx]))]
    rw [stepB, h c (by simp)]
    show putS (putS s (S [c]) false) (S (d :: t)) false = _
    simp only [putS, putN_putN, S_append]
    rfl

/-! ### how many -/
def cnt (s : St) : Nat := s.out.length + s.now.length
theorem cnt_put (s : St) (t : ByteArray) (q : Bool) : cnt (putS s t q) ≤ cnt s + 1 := by
  have := putN_len s.now t q
  show s.out.length + (putN s.now t q).length ≤ s.out.length + s.now.length + 1
  omega
theorem cnt_end (s : St) (m : Bool) : cnt (endS s m) ≤ cnt s + 1 := by
  unfold endS cnt
  split <;> simp <;> omega
theorem cnt_step (ifs : List UInt8) (s : St) (c : UInt8) : cnt (stepB ifs s c) ≤ cnt s + 1 := by
  unfold stepB
  split
  · split
    · split
      · simp [cnt]
      · omega
    · split
      · simp [cnt]
      · exact cnt_end s true
  · exact cnt_put _ _ _
theorem cnt_fold (ifs : List UInt8) : ∀ (t : List UInt8) (s : St), cnt (t.foldl (stepB ifs) s) ≤ cnt s + t.length
  | [], _ => Nat.le_refl _
  | c :: t, s => by
    have h1 := cnt_fold ifs t (stepB ifs s c)
    have h2 := cnt_step ifs s c
    simp; omega
def wt (p : In) : Nat := 1 + if p.s && !p.q && !p.b then p.t.size else 0
theorem cnt_piece (ifs : List UInt8) (s : St) (p : In) : cnt (stepP ifs s p) ≤ cnt s + wt p := by
  obtain ⟨t, q, sp, b⟩ := p
  unfold stepP wt
  cases b with
  | true =>
    have := cnt_end s false
    simp [cnt] at this ⊢; omega
  | false =>
    cases q with
    | true => have := cnt_put s t true; simp; omega
    | false =>
      cases sp with
      | true => have := cnt_fold ifs (L t) s; rw [L_size] at this; simp; omega
      | false =>
        simp
        split
        · omega
        · have := cnt_put s t false; omega

/-! ### the fields alternate -/
def AltS (s : St) : Prop := (∀ l ∈ s.out, Alt l) ∧ Alt s.now
theorem AltS.put {s : St} (h : AltS s) (t : ByteArray) (q : Bool) : AltS (putS s t q) := ⟨h.1, h.2.put t q⟩
theorem AltS.done {s : St} (h : AltS s) : ∀ l ∈ s.out ++ [s.now], Alt l := fun l hl => by
  rcases List.mem_append.1 hl with hl | hl
  · exact h.1 l hl
  · simp at hl; subst hl; exact h.2
theorem AltS.ends {s : St} (h : AltS s) (m : Bool) : AltS (endS s m) := by
  refine ⟨fun l hl => ?_, Alt.nil⟩
  unfold endS at hl
  split at hl
  · exact h.done l hl
  · exact h.1 l hl
theorem AltS.step {s : St} (h : AltS s) (ifs : List UInt8) (c : UInt8) : AltS (stepB ifs s c) := by
  unfold stepB
  split
  · split
    · split
      · exact ⟨h.done, Alt.nil⟩
      · exact h
    · split
      · exact ⟨h.1, h.2⟩
      · exact h.ends true
  · exact h.put _ _
theorem AltS.fold (ifs : List UInt8) : ∀ (t : List UInt8) (s : St), AltS s → AltS (t.foldl (stepB ifs) s)
  | [], _, h => h
  | c :: t, _, h => AltS.fold ifs t _ (h.step ifs c)
theorem AltS.piece {s : St} (h : AltS s) (ifs : List UInt8) (p : In) : AltS (stepP ifs s p) := by
  unfold stepP
  split
  · exact ⟨(h.ends false).1, Alt.nil⟩
  · split
    · exact h.put _ _
    · split
      · exact AltS.fold ifs _ _ h
      · split
        · exact h
        · exact h.put _ _
theorem AltS.pieces (ifs : List UInt8) : ∀ (l : List In) (s : St), AltS s → AltS (l.foldl (stepP ifs) s)
  | [], _, h => h
  | p :: l, _, h => AltS.pieces ifs l _ (h.piece ifs p)
theorem split_alt (ifs : List UInt8) (l : List In) : ∀ f ∈ splitF ifs l, Alt f :=
  ((AltS.pieces ifs l St0 ⟨by simp [St0], Alt.nil⟩).ends false).1

/-! ### the document's machine -/
structure Rt where
  out : List (List Sg)
  now : List Sg
  op : Bool
  due : Bool
def Rt0 : Rt := ⟨[], [], false, false⟩
def stepR (ifs : List UInt8) (q sp : Bool) (s : Rt) (c : UInt8) : Rt :=
  if q || !sp || !hasB ifs c then ⟨s.out, s.now ++ [⟨c, q⟩], true, false⟩
  else if isW c then (if s.op then ⟨s.out ++ [s.now], [], false, true⟩ else s) else if s.due then ⟨s.out, s.now, s.op, false⟩ else ⟨s.out ++ [s.now], [], false, false⟩
def openR (q : Bool) (s : Rt) : Rt := if q then ⟨s.out, s.now, true, false⟩ else s
def stepRP (ifs : List UInt8) (s : Rt) (p : In) : Rt :=
  if p.b then ⟨if s.op then s.out ++ [s.now] else s.out, [], false, false⟩ else (L p.t).foldl (stepR ifs p.q p.s) (openR p.q s)
def refSplit (ifs : List UInt8) (l : List In) : List (List Sg) := if (l.foldl (stepRP ifs) Rt0).op then (l.foldl (stepRP ifs) Rt0).out ++ [(l.foldl (stepRP ifs) Rt0).now] else (l.foldl (stepRP ifs) Rt0).out
def fl (s : St) : Rt := ⟨s.out.map flat, flat s.now, s.op, s.due⟩

theorem fold_all (ifs : List UInt8) (q sp : Bool) (h : (q || !sp) = true) : ∀ (t : List UInt8) (s : Rt), t.foldl (stepR ifs q sp) s = if t.isEmpty then s else ⟨s.out, s.now ++ t.map (fun b => ⟨b, q⟩), true, false⟩
  | [], _ => rfl
  | c :: t, s => by
    rw [List.foldl_cons, fold_all ifs q sp h t, stepR, h]
    cases t <;> simp
theorem fl_step (ifs : List UInt8) (s : St) (c : UInt8) : fl (stepB ifs s c) = stepR ifs false true (fl s) c := by
  unfold stepB stepR
  cases h : hasB ifs c with
  | false => simp [fl, putS, flat_put, L_S]
  | true =>
    cases isW c with
    | true =>
      cases h2 : s.op <;> simp [fl, flat, h2]
    | false =>
      cases h2 : s.due <;> simp [fl, flat, h2, endS]
theorem fl_fold (ifs : List UInt8) : ∀ (t : List UInt8) (s : St), fl (t.foldl (stepB ifs) s) = t.foldl (stepR ifs false true) (fl s)
  | [], _ => rfl
  | c :: t, s => by rw [List.foldl_cons, List.foldl_cons, fl_fold ifs t, fl_step]
theorem fl_piece (ifs : List UInt8) (s : St) (p : In) : fl (stepP ifs s p) = stepRP ifs (fl s) p := by
  obtain ⟨t, q, sp, b⟩ := p
  unfold stepP stepRP
  cases b with
  | true =>
    show Rt.mk ((endS s false).out.map flat) [] false false = Rt.mk (if s.op then s.out.map flat ++ [flat s.now] else s.out.map flat) [] false false
    unfold endS
    cases h : s.op <;> simp
  | false =>
    cases q with
    | true =>
      simp only [Bool.false_eq_true, if_false, if_true]
      rw [fold_all ifs true sp rfl]
      simp [fl, putS, flat_put, openR]
    | false =>
      cases sp with
      | true => simp [openR, fl_fold]
      | false =>
        simp only [Bool.false_eq_true, if_false]
        rw [fold_all ifs false false rfl]
        cases h : (L t).isEmpty with
        | true => rfl
        | false => simp [openR, fl, putS, flat_put]
theorem fl_pieces (ifs : List UInt8) : ∀ (l : List In) (s : St), fl (l.foldl (stepP ifs) s) = l.foldl (stepRP ifs) (fl s)
  | [], _ => rfl
  | p :: l, s => by rw [List.foldl_cons, List.foldl_cons, fl_pieces ifs l, fl_piece]
theorem split_ref (ifs : List UInt8) (l : List In) : (splitF ifs l).map flat = refSplit ifs l := by
  have h := fl_pieces ifs l St0
  have e : fl St0 = Rt0 := rfl
  rw [e] at h
  unfold refSplit splitF
  rw [← h]
  unfold endS
  show _ = if (l.foldl (stepP ifs) St0).op then ((l.foldl (stepP ifs) St0).out).map flat ++ [flat (l.foldl (stepP ifs) St0).now] else ((l.foldl (stepP ifs) St0).out).map flat
  cases (l.foldl (stepP ifs) St0).op <;> simp

/-! ### joined -/
def joinP (by_ : ByteArray) (o : List Pc) (p : In) : List Pc := if p.b then putN o by_ true else putN o p.t p.q
def joinF (by_ : ByteArray) (l : List In) : List Pc := l.foldl (joinP by_) []
def joinR (by_ : ByteArray) (o : List Sg) (p : In) : List Sg := o ++ (if p.b then (L by_).map (fun b => ⟨b, true⟩) else (L p.t).map (fun b => ⟨b, p.q⟩))
theorem fl_join (by_ : ByteArray) : ∀ (l : List In) (o : List Pc), flat (l.foldl (joinP by_) o) = l.foldl (joinR by_) (flat o)
  | [], _ => rfl
  | p :: l, o => by
    rw [List.foldl_cons, List.foldl_cons, fl_join by_ l]
    congr 1
    unfold joinP joinR
    cases p.b <;> simp [flat_put]
theorem join_len (by_ : ByteArray) (o : List Pc) (p : In) : (joinP by_ o p).length ≤ o.length + 1 := by
  unfold joinP
  split <;> exact putN_len _ _ _

/-! ### quoted texts with breaks between -/
def one (t : ByteArray) (q : Bool) : List Pc := [⟨t, q⟩]
def qPieces : List ByteArray → List In
  | [] => []
  | s :: l => ⟨s, true, false, false⟩ :: l.flatMap fun s => [⟨⟨#[]⟩, false, false, true⟩, ⟨s, true, false, false⟩]
theorem quotes_go (ifs : List UInt8) : ∀ (l : List ByteArray) (o : List (List Pc)) (s : ByteArray), (endS ((l.flatMap fun s => [(⟨⟨#[]⟩, false, false, true⟩ : In), ⟨s, true, false, false⟩]).foldl (stepP ifs) ⟨o, one s true, true, false⟩) false).out = o ++ (s :: l).map (one · true)
  | [], o, s => by simp [endS]
  | t :: l, o, s => by
    have h := quotes_go ifs l (o ++ [one s true]) t
    rw [List.flatMap_cons, List.foldl_append]
    show (endS ((l.flatMap fun s => [(⟨⟨#[]⟩, false, false, true⟩ : In), ⟨s, true, false, false⟩]).foldl (stepP ifs) ⟨o ++ [one s true], one t true, true, false⟩) false).out = _
    rw [h]; simp
theorem quotes_split (ifs : List UInt8) (l : List ByteArray) : splitF ifs (qPieces l) = l.map (one · true) := by
  cases l with
  | nil => rfl
  | cons s l => exact quotes_go ifs l [] s
theorem qPieces_take {l : List ByteArray} {k : Nat} {s : ByteArray} (h : l[k]? = some s) : qPieces (l.take (k + 1)) = qPieces (l.take k) ++ (if k = 0 then [⟨s, true, false, false⟩] else [⟨⟨#[]⟩, false, false, true⟩, ⟨s, true, false, false⟩]) := by
  obtain ⟨hk, rfl⟩ := List.getElem?_eq_some_iff.1 h
  rw [List.take_succ_eq_append_getElem hk]
  cases k with
  | zero => simp [qPieces]
  | succ k =>
    cases l with
    | nil => simp at hk
    | cons t l =>
      have hk2 : k < l.length := by simpa using hk
      rw [List.take_succ_cons]
      simp [qPieces]
      rw [List.take_succ_eq_append_getElem hk2, List.flatMap_append]
      rfl
theorem qPieces_wt : ∀ (l : List ByteArray), ((qPieces l).map wt).sum ≤ 2 * l.length ∧ (qPieces l).length ≤ 2 * l.length
  | [] => ⟨Nat.le_refl _, Nat.le_refl _⟩
  | s :: l => by
    have key : ∀ l : List ByteArray, ((l.flatMap fun s => [(⟨⟨#[]⟩, false, false, true⟩ : In), ⟨s, true, false, false⟩]).map wt).sum = 2 * l.length ∧ (l.flatMap fun s => [(⟨⟨#[]⟩, false, false, true⟩ : In), ⟨s, true, false, false⟩]).length = 2 * l.length := by
      intro l
      induction l with
      | nil => exact ⟨rfl, rfl⟩
      | cons t l ih =>
        obtain ⟨h1, h2⟩ := ih
        rw [List.flatMap_cons, List.map_append, List.sum_append, h1, List.length_append, h2]
        simp [wt]; omega
    obtain ⟨h1, h2⟩ := key l
    simp only [qPieces, List.map_cons, List.sum_cons, List.length_cons, h1, h2]
    simp [wt]; omega

/-! ### words with blanks between -/
def blankOf (i : Nat) : UInt8 := if i % 3 = 0 then 32 else if i % 3 = 1 then 9 else 10
def ifs3 : List UInt8 := [32, 9, 10]
theorem blank_in (i : Nat) : hasB ifs3 (blankOf i) = true ∧ isW (blankOf i) = true := by
  unfold blankOf
  split
  · exact ⟨rfl, rfl⟩
  · split <;> exact ⟨rfl, rfl⟩
def wordsT (b : Nat) : Nat → List ByteArray → List UInt8
  | _, [] => []
  | i, w :: ws => List.replicate b (blankOf i) ++ L w ++ wordsT b (i + 1) ws
theorem wordsT_snoc (b : Nat) : ∀ (a : List ByteArray) (i : Nat) (w : ByteArray), wordsT b i (a ++ [w]) = wordsT b i a ++ (List.replicate b (blankOf (i + a.length)) ++ L w)
  | [], i, w => by simp [wordsT]
  | x :: a, i, w => by
    rw [List.cons_append, wordsT, wordsT, wordsT_snoc b a, List.length_cons, show i + 1 + a.length = i + (a.length + 1) by omega]
    simp
theorem blanks_fold (i : Nat) : ∀ (n : Nat) (s : St), s.op = false → (List.replicate n (blankOf i)).foldl (stepB ifs3) s = s
  | 0, _, _ => rfl
  | n + 1, s, h => by
    have e : stepB ifs3 s (blankOf i) = s := by
      rw [stepB, (blank_in i).1, (blank_in i).2, h]; rfl
    rw [List.replicate_succ, List.foldl_cons, e]
    exact blanks_fold i n s h
theorem blanks_open (i : Nat) (n : Nat) (s : St) (h : s.op = true) (hn : 0 < n) : (List.replicate n (blankOf i)).foldl (stepB ifs3) s = ⟨s.out ++ [s.now], [], false, true⟩ := by
  obtain ⟨m, rfl⟩ : ∃ m, n = m + 1 := ⟨n - 1, by omega⟩
  have e : stepB ifs3 s (blankOf i) = ⟨s.out ++ [s.now], [], false, true⟩ := by
    rw [stepB, (blank_in i).1, (blank_in i).2, h]; rfl
  rw [List.replicate_succ, List.foldl_cons, e]
  exact blanks_fold i m _ rfl
def WordOk (w : ByteArray) : Prop := L w ≠ [] ∧ ∀ c ∈ L w, hasB ifs3 c = false
def stW (ws : List ByteArray) : St := match ws.getLast? with
  | none => St0
  | some w => ⟨ws.dropLast.map (one · false), one w false, true, false⟩
theorem words_state (b : Nat) (hb : 0 < b) (ws : List ByteArray) (hw : ∀ w ∈ ws, WordOk w) : ∀ k, k ≤ ws.length → (wordsT b 0 (ws.take k)).foldl (stepB ifs3) St0 = stW (ws.take k)
  | 0, _ => rfl
  | k + 1, hk => by
    have hk' : k < ws.length := by omega
    have ih := words_state b hb ws hw k (by omega)
    obtain ⟨w, hwk⟩ : ∃ w, ws[k]? = some w := ⟨_, List.getElem?_eq_getElem hk'⟩
    have ht : ws.take (k + 1) = ws.take k ++ [w] := by
      rw [List.take_succ_eq_append_getElem hk']
      congr
      have := List.getElem?_eq_getElem hk'
      rw [hwk] at this
      exact (Option.some.inj this).symm
    obtain ⟨w1, w2⟩ := hw w (List.mem_of_getElem? hwk)
    rw [ht, wordsT_snoc, List.foldl_append, ih, List.foldl_append]
    have hs : stW (ws.take k ++ [w]) = ⟨(ws.take k).map (one · false), one w false, true, false⟩ := by simp [stW]
    rw [hs]
    rcases snoc_or (ws.take k) with e | ⟨m, x, e⟩
    · rw [e]
      rw [show stW [] = St0 from rfl, blanks_fold _ _ _ rfl, fold_plain _ _ _ w1 w2]
      rfl
    · rw [e]
      have hs2 : stW (m ++ [x]) = ⟨m.map (one · false), one x false, true, false⟩ := by simp [stW]
      rw [hs2, blanks_open _ _ _ rfl hb, fold_plain _ _ _ w1 w2]
      simp [putS, putN_nil, one, S_L]
theorem words_split (b : Nat) (hb : 0 < b) (ws : List ByteArray) (hw : ∀ w ∈ ws, WordOk w) : splitF ifs3 [⟨S (wordsT b 0 ws ++ [32]), false, true, false⟩] = ws.map (one · false) := by
  have h := words_state b hb ws hw ws.length (Nat.le_refl _)
  rw [List.take_length] at h
  show (endS ((L (S (wordsT b 0 ws ++ [32]))).foldl (stepB ifs3) St0) false).out = _
  rw [L_S, List.foldl_append, h]
  rcases snoc_or ws with rfl | ⟨m, x, rfl⟩
  · rfl
  · have hs2 : stW (m ++ [x]) = ⟨m.map (one · false), one x false, true, false⟩ := by simp [stW]
    rw [hs2]
    rw [List.foldl_cons, List.foldl_nil, stepB, if_pos (by decide), if_pos (by decide)]
    simp [endS]
theorem wordsT_len (b : Nat) (hb : b ≤ 5) : ∀ (i : Nat) (ws : List ByteArray), (∀ w ∈ ws, w.size ≤ 100) → (wordsT b i ws).length ≤ 105 * ws.length
  | _, [], _ => Nat.le_refl _
  | i, w :: ws, h => by
    have h1 := wordsT_len b hb (i + 1) ws (fun x hx => h x (by simp [hx]))
    have h2 := h w (by simp)
    rw [wordsT, List.length_append, List.length_append, List.length_replicate, L_size, List.length_cons]
    omega
end Go.Proofs.Ytlehofcgkmhgaaa
