/-
  How many commands there are: both counts.
-/
import Derived.Test.YtnackmnoldkihaaGreatDoorW32
import Derived.Test.YtnackmnoldkihaaGreatDoorW9
import Derived.Test.YtnackmnoldkihaaGreatDoorW44
import Derived.Test.YtnackmnoldkihaaGreatDoorW27
set_option linter.unusedVariables false
set_option linter.unusedSimpArgs false
/-
  What is shown is not long: a bound out of the script's weight.
-/
namespace Go.Proofs.YtnackmnoldkihaaGreatDoor
open Go.RowKit

/-- What is written, and what comes. -/
def phi (s : St) : Nat := s.1.length + (s.2.map fun r => (docW r).length).sum
theorem phi_put (s : St) (t : List UInt8) : phi (putS s t) = phi s + t.length := by simp [phi, putS]; omega
theorem phi_line (s : St) : phi (lineS s) = phi s + 1 := by
 simp only [phi, lineS, List.length_append, List.length_cons, List.length_flatMap, List.map_nil, List.sum_nil]; omega
theorem phi_next (s : St) (b : Bool) : phi (nextS s b) ≤ phi s + 1 := by cases b <;> simp [nextS, phi_put]
theorem phi_len (s : St) : s.1.length ≤ phi s := by rw [phi]; omega

/-- No deeper than so. -/
def nodeE (ew : List Pt → Bool) (el : List Nd → Bool) (x : Nd) : Bool :=
 x.assigns.all (fun a => ew a.word) && (x.words.all ew && (x.redirs.all (fun r => ew r.word) && (x.lists.all el && x.arms.all (fun a => a.words.all ew && el a.body))))
def levE : Nat → (List Pt → Bool) × (List Nd → Bool)
 | 0 => (fun l => l.isEmpty, fun l => l.isEmpty)
 | d + 1 => (fun l => l.all fun p => (levE d).1 p.word && (levE d).2 p.body, fun l => l.all (nodeE (levE d).1 (levE d).2))
theorem levE_nil (d : Nat) : (levE d).1 [] = true ∧ (levE d).2 [] = true := by cases d <;> exact ⟨rfl, rfl⟩
theorem wt_nil (d : Nat) : wtW d [] = 0 ∧ wtL d [] = 0 := by cases d <;> exact ⟨by rw [wtW]; try rfl, by rw [wtL]; try rfl⟩
theorem doc_le (d : Nat) (y : List Pt) (h : (levE d).1 y = true) : (docL y).length ≤ 8 * wtW d y := by
 cases d with
 | zero =>
   have e : y = [] := List.isEmpty_iff.1 h
   rw [e]; exact Nat.le_refl _
 | succ d =>
   have h1 := flat_docP (litrB y) y
   have h2 : (y.map fun p => p.text.size).sum + y.length ≤ wtW (d + 1) y := by
    rw [wtW]
    clear h h1
    induction y with
    | nil => exact Nat.le_refl _
    | cons p l ih => simp only [List.map_cons, List.sum_cons, wtP, List.length_cons]; omega
   rw [docL]; omega
theorem fold_phi {α : Type} {f : St → α → St} {e : α → Bool} {g : α → Nat} (h : ∀ s x, e x = true → phi (f s x) ≤ phi s + 64 * g x) : ∀ (l : List α) (s : St), l.all e = true → phi (l.foldl f s) ≤ phi s + 64 * (l.map g).sum
 | [], s, _ => by simp
 | x :: l, s, hl => by
   rw [List.all_cons, Bool.and_eq_true] at hl
   have h1 := fold_phi h l (f s x) hl.2
   have h2 := h s x hl.1
   simp only [List.foldl_cons, List.map_cons, List.sum_cons]
   omega
theorem quoL_len (l : List UInt8) : (quoL l).length ≤ 4 * l.length + 2 := by
 rw [quoL]
 simp only [List.length_cons, List.length_append, List.length_nil]
 have : ∀ l : List UInt8, (l.flatMap fun c => if c = 39 then [39, 92, 39, 39] else [c]).length ≤ 4 * l.length := by
  intro l
  induction l with
  | nil => exact Nat.le_refl _
  | cons c l ih =>
    rw [List.flatMap_cons, List.length_append, List.length_cons]
    split <;> simp only [List.length_cons, List.length_nil] <;> omega
 have := this l
 omega
section
variable {wd : St → List Pt → St} {ls : St → List Nd → St} {nd : St → Nd → St} {ew : List Pt → Bool} {el : List Nd → Bool} {fw : List Pt → Nat} {fl : List Nd → Nat}
variable (hw : ∀ s y, ew y = true → phi (wd s y) ≤ phi s + 64 * fw y) (hd : ∀ y, ew y = true → (docL y).length ≤ 8 * fw y) (hl : ∀ s y, el y = true → phi (ls s y) ≤ phi s + 64 * fl y) (ho : ∀ s y, el y = true → phi (oneS nd s y) ≤ phi s + 64 * fl y)
include hw
theorem paramS_phi (s : St) (p : Pt) (h : ew p.word = true) : phi (paramS wd s p) ≤ phi s + 5 + p.text.size + p.op.size + 64 * fw p.word := by
 rw [paramS]
 cases (L p.op).isEmpty
 · cases L p.op == [108, 101, 110]
   · have := hw (putS s ([36, 123] ++ L p.text ++ L p.op)) p.word h
     simp only [phi_put, cond_false, List.length_append, List.length_cons, List.length_nil, L_size] at this ⊢
     omega
   · simp only [phi_put, cond_true, cond_false, List.length_append, List.length_cons, List.length_nil, L_size]; omega
 · simp only [phi_put, cond_true, List.length_append, List.length_cons, List.length_nil, L_size]; omega
include hl
theorem coreS_phi (s : St) (p : Pt) (h : ew p.word = true) (h2 : el p.body = true) : phi (coreS wd ls s p) ≤ phi s + 10 + p.text.size + p.op.size + 64 * fw p.word + 64 * fl p.body := by
 rw [coreS]
 cases p.kind == 2
 · cases p.kind == 3
   · simp only [phi_put, cond_false, List.length_append, List.length_cons, List.length_nil, L_size]; omega
   · simp only [cond_true, cond_false]
     have h3 := hl (s.1 ++ [36, 40, 10], []) p.body h2
     have h4 := phi_len (ls (s.1 ++ [36, 40, 10], []) p.body)
     simp only [phi, List.length_append, List.length_cons, List.length_nil, List.map_nil, List.sum_nil] at h3 h4 ⊢
     omega
 · have := paramS_phi hw s p h
   simp only [cond_true]
   omega
theorem partS_phi (s : St) (p : Pt) (h : (ew p.word && el p.body) = true) : phi (partS wd ls s p) ≤ phi s + 64 * wtP fw fl p := by
 rw [Bool.and_eq_true] at h
 rw [partS, wtP]
 cases p.kind == 1
 · cases p.quoted
   · have := coreS_phi hw hl s p h.1 h.2
     simp only [cond_false]
     omega
   · have := coreS_phi hw hl (putS s [34]) p h.1 h.2
     simp only [phi_put, cond_true, cond_false, List.length_cons, List.length_nil] at this ⊢
     omega
 · have := quoL_len (L p.text)
   have := L_size p.text
   cases p.quoted <;> simp only [phi_put, cond_true, cond_false] <;> omega
omit hl
include hd
theorem redirS_phi (s : St) (r : Rd) (h : ew r.word = true) : phi (redirS wd s r) + 1 ≤ phi s + 64 * wtR fw r := by
 rw [redirS, wtR]
 cases L r.op == [60, 60]
 · have := hw (putS s (fdL r.fd ++ L r.op)) r.word h
   simp only [phi_put, cond_false, List.length_append, List.length_cons, List.length_nil, L_size, fdL] at this ⊢
   omega
 · have h1 := hd r.word h
   have h2 : ∀ b : Bool, (bif b then 39 :: (L r.tag ++ [39]) else L r.tag).length ≤ r.tag.size + 2 := fun b => by
    have := L_size r.tag
    cases b <;> simp <;> omega
   have h2 := h2 (litrB r.word)
   simp only [phi, putS, cond_true, List.length_append, List.length_cons, List.length_nil, L_size, fdL, List.map_append, List.map_cons, List.map_nil, List.sum_append, List.sum_cons, List.sum_nil, docW] at h2 ⊢
   omega
theorem redirsS_phi : ∀ (l : List Rd) (s : St) (b : Bool), l.all (fun r => ew r.word) = true → phi (redirsS wd s l b) ≤ phi s + 64 * (l.map (wtR fw)).sum
 | [], s, b, _ => by simp [redirsS]
 | r :: l, s, b, hl => by
   rw [List.all_cons, Bool.and_eq_true] at hl
   have h1 := redirsS_phi l (redirS wd (nextS s b) r) true hl.2
   have h2 := redirS_phi hw hd (nextS s b) r hl.1
   have h3 := phi_next s b
   simp only [redirsS, List.map_cons, List.sum_cons]
   omega
omit hd
theorem assignsS_phi : ∀ (l : List As) (s : St) (b : Bool), l.all (fun r => ew r.word) = true → phi (assignsS wd s l b) ≤ phi s + 64 * (l.map (wtA fw)).sum
 | [], s, b, _ => by simp [assignsS]
 | a :: l, s, b, hl => by
   rw [List.all_cons, Bool.and_eq_true] at hl
   have h1 := assignsS_phi l (wd (putS (nextS s b) (L a.name ++ [61])) a.word) true hl.2
   have h2 := hw (putS (nextS s b) (L a.name ++ [61])) a.word hl.1
   have h3 := phi_next s b
   simp only [assignsS, List.map_cons, List.sum_cons, wtA, phi_put, List.length_append, List.length_cons, List.length_nil, L_size] at h1 h2 ⊢
   omega
theorem wordsS_phi : ∀ (l : List (List Pt)) (s : St) (b : Bool), l.all ew = true → phi (wordsS wd s l b) ≤ phi s + 64 * (l.map (wtY fw)).sum
 | [], s, b, _ => by simp [wordsS]
 | a :: l, s, b, hl => by
   rw [List.all_cons, Bool.and_eq_true] at hl
   have h1 := wordsS_phi l (wd (nextS s b) a) true hl.2
   have h2 := hw (nextS s b) a hl.1
   have h3 := phi_next s b
   simp only [wordsS, List.map_cons, List.sum_cons, wtY] at h1 h2 ⊢
   omega
theorem barsS_phi : ∀ (l : List (List Pt)) (s : St) (b : Bool), l.all ew = true → phi (barsS wd s l b) ≤ phi s + 64 * (l.map (wtY fw)).sum
 | [], s, b, _ => by simp [barsS]
 | a :: l, s, b, hl => by
   rw [List.all_cons, Bool.and_eq_true] at hl
   have h1 := barsS_phi l (wd (bif b then putS s [32, 124, 32] else s) a) true hl.2
   have h2 := hw (bif b then putS s [32, 124, 32] else s) a hl.1
   have h3 : phi (bif b then putS s [32, 124, 32] else s) ≤ phi s + 3 := by cases b <;> simp [phi_put]
   simp only [barsS, List.map_cons, List.sum_cons, wtY] at h1 h2 ⊢
   omega
omit hw
include hl
theorem blockS_phi (s : St) (head : List UInt8) (y : List Nd) (h : el y = true) : phi (blockS ls s head y) ≤ phi s + head.length + 1 + 64 * fl y := by
 have := hl (lineS (putS s head)) y h
 rw [phi_line, phi_put] at this
 rw [blockS]; omega
include hw
theorem armS_phi (s : St) (a : Ar) (h : (a.words.all ew && el a.body) = true) : phi (armS wd ls s a) ≤ phi s + 64 * wtM fw fl a := by
 rw [Bool.and_eq_true] at h
 have h1 := barsS_phi hw a.words (putS s [40]) false h.1
 have h2 := blockS_phi hl (barsS wd (putS s [40]) a.words false) [41] a.body h.2
 simp only [armS, wtM, phi_line, phi_put, List.length_cons, List.length_nil] at h1 h2 ⊢
 omega
theorem caseS_phi (h0 : ew [] = true) (f0 : fw [] = 0) (s : St) (x : Nd) (h1 : x.words.all ew = true) (h2 : x.arms.all (fun a => a.words.all ew && el a.body) = true) : phi (caseS wd ls s x) ≤ phi s + 13 + 64 * (x.words.map (wtY fw)).sum + 64 * (x.arms.map (wtM fw fl)).sum := by
 have hf : ew (firstW x) = true ∧ fw (firstW x) ≤ (x.words.map (wtY fw)).sum := by
  rw [firstW]
  cases hq : x.words with
  | nil => exact ⟨h0, by simp [f0]⟩
  | cons y l => rw [hq, List.all_cons, Bool.and_eq_true] at h1; exact ⟨h1.1, by simp only [List.map_cons, List.sum_cons, wtY]; omega⟩
 have a1 := hw (putS s [99, 97, 115, 101, 32]) (firstW x) hf.1
 have a2 := fold_phi (armS_phi hw hl) x.arms (lineS (putS (wd (putS s [99, 97, 115, 101, 32]) (firstW x)) [32, 105, 110])) h2
 simp only [caseS, phi_line, phi_put, List.length_cons, List.length_nil] at a1 a2 ⊢
 omega
omit hw hl
theorem listAt_all (e0 : el [] = true) (x : Nd) (h : x.lists.all el = true) (k : Nat) : el (listAt x k) = true := by
 rw [listAt, List.getD_eq_getElem?_getD]
 cases hk : x.lists[k]? with
 | none => exact e0
 | some y => exact List.all_eq_true.1 h y (List.mem_of_getElem? hk)
theorem listAt_sum (f0 : fl [] = 0) (x : Nd) : fl (listAt x 0) + fl (listAt x 1) + fl (listAt x 2) ≤ (x.lists.map (wtS fl)).sum := by
 simp only [listAt]
 match x.lists with
 | [] => simp [f0]
 | [a] => simp [f0, wtS]
 | [a, b] => simp [f0, wtS]; omega
 | a :: b :: c :: r => simp [wtS]; omega
include hw hl
theorem compS_phi (h0 : ew [] = true) (f0 : fw [] = 0) (e0 : el [] = true) (g0 : fl [] = 0) (s : St) (x : Nd) (h1 : x.words.all ew = true) (h2 : x.lists.all el = true) (h3 : x.arms.all (fun a => a.words.all ew && el a.body) = true) :
 phi (compS wd ls s x) ≤ phi s + 40 + x.name.size + 64 * (x.words.map (wtY fw)).sum + 64 * (x.lists.map (wtS fl)).sum + 64 * (x.arms.map (wtM fw fl)).sum := by
 have b := fun s head k => blockS_phi hl s head (listAt x k) (listAt_all e0 x h2 k)
 have q := listAt_sum g0 x
 rw [compS]
 cases x.kind == 6
 · cases x.kind == 7
   · cases x.kind == 8
     · cases x.kind == 9
       · cases x.kind == 10
         · cases x.kind == 12
           · have b0 := b s [123] 0
             simp only [cond_false, phi_put, List.length_cons, List.length_nil] at b0 ⊢
             omega
           · have b0 := b s [40] 0
             simp only [cond_false, cond_true, phi_put, List.length_cons, List.length_nil] at b0 ⊢
             omega
         · have := caseS_phi hw hl h0 f0 s x h1 h3
           simp only [cond_true, cond_false]
           omega
       · have a1 := wordsS_phi hw x.words (putS s ([102, 111, 114, 32] ++ L x.name ++ [32, 105, 110])) true h1
         have b0 := b (lineS (wordsS wd (putS s ([102, 111, 114, 32] ++ L x.name ++ [32, 105, 110])) x.words true)) [100, 111] 0
         simp only [cond_true, cond_false, phi_line, phi_put, List.length_append, List.length_cons, List.length_nil, L_size] at a1 b0 ⊢
         omega
     · have b0 := b s [117, 110, 116, 105, 108] 0
       have b1 := b (blockS ls s [117, 110, 116, 105, 108] (listAt x 0)) [100, 111] 1
       simp only [cond_true, cond_false, phi_put, List.length_cons, List.length_nil] at b0 b1 ⊢
       omega
   · have b0 := b s [119, 104, 105, 108, 101] 0
     have b1 := b (blockS ls s [119, 104, 105, 108, 101] (listAt x 0)) [100, 111] 1
     simp only [cond_true, cond_false, phi_put, List.length_cons, List.length_nil] at b0 b1 ⊢
     omega
 · have b0 := b s [105, 102] 0
   have b1 := b (blockS ls s [105, 102] (listAt x 0)) [116, 104, 101, 110] 1
   have b2 := b (blockS ls (blockS ls s [105, 102] (listAt x 0)) [116, 104, 101, 110] (listAt x 1)) [101, 108, 115, 101] 2
   cases decide (2 < x.lists.length) <;> simp only [cond_true, cond_false, phi_put, List.length_cons, List.length_nil] at b0 b1 b2 ⊢ <;> omega
omit hw hl
include ho
theorem joinS_phi (sign : List UInt8) (hs : sign.length ≤ 4) : ∀ (l : List (List Nd)) (s : St) (b : Bool), l.all el = true → phi (joinS nd sign s l b) ≤ phi s + 64 * (l.map (wtS fl)).sum
 | [], s, b, _ => by simp [joinS]
 | y :: l, s, b, hl => by
   rw [List.all_cons, Bool.and_eq_true] at hl
   have h1 := joinS_phi sign hs l (oneS nd (bif b then putS s sign else s) y) true hl.2
   have h2 := ho (bif b then putS s sign else s) y hl.1
   have h3 : phi (bif b then putS s sign else s) ≤ phi s + 4 := by cases b <;> simp [phi_put]; omega
   simp only [joinS, List.map_cons, List.sum_cons, wtS] at h1 h2 ⊢
   omega
include hw hl
theorem bodyS_phi (h0 : ew [] = true) (f0 : fw [] = 0) (e0 : el [] = true) (g0 : fl [] = 0) (s : St) (x : Nd) (h1 : x.words.all ew = true) (h2 : x.lists.all el = true) (h3 : x.arms.all (fun a => a.words.all ew && el a.body) = true) :
 phi (bodyS wd ls nd s x) ≤ phi s + 40 + x.name.size + 64 * (x.words.map (wtY fw)).sum + 64 * (x.lists.map (wtS fl)).sum + 64 * (x.arms.map (wtM fw fl)).sum := by
 have b := fun s => ho s (listAt x 0) (listAt_all e0 x h2 0)
 have q := listAt_sum g0 x
 have j := fun sign hs => joinS_phi ho sign hs x.lists s false h2
 rw [bodyS]
 cases x.kind == 2
 · cases x.kind == 3
   · cases x.kind == 4
     · cases x.kind == 5
       · cases x.kind == 11
         · exact compS_phi hw hl h0 f0 e0 g0 s x h1 h2 h3
         · have b0 := b (putS s (L x.name ++ [40, 41, 32]))
           simp only [cond_true, cond_false, phi_put, List.length_append, List.length_cons, List.length_nil, L_size] at b0 ⊢
           omega
       · have b0 := b (putS s [33, 32])
         simp only [cond_true, cond_false, phi_put, List.length_cons, List.length_nil] at b0 ⊢
         omega
     · have := j [32, 124, 124, 32] (by decide); simp only [cond_true, cond_false]; omega
   · have := j [32, 38, 38, 32] (by decide); simp only [cond_true, cond_false]; omega
 · have := j [32, 124, 32] (by decide); simp only [cond_true]; omega
include hd
theorem nodeS_phi (h0 : ew [] = true) (f0 : fw [] = 0) (e0 : el [] = true) (g0 : fl [] = 0) (s : St) (x : Nd) (h : nodeE ew el x = true) : phi (nodeS wd ls nd s x) + 1 ≤ phi s + 64 * wtN fw fl x := by
 simp only [nodeE, Bool.and_eq_true] at h
 obtain ⟨ha, hws, hr, hls, hm⟩ := h
 rw [nodeS, wtN]
 cases x.kind == 1
 · have a1 := bodyS_phi hw hl ho h0 f0 e0 g0 s x hws hls hm
   have a2 := redirsS_phi hw hd x.redirs (bodyS wd ls nd s x) true hr
   simp only [cond_false]
   omega
 · have a1 := assignsS_phi hw x.assigns s false ha
   have a2 := wordsS_phi hw x.words (assignsS wd s x.assigns false) (!x.assigns.isEmpty) hws
   have a3 := redirsS_phi hw hd x.redirs (wordsS wd (assignsS wd s x.assigns false) x.words (!x.assigns.isEmpty)) (!(x.assigns.isEmpty && x.words.isEmpty)) hr
   simp only [cond_true, simpleS]
   omega
end
theorem levS_phi : ∀ d, (∀ s y, (levE d).1 y = true → phi ((levS d).1 s y) ≤ phi s + 64 * wtW d y) ∧ (∀ s y, (levE d).2 y = true → phi ((levS d).2.1 s y) ≤ phi s + 64 * wtL d y) ∧
 ∀ s x, nodeE (levE d).1 (levE d).2 x = true → phi ((levS d).2.2 s x) + 1 ≤ phi s + 64 * wtN (wtW d) (wtL d) x
 | 0 => by
   have hw : ∀ (s : St) (y : List Pt), (levE 0).1 y = true → phi s ≤ phi s + 64 * wtW 0 y := fun s y _ => by omega
   have hl : ∀ (s : St) (y : List Nd), (levE 0).2 y = true → phi s ≤ phi s + 64 * wtL 0 y := fun s y _ => by omega
   exact ⟨hw, hl, nodeS_phi (wd := fun s _ => s) (ls := fun s _ => s) (nd := fun s _ => s) hw (doc_le 0) hl (fun s y h => by cases y <;> (show phi s ≤ _; omega)) (levE_nil 0).1 (wt_nil 0).1 (levE_nil 0).2 (wt_nil 0).2⟩
 | d + 1 => by
   obtain ⟨h1, h2, h3⟩ := levS_phi d
   have hw : ∀ s y, (levE (d + 1)).1 y = true → phi ((levS (d + 1)).1 s y) ≤ phi s + 64 * wtW (d + 1) y := fun s y h => by
    rw [wtW]
    exact fold_phi (f := partS (levS d).1 (levS d).2.1) (partS_phi h1 h2) y s h
   have hl : ∀ s y, (levE (d + 1)).2 y = true → phi ((levS (d + 1)).2.1 s y) ≤ phi s + 64 * wtL (d + 1) y := fun s y h => by
    rw [wtL]
    exact fold_phi (f := fun s x => lineS ((levS d).2.2 s x)) (fun s x hx => by rw [phi_line]; exact h3 s x hx) y s h
   exact ⟨hw, hl, nodeS_phi hw (doc_le (d + 1)) hl (fun s y h => by
    cases y with
    | nil => show phi s ≤ _; omega
    | cons z r =>
      have h' : (nodeE (levE d).1 (levE d).2 z && r.all (nodeE (levE d).1 (levE d).2)) = true := h
      rw [Bool.and_eq_true] at h'
      have := h3 s z h'.1
      rw [wtL]
      simp only [List.map_cons, List.sum_cons]
      show phi ((levS d).2.2 s z) ≤ _
      omega) (levE_nil _).1 (wt_nil _).1 (levE_nil _).2 (wt_nil _).2⟩

/-! ### what lies in memory is no deeper -/
theorem SlOf.each {α : Type} {w : World} {B size : Nat} {F : α → List Value → Prop} {l : List α} {v : Value} (h : SlOf w B size F l v) {x : α} (hx : x ∈ l) : ∃ c, F x c := by
 obtain ⟨_, cs, h1, _, _, h4⟩ := h
 obtain ⟨i, hi, e⟩ := List.mem_iff_getElem.1 hx
 have hi' : i < cs.length := by omega
 exact ⟨cs[i], h4 i x cs[i] (by rw [List.getElem?_eq_getElem hi, e]) (List.getElem?_eq_getElem hi')⟩
theorem deep_of {w : World} {B : Nat} : ∀ d, (∀ l v, PtsIn w B d l v → (levE d).1 l = true) ∧ (∀ l v, NdsIn w B d l v → (levE d).2 l = true)
 | 0 => ⟨fun l v h => by rw [PtsIn] at h; rw [h.zero]; rfl, fun l v h => by rw [NdsIn] at h; rw [h.zero]; rfl⟩
 | d + 1 => by
   obtain ⟨h1, h2⟩ := deep_of (w := w) (B := B) d
   refine ⟨fun l v h => ?_, fun l v h => ?_⟩
   · rw [PtsIn.succ] at h
     refine List.all_eq_true.2 fun p hp => ?_
     obtain ⟨c, _, _, wv, bv, _, hw, hb⟩ := h.each hp
     rw [Bool.and_eq_true]
     exact ⟨h1 _ _ hw, h2 _ _ hb⟩
   · rw [NdsIn.succ] at h
     refine List.all_eq_true.2 fun x hx => ?_
     obtain ⟨c, _, av, wv, rv, lv, mv, _, ha, hw, hr, hl, hm⟩ := h.each hx
     have hww : ∀ {ws : List (List Pt)} {v : Value}, WdsIn w B d ws v → ws.all (levE d).1 = true := fun h => List.all_eq_true.2 fun y hy => by
      obtain ⟨c, v, _, h⟩ := h.each hy
      exact h1 _ _ h
     simp only [nodeE, Bool.and_eq_true]
     refine ⟨List.all_eq_true.2 fun a h => ?_, hww hw, List.all_eq_true.2 fun a h => ?_, List.all_eq_true.2 fun y h => ?_, List.all_eq_true.2 fun a h => ?_⟩
     · obtain ⟨c, _, v, _, h⟩ := ha.each h
       exact h1 _ _ h
     · obtain ⟨c, _, _, _, v, _, h⟩ := hr.each h
       exact h1 _ _ h
     · obtain ⟨c, v, _, h⟩ := hl.each h
       exact h2 _ _ h
     · obtain ⟨c, wv, bv, _, hq, hb⟩ := hm.each h
       rw [Bool.and_eq_true]
       exact ⟨hww hq, h2 _ _ hb⟩
/-- What is shown is not long. -/
theorem show_len {w : World} {B d : Nat} {l : List Nd} {v : Value} (h : NdsIn w B d l v) (hw : wtL d l ≤ bigN) : (showL d l).length ≤ lim := by
 have h1 := (levS_phi d).2.1 ([], []) l ((deep_of d).2 l v h)
 have h2 := phi_len ((levS d).2.1 ([], []) l)
 have h3 : phi (([], []) : St) = 0 := rfl
 rw [h3] at h1
 unfold bigN at hw
 unfold lim
 show ((levS d).2.1 ([], []) l).1.length ≤ _
 omega
end Go.Proofs.YtnackmnoldkihaaGreatDoor
namespace Go.Proofs.YtnackmnoldkihaaGreatDoor
open Go.RowKit

def cntN (fl : List Nd → Nat) (x : Nd) : Nat := 1 + (x.lists.map fl).sum + (x.arms.map fun a => fl a.body).sum
def cntL : Nat → List Nd → Nat
 | 0, _ => 0
 | d + 1, l => (l.map (cntN (cntL d))).sum
theorem sum_mono {α : Type} {f g : α → Nat} (h : ∀ x, f x ≤ g x) : ∀ l : List α, (l.map f).sum ≤ (l.map g).sum
 | [] => Nat.le_refl _
 | x :: l => by simp only [List.map_cons, List.sum_cons]; exact Nat.add_le_add (h x) (sum_mono h l)
theorem cnt_le : ∀ d l, cntL d l ≤ wtL d l
 | 0, l => by rw [cntL]; exact Nat.zero_le _
 | d + 1, l => by
   rw [cntL, wtL]
   refine sum_mono (fun x => ?_) l
   have h1 := sum_mono (f := cntL d) (g := wtS (wtL d)) (fun y => by rw [wtS]; have := cnt_le d y; omega) x.lists
   have h2 := sum_mono (f := fun a : Ar => cntL d a.body) (g := wtM (wtW d) (wtL d)) (fun a => by rw [wtM]; have := cnt_le d a.body; omega) x.arms
   rw [cntN, wtN]
   omega
theorem sum_take_le {α : Type} (f : α → Nat) (l : List α) (k : Nat) : ((l.take k).map f).sum ≤ (l.map f).sum := by
 have h := List.take_append_drop k l
 have : (l.map f).sum = ((l.take k).map f).sum + ((l.drop k).map f).sum := by rw [← List.sum_append, ← List.map_append, h]
 omega
theorem sum_snoc {α : Type} (f : α → Nat) {l : List α} {k : Nat} {x : α} (h : l[k]? = some x) : ((l.take (k + 1)).map f).sum = ((l.take k).map f).sum + f x := by
 rw [List.take_add_one, h]; simp

def WCountAt (d : Nat) : Prop := ∀ (W : World) (l : List Nd) (v : Value), NdsIn W W.heap.size d l v → cntL d l ≤ 1048576 →
 Calls Tryz.prog 35 #[v] W fun e w' => e = .returned (.int .i64 (cntL d l : Nat)) ∧ Below W.heap.size W w'
def RCountAt (d : Nat) : Prop := ∀ (W : World) (l : List Nd) (v : Value), NdsIn W W.heap.size d l v → cntL d l ≤ 1048576 →
 Calls Tryz.prog 36 #[v] W fun e w' => e = .returned (.int .i64 (cntL d l : Nat)) ∧ W = w'
set_option maxHeartbeats 1000000 in
set_option maxRecDepth 100000 in
theorem wcount_zero : WCountAt 0 := by
 intro w l v hl _
 rw [NdsIn] at hl
 obtain ⟨a, cap, rfl⟩ := hl.shape
 obtain rfl := hl.zero
 clear hl
 go_enter Tryz.func35, Tryz.ntmps35
 go_wp2_with fail
 refine wp_loop_rounds 1 ?_
 rw [rounds_succ]
 go_wp2_with fail
 go_ret
 exact ⟨rfl, bg⟩
set_option maxHeartbeats 1000000 in
set_option maxRecDepth 100000 in
theorem rcount_zero : RCountAt 0 := by
 intro w l v hl _
 rw [NdsIn] at hl
 obtain ⟨a, cap, rfl⟩ := hl.shape
 obtain rfl := hl.zero
 clear hl
 go_enter Tryz.func36, Tryz.ntmps36
 go_wp2_with fail
 refine wp_loop_rounds 1 ?_
 rw [rounds_succ]
 go_wp2_with fail
 go_ret
 exact ⟨rfl, rfl⟩
set_option maxHeartbeats 4000000 in
set_option maxRecDepth 100000 in
theorem rcount_succ {d : Nat} (ih : RCountAt d) : RCountAt (d + 1) := by
 intro w l v hl hz
 rw [NdsIn.succ] at hl
 obtain ⟨a, cap, rfl, hzl⟩ := hl.len
 obtain ⟨n, hn⟩ : ∃ n, l.length = n := ⟨_, rfl⟩
 rw [cntL] at hz ⊢
 obtain ⟨f, hf⟩ : ∃ f, cntN (cntL d) = f := ⟨_, rfl⟩
 have HFX : Hid (∀ x, f x = 1 + (x.lists.map (cntL d)).sum + (x.arms.map fun a => cntL d a.body).sum) := Lib.hid fun x => by rw [← hf, cntN]
 rw [hf] at hz ⊢
 rw [hn] at hl hzl ⊢
 have HL := Lib.hid hl
 have HN := Lib.hid hn
 have HZ : Hid (∀ k, ((l.take k).map f).sum ≤ 1048576) := Lib.hid fun k => Nat.le_trans (sum_take_le f l k) hz
 have HIH := Lib.hid ih
 obtain ⟨r, hr⟩ : ∃ r, (l.map f).sum = r := ⟨_, rfl⟩
 have HR := Lib.hid hr
 rw [hr]
 clear hl hn hz ih hf hr
 obtain ⟨g, hg⟩ : ∃ g : Nd → Nat, (fun x => (x.lists.map (cntL d)).sum + (x.arms.map fun a => cntL d a.body).sum) = g := ⟨_, rfl⟩
 have HG : Hid (∀ x, g x = (x.lists.map (cntL d)).sum + (x.arms.map fun a => cntL d a.body).sum) := Lib.hid fun x => by rw [← hg]
 have HFG : Hid (∀ k, n + ((l.take k).map g).sum ≤ 1048576) := Lib.hid fun k => by
  have h1 := sum_take_le g l k
  have h2 : ∀ l : List Nd, (l.map f).sum = l.length + (l.map g).sum := fun l => by
   induction l with
   | nil => rfl
   | cons x l ih => simp only [List.map_cons, List.sum_cons, List.length_cons, HFX.out, HG.out] at ih ⊢; rw [ih]; omega
  have h3 := HZ.out l.length
  rw [List.take_length, h2, HN.out] at h3
  omega
 have HRG : Hid (r = n + (l.map g).sum) := Lib.hid (by
  have h2 : ∀ l : List Nd, (l.map f).sum = l.length + (l.map g).sum := fun l => by
   induction l with
   | nil => rfl
   | cons x l ih => simp only [List.map_cons, List.sum_cons, List.length_cons, HFX.out, HG.out] at ih ⊢; rw [ih]; omega
  rw [← HR.out, h2, HN.out])
 clear hg
 go_enter Tryz.func36, Tryz.ntmps36
 go_wp2_with fail
 go_loop [3, 4] (fun t i => ∃ (k T : Nat), k ≤ n ∧ i = .int .i64 k ∧ t = .int .i64 T ∧ T = n + ((l.take k).map g).sum) (fun _ i => n - (intOf i).toNat)
 case atStart => exact ⟨0, n, Nat.zero_le _, rfl, rfl, by simp⟩
 case round =>
  obtain ⟨k, T, hk, rfl, rfl, hT⟩ := hrel
  have hTz : T ≤ 1048576 := by rw [hT]; exact HFG.out k
  have HT := Lib.hid hT
  clear hT
  by_cases hlt : k < n
  · obtain ⟨x, hx⟩ : ∃ x, l[k]? = .some x := ⟨_, List.getElem?_eq_getElem (by rw [HN.out]; exact hlt)⟩
    obtain ⟨b, o, c, hi, hbB, hce, hC, _⟩ := HL.out.at 25 64 Tryz.underlying25 (by kernel_rfl) hx
    have HX := Lib.hid (sum_snoc g hx)
    have hk1 := HFG.out (k + 1)
    rw [HX.out, ← Nat.add_assoc, ← HT.out, HG.out] at hk1
    obtain ⟨a1, c1, a2, c2, a3, c3, a4, c4, a5, c5, rfl, hxz, ⟨hn1, hn2, hn3, hn4, hn5⟩, hAs, hWs, hRd, hLs0, hAr⟩ := hC.open
    have e5 := hce 5 _ rfl
    have e6 := hce 6 _ rfl
    obtain ⟨n4, hl4⟩ : ∃ n, x.lists.length = n := ⟨_, rfl⟩
    obtain ⟨n5, hl5⟩ : ∃ n, x.arms.length = n := ⟨_, rfl⟩
    rw [hl4] at hn4 hLs0 e5
    rw [hl5] at hn5 hAr e6
    have HLI := Lib.hid hLs0
    have HAR := Lib.hid hAr
    have N4 := Lib.hid hl4
    have N5 := Lib.hid hl5
    have HK1 := Lib.hid hk1
    clear hx hce hC hAs hWs hRd hLs0 hAr hl4 hl5 hk1 hn1 hn2 hn3 hxz
    go_wp2_with fail
    go_loop [3, 5] (fun t i => ∃ (j U : Nat), j ≤ n4 ∧ i = .int .i64 j ∧ t = .int .i64 U ∧ U = T + ((x.lists.take j).map (cntL d)).sum) (fun _ i => n4 - (intOf i).toNat)
    case atStart => exact ⟨0, T, Nat.zero_le _, rfl, rfl, by simp⟩
    case round =>
     obtain ⟨j, U, hj, rfl, rfl, hU⟩ := hrel
     have HU := Lib.hid hU
     have hUz : U ≤ 1048576 := by have h1 := sum_take_le (cntL d) x.lists j; have h2 := HK1.out; omega
     clear hU
     by_cases hlt2 : j < n4
     · obtain ⟨y, hy⟩ : ∃ y, x.lists[j]? = .some y := ⟨_, List.getElem?_eq_getElem (by rw [N4.out]; exact hlt2)⟩
       obtain ⟨b2, o2, c, hi2, hbB2, hce2, ⟨yv, rfl, hyp⟩, _⟩ := HLI.out.at 61 25 Tryz.underlying61 (by kernel_rfl) hy
       have HYS := Lib.hid (sum_snoc (cntL d) hy)
       have hcz : U + cntL d y ≤ 1048576 := by have h1 := sum_take_le (cntL d) x.lists (j + 1); rw [HYS.out] at h1; have h2 := HK1.out; have h3 := HU.out; omega
       have CN := Lib.hid (HIH.out w y yv hyp (by omega))
       obtain ⟨a6, c6, rfl, _⟩ := hyp.shape
       have f0 := hce2 0 _ rfl
       rw [Nat.add_zero] at f0
       obtain ⟨cy, hcy⟩ : ∃ t, cntL d y = t := ⟨_, rfl⟩
       rw [hcy] at CN HYS hcz
       clear hy hce2 hyp hcy
       go_wp2_with fail
       refine CN.out.mono ?_
       rintro e w1 ⟨rfl, rfl⟩
       go_wp2_with fail
       go_round
       case rel => exact ⟨j + 1, U + cy, by omega, by go_num, by go_num, by rw [HYS.out, HU.out]; omega⟩
       case measure => simp [intOf]; omega
     · have hUE : U = T + (x.lists.map (cntL d)).sum := by rw [HU.out, List.take_of_length_le (by rw [N4.out]; omega)]
       have HUE := Lib.hid hUE
       clear hUE
       go_wp2_with fail
       go_loop [3, 6] (fun t i => ∃ (m X : Nat), m ≤ n5 ∧ i = .int .i64 m ∧ t = .int .i64 X ∧ X = U + ((x.arms.take m).map fun a => cntL d a.body).sum) (fun _ i => n5 - (intOf i).toNat)
       case atStart => exact ⟨0, U, Nat.zero_le _, rfl, rfl, by simp⟩
       case round =>
        obtain ⟨m, X, hm, rfl, rfl, hXX⟩ := hrel
        have HXX := Lib.hid hXX
        have hXz : X ≤ 1048576 := by have h1 := sum_take_le (fun a : Ar => cntL d a.body) x.arms m; have h2 := HK1.out; have h3 := HUE.out; omega
        clear hXX
        by_cases hlt3 : m < n5
        · obtain ⟨y, hy⟩ : ∃ y, x.arms[m]? = .some y := ⟨_, List.getElem?_eq_getElem (by rw [N5.out]; exact hlt3)⟩
          obtain ⟨b2, o2, c, hi2, hbB2, hce2, ⟨wv, bv, rfl, _, hyp⟩, _⟩ := HAR.out.at 62 92 Tryz.underlying62 (by kernel_rfl) hy
          have HYS := Lib.hid (sum_snoc (fun a : Ar => cntL d a.body) hy)
          have hcz : X + cntL d y.body ≤ 1048576 := by have h1 := sum_take_le (fun a : Ar => cntL d a.body) x.arms (m + 1); rw [HYS.out] at h1; have h2 := HK1.out; have h3 := HUE.out; have h4 := HXX.out; omega
          have CN := Lib.hid (HIH.out w y.body bv hyp (by omega))
          obtain ⟨a6, c6, rfl, _⟩ := hyp.shape
          have f1 := hce2 1 _ rfl
          obtain ⟨cy, hcy⟩ : ∃ t, cntL d y.body = t := ⟨_, rfl⟩
          rw [hcy] at CN HYS hcz
          clear hy hce2 hyp hcy
          go_wp2_with fail
          refine CN.out.mono ?_
          rintro e w1 ⟨rfl, rfl⟩
          go_wp2_with fail
          go_round
          case rel => exact ⟨m + 1, X + cy, by omega, by go_num, by go_num, by rw [HYS.out, HXX.out]; omega⟩
          case measure => simp [intOf]; omega
        · have HXE : Hid (X = n + ((l.take (k + 1)).map g).sum) := Lib.hid (by
           have h1 := HXX.out
           rw [List.take_of_length_le (by rw [N5.out]; omega)] at h1
           rw [HX.out, HG.out, h1, HUE.out, HT.out]; omega)
          go_wp2_with fail
          go_round
          case rel => exact ⟨k + 1, X, by omega, by go_num, rfl, HXE.out⟩
          case measure => simp [intOf]; omega
  · have HE : Hid (T = r) := Lib.hid (by rw [HT.out, HRG.out, List.take_of_length_le (by rw [HN.out]; omega)])
    obtain rfl := HE.out
    go_wp2_with fail
    go_ret
    exact ⟨rfl, rfl⟩
theorem rcount_any : ∀ d, RCountAt d
 | 0 => rcount_zero
 | d + 1 => rcount_succ (rcount_any d)
set_option maxHeartbeats 4000000 in
set_option maxRecDepth 100000 in
theorem wcount_succ {d : Nat} (ih : WCountAt d) : WCountAt (d + 1) := by
 intro w l v hl hz
 rw [NdsIn.succ] at hl
 obtain ⟨a, cap, rfl, hzl⟩ := hl.len
 obtain ⟨n, hn⟩ : ∃ n, l.length = n := ⟨_, rfl⟩
 rw [cntL] at hz ⊢
 obtain ⟨f, hf⟩ : ∃ f, cntN (cntL d) = f := ⟨_, rfl⟩
 have HFX : Hid (∀ x, f x = 1 + (x.lists.map (cntL d)).sum + (x.arms.map fun a => cntL d a.body).sum) := Lib.hid fun x => by rw [← hf, cntN]
 rw [hf] at hz ⊢
 rw [hn] at hl hzl ⊢
 have HL := Lib.hid hl
 have HN := Lib.hid hn
 have HZ : Hid (∀ k, ((l.take k).map f).sum ≤ 1048576) := Lib.hid fun k => Nat.le_trans (sum_take_le f l k) hz
 have HIH := Lib.hid ih
 obtain ⟨r, hr⟩ : ∃ r, (l.map f).sum = r := ⟨_, rfl⟩
 have HR := Lib.hid hr
 rw [hr]
 clear hl hn hz ih hf hr
 obtain ⟨B0, hB0⟩ : ∃ B, w.heap.size = B := ⟨_, rfl⟩
 rw [hB0] at HL
 have HB0 := Lib.hid hB0
 have HB1 : Hid (Below B0 w w) := Lib.hid (by rw [← hB0]; exact Below.refl _ _)
 clear hB0
 go_enter Tryz.func35, Tryz.ntmps35
 go_wp2_with fail
 go_loopw [3, 12] (fun t i U => ∃ (k T : Nat), k ≤ n ∧ i = .int .i64 k ∧ t = .int .i64 T ∧ T = ((l.take k).map f).sum ∧ Below B0 w U) (fun _ i _ => n - (intOf i).toNat)
 case atStart => exact ⟨0, 0, Nat.zero_le _, rfl, rfl, by simp, HB1.out⟩
 case round =>
  obtain ⟨k, T, hk, rfl, rfl, hT, hb⟩ := hrel
  obtain ⟨wo, rfl⟩ : ∃ wo : World, wo = wr := ⟨_, rfl⟩
  have hTz : T ≤ 1048576 := by rw [hT]; exact HZ.out k
  have HT := Lib.hid hT
  have HB := Lib.hid hb
  clear hT hb
  by_cases hlt : k < n
  · obtain ⟨x, hx⟩ : ∃ x, l[k]? = .some x := ⟨_, List.getElem?_eq_getElem (by rw [HN.out]; exact hlt)⟩
    obtain ⟨b, o, c, hi, hbB, hce, hC, _⟩ := HL.out.at 22 38 Tryz.underlying22 (by kernel_rfl) hx
    have HX := Lib.hid (sum_snoc f hx)
    have hk1 := HZ.out (k + 1)
    rw [HX.out, ← HT.out, HFX.out] at hk1
    obtain ⟨a1, c1, a2, c2, a3, c3, a4, c4, a5, c5, rfl, hxz, ⟨hn1, hn2, hn3, hn4, hn5⟩, hAs, hWs, hRd, hLs0, hAr⟩ := hC.open
    have e0 := (HB.out.cell hbB).trans (hce 0 _ rfl)
    have e1 := (HB.out.cell hbB).trans (hce 1 _ rfl)
    have e2 := (HB.out.cell hbB).trans (hce 2 _ rfl)
    have e3 := (HB.out.cell hbB).trans (hce 3 _ rfl)
    have e4 := (HB.out.cell hbB).trans (hce 4 _ rfl)
    have e5 := (HB.out.cell hbB).trans (hce 5 _ rfl)
    have e6 := (HB.out.cell hbB).trans (hce 6 _ rfl)
    rw [Nat.add_zero] at e0
    have hbo : b < wo.heap.size := by have := HB.out.size; have := HB0.out; omega
    obtain ⟨m1, hl1⟩ : ∃ n, x.assigns.length = n := ⟨_, rfl⟩
    obtain ⟨m2, hl2⟩ : ∃ n, x.words.length = n := ⟨_, rfl⟩
    obtain ⟨m3, hl3⟩ : ∃ n, x.redirs.length = n := ⟨_, rfl⟩
    obtain ⟨n4, hl4⟩ : ∃ n, x.lists.length = n := ⟨_, rfl⟩
    obtain ⟨n5, hl5⟩ : ∃ n, x.arms.length = n := ⟨_, rfl⟩
    rw [hl1] at e2
    rw [hl2] at e3
    rw [hl3] at e4
    rw [hl4] at hn4 hLs0 e5
    rw [hl5] at hn5 hAr e6
    have HLI := Lib.hid hLs0
    have HAR := Lib.hid hAr
    have N4 := Lib.hid hl4
    have N5 := Lib.hid hl5
    have HK1 := Lib.hid hk1
    clear hx hce hC hAs hWs hRd hLs0 hAr hl1 hl2 hl3 hl4 hl5 hk1 hn1 hn2 hn3 hxz
    go_wp2_with fail
    go_loopw [3, 21] (fun t i U => ∃ (j X : Nat), j ≤ n4 ∧ i = .int .i64 j ∧ t = .int .i64 X ∧ X = T + 1 + ((x.lists.take j).map (cntL d)).sum ∧ Blk U wo.heap.size 38 #[.int .i64 x.kind, .string x.name, .slice a1 m1 c1, .slice a2 m2 c2, .slice a3 m3 c3, .slice a4 n4 c4, .slice a5 n5 c5] ∧ Below B0 w U) (fun _ i _ => n4 - (intOf i).toNat)
    case atStart => exact ⟨0, T + 1, Nat.zero_le _, rfl, by go_num, by simp, Blk.new _ _ _, HB.out.trans (((Below.refl _ _).alloc (Nat.le_refl _) _).mono (by have := HB.out.size; have := HB0.out; omega))⟩
    case round =>
     clear e0 e1 e2 e3 e4 e5 e6
     obtain ⟨j, U, hj, rfl, rfl, hU, hbx, hb2⟩ := hrel
     obtain ⟨wi, rfl⟩ : ∃ wi : World, wi = wr := ⟨_, rfl⟩
     have HU := Lib.hid hU
     have HBX := Lib.hid hbx
     have HB2 := Lib.hid hb2
     have hUz : U ≤ 1048576 := by have h1 := sum_take_le (cntL d) x.lists j; have h2 := HK1.out; omega
     clear hU hbx hb2
     obtain ⟨p0, p1, p2, p3, p4, p5, p6, pl⟩ := HBX.out.box7
     by_cases hlt2 : j < n4
     · obtain ⟨y, hy⟩ : ∃ y, x.lists[j]? = .some y := ⟨_, List.getElem?_eq_getElem (by rw [N4.out]; exact hlt2)⟩
       obtain ⟨b2, o2, c, hi2, hbB2, hce2, ⟨yv, rfl, hyp⟩, _⟩ := HLI.out.at 35 22 Tryz.underlying35 (by kernel_rfl) hy
       have HYS := Lib.hid (sum_snoc (cntL d) hy)
       have hcz : U + cntL d y ≤ 1048576 := by have h1 := sum_take_le (cntL d) x.lists (j + 1); rw [HYS.out] at h1; have h2 := HK1.out; have h3 := HU.out; omega
       have CN := Lib.hid (HIH.out wi y yv (hyp.below HB2.out |>.mono (by have := HB0.out; have := HB2.out.size; omega)) (by omega))
       obtain ⟨a6, c6, rfl, _⟩ := hyp.shape
       have f0 := (HB2.out.cell hbB2).trans (hce2 0 _ rfl)
       rw [Nat.add_zero] at f0
       obtain ⟨cy, hcy⟩ : ∃ t, cntL d y = t := ⟨_, rfl⟩
       rw [hcy] at CN HYS hcz
       clear hy hce2 hyp hcy
       go_wp2_with fail
       refine CN.out.mono ?_
       rintro e w1 ⟨rfl, hs1⟩
       have HS1 := Lib.hid hs1
       clear hs1
       go_wp2_with fail
       go_roundw
       case rel => exact ⟨j + 1, U + cy, by omega, by go_num, by go_num, by rw [HYS.out, HU.out]; omega, HBX.out.below HS1.out pl, HB2.out.trans (HS1.out.mono (by have := HB2.out.size; have := HB0.out; omega))⟩
       case measure => simp [intOf]; omega
     · have hUE : U = T + 1 + (x.lists.map (cntL d)).sum := by rw [HU.out, List.take_of_length_le (by rw [N4.out]; omega)]
       have HUE := Lib.hid hUE
       clear hUE
       go_wp2_with fail
       clear HBX p0 p1 p2 p3 p4 p5 p6 pl
       go_loopw [3, 33] (fun t i V => ∃ (m X : Nat), m ≤ n5 ∧ i = .int .i64 m ∧ t = .int .i64 X ∧ X = U + ((x.arms.take m).map fun a => cntL d a.body).sum ∧ Below B0 w V) (fun _ i _ => n5 - (intOf i).toNat)
       case atStart => exact ⟨0, U, Nat.zero_le _, rfl, rfl, by simp, HB2.out⟩
       case round =>
        clear HB2
        obtain ⟨m, X, hm, rfl, rfl, hXX, hb2⟩ := hrel
        obtain ⟨wi, rfl⟩ : ∃ wi : World, wi = wr := ⟨_, rfl⟩
        have HB2 := Lib.hid hb2
        have HXX := Lib.hid hXX
        have hXz : X ≤ 1048576 := by have h1 := sum_take_le (fun a : Ar => cntL d a.body) x.arms m; have h2 := HK1.out; have h3 := HUE.out; omega
        clear hXX hb2
        by_cases hlt3 : m < n5
        · obtain ⟨y, hy⟩ : ∃ y, x.arms[m]? = .some y := ⟨_, List.getElem?_eq_getElem (by rw [N5.out]; exact hlt3)⟩
          obtain ⟨b2, o2, c, hi2, hbB2, hce2, ⟨wv, bv, rfl, hws, hyp⟩, _⟩ := HAR.out.at 36 90 Tryz.underlying36 (by kernel_rfl) hy
          have HYS := Lib.hid (sum_snoc (fun a : Ar => cntL d a.body) hy)
          have hcz : X + cntL d y.body ≤ 1048576 := by have h1 := sum_take_le (fun a : Ar => cntL d a.body) x.arms (m + 1); rw [HYS.out] at h1; have h2 := HK1.out; have h3 := HUE.out; have h4 := HXX.out; omega
          have CN : Hid (∀ V, Below wi.heap.size wi V → _) := Lib.hid fun V (hV : Below wi.heap.size wi V) => HIH.out V y.body bv (hyp.below (HB2.out.trans (hV.mono (by have := HB2.out.size; have := HB0.out; omega))) |>.mono (by have := HB0.out; have := HB2.out.size; have := hV.size; omega)) (by omega)
          obtain ⟨a6, c6, rfl, _⟩ := hyp.shape
          obtain ⟨a7, c7, rfl, _⟩ := hws.len
          have f0 := (HB2.out.cell hbB2).trans (hce2 0 _ rfl)
          have f1 := (HB2.out.cell hbB2).trans (hce2 1 _ rfl)
          rw [Nat.add_zero] at f0
          have hbi : b2 < wi.heap.size := by have := HB2.out.size; have := HB0.out; omega
          obtain ⟨cy, hcy⟩ : ∃ t, cntL d y.body = t := ⟨_, rfl⟩
          rw [hcy] at HYS hcz
          simp only [hcy] at CN
          clear hy hce2 hyp hcy hws
          go_wp2_with fail
          refine (CN.out _ bg).mono ?_
          rintro e w1 ⟨rfl, hs1⟩
          have HS1 : Hid (Below B0 w w1) := Lib.hid (HB2.out.trans ((since hs1 bg).mono (by have := HB2.out.size; have := HB0.out; omega)))
          clear hs1
          go_wp2_with fail
          go_roundw
          case rel => exact ⟨m + 1, X + cy, by omega, by go_num, by go_num, by rw [HYS.out, HXX.out]; omega, HS1.out⟩
          case measure => simp [intOf]; omega
        · have HXE : Hid (X = ((l.take (k + 1)).map f).sum) := Lib.hid (by
           have h1 := HXX.out
           rw [List.take_of_length_le (by rw [N5.out]; omega)] at h1
           rw [HX.out, HFX.out, h1, HUE.out, HT.out]; omega)
          go_wp2_with fail
          go_roundw
          case rel => exact ⟨k + 1, X, by omega, by go_num, rfl, HXE.out, HB2.out⟩
          case measure => simp [intOf]; omega
  · have HE : Hid (T = r) := Lib.hid (by rw [HT.out, ← HR.out, List.take_of_length_le (by rw [HN.out]; omega)])
    have HBE : Hid (Below w.heap.size w wo) := Lib.hid (by rw [HB0.out]; exact HB.out)
    obtain rfl := HE.out
    go_wp2_with fail
    go_ret
    exact ⟨rfl, HBE.out⟩
theorem wcount_any : ∀ d, WCountAt d
 | 0 => wcount_zero
 | d + 1 => wcount_succ (wcount_any d)
end Go.Proofs.YtnackmnoldkihaaGreatDoor
