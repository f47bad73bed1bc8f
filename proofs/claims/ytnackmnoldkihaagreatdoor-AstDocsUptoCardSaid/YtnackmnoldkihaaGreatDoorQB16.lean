/-
  What the laws on scripts share.
-/
import Derived.Test.YtnackmnoldkihaaGreatDoorQB15
import Derived.Test.YtnackmnoldkihaaGreatDoorQB8
import Derived.Test.YtnackmnoldkihaaGreatDoorQB1
import Derived.ProofKit
import Derived.SizedLaws
import Derived.Test.YtnackmnoldkihaaGreatDoorQB3
import Derived.Deep.Slices
import Derived.Deep.Fields
import Derived.HandedShaped
import Derived.Shelf.Vars
import Derived.OpenShut
import Derived.LaidMore
import Derived.Lay
import Derived.SevenTiedAt
import Derived.Stop.Joined
import Derived.Deep.DeepHandedRow
import Derived.Test.YtnackmnoldkihaaGreatDoorQB11
import Derived.Test.YtnackmnoldkihaaGreatDoorQB12
set_option linter.unusedVariables false
set_option linter.unusedSimpArgs false
/-
  The document's test of a command is the program's; every level.
-/
namespace Go.Proofs.YtnackmnoldkihaaGreatDoor
open Go.RowKit

section
variable {wd : List Pt → Bool} {ls : List Nd → Bool}
theorem sole_of (x : Nd) (hls : ∀ z, ls [z] = true → 1 ≤ z.kind) (hS : x.lists.all (somesB ls) = true) {f g : Nat → Int → Bool} (n : Nat) (hn : x.lists.length ≤ n) (hfg : ∀ j z, j < n → 1 ≤ z → f j z = g j z) : soleB f 0 x.lists = soleB g 0 x.lists :=
  soleB_congr _ _ fun j z _ h2 h3 => hfg j z.kind (by omega) (hls z (by
    have := List.all_eq_true.1 hS _ h3
    rw [somesB, Bool.and_eq_true] at this
    exact this.1))
theorem joined_eq (x : Nd) (hls : ∀ z, ls [z] = true → 1 ≤ z.kind) (hk : x.kind = 2 ∨ x.kind = 3 ∨ x.kind = 4 ∨ x.kind = 5) : (x.lists.all (somesB ls) && rjoinedB x) = joinedB ls x := by
  rw [rjoinedB, joinedB, ← Bool.and_assoc (aloneL x), alone_sole]
  cases hS : x.lists.all (somesB ls) with
  | false =>
    simp only [aloneB, hS, Bool.false_and, Bool.and_false]
    cases x.kind == 2 <;> cases x.kind == 5 <;> simp
  | true =>
    simp only [aloneB, hS, Bool.true_and]
    congr 1
    rcases hk with hk | hk | hk | hk
    · rw [hk]
      rw [sole_of (g := mayPipe) x hls hS x.lists.length (Nat.le_refl _) fun j z _ hz => by
        rw [Bool.eq_iff_iff]; simp [rjBad, mayPipe]; omega]
      show (soleB mayPipe 0 x.lists && decide (2 ≤ x.lists.length)) = (decide (2 ≤ x.lists.length) && soleB mayPipe 0 x.lists)
      rw [Bool.and_comm]
    · rw [hk]
      show (soleB _ 0 x.lists && decide (x.lists.length = 2)) = (decide (x.lists.length = 2) && (decide (2 ≤ x.lists.length) && soleB mayAnd 0 x.lists))
      by_cases h2 : x.lists.length = 2
      · rw [sole_of (g := mayAnd) x hls hS 2 (Nat.le_of_eq h2) fun j z hj hz => by
          rw [Bool.eq_iff_iff]; simp [rjBad, mayAnd]; omega]
        simp [h2]
      · simp [h2]
    · rw [hk]
      show (soleB _ 0 x.lists && decide (x.lists.length = 2)) = (decide (x.lists.length = 2) && (decide (2 ≤ x.lists.length) && soleB mayAnd 0 x.lists))
      by_cases h2 : x.lists.length = 2
      · rw [sole_of (g := mayAnd) x hls hS 2 (Nat.le_of_eq h2) fun j z hj hz => by
          rw [Bool.eq_iff_iff]; simp [rjBad, mayAnd]; omega]
        simp [h2]
      · simp [h2]
    · rw [hk]
      show (soleB _ 0 x.lists && decide (x.lists.length = 1)) = (decide (x.lists.length = 1) && (decide (1 ≤ x.lists.length) && soleB mayNot 0 x.lists))
      rw [sole_of (g := mayNot) x hls hS x.lists.length (Nat.le_refl _) fun j z _ hz => by
        rw [Bool.eq_iff_iff]; simp [rjBad, mayNot]; omega]
      by_cases h1 : x.lists.length = 1
      · simp [h1]
      · simp [h1]
theorem compound_eq (x : Nd) : (x.lists.all (somesB ls) && rcompoundB wd ls x) = compoundB wd ls x := by
  rw [rcompoundB, compoundB]
  simp only [listsB, bareN, aloneB]
  have h11 : decide (x.lists.length = 1) = true → (aloneL x && (decide (6 ≤ kind0 x) && kind0 x != 11)) = soleB mayFunc 0 x.lists := fun h => by
    obtain ⟨y, hy⟩ := List.length_eq_one_iff.1 (of_decide_eq_true h)
    rw [aloneL, kind0, hy]
    match y with
    | [] => rfl
    | [z] =>
      show ((decide ([z].length = 1) && true) && (decide (6 ≤ z.kind) && z.kind != 11)) = (mayFunc 0 z.kind && true)
      rw [mayFunc]; simp
    | _ :: _ :: _ => rfl
  have h12 : decide (x.lists.length = 1) = true → decide (1 ≤ x.lists.length) = true := fun h => by have := of_decide_eq_true h; simp; omega
  generalize (aloneL x && (decide (6 ≤ kind0 x) && kind0 x != 11)) = k1 at h11 ⊢
  generalize soleB mayFunc 0 x.lists = k2 at h11 ⊢
  generalize decide (1 ≤ x.lists.length) = k3 at h12 ⊢
  generalize x.lists.all (somesB ls) = s
  generalize x.assigns.isEmpty = a
  generalize (L x.name).isEmpty = n
  generalize x.words.isEmpty = w
  generalize x.arms.isEmpty = m
  generalize x.redirs.isEmpty = q
  generalize nameL (L x.name) = nm
  generalize oneB reservedWs (L x.name) = rs
  generalize x.arms.all (armB wd ls) = ar
  generalize decide (x.words.length = 1) = w1
  cases x.kind == 6
  · cases x.kind == 7 || x.kind == 8
    · cases x.kind == 12 || x.kind == 13
      · cases x.kind == 9
        · cases h : x.kind == 11
          · cases x.kind == 10
            · simp
            · simp only [cond_false, cond_true]
              generalize decide (x.lists.length = 0) = d0
              cases s <;> cases a <;> cases n <;> cases ar <;> cases w1 <;> cases d0 <;> rfl
          · have h10 : (x.kind == 10) = false := by rw [beq_iff_eq] at h; rw [h]; rfl
            rw [h10]
            simp only [cond_false, cond_true]
            generalize decide (x.lists.length = 1) = d1 at h11 h12 ⊢
            cases d1
            · cases s <;> cases a <;> cases nm <;> cases rs <;> simp
            · rw [h11 rfl, h12 rfl]
              cases s <;> cases a <;> cases nm <;> cases rs <;> cases k2 <;> cases w <;> cases m <;> cases q <;> rfl
        · simp only [cond_true, cond_false]
          generalize decide (x.lists.length = 1) = d1
          cases s <;> cases a <;> cases nm <;> cases m <;> cases d1 <;> rfl
      · simp only [cond_true, cond_false]
        generalize decide (x.lists.length = 1) = d1
        cases s <;> cases a <;> cases n <;> cases w <;> cases m <;> cases d1 <;> rfl
    · simp only [cond_true, cond_false]
      generalize decide (x.lists.length = 2) = d1
      cases s <;> cases a <;> cases n <;> cases w <;> cases m <;> cases d1 <;> rfl
  · simp only [cond_true]
    generalize decide (x.lists.length = 2) = d1
    generalize decide (x.lists.length = 3) = d2
    cases s <;> cases a <;> cases n <;> cases w <;> cases m <;> cases d1 <;> cases d2 <;> rfl
theorem simple_eq (x : Nd) : (x.lists.all (somesB ls) && simpleB wd x) = simpleB wd x := by
  cases h : simpleB wd x with
  | false => rw [Bool.and_false]
  | true =>
    rw [simpleB] at h
    simp only [Bool.and_eq_true] at h
    have h2 : x.lists = [] := List.isEmpty_iff.1 h.2.2.2.1.1
    rw [h2]; rfl
theorem rnode_eq (x : Nd) (hls : ∀ z, ls [z] = true → 1 ≤ z.kind) : rnodeB wd ls x = nodeB wd ls x := by
  rw [rnodeB, nodeB]
  congr 2
  by_cases h1 : x.kind = 1
  · rw [h1]; exact simple_eq x
  · have k1 : (x.kind == 1) = false := by simp [h1]
    rw [k1, cond_false, cond_false]
    by_cases h2 : 2 ≤ x.kind ∧ x.kind ≤ 5
    · rw [show (decide (2 ≤ x.kind) && decide (x.kind ≤ 5)) = true by simp [h2.1, h2.2], cond_true, joined_eq x hls (by omega),
        show ((x.kind == 2 || x.kind == 3) || (x.kind == 4 || x.kind == 5)) = true by simp; omega, cond_true]
    · rw [show (decide (2 ≤ x.kind) && decide (x.kind ≤ 5)) = false by simp; omega, cond_false, compound_eq x,
        show ((x.kind == 2 || x.kind == 3) || (x.kind == 4 || x.kind == 5)) = false by simp; omega, cond_false]
theorem node_kind (x : Nd) (h : nodeB wd ls x = true) : 1 ≤ x.kind := by
  rcases Int.lt_or_le x.kind 1 with h0 | h0
  · exfalso
    rw [nodeB] at h
    simp only [Bool.and_eq_true] at h
    have h3 := h.2.2
    rw [show (x.kind == 1) = false by simp; omega, show ((x.kind == 2 || x.kind == 3) || (x.kind == 4 || x.kind == 5)) = false by simp; omega, cond_false, cond_false, compoundB,
      show (x.kind == 6) = false by simp; omega, show (x.kind == 7 || x.kind == 8) = false by simp; omega, show (x.kind == 12 || x.kind == 13) = false by simp; omega,
      show (x.kind == 9) = false by simp; omega, show (x.kind == 10) = false by simp; omega, show (x.kind == 11) = false by simp; omega] at h3
    cases h3
  · exact h0
end
theorem ok_kind (n : Nat) (z : Nd) (h : okL n [z] = true) : 1 ≤ z.kind := by
  cases n with
  | zero => rw [okL] at h; cases h
  | succ n =>
    rw [okL, List.all_cons, Bool.and_eq_true] at h
    exact node_kind z h.1

/-- Word and List of the document, at every level. -/
theorem rlevels (deep : Int) (hd : deep ≤ 1001) : ∀ (n : Nat) (level : Int), 1 ≤ level → level ≤ 1002 → (deep - level + 1).toNat = n → RWordAt level deep (okW n) ∧ RListAt level deep (okL n)
  | 0, level, h1, h2, hn => by
    have hp := rword_any level deep (fun _ => false) fun W x d c h => rpart_no level deep (by omega) x W d c h
    have hl := rlist_any level deep (fun _ => false) fun W x d c h => rnode_no level deep (by omega) x W d c h
    have e1 : (partsB (fun (q : Option Pt) x => false && !confB q x) none) = okW 0 := by
      funext l; cases l <;> rfl
    have e2 : (fun l : List Nd => l.all fun _ => false) = okL 0 := by
      funext l; cases l <;> rfl
    rw [e1] at hp
    rw [e2] at hl
    exact ⟨hp, hl⟩
  | n + 1, level, h1, h2, hn => by
    obtain ⟨i1, i2⟩ := rlevels deep hd n (level + 1) (by omega) (by omega) (by omega)
    have hp := rword_any level deep (partB (okW n) (okL n) none) fun W x d c h => rpart_yes (okW n) (okL n) level deep (by omega) (by omega) (by omega) i1 i2 x W d c h
    have hl := rlist_any level deep (rnodeB (okW n) (okL n)) fun W x d c h => rnode_yes (okW n) (okL n) level deep (by omega) (by omega) (by omega) i1 i2 x W d c h
    have e1 : (partsB (fun q x => partB (okW n) (okL n) none x && !confB q x) none) = okW (n + 1) := by
      funext l
      rw [okW]
      congr 1
      funext q x
      rw [part_conf (okW n) (okL n) q x]
    have e2 : (fun l : List Nd => l.all (rnodeB (okW n) (okL n))) = okL (n + 1) := by
      funext l
      rw [okL]
      congr 1
      funext x
      exact rnode_eq x fun z hz => ok_kind n z hz
    rw [e1] at hp
    rw [e2] at hl
    exact ⟨hp, hl⟩
end Go.Proofs.YtnackmnoldkihaaGreatDoor
/-
  The frame of a law's proof: what its arguments are when the call begins; that they read behind the call as they did.
-/
namespace Go.Proofs.YtnackmnoldkihaaGreatDoor
open Go.ChangeShapes Go.WideShapes Go.ChangeAt Go.RowKit

theorem Tryz.own : ownKnob Tryz.prog.godebug = none := by kernel_rfl
theorem Tryz.laidOut : laidOutB Tryz.prog = true := by kernel_rfl

/-- All arguments read behind the call as before, where nothing has turned that was there. -/
theorem below_trodAll {H : Type} {enc : TypeId × Value → H} {P : Program} (hl : laidOutB P = true) {W W' : World} (hb : Below W.heap.size W W') :
    ∀ (ts : List TypeId) (vs : List Value) (ds : List (DataW H)) (ps : List MemPlace), (∀ t ∈ ts, P.readableRec t = true) → (∀ t ∈ ts, t < P.types.size) → (∀ x ∈ ps, x.block < W.heap.size) →
      DataW.TrodAll enc P W 0 (fun _ => true) true ts vs ds ps → DataW.TrodAll enc P W' 0 (fun b => decide (b < W.heap.size)) true ts vs ds ps := by
  intro ts
  induction ts with
  | nil =>
    intro vs ds ps _ _ _ h
    obtain ⟨rfl, rfl, rfl⟩ := trodAll_nil h
    rfl
  | cons t ts ih =>
    intro vs ds ps h1 h2 h3 h
    obtain ⟨v, vs', d, ds', p, q, rfl, rfl, rfl, ht, hts⟩ := trodAll_cons h
    exact trodAll_cons_mk (Below.trod hl (h1 t (by simp)) (h2 t (by simp)) ht hb (fun x hx => h3 x (by simp [hx])))
      (ih vs' ds' q (fun t ht => h1 t (by simp [ht])) (fun t ht => h2 t (by simp [ht])) (fun x hx => h3 x (by simp [hx])) hts)

section
variable {H : Type} {enc : TypeId × Value → H} {P : Program} {W : World}

/-- A slice of strings that came in. -/
theorem open_strs {t e : TypeId} {v : Value} {d : DataW H} {p : List MemPlace} (ht : P.underlying t = some (.slice e)) (he : P.underlying e = some .string) (hc : P.cellsOf e = 1) {r : Reach} {base : Nat}
    (hok : Value.okWide P W r base t v) (h : DataW.Trod enc P W 0 (fun _ => true) true t v d p) (hlt : ∀ x ∈ p, x.block < W.heap.size) :
    ∃ a n cap ss, v = .slice a n cap ∧ Elems W W.heap.size a n ((ss : List ByteArray).map Value.string) ∧ ∀ s ∈ ss, s.size ≤ maxLen := by
  obtain ⟨a0, len, cap, rfl⟩ := okWide_slice ht hok
  obtain ⟨fuel, hf⟩ := h
  rcases open_strings ht he hc hf with ⟨hcs, hx⟩ | ⟨a, len', cap', ss, hcs, _, hl, hm, hz, hx, hcell, hws⟩
  · simp [Value.cells] at hcs
    obtain ⟨rfl, rfl, rfl⟩ := hcs
    exact ⟨none, 0, 0, [], rfl, ⟨rfl, Nat.zero_le _, .inl rfl⟩, by simp⟩
  · simp [Value.cells] at hcs
    obtain ⟨rfl, rfl, rfl⟩ := hcs
    simp only [Prod.mk.injEq] at hx
    obtain ⟨rfl, rfl⟩ := hx
    simp only [if_true] at hz
    refine ⟨some a, len, cap, ss.take len, rfl, ⟨by simp; omega, by omega, ?_⟩, fun s hs => hws s (List.mem_of_mem_take hs)⟩
    by_cases hl0 : len = 0
    · exact .inl hl0
    · obtain ⟨b, off, spot⟩ := a
      have hspot : spot = none := by simpa [Addr.add] using World.cell?_spot (hcell 0 (by omega))
      subst hspot
      refine .inr ⟨b, off, rfl, hlt (.cell b off) (MemPlace.mem_row.2 ⟨0, by omega, by simp⟩), fun i hi => ?_⟩
      rw [← addr_add, hcell i (by omega)]
      simp [hi, List.getD, List.getElem?_eq_getElem (show i < ss.length by omega)]

/-- The same; and no string is longer than the call's reach. -/
theorem open_strs_z {t e : TypeId} {v : Value} {d : DataW H} {p : List MemPlace} (ht : P.underlying t = some (.slice e)) (he : P.underlying e = some .string) (hc : P.cellsOf e = 1) {r : Reach} {base : Nat}
    (hok : Value.okWide P W r base t v) (h : DataW.Trod enc P W 0 (fun _ => true) true t v d p) (hlt : ∀ x ∈ p, x.block < W.heap.size) {Z : Nat} (hz : ∀ n ∈ d.weights P t, n ≤ Z) :
    ∃ a n cap ss, v = .slice a n cap ∧ Elems W W.heap.size a n ((ss : List ByteArray).map Value.string) ∧ ∀ s ∈ ss, s.size ≤ Z := by
  obtain ⟨a0, len, cap, rfl⟩ := okWide_slice ht hok
  obtain ⟨fuel, hf⟩ := h
  rcases open_strings ht he hc hf with ⟨hcs, hx⟩ | ⟨a, len', cap', ss, hcs, _, hl, hm, hz2, hx, hcell, hws⟩
  · simp [Value.cells] at hcs
    obtain ⟨rfl, rfl, rfl⟩ := hcs
    exact ⟨none, 0, 0, [], rfl, ⟨rfl, Nat.zero_le _, .inl rfl⟩, by simp⟩
  · simp [Value.cells] at hcs
    obtain ⟨rfl, rfl, rfl⟩ := hcs
    simp only [Prod.mk.injEq] at hx
    obtain ⟨rfl, rfl⟩ := hx
    simp only [if_true] at hz2
    refine ⟨some a, len, cap, ss.take len, rfl, ⟨by simp; omega, by omega, ?_⟩, fun s hs => ?_⟩
    · by_cases hl0 : len = 0
      · exact .inl hl0
      · obtain ⟨b, off, spot⟩ := a
        have hspot : spot = none := by simpa [Addr.add] using World.cell?_spot (hcell 0 (by omega))
        subst hspot
        refine .inr ⟨b, off, rfl, hlt (.cell b off) (MemPlace.mem_row.2 ⟨0, by omega, by simp⟩), fun i hi => ?_⟩
        rw [← addr_add, hcell i (by omega)]
        simp [hi, List.getD, List.getElem?_eq_getElem (show i < ss.length by omega)]
    · refine hz _ ?_
      have key : ∀ l : List ByteArray, s ∈ l → s.size ∈ DataW.weightsAll P e (strs l : List (DataW H)) := by
        intro l
        induction l with
        | nil => intro h; simp at h
        | cons x l ih =>
          intro h
          simp only [strs, List.map_cons, DataW.weightsAll, DataW.weights]
          rcases List.mem_cons.1 h with rfl | h
          · exact List.mem_append_left _ (by simp)
          · exact List.mem_append_right _ (ih h)
      simp only [DataW.weights, ht]
      exact List.mem_cons_of_mem _ (List.mem_append_left _ (key _ hs))
end

/-- A law's end: it has returned true, and nothing has turned that was there. -/
theorem law_post {H : Type} {enc : TypeId × Value → H} {fn : Func} {s : ChangeSpec} {W W' : World} {args : Array Value} {ds : List (DataW H)} {p : List MemPlace}
    (hv : s.vars = []) (hs : s.fn H (ds ++ []) = { results := [.lit (.bool true)], args := ds }) (hres : fn.resultTypes = #[4])
    (hr : fn.params.toList.all (fun t => Tryz.prog.readableRec t && decide (t < Tryz.prog.types.size)) = true)
    (hW : DataW.Whole enc Tryz.prog fn.params.toList s.vars false W args.toList ds [] p)
    (hA : DataW.TrodAll enc Tryz.prog W 0 (fun _ => true) true fn.params.toList args.toList ds p) (hb : Below W.heap.size W W') :
    s.post enc Tryz.prog fn false true false false W args (.bool true) W' := by
  have hlt : ∀ x ∈ p, x.block < W.heap.size := fun x hx => by simpa using hW.lt x hx
  refine ⟨_, _, _, [], p, [], hW, ?_, ?_, ?_, hb.frame _, fun h => by cases h⟩
  · rw [hs, hres]; exact trodAll_mk1 (shut_bool Tryz.underlying4 true)
  · rw [hs]; exact below_trodAll Tryz.laidOut hb _ _ _ _ (fun t ht => (by simpa using (List.all_eq_true.1 hr) t ht : _ ∧ _).1) (fun t ht => (by simpa using (List.all_eq_true.1 hr) t ht : _ ∧ _).2) hlt hA
  · rw [hs, hv]; rfl
end Go.Proofs.YtnackmnoldkihaaGreatDoor
/-
  A slice of structs that came in: its cells.
-/
namespace Go.Proofs.YtnackmnoldkihaaGreatDoor
open Go.ChangeShapes Go.WideShapes Go.ChangeAt Go.RowKit Go.Deep

section
variable {H : Type} {enc : TypeId × Value → H} {P : Program} {W : World}

/-- Each element's each field lies in a cell of its own and can be read. -/
theorem open_structs {t e : TypeId} {fs : Array Field} {v : Value} {d : DataW H} {p : List MemPlace} (ht : P.underlying t = some (.slice e)) (he : P.underlying e = some (.struct fs)) (hone : oneCellFields P fs = true) (hC : P.cellsOf e = fs.size) (hpos : 0 < fs.size)
    {r : Reach} {base : Nat} (hok : Value.okWide P W r base t v) (h : DataW.Trod enc P W 0 (fun _ => true) true t v d p) (hlt : ∀ x ∈ p, x.block < W.heap.size) :
    ∃ a n cap, v = .slice a n cap ∧ n ≤ cap ∧ cap ≤ maxLen ∧ (n = 0 ∨ ∃ b off, a = some ⟨b, off, none⟩ ∧ b < W.heap.size ∧ ∀ i, i < n → ∀ (j : Nat) (f : Field), fs[j]? = some f →
      ∃ (u : Value) (y : DataW H × List MemPlace) (k : Nat), W.cell? ⟨b, off + (i * fs.size + j), none⟩ = some u ∧ DataW.trod enc P W 0 (fun _ => true) true k f.type [u] = some y) := by
  obtain ⟨a0, len, cap, rfl⟩ := okWide_slice ht hok
  obtain ⟨fuel, hf⟩ := h
  rcases open_slice ht hf with ⟨hcs, _⟩ | ⟨a, len', cap', m, n, D, Pl, hcs, _, hl, hm, hmm, hx, hi⟩
  · simp [Value.cells] at hcs
    obtain ⟨rfl, rfl, rfl⟩ := hcs
    exact ⟨none, 0, 0, rfl, Nat.le_refl _, Nat.zero_le _, .inl rfl⟩
  · simp [Value.cells] at hcs
    obtain ⟨rfl, rfl, rfl⟩ := hcs
    simp only [Prod.mk.injEq] at hx
    obtain ⟨rfl, rfl⟩ := hx
    simp only [if_true] at hmm
    replace hmm := hmm.symm
    subst hmm
    rw [hC] at hi hlt
    refine ⟨some a, len, cap, rfl, hl, hm, ?_⟩
    by_cases hl0 : len = 0
    · exact .inl hl0
    right
    -- every cell of the row, by its element and its field
    have cell : ∀ i, i < cap → ∀ (j : Nat) (f : Field), fs[j]? = some f → ∃ (u : Value) (y : DataW H × List MemPlace) (k : Nat), W.cell? ((a.add (i * fs.size)).add j) = some u ∧ DataW.trod enc P W 0 (fun _ => true) true k f.type [u] = some y := by
      intro i hic j f hj
      obtain ⟨cs, hc, hst⟩ := hi i hic
      obtain ⟨ys, k, _, _, _, hyl, hg⟩ := DataW.trod_struct he hst
      obtain ⟨_, hcl, hat⟩ := World.cells?_some hc
      obtain ⟨ho, hk⟩ := hone_of hone j f hj
      have hjl : j < fs.size := (Array.getElem?_eq_some_iff.1 hj).1
      have hg' := hg j f hj
      rw [ho, hk, List.drop_eq_getElem_cons (by omega), List.take_succ_cons, List.take_zero, List.getElem?_eq_getElem (by omega)] at hg'
      exact ⟨_, _, _, (hat j hjl).trans (List.getElem?_eq_getElem (by omega)), hg'⟩
    obtain ⟨b, off, spot⟩ := a
    obtain ⟨f0, hf0⟩ : ∃ f0, fs[0]? = some f0 := ⟨_, Array.getElem?_eq_getElem hpos⟩
    obtain ⟨u0, _, _, hu0, _⟩ := cell 0 (by omega) 0 f0 hf0
    have hspot : spot = none := by simpa [Addr.add] using World.cell?_spot hu0
    subst hspot
    refine ⟨b, off, rfl, hlt (.cell b off) (List.mem_append_left _ (MemPlace.mem_row.2 ⟨0, Nat.mul_pos (by omega) hpos, by simp⟩)), fun i hil j f hj => ?_⟩
    obtain ⟨u, y, k, h1, h2⟩ := cell i (by omega) j f hj
    rw [addr_add, addr_add] at h1
    exact ⟨u, y, k, by rw [← Nat.add_assoc]; exact h1, h2⟩

/-- The same; and what is read weighs no more than the whole. -/
theorem open_structs_z {t e : TypeId} {fs : Array Field} {v : Value} {d : DataW H} {p : List MemPlace} (ht : P.underlying t = some (.slice e)) (he : P.underlying e = some (.struct fs)) (hone : oneCellFields P fs = true) (hC : P.cellsOf e = fs.size) (hpos : 0 < fs.size)
    {r : Reach} {base : Nat} (hok : Value.okWide P W r base t v) (h : DataW.Trod enc P W 0 (fun _ => true) true t v d p) (hlt : ∀ x ∈ p, x.block < W.heap.size) {Z : Nat} (hz : ∀ n ∈ d.weights P t, n ≤ Z) :
    ∃ a n cap, v = .slice a n cap ∧ n ≤ cap ∧ cap ≤ maxLen ∧ n * P.bytesOf e ≤ Z ∧ (n = 0 ∨ ∃ b off, a = some ⟨b, off, none⟩ ∧ b < W.heap.size ∧ ∀ i, i < n → ∀ (j : Nat) (f : Field), fs[j]? = some f →
      ∃ (u : Value) (y : DataW H × List MemPlace) (k : Nat), W.cell? ⟨b, off + (i * fs.size + j), none⟩ = some u ∧ DataW.trod enc P W 0 (fun _ => true) true k f.type [u] = some y ∧ ∀ n ∈ y.1.weights P f.type, n ≤ Z) := by
  obtain ⟨a0, len, cap, rfl⟩ := okWide_slice ht hok
  obtain ⟨fuel, hf⟩ := h
  rcases open_slice ht hf with ⟨hcs, _⟩ | ⟨a, len', cap', m, n, D, Pl, hcs, _, hl, hm, hmm, hx, hi⟩
  · simp [Value.cells] at hcs
    obtain ⟨rfl, rfl, rfl⟩ := hcs
    exact ⟨none, 0, 0, rfl, Nat.le_refl _, Nat.zero_le _, by rw [Nat.zero_mul]; exact Nat.zero_le _, .inl rfl⟩
  · simp [Value.cells] at hcs
    obtain ⟨rfl, rfl, rfl⟩ := hcs
    simp only [Prod.mk.injEq] at hx
    obtain ⟨rfl, rfl⟩ := hx
    simp only [if_true] at hmm
    replace hmm := hmm.symm
    subst hmm
    rw [hC] at hi hlt
    refine ⟨some a, len, cap, rfl, hl, hm, Nat.le_trans (Nat.mul_le_mul_right _ (Nat.le_add_right len _)) (hz _ (by simp only [DataW.weights, ht, List.length_map, List.length_range]; exact List.mem_cons_self ..)), ?_⟩
    by_cases hl0 : len = 0
    · exact .inl hl0
    right
    -- every cell of the row, by its element and its field
    have cell : ∀ i, i < len → ∀ (j : Nat) (f : Field), fs[j]? = some f → ∃ (u : Value) (y : DataW H × List MemPlace) (k : Nat), W.cell? ((a.add (i * fs.size)).add j) = some u ∧ DataW.trod enc P W 0 (fun _ => true) true k f.type [u] = some y ∧ ∀ n ∈ y.1.weights P f.type, n ≤ Z := by
      intro i hic j f hj
      obtain ⟨cs, hc, hst⟩ := hi i (by omega)
      obtain ⟨ys, k, _, hxe, _, hyl, hg⟩ := DataW.trod_struct he hst
      obtain ⟨_, hcl, hat⟩ := World.cells?_some hc
      obtain ⟨ho, hk⟩ := hone_of hone j f hj
      have hjl : j < fs.size := (Array.getElem?_eq_some_iff.1 hj).1
      have hg' := hg j f hj
      rw [ho, hk, List.drop_eq_getElem_cons (by omega), List.take_succ_cons, List.take_zero, List.getElem?_eq_getElem (by omega)] at hg'
      refine ⟨_, _, _, (hat j hjl).trans (List.getElem?_eq_getElem (by omega)), hg', fun n hn => hz n ?_⟩
      have hD : D i = .agg (ys.map (·.1)) := congrArg Prod.fst hxe
      have key : ∀ (l : List (DataW H)) (x : DataW H), x ∈ l → ∀ n ∈ x.weights P e, n ∈ DataW.weightsAll P e l := by
        intro l
        induction l with
        | nil => intro x h; simp at h
        | cons a l ih =>
          intro x h n hn
          simp only [DataW.weightsAll]
          rcases List.mem_cons.1 h with rfl | h
          · exact List.mem_append_left _ hn
          · exact List.mem_append_right _ (ih x h n hn)
      simp only [DataW.weights, ht]
      refine List.mem_cons_of_mem _ (List.mem_append_left _ (key _ (D i) (List.mem_map.2 ⟨i, List.mem_range.2 hic, rfl⟩) n ?_))
      rw [hD]
      simp only [DataW.weights, he]
      exact DataW.weights_mem_each (j := j) (by simp [hj]) (by rw [List.getElem?_map, List.getElem?_eq_getElem (show j < ys.length by omega)]; rfl) n hn
    obtain ⟨b, off, spot⟩ := a
    obtain ⟨f0, hf0⟩ : ∃ f0, fs[0]? = some f0 := ⟨_, Array.getElem?_eq_getElem hpos⟩
    obtain ⟨u0, _, _, hu0, _, _⟩ := cell 0 (by omega) 0 f0 hf0
    have hspot : spot = none := by simpa [Addr.add] using World.cell?_spot hu0
    subst hspot
    refine ⟨b, off, rfl, hlt (.cell b off) (List.mem_append_left _ (MemPlace.mem_row.2 ⟨0, Nat.mul_pos (by omega) hpos, by simp⟩)), fun i hil j f hj => ?_⟩
    obtain ⟨u, y, k, h1, h2, h3⟩ := cell i hil j f hj
    rw [addr_add, addr_add] at h1
    exact ⟨u, y, k, by rw [← Nat.add_assoc]; exact h1, h2, h3⟩
end

/-- So many things, one for each number. -/
theorem list_of {α : Type} {Q : Nat → α → Prop} : ∀ (n : Nat), (∀ i, i < n → ∃ x, Q i x) → ∃ l : List α, l.length = n ∧ ∀ i x, l[i]? = some x → Q i x
  | 0, _ => ⟨[], rfl, by simp⟩
  | n + 1, h => by
    obtain ⟨l, hl, hq⟩ := list_of n fun i hi => h i (by omega)
    obtain ⟨x, hx⟩ := h n (by omega)
    refine ⟨l ++ [x], by simp [hl], fun i y hy => ?_⟩
    rw [List.getElem?_append] at hy
    split at hy
    · exact hq i y hy
    · have hi : i = n := by
        rcases Nat.lt_or_ge (i - l.length) 1 with h1 | h1
        · omega
        · rw [List.getElem?_eq_none (by simpa using h1)] at hy; cases hy
      subst hi
      rw [hl, Nat.sub_self] at hy
      simp at hy
      subst hy
      exact hx

/-- A slice whose cells are its elements', one by one. -/
theorem sl_of {α : Type} {w : World} {B size n cap b off : Nat} (f : α → List Value) (hf : ∀ x, (f x).length = size) (hs : 0 < size) {l : List α} (hl : l.length = n) (hc : n ≤ cap) (hm : cap ≤ maxLen) (hb : b < B)
    (h : ∀ i x, l[i]? = some x → ∀ j, j < size → w.cell? ⟨b, off + (i * size + j), none⟩ = (f x)[j]?) : Sl w B size (.slice (some ⟨b, off, none⟩) n cap) n (l.flatMap f) := by
  refine ⟨by rw [flat_len f size hf, hl], _, _, rfl, hc, hm, .inr ⟨b, off, rfl, hb, fun j hj => ?_⟩⟩
  have h1 : j / size < l.length := by rw [hl]; exact Nat.div_lt_of_lt_mul (by rw [Nat.mul_comm]; exact hj)
  have h2 : j % size < size := Nat.mod_lt _ hs
  have h3 : j / size * size + j % size = j := by rw [Nat.mul_comm]; exact Nat.div_add_mod j size
  have hx : l[j / size]? = some l[j / size] := List.getElem?_eq_getElem h1
  have e1 := h _ _ hx _ h2
  have e2 := flat_get f size hf l _ _ hx _ h2
  rw [h3] at e1 e2
  rw [e1, e2]
end Go.Proofs.YtnackmnoldkihaaGreatDoor
/-
  Scripts that came in: how they lie, out of what the form reads; what they weigh.
-/
namespace Go.Proofs.YtnackmnoldkihaaGreatDoor
open Go.ChangeShapes Go.WideShapes Go.ChangeAt Go.RowKit Go.Deep

/-! ### what a script weighs -/
def wtP (fw : List Pt → Nat) (fl : List Nd → Nat) (p : Pt) : Nat := 1 + p.text.size + p.op.size + fw p.word + fl p.body
def wtA (fw : List Pt → Nat) (a : As) : Nat := 1 + a.name.size + fw a.word
def wtR (fw : List Pt → Nat) (r : Rd) : Nat := 1 + r.op.size + r.tag.size + fw r.word
def wtY (fw : List Pt → Nat) (y : List Pt) : Nat := 1 + fw y
def wtS (fl : List Nd → Nat) (y : List Nd) : Nat := 1 + fl y
def wtM (fw : List Pt → Nat) (fl : List Nd → Nat) (a : Ar) : Nat := 1 + (a.words.map (wtY fw)).sum + fl a.body
def wtN (fw : List Pt → Nat) (fl : List Nd → Nat) (x : Nd) : Nat :=
  1 + x.name.size + (x.assigns.map (wtA fw)).sum + (x.words.map (wtY fw)).sum + (x.redirs.map (wtR fw)).sum + (x.lists.map (wtS fl)).sum + (x.arms.map (wtM fw fl)).sum
mutual
def wtW : Nat → List Pt → Nat
  | 0, _ => 0
  | n + 1, l => (l.map (wtP (wtW n) (wtL n))).sum
def wtL : Nat → List Nd → Nat
  | 0, _ => 0
  | n + 1, l => (l.map (wtN (wtW n) (wtL n))).sum
end

/-! ### bulk -/
theorem bulk_one {H : Type} (d : DataW H) : 1 ≤ Rows.uptoBulk d := by
  cases d with
  | lit l => cases l <;> simp [Rows.uptoBulk]
  | nil => simp [Rows.uptoBulk]
  | ptr d => simp [Rows.uptoBulk]
  | slice elems spare => simp [Rows.uptoBulk]
  | agg parts => simp [Rows.uptoBulk]
  | iface t d => simp [Rows.uptoBulk]
  | map entries => simp [Rows.uptoBulk]
  | held h => simp [Rows.uptoBulk]
theorem bulk_all {H : Type} (l : List (DataW H)) : Rows.uptoBulkAll l = (l.map Rows.uptoBulk).sum := by
  induction l with
  | nil => simp [Rows.uptoBulkAll]
  | cons x l ih => simp [Rows.uptoBulkAll, ih]
theorem sum_le_range {α : Type} (f : α → Nat) : ∀ (l : List α) (g : Nat → Nat), (∀ i x, l[i]? = some x → f x ≤ g i) → (l.map f).sum ≤ ((List.range l.length).map g).sum
  | [], _, _ => Nat.le_refl _
  | x :: l, g, h => by
    have e := sum_le_range f l (fun i => g (i + 1)) fun i x hx => h (i + 1) x (by simpa using hx)
    have h0 := h 0 x rfl
    rw [List.length_cons, List.range_succ_eq_map, List.map_cons, List.sum_cons, List.map_cons, List.sum_cons, List.map_map]
    exact Nat.add_le_add h0 e
theorem len_le_sum {α : Type} (f : α → Nat) (l : List α) (h : ∀ x ∈ l, 1 ≤ f x) : l.length ≤ (l.map f).sum := by
  induction l with
  | nil => exact Nat.le_refl _
  | cons x l ih =>
    have h0 := h x (by simp)
    have h1 := ih fun y hy => h y (by simp [hy])
    simp only [List.length_cons, List.map_cons, List.sum_cons]
    omega
theorem mem_le_sum {α : Type} (f : α → Nat) {l : List α} {x : α} (h : x ∈ l) : f x ≤ (l.map f).sum := by
  induction l with
  | nil => simp at h
  | cons y l ih =>
    rcases List.mem_cons.1 h with rfl | h
    · simp
    · have := ih h; simp only [List.map_cons, List.sum_cons]; omega

section
variable {H : Type} {enc : TypeId × Value → H} {W : World}

/-- The fields of a struct, one by one. -/
theorem struct_cells {P : Program} {t : TypeId} {fs : Array Field} {cs : List Value} {fuel : Nat} {x : DataW H × List MemPlace} (he : P.underlying t = some (.struct fs)) (hone : oneCellFields P fs = true) (h : DataW.trod enc P W 0 (fun _ => true) true fuel t cs = some x) (hlen : cs.length = fs.size) :
    ∃ (ys : List (DataW H × List MemPlace)) (k : Nat), x = (.agg (ys.map (·.1)), ys.flatMap (·.2)) ∧ ys.length = fs.size ∧ ∀ (j : Nat) (f : Field), fs[j]? = some f → ∃ u y, cs[j]? = some u ∧ ys[j]? = some y ∧ DataW.trod enc P W 0 (fun _ => true) true k f.type [u] = some y := by
  obtain ⟨ys, k, _, hx, _, hyl, hg⟩ := DataW.trod_struct he h
  refine ⟨ys, k, hx, hyl, fun j f hj => ?_⟩
  obtain ⟨ho, hk⟩ := hone_of hone j f hj
  have hjl : j < fs.size := (Array.getElem?_eq_some_iff.1 hj).1
  have hg' := hg j f hj
  rw [ho, hk, List.drop_eq_getElem_cons (by omega), List.take_succ_cons, List.take_zero] at hg'
  exact ⟨cs[j], ys[j], List.getElem?_eq_getElem (by omega), List.getElem?_eq_getElem (by omega), by rw [hg', List.getElem?_eq_getElem (by omega)]⟩

/-- A slice of things, each of which lies as F tells. -/
theorem slof_in {t e : TypeId} {size : Nat} (ht : Tryz.prog.underlying t = some (.slice e)) (hC : Tryz.prog.cellsOf e = size) (hs : 0 < size) {α : Type} (F : α → List Value → Prop) (wt : α → Nat) {fuel : Nat} {cs : List Value} {x : DataW H × List MemPlace} {N B : Nat}
    (h : DataW.trod enc Tryz.prog W 0 (fun _ => true) true fuel t cs = some x) (hlt : ∀ p ∈ x.2, p.block < B) (hN : Rows.uptoBulk x.1 ≤ N + 1) (hbig : N ≤ bigN)
    (elem : ∀ (fuel : Nat) (cs : List Value) (y : DataW H × List MemPlace), cs.length = size → DataW.trod enc Tryz.prog W 0 (fun _ => true) true fuel e cs = some y → (∀ p ∈ y.2, p.block < B) → Rows.uptoBulk y.1 ≤ N → ∃ a : α, F a cs ∧ wt a ≤ Rows.uptoBulk y.1) :
    ∃ (v : Value) (l : List α), cs = [v] ∧ SlOf W B size F l v ∧ (l.map wt).sum + 1 ≤ Rows.uptoBulk x.1 := by
  rcases open_slice ht h with ⟨rfl, rfl⟩ | ⟨a, len, cap, m, n, D, Pl, rfl, _, hl, hm, hmm, rfl, hi⟩
  · exact ⟨_, [], rfl, ⟨Nat.zero_le _, [], rfl, fun c hc => by simp at hc, Sl.nil W B size, fun i x c hx => by simp at hx⟩, by simp [Rows.uptoBulk]⟩
  · simp only [if_true] at hmm
    replace hmm := hmm.symm
    subst hmm
    rw [hC] at hi hlt
    simp only [Rows.uptoBulk, bulk_all, List.map_map] at hN ⊢
    have hmem : ∀ i, i < len → Rows.uptoBulk (D i) ≤ ((List.range len).map (Rows.uptoBulk ∘ D)).sum := fun i hil => mem_le_sum (Rows.uptoBulk ∘ D) (List.mem_range.2 hil)
    have hlen := len_le_sum (Rows.uptoBulk ∘ D) (List.range len) fun i _ => bulk_one _
    rw [List.length_range] at hlen
    obtain ⟨l, hll, hq⟩ := list_of (Q := fun i (z : α × List Value) => W.cells? 0 (a.add (i * size)) size = some z.2 ∧ F z.1 z.2 ∧ wt z.1 ≤ Rows.uptoBulk (D i) ∧ z.2.length = size) len fun i hil => by
      obtain ⟨cs, hc, hst⟩ := hi i (by omega)
      obtain ⟨_, hcl, hat⟩ := World.cells?_some hc
      have h2 : ∀ p ∈ Pl i, p.block < B := fun p hp => hlt p (List.mem_append_right _ (List.mem_flatMap.2 ⟨i, List.mem_range.2 (by omega), hp⟩))
      obtain ⟨y, hF, hw⟩ := elem _ cs _ hcl hst h2 (by have := hmem i hil; simp only; omega)
      exact ⟨(y, cs), hc, hF, hw, hcl⟩
    have hsum := sum_le_range (fun z : α × List Value => wt z.1) l (fun i => Rows.uptoBulk (D i)) fun i z hz => (hq i z hz).2.2.1
    rw [hll] at hsum
    refine ⟨_, l.map (·.1), rfl, ⟨by rw [List.length_map, hll]; omega, l.map (·.2), by simp, fun c hc => ?_, ?_, fun i x c hx hc => ?_⟩, ?_⟩
    · obtain ⟨z, hz, rfl⟩ := List.mem_map.1 hc
      obtain ⟨i, hi, he⟩ := List.mem_iff_getElem.1 hz
      exact (hq i z (by rw [List.getElem?_eq_getElem hi, he])).2.2.2
    · have hfl : (l.map (·.2)).flatten = l.flatMap (·.2) := by rw [List.flatMap_def]
      rw [List.length_map, hll, hfl]
      by_cases hl0 : len = 0
      · subst hl0
        obtain rfl : l = [] := List.length_eq_zero_iff.1 hll
        exact ⟨by simp, _, _, rfl, hl, hm, .inl rfl⟩
      · obtain ⟨b, off, spot⟩ := a
        have hl1 : ∀ (l' : List (α × List Value)), (∀ z ∈ l', z.2.length = size) → ∀ (k : Nat) (z : α × List Value), l'[k]? = some z → ∀ j, j < size → (l'.flatMap (·.2))[k * size + j]? = z.2[j]? := by
          intro l'
          induction l' with
          | nil => intro _ k z hz; simp at hz
          | cons y l' ih =>
            intro hs k z hz j hj
            have hy := hs y (by simp)
            cases k with
            | zero =>
              simp at hz; subst hz
              rw [List.flatMap_cons, Nat.zero_mul, Nat.zero_add, List.getElem?_append_left (by omega)]
            | succ k =>
              rw [List.flatMap_cons, List.getElem?_append_right (by rw [hy, Nat.succ_mul]; omega), hy, show (k + 1) * size + j - size = k * size + j by rw [Nat.succ_mul]; omega]
              exact ih (fun z hz => hs z (by simp [hz])) k z (by simpa using hz) j hj
        have hl2 : ∀ (l' : List (α × List Value)), (∀ z ∈ l', z.2.length = size) → (l'.flatMap (·.2)).length = l'.length * size := by
          intro l'
          induction l' with
          | nil => intro _; simp
          | cons y l' ih => intro hs; rw [List.flatMap_cons, List.length_append, hs y (by simp), ih (fun z hz => hs z (by simp [hz])), List.length_cons, Nat.succ_mul]; omega
        have hsz : ∀ z ∈ l, z.2.length = size := fun z hz => by
          obtain ⟨i, hi, he⟩ := List.mem_iff_getElem.1 hz
          exact (hq i z (by rw [List.getElem?_eq_getElem hi, he])).2.2.2
        have cell : ∀ i z, l[i]? = some z → ∀ j, j < size → W.cell? (((⟨b, off, spot⟩ : Addr).add (i * size)).add j) = z.2[j]? := fun i z hz j hj => by
          obtain ⟨hc, _, _, hcl⟩ := hq i z hz
          obtain ⟨_, _, hat⟩ := World.cells?_some hc
          exact hat j hj
        obtain ⟨z0, hz0⟩ : ∃ z, l[0]? = some z := ⟨_, List.getElem?_eq_getElem (by omega)⟩
        have hspot : spot = none := by
          have c0 := cell 0 z0 hz0 0 hs
          rw [List.getElem?_eq_getElem (by rw [(hq 0 z0 hz0).2.2.2]; exact hs)] at c0
          simpa [Addr.add] using World.cell?_spot c0
        subst hspot
        refine ⟨by rw [hl2 l hsz, hll], _, _, rfl, hl, hm, .inr ⟨b, off, rfl, hlt (.cell b off) (List.mem_append_left _ (MemPlace.mem_row.2 ⟨0, Nat.mul_pos (by omega) hs, by simp⟩)), fun j hj => ?_⟩⟩
        have h1 : j / size < l.length := by rw [hll]; exact Nat.div_lt_of_lt_mul (by rw [Nat.mul_comm]; exact hj)
        have h2 : j % size < size := Nat.mod_lt _ hs
        have h3 : j / size * size + j % size = j := by rw [Nat.mul_comm]; exact Nat.div_add_mod j size
        have hx : l[j / size]? = some l[j / size] := List.getElem?_eq_getElem h1
        have e1 := cell _ _ hx _ h2
        have e2 := hl1 l hsz _ _ hx _ h2
        rw [addr_add, addr_add, Nat.add_assoc, h3] at e1
        rw [h3] at e2
        rw [e1, e2]
    · rw [List.getElem?_map] at hx hc
      obtain ⟨z, hz, rfl⟩ := Option.map_eq_some_iff.1 hx
      rw [hz] at hc
      simp at hc
      subst hc
      exact (hq i z hz).2.1
    · rw [List.map_map]
      have hsum' : (l.map (wt ∘ fun z => z.1)).sum ≤ ((List.range len).map (Rows.uptoBulk ∘ D)).sum := hsum
      omega
end
end Go.Proofs.YtnackmnoldkihaaGreatDoor
/-
  Scripts that came in, at every depth.
-/
namespace Go.Proofs.YtnackmnoldkihaaGreatDoor
open Go.ChangeShapes Go.WideShapes Go.ChangeAt Go.RowKit Go.Deep

section
variable {H : Type} (enc : TypeId × Value → H) (W : World) (B : Nat)

def PtsRead (n : Nat) : Prop := ∀ (fuel : Nat) (cs : List Value) (x : DataW H × List MemPlace), DataW.trod enc Tryz.prog W 0 (fun _ => true) true fuel 29 cs = some x → (∀ p ∈ x.2, p.block < B) → Rows.uptoBulk x.1 ≤ n →
  ∃ v l, cs = [v] ∧ PtsIn W B n l v ∧ wtW n l + 1 ≤ Rows.uptoBulk x.1
def NdsRead (n : Nat) : Prop := ∀ (fuel : Nat) (cs : List Value) (x : DataW H × List MemPlace), DataW.trod enc Tryz.prog W 0 (fun _ => true) true fuel 22 cs = some x → (∀ p ∈ x.2, p.block < B) → Rows.uptoBulk x.1 ≤ n →
  ∃ v l, cs = [v] ∧ NdsIn W B n l v ∧ wtL n l + 1 ≤ Rows.uptoBulk x.1
variable {enc W B}

theorem text_sum (k : Nat) (l : List Pt) : (l.map fun p => p.text.size).sum ≤ wtW (k + 1) l := by
  rw [wtW]
  induction l with
  | nil => exact Nat.le_refl _
  | cons p l ih =>
    simp only [List.map_cons, List.sum_cons, wtP]
    omega
theorem words_in {N n fuel : Nat} {cs : List Value} {x : DataW H × List MemPlace} (hP : PtsRead enc W B n) (h : DataW.trod enc Tryz.prog W 0 (fun _ => true) true fuel 34 cs = some x) (hlt : ∀ p ∈ x.2, p.block < B) (hN : Rows.uptoBulk x.1 ≤ N + 1) (hn : N ≤ n) (hbig : N ≤ bigN) :
    ∃ v l, cs = [v] ∧ WdsIn W B n l v ∧ (l.map (wtY (wtW n))).sum + 1 ≤ Rows.uptoBulk x.1 :=
  slof_in Tryz.underlying34 (by kernel_rfl) (by decide) _ (wtY (wtW n)) h hlt hN hbig fun fuel cs y _ ht hl hb => by
    obtain ⟨v, l, e, h1, h2⟩ := hP fuel cs y ht hl (by omega)
    exact ⟨l, ⟨v, e, h1⟩, by rw [wtY]; omega⟩
theorem lists_in {N n fuel : Nat} {cs : List Value} {x : DataW H × List MemPlace} (hP : NdsRead enc W B n) (h : DataW.trod enc Tryz.prog W 0 (fun _ => true) true fuel 35 cs = some x) (hlt : ∀ p ∈ x.2, p.block < B) (hN : Rows.uptoBulk x.1 ≤ N + 1) (hn : N ≤ n) (hbig : N ≤ bigN) :
    ∃ v l, cs = [v] ∧ LssIn W B n l v ∧ (l.map (wtS (wtL n))).sum + 1 ≤ Rows.uptoBulk x.1 :=
  slof_in Tryz.underlying35 (by kernel_rfl) (by decide) _ (wtS (wtL n)) h hlt hN hbig fun fuel cs y _ ht hl hb => by
    obtain ⟨v, l, e, h1, h2⟩ := hP fuel cs y ht hl (by omega)
    exact ⟨l, ⟨v, e, h1⟩, by rw [wtS]; omega⟩
theorem assigns_in {N n fuel : Nat} {cs : List Value} {x : DataW H × List MemPlace} (hP : PtsRead enc W B n) (h : DataW.trod enc Tryz.prog W 0 (fun _ => true) true fuel 33 cs = some x) (hlt : ∀ p ∈ x.2, p.block < B) (hN : Rows.uptoBulk x.1 ≤ N + 1) (hn : N ≤ n) (hbig : N ≤ bigN) :
    ∃ v l, cs = [v] ∧ AssIn W B n l v ∧ (l.map (wtA (wtW n))).sum + 1 ≤ Rows.uptoBulk x.1 :=
  slof_in Tryz.underlying33 (by kernel_rfl) (by decide) _ (wtA (wtW n)) h hlt hN hbig fun fuel cs y hcl ht hl hb => by
    obtain ⟨ys, k, rfl, hyl, hf⟩ := struct_cells Tryz.underlying94 (by kernel_rfl) ht hcl
    obtain ⟨u0, y0, hu0, hy0, t0⟩ := hf 0 _ rfl
    obtain ⟨u1, y1, hu1, hy1, t1⟩ := hf 1 _ rfl
    match cs, hcl, ys, hyl with
    | [_, _], _, [_, _], _ =>
      cases hu0; cases hu1; cases hy0; cases hy1
      obtain ⟨s0, e0, e0', _⟩ := DataW.trod_string Tryz.underlying9 t0
      subst e0'
      simp only [List.cons.injEq, and_true] at e0
      subst e0
      simp only [Rows.uptoBulk, bulk_all, List.map_cons, List.map_nil, List.sum_cons, List.sum_nil] at hb ⊢
      obtain ⟨v, l, e, h1, h2⟩ := hP _ _ y1 t1 (fun p hp => hl p (by simp [hp])) (by omega)
      cases e
      rw [show s0.data.toList.length = s0.size from rfl] at hb ⊢
      refine ⟨⟨s0, l⟩, ⟨by show s0.size ≤ bigN; omega, _, rfl, h1⟩, by rw [wtA]; show 1 + s0.size + wtW n l ≤ _; omega⟩
theorem redirs_in {N n fuel : Nat} {cs : List Value} {x : DataW H × List MemPlace} (hP : PtsRead enc W B n) (h : DataW.trod enc Tryz.prog W 0 (fun _ => true) true fuel 32 cs = some x) (hlt : ∀ p ∈ x.2, p.block < B) (hN : Rows.uptoBulk x.1 ≤ N + 1) (hn : N ≤ n) (hbig : N ≤ bigN) :
    ∃ v l, cs = [v] ∧ RdsIn W B n l v ∧ (l.map (wtR (wtW n))).sum + 1 ≤ Rows.uptoBulk x.1 :=
  slof_in Tryz.underlying32 (by kernel_rfl) (by decide) _ (wtR (wtW n)) h hlt hN hbig fun fuel cs y hcl ht hl hb => by
    obtain ⟨ys, k, rfl, hyl, hf⟩ := struct_cells Tryz.underlying31 (by kernel_rfl) ht hcl
    obtain ⟨u0, y0, hu0, hy0, t0⟩ := hf 0 _ rfl
    obtain ⟨u1, y1, hu1, hy1, t1⟩ := hf 1 _ rfl
    obtain ⟨u2, y2, hu2, hy2, t2⟩ := hf 2 _ rfl
    obtain ⟨u3, y3, hu3, hy3, t3⟩ := hf 3 _ rfl
    match cs, hcl, ys, hyl with
    | [_, _, _, _], _, [_, _, _, _], _ =>
      cases hu0; cases hu1; cases hu2; cases hu3; cases hy0; cases hy1; cases hy2; cases hy3
      obtain ⟨i0, e0, _⟩ := DataW.trod_int Tryz.underlying3 t0
      obtain ⟨s1, e1, e1', _⟩ := DataW.trod_string Tryz.underlying9 t1
      obtain ⟨s2, e2, e2', _⟩ := DataW.trod_string Tryz.underlying9 t2
      subst e1' e2'
      simp only [List.cons.injEq, and_true] at e0 e1 e2
      subst e0 e1 e2
      have b0 := bulk_one y0.1
      simp only [Rows.uptoBulk, bulk_all, List.map_cons, List.map_nil, List.sum_cons, List.sum_nil] at hb ⊢
      obtain ⟨v, l, e, h1, h2⟩ := hP _ _ y3 t3 (fun p hp => hl p (by simp [hp])) (by omega)
      cases e
      rw [show s1.data.toList.length = s1.size from rfl, show s2.data.toList.length = s2.size from rfl] at hb ⊢
      have hs : (l.map fun p => p.text.size).sum ≤ bigN := by
        cases n with
        | zero => omega
        | succ n => have := text_sum n l; omega
      refine ⟨⟨i0, s1, s2, l⟩, ⟨by show s1.size ≤ bigN; omega, by show s2.size ≤ bigN; omega, hs, _, rfl, h1⟩, by rw [wtR]; show 1 + s1.size + s2.size + wtW n l ≤ _; omega⟩
theorem arms_in {N n fuel : Nat} {cs : List Value} {x : DataW H × List MemPlace} (hP : PtsRead enc W B n) (hL : NdsRead enc W B n) (h : DataW.trod enc Tryz.prog W 0 (fun _ => true) true fuel 36 cs = some x) (hlt : ∀ p ∈ x.2, p.block < B) (hN : Rows.uptoBulk x.1 ≤ N + 1) (hn : N ≤ n) (hbig : N ≤ bigN) :
    ∃ v l, cs = [v] ∧ ArsIn W B n l v ∧ (l.map (wtM (wtW n) (wtL n))).sum + 1 ≤ Rows.uptoBulk x.1 :=
  slof_in Tryz.underlying36 (by kernel_rfl) (by decide) _ (wtM (wtW n) (wtL n)) h hlt hN hbig fun fuel cs y hcl ht hl hb => by
    obtain ⟨ys, k, rfl, hyl, hf⟩ := struct_cells Tryz.underlying90 (by kernel_rfl) ht hcl
    obtain ⟨u0, y0, hu0, hy0, t0⟩ := hf 0 _ rfl
    obtain ⟨u1, y1, hu1, hy1, t1⟩ := hf 1 _ rfl
    match cs, hcl, ys, hyl with
    | [_, _], _, [_, _], _ =>
      cases hu0; cases hu1; cases hy0; cases hy1
      have b0 := bulk_one y0.1
      have b1 := bulk_one y1.1
      simp only [Rows.uptoBulk, bulk_all, List.map_cons, List.map_nil, List.sum_cons, List.sum_nil] at hb ⊢
      obtain ⟨v, l, e, h1, h2⟩ := hL _ _ y1 t1 (fun p hp => hl p (by simp [hp])) (by omega)
      obtain ⟨v', l', e', h1', h2'⟩ := words_in (N := N - 1) hP t0 (fun p hp => hl p (by simp [hp])) (by omega) (by omega) (by omega)
      cases e
      cases e'
      refine ⟨⟨l', l⟩, ⟨_, _, rfl, h1', h1⟩, by rw [wtM]; show 1 + (l'.map (wtY (wtW n))).sum + wtL n l ≤ _; omega⟩

theorem scripts_in (n : Nat) (hbn : n ≤ bigN) : PtsRead enc W B n ∧ NdsRead enc W B n := by
  induction n with
  | zero => exact ⟨fun _ _ x _ _ hb => by have := bulk_one x.1; omega, fun _ _ x _ _ hb => by have := bulk_one x.1; omega⟩
  | succ n ih =>
    obtain ⟨hP, hL⟩ := ih (by omega)
    constructor
    · intro fuel cs x h hlt hb
      obtain ⟨v, l, e, h1, h2⟩ := slof_in (N := n) (size := 6) Tryz.underlying29 (by kernel_rfl) (by decide) (PtC W B n) (wtP (wtW n) (wtL n)) h hlt hb (by omega) fun fuel cs y hcl ht hl hb => by
        obtain ⟨ys, k, rfl, hyl, hf⟩ := struct_cells Tryz.underlying44 (by kernel_rfl) ht hcl
        obtain ⟨u0, y0, hu0, hy0, t0⟩ := hf 0 _ rfl
        obtain ⟨u1, y1, hu1, hy1, t1⟩ := hf 1 _ rfl
        obtain ⟨u2, y2, hu2, hy2, t2⟩ := hf 2 _ rfl
        obtain ⟨u3, y3, hu3, hy3, t3⟩ := hf 3 _ rfl
        obtain ⟨u4, y4, hu4, hy4, t4⟩ := hf 4 _ rfl
        obtain ⟨u5, y5, hu5, hy5, t5⟩ := hf 5 _ rfl
        match cs, hcl, ys, hyl with
        | [_, _, _, _, _, _], _, [_, _, _, _, _, _], _ =>
          cases hu0; cases hu1; cases hu2; cases hu3; cases hu4; cases hu5; cases hy0; cases hy1; cases hy2; cases hy3; cases hy4; cases hy5
          obtain ⟨i0, e0, _⟩ := DataW.trod_int Tryz.underlying3 t0
          obtain ⟨q1, e1, _⟩ := DataW.trod_bool Tryz.underlying4 t1
          obtain ⟨s2, e2, e2', _⟩ := DataW.trod_string Tryz.underlying9 t2
          obtain ⟨s3, e3, e3', _⟩ := DataW.trod_string Tryz.underlying9 t3
          subst e2' e3'
          simp only [List.cons.injEq, and_true] at e0 e1 e2 e3
          subst e0 e1 e2 e3
          have b0 := bulk_one y0.1
          have b1 := bulk_one y1.1
          have b4 := bulk_one y4.1
          have b5 := bulk_one y5.1
          simp only [Rows.uptoBulk, bulk_all, List.map_cons, List.map_nil, List.sum_cons, List.sum_nil] at hb ⊢
          obtain ⟨v, l, e, h1, h2⟩ := hP _ _ y4 t4 (fun p hp => hl p (by simp [hp])) (by omega)
          obtain ⟨v', l', e', h1', h2'⟩ := hL _ _ y5 t5 (fun p hp => hl p (by simp [hp])) (by omega)
          cases e
          cases e'
          rw [show s2.data.toList.length = s2.size from rfl, show s3.data.toList.length = s3.size from rfl] at hb ⊢
          refine ⟨.mk i0 q1 s2 s3 l l', ⟨by show s2.size ≤ bigN; omega, by show s3.size ≤ bigN; omega, _, _, rfl, h1, h1'⟩, by rw [wtP]; show 1 + s2.size + s3.size + wtW n l + wtL n l' ≤ _; omega⟩
      exact ⟨v, l, e, by rw [PtsIn.succ]; exact h1, by rw [wtW]; exact h2⟩
    · intro fuel cs x h hlt hb
      obtain ⟨v, l, e, h1, h2⟩ := slof_in (N := n) (size := 7) Tryz.underlying22 (by kernel_rfl) (by decide) (NdC W B n) (wtN (wtW n) (wtL n)) h hlt hb (by omega) fun fuel cs y hcl ht hl hb => by
        obtain ⟨ys, k, rfl, hyl, hf⟩ := struct_cells Tryz.underlying38 (by kernel_rfl) ht hcl
        obtain ⟨u0, y0, hu0, hy0, t0⟩ := hf 0 _ rfl
        obtain ⟨u1, y1, hu1, hy1, t1⟩ := hf 1 _ rfl
        obtain ⟨u2, y2, hu2, hy2, t2⟩ := hf 2 _ rfl
        obtain ⟨u3, y3, hu3, hy3, t3⟩ := hf 3 _ rfl
        obtain ⟨u4, y4, hu4, hy4, t4⟩ := hf 4 _ rfl
        obtain ⟨u5, y5, hu5, hy5, t5⟩ := hf 5 _ rfl
        obtain ⟨u6, y6, hu6, hy6, t6⟩ := hf 6 _ rfl
        match cs, hcl, ys, hyl with
        | [_, _, _, _, _, _, _], _, [_, _, _, _, _, _, _], _ =>
          cases hu0; cases hu1; cases hu2; cases hu3; cases hu4; cases hu5; cases hu6; cases hy0; cases hy1; cases hy2; cases hy3; cases hy4; cases hy5; cases hy6
          obtain ⟨i0, e0, _⟩ := DataW.trod_int Tryz.underlying3 t0
          obtain ⟨s1, e1, e1', _⟩ := DataW.trod_string Tryz.underlying9 t1
          subst e1'
          simp only [List.cons.injEq, and_true] at e0 e1
          subst e0 e1
          have b0 := bulk_one y0.1
          have b2 := bulk_one y2.1
          have b3 := bulk_one y3.1
          have b4 := bulk_one y4.1
          have b5 := bulk_one y5.1
          have b6 := bulk_one y6.1
          simp only [Rows.uptoBulk, bulk_all, List.map_cons, List.map_nil, List.sum_cons, List.sum_nil] at hb ⊢
          obtain ⟨v2, l2, g2, h2, k2⟩ := assigns_in (N := n - 1) hP t2 (fun p hp => hl p (by simp [hp])) (by omega) (by omega) (by omega)
          obtain ⟨v3, l3, g3, h3, k3⟩ := words_in (N := n - 1) hP t3 (fun p hp => hl p (by simp [hp])) (by omega) (by omega) (by omega)
          obtain ⟨v4, l4, g4, h4, k4⟩ := redirs_in (N := n - 1) hP t4 (fun p hp => hl p (by simp [hp])) (by omega) (by omega) (by omega)
          obtain ⟨v5, l5, g5, h5, k5⟩ := lists_in (N := n - 1) hL t5 (fun p hp => hl p (by simp [hp])) (by omega) (by omega) (by omega)
          obtain ⟨v6, l6, g6, h6, k6⟩ := arms_in (N := n - 1) hP hL t6 (fun p hp => hl p (by simp [hp])) (by omega) (by omega) (by omega)
          cases g2; cases g3; cases g4; cases g5; cases g6
          rw [show s1.data.toList.length = s1.size from rfl] at hb ⊢
          refine ⟨.mk i0 s1 l2 l3 l4 l5 l6, ⟨by show s1.size ≤ bigN; omega, _, _, _, _, _, rfl, h2, h3, h4, h5, h6⟩, ?_⟩
          rw [wtN]
          show 1 + s1.size + (l2.map (wtA (wtW n))).sum + (l3.map (wtY (wtW n))).sum + (l4.map (wtR (wtW n))).sum + (l5.map (wtS (wtL n))).sum + (l6.map (wtM (wtW n) (wtL n))).sum ≤ _
          omega
      exact ⟨v, l, e, by rw [NdsIn.succ]; exact h1, by rw [wtL]; exact h2⟩
end

set_option maxRecDepth 100000 in
theorem open_nodes {H : Type} {enc : TypeId × Value → H} {W : World} {v : Value} {d : DataW H} {p : List MemPlace} {r : Reach} {base : Nat} (hok : Value.okWide Tryz.prog W r base 22 v) (h : DataW.Trod enc Tryz.prog W 0 (fun _ => true) true 22 v d p) (hlt : ∀ x ∈ p, x.block < W.heap.size) (hb : Rows.uptoBulk d ≤ bigN) :
    ∃ n l, NdsIn W W.heap.size n l v ∧ wtL n l ≤ bigN := by
  obtain ⟨a0, len, cap, rfl⟩ := okWide_slice Tryz.underlying22 hok
  obtain ⟨fuel, hf⟩ := h
  obtain ⟨v, l, e, h1, h2⟩ := (scripts_in (Rows.uptoBulk d) hb).2 fuel _ _ hf hlt (Nat.le_refl _)
  simp [Value.cells] at e
  subst e
  exact ⟨_, l, h1, Nat.le_trans (Nat.le_of_succ_le h2) hb⟩
set_option maxRecDepth 100000 in
theorem open_parts {H : Type} {enc : TypeId × Value → H} {W : World} {v : Value} {d : DataW H} {p : List MemPlace} {r : Reach} {base : Nat} (hok : Value.okWide Tryz.prog W r base 29 v) (h : DataW.Trod enc Tryz.prog W 0 (fun _ => true) true 29 v d p) (hlt : ∀ x ∈ p, x.block < W.heap.size) (hb : Rows.uptoBulk d ≤ bigN) :
    ∃ n l, PtsIn W W.heap.size n l v ∧ wtW n l ≤ bigN := by
  obtain ⟨a0, len, cap, rfl⟩ := okWide_slice Tryz.underlying29 hok
  obtain ⟨fuel, hf⟩ := h
  obtain ⟨v, l, e, h1, h2⟩ := (scripts_in (Rows.uptoBulk d) hb).1 fuel _ _ hf hlt (Nat.le_refl _)
  simp [Value.cells] at e
  subst e
  exact ⟨_, l, h1, Nat.le_trans (Nat.le_of_succ_le h2) hb⟩
end Go.Proofs.YtnackmnoldkihaaGreatDoor
/-
  The wrap for a row that lists variables, the world's shape kept; strings.Split's cell out of the shape.
-/
namespace Go.Proofs.YtnackmnoldkihaaGreatDoor
open Go.ChangeShapes Go.WideShapes Go.ChangeAt Go.RowKit

theorem held_of_shape {W : World} (h : W.ShapedOpen Tryz.prog) : Held W := by
  obtain ⟨c, hc⟩ := Go.Proofs.cell_of_shapedOpen_int (g := 0) (zero := #[.int .i64 0]) (t := 3) h (of_decide_eq_true (by kernel_rfl)) (by kernel_rfl) rfl (by kernel_rfl) (by kernel_rfl) Tryz.underlying3
  exact ⟨⟨c, hc⟩, Nat.lt_of_le_of_lt (Nat.zero_le _) (World.block_lt_of_cell? W _ hc)⟩

theorem returns_laid {H : Type} {enc : TypeId × Value → H} {a : Assume} {C : Checked} {os : Os} {f : FuncId} {fn : Func} {s : ChangeSpec} {conds : List PathCond} {apart fresh handsOn again : Bool} {X : World → Array Value → Prop}
    (hX : ∀ (w w' : World) (args : Array Value), w.heap = w'.heap → X w args → X w' args)
    (own : ownKnob C.prog.godebug = none) (started : os.Started) (noInit : C.prog.inits.idxOf? f = none) (hfn : C.prog.funcs[f]? = some fn)
    (witness : ∃ (w : World) (tape : Tape) (i : Input), w.os = os ∧ (w.forCall tape i).Shaped C.prog ∧ i.vars = [] ∧ Input.okWide C.prog (w.forCall tape i) .any w.heap.size f i ∧
      ((s.pre enc C.prog fn conds apart (w.forCall tape i).memory i.args ∧ X (w.forCall tape i).memory i.args) ∧ sizedMet enc C.prog fn (OpenSpec.ofChange s) apart (w.forCall tape i).memory i.args) ∧ a.holds C.prog (lone (Frame.enter C.prog f i.args .normal) [] (w.forCall tape i)))
    (contract : ∀ (W : World) (base : Nat) (args : Array Value) (ds gs : List (DataW H)) (before : List MemPlace),
      (∀ (j : Nat) t v, fn.params[j]? = some t → args[j]? = some v → Value.okWide C.prog W .any base t v) →
      DataW.Whole enc C.prog fn.params.toList s.vars apart W args.toList ds gs before →
      (DataW.weightsEach C.prog (fn.params.toList ++ s.plain.varTypes C.prog) (ds ++ gs)).all (· ≤ reachBytes) = true → X W args → W.ShapedOpen C.prog →
      Calls C.prog f args W fun e W' => ∃ v, e = .returned v ∧ s.post enc C.prog fn apart fresh handsOn again W args v W') :
    ReturnsInHanded a C os f .any (fun w args => (s.pre enc C.prog fn conds apart w args ∧ X w args) ∧ sizedMet enc C.prog fn (OpenSpec.ofChange s) apart w args) (s.post enc C.prog fn apart fresh handsOn again) := by
  refine returnsInHanded_of_calls own started noInit witness ?_
  intro w tape i _ hsh _ hok hpre _
  obtain ⟨_, _, _, fn', hfn', _, _, _, _, hval⟩ := hok
  obtain rfl : fn' = fn := Option.some.inj (hfn'.symm.trans hfn)
  obtain ⟨⟨⟨ds, gs, before, hw, _⟩, hx⟩, hz⟩ := hpre
  have hw' := DataW.Whole.of_heap (w' := w.forCall tape i) (by rfl) hw
  refine (contract (w.forCall tape i) w.heap.size i.args ds gs before hval hw' (hz.weights hw) (hX _ _ _ (by rfl) hx) hsh).mono fun e W' ⟨v, he, hp⟩ => ?_
  subst he
  exact ChangeSpec.post_blind hp
end Go.Proofs.YtnackmnoldkihaaGreatDoor
/-
  A row with a bound on its input's bulk, and listed variables: its witness, the world's shape kept.
-/
namespace Go.Proofs.YtnackmnoldkihaaGreatDoor
open Go.ChangeShapes Go.WideShapes Go.ChangeAt Go.RowKit

theorem witness_row_shaped {H : Type} {enc : TypeId × Value → H} {C : Checked} {os : Os} {f : FuncId} {fn : Func} {s : OpenSpec} {conds : List PathCond} {apart : Bool} {laid : List (String × DataW Unit)} (modest : Bool) (w0 : World) (args : Array Value) (hos : w0.os = os)
    (hsh : (w0.forCall (fun _ _ => 0) ⟨#[], args, []⟩).Shaped C.prog)
    (hok : Input.okWideB C.prog (w0.forCall (fun _ _ => 0) ⟨#[], args, []⟩) f ⟨#[], args, []⟩ = true)
    (hrow : s.preRow enc C.prog fn conds apart laid (w0.forCall (fun _ _ => 0) ⟨#[], args, []⟩).memory args) :
    ∃ (w : World) (tape : Tape) (i : Input), w.os = os ∧ (w.forCall tape i).Shaped C.prog ∧ i.vars = [] ∧ Input.okWide C.prog (w.forCall tape i) .any w.heap.size f i ∧
      s.preRow enc C.prog fn conds apart laid (w.forCall tape i).memory i.args ∧ ({ modest := modest } : Assume).holds C.prog (lone (Frame.enter C.prog f i.args .normal) [] (w.forCall tape i)) :=
  ⟨w0, fun _ _ => 0, ⟨#[], args, []⟩, hos, hsh, (Input.okWide_of_okWideB (base := 0) hok).1, (Input.okWide_of_okWideB hok).2, hrow, by
    simp only [Assume.holds]
    exact ⟨by simp, by simp, fun _ => Modest.zero, by simp, by simp⟩⟩
end Go.Proofs.YtnackmnoldkihaaGreatDoor
namespace Go.Proofs.YtnackmnoldkihaaGreatDoor
end Go.Proofs.YtnackmnoldkihaaGreatDoor
