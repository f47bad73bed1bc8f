/-
  TreeScans returns true for every tree: a tree that may be, made on a disk, is scanned as just this tree. The card ties the listed variables to the program's text.
-/
import Derived.Test.YtmlgmedapbeleaaGreatDoorW9
import Derived.Test.YtmlgmedapbeleaaGreatDoorW4
import Derived.Test.YtmlgmedapbeleaaGreatDoorW10
import Derived.Test.YtmlgmedapbeleaaGreatDoorW3
import Derived.HandedShaped
import Derived.Shelf.Vars
import Derived.OpenShut
import Derived.LaidMore
import Derived.Lay
import Derived.SevenTiedAt
import Derived.Stop.Joined
import Derived.Test.YtmlgmedapbeleaaGreatDoorCards
import Derived.Test.YtmlgmedapbeleaaGreatDoorTie
set_option linter.unusedVariables false
set_option linter.unusedSimpArgs false
/-
  The sort of what Scan found: a permutation, by rising paths.
-/
namespace Go.Proofs.YtmlgmedapbeleaaGreatDoor
open Go.RowKit

theorem cmp_iff : ∀ (a b : List UInt8), Lib.compareBytes a b < 0 ↔ a < b
  | [], [] => ⟨fun h => absurd h (by simp [Lib.compareBytes]), fun h => absurd h (List.lt_irrefl _)⟩
  | [], _ :: _ => ⟨fun _ => List.nil_lt_cons _ _, fun _ => by simp [Lib.compareBytes]⟩
  | _ :: _, [] => ⟨fun h => absurd h (by simp [Lib.compareBytes]), fun h => by cases h⟩
  | x :: a, y :: b => by
    rw [Lib.compareBytes, List.cons_lt_cons_iff]
    by_cases h1 : x < y
    · simp [h1]
    · rw [if_neg h1]
      by_cases h2 : y < x
      · rw [if_pos h2]
        refine ⟨fun h => absurd h (by decide), fun h => ?_⟩
        rcases h with h | ⟨h, _⟩
        · exact absurd h h1
        · subst h; exact absurd h2 h1
      · rw [if_neg h2, cmp_iff a b]
        have e : x = y := UInt8.le_antisymm (UInt8.not_lt.1 h2) (UInt8.not_lt.1 h1)
        exact ⟨fun h => .inr ⟨e, h⟩, fun h => h.elim (fun h => absurd h h1) (fun h => h.2)⟩

instance : Inhabited It := ⟨It0⟩
def cfI (x y : It) : Int := Lib.compareBytes (L x.p) (L y.p)
theorem lt_tri' : ∀ (a b : List UInt8), a < b ∨ a = b ∨ b < a
  | [], [] => .inr (.inl rfl)
  | [], _ :: _ => .inl (List.nil_lt_cons _ _)
  | _ :: _, [] => .inr (.inr (List.nil_lt_cons _ _))
  | x :: a, y :: b => by
    rw [List.cons_lt_cons_iff, List.cons_lt_cons_iff]
    by_cases h1 : x < y
    · exact .inl (.inl h1)
    · by_cases h2 : y < x
      · exact .inr (.inr (.inl h2))
      · have e : x = y := UInt8.le_antisymm (UInt8.not_lt.1 h2) (UInt8.not_lt.1 h1)
        subst e
        rcases lt_tri' a b with h | h | h
        · exact .inl (.inr ⟨rfl, h⟩)
        · exact .inr (.inl (by rw [h]))
        · exact .inr (.inr (.inr ⟨rfl, h⟩))
theorem swo_cfI : Go.Sort.SWO (ltOf cfI) where
  irrefl x := by
    show decide (cfI _ _ < 0) = false
    rw [decide_eq_false_iff_not, cfI, cmp_iff]
    exact lt_irrefl' _
  trans x y z h1 h2 := by
    change decide (cfI _ _ < 0) = true at h1
    change decide (cfI _ _ < 0) = true at h2
    show decide (cfI _ _ < 0) = true
    rw [decide_eq_true_iff, cfI, cmp_iff] at *
    exact lt_trans' h1 h2
  ntrans x y z h1 h2 := by
    change decide (cfI _ _ < 0) = false at h1
    change decide (cfI _ _ < 0) = false at h2
    show decide (cfI _ _ < 0) = false
    rw [decide_eq_false_iff_not, cfI, cmp_iff] at *
    intro h3
    rcases lt_tri' (L x.p) (L y.p) with h | h | h
    · exact h1 h
    · rw [h] at h3; exact h2 h3
    · exact h2 (lt_trans' h h3)

theorem heap_sortI (w : World) (b : Nat) (cur : Array Value) (e : TypeId) (hb : w.heap[b]? = some (.cells cur e (0, 0))) (n : Nat) (d : Array It) (os : Array Obj) :
    (∀ k, k < w.heap.size → k ≠ b → (sortWorldK itC 5 w b 0 n d os).heap[k]? = w.heap[k]?) ∧ (sortWorldK itC 5 w b 0 n d os).heap[b]? = some (.cells (Go.Sort.putCells id 0 (Go.Sort.flatK itC 5 d) cur) e (0, 0)) ∧ w.heap.size ≤ (sortWorldK itC 5 w b 0 n d os).heap.size := by
  have hlt : b < w.heap.size := (Array.getElem?_eq_some_iff.1 hb).1
  obtain ⟨F, hF⟩ : ∃ F, F = Go.Sort.flatK itC 5 d := ⟨_, rfl⟩
  have hW : sortWorldK itC 5 w b 0 n d os = Go.Sort.grow (Go.Sort.putRow id (Go.Sort.ahead w n) b 0 F) os := by rw [hF]; rfl
  rw [hW, ← hF]
  have hsz : (Go.Sort.putRow id (Go.Sort.ahead w n) b 0 F).heap.size = w.heap.size := by simp [Go.Sort.putRow, Go.Sort.mapBlock, Go.Sort.ahead]
  have hk : ∀ k, k < w.heap.size → (Go.Sort.grow (Go.Sort.putRow id (Go.Sort.ahead w n) b 0 F) os).heap[k]? = (Go.Sort.putRow id (Go.Sort.ahead w n) b 0 F).heap[k]? := fun k h => Go.Sort.heap_grow_old _ os (by rw [hsz]; exact h)
  refine ⟨fun k h hne => ?_, ?_, ?_⟩
  · rw [hk k h]
    simp only [Go.Sort.putRow, Go.Sort.mapBlock, Go.Sort.ahead, Array.getElem?_modify, if_neg (Ne.symm hne)]
  · rw [hk b hlt]
    simp only [Go.Sort.putRow, Go.Sort.mapBlock, Go.Sort.ahead, Array.getElem?_modify, if_true, hb, Option.map_some, Go.Sort.onCells]
  · simp only [Go.Sort.grow, Array.size_append, hsz]
    omega
theorem flatK_at (d : Array It) (j : Nat) (hj : j < d.size * 5) : (Go.Sort.flatK itC 5 d)[j]? = (d.toList.flatMap itC)[j]? := by
  have h1 : j / 5 < d.size := by omega
  have hx : d.toList[j / 5]? = some d[j / 5]! := by rw [Array.getElem?_toList, Array.getElem?_eq_getElem h1, getElem!_pos d (j / 5) h1]
  have h2 := flat_get itC 5 itC_len d.toList (j / 5) _ hx (j % 5) (by omega)
  rw [show j / 5 * 5 + j % 5 = j by omega] at h2
  have h3 : j % 5 < (itC d[j / 5]!).length := by rw [itC_len]; omega
  rw [h2, Array.getElem?_eq_getElem (by simpa using hj), ← getElem!_pos (Go.Sort.flatK itC 5 d) j (by simpa using hj), Go.Sort.get_flatK _ _ _ _ hj, List.getElem?_eq_getElem h3, getElem!_pos (itC d[j / 5]!) (j % 5) h3]

/-- The closure: which of two items stands ahead. -/
theorem icmp_any (x y : It) (w : World) :
    Calls Tryz.prog 19 #[itV x, itV y] w fun e w' => e = .returned (.int .i64 (cfI x y)) ∧ ∃ q os', w' = Go.Sort.grow (w.drewN q) os' := by
  have C1 : Hid (∀ W, Calls Tryz.prog 20 #[.string x.p, .string y.p] W fun e w' => e = .returned (.int .i64 (cfI x y)) ∧ w' = W) := Lib.hid fun W => Tryz.strings_Compare x.p y.p W
  unfold itV
  go_enter Tryz.func19, Tryz.ntmps19
  go_wp2_with fail
  refine (C1.out _).mono ?_
  rintro e w1 ⟨rfl, rfl⟩
  go_wp2_with fail
  go_ret
  refine ⟨rfl, 0, #[.cells #[.string x.p, .int .i64 x.k, .int .i64 x.m, .string x.d, .string x.s] 34, .cells #[.string y.p, .int .i64 y.k, .int .i64 y.m, .string y.d, .string y.s] 34], ?_⟩
  rw [Go.Sort.alloc_eq_grow, Go.Sort.alloc_eq_grow, Go.Sort.grow_grow]
  rfl

set_option maxRecDepth 100000 in
theorem sortI_call (v : Value) (xs : List It) (w : World) (lo : Nat) (h : w.ownsRow lo 34 5 v xs.length (xs.flatMap itC)) (hn : 0 < xs.length) (hl : xs.length ≤ 1000) :
    Calls Tryz.prog 18 #[v, .func (.func 19) #[] #[]] w fun e w' => e = .returned (.tuple #[]) ∧ ∃ ys : List It, ys.Perm xs ∧ (ys.Pairwise fun a b => ¬ L b.p < L a.p) ∧ w'.ownsRow lo 34 5 v ys.length (ys.flatMap itC) ∧ Below lo w w' ∧ (∀ k, k < w.heap.size → v.ownBlock ≠ some k → w'.heap[k]? = w.heap[k]?) := by
  obtain ⟨hx, h2⟩ := h
  rcases h2 with ⟨_, h3⟩ | ⟨g, cap, cur, rfl, hg, hb, hnc, hcm, hcs, hct⟩
  · omega
  · have hglt : g < w.heap.size := (Array.getElem?_eq_some_iff.1 hb).1
    have hcell : ∀ j, j < xs.length * 5 → cur[j]? = (xs.flatMap itC)[j]? := fun j hj => by
      have e1 : (cur.toList.take (xs.length * 5))[j]? = (xs.flatMap itC)[j]? := by rw [hct]
      rw [List.getElem?_take, if_pos hj, Array.getElem?_toList] at e1
      exact e1
    obtain ⟨d, hd⟩ : ∃ d : Array It, d = xs.toArray := ⟨_, rfl⟩
    have hds : d.size = xs.length := by rw [hd]; simp
    have hdl : d.toList = xs := by rw [hd]
    have hH : Go.Sort.HoldsK itC 5 w g 0 d := fun j hj => by
      have hj' : j < d.size * 5 := by simpa using hj
      have h1 := flatK_at d j hj'
      rw [hdl, ← hcell j (by omega), Array.getElem?_eq_getElem (by simpa using hj'), ← getElem!_pos (Go.Sort.flatK itC 5 d) j (by simpa using hj')] at h1
      refine ⟨?_, by simp [World.frozen?, hb]⟩
      rw [Nat.zero_add]
      simp only [World.cell?, hb]
      exact h1.symm
    have eg : ∀ args w, (callFunc 19 args).run Tryz.prog w = .ok (.enter 19 args) w := enters_of Tryz.func19 (by kernel_rfl) rfl
    have hcmp : CmpLays Tryz.prog 19 #[] itC 5 cfI g 0 d.size w := fun n os dk _ x y => icmp_any x y _
    have h1c : ∀ (x : It), ∀ v ∈ itC x, v.oneCell' = true := fun x u hu => by simp [itC] at hu; rcases hu with rfl | rfl | rfl | rfl | rfl <;> rfl
    have hsz : d.size < 4611686018427387904 := by omega
    have hlim : Lib.bitLen d.size < 4611686018427387904 := Nat.lt_of_le_of_lt (Lib.bitLen_le d.size 62 (by omega) (by omega)) (by omega)
    have hp := AnyQ.pdqsortCmpFunc_all (P := Tryz.prog) (ρ := Tryz.sortI_ren) { Tryz.sortI with } 5 (fun w => by kernel_rfl) (fun w => by kernel_rfl) itC cfI 19 #[] swo_cfI g 0 cap d w eg hcmp ⟨itC_len, h1c, hH, hglt⟩ (d.size + 1) 0 d.size (Lib.bitLen d.size) d w (by omega) rfl (SWK.start hH) (Nat.zero_le _) (Nat.le_refl _) hsz hlim (Or.inl rfl)
    change Calls Tryz.prog 36 _ _ _ at hp
    rw [hds] at hp
    have hq : Hid (Calls Tryz.prog 36 #[.slice (some ⟨g, 0, none⟩) xs.length cap, .int .i64 0, .int .i64 (xs.length : Int), .int .i64 (Lib.bitLen xs.length : Nat), .func (.func 19) #[] #[]] w fun e w' => e = .returned (.tuple #[]) ∧ ∃ ys : List It, ys.Perm xs ∧ (ys.Pairwise fun a b => ¬ L b.p < L a.p) ∧ w'.ownsRow lo 34 5 (.slice (some ⟨g, 0, none⟩) xs.length cap) ys.length (ys.flatMap itC) ∧ Below lo w w' ∧ (∀ k, k < w.heap.size → (Value.slice (some ⟨g, 0, none⟩) xs.length cap).ownBlock ≠ some k → w'.heap[k]? = w.heap[k]?)) := Lib.hid (by
      refine hp.mono fun e w' ⟨h1, n, os, hw⟩ => ?_
      obtain ⟨hp1, hs1⟩ := Go.Sort.pdq_sorts (ltOf cfI) swo_cfI d 0 d.size (Lib.bitLen d.size) true true (Nat.zero_le _) (Nat.le_refl _) (Or.inl rfl)
      rw [hds] at hp1 hs1
      obtain ⟨d', hd'⟩ : ∃ d', d' = Go.Sort.pdq (ltOf cfI) d 0 xs.length (Lib.bitLen xs.length) true true := ⟨_, rfl⟩
      rw [← hd'] at hp1 hs1 hw
      subst hw
      obtain ⟨k1, k2, k3⟩ := heap_sortI w g cur _ hb n d' os
      obtain ⟨p1, _, p3⟩ := hp1
      have hz' : d'.size = xs.length := by rw [p1, hds]
      rw [← hds] at p3
      rw [Array.extract_size, show d.size = d'.size by rw [p1], Array.extract_size] at p3
      rw [hdl] at p3
      have hyl : d'.toList.length = xs.length := by rw [Array.length_toList, hz']
      refine ⟨h1, d'.toList, p3, ?_, ⟨by rw [flat_len itC 5 itC_len], .inr ⟨g, cap, Go.Sort.putCells id 0 (Go.Sort.flatK itC 5 d') cur, by rw [hyl], hg, k2, by rw [hyl]; exact hnc, hcm, ?_, ?_⟩⟩, ⟨rfl, rfl, rfl, k3, fun k hk => k1 k (by omega) (by omega)⟩, fun k hk hne => k1 k hk fun e => hne (by rw [e]; rfl)⟩
      · rw [List.pairwise_iff_getElem]
        intro i j hi hj hij
        have hq := hs1 i j (Nat.zero_le _) hij (by rw [← hz']; simpa using hj)
        have hq' : ¬ cfI d'[j]! d'[i]! < 0 := by simpa [ltOf] using hq
        rw [getElem!_pos d' j (by simpa using hj), getElem!_pos d' i (by simpa using hi), cfI, cmp_iff] at hq'
        simpa using hq'
      · simp [Go.Sort.putCells, hcs]
      · have hfl : (d'.toList.flatMap itC).length = xs.length * 5 := by rw [flat_len itC 5 itC_len, hyl]
        apply List.ext_getElem?
        intro j
        rw [hyl, List.getElem?_take]
        by_cases hj : j < xs.length * 5
        · rw [if_pos hj, Array.getElem?_toList]
          have hjc : j < cur.size := by have := Nat.mul_le_mul_right 5 hnc; omega
          have hjd : j < (Go.Sort.flatK itC 5 d').size := by simp; omega
          simp only [Go.Sort.putCells, Array.getElem?_mapIdx, Array.getElem?_eq_getElem hjc, Option.map_some]
          rw [if_pos (by simp; omega), ← flatK_at d' j (by omega), Array.getElem?_eq_getElem hjd, Nat.sub_zero, getElem!_pos _ j hjd]
          rfl
        · rw [if_neg hj, List.getElem?_eq_none (by omega)])
    have hlen : Hid (∀ W, Calls Tryz.prog 37 #[.int .u64 (xs.length : Int)] W fun e w' => e = .returned (.int .i64 (Lib.bitLen xs.length : Nat)) ∧ w' = W) := Lib.hid fun W => by
      have h := Tryz.bits_Len (xs.length : Int) W (by omega) (by omega)
      rwa [Int.toNat_natCast] at h
    have wr : IntKind.u64.wrap (xs.length : Int) = xs.length := by simp [IntKind.wrap, IntKind.bits, IntKind.signed]; omega
    obtain ⟨N, hN⟩ : ∃ N, N = xs.length := ⟨_, rfl⟩
    rw [← hN] at hq hlen wr ⊢
    clear hp hcmp eg h1c hsz hlim hH hcell hx hnc hcs hct hds hdl hd hl hn hN
    go_enter Tryz.func18, Tryz.ntmps18
    go_wp2_with fail
    refine (hlen.out _).mono ?_
    rintro e w1 ⟨rfl, rfl⟩
    go_wp2_with fail
    refine hq.out.mono ?_
    rintro e w2 ⟨rfl, ys, q1, q2, q3, q4, q5⟩
    go_wp2_with fail
    go_end0
    exact ⟨rfl, ys, q1, q2, q3, q4, q5⟩
end Go.Proofs.YtmlgmedapbeleaaGreatDoor
/-
  Of which node a file is, plain: behind the loop each item is as it was.
-/
namespace Go.Proofs.YtmlgmedapbeleaaGreatDoor
open Go.RowKit

theorem itoaS_inj {i j : Nat} (hi : i < 100) (hj : j < 100) (h : L (itoaS i) = L (itoaS j)) : i = j := by
  have h' : Lib.decDigits i = Lib.decDigits j := h
  have key : ∀ a b : Nat, a < 200 → b < 200 → UInt8.ofNat a = UInt8.ofNat b → a = b := fun a b ha hb e => by
    have := congrArg UInt8.toNat e
    rw [UInt8.toNat_ofNat_of_lt' (by simp [UInt8.size]; omega), UInt8.toNat_ofNat_of_lt' (by simp [UInt8.size]; omega)] at this
    exact this
  by_cases h1 : i < 10
  · rw [Lib.decDigits_one h1] at h'
    by_cases h2 : j < 10
    · rw [Lib.decDigits_one h2] at h'
      simp only [List.cons.injEq, and_true] at h'
      have := key _ _ (by omega) (by omega) h'
      omega
    · rw [Lib.decDigits_two h2 hj] at h'
      simp at h'
  · rw [Lib.decDigits_two h1 hi] at h'
    by_cases h2 : j < 10
    · rw [Lib.decDigits_one h2] at h'
      simp at h'
    · rw [Lib.decDigits_two h2 hj] at h'
      simp only [List.cons.injEq, and_true] at h'
      have e1 := key _ _ (by omega) (by omega) h'.1
      have e2 := key _ _ (by omega) (by omega) h'.2
      omega

/-- The first path of a node. -/
def nodeS (l : List It) (x : It) : List UInt8 := L (itoaS (noB l x))
def isF (x : It) : Prop := x.k = 1 ∧ L x.s = []
instance (x : It) : Decidable (isF x) := by unfold isF; infer_instance
def firstM (l : List It) (k : Nat) (t : List UInt8) : Option Value := ((l.take k).findIdx? (fun o => decide (isF o ∧ nodeS l o = t))).map fun (j : Nat) => Value.int .i64 ((j : Int) + 1)
/-- What the row holds behind k rounds. -/
def mixL (l : List It) (k : Nat) : List It := l.take k ++ (l.drop k).map (sc l)

section
variable {l : List It} {k : Nat} {x : It}
theorem nid_le (l : List It) (t : List UInt8) : nid l t ≤ l.length := Nat.le_trans List.findIdx_le_length (List.length_filter_le _ _)
theorem node_inj (h30 : l.length ≤ 30) {x y : It} (h : nodeS l x = nodeS l y) : nid l (fstL x) = nid l (fstL y) := by
  have h1 := nid_le l (fstL x)
  have h2 := nid_le l (fstL y)
  have := itoaS_inj (by rw [noB]; omega) (by rw [noB]; omega) h
  rw [noB, noB] at this
  omega
theorem firstM_zero : firstM l 0 = fun _ => none := by funext t; rfl
theorem firstM_skip (hx : l[k]? = some x) (hf : ¬ isF x) : firstM l (k + 1) = firstM l k := by
  funext t
  rw [firstM, firstM, take_snoc' hx, List.findIdx?_append]
  have e : [x].findIdx? (fun o => decide (isF o ∧ nodeS l o = t)) = none := by
    rw [List.findIdx?_eq_none_iff]
    intro y hy
    rw [List.mem_singleton] at hy
    subst hy
    simp [hf]
  rw [e]
  simp
theorem firstM_none (h : okTo l l.length) (h30 : l.length ≤ 30) (hx : l[k]? = some x) (hf : isF x) : firstM l k (nodeS l x) = none := by
  rw [firstM, Option.map_eq_none_iff, List.findIdx?_eq_none_iff]
  intro y hy
  obtain ⟨a, ha⟩ := List.getElem?_of_mem hy
  have hak := (List.getElem?_eq_some_iff.1 ha).1
  rw [List.length_take] at hak
  rw [List.getElem?_take_of_lt (by omega)] at ha
  rw [decide_eq_false_iff_not]
  rintro ⟨hfy, hn⟩
  have hk := (List.getElem?_eq_some_iff.1 hx).1
  have e := node_inj h30 hn
  have e1 : fstL y = L y.p := by rw [fstL, if_pos hfy.2]
  have e2 : fstL x = L x.p := by rw [fstL, if_pos hf.2]
  rw [e1, e2] at e
  have f1 := fs_has h (by omega : a < l.length) ha hfy.2
  have f2 := fs_has h hk hx hf.2
  rw [e, f2] at f1
  cases f1
  have := ok_up h k a x x (by omega) hk ha hx
  exact lt_irrefl' _ this
theorem firstM_put (h : okTo l l.length) (h30 : l.length ≤ 30) (hx : l[k]? = some x) (hf : isF x) : (fun t => if t = nodeS l x then some (Value.int .i64 ((k : Int) + 1)) else firstM l k t) = firstM l (k + 1) := by
  funext t
  have hk := (List.getElem?_eq_some_iff.1 hx).1
  have h0 : firstM l (k + 1) t = ((l.take (k + 1)).findIdx? (fun o => decide (isF o ∧ nodeS l o = t))).map fun (j : Nat) => Value.int .i64 ((j : Int) + 1) := rfl
  rw [h0, take_snoc' hx, List.findIdx?_append]
  by_cases e : t = nodeS l x
  · subst e
    have hn := firstM_none h h30 hx hf
    rw [firstM, Option.map_eq_none_iff] at hn
    have e1 : [x].findIdx? (fun o => decide (isF o ∧ nodeS l o = nodeS l x)) = some 0 := by
      rw [List.findIdx?_cons]
      simp [hf]
    rw [if_pos rfl, hn, e1]
    simp
    omega
  · have e1 : [x].findIdx? (fun o => decide (isF o ∧ nodeS l o = t)) = none := by
      rw [List.findIdx?_eq_none_iff]
      intro y hy
      rw [List.mem_singleton] at hy
      subst hy
      simp [Ne.symm e]
    rw [if_neg e, e1, firstM]
    simp
theorem firstM_link (h : okTo l l.length) (h30 : l.length ≤ 30) (hx : l[k]? = some x) (hs : L x.s ≠ []) : ∃ (j : Nat) (o : It), j < k ∧ l[j]? = some o ∧ o.p = x.s ∧ firstM l k (nodeS l x) = some (.int .i64 ((j : Int) + 1)) := by
  rcases (ok_fit h hx).link with h1 | ⟨a, o, ha, ho, h1, h2, h3, _⟩
  · exact absurd h1 hs
  · have hk := (List.getElem?_eq_some_iff.1 hx).1
    have hfo : isF o := ⟨h2, h3⟩
    have hno : nodeS l o = nodeS l x := by
      rw [nodeS, nodeS, noB, noB, fstL, if_pos h3, fstL, if_neg hs, h1]
    refine ⟨a, o, ha, ho, ?_, ?_⟩
    · rw [← S_L o.p, h1, S_L]
    · rw [firstM]
      have e : (l.take k).findIdx? (fun y => decide (isF y ∧ nodeS l y = nodeS l x)) = some a := by
        rw [List.findIdx?_eq_some_iff_getElem]
        refine ⟨by rw [List.length_take]; omega, ?_, ?_⟩
        · have : (l.take k)[a]? = some o := by rw [List.getElem?_take_of_lt ha]; exact ho
          rw [List.getElem?_eq_getElem (by rw [List.length_take]; omega), Option.some.injEq] at this
          rw [this]
          simp [hfo, hno]
        · intro j hj
          rw [decide_eq_true_eq]
          rintro ⟨hfj, hnj⟩
          have hjl : j < l.length := by omega
          have hlj : (l.take k)[j]'(by rw [List.length_take]; omega) = l[j] := List.getElem_take
          rw [hlj] at hfj hnj
          have hjx : l[j]? = some l[j] := List.getElem?_eq_getElem hjl
          have e := node_inj h30 (hnj.trans hno.symm)
          rw [fstL, if_pos hfj.2, fstL, if_pos h3] at e
          have f1 := fs_has h hjl hjx hfj.2
          have f2 := fs_has h (by omega : a < l.length) ho h3
          rw [e, f2] at f1
          have hoj : o = l[j] := Option.some.inj f1
          have := ok_up h a j l[j] o hj (by omega) hjx ho
          rw [hoj] at this
          exact lt_irrefl' _ this
      rw [e]; rfl

theorem mix_at (hx : l[k]? = some x) : (mixL l k)[k]? = some (sc l x) := by
  have hk := (List.getElem?_eq_some_iff.1 hx).1
  rw [mixL, List.getElem?_append_right (by rw [List.length_take]; omega), List.length_take, Nat.min_eq_left (by omega), Nat.sub_self, List.getElem?_map, List.getElem?_drop, Nat.add_zero, hx]; rfl
theorem mix_old {j : Nat} {o : It} (hj : j < k) (ho : l[j]? = some o) : (mixL l k)[j]? = some o := by
  have h1 := (List.getElem?_eq_some_iff.1 ho).1
  by_cases hk : k ≤ l.length
  · rw [mixL, List.getElem?_append_left (by rw [List.length_take]; omega), List.getElem?_take_of_lt hj, ho]
  · rw [mixL, List.getElem?_append_left (by rw [List.length_take]; omega), List.getElem?_take_of_lt hj, ho]
theorem mix_len (l : List It) (k : Nat) : (mixL l k).length = l.length := by
  rw [mixL, List.length_append, List.length_map, List.length_take, List.length_drop]; omega
theorem mix_step (hx : l[k]? = some x) : (mixL l k).set k x = mixL l (k + 1) := by
  have hk := (List.getElem?_eq_some_iff.1 hx).1
  apply List.ext_getElem?
  intro j
  by_cases e : k = j
  · subst e
    rw [List.getElem?_set_self (by rw [mix_len]; exact hk)]
    exact (mix_old (Nat.lt_succ_self k) hx).symm
  · rw [List.getElem?_set_ne e]
    by_cases hj : j < l.length
    · have hjx : l[j]? = some l[j] := List.getElem?_eq_getElem hj
      by_cases hlt : j < k
      · rw [mix_old hlt hjx, mix_old (by omega) hjx]
      · rw [mixL, mixL, List.getElem?_append_right (by rw [List.length_take]; omega), List.getElem?_append_right (by rw [List.length_take]; omega), List.length_take, List.length_take, Nat.min_eq_left (by omega), Nat.min_eq_left (by omega), List.getElem?_map, List.getElem?_map, List.getElem?_drop, List.getElem?_drop, show k + (j - k) = j by omega, show k + 1 + (j - (k + 1)) = j by omega]
    · rw [List.getElem?_eq_none (by rw [mix_len]; omega), List.getElem?_eq_none (by rw [mix_len]; omega)]
theorem mix_zero (l : List It) : mixL l 0 = l.map (sc l) := rfl
theorem mix_all (l : List It) : mixL l l.length = l := by rw [mixL, List.take_length, List.drop_length]; simp

theorem sc_new (h : okTo l l.length) (hx : l[k]? = some x) (hs : L x.s = []) : dat l x = x.d := by
  have hf : fstL x = L x.p := by rw [fstL, if_pos hs]
  have hv := findV_has h (List.getElem?_eq_some_iff.1 hx).1 hx
  rw [List.take_length] at hv
  rw [dat, hf, hv]
/-- What isn't a file is as it was. -/
theorem sc_other (h : okTo l l.length) (hx : l[k]? = some x) (hk : x.k ≠ 1) : sc l x = x := by
  have F := ok_fit h hx
  have hs := F.same hk
  have hd := sc_new h hx hs
  obtain ⟨p, kk, m, d, s⟩ := x
  have e1 : s = ⟨#[]⟩ := nil_eq hs
  simp only [] at hk
  rw [sc]
  simp only [if_neg hk]
  by_cases h2 : kk = 2
  · rw [if_pos h2, e1]
    have := nil_eq (F.dir h2)
    simp only [] at this
    rw [this]
  · rw [if_neg h2, hd, e1]
theorem flat_set : ∀ (ys : List It) (k : Nat) (y y' : It), ys[k]? = some y → ∀ (c : Nat) (v : Value), c < 5 → (itC y).set c v = itC y' → (ys.flatMap itC).set (k * 5 + c) v = (ys.set k y').flatMap itC
  | [], _, _, _, hy, _, _, _, _ => by cases hy
  | z :: ys, 0, y, y', hy, c, v, hc, h => by
    simp only [List.getElem?_cons_zero, Option.some.injEq] at hy
    subst hy
    rw [Nat.zero_mul, Nat.zero_add, List.flatMap_cons, List.set_cons_zero, List.flatMap_cons, List.set_append_left _ _ (by rw [itC_len]; exact hc), h]
  | z :: ys, k + 1, y, y', hy, c, v, hc, h => by
    rw [List.getElem?_cons_succ] at hy
    rw [List.flatMap_cons, List.set_cons_succ, List.flatMap_cons, List.set_append_right _ _ (by rw [itC_len, Nat.succ_mul]; omega), itC_len, show (k + 1) * 5 + c - 5 = k * 5 + c by rw [Nat.succ_mul]; omega, flat_set ys k y y' hy c v hc h]
end
end Go.Proofs.YtmlgmedapbeleaaGreatDoor
/-
  The walk of Scan, of a tree that was made on a disk.
-/
namespace Go.Proofs.YtmlgmedapbeleaaGreatDoor
open Go.RowKit

theorem idx_it (n k : Nat) (h : k < n) (i : Int) (hi : i = k) (g cap : Nat) (w : World) : (Instr.indexAt 23 (.slice (some ⟨g, 0, none⟩) n cap) (.int .i64 i)).run Tryz.prog w = .ok (.pointer (some ⟨g, k * 5, none⟩)) w := by
  subst hi
  have he : Tryz.prog.elem 23 = 34 := by simp [Program.elem, Tryz.underlying23]
  rw [run_indexAt_slice _ _ _ _ _ _ _ (by rw [he]; exact Tryz.underlying23), if_pos ⟨by omega, by omega⟩, he]
  obtain ⟨i0, hi, hi1⟩ := Option.map_eq_some_iff.1 (show (Tryz.prog.info? 34).map (·.size) = some 5 by kernel_rfl)
  simp [sizeOf, typeInfo, hi, hi1, Result.andThen, addr_add]
theorem set_same {ys : List It} {k : Nat} {x : It} (h : ys[k]? = some x) : ys.set k x = ys := by
  apply List.ext_getElem?
  intro j
  by_cases e : k = j
  · subst e
    rw [List.getElem?_set_self (List.getElem?_eq_some_iff.1 h).1, h]
  · rw [List.getElem?_set_ne e]
/-- Two lists by rising paths of the same items are one. -/
theorem sorted_eq {l ys : List It} (h : okTo l l.length) (hp : ys.Perm (l.map (sc l))) (hs : ys.Pairwise fun a b => ¬ L b.p < L a.p) : ys = l.map (sc l) := by
  have h1 : (l.map (sc l)).Pairwise (fun a b => L a.p < L b.p) := by
    rw [List.pairwise_map]
    exact ok_pair h
  have h2 : ys.Pairwise (fun a b => L a.p < L b.p) := by
    have hne : ys.Pairwise (fun a b => L a.p ≠ L b.p) := (hp.pairwise_iff (fun {a b} hab e => hab e.symm)).2 (h1.imp (fun {a b} (hlt : L a.p < L b.p) (e : L a.p = L b.p) => lt_irrefl' (L b.p) (by rw [e] at hlt; exact hlt)))
    rw [List.pairwise_iff_getElem] at hs hne ⊢
    intro i j hi hj hij
    rcases lt_tri' (L ys[i].p) (L ys[j].p) with h | h | h
    · exact h
    · exact absurd h (hne i j hi hj hij)
    · exact absurd h (hs i j hi hj hij)
  exact hp.eq_of_pairwise (fun a b _ _ hab hba => absurd (lt_trans' hab hba) (lt_irrefl' _)) h2 h1

theorem itoa_size (n : Nat) (h : n < 100) : (itoaS n).size ≤ maxLen := by
  have : (itoaS n).size = (Lib.decDigits n).length := by simp [itoaS, ByteArray.size]
  rw [this]
  by_cases h1 : n < 10
  · rw [Lib.decDigits_one h1]; show 1 ≤ maxLen; decide
  · rw [Lib.decDigits_two h1 h]; show 2 ≤ maxLen; decide
theorem link_data {l : List It} {k : Nat} {x : It} (h : okTo l l.length) (hx : l[k]? = some x) (hs : L x.s ≠ []) : x.d = ⟨#[]⟩ := by
  rcases (ok_fit h hx).link with h1 | ⟨_, _, _, _, _, _, _, _, h5⟩
  · exact absurd h1 hs
  · exact nil_eq h5
theorem set4 (x : It) (a : ByteArray) (b : ByteArray) : (itC ⟨x.p, x.k, x.m, x.d, b⟩).set 4 (.string a) = itC ⟨x.p, x.k, x.m, x.d, a⟩ := rfl
theorem set3 (x : It) (a b c : ByteArray) : (itC ⟨x.p, x.k, x.m, b, c⟩).set 3 (.string a) = itC ⟨x.p, x.k, x.m, a, c⟩ := rfl

section
variable {w : World} {B db mb : Nat} {ns : List Nd} {ps : List Pl} {used : Int} {l : List It}
set_option maxHeartbeats 2000000 in
set_option maxRecDepth 100000 in
theorem Scan_any (h : okTo l l.length) (h0 : 0 < l.length) (h30 : l.length ≤ 30) (hI : Inv l l.length ns) (hD : Dk w B db mb ns ps used) :
    Calls Tryz.prog 9 #[.pointer (some ⟨db, 0, none⟩), .int .i64 1] w fun e w' => ∃ v', e = .returned (.tuple #[v', .int .i64 0]) ∧ w'.ownsRow w.heap.size 34 5 v' l.length (l.flatMap itC) ∧ Below w.heap.size w w' := by
  obtain ⟨W1, hW1⟩ : ∃ W1, W1 = World.alloc w (.cells #[.pointer (some ⟨db, 0, none⟩), .slice none 0 0] 59) := ⟨_, rfl⟩
  have hS1 : Sn w w.heap.size db W1 (.slice none 0 0) [] := by
    rw [hW1]
    exact ⟨(Below.refl _ _).alloc (Nat.le_refl _) _, Blk.new _ _ _, World.ownsRow_nil _ _ _ _⟩
  have hpm := ord_perm h
  have hol : (ord l 5000 []).length = l.length := hpm.length_eq
  have CS : Hid (Calls Tryz.prog 17 #[.pointer (some ⟨w.heap.size, 0, none⟩), .int .i64 1, .string ⟨#[]⟩] W1 fun e w' => e = .returned (.int .i64 0) ∧ ∃ v', Sn w w.heap.size db w' v' ((ord l 5000 []).map (sc l))) := Lib.hid (by
    have := scan_any h h30 hI hD w.heap.size (Nat.le_refl _) 5000 [] (.inl rfl) (by simp) W1 _ [] hS1 (by rw [hol]; simp; omega)
    exact this.mono fun e w' ⟨h1, v', h2, _⟩ => ⟨h1, v', by simpa using h2⟩)
  obtain ⟨n, hn⟩ : ∃ n, n = l.length := ⟨_, rfl⟩
  have HH := Lib.hid h
  have H30 := Lib.hid h30
  have HPM := Lib.hid hpm
  have HOL := Lib.hid hol
  have HN := Lib.hid hn
  have hn0 : 0 < n := by omega
  have hn30 : n ≤ 30 := by omega
  have hmm := @run_makeMap Tryz.prog
  rw [← hn]
  clear h h0 h30 hI hD hS1 hpm hol hn
  go_enter Tryz.func9, Tryz.ntmps9
  go_wp2_with fail
  rw [← hW1]
  clear hW1
  refine CS.out.mono ?_
  rintro e w2 ⟨rfl, v2, hS2⟩
  have HS2 := Lib.hid hS2
  have s1 : w2.cell? ⟨w.heap.size, 1, none⟩ = some v2 := hS2.box.cell 1
  have CO : Hid (Calls Tryz.prog 18 #[v2, .func (.func 19) #[] #[]] w2 fun e w' => e = .returned (.tuple #[]) ∧ w'.ownsRow w.heap.size 34 5 v2 n ((mixL l 0).flatMap itC) ∧ Below w.heap.size w w' ∧ Blk w' w.heap.size 59 #[.pointer (some ⟨db, 0, none⟩), v2]) := Lib.hid (by
    have := sortI_call v2 _ w2 w.heap.size hS2.row (by rw [List.length_map, HOL.out, ← HN.out]; exact hn0) (by rw [List.length_map, HOL.out, ← HN.out]; omega)
    refine this.mono fun e w' ⟨h1, ys, h2, h3, h4, h5, h6⟩ => ⟨h1, ?_, hS2.low.trans h5, ?_⟩
    · have e1 : ys = mixL l 0 := sorted_eq HH.out (h2.trans (HPM.out.map _)) h3
      rw [e1, mix_len, ← HN.out] at h4
      exact h4
    · exact (h6 _ hS2.box.lt (own_ne_blk hS2.row hS2.box (by decide))).trans hS2.box)
  clear hS2
  go_wp2_with fail
  refine CO.out.mono ?_
  rintro e w3 ⟨rfl, hr3, hb3, hx3⟩
  obtain ⟨g, cap, rfl⟩ : ∃ g cap, v2 = .slice (some ⟨g, 0, none⟩) n cap := by
    rcases hr3.2 with ⟨_, h1⟩ | ⟨g, cap, cur, h1, _⟩
    · omega
    · exact ⟨g, cap, h1⟩
  have HR3 := Lib.hid hr3
  have HB3 := Lib.hid hb3
  have HX3 := Lib.hid hx3
  obtain ⟨W4, hW4⟩ : ∃ W4, W4 = World.alloc w3 (.map #[] 0) := ⟨_, rfl⟩
  have hb4 : Below w3.heap.size w3 W4 := by rw [hW4]; exact (Below.refl _ _).alloc (Nat.le_refl _) _
  have HM4 : Hid (MapS W4 w3.heap.size 0 (firstM l 0)) := Lib.hid (by rw [hW4, firstM_zero]; exact MapS.made _)
  have HR4 := Lib.hid (own_below hr3 hb4)
  have HX4 := Lib.hid (hx3.below hb4 hx3.lt)
  have HB4 := Lib.hid (hb3.trans (hb4.mono hb3.size))
  have y1 : W4.cell? ⟨w.heap.size, 1, none⟩ = some (.slice (some ⟨g, 0, none⟩) n cap) := HX4.out.cell 1
  obtain ⟨M, hM⟩ : ∃ M, M = w3.heap.size := ⟨_, rfl⟩
  have HWM : Hid (w.heap.size ≤ M) := Lib.hid (by rw [hM]; exact hb3.size)
  go_upto_region 7 with fail
  rw [← hW4, ← hM]
  rw [← hM] at HM4
  clear hr3 hb3 hx3 hb4 s1 hW4 hM
  go_wp2_with fail
  clear y1
  go_loopw [34] (fun i wr => ∃ k : Nat, k ≤ n ∧ i = .int .i64 k ∧ wr.ownsRow w.heap.size 34 5 (.slice (some ⟨g, 0, none⟩) n cap) n ((mixL l k).flatMap itC) ∧ Blk wr w.heap.size 59 #[.pointer (some ⟨db, 0, none⟩), .slice (some ⟨g, 0, none⟩) n cap] ∧ MapS wr M k (firstM l k) ∧ Below w.heap.size w wr) (fun i _ => n - (intOf i).toNat)
  case atStart => exact ⟨0, Nat.zero_le _, rfl, HR4.out, HX4.out, HM4.out, HB4.out⟩
  case round =>
    obtain ⟨k, hk, rfl, hr, hx, hm, hb⟩ := hrel
    obtain ⟨wo, rfl⟩ : ∃ wo : World, wo = wr := ⟨_, rfl⟩
    have HR := Lib.hid hr
    have HX := Lib.hid hx
    have HM := Lib.hid hm
    have HB := Lib.hid hb
    have y1 : wo.cell? ⟨w.heap.size, 1, none⟩ = some (.slice (some ⟨g, 0, none⟩) n cap) := hx.cell 1
    have hng : w.heap.size ≠ g := fun e => own_ne_blk hr hx (by decide) (by rw [e]; rfl)
    clear hr hx hm hb
    by_cases hlt : k < n
    · obtain ⟨x, hx⟩ : ∃ x, l[k]? = some x := ⟨_, List.getElem?_eq_getElem (by rw [← HN.out]; omega)⟩
      have hi1 := fun W => idx_it n k hlt (k : Int) rfl g cap W
      have hmx := mix_at hx
      have hcl : ∀ c : Nat, c < 5 → wo.cell? ⟨g, k * 5 + c, none⟩ = (itC (sc l x))[c]? := fun c hc => by
        rw [HR.out.cellAt (k * 5 + c) (by omega), flat_get itC 5 itC_len _ k _ hmx c hc]
      have f1 := hcl 1 (by omega)
      have f4 := hcl 4 (by omega)
      simp only [itC, sc, List.getElem?_cons_succ, List.getElem?_cons_zero] at f1 f4
      by_cases hk1 : x.k = 1
      · rw [hk1] at f1 f4
        rw [if_pos rfl] at f4
        have z4 := HR.out.frozenAt (k * 5 + 4)
        have hMg : M ≠ g := fun e => by
          rcases HR.out.2 with ⟨h1, _⟩ | ⟨g', cap', cur, h1, _, h2, _⟩
          · simp at h1
          · simp only [Value.slice.injEq, Option.some.injEq, Addr.mk.injEq, and_true, true_and] at h1
            obtain ⟨rfl, rfl⟩ := h1
            exact mapS_ne_cells HM.out h2 e
        have hMx : M ≠ w.heap.size := mapS_ne_cells HM.out HX.out
        have hnb : noB l x < 100 := by
          have := nid_le l (fstL x)
          rw [noB]; rw [← HN.out] at this; omega
        have hio := itoa_size _ hnb
        obtain ⟨st, hst⟩ : ∃ st, st = itoaS (noB l x) := ⟨_, rfl⟩
        have hnode : nodeS l x = L st := by rw [hst]; rfl
        rw [← hst] at f4 hio
        have hlk := (HM.out.set (p := ⟨g, k * 5 + 4, none⟩) hMg (.string ⟨#[]⟩)).look_ok (T := 52) (e := 3) Tryz.underlying52 (zeroInt _) st hio
        rw [← hnode] at hlk
        obtain ⟨hr5, hg5⟩ := HR.out.stored (k * 5 + 4) (.string ⟨#[]⟩)
        have HB5 := Lib.hid (HB.out.grown hg5 (HB.out.size) (fun q hq => (own_size HR.out (by rw [Option.some.inj hq]; rfl)).2))
        by_cases hs : L x.s = []
        · have hfx : isF x := ⟨hk1, hs⟩
          rw [firstM_none HH.out H30.out hx hfx] at hlk
          have HPUT := Lib.hid (firstM_put HH.out H30.out hx hfx)
          have hsx : sc l x = ⟨x.p, x.k, x.m, x.d, st⟩ := by rw [sc, if_neg (by omega), if_pos hk1, sc_new HH.out hx hs, hst]
          have hxx : (⟨x.p, x.k, x.m, x.d, ⟨#[]⟩⟩ : It) = x := by rw [← nil_eq hs]
          have hfl := flat_set _ k _ x hmx 4 (.string ⟨#[]⟩) (by omega) (by rw [hsx, set4, hxx])
          rw [hfl, mix_step hx] at hr5
          have HR5 := Lib.hid hr5
          have HM5 := Lib.hid (HM.out.set (p := ⟨g, k * 5 + 4, none⟩) hMg (.string ⟨#[]⟩))
          have HX5 := Lib.hid (HX.out.far (p := ⟨g, k * 5 + 4, none⟩) hng (.string ⟨#[]⟩))
          have HND := Lib.hid hnode
          have HIO := Lib.hid hio
          have hwk := wrap_in ((k : Int) + 1) ⟨by omega, by omega⟩
          clear hr5 hg5 hfl hsx hxx hfx hs hx hmx hcl hst hnode hio hnb
          go_wp2_with (at_mapUpdate; go_must (refine wpList_put rfl _ _ _ _ rfl _ Tryz.underlying52 rfl HM5.out (by unfold maxLen; omega) st (.int .i64 ((k : Int) + 1)) rfl rfl HIO.out ?_); intro w7 hm7 hg7; go_frame)
          go_roundw
          case rel =>
            refine ⟨k + 1, by omega, by go_num, HR5.out.kept hg7 (.inr (fun e => hMg (Option.some.inj e).symm)), HX5.out.grown hg7 (fun e => hMx (Option.some.inj e)), ?_, HB5.out.grown hg7 HB5.out.size (fun q hq => ?_)⟩
            · have := HPUT.out
              rw [HND.out] at this
              rw [← this]
              exact hm7
            · simp only [Option.some.injEq] at hq
              rw [← hq]
              exact HWM.out
          case measure => simp [intOf]; omega
        · obtain ⟨j, o, hj, ho, hop, hfm⟩ := firstM_link HH.out H30.out hx hs
          rw [hfm] at hlk
          have hjn : j < n := by omega
          have hi2 := fun W => idx_it n j hjn (j : Int) rfl g cap W
          have hwj : IntKind.i64.wrap ((j : Int) + 1 - 1) = (j : Int) := by rw [show (j : Int) + 1 - 1 = (j : Int) by omega]; exact wrap_in _ ⟨by omega, by omega⟩
          have p0 : (World.setCell wo ⟨g, k * 5 + 4, none⟩ (.string ⟨#[]⟩)).cell? ⟨g, j * 5, none⟩ = some (.string x.s) := by
            rw [World.cell?_setCell_other _ _ _ _ (fun e => by injection e with _ e _; omega)]
            have := HR.out.cellAt (j * 5 + 0) (by omega)
            rw [Nat.add_zero] at this
            have e0 := flat_get itC 5 itC_len _ j _ (mix_old hj ho) 0 (by omega)
            rw [Nat.add_zero] at e0
            rw [this, e0, ← hop]; rfl
          have y2 : (World.setCell wo ⟨g, k * 5 + 4, none⟩ (.string ⟨#[]⟩)).cell? ⟨w.heap.size, 1, none⟩ = some (.slice (some ⟨g, 0, none⟩) n cap) := by
            rw [World.cell?_setCell_other _ _ _ _ (fun e => by injection e with e _ _; exact hng e.symm)]
            exact y1
          have z5 := hr5.frozenAt (k * 5 + 4)
          have q4 : (World.setCell wo ⟨g, k * 5 + 4, none⟩ (.string ⟨#[]⟩)).cell? ⟨g, k * 5 + 4, none⟩ = some (.string ⟨#[]⟩) := by
            rw [hr5.cellAt (k * 5 + 4) (by omega), List.getElem?_set_self (by rw [flat_len itC 5 itC_len, mix_len, ← HN.out]; omega)]
          obtain ⟨hr6, hg6⟩ := hr5.stored (k * 5 + 4) (.string x.s)
          have z6 := hr6.frozenAt (k * 5 + 3)
          have q3 : ((World.setCell wo ⟨g, k * 5 + 4, none⟩ (.string ⟨#[]⟩)).setCell ⟨g, k * 5 + 4, none⟩ (.string x.s)).cell? ⟨g, k * 5 + 3, none⟩ = some (.string (dat l x)) := by
            rw [World.cell?_setCell_other _ _ _ _ (fun e => by injection e with _ e _; omega), World.cell?_setCell_other _ _ _ _ (fun e => by injection e with _ e _; omega), hcl 3 (by omega)]
            simp [itC, sc, hk1]
          obtain ⟨hr7, hg7⟩ := hr6.stored (k * 5 + 3) (.string ⟨#[]⟩)
          have hsx : sc l x = ⟨x.p, x.k, x.m, dat l x, st⟩ := by rw [sc, if_neg (by omega), if_pos hk1, hst]
          have hxx : (⟨x.p, x.k, x.m, ⟨#[]⟩, x.s⟩ : It) = x := by rw [← link_data HH.out hx hs]
          have f1x := flat_set _ k _ ⟨x.p, x.k, x.m, dat l x, ⟨#[]⟩⟩ hmx 4 (.string ⟨#[]⟩) (by omega) (by rw [hsx]; rfl)
          have hks : k < (mixL l k).length := by rw [mix_len, ← HN.out]; exact hlt
          have f2x := flat_set _ k _ ⟨x.p, x.k, x.m, dat l x, x.s⟩ (List.getElem?_set_self (l := mixL l k) (a := ⟨x.p, x.k, x.m, dat l x, ⟨#[]⟩⟩) hks) 4 (.string x.s) (by omega) rfl
          rw [List.set_set] at f2x
          have f3x := flat_set _ k _ x (List.getElem?_set_self (l := mixL l k) (a := ⟨x.p, x.k, x.m, dat l x, x.s⟩) hks) 3 (.string ⟨#[]⟩) (by omega) (by rw [show (itC ⟨x.p, x.k, x.m, dat l x, x.s⟩).set 3 (.string ⟨#[]⟩) = itC ⟨x.p, x.k, x.m, ⟨#[]⟩, x.s⟩ from rfl, hxx])
          rw [List.set_set, mix_step hx] at f3x
          rw [f1x, f2x, f3x] at hr7
          have hB7 := (HB5.out.grown hg6 HB5.out.size (fun q hq => (own_size HR.out (by rw [Option.some.inj hq]; rfl)).2))
          have HB7 := Lib.hid (hB7.grown hg7 hB7.size (fun q hq => (own_size HR.out (by rw [Option.some.inj hq]; rfl)).2))
          have HR7 := Lib.hid hr7
          have HM7 := Lib.hid (((HM.out.set (p := ⟨g, k * 5 + 4, none⟩) hMg (.string ⟨#[]⟩)).set (p := ⟨g, k * 5 + 4, none⟩) hMg (.string x.s)).set (p := ⟨g, k * 5 + 3, none⟩) hMg (.string ⟨#[]⟩))
          have HX7 := Lib.hid (((HX.out.far (p := ⟨g, k * 5 + 4, none⟩) hng (.string ⟨#[]⟩)).far (p := ⟨g, k * 5 + 4, none⟩) hng (.string x.s)).far (p := ⟨g, k * 5 + 3, none⟩) hng (.string ⟨#[]⟩))
          have HSK := Lib.hid (firstM_skip hx (fun h => hs h.2))
          clear hr5 hg5 hr6 hg6 hr7 hg7 hB7 f1x f2x f3x hsx hxx hks hs hx hmx hcl hst hnode hio hnb hfm ho hop hj
          go_wp2_with fail
          go_roundw
          case rel => exact ⟨k + 1, by omega, by go_num, HR7.out, HX7.out, by rw [HSK.out]; exact HM7.out.mono (by omega), HB7.out⟩
          case measure => simp [intOf]; omega
      · have hkb : (x.k != 1) = true := by simpa using hk1
        have e1 : sc l x = x := sc_other HH.out hx hk1
        have e2 : mixL l (k + 1) = mixL l k := by rw [← mix_step hx]; exact set_same (by rw [hmx, e1])
        have e3 : firstM l (k + 1) = firstM l k := firstM_skip hx (fun h => hk1 h.1)
        have HE2 := Lib.hid e2
        have HE3 := Lib.hid e3
        clear hmx hcl f4 hk1 e1 e2 e3 hx
        go_wp2_with fail
        go_roundw
        case rel => exact ⟨k + 1, by omega, by go_num, by rw [HE2.out]; exact HR.out, HX.out, by rw [HE3.out]; exact HM.out.mono (by omega), HB.out⟩
        case measure => simp [intOf]; omega
    · obtain rfl : k = n := by omega
      have hz := HR.out
      rw [show mixL l k = l by rw [HN.out]; exact mix_all l] at hz
      have HZ := Lib.hid hz
      clear hz
      go_wp2_with fail
      go_ret2
      exact ⟨_, rfl, HZ.out, HB.out⟩
end
end Go.Proofs.YtmlgmedapbeleaaGreatDoor
/-
  The walk of the statement TreeScans.
-/
namespace Go.Proofs.YtmlgmedapbeleaaGreatDoor
open Go.RowKit

theorem chk_ne {l : List It} {i : Nat} (h : Chk l 0 i) : l ≠ [] := by
  rcases h with ⟨_, h, _⟩ | ⟨h, _⟩ | ⟨_, _, _, h⟩
  · exact absurd h (by decide)
  · exact h
  · exact absurd rfl h

section
variable {w : World} {B db mb : Nat} {ns : List Nd} {ps : List Pl} {used : Int} {l : List It}
set_option maxRecDepth 100000 in
theorem Scan_none (hD : Dk w B db mb ns ps used) (hl : ps.length < 99) :
    Calls Tryz.prog 9 #[.pointer (some ⟨db, 0, none⟩), .int .i64 99] w fun e w' => e = .returned (.tuple #[.slice none 0 0, .int .i64 12]) ∧ Below w.heap.size w w' := by
  have CS : Hid (∀ W sg, Below w.heap.size w W → Blk W sg 59 #[.pointer (some ⟨db, 0, none⟩), .slice none 0 0] → Calls Tryz.prog 17 #[.pointer (some ⟨sg, 0, none⟩), .int .i64 99, .string ⟨#[]⟩] W fun e w' => e = .returned (.int .i64 12) ∧ Below W.heap.size W w') := Lib.hid fun W sg hW hb => by
    have CL := Lib.hid (list_none (hD.below hW) (t := 99) (by omega) ⟨by decide, by decide⟩)
    have c0 : W.cell? ⟨sg, 0, none⟩ = some (.pointer (some ⟨db, 0, none⟩)) := hb.cell 0
    clear hb hW hD
    go_enter Tryz.func17, Tryz.ntmps17
    go_wp2_with fail
    refine CL.out.mono ?_
    rintro e w1 ⟨rfl, hb1⟩
    go_wp2_with fail
    go_ret
    exact ⟨rfl, hb1⟩
  obtain ⟨W1, hW1⟩ : ∃ W1, W1 = World.alloc w (.cells #[.pointer (some ⟨db, 0, none⟩), .slice none 0 0] 59) := ⟨_, rfl⟩
  have hb1 : Below w.heap.size w W1 := by rw [hW1]; exact (Below.refl _ _).alloc (Nat.le_refl _) _
  have hx1 : Blk W1 w.heap.size 59 #[.pointer (some ⟨db, 0, none⟩), .slice none 0 0] := by rw [hW1]; exact Blk.new _ _ _
  have C1 := Lib.hid (CS.out W1 _ hb1 hx1)
  have HB1 := Lib.hid hb1
  clear hb1 hx1 hD CS
  go_enter Tryz.func9, Tryz.ntmps9
  go_wp2_with fail
  rw [← hW1]
  clear hW1
  refine C1.out.mono ?_
  rintro e w2 ⟨rfl, hb2⟩
  go_wp2_with fail
  go_ret2
  exact ⟨rfl, HB1.out.trans (hb2.mono HB1.out.size)⟩
end

set_option maxHeartbeats 2000000 in
set_option maxRecDepth 100000 in
theorem scans_any (l : List It) (v : Value) (w : World) (hv : Held w) (hl : Tr w w.heap.size v l) (hz : ∀ x ∈ l, x.p.size ≤ 140737488355327 ∧ x.d.size ≤ 140737488355327 ∧ x.s.size ≤ 140737488355327) :
    Calls Tryz.prog 3 #[v] w fun e w' => e = .returned (.bool true) ∧ Below w.heap.size w w' := by
  obtain ⟨a, cap, rfl, hm⟩ := tr_shape hl
  have HL := Lib.hid hl
  have C0 := Lib.hid (anchor_any w hv)
  have CS : Hid (∀ W, Below w.heap.size w W → Calls Tryz.prog 5 #[.slice a l.length cap] W fun e w' => e = .returned (.bool (shortB l)) ∧ Below W.heap.size W w') := Lib.hid fun W hW => shortL_any l _ W ((hl.below hW).mono hW.size) hz
  clear hl hv hz
  cases hsh : shortB l with
  | false =>
    rw [hsh] at CS
    clear hsh
    go_enter Tryz.func3, Tryz.ntmps3
    go_wp2_with fail
    refine C0.out.mono ?_
    rintro e w1 ⟨rfl, hb1⟩
    have HB1 := Lib.hid hb1
    clear hb1
    go_wp2_with fail
    refine (CS.out _ HB1.out).mono ?_
    rintro e w2 ⟨rfl, hb2⟩
    have HB2 : Hid (Below w.heap.size w w2) := Lib.hid (HB1.out.trans (hb2.mono HB1.out.size))
    clear hb2
    go_wp2
    go_ret
    exact ⟨rfl, HB2.out⟩
  | true =>
    rw [hsh] at CS
    have hsh2 := hsh
    rw [shortB, Bool.and_eq_true, decide_eq_true_eq, decide_eq_true_eq] at hsh2
    obtain ⟨h20, h30⟩ := hsh2
    clear hsh
    have HZ : Hid (∀ x ∈ l, x.p.size ≤ 20000 ∧ x.d.size ≤ 20000 ∧ x.s.size ≤ 20000) := Lib.hid fun x hx => by
      have h1 := wt_le hx
      have h2 : wt x = x.p.size + x.d.size + x.s.size := rfl
      omega
    have HTR : Hid (∀ W, Below w.heap.size w W → Tr W W.heap.size (.slice a l.length cap) l) := Lib.hid fun W hW => (HL.out.below hW).mono hW.size
    have H20 := Lib.hid h20
    have H30 := Lib.hid h30
    obtain ⟨n, hn⟩ : ∃ n, n = l.length := ⟨_, rfl⟩
    have HN := Lib.hid hn
    have hn30 : n ≤ 30 := by omega
    have CR : Hid (∀ W, Below w.heap.size w W → Calls Tryz.prog 6 #[.slice a n cap] W fun e w' => ∃ (r : Int) (i : Nat), Chk l r i ∧ e = .returned (.bool (r == 0)) ∧ Below W.heap.size W w') := Lib.hid fun W hW => by rw [hn]; exact rightL_any l _ W (HTR.out W hW) h30 HZ.out
    have CN : Hid (∀ W, Calls Tryz.prog 7 #[.int .i64 1048576] W fun e w' => ∃ db mb p, e = .returned (.tuple #[.pointer (some ⟨db, 0, none⟩), .int .i64 0]) ∧ Dk w' W.heap.size db mb [root0] [p] 0 ∧ Below W.heap.size W w') := Lib.hid fun W => new_any W
    have HLN : Hid (∀ W, Below w.heap.size w W → Tr W w.heap.size (.slice a n cap) l) := Lib.hid fun W hW => by rw [hn]; exact HL.out.below hW
    rw [← hn] at hm CS
    rw [← hn]
    clear hn h30 h20
    go_enter Tryz.func3, Tryz.ntmps3
    go_wp2_with fail
    refine C0.out.mono ?_
    rintro e w1 ⟨rfl, hb1⟩
    have HB1 := Lib.hid hb1
    clear hb1
    go_wp2_with fail
    refine (CS.out _ HB1.out).mono ?_
    rintro e w2 ⟨rfl, hb2⟩
    have HB2 : Hid (Below w.heap.size w w2) := Lib.hid (HB1.out.trans (hb2.mono HB1.out.size))
    clear hb2
    go_wp2_with fail
    refine (CR.out _ HB2.out).mono ?_
    rintro e w3 ⟨r, i, hck, rfl, hb3⟩
    have HB3 : Hid (Below w.heap.size w w3) := Lib.hid (HB2.out.trans (hb3.mono HB2.out.size))
    clear hb3
    by_cases hr0 : r = 0
    · have HOK := Lib.hid (chk_ok hck hr0)
      subst hr0
      have HNE : Hid (0 < l.length) := Lib.hid (List.length_pos_iff.2 (chk_ne hck))
      clear hck
      go_wp2_with fail
      refine (CN.out _).mono ?_
      rintro e w4 ⟨db, mb, p0, rfl, hD4, hb4⟩
      have HB4 : Hid (Below w.heap.size w w4) := Lib.hid (HB3.out.trans (hb4.mono HB3.out.size))
      have CP := Lib.hid (put_any (B := w3.heap.size) HOK.out H20.out H30.out ((HLN.out _ HB4.out).mono HB3.out.size) hD4 hb4.size)
      rw [← HN.out] at CP
      have HS4 := Lib.hid hb4.size
      clear hD4 hb4
      go_wp2_with fail
      refine CP.out.mono ?_
      rintro e w5 ⟨rfl, ⟨ns, ps, used, hD5, hI5⟩, hb5⟩
      have HB5 : Hid (Below w.heap.size w w5) := Lib.hid (HB4.out.trans (hb5.mono HB3.out.size))
      have CSc := Lib.hid (Scan_any HOK.out HNE.out H30.out (by rw [← HN.out]; exact hI5) hD5)
      have HD5 := Lib.hid hD5
      have HPL : Hid (ps.length < 99) := Lib.hid (by
        rw [hD5.len, hI5.len]
        have := fs_len (l := l) n
        omega)
      rw [← HN.out] at CSc
      clear hD5 hI5 hb5
      go_wp2_with fail
      refine CSc.out.mono ?_
      rintro e w6 ⟨v6, rfl, hr6, hb6⟩
      obtain ⟨ga, gc, rfl⟩ := own_shape hr6
      have HR6 := Lib.hid hr6
      have HB6 : Hid (Below w.heap.size w w6) := Lib.hid (HB5.out.trans (hb6.mono HB5.out.size))
      have HD6 := Lib.hid (HD5.out.below hb6)
      clear hr6 hb6
      go_wp2_with fail
      go_loopw [52] (fun i wr => ∃ k : Nat, k ≤ n ∧ i = .int .i64 k ∧ Below w6.heap.size w6 wr) (fun i _ => n - (intOf i).toNat)
      case atStart => exact ⟨0, Nat.zero_le _, rfl, Below.refl _ _⟩
      case round =>
        obtain ⟨k, hk, rfl, hb⟩ := hrel
        obtain ⟨wo, rfl⟩ : ∃ wo : World, wo = wr := ⟨_, rfl⟩
        have HBO : Hid (Below w.heap.size w wo) := Lib.hid (HB6.out.trans (hb.mono HB6.out.size))
        by_cases hlt : k < n
        · obtain ⟨x, hx⟩ : ∃ x, l[k]? = some x := ⟨_, List.getElem?_eq_getElem (by rw [← HN.out]; exact hlt)⟩
          have hg : Tr wo wo.heap.size (.slice ga n gc) l := by
            have := Sl.of_own (own_below HR6.out hb)
            show Sl _ _ 5 _ l.length _
            rw [← HN.out]
            exact this
          obtain ⟨b1, o1, i1, hb1, c1⟩ := it_at (HLN.out _ HBO.out) 23 34 Tryz.underlying23 (by kernel_rfl) hx (k : Int) rfl
          obtain ⟨b2, o2, i2, hb2, d1⟩ := it_at hg 23 34 Tryz.underlying23 (by kernel_rfl) hx (k : Int) rfl
          obtain ⟨c2, c3, c4, c5, c6⟩ := c1
          obtain ⟨d2, d3, d4, d5, d6⟩ := d1
          obtain ⟨xp, xk, xm, xd, xs⟩ := x
          simp only [] at c2 c3 c4 c5 c6 d2 d3 d4 d5 d6
          have hb1' : b1 < wo.heap.size := by have := HBO.out.size; omega
          have HBW := Lib.hid hb
          clear hx hg hb
          go_wp2_with fail
          go_quiet (fail)
          go_wp2_with fail
          go_roundw
          case rel => exact ⟨k + 1, by omega, by go_num, below_drewN HBW.out _⟩
          case measure => simp [intOf]; omega
        · have CNo := Lib.hid (Scan_none (HD6.out.below hb) HPL.out)
          clear hb
          go_wp2_with fail
          refine CNo.out.mono ?_
          rintro e w8 ⟨rfl, hb8⟩
          go_wp2_with fail
          go_ret
          exact ⟨rfl, HBO.out.trans (hb8.mono HBO.out.size)⟩
    · have hrb : (r == 0) = false := by simpa using hr0
      clear hck hr0
      go_wp2_with fail
      go_ret
      exact ⟨rfl, HB3.out⟩
end Go.Proofs.YtmlgmedapbeleaaGreatDoor
/-
  The wrap for a row that lists variables, the world's shape kept; strings.Split's cell out of the shape.
-/
namespace Go.Proofs.YtmlgmedapbeleaaGreatDoor
open Go.ChangeShapes Go.WideShapes Go.ChangeAt Go.RowKit

theorem held_of_shape {W : World} (h : W.ShapedOpen Tryz.prog) : Held W := by
  obtain ⟨c, hc⟩ := Go.Proofs.cell_of_shapedOpen_int (g := 0) (zero := #[.int .i64 0]) (t := 3) h (of_decide_eq_true (by kernel_rfl)) (by kernel_rfl) rfl (by kernel_rfl) (by kernel_rfl) Tryz.underlying3
  exact ⟨⟨c, hc⟩, Nat.lt_of_le_of_lt (Nat.zero_le _) (World.block_lt_of_cell? W _ hc)⟩

theorem returns_laid {H : Type} {enc : TypeId × Value → H} {a : Assume} {C : Checked} {os : Os} {f : FuncId} {fn : Func} {s : ChangeSpec} {conds : List PathCond} {apart fresh handsOn again : Bool} {X : World → Array Value → Prop}
    (hX : ∀ (w w' : World) (args : Array Value), w.heap = w'.heap → X w args → X w' args)
    (own : ownKnob C.prog.godebug = none) (started : os.Started) (noInit : C.prog.inits.idxOf? f = none) (hfn : C.prog.funcs[f]? = some fn)
    (witness : ∃ (w : World) (tape : Tape) (i : Input), w.os = os ∧ (w.forCall tape i).Shaped C.prog ∧ i.vars = [] ∧ Input.okWide C.prog (w.forCall tape i) .any w.heap.size f i ∧
      ((s.pre enc C.prog fn conds apart (w.forCall tape i).memory i.args ∧ X (w.forCall tape i).memory i.args) ∧ sizedMet enc C.prog fn (OpenSpec.ofChange s) apart (w.forCall tape i).memory i.args) ∧ a.holds C.prog (lone (Frame.enter C.prog f i.args .normal) [] (w.forCall tape i)))
    (contract : ∀ (W : World) (base : Nat) (args : Array Value) (ds gs : List (DataW H)) (before : List MemPlace),
      (∀ (j : Nat) t v, fn.params[j]? = some t → args[j]? = some v → Value.okWide C.prog W .any base t v) →
      DataW.Whole enc C.prog fn.params.toList s.vars apart W args.toList ds gs before →
      (DataW.weightsEach C.prog (fn.params.toList ++ s.plain.varTypes C.prog) (ds ++ gs)).all (· ≤ reachBytes) = true → X W args → W.ShapedOpen C.prog →
      Calls C.prog f args W fun e W' => ∃ v, e = .returned v ∧ s.post enc C.prog fn apart fresh handsOn again W args v W') :
    ReturnsInHanded a C os f .any (fun w args => (s.pre enc C.prog fn conds apart w args ∧ X w args) ∧ sizedMet enc C.prog fn (OpenSpec.ofChange s) apart w args) (s.post enc C.prog fn apart fresh handsOn again) := by
  refine returnsInHanded_of_calls own started noInit witness ?_
  intro w tape i _ hsh _ hok hpre _
  obtain ⟨_, _, _, fn', hfn', _, _, _, _, hval⟩ := hok
  obtain rfl : fn' = fn := Option.some.inj (hfn'.symm.trans hfn)
  obtain ⟨⟨⟨ds, gs, before, hw, _⟩, hx⟩, hz⟩ := hpre
  have hw' := DataW.Whole.of_heap (w' := w.forCall tape i) (by rfl) hw
  refine (contract (w.forCall tape i) w.heap.size i.args ds gs before hval hw' (hz.weights hw) (hX _ _ _ (by rfl) hx) hsh).mono fun e W' ⟨v, he, hp⟩ => ?_
  subst he
  exact ChangeSpec.post_blind hp
end Go.Proofs.YtmlgmedapbeleaaGreatDoor
namespace Go.Proofs.YtmlgmedapbeleaaGreatDoor
open Go.ChangeShapes Go.WideShapes Go.ChangeAt Go.RowKit

set_option maxRecDepth 100000 in
theorem treeScans_lifted (os : Os) (started : os.Started) (H : Type) (enc : TypeId × Value → H) :
    ReturnsInHanded {} Tryz.checked os 3 .any (fun w args => (Rows.treeScansSpec.pre enc Tryz.prog Tryz.f3 Rows.treeScansRow.domain false w args ∧ laidMetH Tryz.prog Rows.treeScansRow.laid w) ∧ sizedMet enc Tryz.prog Tryz.f3 (OpenSpec.ofChange Rows.treeScansSpec) false w args)
      (Rows.treeScansSpec.post enc Tryz.prog Tryz.f3 false true false false) := by
  refine returns_laid (C := Tryz.checked) (X := fun w _ => laidMetH Tryz.prog Rows.treeScansRow.laid w) (fun _ _ _ hh h => h.of_heap hh) Tryz.own started (by kernel_rfl) Tryz.func3
    (ChangeSpec.witness_shaped (enc := enc) (C := Tryz.checked) (os := os) (X := fun w _ => laidMetH Tryz.prog Rows.treeScansRow.laid w) false (World.laidAll Tryz.prog os Rows.treeScansRow.laid) #[.slice none 0 0] 8 (World.laidAll_os _ _ _)
      (World.shaped_of_ZipB (by kernel_rfl) (by kernel_rfl)) (by kernel_rfl) (by kernel_rfl) (by kernel_rfl)
      (by rw [MakeChecks.laidMetH_plain _ _ _ (by kernel_rfl)]; exact laidMet_laidAll _ (by kernel_rfl) (by kernel_rfl))) ?_
  intro W base args ds gs before hval0 hW hz0 _ hsh
  have hval : ∀ (j : Nat) t v, Tryz.f3.params[j]? = some t → args[j]? = some v → Value.okWide Tryz.prog W .any base t v := hval0
  have hW' := hW
  obtain ⟨p, q, hA0, hV, rfl, _, _⟩ := hW
  have hA : DataW.TrodAll enc Tryz.prog W 0 (fun _ => true) true Tryz.f3.params.toList args.toList ds p := hA0
  have hAk := hA
  obtain ⟨rfl, rfl⟩ := trodVars_none hV
  simp only [List.append_nil] at hW'
  have hlt : ∀ x ∈ p, x.block < W.heap.size := fun x hx => by simpa using hW'.lt x hx
  rw [Tryz.params3] at hA hval
  obtain ⟨v0, vs0, d0, ds0, p0, q0, hargs, rfl, rfl, h0, r0⟩ := trodAll_cons hA
  obtain ⟨rfl, rfl, rfl⟩ := trodAll_nil r0
  obtain rfl : args = #[v0] := by cases args; simp_all
  have hz : (DataW.weightsEach Tryz.prog (Tryz.f3.params.toList ++ Rows.treeScansSpec.plain.varTypes Tryz.prog) (_ ++ _)).all (· ≤ reachBytes) = true := hz0
  rw [Tryz.params3] at hz
  obtain ⟨its0, hsl0, z0⟩ := open_its (hval 0 23 v0 rfl rfl) h0 (fun x hx => hlt x (by simp [hx])) (fun n hn => by simpa using List.all_eq_true.1 hz _ (DataW.weights_mem_each (j := 0) rfl rfl n hn))
  clear hA0 hval0
  refine (scans_any its0 v0 W (held_of_shape hsh) hsl0 z0).mono fun e W' ⟨he, hb⟩ => ?_
  subst he
  exact ⟨_, rfl, law_post rfl rfl rfl (by kernel_rfl) hW' hAk hb⟩

theorem treeScans_row : Rows.TreeScansSaid :=
  OpenClaim.holds_of_wide 3 Tryz.f3 rfl rfl rfl rfl rfl rfl rfl ⟨rfl, rfl, rfl, rfl, rfl⟩ rfl rfl rfl rfl rfl (by kernel_rfl) Tryz.func3 (by kernel_rfl)
    (of_decide_eq_true (by kernel_rfl)) (by unfold Func.isWrapper; first | (rw [if_pos (by decide +kernel)]; kernel_rfl) | (rw [if_neg (by decide +kernel)]; exact ⟨rfl, rfl⟩))
    (fun os started H enc _ => treeScans_lifted os started H enc)

theorem treeScans_holds : Rows.TreeScansCardSaid :=
  Claim7.holds_tied_plain_at .later [] [.data, .data, .data, .data, .pinned] true (true, "c04a4edd45b8c0b5f6bac64c6c53d3594a06e7368df57f380f536eac7325d907") false treeScans_row (fun _ h => by cases h) (by kernel_rfl) (fun _ h => by cases h) treeScans_row_tie rfl ⟨rfl, rfl⟩ (by kernel_rfl) rfl
    (fun f fn hf hfn => by
      obtain rfl : f = 3 := Option.some.inj ((show Tryz.prog.funcNamed "seabag/seabaglaw25.TreeScans" = some 3 by kernel_rfl).symm.trans hf) |>.symm
      obtain rfl : fn = Tryz.f3 := (Option.some.inj (Tryz.func3.symm.trans hfn)).symm
      exact ⟨by kernel_rfl, fun j t ht => by
        rw [Tryz.params3] at ht
        have hm : t ∈ [23] := by simpa using Array.mem_of_getElem? ht
        have hall : ([23].all fun u => !Tryz.prog.wantsStandIn u) = true := by kernel_rfl
        exact (show Tryz.prog.wantsStandIn t = false by simpa using List.all_eq_true.1 hall t hm)⟩)
    (by kernel_rfl)

#print axioms treeScans_holds
end Go.Proofs.YtmlgmedapbeleaaGreatDoor
