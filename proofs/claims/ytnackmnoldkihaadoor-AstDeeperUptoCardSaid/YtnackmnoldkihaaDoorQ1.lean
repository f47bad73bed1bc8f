/-
  AstDeeper returns true for every list of commands and every depth, where the input is of bulk at most 1048576: what may be with some levels may be with more, and so may each part of the list. The card ties the listed variables to the program's text.
-/
import Derived.Test.YtnackmnoldkihaaDoorQB3
import Derived.Test.YtnackmnoldkihaaDoorQB4
import Derived.Test.YtnackmnoldkihaaDoorQB5
import Derived.Test.YtnackmnoldkihaaDoorQB6
import Derived.Deep.RegionHeld3
import Derived.Test.YtnackmnoldkihaaDoorQB10
import Derived.Test.YtnackmnoldkihaaDoorQB1
import Derived.ProofKit
import Derived.SizedLaws
import Derived.Deep.Slices
import Derived.Deep.Fields
import Derived.HandedShaped
import Derived.Shelf.Vars
import Derived.OpenShut
import Derived.LaidMore
import Derived.Lay
import Derived.SevenTiedAt
import Derived.Stop.Joined
import Derived.Deep.DeepHandedRow
import Derived.Test.YtnackmnoldkihaaDoorCards
import Derived.Test.YtnackmnoldkihaaDoorTie
/-
  v[i:j] of a slice that came in.
-/
namespace Go.Proofs.YtnackmnoldkihaaDoor
open Go.RowKit

theorem Sl.mid {P : Program} {w : World} {B size n : Nat} {v : Value} {xs : List Value} (h : Sl w B size v n xs) (T E : Nat) (hT : P.underlying T = some (.slice E)) (hs : (P.info? E).map (·.size) = some size) {i j : Nat} (hij : i ≤ j) (hj : j ≤ n) :
    ∃ v', (∀ (w' : World), (Instr.slice T v (some (.int .i64 (i : Int))) (some (.int .i64 (j : Int))) none).run P w' = .ok v' w') ∧ Sl w B size v' (j - i) ((xs.drop (i * size)).take ((j - i) * size)) := by
  obtain ⟨h1, a, cap, rfl, h3, h4, h5⟩ := h
  have he : P.elem T = E := by simp [Program.elem, hT]
  obtain ⟨z, hz, hz1⟩ := Option.map_eq_some_iff.1 hs
  refine ⟨sliced a i j cap size, fun w' => ?_, ?_⟩
  · rw [run_slice_lh w' T a n cap (by rw [he]; exact hT) .i64 .i64 i j (by omega) (by omega) (by omega), he]
    simp [sizeOf, typeInfo, hz, hz1, Result.andThen]
  · have hks : j * size ≤ n * size := Nat.mul_le_mul_right _ hj
    have hki : i * size ≤ j * size := Nat.mul_le_mul_right _ hij
    refine ⟨by rw [List.length_take, List.length_drop, h1, Nat.sub_mul]; omega, _, _, rfl, by omega, by omega, ?_⟩
    rcases h5 with h5 | ⟨b, off, rfl, hB, hc⟩
    · exact .inl (by omega)
    · by_cases e : i = j
      · exact .inl (by omega)
      · refine .inr ⟨b, off + i * size, ?_, hB, fun k hk => ?_⟩
        · rw [if_neg (by omega), Option.map_some, addr_add]
        · rw [Nat.add_assoc, hc (i * size + k) (by rw [Nat.sub_mul] at hk; omega), List.getElem?_take_of_lt hk, List.getElem?_drop]
theorem flatten_len {size : Nat} : ∀ (cs : List (List Value)), (∀ c ∈ cs, c.length = size) → cs.flatten.length = cs.length * size
  | [], _ => by simp
  | c :: cs, h => by rw [List.flatten_cons, List.length_append, h c (by simp), flatten_len cs fun c hc => h c (by simp [hc]), List.length_cons, Nat.succ_mul]; omega
theorem flatten_drop {size : Nat} : ∀ (cs : List (List Value)) (k : Nat), (∀ c ∈ cs, c.length = size) → cs.flatten.drop (k * size) = (cs.drop k).flatten
  | cs, 0, _ => by simp
  | [], k + 1, _ => by simp
  | c :: cs, k + 1, h => by
    rw [List.flatten_cons, List.drop_append, h c (by simp), List.drop_of_length_le (by rw [h c (by simp), Nat.succ_mul]; omega), List.nil_append, show (k + 1) * size - size = k * size by rw [Nat.succ_mul]; omega, List.drop_succ_cons]
    exact flatten_drop cs k fun c hc => h c (by simp [hc])
theorem flatten_take {size : Nat} : ∀ (cs : List (List Value)) (k : Nat), (∀ c ∈ cs, c.length = size) → cs.flatten.take (k * size) = (cs.take k).flatten
  | cs, 0, _ => by simp
  | [], k + 1, _ => by simp
  | c :: cs, k + 1, h => by
    rw [List.flatten_cons, List.take_append, h c (by simp), List.take_of_length_le (by rw [h c (by simp), Nat.succ_mul]; omega), show (k + 1) * size - size = k * size by rw [Nat.succ_mul]; omega, List.take_succ_cons, List.flatten_cons, flatten_take cs k fun c hc => h c (by simp [hc])]
theorem SlOf.mid {α : Type} {w : World} {B size : Nat} {F : α → List Value → Prop} {l : List α} {v : Value} (h : SlOf w B size F l v) (T E : Nat) (hT : Tryd.prog.underlying T = some (.slice E)) (hs : (Tryd.prog.info? E).map (·.size) = some size) {i j : Nat} (hij : i ≤ j) (hj : j ≤ l.length) :
    ∃ v', (∀ (w' : World), (Instr.slice T v (some (.int .i64 (i : Int))) (some (.int .i64 (j : Int))) none).run Tryd.prog w' = .ok v' w') ∧ SlOf w B size F ((l.drop i).take (j - i)) v' := by
  obtain ⟨h0, cs, h1, h2, h3, h4⟩ := h
  obtain ⟨v', hr, hv⟩ := h3.mid T E hT hs hij hj
  have hlen : ((l.drop i).take (j - i)).length = j - i := by rw [List.length_take, List.length_drop]; omega
  refine ⟨v', hr, by omega, (cs.drop i).take (j - i), ?_, fun c hc => h2 c (List.mem_of_mem_drop (List.mem_of_mem_take hc)), ?_, fun k x c hx hc => ?_⟩
  · rw [List.length_take, List.length_drop, hlen, h1]; omega
  · rw [hlen]
    rw [flatten_drop cs i h2, flatten_take (cs.drop i) (j - i) fun c hc => h2 c (List.mem_of_mem_drop hc)] at hv
    exact hv
  · have hk : k < j - i := by have := (List.getElem?_eq_some_iff.1 hx).1; omega
    rw [List.getElem?_take_of_lt hk, List.getElem?_drop] at hx hc
    exact h4 _ x c hx hc
theorem Sl.upto {P : Program} {w : World} {B size n : Nat} {v : Value} {xs : List Value} (h : Sl w B size v n xs) (T E : Nat) (hT : P.underlying T = some (.slice E)) (hs : (P.info? E).map (·.size) = some size) {k : Nat} (hk : k ≤ n) :
    ∃ v', (∀ (w' : World), (Instr.slice T v none (some (.int .i64 (k : Int))) none).run P w' = .ok v' w') ∧ Sl w B size v' k (xs.take (k * size)) := by
  obtain ⟨h1, a, cap, rfl, h3, h4, h5⟩ := h
  have he : P.elem T = E := by simp [Program.elem, hT]
  obtain ⟨i, hi, hi1⟩ := Option.map_eq_some_iff.1 hs
  refine ⟨sliced a 0 k cap size, fun w' => ?_, ?_⟩
  · rw [run_slice_h w' T a n cap (by rw [he]; exact hT) .i64 k (by omega) (by omega), he]
    simp [sizeOf, typeInfo, hi, hi1, Result.andThen]
  · have hks : k * size ≤ n * size := Nat.mul_le_mul_right _ hk
    refine ⟨by rw [List.length_take, h1]; omega, _, _, by rw [sliced, Nat.sub_zero, Nat.sub_zero], by omega, by omega, ?_⟩
    rcases h5 with h5 | ⟨b, off, rfl, hB, hc⟩
    · exact .inl (by omega)
    · refine .inr ⟨b, off, ?_, hB, fun j hj => ?_⟩
      · split
        · rfl
        · rw [Option.map_some, addr_add, Nat.zero_mul, Nat.add_zero]
      · rw [hc j (by omega), List.getElem?_take_of_lt hj]
theorem SlOf.to {α : Type} {w : World} {B size : Nat} {F : α → List Value → Prop} {l : List α} {v : Value} (h : SlOf w B size F l v) (T E : Nat) (hT : Tryd.prog.underlying T = some (.slice E)) (hs : (Tryd.prog.info? E).map (·.size) = some size) {j : Nat} (hj : j ≤ l.length) :
    ∃ v', (∀ (w' : World), (Instr.slice T v none (some (.int .i64 (j : Int))) none).run Tryd.prog w' = .ok v' w') ∧ SlOf w B size F (l.take j) v' := by
  obtain ⟨h0, cs, h1, h2, h3, h4⟩ := h
  obtain ⟨v', hr, hv⟩ := h3.upto T E hT hs hj
  have hlen : (l.take j).length = j := by rw [List.length_take]; omega
  refine ⟨v', hr, by omega, cs.take j, ?_, fun c hc => h2 c (List.mem_of_mem_take hc), ?_, fun k x c hx hc => ?_⟩
  · rw [List.length_take, hlen, h1]; omega
  · rw [hlen]
    rw [flatten_take cs j h2] at hv
    exact hv
  · have hk : k < j := by have := (List.getElem?_eq_some_iff.1 hx).1; omega
    rw [List.getElem?_take_of_lt hk] at hx hc
    exact h4 _ x c hx hc
theorem NdsIn.to {w : World} {B d : Nat} {l : List Nd} {v : Value} (h : NdsIn w B d l v) {j : Nat} (hj : j ≤ l.length) :
    ∃ v', (∀ (w' : World), (Instr.slice 22 v none (some (.int .i64 (j : Int))) none).run Tryd.prog w' = .ok v' w') ∧ NdsIn w B d (l.take j) v' := by
  cases d with
  | zero =>
    rw [NdsIn] at h
    obtain ⟨v', h1, h2⟩ := h.to 22 37 Tryd.underlying22 (by kernel_rfl) hj
    exact ⟨v', h1, by rw [NdsIn]; exact h2⟩
  | succ d =>
    rw [NdsIn.succ] at h
    obtain ⟨v', h1, h2⟩ := h.to 22 37 Tryd.underlying22 (by kernel_rfl) hj
    exact ⟨v', h1, by rw [NdsIn.succ]; exact h2⟩
theorem NdsIn.mid {w : World} {B d : Nat} {l : List Nd} {v : Value} (h : NdsIn w B d l v) {i j : Nat} (hij : i ≤ j) (hj : j ≤ l.length) :
    ∃ v', (∀ (w' : World), (Instr.slice 22 v (some (.int .i64 (i : Int))) (some (.int .i64 (j : Int))) none).run Tryd.prog w' = .ok v' w') ∧ NdsIn w B d ((l.drop i).take (j - i)) v' := by
  cases d with
  | zero =>
    rw [NdsIn] at h
    obtain ⟨v', h1, h2⟩ := h.mid 22 37 Tryd.underlying22 (by kernel_rfl) hij hj
    exact ⟨v', h1, by rw [NdsIn]; exact h2⟩
  | succ d =>
    rw [NdsIn.succ] at h
    obtain ⟨v', h1, h2⟩ := h.mid 22 37 Tryd.underlying22 (by kernel_rfl) hij hj
    exact ⟨v', h1, by rw [NdsIn.succ]; exact h2⟩
end Go.Proofs.YtnackmnoldkihaaDoor
/-
  What may be with so many levels may be with more; so may each part of the list: plain.
-/
namespace Go.Proofs.YtnackmnoldkihaaDoor
open Go.RowKit

def Imp (a b : Bool) : Prop := a = true → b = true
theorem Imp.refl (a : Bool) : Imp a a := fun h => h
theorem imp_and {a b c d : Bool} (h1 : Imp a b) (h2 : Imp c d) : Imp (a && c) (b && d) := fun h => by
  rw [Bool.and_eq_true] at h ⊢
  exact ⟨h1 h.1, h2 h.2⟩
theorem imp_or {a b c d : Bool} (h1 : Imp a b) (h2 : Imp c d) : Imp (a || c) (b || d) := fun h => by
  rw [Bool.or_eq_true] at h ⊢
  exact h.imp h1 h2
theorem imp_cond {c a b a' b' : Bool} (h1 : Imp a a') (h2 : Imp b b') : Imp (bif c then a else b) (bif c then a' else b') := by cases c; exact h2; exact h1
theorem imp_all {α : Type} {f g : α → Bool} {l : List α} (h : ∀ x, Imp (f x) (g x)) : Imp (l.all f) (l.all g) := fun e => by
  rw [List.all_eq_true] at e ⊢
  exact fun x hx => h x (e x hx)

section
variable {wd wd' : List Pt → Bool} {ls ls' : List Nd → Bool} (hw : ∀ y, Imp (wd y) (wd' y)) (hl : ∀ y, Imp (ls y) (ls' y))
include hw
theorem paramB_imp (p : Pt) : Imp (paramB wd p) (paramB wd' p) :=
  imp_and (Imp.refl _) (imp_cond (Imp.refl _) (imp_cond (Imp.refl _) (imp_and (Imp.refl _) (imp_and (Imp.refl _) (imp_and (Imp.refl _) (hw _))))))
theorem docB_imp (r : Rd) : Imp (docB wd r) (docB wd' r) := imp_and (Imp.refl _) (imp_and (hw _) (Imp.refl _))
theorem redirB_imp (r : Rd) : Imp (redirB wd r) (redirB wd' r) :=
  imp_and (Imp.refl _) (imp_cond (docB_imp hw r) (imp_and (Imp.refl _) (imp_and (Imp.refl _) (imp_and (hw _) (Imp.refl _)))))
theorem simpleB_imp (x : Nd) : Imp (simpleB wd x) (simpleB wd' x) := imp_and (imp_all fun _ => imp_and (Imp.refl _) (hw _)) (Imp.refl _)
theorem someB_imp (y : List Pt) : Imp (someB wd y) (someB wd' y) := imp_and (hw _) (Imp.refl _)
include hl
theorem partB_imp (q : Option Pt) (p : Pt) : Imp (partB wd ls q p) (partB wd' ls' q p) :=
  imp_and (Imp.refl _) (imp_cond (Imp.refl _) (imp_cond (paramB_imp hw p) (imp_cond (imp_and (Imp.refl _) (imp_and (Imp.refl _) (imp_and (Imp.refl _) (hl _)))) (Imp.refl _))))
theorem partsB_imp : ∀ (l : List Pt) (q : Option Pt), Imp (partsB (partB wd ls) q l) (partsB (partB wd' ls') q l)
  | [], _ => Imp.refl _
  | p :: l, q => imp_and (partB_imp hw hl q p) (partsB_imp l (some p))
omit hw
theorem somesB_imp (y : List Nd) : Imp (somesB ls y) (somesB ls' y) := imp_and (hl _) (Imp.refl _)
theorem listsB_imp (x : Nd) (n : Nat) : Imp (listsB ls x n) (listsB ls' x n) := imp_and (Imp.refl _) (imp_all fun _ => somesB_imp hl _)
theorem aloneB_imp (x : Nd) (n : Nat) (may : Nat → Int → Bool) : Imp (aloneB ls x n may) (aloneB ls' x n may) := imp_and (Imp.refl _) (imp_and (imp_all fun _ => somesB_imp hl _) (Imp.refl _))
theorem joinedB_imp (x : Nd) : Imp (joinedB ls x) (joinedB ls' x) :=
  imp_and (Imp.refl _) (imp_cond (aloneB_imp hl _ _ _) (imp_cond (imp_and (Imp.refl _) (aloneB_imp hl _ _ _)) (imp_and (Imp.refl _) (aloneB_imp hl _ _ _))))
include hw
theorem armB_imp (a : Ar) : Imp (armB wd ls a) (armB wd' ls' a) := imp_and (Imp.refl _) (imp_and (hl _) (imp_all fun _ => someB_imp hw _))
theorem compoundB_imp (x : Nd) : Imp (compoundB wd ls x) (compoundB wd' ls' x) :=
  imp_cond (imp_and (Imp.refl _) (imp_or (listsB_imp hl _ _) (listsB_imp hl _ _)))
    (imp_cond (imp_and (Imp.refl _) (listsB_imp hl _ _))
      (imp_cond (imp_and (Imp.refl _) (listsB_imp hl _ _))
        (imp_cond (imp_and (Imp.refl _) (imp_and (Imp.refl _) (listsB_imp hl _ _)))
          (imp_cond (imp_and (Imp.refl _) (imp_and (Imp.refl _) (imp_and (Imp.refl _) (imp_and (listsB_imp hl _ _) (imp_all fun _ => armB_imp hw hl _)))))
            (imp_cond (imp_and (Imp.refl _) (imp_and (Imp.refl _) (imp_and (Imp.refl _) (imp_and (Imp.refl _) (aloneB_imp hl _ _ _))))) (Imp.refl _))))))
theorem nodeB_imp (x : Nd) : Imp (nodeB wd ls x) (nodeB wd' ls' x) :=
  imp_and (imp_all fun _ => someB_imp hw _) (imp_and (imp_all fun _ => redirB_imp hw _) (imp_cond (simpleB_imp hw x) (imp_cond (joinedB_imp hl x) (compoundB_imp hw hl x))))
end

theorem ok_more : ∀ n, (∀ y, Imp (okW n y) (okW (n + 1) y)) ∧ (∀ y, Imp (okL n y) (okL (n + 1) y))
  | 0 => by
    refine ⟨fun y h => ?_, fun y h => ?_⟩
    · rw [okW] at h
      obtain rfl : y = [] := by simpa using h
      rw [okW]; rfl
    · rw [okL] at h
      obtain rfl : y = [] := by simpa using h
      rw [okL]; rfl
  | n + 1 => by
    obtain ⟨h1, h2⟩ := ok_more n
    refine ⟨fun y h => ?_, fun y h => ?_⟩
    · rw [okW] at h ⊢
      exact partsB_imp h1 h2 _ _ h
    · rw [okL] at h ⊢
      exact imp_all (fun x => nodeB_imp h1 h2 x) h
theorem okL_le {n m : Nat} {l : List Nd} (h : okL n l = true) (hm : n ≤ m) : okL m l = true := by
  induction m with
  | zero => rw [Nat.le_zero.1 hm] at h; exact h
  | succ m ih =>
    by_cases e : n = m + 1
    · rw [← e]; exact h
    · exact (ok_more m).2 l (ih (by omega))
theorem okL_sub {n : Nat} {l m : List Nd} (h : okL n l = true) (hm : ∀ x ∈ m, x ∈ l) : okL n m = true := by
  cases n with
  | zero =>
    rw [okL] at h ⊢
    obtain rfl : l = [] := by simpa using h
    cases m with
    | nil => rfl
    | cons x m => have := hm x (by simp); simp at this
  | succ n =>
    rw [okL, List.all_eq_true] at h ⊢
    exact fun x hx => h x (hm x hx)
end Go.Proofs.YtnackmnoldkihaaDoor
/-
  The walks of Size and parts: some number.
-/
namespace Go.Proofs.YtnackmnoldkihaaDoor
open Go.RowKit

/-- Some number is returned; what was there stays. -/
def SomeInt (w : World) (e : Ending) (w' : World) : Prop := ∃ z : Int, e = .returned (.int .i64 z) ∧ Below w.heap.size w w'
def PartsZ (d : Nat) : Prop := ∀ (W : World) (l : List Pt) (v : Value) (m q : Int), PtsIn W W.heap.size d l v → Calls Tryd.prog 12 #[v, .int .i64 m, .int .i64 q] W (SomeInt W)
def SizeZ (d : Nat) : Prop := ∀ (W : World) (l : List Nd) (v : Value) (m q : Int), NdsIn W W.heap.size d l v → Calls Tryd.prog 8 #[v, .int .i64 m, .int .i64 q] W (SomeInt W)

set_option maxHeartbeats 2000000 in
set_option maxRecDepth 100000 in
theorem parts_step (d : Nat) (hPZ : PartsZ d) (hSZ : SizeZ d) (l : List Pt) (v : Value) (m q : Int) (w : World) (hl : SlOf w w.heap.size 6 (PtC w w.heap.size d) l v) :
    Calls Tryd.prog 12 #[v, .int .i64 m, .int .i64 q] w (SomeInt w) := by
  obtain ⟨a, cap, rfl, hz⟩ := hl.len
  obtain ⟨n, hn⟩ : ∃ n, l.length = n := ⟨_, rfl⟩
  rw [hn] at hl hz ⊢
  have HL := Lib.hid hl
  have HN := Lib.hid hn
  have HPZ := Lib.hid hPZ
  have HSZ := Lib.hid hSZ
  clear hl hn hPZ hSZ
  go_enter Tryd.func12, Tryd.ntmps12
  go_wp2_with fail
  go_loopw [7, 12] (fun t i W => ∃ (k : Nat) (z : Int), k ≤ n ∧ i = .int .i64 k ∧ t = .int .i64 z ∧ Below w.heap.size w W) (fun _ i _ => n - (intOf i).toNat)
  case atStart => exact ⟨0, 0, Nat.zero_le _, rfl, rfl, Below.refl _ _⟩
  case round =>
    obtain ⟨k, z, hk, rfl, rfl, hB⟩ := hrel
    have hBz := hB.size
    by_cases hlt : k < n
    · obtain ⟨x, hx⟩ : ∃ x, l[k]? = .some x := ⟨_, List.getElem?_eq_getElem (by rw [HN.out]; exact hlt)⟩
      obtain ⟨b, o, c, hi, hbB, hce, hC, _⟩ := HL.out.at 26 28 Tryd.underlying26 (by kernel_rfl) hx
      obtain ⟨a1, c1, a2, c2, rfl, ⟨hxz, _⟩, _, hP, hS⟩ := hC.open
      have HP : Hid (∀ W, Below w.heap.size w W → ∀ m q : Int, Calls Tryd.prog 12 #[.slice a1 x.word.length c1, .int .i64 m, .int .i64 q] W (SomeInt W)) := Lib.hid fun W hW m q => HPZ.out W _ _ m q (hP.later hW)
      have HS : Hid (∀ W, Below w.heap.size w W → ∀ m q : Int, Calls Tryd.prog 8 #[.slice a2 x.body.length c2, .int .i64 m, .int .i64 q] W (SomeInt W)) := Lib.hid fun W hW m q => HSZ.out W _ _ m q (hS.later hW)
      have e0 := (hB.cell hbB).trans (hce 0 _ rfl)
      have e1 := (hB.cell hbB).trans (hce 1 _ rfl)
      have e2 := (hB.cell hbB).trans (hce 2 _ rfl)
      have e3 := (hB.cell hbB).trans (hce 3 _ rfl)
      have e4 := (hB.cell hbB).trans (hce 4 _ rfl)
      have e5 := (hB.cell hbB).trans (hce 5 _ rfl)
      have hbB' := Nat.lt_of_lt_of_le hbB hB.size
      rw [Nat.add_zero] at e0
      clear hx hce hP hS
      by_cases hg : m < wrap64 (z + 1) ∨ q ≤ 0
      · by_cases g0 : m < wrap64 (z + 1)
        · have g1 : decide (m < wrap64 (z + 1)) = true := by simp [g0]
          clear hg g0
          go_wp2
          go_ret
          exact ⟨_, rfl, (by repeat' (first | (with_reducible assumption) | (with_reducible exact Below.refl _ _) | (with_reducible refine below_drewN ?_ _) | (with_reducible refine below_bytes ?_ ?_ _) | (with_reducible refine Below.alloc ?_ ?_ _) | (with_reducible refine Below.drew ?_) | (with_reducible refine Below.setCell ?_ ?_ _) | go_size))⟩
        · have g1 : decide (m < wrap64 (z + 1)) = false := by simp; omega
          have g2 : decide (q ≤ 0) = true := by simp; omega
          clear hg g0
          go_wp2
          go_ret
          exact ⟨_, rfl, (by repeat' (first | (with_reducible assumption) | (with_reducible exact Below.refl _ _) | (with_reducible refine below_drewN ?_ _) | (with_reducible refine below_bytes ?_ ?_ _) | (with_reducible refine Below.alloc ?_ ?_ _) | (with_reducible refine Below.drew ?_) | (with_reducible refine Below.setCell ?_ ?_ _) | go_size))⟩
      · have g1 : decide (m < wrap64 (z + 1)) = false := by simp; omega
        have g2 : decide (q ≤ 0) = false := by simp; omega
        clear hg
        go_upto_region 8 with fail
        obtain ⟨X, hX⟩ : ∃ X, X = wr.alloc (.cells #[.int .i64 x.kind, .bool x.quoted, .string x.text, .string x.op, .slice a1 x.word.length c1, .slice a2 x.body.length c2] 28) := ⟨_, rfl⟩
        have hBX : Below w.heap.size w X := by rw [hX]; exact (by repeat' (first | (with_reducible assumption) | (with_reducible exact Below.refl _ _) | (with_reducible refine below_drewN ?_ _) | (with_reducible refine below_bytes ?_ ?_ _) | (with_reducible refine Below.alloc ?_ ?_ _) | (with_reducible refine Below.drew ?_) | (with_reducible refine Below.setCell ?_ ?_ _) | go_size))
        have x2 : X.cell? ⟨wr.heap.size, 2, none⟩ = some (.string x.text) := by rw [hX]; simp
        have x4 : X.cell? ⟨wr.heap.size, 4, none⟩ = some (.slice a1 x.word.length c1) := by rw [hX]; simp
        have x5 : X.cell? ⟨wr.heap.size, 5, none⟩ = some (.slice a2 x.body.length c2) := by rw [hX]; simp
        have hgX : wr.heap.size < X.heap.size := by rw [hX]; simp
        rw [← hX]
        clear hX
        have CP : Hid (∀ (W : World) (q : Int), Below X.heap.size X W → Calls Tryd.prog 12 #[.slice a1 x.word.length c1, .int .i64 m, .int .i64 q] W fun e w' => ∃ z : Int, e = .returned (.int .i64 z) ∧ Below X.heap.size X w') := Lib.hid fun W q hW => (HP.out W (hBX.trans (hW.mono hBX.size)) m q).mono fun e w' ⟨z, h1, h2⟩ => ⟨z, h1, hW.trans (h2.mono hW.size)⟩
        have CS : Hid (∀ (W : World) (q : Int), Below X.heap.size X W → Calls Tryd.prog 8 #[.slice a2 x.body.length c2, .int .i64 m, .int .i64 q] W fun e w' => ∃ z : Int, e = .returned (.int .i64 z) ∧ Below X.heap.size X w') := Lib.hid fun W q hW => (HS.out W (hBX.trans (hW.mono hBX.size)) m q).mono fun e w' ⟨z, h1, h2⟩ => ⟨z, h1, hW.trans (h2.mono hW.size)⟩
        go_region_held3 (fun w' => w'.cell? ⟨wr.heap.size, 2, none⟩ = some (.string x.text) ∧ w'.cell? ⟨wr.heap.size, 4, none⟩ = some (.slice a1 x.word.length c1) ∧ w'.cell? ⟨wr.heap.size, 5, none⟩ = some (.slice a2 x.body.length c2)) (go_keep)
          (first
            | (go_at_call 12; with_reducible refine (CP.out _ _ (by repeat' (first | (with_reducible assumption) | (with_reducible exact Below.refl _ _) | (with_reducible refine below_drewN ?_ _) | (with_reducible refine below_bytes ?_ ?_ _) | (with_reducible refine Below.alloc ?_ ?_ _) | (with_reducible refine Below.drew ?_) | (with_reducible refine Below.setCell ?_ ?_ _) | go_size))).mono ?_; rintro e w1 ⟨z1, rfl, hb1⟩; have d2 := (hb1.cell hgX).trans x2; have d4 := (hb1.cell hgX).trans x4; have d5 := (hb1.cell hgX).trans x5)
            | (go_at_call 8; with_reducible refine (CS.out _ _ (by repeat' (first | (with_reducible assumption) | (with_reducible exact Below.refl _ _) | (with_reducible refine below_drewN ?_ _) | (with_reducible refine below_bytes ?_ ?_ _) | (with_reducible refine Below.alloc ?_ ?_ _) | (with_reducible refine Below.drew ?_) | (with_reducible refine Below.setCell ?_ ?_ _) | go_size))).mono ?_; rintro e w1 ⟨z1, rfl, hb1⟩; have d2 := (hb1.cell hgX).trans x2; have d4 := (hb1.cell hgX).trans x4; have d5 := (hb1.cell hgX).trans x5))
        all_goals
          go_wp2_with fail
          go_roundw
          case rel => exact ⟨k + 1, _, by omega, by go_num, rfl, hBX.trans (Below.mono (B := X.heap.size) (by repeat' (first | (with_reducible assumption) | (with_reducible exact Below.refl _ _) | (with_reducible refine below_drewN ?_ _) | (with_reducible refine below_bytes ?_ ?_ _) | (with_reducible refine Below.alloc ?_ ?_ _) | (with_reducible refine Below.drew ?_) | (with_reducible refine Below.setCell ?_ ?_ _) | go_size)) hBX.size)⟩
          case measure => simp [intOf]; omega
    · go_wp2
      go_ret
      exact ⟨_, rfl, hB⟩
end Go.Proofs.YtnackmnoldkihaaDoor
/-
  The walk of Size.
-/
namespace Go.Proofs.YtnackmnoldkihaaDoor
open Go.RowKit

set_option maxHeartbeats 4000000 in
set_option maxRecDepth 100000 in
theorem size_step (d : Nat) (hPZ : PartsZ d) (hSZ : SizeZ d) (l : List Nd) (v : Value) (m q : Int) (w : World) (hl : SlOf w w.heap.size 7 (NdC w w.heap.size d) l v) :
    Calls Tryd.prog 8 #[v, .int .i64 m, .int .i64 q] w (SomeInt w) := by
  obtain ⟨a, cap, rfl, hz⟩ := hl.len
  obtain ⟨n, hn⟩ : ∃ n, l.length = n := ⟨_, rfl⟩
  rw [hn] at hl hz ⊢
  have HL := Lib.hid hl
  have HN := Lib.hid hn
  have HPZ := Lib.hid hPZ
  have HSZ := Lib.hid hSZ
  clear hl hn hPZ hSZ
  go_enter Tryd.func8, Tryd.ntmps8
  go_wp2_with fail
  go_loopw [7, 24] (fun t i W => ∃ (k : Nat) (z : Int), k ≤ n ∧ i = .int .i64 k ∧ t = .int .i64 z ∧ Below w.heap.size w W) (fun _ i _ => n - (intOf i).toNat)
  case atStart => exact ⟨0, 0, Nat.zero_le _, rfl, rfl, Below.refl _ _⟩
  case round =>
    obtain ⟨k, z, hk, rfl, rfl, hB⟩ := hrel
    have hBz := hB.size
    by_cases hlt : k < n
    · obtain ⟨x, hx⟩ : ∃ x, l[k]? = .some x := ⟨_, List.getElem?_eq_getElem (by rw [HN.out]; exact hlt)⟩
      obtain ⟨b, o, c, hi, hbB, hce, hC, _⟩ := HL.out.at 22 37 Tryd.underlying22 (by kernel_rfl) hx
      obtain ⟨a1, c1, a2, c2, a3, c3, a4, c4, a5, c5, rfl, hxz, ⟨hn1, hn2, hn3, hn4, hn5⟩, hA, hW, hRd, hLs, hAr⟩ := hC.open
      have e0 := (hB.cell hbB).trans (hce 0 _ rfl)
      have e1 := (hB.cell hbB).trans (hce 1 _ rfl)
      have e2 := (hB.cell hbB).trans (hce 2 _ rfl)
      have e3 := (hB.cell hbB).trans (hce 3 _ rfl)
      have e4 := (hB.cell hbB).trans (hce 4 _ rfl)
      have e5 := (hB.cell hbB).trans (hce 5 _ rfl)
      have e6 := (hB.cell hbB).trans (hce 6 _ rfl)
      have hbB' := Nat.lt_of_lt_of_le hbB hB.size
      rw [Nat.add_zero] at e0
      obtain ⟨n1, hl1⟩ : ∃ n, x.assigns.length = n := ⟨_, rfl⟩
      obtain ⟨n2, hl2⟩ : ∃ n, x.words.length = n := ⟨_, rfl⟩
      obtain ⟨n3, hl3⟩ : ∃ n, x.redirs.length = n := ⟨_, rfl⟩
      obtain ⟨n4, hl4⟩ : ∃ n, x.lists.length = n := ⟨_, rfl⟩
      obtain ⟨n5, hl5⟩ : ∃ n, x.arms.length = n := ⟨_, rfl⟩
      rw [hl1] at e2 hn1 hA
      rw [hl2] at e3 hn2 hW
      rw [hl3] at e4 hn3 hRd
      rw [hl4] at e5 hn4 hLs
      rw [hl5] at e6 hn5 hAr
      have HA := Lib.hid hA
      have HW := Lib.hid hW
      have HRD := Lib.hid hRd
      have HLS := Lib.hid hLs
      have HAR := Lib.hid hAr
      have N1 := Lib.hid hl1
      have N2 := Lib.hid hl2
      have N3 := Lib.hid hl3
      have N4 := Lib.hid hl4
      have N5 := Lib.hid hl5
      clear hx hce hA hW hRd hLs hAr hl1 hl2 hl3 hl4 hl5 hC
      by_cases hg : m < wrap64 (z + 1) ∨ q = 0
      · by_cases g0 : m < wrap64 (z + 1)
        · have g1 : decide (m < wrap64 (z + 1)) = true := by simp [g0]
          clear hg g0
          go_wp2
          go_ret
          exact ⟨_, rfl, (by repeat' (first | (with_reducible assumption) | (with_reducible exact Below.refl _ _) | (with_reducible refine below_drewN ?_ _) | (with_reducible refine below_bytes ?_ ?_ _) | (with_reducible refine Below.alloc ?_ ?_ _) | (with_reducible refine Below.drew ?_) | (with_reducible refine Below.setCell ?_ ?_ _) | go_size))⟩
        · have g1 : decide (m < wrap64 (z + 1)) = false := by simp; omega
          have g2 : (q == 0) = true := by simp; omega
          clear hg g0
          go_wp2
          go_ret
          exact ⟨_, rfl, (by repeat' (first | (with_reducible assumption) | (with_reducible exact Below.refl _ _) | (with_reducible refine below_drewN ?_ _) | (with_reducible refine below_bytes ?_ ?_ _) | (with_reducible refine Below.alloc ?_ ?_ _) | (with_reducible refine Below.drew ?_) | (with_reducible refine Below.setCell ?_ ?_ _) | go_size))⟩
      · have g1 : decide (m < wrap64 (z + 1)) = false := by simp; omega
        have g2 : (q == 0) = false := by simp; omega
        clear hg
        obtain ⟨g, hgd⟩ : ∃ g, g = wr.heap.size := ⟨_, rfl⟩
        have hgB : w.heap.size ≤ g := by omega
        have HST : Hid (∀ (cs : Array Value), Blk (wr.alloc (.cells cs 37)) g 37 cs) := Lib.hid fun cs => Blk.at hgd
        go_wp2_with fail
        rw [← hgd]
        clear e0 e1 e2 e3 e4 e5 e6 hi hgd
        go_loopw [7, 47]
          (fun t i W => ∃ (j : Nat) (z : Int), j ≤ n1 ∧ i = .int .i64 j ∧ t = .int .i64 z ∧ Blk W g 37 #[.int .i64 x.kind, .string x.name, .slice a1 n1 c1, .slice a2 n2 c2, .slice a3 n3 c3, .slice a4 n4 c4, .slice a5 n5 c5] ∧ Below w.heap.size w W) (fun _ i _ => n1 - (intOf i).toNat)
        case atStart => exact ⟨0, _, Nat.zero_le _, rfl, rfl, HST.out _, (by repeat' (first | (with_reducible assumption) | (with_reducible exact Below.refl _ _) | (with_reducible refine below_drewN ?_ _) | (with_reducible refine below_bytes ?_ ?_ _) | (with_reducible refine Below.alloc ?_ ?_ _) | (with_reducible refine Below.drew ?_) | (with_reducible refine Below.setCell ?_ ?_ _) | go_size))⟩
        case round =>
          obtain ⟨j, z, hj, rfl, rfl, hbk, hB⟩ := hrel
          have HBK := Lib.hid hbk
          have hBz := hB.size
          clear hbk
          have p0 := HBK.out.cell 0
          have p1 := HBK.out.cell 1
          have p2 := HBK.out.cell 2
          have p3 := HBK.out.cell 3
          have p4 := HBK.out.cell 4
          have p5 := HBK.out.cell 5
          have p6 := HBK.out.cell 6
          have pl := HBK.out.lt
          simp at p0 p1 p2 p3 p4 p5 p6
          by_cases hlt1 : j < n1
          · obtain ⟨y, hy⟩ : ∃ y, x.assigns[j]? = .some y := ⟨_, List.getElem?_eq_getElem (by rw [N1.out]; exact hlt1)⟩
            obtain ⟨b, o, c, hi, hbB, hce, hC, _⟩ := HA.out.at 33 53 Tryd.underlying33 (by kernel_rfl) hy
            obtain ⟨a6, c6, rfl, hyz, hyl, hP⟩ := hC.open
            have e0 := (hB.cell hbB).trans (hce 0 _ rfl)
            have e1 := (hB.cell hbB).trans (hce 1 _ rfl)
            have hbB' := Nat.lt_of_lt_of_le hbB hB.size
            rw [Nat.add_zero] at e0
            clear hy hce hC
            go_wp2_with fail
            obtain ⟨X, hX⟩ : ∃ X, X = wr.alloc (.cells #[.string y.name, .slice a6 y.word.length c6] 53) := ⟨_, rfl⟩
            have HBX : Hid (Below wr.heap.size wr X) := Lib.hid (by rw [hX]; exact (by repeat' (first | (with_reducible assumption) | (with_reducible exact Below.refl _ _) | (with_reducible refine below_drewN ?_ _) | (with_reducible refine below_bytes ?_ ?_ _) | (with_reducible refine Below.alloc ?_ ?_ _) | (with_reducible refine Below.drew ?_) | (with_reducible refine Below.setCell ?_ ?_ _) | go_size)))
            have x0 : X.cell? ⟨wr.heap.size, 0, none⟩ = some (.string y.name) := by rw [hX]; simp
            have x1 : X.cell? ⟨wr.heap.size, 1, none⟩ = some (.slice a6 y.word.length c6) := by rw [hX]; simp
            have hgX : wr.heap.size < X.heap.size := by rw [hX]; simp
            rw [← hX]
            clear hX
            have hBX : Below w.heap.size w X := hB.trans (HBX.out.mono hBz)
            have CP : Hid (∀ (W : World) (q : Int), Below X.heap.size X W → Calls Tryd.prog 12 #[.slice a6 y.word.length c6, .int .i64 m, .int .i64 q] W fun e w' => ∃ z : Int, e = .returned (.int .i64 z) ∧ Below X.heap.size X w') := Lib.hid fun W q hW => (HPZ.out W _ _ m q (hP.later (hBX.trans (hW.mono hBX.size)))).mono fun e w' ⟨z, h1, h2⟩ => ⟨z, h1, hW.trans (h2.mono hW.size)⟩
            clear hP
            go_region_held3 (fun w' => w'.cell? ⟨wr.heap.size, 0, none⟩ = some (.string y.name) ∧ w'.cell? ⟨wr.heap.size, 1, none⟩ = some (.slice a6 y.word.length c6)) (go_keep)
              ((go_at_call 12; with_reducible refine (CP.out _ _ (by repeat' (first | (with_reducible assumption) | (with_reducible exact Below.refl _ _) | (with_reducible refine below_drewN ?_ _) | (with_reducible refine below_bytes ?_ ?_ _) | (with_reducible refine Below.alloc ?_ ?_ _) | (with_reducible refine Below.drew ?_) | (with_reducible refine Below.setCell ?_ ?_ _) | go_size))).mono ?_; rintro e w1 ⟨z1, rfl, hb1⟩; have d0 := (hb1.cell hgX).trans x0; have d1 := (hb1.cell hgX).trans x1))
            all_goals
              have hXW : ∀ W, Below X.heap.size X W → Blk W g 37 #[.int .i64 x.kind, .string x.name, .slice a1 n1 c1, .slice a2 n2 c2, .slice a3 n3 c3, .slice a4 n4 c4, .slice a5 n5 c5] ∧ Below w.heap.size w W := fun W hW => ⟨(HBK.out.below HBX.out pl).below hW (by omega), hBX.trans (hW.mono hBX.size)⟩
              have HXW := Lib.hid hXW
              clear hXW
              go_wp2_with fail
              go_roundw
              case rel => exact ⟨j + 1, _, by omega, by go_num, rfl, HXW.out _ (by repeat' (first | (with_reducible assumption) | (with_reducible exact Below.refl _ _) | (with_reducible refine below_drewN ?_ _) | (with_reducible refine below_bytes ?_ ?_ _) | (with_reducible refine Below.alloc ?_ ?_ _) | (with_reducible refine Below.drew ?_) | (with_reducible refine Below.setCell ?_ ?_ _) | go_size))⟩
              case measure => simp [intOf]; omega
          · go_wp2_with fail
            go_loopw [7, 68]
              (fun t i W => ∃ (j : Nat) (z : Int), j ≤ n2 ∧ i = .int .i64 j ∧ t = .int .i64 z ∧ Blk W g 37 #[.int .i64 x.kind, .string x.name, .slice a1 n1 c1, .slice a2 n2 c2, .slice a3 n3 c3, .slice a4 n4 c4, .slice a5 n5 c5] ∧ Below w.heap.size w W) (fun _ i _ => n2 - (intOf i).toNat)
            case atStart => exact ⟨0, _, Nat.zero_le _, rfl, rfl, HBK.out, hB⟩
            case round =>
              clear p0 p1 p2 p3 p4 p5 p6 pl hB hBz
              obtain ⟨j, z, hj, rfl, rfl, hbk, hB⟩ := hrel
              have HBK := Lib.hid hbk
              have hBz := hB.size
              clear hbk
              have p0 := HBK.out.cell 0
              have p1 := HBK.out.cell 1
              have p2 := HBK.out.cell 2
              have p3 := HBK.out.cell 3
              have p4 := HBK.out.cell 4
              have p5 := HBK.out.cell 5
              have p6 := HBK.out.cell 6
              have pl := HBK.out.lt
              simp at p0 p1 p2 p3 p4 p5 p6
              by_cases hlt1 : j < n2
              · obtain ⟨y, hy⟩ : ∃ y, x.words[j]? = .some y := ⟨_, List.getElem?_eq_getElem (by rw [N2.out]; exact hlt1)⟩
                obtain ⟨b, o, c, hi, hbB, hce, ⟨yv, rfl, hP⟩, _⟩ := HW.out.at 29 26 Tryd.underlying29 (by kernel_rfl) hy
                obtain ⟨a6, c6, rfl, _⟩ := hP.shape
                have e0 := (hB.cell hbB).trans (hce 0 _ rfl)
                have hbB' := Nat.lt_of_lt_of_le hbB hB.size
                rw [Nat.add_zero] at e0
                have CP : Hid (∀ (W : World) (q : Int), Below w.heap.size w W → Calls Tryd.prog 12 #[.slice a6 y.length c6, .int .i64 m, .int .i64 q] W (SomeInt W)) := Lib.hid fun W q hW => HPZ.out W _ _ m q (hP.later hW)
                clear hy hce hP
                go_wp2_with fail
                refine (CP.out _ _ (by repeat' (first | (with_reducible assumption) | (with_reducible exact Below.refl _ _) | (with_reducible refine below_drewN ?_ _) | (with_reducible refine below_bytes ?_ ?_ _) | (with_reducible refine Below.alloc ?_ ?_ _) | (with_reducible refine Below.drew ?_) | (with_reducible refine Below.setCell ?_ ?_ _) | go_size))).mono ?_
                rintro e w1 ⟨z1, rfl, hb1⟩
                have HB1 := Lib.hid hb1
                have hB1 : Below w.heap.size w w1 := since hb1 (by repeat' (first | (with_reducible assumption) | (with_reducible exact Below.refl _ _) | (with_reducible refine below_drewN ?_ _) | (with_reducible refine below_bytes ?_ ?_ _) | (with_reducible refine Below.alloc ?_ ?_ _) | (with_reducible refine Below.drew ?_) | (with_reducible refine Below.setCell ?_ ?_ _) | go_size))
                clear hb1
                go_wp2_with fail
                go_roundw
                case rel => exact ⟨j + 1, _, by omega, by go_num, rfl, HBK.out.below HB1.out HBK.out.lt, hB1⟩
                case measure => simp [intOf]; omega
              · go_wp2_with fail
                go_loopw [7, 84]
                  (fun t i W => ∃ (j : Nat) (z : Int), j ≤ n3 ∧ i = .int .i64 j ∧ t = .int .i64 z ∧ Blk W g 37 #[.int .i64 x.kind, .string x.name, .slice a1 n1 c1, .slice a2 n2 c2, .slice a3 n3 c3, .slice a4 n4 c4, .slice a5 n5 c5] ∧ Below w.heap.size w W) (fun _ i _ => n3 - (intOf i).toNat)
                case atStart => exact ⟨0, _, Nat.zero_le _, rfl, rfl, HBK.out, hB⟩
                case round =>
                  clear p0 p1 p2 p3 p4 p5 p6 pl hB hBz
                  obtain ⟨j, z, hj, rfl, rfl, hbk, hB⟩ := hrel
                  have HBK := Lib.hid hbk
                  have hBz := hB.size
                  clear hbk
                  have p0 := HBK.out.cell 0
                  have p1 := HBK.out.cell 1
                  have p2 := HBK.out.cell 2
                  have p3 := HBK.out.cell 3
                  have p4 := HBK.out.cell 4
                  have p5 := HBK.out.cell 5
                  have p6 := HBK.out.cell 6
                  have pl := HBK.out.lt
                  simp at p0 p1 p2 p3 p4 p5 p6
                  by_cases hlt1 : j < n3
                  · obtain ⟨y, hy⟩ : ∃ y, x.redirs[j]? = .some y := ⟨_, List.getElem?_eq_getElem (by rw [N3.out]; exact hlt1)⟩
                    obtain ⟨b, o, c, hi, hbB, hce, hC, _⟩ := HRD.out.at 32 31 Tryd.underlying32 (by kernel_rfl) hy
                    obtain ⟨a6, c6, rfl, ⟨hyz, hyz2⟩, _, hyl, hP⟩ := hC.open
                    have e0 := (hB.cell hbB).trans (hce 0 _ rfl)
                    have e1 := (hB.cell hbB).trans (hce 1 _ rfl)
                    have e2 := (hB.cell hbB).trans (hce 2 _ rfl)
                    have e3 := (hB.cell hbB).trans (hce 3 _ rfl)
                    have hbB' := Nat.lt_of_lt_of_le hbB hB.size
                    rw [Nat.add_zero] at e0
                    clear hy hce hC
                    go_wp2_with fail
                    obtain ⟨X, hX⟩ : ∃ X, X = wr.alloc (.cells #[.int .i64 y.fd, .string y.op, .string y.tag, .slice a6 y.word.length c6] 31) := ⟨_, rfl⟩
                    have HBX : Hid (Below wr.heap.size wr X) := Lib.hid (by rw [hX]; exact (by repeat' (first | (with_reducible assumption) | (with_reducible exact Below.refl _ _) | (with_reducible refine below_drewN ?_ _) | (with_reducible refine below_bytes ?_ ?_ _) | (with_reducible refine Below.alloc ?_ ?_ _) | (with_reducible refine Below.drew ?_) | (with_reducible refine Below.setCell ?_ ?_ _) | go_size)))
                    have x0 : X.cell? ⟨wr.heap.size, 2, none⟩ = some (.string y.tag) := by rw [hX]; simp
                    have x1 : X.cell? ⟨wr.heap.size, 3, none⟩ = some (.slice a6 y.word.length c6) := by rw [hX]; simp
                    have hgX : wr.heap.size < X.heap.size := by rw [hX]; simp
                    rw [← hX]
                    clear hX
                    have hBX : Below w.heap.size w X := hB.trans (HBX.out.mono hBz)
                    have CP : Hid (∀ (W : World) (q : Int), Below X.heap.size X W → Calls Tryd.prog 12 #[.slice a6 y.word.length c6, .int .i64 m, .int .i64 q] W fun e w' => ∃ z : Int, e = .returned (.int .i64 z) ∧ Below X.heap.size X w') := Lib.hid fun W q hW => (HPZ.out W _ _ m q (hP.later (hBX.trans (hW.mono hBX.size)))).mono fun e w' ⟨z, h1, h2⟩ => ⟨z, h1, hW.trans (h2.mono hW.size)⟩
                    clear hP
                    go_region_held3 (fun w' => w'.cell? ⟨wr.heap.size, 2, none⟩ = some (.string y.tag) ∧ w'.cell? ⟨wr.heap.size, 3, none⟩ = some (.slice a6 y.word.length c6)) (go_keep)
                      ((go_at_call 12; with_reducible refine (CP.out _ _ (by repeat' (first | (with_reducible assumption) | (with_reducible exact Below.refl _ _) | (with_reducible refine below_drewN ?_ _) | (with_reducible refine below_bytes ?_ ?_ _) | (with_reducible refine Below.alloc ?_ ?_ _) | (with_reducible refine Below.drew ?_) | (with_reducible refine Below.setCell ?_ ?_ _) | go_size))).mono ?_; rintro e w1 ⟨z1, rfl, hb1⟩; have d0 := (hb1.cell hgX).trans x0; have d1 := (hb1.cell hgX).trans x1))
                    all_goals
                      have hXW : ∀ W, Below X.heap.size X W → Blk W g 37 #[.int .i64 x.kind, .string x.name, .slice a1 n1 c1, .slice a2 n2 c2, .slice a3 n3 c3, .slice a4 n4 c4, .slice a5 n5 c5] ∧ Below w.heap.size w W := fun W hW => ⟨(HBK.out.below HBX.out pl).below hW (by omega), hBX.trans (hW.mono hBX.size)⟩
                      have HXW := Lib.hid hXW
                      clear hXW
                      go_wp2_with fail
                      go_roundw
                      case rel => exact ⟨j + 1, _, by omega, by go_num, rfl, HXW.out _ (by repeat' (first | (with_reducible assumption) | (with_reducible exact Below.refl _ _) | (with_reducible refine below_drewN ?_ _) | (with_reducible refine below_bytes ?_ ?_ _) | (with_reducible refine Below.alloc ?_ ?_ _) | (with_reducible refine Below.drew ?_) | (with_reducible refine Below.setCell ?_ ?_ _) | go_size))⟩
                      case measure => simp [intOf]; omega
                  · go_wp2_with fail
                    go_loopw [7, 105]
                      (fun t i W => ∃ (j : Nat) (z : Int), j ≤ n4 ∧ i = .int .i64 j ∧ t = .int .i64 z ∧ Blk W g 37 #[.int .i64 x.kind, .string x.name, .slice a1 n1 c1, .slice a2 n2 c2, .slice a3 n3 c3, .slice a4 n4 c4, .slice a5 n5 c5] ∧ Below w.heap.size w W) (fun _ i _ => n4 - (intOf i).toNat)
                    case atStart => exact ⟨0, _, Nat.zero_le _, rfl, rfl, HBK.out, hB⟩
                    case round =>
                      clear p0 p1 p2 p3 p4 p5 p6 pl hB hBz
                      obtain ⟨j, z, hj, rfl, rfl, hbk, hB⟩ := hrel
                      have HBK := Lib.hid hbk
                      have hBz := hB.size
                      clear hbk
                      have p0 := HBK.out.cell 0
                      have p1 := HBK.out.cell 1
                      have p2 := HBK.out.cell 2
                      have p3 := HBK.out.cell 3
                      have p4 := HBK.out.cell 4
                      have p5 := HBK.out.cell 5
                      have p6 := HBK.out.cell 6
                      have pl := HBK.out.lt
                      simp at p0 p1 p2 p3 p4 p5 p6
                      by_cases hlt1 : j < n4
                      · obtain ⟨y, hy⟩ : ∃ y, x.lists[j]? = .some y := ⟨_, List.getElem?_eq_getElem (by rw [N4.out]; exact hlt1)⟩
                        obtain ⟨b, o, c, hi, hbB, hce, ⟨yv, rfl, hP⟩, _⟩ := HLS.out.at 34 22 Tryd.underlying34 (by kernel_rfl) hy
                        obtain ⟨a6, c6, rfl, _⟩ := hP.shape
                        have e0 := (hB.cell hbB).trans (hce 0 _ rfl)
                        have hbB' := Nat.lt_of_lt_of_le hbB hB.size
                        rw [Nat.add_zero] at e0
                        have CP : Hid (∀ (W : World) (q : Int), Below w.heap.size w W → Calls Tryd.prog 8 #[.slice a6 y.length c6, .int .i64 m, .int .i64 q] W (SomeInt W)) := Lib.hid fun W q hW => HSZ.out W _ _ m q (hP.later hW)
                        clear hy hce hP
                        go_wp2_with fail
                        refine (CP.out _ _ (by repeat' (first | (with_reducible assumption) | (with_reducible exact Below.refl _ _) | (with_reducible refine below_drewN ?_ _) | (with_reducible refine below_bytes ?_ ?_ _) | (with_reducible refine Below.alloc ?_ ?_ _) | (with_reducible refine Below.drew ?_) | (with_reducible refine Below.setCell ?_ ?_ _) | go_size))).mono ?_
                        rintro e w1 ⟨z1, rfl, hb1⟩
                        have HB1 := Lib.hid hb1
                        have hB1 : Below w.heap.size w w1 := since hb1 (by repeat' (first | (with_reducible assumption) | (with_reducible exact Below.refl _ _) | (with_reducible refine below_drewN ?_ _) | (with_reducible refine below_bytes ?_ ?_ _) | (with_reducible refine Below.alloc ?_ ?_ _) | (with_reducible refine Below.drew ?_) | (with_reducible refine Below.setCell ?_ ?_ _) | go_size))
                        clear hb1
                        go_wp2_with fail
                        go_roundw
                        case rel => exact ⟨j + 1, _, by omega, by go_num, rfl, HBK.out.below HB1.out HBK.out.lt, hB1⟩
                        case measure => simp [intOf]; omega
                      · go_wp2_with fail
                        go_loopw [7, 121]
                          (fun t i W => ∃ (j : Nat) (z : Int), j ≤ n5 ∧ i = .int .i64 j ∧ t = .int .i64 z ∧ Blk W g 37 #[.int .i64 x.kind, .string x.name, .slice a1 n1 c1, .slice a2 n2 c2, .slice a3 n3 c3, .slice a4 n4 c4, .slice a5 n5 c5] ∧ Below w.heap.size w W) (fun _ i _ => n5 - (intOf i).toNat)
                        case atStart => exact ⟨0, _, Nat.zero_le _, rfl, rfl, HBK.out, hB⟩
                        case round =>
                          clear p0 p1 p2 p3 p4 p5 p6 pl hB hBz
                          obtain ⟨j, z, hj, rfl, rfl, hbk, hB⟩ := hrel
                          have HBK := Lib.hid hbk
                          have hBz := hB.size
                          clear hbk
                          have p0 := HBK.out.cell 0
                          have p1 := HBK.out.cell 1
                          have p2 := HBK.out.cell 2
                          have p3 := HBK.out.cell 3
                          have p4 := HBK.out.cell 4
                          have p5 := HBK.out.cell 5
                          have p6 := HBK.out.cell 6
                          have pl := HBK.out.lt
                          simp at p0 p1 p2 p3 p4 p5 p6
                          obtain ⟨wo, rfl⟩ : ∃ wo : World, wo = wr := ⟨_, rfl⟩
                          by_cases hlt1 : j < n5
                          · obtain ⟨y, hy⟩ : ∃ y, x.arms[j]? = .some y := ⟨_, List.getElem?_eq_getElem (by rw [N5.out]; exact hlt1)⟩
                            obtain ⟨b, o, c, hi, hbB, hce, hC, _⟩ := HAR.out.at 35 56 Tryd.underlying35 (by kernel_rfl) hy
                            obtain ⟨a6, c6, a7, c7, rfl, ⟨hz6, hz7⟩, hyw, hP⟩ := hC.open
                            have HYW := Lib.hid hyw
                            have e0 := (hB.cell hbB).trans (hce 0 _ rfl)
                            have e1 := (hB.cell hbB).trans (hce 1 _ rfl)
                            have hbB' := Nat.lt_of_lt_of_le hbB hB.size
                            rw [Nat.add_zero] at e0
                            obtain ⟨n6, hn6⟩ : ∃ n, y.words.length = n := ⟨_, rfl⟩
                            have N6 := Lib.hid hn6
                            rw [hn6] at e0 HYW hz6
                            have CP : Hid (∀ (W : World) (q : Int), Below w.heap.size w W → Calls Tryd.prog 8 #[.slice a7 y.body.length c7, .int .i64 m, .int .i64 q] W (SomeInt W)) := Lib.hid fun W q hW => HSZ.out W _ _ m q (hP.later hW)
                            clear hy hce hP hC hyw hn6
                            go_wp2_with fail
                            refine (CP.out _ _ (by repeat' (first | (with_reducible assumption) | (with_reducible exact Below.refl _ _) | (with_reducible refine below_drewN ?_ _) | (with_reducible refine below_bytes ?_ ?_ _) | (with_reducible refine Below.alloc ?_ ?_ _) | (with_reducible refine Below.drew ?_) | (with_reducible refine Below.setCell ?_ ?_ _) | go_size))).mono ?_
                            rintro e w1 ⟨z1, rfl, hb1⟩
                            have q0 : w1.cell? ⟨wo.heap.size, 0, none⟩ = some (.slice a6 n6 c6) := (hb1.cell (by simp)).trans (by simp)
                            have HBK1 := Lib.hid ((HBK.out.alloc (.cells #[.slice a6 n6 c6, .slice a7 y.body.length c7] 56)).below hb1 (by simp; omega))
                            have hB1 : Below w.heap.size w w1 := since hb1 (by repeat' (first | (with_reducible assumption) | (with_reducible exact Below.refl _ _) | (with_reducible refine below_drewN ?_ _) | (with_reducible refine below_bytes ?_ ?_ _) | (with_reducible refine Below.alloc ?_ ?_ _) | (with_reducible refine Below.drew ?_) | (with_reducible refine Below.setCell ?_ ?_ _) | go_size))
                            have hz1 := hb1.size
                            simp at hz1
                            clear hb1
                            go_wp2_with fail
                            clear hB hBz pl p0 p1 p2 p3 p4 p5 p6 hi e0 e1
                            obtain ⟨jo, hjo⟩ : ∃ jo, jo = j := ⟨_, rfl⟩
                            go_loopw [7, 137]
                              (fun t i W => ∃ (j : Nat) (z : Int), j ≤ n6 ∧ i = .int .i64 j ∧ t = .int .i64 z ∧ Blk W g 37 #[.int .i64 x.kind, .string x.name, .slice a1 n1 c1, .slice a2 n2 c2, .slice a3 n3 c3, .slice a4 n4 c4, .slice a5 n5 c5] ∧ Below w.heap.size w W) (fun _ i _ => n6 - (intOf i).toNat)
                            case atStart => exact ⟨0, _, Nat.zero_le _, rfl, rfl, HBK1.out, hB1⟩
                            case round =>
                              obtain ⟨j2, z, hj2, rfl, rfl, hbk, hB⟩ := hrel
                              have HBK2 := Lib.hid hbk
                              have hBz := hB.size
                              clear hbk
                              have p0 := HBK2.out.cell 0
                              have p1 := HBK2.out.cell 1
                              have p2 := HBK2.out.cell 2
                              have p3 := HBK2.out.cell 3
                              have p4 := HBK2.out.cell 4
                              have p5 := HBK2.out.cell 5
                              have p6 := HBK2.out.cell 6
                              have pl := HBK2.out.lt
                              simp at p0 p1 p2 p3 p4 p5 p6
                              by_cases hlt2 : j2 < n6
                              · obtain ⟨y2, hy⟩ : ∃ y2, y.words[j2]? = .some y2 := ⟨_, List.getElem?_eq_getElem (by rw [N6.out]; exact hlt2)⟩
                                obtain ⟨b, o, c, hi, hbB, hce, ⟨yv, rfl, hP⟩, _⟩ := HYW.out.at 29 26 Tryd.underlying29 (by kernel_rfl) hy
                                obtain ⟨a8, c8, rfl, _⟩ := hP.shape
                                have e0 := (hB.cell hbB).trans (hce 0 _ rfl)
                                have hbB' := Nat.lt_of_lt_of_le hbB hB.size
                                rw [Nat.add_zero] at e0
                                have CP2 : Hid (∀ (W : World) (q : Int), Below w.heap.size w W → Calls Tryd.prog 12 #[.slice a8 y2.length c8, .int .i64 m, .int .i64 q] W (SomeInt W)) := Lib.hid fun W q hW => HPZ.out W _ _ m q (hP.later hW)
                                clear hy hce hP
                                go_wp2_with fail
                                refine (CP2.out _ _ (by repeat' (first | (with_reducible assumption) | (with_reducible exact Below.refl _ _) | (with_reducible refine below_drewN ?_ _) | (with_reducible refine below_bytes ?_ ?_ _) | (with_reducible refine Below.alloc ?_ ?_ _) | (with_reducible refine Below.drew ?_) | (with_reducible refine Below.setCell ?_ ?_ _) | go_size))).mono ?_
                                rintro e w2 ⟨z2, rfl, hb2⟩
                                have HB2 := Lib.hid hb2
                                have hB2 : Below w.heap.size w w2 := since hb2 (by repeat' (first | (with_reducible assumption) | (with_reducible exact Below.refl _ _) | (with_reducible refine below_drewN ?_ _) | (with_reducible refine below_bytes ?_ ?_ _) | (with_reducible refine Below.alloc ?_ ?_ _) | (with_reducible refine Below.drew ?_) | (with_reducible refine Below.setCell ?_ ?_ _) | go_size))
                                clear hb2
                                go_wp2_with fail
                                go_roundw
                                case rel => exact ⟨j2 + 1, _, by omega, by go_num, rfl, HBK2.out.below HB2.out HBK2.out.lt, hB2⟩
                                case measure => simp [intOf]; omega
                              · go_wp2_with fail
                                go_roundw
                                case rel => exact ⟨j + 1, _, by omega, by go_num, rfl, HBK2.out, hB⟩
                                case measure => simp [intOf]; omega
                          · go_wp2_with fail
                            go_roundw
                            case rel => exact ⟨k + 1, _, by omega, by go_num, rfl, hB⟩
                            case measure => simp [intOf]; omega
    · go_wp2
      go_ret
      exact ⟨_, rfl, hB⟩

/-- parts and Size, at every depth. -/
theorem sizes : ∀ d, PartsZ d ∧ SizeZ d
  | 0 => by
    have hP : PartsZ 0 := fun W l v m q h => by
      rw [PtsIn] at h
      obtain rfl := h.zero
      obtain ⟨a, cap, rfl, _⟩ := h.len
      clear h
      have hn : ([] : List Pt).length = 0 := rfl
      rw [hn]
      go_enter Tryd.func12, Tryd.ntmps12
      go_wp2_with fail
      go_rounds 1
      go_ret
      exact ⟨_, rfl, Below.refl _ _⟩
    have hS : SizeZ 0 := fun W l v m q h => by
      rw [NdsIn] at h
      obtain rfl := h.zero
      obtain ⟨a, cap, rfl, _⟩ := h.len
      clear h
      have hn : ([] : List Nd).length = 0 := rfl
      rw [hn]
      go_enter Tryd.func8, Tryd.ntmps8
      go_wp2_with fail
      go_rounds 1
      go_ret
      exact ⟨_, rfl, Below.refl _ _⟩
    exact ⟨hP, hS⟩
  | d + 1 => by
    obtain ⟨h1, h2⟩ := sizes d
    exact ⟨fun W l v m q h => parts_step d h1 h2 l v m q W (by rw [PtsIn.succ] at h; exact h), fun W l v m q h => size_step d h1 h2 l v m q W (by rw [NdsIn.succ] at h; exact h)⟩
end Go.Proofs.YtnackmnoldkihaaDoor
/-
  The walk of the law on more levels.
-/
namespace Go.Proofs.YtnackmnoldkihaaDoor
open Go.RowKit

theorem small_any (l : List Nd) (v : Value) (w : World) (d : Nat) (hl : NdsIn w w.heap.size d l v) :
    Calls Tryd.prog 5 #[v] w fun e w' => (∃ b, e = .returned (.bool b)) ∧ Below w.heap.size w w' := by
  have CS := Lib.hid ((sizes d).2 w l v 3000 100 hl)
  clear hl
  go_enter Tryd.func5, Tryd.ntmps5
  go_wp2_with fail
  refine CS.out.mono ?_
  rintro e w1 ⟨z, rfl, hb1⟩
  have HB1 := Lib.hid hb1
  clear hb1
  go_wp2_with fail
  go_ret
  exact ⟨⟨_, rfl⟩, HB1.out⟩

set_option maxHeartbeats 2000000 in
set_option maxRecDepth 100000 in
theorem deeper_law (l : List Nd) (v : Value) (deep : Int) (w : World) (d : Nat) (hv : Held w) (hl : NdsIn w w.heap.size d l v) :
    Calls Tryd.prog 3 #[v, .int .i64 deep] w fun e w' => e = .returned (.bool true) ∧ Below w.heap.size w w' := by
  obtain ⟨a, cap, rfl, hz⟩ := hl.shape
  obtain ⟨n, hn⟩ : ∃ n, l.length = n := ⟨_, rfl⟩
  have CA := Lib.hid (anchor_any w hv hv)
  have CS : Hid (∀ W, Below w.heap.size w W → Calls Tryd.prog 5 #[.slice a l.length cap] W fun e w' => (∃ b, e = .returned (.bool b)) ∧ Below W.heap.size W w') :=
    Lib.hid fun W hW => small_any l _ W d ((hl.below hW).mono hW.size)
  have CR : Hid (∀ (m : Int) (l' : List Nd) (v' : Value), NdsIn w w.heap.size d l' v' → m ≤ 9223372036854775807 → ∀ W, Below w.heap.size w W → Calls Tryd.prog 6 #[v', .int .i64 m] W fun e w' => e = .returned (.bool (okL m.toNat l')) ∧ Below W.heap.size W w') :=
    Lib.hid fun m l' v' h' hm W hW => right_any l' v' m W d hm (hv.below hv.2 hW) ((h'.below hW).mono hW.size)
  have HL := Lib.hid hl
  have HN := Lib.hid hn
  rw [hn] at CS HL hz ⊢
  unfold bigN at hz
  clear hv hl hn
  go_enter Tryd.func3, Tryd.ntmps3
  go_wp2_with fail
  refine CA.out.mono ?_
  rintro e w1 ⟨rfl, hB1⟩
  go_wp2_with fail
  refine (CS.out _ hB1).mono ?_
  rintro e w2 ⟨⟨b, rfl⟩, hb0⟩
  have hB2 : Below w.heap.size w w2 := since hb0 hB1
  clear hb0
  cases b with
  | false =>
    go_wp2_with fail
    go_ret
    exact ⟨rfl, (by repeat' (first | (with_reducible assumption) | (with_reducible exact Below.refl _ _) | (with_reducible refine below_drewN ?_ _) | (with_reducible refine below_bytes ?_ ?_ _) | (with_reducible refine Below.alloc ?_ ?_ _) | (with_reducible refine Below.drew ?_) | (with_reducible refine Below.setCell ?_ ?_ _) | go_size))⟩
  | true =>
    by_cases h0 : deep < 0
    · have g0 : decide (deep < 0) = true := by simp [h0]
      go_wp2_with fail
      go_ret
      exact ⟨rfl, (by repeat' (first | (with_reducible assumption) | (with_reducible exact Below.refl _ _) | (with_reducible refine below_drewN ?_ _) | (with_reducible refine below_bytes ?_ ?_ _) | (with_reducible refine Below.alloc ?_ ?_ _) | (with_reducible refine Below.drew ?_) | (with_reducible refine Below.setCell ?_ ?_ _) | go_size))⟩
    · have g0 : decide (deep < 0) = false := by simp [h0]
      by_cases h1 : 150 < deep
      · have g1 : decide (150 < deep) = true := by simp [h1]
        go_wp2_with fail
        go_ret
        exact ⟨rfl, (by repeat' (first | (with_reducible assumption) | (with_reducible exact Below.refl _ _) | (with_reducible refine below_drewN ?_ _) | (with_reducible refine below_bytes ?_ ?_ _) | (with_reducible refine Below.alloc ?_ ?_ _) | (with_reducible refine Below.drew ?_) | (with_reducible refine Below.setCell ?_ ?_ _) | go_size))⟩
      · have g1 : decide (150 < deep) = false := by simp [h1]
        have CR1 := Lib.hid (CR.out deep l _ HL.out (by omega))
        obtain ⟨r, hr⟩ : ∃ r, okL deep.toNat l = r := ⟨_, rfl⟩
        rw [hr] at CR1
        have HR := Lib.hid hr
        clear hr
        go_wp2_with fail
        refine (CR1.out _ hB2).mono ?_
        rintro e w3 ⟨rfl, hb0⟩
        have hB3 : Below w.heap.size w w3 := since hb0 hB2
        clear hb0
        cases r with
        | false =>
          go_wp2_with fail
          go_ret
          exact ⟨rfl, (by repeat' (first | (with_reducible assumption) | (with_reducible exact Below.refl _ _) | (with_reducible refine below_drewN ?_ _) | (with_reducible refine below_bytes ?_ ?_ _) | (with_reducible refine Below.alloc ?_ ?_ _) | (with_reducible refine Below.drew ?_) | (with_reducible refine Below.setCell ?_ ?_ _) | go_size))⟩
        | true =>
          go_wp2_with fail
          go_loopw [27] (fun i W => ∃ k : Nat, k ≤ n ∧ i = .int .i64 k ∧ Below w.heap.size w W) (fun i _ => n - (intOf i).toNat)
          case atStart => exact ⟨0, Nat.zero_le _, rfl, hB3⟩
          case round =>
            obtain ⟨k, hk, rfl, hB⟩ := hrel
            by_cases hlt : k < n
            · obtain ⟨v1, hs1, hv1⟩ := NdsIn.mid (i := k) (j := k + 1) HL.out (by omega) (by rw [HN.out]; omega)
              obtain ⟨v2, hs2, hv2⟩ := NdsIn.to (j := k) HL.out (by rw [HN.out]; omega)
              have CR2 := Lib.hid (CR.out deep _ _ hv1 (by omega))
              have CR3 := Lib.hid (CR.out deep _ _ hv2 (by omega))
              rw [okL_sub HR.out (fun x hx => List.mem_of_mem_drop (List.mem_of_mem_take hx))] at CR2
              rw [okL_sub HR.out (fun x hx => List.mem_of_mem_take hx)] at CR3
              rw [show ((k + 1 : Nat) : Int) = (k : Int) + 1 by omega] at hs1
              clear hv1 hv2
              go_wp2_with fail
              refine (CR2.out _ hB).mono ?_
              rintro e w4 ⟨rfl, hb0⟩
              have hB4 : Below w.heap.size w w4 := since hb0 hB
              clear hb0
              go_wp2_with fail
              refine (CR3.out _ hB4).mono ?_
              rintro e w5 ⟨rfl, hb0⟩
              have hB5 : Below w.heap.size w w5 := since hb0 hB4
              clear hb0
              go_wp2_with fail
              go_roundw
              case rel => exact ⟨k + 1, by omega, by go_num, hB5⟩
              case measure => simp [intOf]; omega
            · have CR2 := Lib.hid (CR.out (deep + 1) l _ HL.out (by omega))
              have CR3 := Lib.hid (CR.out 200 l _ HL.out (by omega))
              rw [okL_le HR.out (show deep.toNat ≤ (deep + 1).toNat by omega)] at CR2
              rw [okL_le HR.out (show deep.toNat ≤ (200 : Int).toNat by omega)] at CR3
              go_wp2_with fail
              refine (CR2.out _ hB).mono ?_
              rintro e w4 ⟨rfl, hb0⟩
              have hB4 : Below w.heap.size w w4 := since hb0 hB
              clear hb0
              go_wp2_with fail
              refine (CR3.out _ hB4).mono ?_
              rintro e w5 ⟨rfl, hb0⟩
              have hB5 : Below w.heap.size w w5 := since hb0 hB4
              clear hb0
              go_wp2_with fail
              go_ret
              exact ⟨rfl, (by repeat' (first | (with_reducible assumption) | (with_reducible exact Below.refl _ _) | (with_reducible refine below_drewN ?_ _) | (with_reducible refine below_bytes ?_ ?_ _) | (with_reducible refine Below.alloc ?_ ?_ _) | (with_reducible refine Below.drew ?_) | (with_reducible refine Below.setCell ?_ ?_ _) | go_size))⟩
end Go.Proofs.YtnackmnoldkihaaDoor
/-
  The frame of a law's proof: what its arguments are when the call begins; that they read behind the call as they did.
-/
namespace Go.Proofs.YtnackmnoldkihaaDoor
open Go.ChangeShapes Go.WideShapes Go.ChangeAt Go.RowKit

theorem Tryd.own : ownKnob Tryd.prog.godebug = none := by kernel_rfl
theorem Tryd.laidOut : laidOutB Tryd.prog = true := by kernel_rfl

/-- All arguments read behind the call as before, where nothing has turned that was there. -/
theorem below_trodAll {H : Type} {enc : TypeId × Value → H} {P : Program} (hl : laidOutB P = true) {W W' : World} (hb : Below W.heap.size W W') :
    ∀ (ts : List TypeId) (vs : List Value) (ds : List (DataW H)) (ps : List MemPlace), (∀ t ∈ ts, P.readableRec t = true) → (∀ t ∈ ts, t < P.types.size) → (∀ x ∈ ps, x.block < W.heap.size) →
      DataW.TrodAll enc P W 0 (fun _ => true) true ts vs ds ps → DataW.TrodAll enc P W' 0 (fun b => decide (b < W.heap.size)) true ts vs ds ps := by
  intro ts
  induction ts with
  | nil =>
    intro vs ds ps _ _ _ h
    obtain ⟨rfl, rfl, rfl⟩ := trodAll_nil h
    rfl
  | cons t ts ih =>
    intro vs ds ps h1 h2 h3 h
    obtain ⟨v, vs', d, ds', p, q, rfl, rfl, rfl, ht, hts⟩ := trodAll_cons h
    exact trodAll_cons_mk (Below.trod hl (h1 t (by simp)) (h2 t (by simp)) ht hb (fun x hx => h3 x (by simp [hx])))
      (ih vs' ds' q (fun t ht => h1 t (by simp [ht])) (fun t ht => h2 t (by simp [ht])) (fun x hx => h3 x (by simp [hx])) hts)

section
variable {H : Type} {enc : TypeId × Value → H} {P : Program} {W : World}

/-- A slice of strings that came in. -/
theorem open_strs {t e : TypeId} {v : Value} {d : DataW H} {p : List MemPlace} (ht : P.underlying t = some (.slice e)) (he : P.underlying e = some .string) (hc : P.cellsOf e = 1) {r : Reach} {base : Nat}
    (hok : Value.okWide P W r base t v) (h : DataW.Trod enc P W 0 (fun _ => true) true t v d p) (hlt : ∀ x ∈ p, x.block < W.heap.size) :
    ∃ a n cap ss, v = .slice a n cap ∧ Elems W W.heap.size a n ((ss : List ByteArray).map Value.string) ∧ ∀ s ∈ ss, s.size ≤ maxLen := by
  obtain ⟨a0, len, cap, rfl⟩ := okWide_slice ht hok
  obtain ⟨fuel, hf⟩ := h
  rcases open_strings ht he hc hf with ⟨hcs, hx⟩ | ⟨a, len', cap', ss, hcs, _, hl, hm, hz, hx, hcell, hws⟩
  · simp [Value.cells] at hcs
    obtain ⟨rfl, rfl, rfl⟩ := hcs
    exact ⟨none, 0, 0, [], rfl, ⟨rfl, Nat.zero_le _, .inl rfl⟩, by simp⟩
  · simp [Value.cells] at hcs
    obtain ⟨rfl, rfl, rfl⟩ := hcs
    simp only [Prod.mk.injEq] at hx
    obtain ⟨rfl, rfl⟩ := hx
    simp only [if_true] at hz
    refine ⟨some a, len, cap, ss.take len, rfl, ⟨by simp; omega, by omega, ?_⟩, fun s hs => hws s (List.mem_of_mem_take hs)⟩
    by_cases hl0 : len = 0
    · exact .inl hl0
    · obtain ⟨b, off, spot⟩ := a
      have hspot : spot = none := by simpa [Addr.add] using World.cell?_spot (hcell 0 (by omega))
      subst hspot
      refine .inr ⟨b, off, rfl, hlt (.cell b off) (MemPlace.mem_row.2 ⟨0, by omega, by simp⟩), fun i hi => ?_⟩
      rw [← addr_add, hcell i (by omega)]
      simp [hi, List.getD, List.getElem?_eq_getElem (show i < ss.length by omega)]

/-- The same; and no string is longer than the call's reach. -/
theorem open_strs_z {t e : TypeId} {v : Value} {d : DataW H} {p : List MemPlace} (ht : P.underlying t = some (.slice e)) (he : P.underlying e = some .string) (hc : P.cellsOf e = 1) {r : Reach} {base : Nat}
    (hok : Value.okWide P W r base t v) (h : DataW.Trod enc P W 0 (fun _ => true) true t v d p) (hlt : ∀ x ∈ p, x.block < W.heap.size) {Z : Nat} (hz : ∀ n ∈ d.weights P t, n ≤ Z) :
    ∃ a n cap ss, v = .slice a n cap ∧ Elems W W.heap.size a n ((ss : List ByteArray).map Value.string) ∧ ∀ s ∈ ss, s.size ≤ Z := by
  obtain ⟨a0, len, cap, rfl⟩ := okWide_slice ht hok
  obtain ⟨fuel, hf⟩ := h
  rcases open_strings ht he hc hf with ⟨hcs, hx⟩ | ⟨a, len', cap', ss, hcs, _, hl, hm, hz2, hx, hcell, hws⟩
  · simp [Value.cells] at hcs
    obtain ⟨rfl, rfl, rfl⟩ := hcs
    exact ⟨none, 0, 0, [], rfl, ⟨rfl, Nat.zero_le _, .inl rfl⟩, by simp⟩
  · simp [Value.cells] at hcs
    obtain ⟨rfl, rfl, rfl⟩ := hcs
    simp only [Prod.mk.injEq] at hx
    obtain ⟨rfl, rfl⟩ := hx
    simp only [if_true] at hz2
    refine ⟨some a, len, cap, ss.take len, rfl, ⟨by simp; omega, by omega, ?_⟩, fun s hs => ?_⟩
    · by_cases hl0 : len = 0
      · exact .inl hl0
      · obtain ⟨b, off, spot⟩ := a
        have hspot : spot = none := by simpa [Addr.add] using World.cell?_spot (hcell 0 (by omega))
        subst hspot
        refine .inr ⟨b, off, rfl, hlt (.cell b off) (MemPlace.mem_row.2 ⟨0, by omega, by simp⟩), fun i hi => ?_⟩
        rw [← addr_add, hcell i (by omega)]
        simp [hi, List.getD, List.getElem?_eq_getElem (show i < ss.length by omega)]
    · refine hz _ ?_
      have key : ∀ l : List ByteArray, s ∈ l → s.size ∈ DataW.weightsAll P e (strs l : List (DataW H)) := by
        intro l
        induction l with
        | nil => intro h; simp at h
        | cons x l ih =>
          intro h
          simp only [strs, List.map_cons, DataW.weightsAll, DataW.weights]
          rcases List.mem_cons.1 h with rfl | h
          · exact List.mem_append_left _ (by simp)
          · exact List.mem_append_right _ (ih h)
      simp only [DataW.weights, ht]
      exact List.mem_cons_of_mem _ (List.mem_append_left _ (key _ hs))
end

/-- A law's end: it has returned true, and nothing has turned that was there. -/
theorem law_post {H : Type} {enc : TypeId × Value → H} {fn : Func} {s : ChangeSpec} {W W' : World} {args : Array Value} {ds : List (DataW H)} {p : List MemPlace}
    (hv : s.vars = []) (hs : s.fn H (ds ++ []) = { results := [.lit (.bool true)], args := ds }) (hres : fn.resultTypes = #[4])
    (hr : fn.params.toList.all (fun t => Tryd.prog.readableRec t && decide (t < Tryd.prog.types.size)) = true)
    (hW : DataW.Whole enc Tryd.prog fn.params.toList s.vars false W args.toList ds [] p)
    (hA : DataW.TrodAll enc Tryd.prog W 0 (fun _ => true) true fn.params.toList args.toList ds p) (hb : Below W.heap.size W W') :
    s.post enc Tryd.prog fn false true false false W args (.bool true) W' := by
  have hlt : ∀ x ∈ p, x.block < W.heap.size := fun x hx => by simpa using hW.lt x hx
  refine ⟨_, _, _, [], p, [], hW, ?_, ?_, ?_, hb.frame _, fun h => by cases h⟩
  · rw [hs, hres]; exact trodAll_mk1 (shut_bool Tryd.underlying4 true)
  · rw [hs]; exact below_trodAll Tryd.laidOut hb _ _ _ _ (fun t ht => (by simpa using (List.all_eq_true.1 hr) t ht : _ ∧ _).1) (fun t ht => (by simpa using (List.all_eq_true.1 hr) t ht : _ ∧ _).2) hlt hA
  · rw [hs, hv]; rfl
end Go.Proofs.YtnackmnoldkihaaDoor
/-
  A slice of structs that came in: its cells.
-/
namespace Go.Proofs.YtnackmnoldkihaaDoor
open Go.ChangeShapes Go.WideShapes Go.ChangeAt Go.RowKit Go.Deep

section
variable {H : Type} {enc : TypeId × Value → H} {P : Program} {W : World}

/-- Each element's each field lies in a cell of its own and can be read. -/
theorem open_structs {t e : TypeId} {fs : Array Field} {v : Value} {d : DataW H} {p : List MemPlace} (ht : P.underlying t = some (.slice e)) (he : P.underlying e = some (.struct fs)) (hone : oneCellFields P fs = true) (hC : P.cellsOf e = fs.size) (hpos : 0 < fs.size)
    {r : Reach} {base : Nat} (hok : Value.okWide P W r base t v) (h : DataW.Trod enc P W 0 (fun _ => true) true t v d p) (hlt : ∀ x ∈ p, x.block < W.heap.size) :
    ∃ a n cap, v = .slice a n cap ∧ n ≤ cap ∧ cap ≤ maxLen ∧ (n = 0 ∨ ∃ b off, a = some ⟨b, off, none⟩ ∧ b < W.heap.size ∧ ∀ i, i < n → ∀ (j : Nat) (f : Field), fs[j]? = some f →
      ∃ (u : Value) (y : DataW H × List MemPlace) (k : Nat), W.cell? ⟨b, off + (i * fs.size + j), none⟩ = some u ∧ DataW.trod enc P W 0 (fun _ => true) true k f.type [u] = some y) := by
  obtain ⟨a0, len, cap, rfl⟩ := okWide_slice ht hok
  obtain ⟨fuel, hf⟩ := h
  rcases open_slice ht hf with ⟨hcs, _⟩ | ⟨a, len', cap', m, n, D, Pl, hcs, _, hl, hm, hmm, hx, hi⟩
  · simp [Value.cells] at hcs
    obtain ⟨rfl, rfl, rfl⟩ := hcs
    exact ⟨none, 0, 0, rfl, Nat.le_refl _, Nat.zero_le _, .inl rfl⟩
  · simp [Value.cells] at hcs
    obtain ⟨rfl, rfl, rfl⟩ := hcs
    simp only [Prod.mk.injEq] at hx
    obtain ⟨rfl, rfl⟩ := hx
    simp only [if_true] at hmm
    replace hmm := hmm.symm
    subst hmm
    rw [hC] at hi hlt
    refine ⟨some a, len, cap, rfl, hl, hm, ?_⟩
    by_cases hl0 : len = 0
    · exact .inl hl0
    right
    -- every cell of the row, by its element and its field
    have cell : ∀ i, i < cap → ∀ (j : Nat) (f : Field), fs[j]? = some f → ∃ (u : Value) (y : DataW H × List MemPlace) (k : Nat), W.cell? ((a.add (i * fs.size)).add j) = some u ∧ DataW.trod enc P W 0 (fun _ => true) true k f.type [u] = some y := by
      intro i hic j f hj
      obtain ⟨cs, hc, hst⟩ := hi i hic
      obtain ⟨ys, k, _, _, _, hyl, hg⟩ := DataW.trod_struct he hst
      obtain ⟨_, hcl, hat⟩ := World.cells?_some hc
      obtain ⟨ho, hk⟩ := hone_of hone j f hj
      have hjl : j < fs.size := (Array.getElem?_eq_some_iff.1 hj).1
      have hg' := hg j f hj
      rw [ho, hk, List.drop_eq_getElem_cons (by omega), List.take_succ_cons, List.take_zero, List.getElem?_eq_getElem (by omega)] at hg'
      exact ⟨_, _, _, (hat j hjl).trans (List.getElem?_eq_getElem (by omega)), hg'⟩
    obtain ⟨b, off, spot⟩ := a
    obtain ⟨f0, hf0⟩ : ∃ f0, fs[0]? = some f0 := ⟨_, Array.getElem?_eq_getElem hpos⟩
    obtain ⟨u0, _, _, hu0, _⟩ := cell 0 (by omega) 0 f0 hf0
    have hspot : spot = none := by simpa [Addr.add] using World.cell?_spot hu0
    subst hspot
    refine ⟨b, off, rfl, hlt (.cell b off) (List.mem_append_left _ (MemPlace.mem_row.2 ⟨0, Nat.mul_pos (by omega) hpos, by simp⟩)), fun i hil j f hj => ?_⟩
    obtain ⟨u, y, k, h1, h2⟩ := cell i (by omega) j f hj
    rw [addr_add, addr_add] at h1
    exact ⟨u, y, k, by rw [← Nat.add_assoc]; exact h1, h2⟩

/-- The same; and what is read weighs no more than the whole. -/
theorem open_structs_z {t e : TypeId} {fs : Array Field} {v : Value} {d : DataW H} {p : List MemPlace} (ht : P.underlying t = some (.slice e)) (he : P.underlying e = some (.struct fs)) (hone : oneCellFields P fs = true) (hC : P.cellsOf e = fs.size) (hpos : 0 < fs.size)
    {r : Reach} {base : Nat} (hok : Value.okWide P W r base t v) (h : DataW.Trod enc P W 0 (fun _ => true) true t v d p) (hlt : ∀ x ∈ p, x.block < W.heap.size) {Z : Nat} (hz : ∀ n ∈ d.weights P t, n ≤ Z) :
    ∃ a n cap, v = .slice a n cap ∧ n ≤ cap ∧ cap ≤ maxLen ∧ n * P.bytesOf e ≤ Z ∧ (n = 0 ∨ ∃ b off, a = some ⟨b, off, none⟩ ∧ b < W.heap.size ∧ ∀ i, i < n → ∀ (j : Nat) (f : Field), fs[j]? = some f →
      ∃ (u : Value) (y : DataW H × List MemPlace) (k : Nat), W.cell? ⟨b, off + (i * fs.size + j), none⟩ = some u ∧ DataW.trod enc P W 0 (fun _ => true) true k f.type [u] = some y ∧ ∀ n ∈ y.1.weights P f.type, n ≤ Z) := by
  obtain ⟨a0, len, cap, rfl⟩ := okWide_slice ht hok
  obtain ⟨fuel, hf⟩ := h
  rcases open_slice ht hf with ⟨hcs, _⟩ | ⟨a, len', cap', m, n, D, Pl, hcs, _, hl, hm, hmm, hx, hi⟩
  · simp [Value.cells] at hcs
    obtain ⟨rfl, rfl, rfl⟩ := hcs
    exact ⟨none, 0, 0, rfl, Nat.le_refl _, Nat.zero_le _, by rw [Nat.zero_mul]; exact Nat.zero_le _, .inl rfl⟩
  · simp [Value.cells] at hcs
    obtain ⟨rfl, rfl, rfl⟩ := hcs
    simp only [Prod.mk.injEq] at hx
    obtain ⟨rfl, rfl⟩ := hx
    simp only [if_true] at hmm
    replace hmm := hmm.symm
    subst hmm
    rw [hC] at hi hlt
    refine ⟨some a, len, cap, rfl, hl, hm, Nat.le_trans (Nat.mul_le_mul_right _ (Nat.le_add_right len _)) (hz _ (by simp only [DataW.weights, ht, List.length_map, List.length_range]; exact List.mem_cons_self ..)), ?_⟩
    by_cases hl0 : len = 0
    · exact .inl hl0
    right
    -- every cell of the row, by its element and its field
    have cell : ∀ i, i < len → ∀ (j : Nat) (f : Field), fs[j]? = some f → ∃ (u : Value) (y : DataW H × List MemPlace) (k : Nat), W.cell? ((a.add (i * fs.size)).add j) = some u ∧ DataW.trod enc P W 0 (fun _ => true) true k f.type [u] = some y ∧ ∀ n ∈ y.1.weights P f.type, n ≤ Z := by
      intro i hic j f hj
      obtain ⟨cs, hc, hst⟩ := hi i (by omega)
      obtain ⟨ys, k, _, hxe, _, hyl, hg⟩ := DataW.trod_struct he hst
      obtain ⟨_, hcl, hat⟩ := World.cells?_some hc
      obtain ⟨ho, hk⟩ := hone_of hone j f hj
      have hjl : j < fs.size := (Array.getElem?_eq_some_iff.1 hj).1
      have hg' := hg j f hj
      rw [ho, hk, List.drop_eq_getElem_cons (by omega), List.take_succ_cons, List.take_zero, List.getElem?_eq_getElem (by omega)] at hg'
      refine ⟨_, _, _, (hat j hjl).trans (List.getElem?_eq_getElem (by omega)), hg', fun n hn => hz n ?_⟩
      have hD : D i = .agg (ys.map (·.1)) := congrArg Prod.fst hxe
      have key : ∀ (l : List (DataW H)) (x : DataW H), x ∈ l → ∀ n ∈ x.weights P e, n ∈ DataW.weightsAll P e l := by
        intro l
        induction l with
        | nil => intro x h; simp at h
        | cons a l ih =>
          intro x h n hn
          simp only [DataW.weightsAll]
          rcases List.mem_cons.1 h with rfl | h
          · exact List.mem_append_left _ hn
          · exact List.mem_append_right _ (ih x h n hn)
      simp only [DataW.weights, ht]
      refine List.mem_cons_of_mem _ (List.mem_append_left _ (key _ (D i) (List.mem_map.2 ⟨i, List.mem_range.2 hic, rfl⟩) n ?_))
      rw [hD]
      simp only [DataW.weights, he]
      exact DataW.weights_mem_each (j := j) (by simp [hj]) (by rw [List.getElem?_map, List.getElem?_eq_getElem (show j < ys.length by omega)]; rfl) n hn
    obtain ⟨b, off, spot⟩ := a
    obtain ⟨f0, hf0⟩ : ∃ f0, fs[0]? = some f0 := ⟨_, Array.getElem?_eq_getElem hpos⟩
    obtain ⟨u0, _, _, hu0, _, _⟩ := cell 0 (by omega) 0 f0 hf0
    have hspot : spot = none := by simpa [Addr.add] using World.cell?_spot hu0
    subst hspot
    refine ⟨b, off, rfl, hlt (.cell b off) (List.mem_append_left _ (MemPlace.mem_row.2 ⟨0, Nat.mul_pos (by omega) hpos, by simp⟩)), fun i hil j f hj => ?_⟩
    obtain ⟨u, y, k, h1, h2, h3⟩ := cell i hil j f hj
    rw [addr_add, addr_add] at h1
    exact ⟨u, y, k, by rw [← Nat.add_assoc]; exact h1, h2, h3⟩
end

/-- So many things, one for each number. -/
theorem list_of {α : Type} {Q : Nat → α → Prop} : ∀ (n : Nat), (∀ i, i < n → ∃ x, Q i x) → ∃ l : List α, l.length = n ∧ ∀ i x, l[i]? = some x → Q i x
  | 0, _ => ⟨[], rfl, by simp⟩
  | n + 1, h => by
    obtain ⟨l, hl, hq⟩ := list_of n fun i hi => h i (by omega)
    obtain ⟨x, hx⟩ := h n (by omega)
    refine ⟨l ++ [x], by simp [hl], fun i y hy => ?_⟩
    rw [List.getElem?_append] at hy
    split at hy
    · exact hq i y hy
    · have hi : i = n := by
        rcases Nat.lt_or_ge (i - l.length) 1 with h1 | h1
        · omega
        · rw [List.getElem?_eq_none (by simpa using h1)] at hy; cases hy
      subst hi
      rw [hl, Nat.sub_self] at hy
      simp at hy
      subst hy
      exact hx

/-- A slice whose cells are its elements', one by one. -/
theorem sl_of {α : Type} {w : World} {B size n cap b off : Nat} (f : α → List Value) (hf : ∀ x, (f x).length = size) (hs : 0 < size) {l : List α} (hl : l.length = n) (hc : n ≤ cap) (hm : cap ≤ maxLen) (hb : b < B)
    (h : ∀ i x, l[i]? = some x → ∀ j, j < size → w.cell? ⟨b, off + (i * size + j), none⟩ = (f x)[j]?) : Sl w B size (.slice (some ⟨b, off, none⟩) n cap) n (l.flatMap f) := by
  refine ⟨by rw [flat_len f size hf, hl], _, _, rfl, hc, hm, .inr ⟨b, off, rfl, hb, fun j hj => ?_⟩⟩
  have h1 : j / size < l.length := by rw [hl]; exact Nat.div_lt_of_lt_mul (by rw [Nat.mul_comm]; exact hj)
  have h2 : j % size < size := Nat.mod_lt _ hs
  have h3 : j / size * size + j % size = j := by rw [Nat.mul_comm]; exact Nat.div_add_mod j size
  have hx : l[j / size]? = some l[j / size] := List.getElem?_eq_getElem h1
  have e1 := h _ _ hx _ h2
  have e2 := flat_get f size hf l _ _ hx _ h2
  rw [h3] at e1 e2
  rw [e1, e2]
end Go.Proofs.YtnackmnoldkihaaDoor
/-
  Scripts that came in: how they lie, out of what the form reads; what they weigh.
-/
namespace Go.Proofs.YtnackmnoldkihaaDoor
open Go.ChangeShapes Go.WideShapes Go.ChangeAt Go.RowKit Go.Deep

/-! ### what a script weighs -/
def wtP (fw : List Pt → Nat) (fl : List Nd → Nat) (p : Pt) : Nat := 1 + p.text.size + p.op.size + fw p.word + fl p.body
def wtA (fw : List Pt → Nat) (a : As) : Nat := 1 + a.name.size + fw a.word
def wtR (fw : List Pt → Nat) (r : Rd) : Nat := 1 + r.op.size + r.tag.size + fw r.word
def wtY (fw : List Pt → Nat) (y : List Pt) : Nat := 1 + fw y
def wtS (fl : List Nd → Nat) (y : List Nd) : Nat := 1 + fl y
def wtM (fw : List Pt → Nat) (fl : List Nd → Nat) (a : Ar) : Nat := 1 + (a.words.map (wtY fw)).sum + fl a.body
def wtN (fw : List Pt → Nat) (fl : List Nd → Nat) (x : Nd) : Nat :=
  1 + x.name.size + (x.assigns.map (wtA fw)).sum + (x.words.map (wtY fw)).sum + (x.redirs.map (wtR fw)).sum + (x.lists.map (wtS fl)).sum + (x.arms.map (wtM fw fl)).sum
mutual
def wtW : Nat → List Pt → Nat
  | 0, _ => 0
  | n + 1, l => (l.map (wtP (wtW n) (wtL n))).sum
def wtL : Nat → List Nd → Nat
  | 0, _ => 0
  | n + 1, l => (l.map (wtN (wtW n) (wtL n))).sum
end

/-! ### bulk -/
theorem bulk_one {H : Type} (d : DataW H) : 1 ≤ Rows.uptoBulk d := by
  cases d with
  | lit l => cases l <;> simp [Rows.uptoBulk]
  | nil => simp [Rows.uptoBulk]
  | ptr d => simp [Rows.uptoBulk]
  | slice elems spare => simp [Rows.uptoBulk]
  | agg parts => simp [Rows.uptoBulk]
  | iface t d => simp [Rows.uptoBulk]
  | map entries => simp [Rows.uptoBulk]
  | held h => simp [Rows.uptoBulk]
theorem bulk_all {H : Type} (l : List (DataW H)) : Rows.uptoBulkAll l = (l.map Rows.uptoBulk).sum := by
  induction l with
  | nil => simp [Rows.uptoBulkAll]
  | cons x l ih => simp [Rows.uptoBulkAll, ih]
theorem sum_le_range {α : Type} (f : α → Nat) : ∀ (l : List α) (g : Nat → Nat), (∀ i x, l[i]? = some x → f x ≤ g i) → (l.map f).sum ≤ ((List.range l.length).map g).sum
  | [], _, _ => Nat.le_refl _
  | x :: l, g, h => by
    have e := sum_le_range f l (fun i => g (i + 1)) fun i x hx => h (i + 1) x (by simpa using hx)
    have h0 := h 0 x rfl
    rw [List.length_cons, List.range_succ_eq_map, List.map_cons, List.sum_cons, List.map_cons, List.sum_cons, List.map_map]
    exact Nat.add_le_add h0 e
theorem len_le_sum {α : Type} (f : α → Nat) (l : List α) (h : ∀ x ∈ l, 1 ≤ f x) : l.length ≤ (l.map f).sum := by
  induction l with
  | nil => exact Nat.le_refl _
  | cons x l ih =>
    have h0 := h x (by simp)
    have h1 := ih fun y hy => h y (by simp [hy])
    simp only [List.length_cons, List.map_cons, List.sum_cons]
    omega
theorem mem_le_sum {α : Type} (f : α → Nat) {l : List α} {x : α} (h : x ∈ l) : f x ≤ (l.map f).sum := by
  induction l with
  | nil => simp at h
  | cons y l ih =>
    rcases List.mem_cons.1 h with rfl | h
    · simp
    · have := ih h; simp only [List.map_cons, List.sum_cons]; omega

section
variable {H : Type} {enc : TypeId × Value → H} {W : World}

/-- The fields of a struct, one by one. -/
theorem struct_cells {P : Program} {t : TypeId} {fs : Array Field} {cs : List Value} {fuel : Nat} {x : DataW H × List MemPlace} (he : P.underlying t = some (.struct fs)) (hone : oneCellFields P fs = true) (h : DataW.trod enc P W 0 (fun _ => true) true fuel t cs = some x) (hlen : cs.length = fs.size) :
    ∃ (ys : List (DataW H × List MemPlace)) (k : Nat), x = (.agg (ys.map (·.1)), ys.flatMap (·.2)) ∧ ys.length = fs.size ∧ ∀ (j : Nat) (f : Field), fs[j]? = some f → ∃ u y, cs[j]? = some u ∧ ys[j]? = some y ∧ DataW.trod enc P W 0 (fun _ => true) true k f.type [u] = some y := by
  obtain ⟨ys, k, _, hx, _, hyl, hg⟩ := DataW.trod_struct he h
  refine ⟨ys, k, hx, hyl, fun j f hj => ?_⟩
  obtain ⟨ho, hk⟩ := hone_of hone j f hj
  have hjl : j < fs.size := (Array.getElem?_eq_some_iff.1 hj).1
  have hg' := hg j f hj
  rw [ho, hk, List.drop_eq_getElem_cons (by omega), List.take_succ_cons, List.take_zero] at hg'
  exact ⟨cs[j], ys[j], List.getElem?_eq_getElem (by omega), List.getElem?_eq_getElem (by omega), by rw [hg', List.getElem?_eq_getElem (by omega)]⟩

/-- A slice of things, each of which lies as F tells. -/
theorem slof_in {t e : TypeId} {size : Nat} (ht : Tryd.prog.underlying t = some (.slice e)) (hC : Tryd.prog.cellsOf e = size) (hs : 0 < size) {α : Type} (F : α → List Value → Prop) (wt : α → Nat) {fuel : Nat} {cs : List Value} {x : DataW H × List MemPlace} {N B : Nat}
    (h : DataW.trod enc Tryd.prog W 0 (fun _ => true) true fuel t cs = some x) (hlt : ∀ p ∈ x.2, p.block < B) (hN : Rows.uptoBulk x.1 ≤ N + 1) (hbig : N ≤ bigN)
    (elem : ∀ (fuel : Nat) (cs : List Value) (y : DataW H × List MemPlace), cs.length = size → DataW.trod enc Tryd.prog W 0 (fun _ => true) true fuel e cs = some y → (∀ p ∈ y.2, p.block < B) → Rows.uptoBulk y.1 ≤ N → ∃ a : α, F a cs ∧ wt a ≤ Rows.uptoBulk y.1) :
    ∃ (v : Value) (l : List α), cs = [v] ∧ SlOf W B size F l v ∧ (l.map wt).sum + 1 ≤ Rows.uptoBulk x.1 := by
  rcases open_slice ht h with ⟨rfl, rfl⟩ | ⟨a, len, cap, m, n, D, Pl, rfl, _, hl, hm, hmm, rfl, hi⟩
  · exact ⟨_, [], rfl, ⟨Nat.zero_le _, [], rfl, fun c hc => by simp at hc, Sl.nil W B size, fun i x c hx => by simp at hx⟩, by simp [Rows.uptoBulk]⟩
  · simp only [if_true] at hmm
    replace hmm := hmm.symm
    subst hmm
    rw [hC] at hi hlt
    simp only [Rows.uptoBulk, bulk_all, List.map_map] at hN ⊢
    have hmem : ∀ i, i < len → Rows.uptoBulk (D i) ≤ ((List.range len).map (Rows.uptoBulk ∘ D)).sum := fun i hil => mem_le_sum (Rows.uptoBulk ∘ D) (List.mem_range.2 hil)
    have hlen := len_le_sum (Rows.uptoBulk ∘ D) (List.range len) fun i _ => bulk_one _
    rw [List.length_range] at hlen
    obtain ⟨l, hll, hq⟩ := list_of (Q := fun i (z : α × List Value) => W.cells? 0 (a.add (i * size)) size = some z.2 ∧ F z.1 z.2 ∧ wt z.1 ≤ Rows.uptoBulk (D i) ∧ z.2.length = size) len fun i hil => by
      obtain ⟨cs, hc, hst⟩ := hi i (by omega)
      obtain ⟨_, hcl, hat⟩ := World.cells?_some hc
      have h2 : ∀ p ∈ Pl i, p.block < B := fun p hp => hlt p (List.mem_append_right _ (List.mem_flatMap.2 ⟨i, List.mem_range.2 (by omega), hp⟩))
      obtain ⟨y, hF, hw⟩ := elem _ cs _ hcl hst h2 (by have := hmem i hil; simp only; omega)
      exact ⟨(y, cs), hc, hF, hw, hcl⟩
    have hsum := sum_le_range (fun z : α × List Value => wt z.1) l (fun i => Rows.uptoBulk (D i)) fun i z hz => (hq i z hz).2.2.1
    rw [hll] at hsum
    refine ⟨_, l.map (·.1), rfl, ⟨by rw [List.length_map, hll]; omega, l.map (·.2), by simp, fun c hc => ?_, ?_, fun i x c hx hc => ?_⟩, ?_⟩
    · obtain ⟨z, hz, rfl⟩ := List.mem_map.1 hc
      obtain ⟨i, hi, he⟩ := List.mem_iff_getElem.1 hz
      exact (hq i z (by rw [List.getElem?_eq_getElem hi, he])).2.2.2
    · have hfl : (l.map (·.2)).flatten = l.flatMap (·.2) := by rw [List.flatMap_def]
      rw [List.length_map, hll, hfl]
      by_cases hl0 : len = 0
      · subst hl0
        obtain rfl : l = [] := List.length_eq_zero_iff.1 hll
        exact ⟨by simp, _, _, rfl, hl, hm, .inl rfl⟩
      · obtain ⟨b, off, spot⟩ := a
        have hl1 : ∀ (l' : List (α × List Value)), (∀ z ∈ l', z.2.length = size) → ∀ (k : Nat) (z : α × List Value), l'[k]? = some z → ∀ j, j < size → (l'.flatMap (·.2))[k * size + j]? = z.2[j]? := by
          intro l'
          induction l' with
          | nil => intro _ k z hz; simp at hz
          | cons y l' ih =>
            intro hs k z hz j hj
            have hy := hs y (by simp)
            cases k with
            | zero =>
              simp at hz; subst hz
              rw [List.flatMap_cons, Nat.zero_mul, Nat.zero_add, List.getElem?_append_left (by omega)]
            | succ k =>
              rw [List.flatMap_cons, List.getElem?_append_right (by rw [hy, Nat.succ_mul]; omega), hy, show (k + 1) * size + j - size = k * size + j by rw [Nat.succ_mul]; omega]
              exact ih (fun z hz => hs z (by simp [hz])) k z (by simpa using hz) j hj
        have hl2 : ∀ (l' : List (α × List Value)), (∀ z ∈ l', z.2.length = size) → (l'.flatMap (·.2)).length = l'.length * size := by
          intro l'
          induction l' with
          | nil => intro _; simp
          | cons y l' ih => intro hs; rw [List.flatMap_cons, List.length_append, hs y (by simp), ih (fun z hz => hs z (by simp [hz])), List.length_cons, Nat.succ_mul]; omega
        have hsz : ∀ z ∈ l, z.2.length = size := fun z hz => by
          obtain ⟨i, hi, he⟩ := List.mem_iff_getElem.1 hz
          exact (hq i z (by rw [List.getElem?_eq_getElem hi, he])).2.2.2
        have cell : ∀ i z, l[i]? = some z → ∀ j, j < size → W.cell? (((⟨b, off, spot⟩ : Addr).add (i * size)).add j) = z.2[j]? := fun i z hz j hj => by
          obtain ⟨hc, _, _, hcl⟩ := hq i z hz
          obtain ⟨_, _, hat⟩ := World.cells?_some hc
          exact hat j hj
        obtain ⟨z0, hz0⟩ : ∃ z, l[0]? = some z := ⟨_, List.getElem?_eq_getElem (by omega)⟩
        have hspot : spot = none := by
          have c0 := cell 0 z0 hz0 0 hs
          rw [List.getElem?_eq_getElem (by rw [(hq 0 z0 hz0).2.2.2]; exact hs)] at c0
          simpa [Addr.add] using World.cell?_spot c0
        subst hspot
        refine ⟨by rw [hl2 l hsz, hll], _, _, rfl, hl, hm, .inr ⟨b, off, rfl, hlt (.cell b off) (List.mem_append_left _ (MemPlace.mem_row.2 ⟨0, Nat.mul_pos (by omega) hs, by simp⟩)), fun j hj => ?_⟩⟩
        have h1 : j / size < l.length := by rw [hll]; exact Nat.div_lt_of_lt_mul (by rw [Nat.mul_comm]; exact hj)
        have h2 : j % size < size := Nat.mod_lt _ hs
        have h3 : j / size * size + j % size = j := by rw [Nat.mul_comm]; exact Nat.div_add_mod j size
        have hx : l[j / size]? = some l[j / size] := List.getElem?_eq_getElem h1
        have e1 := cell _ _ hx _ h2
        have e2 := hl1 l hsz _ _ hx _ h2
        rw [addr_add, addr_add, Nat.add_assoc, h3] at e1
        rw [h3] at e2
        rw [e1, e2]
    · rw [List.getElem?_map] at hx hc
      obtain ⟨z, hz, rfl⟩ := Option.map_eq_some_iff.1 hx
      rw [hz] at hc
      simp at hc
      subst hc
      exact (hq i z hz).2.1
    · rw [List.map_map]
      have hsum' : (l.map (wt ∘ fun z => z.1)).sum ≤ ((List.range len).map (Rows.uptoBulk ∘ D)).sum := hsum
      omega
end
end Go.Proofs.YtnackmnoldkihaaDoor
/-
  Scripts that came in, at every depth.
-/
namespace Go.Proofs.YtnackmnoldkihaaDoor
open Go.ChangeShapes Go.WideShapes Go.ChangeAt Go.RowKit Go.Deep

section
variable {H : Type} (enc : TypeId × Value → H) (W : World) (B : Nat)

def PtsRead (n : Nat) : Prop := ∀ (fuel : Nat) (cs : List Value) (x : DataW H × List MemPlace), DataW.trod enc Tryd.prog W 0 (fun _ => true) true fuel 26 cs = some x → (∀ p ∈ x.2, p.block < B) → Rows.uptoBulk x.1 ≤ n →
  ∃ v l, cs = [v] ∧ PtsIn W B n l v ∧ wtW n l + 1 ≤ Rows.uptoBulk x.1
def NdsRead (n : Nat) : Prop := ∀ (fuel : Nat) (cs : List Value) (x : DataW H × List MemPlace), DataW.trod enc Tryd.prog W 0 (fun _ => true) true fuel 22 cs = some x → (∀ p ∈ x.2, p.block < B) → Rows.uptoBulk x.1 ≤ n →
  ∃ v l, cs = [v] ∧ NdsIn W B n l v ∧ wtL n l + 1 ≤ Rows.uptoBulk x.1
variable {enc W B}

theorem text_sum (k : Nat) (l : List Pt) : (l.map fun p => p.text.size).sum ≤ wtW (k + 1) l := by
  rw [wtW]
  induction l with
  | nil => exact Nat.le_refl _
  | cons p l ih =>
    simp only [List.map_cons, List.sum_cons, wtP]
    omega
theorem words_in {N n fuel : Nat} {cs : List Value} {x : DataW H × List MemPlace} (hP : PtsRead enc W B n) (h : DataW.trod enc Tryd.prog W 0 (fun _ => true) true fuel 29 cs = some x) (hlt : ∀ p ∈ x.2, p.block < B) (hN : Rows.uptoBulk x.1 ≤ N + 1) (hn : N ≤ n) (hbig : N ≤ bigN) :
    ∃ v l, cs = [v] ∧ WdsIn W B n l v ∧ (l.map (wtY (wtW n))).sum + 1 ≤ Rows.uptoBulk x.1 :=
  slof_in Tryd.underlying29 (by kernel_rfl) (by decide) _ (wtY (wtW n)) h hlt hN hbig fun fuel cs y _ ht hl hb => by
    obtain ⟨v, l, e, h1, h2⟩ := hP fuel cs y ht hl (by omega)
    exact ⟨l, ⟨v, e, h1⟩, by rw [wtY]; omega⟩
theorem lists_in {N n fuel : Nat} {cs : List Value} {x : DataW H × List MemPlace} (hP : NdsRead enc W B n) (h : DataW.trod enc Tryd.prog W 0 (fun _ => true) true fuel 34 cs = some x) (hlt : ∀ p ∈ x.2, p.block < B) (hN : Rows.uptoBulk x.1 ≤ N + 1) (hn : N ≤ n) (hbig : N ≤ bigN) :
    ∃ v l, cs = [v] ∧ LssIn W B n l v ∧ (l.map (wtS (wtL n))).sum + 1 ≤ Rows.uptoBulk x.1 :=
  slof_in Tryd.underlying34 (by kernel_rfl) (by decide) _ (wtS (wtL n)) h hlt hN hbig fun fuel cs y _ ht hl hb => by
    obtain ⟨v, l, e, h1, h2⟩ := hP fuel cs y ht hl (by omega)
    exact ⟨l, ⟨v, e, h1⟩, by rw [wtS]; omega⟩
theorem assigns_in {N n fuel : Nat} {cs : List Value} {x : DataW H × List MemPlace} (hP : PtsRead enc W B n) (h : DataW.trod enc Tryd.prog W 0 (fun _ => true) true fuel 33 cs = some x) (hlt : ∀ p ∈ x.2, p.block < B) (hN : Rows.uptoBulk x.1 ≤ N + 1) (hn : N ≤ n) (hbig : N ≤ bigN) :
    ∃ v l, cs = [v] ∧ AssIn W B n l v ∧ (l.map (wtA (wtW n))).sum + 1 ≤ Rows.uptoBulk x.1 :=
  slof_in Tryd.underlying33 (by kernel_rfl) (by decide) _ (wtA (wtW n)) h hlt hN hbig fun fuel cs y hcl ht hl hb => by
    obtain ⟨ys, k, rfl, hyl, hf⟩ := struct_cells Tryd.underlying53 (by kernel_rfl) ht hcl
    obtain ⟨u0, y0, hu0, hy0, t0⟩ := hf 0 _ rfl
    obtain ⟨u1, y1, hu1, hy1, t1⟩ := hf 1 _ rfl
    match cs, hcl, ys, hyl with
    | [_, _], _, [_, _], _ =>
      cases hu0; cases hu1; cases hy0; cases hy1
      obtain ⟨s0, e0, e0', _⟩ := DataW.trod_string Tryd.underlying9 t0
      subst e0'
      simp only [List.cons.injEq, and_true] at e0
      subst e0
      simp only [Rows.uptoBulk, bulk_all, List.map_cons, List.map_nil, List.sum_cons, List.sum_nil] at hb ⊢
      obtain ⟨v, l, e, h1, h2⟩ := hP _ _ y1 t1 (fun p hp => hl p (by simp [hp])) (by omega)
      cases e
      rw [show s0.data.toList.length = s0.size from rfl] at hb ⊢
      refine ⟨⟨s0, l⟩, ⟨by show s0.size ≤ bigN; omega, _, rfl, h1⟩, by rw [wtA]; show 1 + s0.size + wtW n l ≤ _; omega⟩
theorem redirs_in {N n fuel : Nat} {cs : List Value} {x : DataW H × List MemPlace} (hP : PtsRead enc W B n) (h : DataW.trod enc Tryd.prog W 0 (fun _ => true) true fuel 32 cs = some x) (hlt : ∀ p ∈ x.2, p.block < B) (hN : Rows.uptoBulk x.1 ≤ N + 1) (hn : N ≤ n) (hbig : N ≤ bigN) :
    ∃ v l, cs = [v] ∧ RdsIn W B n l v ∧ (l.map (wtR (wtW n))).sum + 1 ≤ Rows.uptoBulk x.1 :=
  slof_in Tryd.underlying32 (by kernel_rfl) (by decide) _ (wtR (wtW n)) h hlt hN hbig fun fuel cs y hcl ht hl hb => by
    obtain ⟨ys, k, rfl, hyl, hf⟩ := struct_cells Tryd.underlying31 (by kernel_rfl) ht hcl
    obtain ⟨u0, y0, hu0, hy0, t0⟩ := hf 0 _ rfl
    obtain ⟨u1, y1, hu1, hy1, t1⟩ := hf 1 _ rfl
    obtain ⟨u2, y2, hu2, hy2, t2⟩ := hf 2 _ rfl
    obtain ⟨u3, y3, hu3, hy3, t3⟩ := hf 3 _ rfl
    match cs, hcl, ys, hyl with
    | [_, _, _, _], _, [_, _, _, _], _ =>
      cases hu0; cases hu1; cases hu2; cases hu3; cases hy0; cases hy1; cases hy2; cases hy3
      obtain ⟨i0, e0, _⟩ := DataW.trod_int Tryd.underlying3 t0
      obtain ⟨s1, e1, e1', _⟩ := DataW.trod_string Tryd.underlying9 t1
      obtain ⟨s2, e2, e2', _⟩ := DataW.trod_string Tryd.underlying9 t2
      subst e1' e2'
      simp only [List.cons.injEq, and_true] at e0 e1 e2
      subst e0 e1 e2
      have b0 := bulk_one y0.1
      simp only [Rows.uptoBulk, bulk_all, List.map_cons, List.map_nil, List.sum_cons, List.sum_nil] at hb ⊢
      obtain ⟨v, l, e, h1, h2⟩ := hP _ _ y3 t3 (fun p hp => hl p (by simp [hp])) (by omega)
      cases e
      rw [show s1.data.toList.length = s1.size from rfl, show s2.data.toList.length = s2.size from rfl] at hb ⊢
      have hs : (l.map fun p => p.text.size).sum ≤ bigN := by
        cases n with
        | zero => omega
        | succ n => have := text_sum n l; omega
      refine ⟨⟨i0, s1, s2, l⟩, ⟨by show s1.size ≤ bigN; omega, by show s2.size ≤ bigN; omega, hs, _, rfl, h1⟩, by rw [wtR]; show 1 + s1.size + s2.size + wtW n l ≤ _; omega⟩
theorem arms_in {N n fuel : Nat} {cs : List Value} {x : DataW H × List MemPlace} (hP : PtsRead enc W B n) (hL : NdsRead enc W B n) (h : DataW.trod enc Tryd.prog W 0 (fun _ => true) true fuel 35 cs = some x) (hlt : ∀ p ∈ x.2, p.block < B) (hN : Rows.uptoBulk x.1 ≤ N + 1) (hn : N ≤ n) (hbig : N ≤ bigN) :
    ∃ v l, cs = [v] ∧ ArsIn W B n l v ∧ (l.map (wtM (wtW n) (wtL n))).sum + 1 ≤ Rows.uptoBulk x.1 :=
  slof_in Tryd.underlying35 (by kernel_rfl) (by decide) _ (wtM (wtW n) (wtL n)) h hlt hN hbig fun fuel cs y hcl ht hl hb => by
    obtain ⟨ys, k, rfl, hyl, hf⟩ := struct_cells Tryd.underlying56 (by kernel_rfl) ht hcl
    obtain ⟨u0, y0, hu0, hy0, t0⟩ := hf 0 _ rfl
    obtain ⟨u1, y1, hu1, hy1, t1⟩ := hf 1 _ rfl
    match cs, hcl, ys, hyl with
    | [_, _], _, [_, _], _ =>
      cases hu0; cases hu1; cases hy0; cases hy1
      have b0 := bulk_one y0.1
      have b1 := bulk_one y1.1
      simp only [Rows.uptoBulk, bulk_all, List.map_cons, List.map_nil, List.sum_cons, List.sum_nil] at hb ⊢
      obtain ⟨v, l, e, h1, h2⟩ := hL _ _ y1 t1 (fun p hp => hl p (by simp [hp])) (by omega)
      obtain ⟨v', l', e', h1', h2'⟩ := words_in (N := N - 1) hP t0 (fun p hp => hl p (by simp [hp])) (by omega) (by omega) (by omega)
      cases e
      cases e'
      refine ⟨⟨l', l⟩, ⟨_, _, rfl, h1', h1⟩, by rw [wtM]; show 1 + (l'.map (wtY (wtW n))).sum + wtL n l ≤ _; omega⟩

theorem scripts_in (n : Nat) (hbn : n ≤ bigN) : PtsRead enc W B n ∧ NdsRead enc W B n := by
  induction n with
  | zero => exact ⟨fun _ _ x _ _ hb => by have := bulk_one x.1; omega, fun _ _ x _ _ hb => by have := bulk_one x.1; omega⟩
  | succ n ih =>
    obtain ⟨hP, hL⟩ := ih (by omega)
    constructor
    · intro fuel cs x h hlt hb
      obtain ⟨v, l, e, h1, h2⟩ := slof_in (N := n) (size := 6) Tryd.underlying26 (by kernel_rfl) (by decide) (PtC W B n) (wtP (wtW n) (wtL n)) h hlt hb (by omega) fun fuel cs y hcl ht hl hb => by
        obtain ⟨ys, k, rfl, hyl, hf⟩ := struct_cells Tryd.underlying28 (by kernel_rfl) ht hcl
        obtain ⟨u0, y0, hu0, hy0, t0⟩ := hf 0 _ rfl
        obtain ⟨u1, y1, hu1, hy1, t1⟩ := hf 1 _ rfl
        obtain ⟨u2, y2, hu2, hy2, t2⟩ := hf 2 _ rfl
        obtain ⟨u3, y3, hu3, hy3, t3⟩ := hf 3 _ rfl
        obtain ⟨u4, y4, hu4, hy4, t4⟩ := hf 4 _ rfl
        obtain ⟨u5, y5, hu5, hy5, t5⟩ := hf 5 _ rfl
        match cs, hcl, ys, hyl with
        | [_, _, _, _, _, _], _, [_, _, _, _, _, _], _ =>
          cases hu0; cases hu1; cases hu2; cases hu3; cases hu4; cases hu5; cases hy0; cases hy1; cases hy2; cases hy3; cases hy4; cases hy5
          obtain ⟨i0, e0, _⟩ := DataW.trod_int Tryd.underlying3 t0
          obtain ⟨q1, e1, _⟩ := DataW.trod_bool Tryd.underlying4 t1
          obtain ⟨s2, e2, e2', _⟩ := DataW.trod_string Tryd.underlying9 t2
          obtain ⟨s3, e3, e3', _⟩ := DataW.trod_string Tryd.underlying9 t3
          subst e2' e3'
          simp only [List.cons.injEq, and_true] at e0 e1 e2 e3
          subst e0 e1 e2 e3
          have b0 := bulk_one y0.1
          have b1 := bulk_one y1.1
          have b4 := bulk_one y4.1
          have b5 := bulk_one y5.1
          simp only [Rows.uptoBulk, bulk_all, List.map_cons, List.map_nil, List.sum_cons, List.sum_nil] at hb ⊢
          obtain ⟨v, l, e, h1, h2⟩ := hP _ _ y4 t4 (fun p hp => hl p (by simp [hp])) (by omega)
          obtain ⟨v', l', e', h1', h2'⟩ := hL _ _ y5 t5 (fun p hp => hl p (by simp [hp])) (by omega)
          cases e
          cases e'
          rw [show s2.data.toList.length = s2.size from rfl, show s3.data.toList.length = s3.size from rfl] at hb ⊢
          refine ⟨.mk i0 q1 s2 s3 l l', ⟨by show s2.size ≤ bigN; omega, by show s3.size ≤ bigN; omega, _, _, rfl, h1, h1'⟩, by rw [wtP]; show 1 + s2.size + s3.size + wtW n l + wtL n l' ≤ _; omega⟩
      exact ⟨v, l, e, by rw [PtsIn.succ]; exact h1, by rw [wtW]; exact h2⟩
    · intro fuel cs x h hlt hb
      obtain ⟨v, l, e, h1, h2⟩ := slof_in (N := n) (size := 7) Tryd.underlying22 (by kernel_rfl) (by decide) (NdC W B n) (wtN (wtW n) (wtL n)) h hlt hb (by omega) fun fuel cs y hcl ht hl hb => by
        obtain ⟨ys, k, rfl, hyl, hf⟩ := struct_cells Tryd.underlying37 (by kernel_rfl) ht hcl
        obtain ⟨u0, y0, hu0, hy0, t0⟩ := hf 0 _ rfl
        obtain ⟨u1, y1, hu1, hy1, t1⟩ := hf 1 _ rfl
        obtain ⟨u2, y2, hu2, hy2, t2⟩ := hf 2 _ rfl
        obtain ⟨u3, y3, hu3, hy3, t3⟩ := hf 3 _ rfl
        obtain ⟨u4, y4, hu4, hy4, t4⟩ := hf 4 _ rfl
        obtain ⟨u5, y5, hu5, hy5, t5⟩ := hf 5 _ rfl
        obtain ⟨u6, y6, hu6, hy6, t6⟩ := hf 6 _ rfl
        match cs, hcl, ys, hyl with
        | [_, _, _, _, _, _, _], _, [_, _, _, _, _, _, _], _ =>
          cases hu0; cases hu1; cases hu2; cases hu3; cases hu4; cases hu5; cases hu6; cases hy0; cases hy1; cases hy2; cases hy3; cases hy4; cases hy5; cases hy6
          obtain ⟨i0, e0, _⟩ := DataW.trod_int Tryd.underlying3 t0
          obtain ⟨s1, e1, e1', _⟩ := DataW.trod_string Tryd.underlying9 t1
          subst e1'
          simp only [List.cons.injEq, and_true] at e0 e1
          subst e0 e1
          have b0 := bulk_one y0.1
          have b2 := bulk_one y2.1
          have b3 := bulk_one y3.1
          have b4 := bulk_one y4.1
          have b5 := bulk_one y5.1
          have b6 := bulk_one y6.1
          simp only [Rows.uptoBulk, bulk_all, List.map_cons, List.map_nil, List.sum_cons, List.sum_nil] at hb ⊢
          obtain ⟨v2, l2, g2, h2, k2⟩ := assigns_in (N := n - 1) hP t2 (fun p hp => hl p (by simp [hp])) (by omega) (by omega) (by omega)
          obtain ⟨v3, l3, g3, h3, k3⟩ := words_in (N := n - 1) hP t3 (fun p hp => hl p (by simp [hp])) (by omega) (by omega) (by omega)
          obtain ⟨v4, l4, g4, h4, k4⟩ := redirs_in (N := n - 1) hP t4 (fun p hp => hl p (by simp [hp])) (by omega) (by omega) (by omega)
          obtain ⟨v5, l5, g5, h5, k5⟩ := lists_in (N := n - 1) hL t5 (fun p hp => hl p (by simp [hp])) (by omega) (by omega) (by omega)
          obtain ⟨v6, l6, g6, h6, k6⟩ := arms_in (N := n - 1) hP hL t6 (fun p hp => hl p (by simp [hp])) (by omega) (by omega) (by omega)
          cases g2; cases g3; cases g4; cases g5; cases g6
          rw [show s1.data.toList.length = s1.size from rfl] at hb ⊢
          refine ⟨.mk i0 s1 l2 l3 l4 l5 l6, ⟨by show s1.size ≤ bigN; omega, _, _, _, _, _, rfl, h2, h3, h4, h5, h6⟩, ?_⟩
          rw [wtN]
          show 1 + s1.size + (l2.map (wtA (wtW n))).sum + (l3.map (wtY (wtW n))).sum + (l4.map (wtR (wtW n))).sum + (l5.map (wtS (wtL n))).sum + (l6.map (wtM (wtW n) (wtL n))).sum ≤ _
          omega
      exact ⟨v, l, e, by rw [NdsIn.succ]; exact h1, by rw [wtL]; exact h2⟩
end

set_option maxRecDepth 100000 in
theorem open_nodes {H : Type} {enc : TypeId × Value → H} {W : World} {v : Value} {d : DataW H} {p : List MemPlace} {r : Reach} {base : Nat} (hok : Value.okWide Tryd.prog W r base 22 v) (h : DataW.Trod enc Tryd.prog W 0 (fun _ => true) true 22 v d p) (hlt : ∀ x ∈ p, x.block < W.heap.size) (hb : Rows.uptoBulk d ≤ bigN) :
    ∃ n l, NdsIn W W.heap.size n l v ∧ wtL n l ≤ bigN := by
  obtain ⟨a0, len, cap, rfl⟩ := okWide_slice Tryd.underlying22 hok
  obtain ⟨fuel, hf⟩ := h
  obtain ⟨v, l, e, h1, h2⟩ := (scripts_in (Rows.uptoBulk d) hb).2 fuel _ _ hf hlt (Nat.le_refl _)
  simp [Value.cells] at e
  subst e
  exact ⟨_, l, h1, Nat.le_trans (Nat.le_of_succ_le h2) hb⟩
set_option maxRecDepth 100000 in
theorem open_parts {H : Type} {enc : TypeId × Value → H} {W : World} {v : Value} {d : DataW H} {p : List MemPlace} {r : Reach} {base : Nat} (hok : Value.okWide Tryd.prog W r base 26 v) (h : DataW.Trod enc Tryd.prog W 0 (fun _ => true) true 26 v d p) (hlt : ∀ x ∈ p, x.block < W.heap.size) (hb : Rows.uptoBulk d ≤ bigN) :
    ∃ n l, PtsIn W W.heap.size n l v ∧ wtW n l ≤ bigN := by
  obtain ⟨a0, len, cap, rfl⟩ := okWide_slice Tryd.underlying26 hok
  obtain ⟨fuel, hf⟩ := h
  obtain ⟨v, l, e, h1, h2⟩ := (scripts_in (Rows.uptoBulk d) hb).1 fuel _ _ hf hlt (Nat.le_refl _)
  simp [Value.cells] at e
  subst e
  exact ⟨_, l, h1, Nat.le_trans (Nat.le_of_succ_le h2) hb⟩
end Go.Proofs.YtnackmnoldkihaaDoor
/-
  The wrap for a row that lists variables, the world's shape kept; strings.Split's cell out of the shape.
-/
namespace Go.Proofs.YtnackmnoldkihaaDoor
open Go.ChangeShapes Go.WideShapes Go.ChangeAt Go.RowKit

theorem held_of_shape {W : World} (h : W.ShapedOpen Tryd.prog) : Held W := by
  obtain ⟨c, hc⟩ := Go.Proofs.cell_of_shapedOpen_int (g := 0) (zero := #[.int .i64 0]) (t := 3) h (of_decide_eq_true (by kernel_rfl)) (by kernel_rfl) rfl (by kernel_rfl) (by kernel_rfl) Tryd.underlying3
  exact ⟨⟨c, hc⟩, Nat.lt_of_le_of_lt (Nat.zero_le _) (World.block_lt_of_cell? W _ hc)⟩

theorem returns_laid {H : Type} {enc : TypeId × Value → H} {a : Assume} {C : Checked} {os : Os} {f : FuncId} {fn : Func} {s : ChangeSpec} {conds : List PathCond} {apart fresh handsOn again : Bool} {X : World → Array Value → Prop}
    (hX : ∀ (w w' : World) (args : Array Value), w.heap = w'.heap → X w args → X w' args)
    (own : ownKnob C.prog.godebug = none) (started : os.Started) (noInit : C.prog.inits.idxOf? f = none) (hfn : C.prog.funcs[f]? = some fn)
    (witness : ∃ (w : World) (tape : Tape) (i : Input), w.os = os ∧ (w.forCall tape i).Shaped C.prog ∧ i.vars = [] ∧ Input.okWide C.prog (w.forCall tape i) .any w.heap.size f i ∧
      ((s.pre enc C.prog fn conds apart (w.forCall tape i).memory i.args ∧ X (w.forCall tape i).memory i.args) ∧ sizedMet enc C.prog fn (OpenSpec.ofChange s) apart (w.forCall tape i).memory i.args) ∧ a.holds C.prog (lone (Frame.enter C.prog f i.args .normal) [] (w.forCall tape i)))
    (contract : ∀ (W : World) (base : Nat) (args : Array Value) (ds gs : List (DataW H)) (before : List MemPlace),
      (∀ (j : Nat) t v, fn.params[j]? = some t → args[j]? = some v → Value.okWide C.prog W .any base t v) →
      DataW.Whole enc C.prog fn.params.toList s.vars apart W args.toList ds gs before →
      (DataW.weightsEach C.prog (fn.params.toList ++ s.plain.varTypes C.prog) (ds ++ gs)).all (· ≤ reachBytes) = true → X W args → W.ShapedOpen C.prog →
      Calls C.prog f args W fun e W' => ∃ v, e = .returned v ∧ s.post enc C.prog fn apart fresh handsOn again W args v W') :
    ReturnsInHanded a C os f .any (fun w args => (s.pre enc C.prog fn conds apart w args ∧ X w args) ∧ sizedMet enc C.prog fn (OpenSpec.ofChange s) apart w args) (s.post enc C.prog fn apart fresh handsOn again) := by
  refine returnsInHanded_of_calls own started noInit witness ?_
  intro w tape i _ hsh _ hok hpre _
  obtain ⟨_, _, _, fn', hfn', _, _, _, _, hval⟩ := hok
  obtain rfl : fn' = fn := Option.some.inj (hfn'.symm.trans hfn)
  obtain ⟨⟨⟨ds, gs, before, hw, _⟩, hx⟩, hz⟩ := hpre
  have hw' := DataW.Whole.of_heap (w' := w.forCall tape i) (by rfl) hw
  refine (contract (w.forCall tape i) w.heap.size i.args ds gs before hval hw' (hz.weights hw) (hX _ _ _ (by rfl) hx) hsh).mono fun e W' ⟨v, he, hp⟩ => ?_
  subst he
  exact ChangeSpec.post_blind hp
end Go.Proofs.YtnackmnoldkihaaDoor
/-
  A row with a bound on its input's bulk, and listed variables: its witness, the world's shape kept.
-/
namespace Go.Proofs.YtnackmnoldkihaaDoor
open Go.ChangeShapes Go.WideShapes Go.ChangeAt Go.RowKit

theorem witness_row_shaped {H : Type} {enc : TypeId × Value → H} {C : Checked} {os : Os} {f : FuncId} {fn : Func} {s : OpenSpec} {conds : List PathCond} {apart : Bool} {laid : List (String × DataW Unit)} (modest : Bool) (w0 : World) (args : Array Value) (hos : w0.os = os)
    (hsh : (w0.forCall (fun _ _ => 0) ⟨#[], args, []⟩).Shaped C.prog)
    (hok : Input.okWideB C.prog (w0.forCall (fun _ _ => 0) ⟨#[], args, []⟩) f ⟨#[], args, []⟩ = true)
    (hrow : s.preRow enc C.prog fn conds apart laid (w0.forCall (fun _ _ => 0) ⟨#[], args, []⟩).memory args) :
    ∃ (w : World) (tape : Tape) (i : Input), w.os = os ∧ (w.forCall tape i).Shaped C.prog ∧ i.vars = [] ∧ Input.okWide C.prog (w.forCall tape i) .any w.heap.size f i ∧
      s.preRow enc C.prog fn conds apart laid (w.forCall tape i).memory i.args ∧ ({ modest := modest } : Assume).holds C.prog (lone (Frame.enter C.prog f i.args .normal) [] (w.forCall tape i)) :=
  ⟨w0, fun _ _ => 0, ⟨#[], args, []⟩, hos, hsh, (Input.okWide_of_okWideB (base := 0) hok).1, (Input.okWide_of_okWideB hok).2, hrow, by
    simp only [Assume.holds]
    exact ⟨by simp, by simp, fun _ => Modest.zero, by simp, by simp⟩⟩
end Go.Proofs.YtnackmnoldkihaaDoor
namespace Go.Proofs.YtnackmnoldkihaaDoor
open Go.ChangeShapes Go.WideShapes Go.ChangeAt Go.RowKit

set_option maxRecDepth 100000 in
theorem astDeeper_reads (os : Os) {H : Type} (enc : TypeId × Value → H) : ∃ places, DataW.whole enc Tryd.prog ((World.laidAll Tryd.prog os Rows.astDeeperUptoRow.laid).forCall (fun _ _ => 0) ⟨#[], #[.slice none 0 0, .int .i64 0], []⟩).memory Tryd.f3.params.toList Rows.astDeeperSpec.vars false (#[.slice none 0 0, .int .i64 0] : Array Value).toList 8 = some ([.nil, .lit (.int .i64 0)], [], places) :=
  ⟨[], by kernel_rfl⟩
set_option maxRecDepth 100000 in
theorem astDeeper_lifted (os : Os) (started : os.Started) (H : Type) (enc : TypeId × Value → H) (F : Stop.Interp) :
    ReturnsInHanded {} Tryd.checked os 3 .any ((Rows.OpenSpec.upto Rows.astDeeperSpec).preRow enc Tryd.prog Tryd.f3 Rows.astDeeperUptoRow.domain false Rows.astDeeperUptoRow.laid) (((Rows.OpenSpec.upto Rows.astDeeperSpec).at F).post enc Tryd.prog Tryd.f3 false true false false) := by
  obtain ⟨places, hx⟩ := astDeeper_reads os enc
  refine returnsInHanded_of_row (C := Tryd.checked) (s := Rows.OpenSpec.upto Rows.astDeeperSpec) Tryd.own started (by kernel_rfl) Tryd.func3
    (witness_row_shaped (enc := enc) (C := Tryd.checked) (os := os) false (World.laidAll Tryd.prog os Rows.astDeeperUptoRow.laid) #[.slice none 0 0, .int .i64 0] (World.laidAll_os _ _ _) (World.shaped_of_ZipB (by kernel_rfl) (by kernel_rfl)) (by kernel_rfl)
      (OpenSpec.preRow_of_cond 8 hx (by kernel_rfl) (fun k hk => by cases hk; kernel_rfl) (by kernel_rfl) (by rw [MakeChecks.laidMetH_plain _ _ _ (by kernel_rfl)]; exact laidMet_laidAll _ (by kernel_rfl) (by kernel_rfl)))) ?_
  intro W base args ds gs before hval0 hW _ hcond _ hL hsh _
  have hval : ∀ (j : Nat) t v, Tryd.f3.params[j]? = some t → args[j]? = some v → Value.okWide Tryd.prog W .any base t v := hval0
  have hW' := hW
  obtain ⟨p, q, hA0, hV, rfl, _, _⟩ := hW
  have hA : DataW.TrodAll enc Tryd.prog W 0 (fun _ => true) true Tryd.f3.params.toList args.toList ds p := hA0
  have hAk := hA
  obtain ⟨rfl, rfl⟩ := trodVars_none hV
  simp only [List.append_nil] at hW'
  have hlt : ∀ x ∈ p, x.block < W.heap.size := fun x hx => by simpa using hW'.lt x hx
  rw [Tryd.params3] at hA hval
  obtain ⟨v0, vs0, d0, ds0, p0, q0, hargs, rfl, rfl, h0, r0⟩ := trodAll_cons hA
  obtain ⟨v1, vs1, d1, ds1, p1, q1, rfl, rfl, rfl, h1, r1⟩ := trodAll_cons r0
  obtain ⟨rfl, rfl, rfl⟩ := trodAll_nil r1
  obtain rfl : args = #[v0, v1] := by cases args; simp_all
  have hbk := of_decide_eq_true (hcond _ rfl)
  simp only [Rows.uptoBulkAll, List.append_nil, List.nil_append, List.cons_append, Nat.add_zero] at hbk
  obtain ⟨dp0, l0, hN0, wN0⟩ := open_nodes (hval 0 22 v0 rfl rfl) h0 (fun x hx => hlt x (by simp [hx])) (by unfold bigN; omega)
  obtain ⟨x1, rfl, rfl, rfl, wx1⟩ := open_int Tryd.underlying3 (hval 1 3 v1 rfl rfl) h1
  have b1 : -9223372036854775808 ≤ x1 ∧ x1 ≤ 9223372036854775807 := by simpa [Lit.wf, IntKind.min, IntKind.max, IntKind.signed, IntKind.bits] using wx1
  clear hA0 hval0
  refine (deeper_law l0 v0 x1 W dp0 (held_of_shape hsh) hN0).mono fun e W' ⟨he, hb⟩ => ?_
  subst he
  exact ⟨_, rfl, law_post rfl rfl rfl (by kernel_rfl) hW' hAk hb⟩

theorem astDeeper_row : Rows.AstDeeperUptoSaid :=
  OpenClaim.holds_of_cond 3 Tryd.f3 rfl rfl rfl rfl rfl rfl rfl ⟨rfl, rfl, rfl, rfl, rfl⟩ rfl rfl rfl rfl rfl (by kernel_rfl) Tryd.func3 (by kernel_rfl)
    (of_decide_eq_true (by kernel_rfl)) (by unfold Func.isWrapper; first | (rw [if_pos (by decide +kernel)]; kernel_rfl) | (rw [if_neg (by decide +kernel)]; exact ⟨rfl, rfl⟩))
    (fun os started H enc _ F => by rw [OpenClaim.pre_eq_preRow]; exact astDeeper_lifted os started H enc F)

theorem astDeeper_holds : Rows.AstDeeperUptoCardSaid :=
  Claim7.holds_tied_plain_at .later [] _ _ _ _ astDeeper_row (fun _ h => by cases h) (by kernel_rfl) (fun _ h => by cases h) astDeeperUpto_row_tie rfl ⟨rfl, rfl⟩ (by kernel_rfl) rfl
    (fun f fn hf hfn => by
      obtain rfl : f = 3 := Option.some.inj ((show Tryd.prog.funcNamed "seabag/seabaglaw14.AstDeeper" = some 3 by kernel_rfl).symm.trans hf) |>.symm
      obtain rfl : fn = Tryd.f3 := (Option.some.inj (Tryd.func3.symm.trans hfn)).symm
      exact ⟨by kernel_rfl, fun j t ht => by
        rw [Tryd.params3] at ht
        have hm : t ∈ [22, 3] := by simpa using Array.mem_of_getElem? ht
        have hall : ([22, 3].all fun u => !Tryd.prog.wantsStandIn u) = true := by kernel_rfl
        exact (show Tryd.prog.wantsStandIn t = false by simpa using List.all_eq_true.1 hall t hm)⟩)
    (by kernel_rfl)

#print axioms astDeeper_holds
end Go.Proofs.YtnackmnoldkihaaDoor
