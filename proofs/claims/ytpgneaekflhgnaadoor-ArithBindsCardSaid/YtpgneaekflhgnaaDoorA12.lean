/-
  The walk of binary, at a level, where the next level's is known.
-/
import Derived.Test.YtpgneaekflhgnaaDoorA11
import Derived.Deep.RegionWith
namespace Go.Proofs.YtpgneaekflhgnaaDoor
open Go.RowKit

/-- What binary ends in: the worth of what the level reads, or the error. -/
def BinP (g : Nat) (s : ByteArray) (bl : Bool) (n : Nat) (y : Int) (l : List Tok) (lf : Int) (vv : Value) (q : Int) (w : World) : Ending → World → Prop := fun e w' =>
  ((∃ v : Int, e = .returned (.int .i64 v) ∧ (q = 0 → worth apO y (tw n l) = some v) ∧ SR w' g s (tailS bl (dw n l)) lf vv q) ∨ (q = 0 ∧ worth apO y (tw n l) = none ∧ e = .panicked (errB 32))) ∧ But g g w w'
def Num (y : Int) : Prop := 0 ≤ y ∧ y < 9223372036854775808
def Row (l : List Tok) : Prop := ∀ t ∈ l, t.1 < 18 ∧ Num t.2
def BinOK (g : Nat) (s : ByteArray) (bl : Bool) (lf : Int) (vv : Value) (n : Nat) : Prop := ∀ (w : World) (y : Int) (l : List Tok) (q : Int), Num y → Row l → 0 ≤ q → q ≤ n →
  SR w g s (Lib.decDigits y.toNat ++ tailS bl l) lf vv q → Calls Tryd.prog 44 #[.pointer (some ⟨g, 0, none⟩), .int .i64 (n : Int)] w (BinP g s bl n y l lf vv q w)
/-- The sum, and the boxes that hold its pointer and the level. -/
structure BY (w0 W : World) (xb nb g : Nat) (n : Int) (s : ByteArray) (l : List UInt8) (lf : Int) (vv : Value) (q : Int) : Prop where
  sr : SR W g s l lf vv q
  bx : W.cell? ⟨xb, 0, none⟩ = some (.pointer (some ⟨g, 0, none⟩))
  bn : W.cell? ⟨nb, 0, none⟩ = some (.int .i64 n)
  ltx : xb < W.heap.size
  ltn : nb < W.heap.size
  nex : xb ≠ g
  nen : nb ≠ g
  but : But g g w0 W
section
variable {w0 W W2 : World} {xb nb g : Nat} {n : Int} {s : ByteArray} {l l' : List UInt8} {lf lf' : Int} {vv : Value} {q q' : Int}
theorem BY.step (h : BY w0 W xb nb g n s l lf vv q) (h2 : SR W2 g s l' lf' vv q') (hb : But g g W W2) : BY w0 W2 xb nb g n s l' lf' vv q' :=
  ⟨h2, (cell_but hb (p := ⟨xb, 0, none⟩) h.ltx h.nex).trans h.bx, (cell_but hb (p := ⟨nb, 0, none⟩) h.ltn h.nen).trans h.bn, Nat.lt_of_lt_of_le h.ltx hb.size, Nat.lt_of_lt_of_le h.ltn hb.size, h.nex, h.nen, h.but.trans hb⟩
theorem BY.start (h : SR w0 g s l lf vv q) (T U : TypeId) (n : Int) : BY w0 ((w0.alloc (.cells #[.pointer (some ⟨g, 0, none⟩)] T)).alloc (.cells #[.int .i64 n] U)) w0.heap.size (w0.heap.size + 1) g n s l lf vv q :=
  ⟨(h.alloc _).alloc _, ((Blk.at (t := T) (cs := #[.pointer (some ⟨g, 0, none⟩)]) (g := w0.heap.size) (by simp)).alloc _).cell 0, (Blk.at (t := U) (cs := #[.int .i64 n]) (g := w0.heap.size + 1) (by simp)).cell 0, by simp; omega, by simp, Nat.ne_of_gt h.lt, Nat.ne_of_gt (Nat.lt_succ_of_lt h.lt), ((But.refl g g w0).alloc _).alloc _⟩
end
set_option maxHeartbeats 1000000 in
theorem bin_ten {g : Nat} {s : ByteArray} {bl : Bool} {lf : Int} {vv : Value} (hs : s.size ≤ 1000000) (h1 : 1 ≤ lf) (h2 : lf ≤ 200) : BinOK g s bl lf vv 10 := by
  intro w y l q hy hl hq0 hq1 k
  have B0 := Lib.hid (BY.start k 52 3 10)
  have e1 : tw 10 l = [] ∧ dw 10 l = l := tw_of 10 [] l (fun t ht => absurd ht (by simp)) (fun t r h => by
    have : t.1 < 18 := (hl t (by rw [h]; simp)).1
    generalize t.1 = o at this
    revert this
    revert o
    decide)
  have CU := Lib.hid (fun (W : World) (h : SR W g s (Lib.decDigits y.toNat ++ tailS bl l) lf vv q) => un_any h hs (by obtain ⟨a, b⟩ := hy; omega) (take_dec y.toNat (fun t ht => (hl t ht).1)) h1 h2)
  have HF : Hid (Num y ∧ skipB (tailS bl l) = tailS bl l ∧ (tw 10 l = [] ∧ dw 10 l = l)) := Lib.hid ⟨hy, skip_tail fun t ht => (hl t ht).1, e1⟩
  clear hy hl hq0 hq1 k e1 hs h1 h2
  go_enter Tryd.func44, Tryd.ntmps44
  go_wp2_with fail
  refine (CU.out _ B0.out.sr).mono ?_
  rintro e w1 ⟨rfl, hs1, hb1⟩
  have HG := Lib.hid (And.intro hs1 (B0.out.but.trans hb1))
  clear hs1 hb1
  go_wp2_with fail
  go_ret
  refine ⟨.inl ⟨y, ?_, fun _ => ?_, ?_⟩, HG.out.2⟩
  · have := HF.out.1.1
    have e : max y 0 = y := by omega
    show Ending.returned (.int .i64 (max y 0)) = _
    rw [e]
  · rw [HF.out.2.2.1]; rfl
  · rw [HF.out.2.2.2, ← HF.out.2.1]; exact HG.out.1

theorem row_cut {l : List Tok} (h : Row l) {c r : List Tok} (e : l = c ++ r) : Row r := fun t ht => h t (by rw [e]; simp [ht])
/-- What binary has read at a level: the numbers so far, and the rest. -/
structure Read1 (n : Nat) (y : Int) (l c r : List Tok) (v q : Int) : Prop where
  eq : l = c ++ r
  all : ∀ t ∈ c, n ≤ opLev t.1
  head : ∀ t s, r = t :: s → opLev t.1 ≤ n
  val : q = 0 → worth apO y c = some v
theorem Read1.start {n : Nat} {y : Int} {l : List Tok} {v q : Int} (h : q = 0 → worth apO y (tw (n + 1) l) = some v) : Read1 n y l (tw (n + 1) l) (dw (n + 1) l) v q :=
  ⟨(tw_dw (n + 1) l).symm, fun t ht => Nat.le_of_succ_le (tw_all (n + 1) l t ht), fun t s e => Nat.le_of_lt_succ (dw_head (n + 1) l t s e), h⟩
theorem Read1.stop {n : Nat} {y : Int} {l c r : List Tok} {v q : Int} (h : Read1 n y l c r v q) (hr : ∀ t s, r = t :: s → opLev t.1 ≠ n) : tw n l = c ∧ dw n l = r := by
  rw [h.eq]
  exact tw_of n c r h.all fun t s e => Nat.lt_of_le_of_ne (h.head t s e) (hr t s e)
/-- One sign more. -/
theorem Read1.more {n o : Nat} {y y' : Int} {l c r : List Tok} {v x q : Int} (h : Read1 n y l c ((o, y') :: r) v q) (ho : opLev o = n)
    (hx : q = 0 → combV apO o (some v) (worth apO y' (tw (n + 1) r)) = some x) : Read1 n y l (c ++ (o, y') :: tw (n + 1) r) (dw (n + 1) r) x q := by
  refine ⟨?_, ?_, fun t s e => Nat.le_of_lt_succ (dw_head (n + 1) r t s e), fun hq => ?_⟩
  · rw [h.eq, List.append_assoc, List.cons_append, tw_dw]
  · intro t ht
    rcases List.mem_append.1 ht with ht | ht
    · exact h.all t ht
    · rcases List.mem_cons.1 ht with rfl | ht
      · exact Nat.le_of_eq ho.symm
      · exact Nat.le_of_succ_le (tw_all (n + 1) r t ht)
  · rw [worth_split apO y c (tw (n + 1) r) o y' (fun t ht => by rw [ho]; exact h.all t ht) (fun t ht => by rw [ho]; exact tw_all (n + 1) r t ht), h.val hq, hx hq]
theorem tw_app (n : Nat) : ∀ (a b : List Tok), (∀ t ∈ a, n ≤ opLev t.1) → tw n (a ++ b) = a ++ tw n b
  | [], _, _ => rfl
  | x :: a, b, h => by
    have hx := h x (by simp)
    have : tw n (x :: (a ++ b)) = x :: tw n (a ++ b) := by simp [tw, hx]
    rw [List.cons_append, this, tw_app n a b fun t ht => h t (by simp [ht])]; rfl
theorem tw_next (n : Nat) (l : List Tok) : tw n l = tw (n + 1) l ++ tw n (dw (n + 1) l) := by
  have h := tw_app n (tw (n + 1) l) (dw (n + 1) l) fun t ht => Nat.le_of_succ_le (tw_all (n + 1) l t ht)
  rwa [tw_dw] at h
theorem dw_le (n : Nat) (l : List Tok) : (dw n l).length ≤ l.length := by
  have h := congrArg List.length (tw_dw n l)
  rw [List.length_append] at h
  omega
theorem none_on (n : Nat) (y : Int) : ∀ (k : Nat) (c r : List Tok), r.length ≤ k → (∀ t ∈ c, n ≤ opLev t.1) → (∀ t s, r = t :: s → opLev t.1 ≤ n) → worth apO y c = none → worth apO y (c ++ tw n r) = none
  | _, c, [], _, _, _, h => by
    have : tw n [] = [] := rfl
    rw [this, List.append_nil]; exact h
  | 0, _, _ :: _, hk, _, _, _ => absurd hk (by simp)
  | k + 1, c, (o, y') :: r, hk, hc, hr, h => by
    by_cases ho : opLev o = n
    · have e1 : tw n ((o, y') :: r) = (o, y') :: tw n r := by simp [tw, ho]
      have e2 : c ++ (o, y') :: tw n r = (c ++ (o, y') :: tw (n + 1) r) ++ tw n (dw (n + 1) r) := by rw [tw_next n r]; simp
      rw [e1, e2]
      refine none_on n y k _ _ ?_ ?_ (fun t s e => Nat.le_of_lt_succ (dw_head (n + 1) r t s e)) ?_
      · have := dw_le (n + 1) r
        rw [List.length_cons] at hk
        omega
      · intro t ht
        rcases List.mem_append.1 ht with ht | ht
        · exact hc t ht
        · rcases List.mem_cons.1 ht with rfl | ht
          · exact Nat.le_of_eq ho.symm
          · exact Nat.le_of_succ_le (tw_all (n + 1) r t ht)
      · rw [worth_split apO y c (tw (n + 1) r) o y' (fun t ht => by rw [ho]; exact hc t ht) (fun t ht => by rw [ho]; exact tw_all (n + 1) r t ht), h]
        rfl
    · have e1 : tw n ((o, y') :: r) = [] := by
        have := hr _ _ rfl
        have hlt : ¬ n ≤ opLev o := by simp only at this; omega
        simp [tw, hlt]
      rw [e1, List.append_nil]; exact h
/-- An error in what the next level reads is one here. -/
theorem worth_first {n : Nat} {y : Int} {l : List Tok} (h : worth apO y (tw (n + 1) l) = none) : worth apO y (tw n l) = none := by
  rw [tw_next]
  exact none_on n y _ _ _ (Nat.le_refl _) (fun t ht => Nat.le_of_succ_le (tw_all (n + 1) l t ht)) (fun t s e => Nat.le_of_lt_succ (dw_head (n + 1) l t s e)) h
/-- An error in one sign more is one in all that the level reads. -/
theorem Read1.fail {n o : Nat} {y y' : Int} {l c r : List Tok} {v q : Int} (h : Read1 n y l c ((o, y') :: r) v q) (ho : opLev o = n) (hq : q = 0)
    (hx : combV apO o (some v) (worth apO y' (tw (n + 1) r)) = none) : worth apO y (tw n l) = none := by
  have e1 : tw n ((o, y') :: r) = (o, y') :: tw n r := by simp [tw, ho]
  have e2 : c ++ (o, y') :: tw n r = (c ++ (o, y') :: tw (n + 1) r) ++ tw n (dw (n + 1) r) := by rw [tw_next n r]; simp
  rw [h.eq, tw_app n c _ h.all, e1, e2]
  refine none_on n y _ _ _ (Nat.le_refl _) ?_ (fun t s e => Nat.le_of_lt_succ (dw_head (n + 1) r t s e)) ?_
  · intro t ht
    rcases List.mem_append.1 ht with ht | ht
    · exact h.all t ht
    · rcases List.mem_cons.1 ht with rfl | ht
      · exact Nat.le_of_eq ho.symm
      · exact Nat.le_of_succ_le (tw_all (n + 1) r t ht)
  · rw [worth_split apO y c (tw (n + 1) r) o y' (fun t ht => by rw [ho]; exact h.all t ht) (fun t ht => by rw [ho]; exact tw_all (n + 1) r t ht), h.val hq, hx]
end Go.Proofs.YtpgneaekflhgnaaDoor
