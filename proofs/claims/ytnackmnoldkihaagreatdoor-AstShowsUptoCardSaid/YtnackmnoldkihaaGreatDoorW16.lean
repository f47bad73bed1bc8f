/-
  The writer, step by step, as what has been shown; the walks of block and redirs.
-/
import Derived.Test.YtnackmnoldkihaaGreatDoorW4
import Derived.Test.YtnackmnoldkihaaGreatDoorW15
import Derived.Deep.RegionLaw
set_option linter.unusedVariables false
set_option linter.unusedSimpArgs false
/-
  append to a slice of the call's own, at a step of a region that draws its order.
-/
namespace Go.Proofs.YtnackmnoldkihaaGreatDoor
open Go.RowKit

section
variable {w : World} {size : Nat}
/-- The same at a step of a region that draws its order. -/
theorem step_append_sl {P : Program} {ops : Array Oper} {o : Oper} {a : Act} {K : Act → World → Prop} {Q : Exit → Act → World → Prop} {E : Prop} (hgd : o.guard = none) (s x : Operand) (t : TypeId)
 (ho : o.op = .call { callee := .builtin .append, args := #[s, x], argTypes := #[t, t] }) (base : Nat) (e : TypeId) {z : Value} {bytes : Nat} (ht : P.underlying t = some (.slice e))
 (hinfo : (P.info? e).map (fun i => (i.zero, i.size, i.bytes)) = some (some z, size, bytes)) (hzs : z.cells.size = size) (hsz : 0 < size)
 {v : Value} {n : Nat} {xs : List Value} (hs : a.eval s = v) (hown : w.ownsRow base e size v n xs) {vx : Value} {m : Nat} {news : List Value} {B : Nat} (hx : a.eval x = vx) (hsl : Sl w B size vx m news) (hne : 0 < m) (h1 : ∀ u ∈ news, u.oneCell' = true)
 (hlen : (n + m) * (bytes + 1) ≤ 140737488355328) (hbase : base ≤ w.heap.size)
 (h : ∀ g cap w', w'.ownsRow base e size (.slice (some ⟨g, 0, none⟩) (n + m) cap) (n + m) (xs ++ news) → w.grownBy w' v.ownBlock → (v.ownBlock = some g ∨ g = w.heap.size) → g < w'.heap.size → K (a.put o.dst (.slice (some ⟨g, 0, none⟩) (n + m) cap)) w') :
 if Region.wanted o (yielded ops a.tmps) = true then Oper.wp P o a w K Q else E := by
 obtain ⟨i0, hi, hz0, hz1, hz2⟩ := info_parts hinfo
 obtain ⟨k1, ax, cx, rfl, k3, k4, k5⟩ := hsl
 rcases k5 with k5 | ⟨b, off, rfl, kB, kc⟩
 · omega
 have hb1 : (n + m) * bytes ≤ 140737488355328 := Nat.le_trans (Nat.mul_le_mul_left _ (by omega)) hlen
 have hb2 : n + m ≤ 140737488355328 := Nat.le_trans (Nat.le_mul_of_pos_right _ (by omega)) hlen
 exact step_append_lies w hgd s x t ho base e i0 z size bytes ht hi hz0 hz1 hz2 hzs hsz v n xs hs hown ⟨b, off, none⟩ m cx news hx k1 (fun j u hj => by
  have hj' : j < m * size := by rw [← k1]; exact (List.getElem?_eq_some_iff.1 hj).1
  rw [addr_add, kc j hj', hj]) h1 hne (by unfold maxLen; omega) hb1 hbase _ rfl h
end
end Go.Proofs.YtnackmnoldkihaaGreatDoor
namespace Go.Proofs.YtnackmnoldkihaaGreatDoor
open Go.RowKit

section
variable {W V X W' : World} {B b : Nat} {dv : Value} {s : St}
theorem Shown.start {out : List UInt8} {ds : List DocV} (h : Wr W B b dv out ds) : Shown W B b dv (stOf out ds) W := Shown.of h (Fr.refl W B b dv)
theorem Shown.low (h : Shown V B b dv s W) : Below B V W := by obtain ⟨_, _, _, _, hf⟩ := h; exact hf.low
theorem Shown.le (h : Shown V B b dv s W) : B ≤ W.heap.size := by obtain ⟨_, _, _, hw, _⟩ := h; exact hw.le
theorem Shown.blk {g : Nat} {t : TypeId} {cs : Array Value} (h : Shown V B b dv s W) (hk : Blk V g t cs) (hg : g ≠ b) (hd : dv.ownBlock ≠ some g) (ht : t ≠ 5) : Blk W g t cs := by
 obtain ⟨_, _, _, _, hf⟩ := h
 exact hf.blk hk hg hd ht
theorem Shown.later (h : Shown V B b dv s W) (hb : Below W.heap.size W X) : Shown V B b dv s X := by
 obtain ⟨dv1, ds1, h1, h2, h3⟩ := h
 exact ⟨dv1, ds1, h1, h2.below hb, h3.later hb h2.le⟩
theorem Shown.str (h : Shown V B b dv s W) (hb : Below W.heap.size W X) (t : ByteArray) (hlen : s.1.length + t.size ≤ lim) :
 Calls Tryz.prog 78 #[.pointer (some ⟨b, 0, none⟩), .string t] X fun e w' => e = .returned (.tuple #[.int .i64 t.size, .nilIface]) ∧ Shown V B b dv (putS s (L t)) w' := by
 obtain ⟨dv1, ds1, h1, h2, h3⟩ := h
 exact (h2.str h3 hb t hlen).mono fun e w' ⟨g1, g2, g3⟩ => ⟨g1, dv1, ds1, h1, g2, g3⟩
theorem Shown.byte (h : Shown V B b dv s W) (hb : Below W.heap.size W X) (c : UInt8) (hlen : s.1.length + 1 ≤ lim) :
 Calls Tryz.prog 81 #[.pointer (some ⟨b, 0, none⟩), .int .u8 ((c.toNat : Nat) : Int)] X fun e w' => e = .returned .nilIface ∧ Shown V B b dv (putS s [c]) w' := by
 obtain ⟨dv1, ds1, h1, h2, h3⟩ := h
 exact (h2.byte h3 hb c hlen).mono fun e w' ⟨g1, g2, g3⟩ => ⟨g1, dv1, ds1, h1, g2, g3⟩
theorem Shown.line (h : Shown V B b dv s W) (hb : Below W.heap.size W X) (hlen : (lineS s).1.length ≤ lim) :
 Calls Tryz.prog 62 #[.pointer (some ⟨b, 0, none⟩)] X fun e w' => e = .returned (.tuple #[]) ∧ Shown V B b dv (lineS s) w' := by
 obtain ⟨dv1, ds1, h1, h2, h3⟩ := shown_st (h.later hb)
 rw [← h2] at hlen ⊢
 exact (line_any h1 hlen).mono fun e w' ⟨g1, g2⟩ => ⟨g1, g2.after h3⟩
theorem Shown.word {d : Nat} {ww : St → List Pt → St} {fw : List Pt → Bool} (hw : WordW d ww fw) (h : Shown V B b dv s W) (hb : Below W.heap.size W X) (hH : Hd V B) {l : List Pt} {v : Value} (hl : PtsIn V B d l v) (hf : fw l = true) (hlen : (ww s l).1.length ≤ lim) :
 Calls Tryz.prog 101 #[.pointer (some ⟨b, 0, none⟩), v] X fun e w' => e = .returned (.tuple #[]) ∧ Shown V B b dv (ww s l) w' := by
 have hx := h.later hb
 obtain ⟨dv1, ds1, h1, h2, h3⟩ := shown_st hx
 rw [← h2] at hlen ⊢
 exact (hw X B b dv1 _ ds1 l v (hH.below hx.low) h1 (hl.below hx.low) hf hlen).mono fun e w' ⟨g1, g2⟩ => ⟨g1, g2.after h3⟩
theorem Shown.list {d : Nat} {wl : St → List Nd → St} {fl : List Nd → Bool} (hw : ListW d wl fl) (h : Shown V B b dv s W) (hb : Below W.heap.size W X) (hH : Hd V B) {l : List Nd} {v : Value} (hl : NdsIn V B d l v) (hf : fl l = true) (hlen : (wl s l).1.length ≤ lim) :
 Calls Tryz.prog 48 #[.pointer (some ⟨b, 0, none⟩), v] X fun e w' => e = .returned (.tuple #[]) ∧ Shown V B b dv (wl s l) w' := by
 have hx := h.later hb
 obtain ⟨dv1, ds1, h1, h2, h3⟩ := shown_st hx
 rw [← h2] at hlen ⊢
 exact (hw X B b dv1 _ ds1 l v (hH.below hx.low) h1 (hl.below hx.low) hf hlen).mono fun e w' ⟨g1, g2⟩ => ⟨g1, g2.after h3⟩
theorem Shown.node {d : Nat} {wn : St → Nd → St} {fn : Nd → Bool} (hw : NodeW d wn fn) (h : Shown V B b dv s W) (hb : Below W.heap.size W X) (hH : Hd V B) {x : Nd} {c : List Value} (hl : NdC V B d x c) (hf : fn x = true) (hlen : (wn s x).1.length ≤ lim) :
 Calls Tryz.prog 61 #[.pointer (some ⟨b, 0, none⟩), .agg c.toArray] X fun e w' => e = .returned (.tuple #[]) ∧ Shown V B b dv (wn s x) w' := by
 have hx := h.later hb
 obtain ⟨dv1, ds1, h1, h2, h3⟩ := shown_st hx
 rw [← h2] at hlen ⊢
 exact (hw X B b dv1 _ ds1 x c (hH.below hx.low) h1 (hl.keep fun _ _ _ _ hs => hs.below hx.low) hf hlen).mono fun e w' ⟨g1, g2⟩ => ⟨g1, g2.after h3⟩
end

set_option maxHeartbeats 1000000 in
set_option maxRecDepth 100000 in
theorem wblock_any {d : Nat} {wl : St → List Nd → St} {fl : List Nd → Bool} (hw : ListW d wl fl) (hg : Grow2 wl) {V W X : World} {B b : Nat} {dv : Value} {s : St} (h : Shown V B b dv s W) (hb : Below W.heap.size W X) (hH : Hd V B) (head : ByteArray) {l : List Nd} {v : Value} (hl : NdsIn V B d l v) (hf : fl l = true) (hlen : (blockS wl s (L head) l).1.length ≤ lim) :
 Calls Tryz.prog 103 #[.pointer (some ⟨b, 0, none⟩), .string head, v] X fun e w' => e = .returned (.tuple #[]) ∧ Shown V B b dv (blockS wl s (L head) l) w' := by
 have hl2 : (lineS (putS s (L head))).1.length ≤ lim := Nat.le_trans (hg _ _) hlen
 have C1 := Lib.hid ((h.later hb).str (Below.refl _ _) head (by
  have := Nat.le_trans (lineS_grow (putS s (L head))) hl2
  simpa [putS, L_size] using this))
 obtain ⟨a, cap, rfl, _⟩ := hl.shape
 have HL := Lib.hid hl
 have HH := Lib.hid hH
 have HW := Lib.hid hw
 have HF := Lib.hid hf
 have HLEN := Lib.hid hlen
 have HL2 := Lib.hid hl2
 clear h hb hl hH hw hf hlen hl2 hg
 go_enter Tryz.func103, Tryz.ntmps103
 go_wp2_with fail
 refine C1.out.mono ?_
 rintro e w1 ⟨rfl, hs1⟩
 have C2 := Lib.hid (hs1.line (Below.refl _ _) HL2.out)
 clear hs1
 go_wp2_with fail
 refine C2.out.mono ?_
 rintro e w2 ⟨rfl, hs2⟩
 have C3 := Lib.hid (hs2.list HW.out (Below.refl _ _) HH.out HL.out HF.out HLEN.out)
 clear hs2
 go_wp2_with fail
 refine C3.out.mono ?_
 rintro e w3 ⟨rfl, hs3⟩
 have HS3 := Lib.hid hs3
 clear hs3
 go_wp2_with fail
 go_end0
 exact ⟨rfl, HS3.out⟩

/-! ### lists that are written one behind the other -/
theorem redirs_snoc (wd : St → List Pt → St) (r : Rd) : ∀ (l : List Rd) (s : St) (bl : Bool), redirsS wd s (l ++ [r]) bl = redirS wd (nextS (redirsS wd s l bl) (bl || !l.isEmpty)) r
 | [], s, bl => by simp [redirsS]
 | a :: l, s, bl => by
   rw [List.cons_append, redirsS, redirs_snoc wd r l, redirsS]; simp
theorem assigns_snoc (wd : St → List Pt → St) (a : As) : ∀ (l : List As) (s : St) (bl : Bool), assignsS wd s (l ++ [a]) bl = wd (putS (nextS (assignsS wd s l bl) (bl || !l.isEmpty)) (L a.name ++ [61])) a.word
 | [], s, bl => by simp [assignsS]
 | x :: l, s, bl => by
   rw [List.cons_append, assignsS, assigns_snoc wd a l, assignsS]; simp
theorem words_snoc (wd : St → List Pt → St) (y : List Pt) : ∀ (l : List (List Pt)) (s : St) (bl : Bool), wordsS wd s (l ++ [y]) bl = wd (nextS (wordsS wd s l bl) (bl || !l.isEmpty)) y
 | [], s, bl => by simp [wordsS]
 | x :: l, s, bl => by
   rw [List.cons_append, wordsS, words_snoc wd y l, wordsS]; simp
theorem bars_snoc (wd : St → List Pt → St) (y : List Pt) : ∀ (l : List (List Pt)) (s : St) (bl : Bool), barsS wd s (l ++ [y]) bl = wd (bif bl || !l.isEmpty then putS (barsS wd s l bl) [32, 124, 32] else barsS wd s l bl) y
 | [], s, bl => by simp [barsS]
 | x :: l, s, bl => by
   rw [List.cons_append, barsS, bars_snoc wd y l, barsS]; simp
theorem join_snoc (nd : St → Nd → St) (sign : List UInt8) (y : List Nd) : ∀ (l : List (List Nd)) (s : St) (bl : Bool), joinS nd sign s (l ++ [y]) bl = oneS nd (bif bl || !l.isEmpty then putS (joinS nd sign s l bl) sign else joinS nd sign s l bl) y
 | [], s, bl => by simp [joinS]
 | x :: l, s, bl => by
   rw [List.cons_append, joinS, join_snoc nd sign y l, joinS]; simp
theorem take_snoc' {α : Type} {l : List α} {k : Nat} {x : α} (h : l[k]? = some x) : l.take (k + 1) = l.take k ++ [x] := by rw [List.take_add_one, h]; rfl
theorem take_empty {α : Type} {l : List α} {k : Nat} (h : k < l.length) : (!(l.take k).isEmpty) = decide (0 < k) := by
 cases k with
 | zero => rfl
 | succ k => cases l with
   | nil => simp at h
   | cons a l => rfl
/-- What has been written of a list so far is no longer than the whole. -/
theorem redirs_take_le {wd : St → List Pt → St} (hw : Grow2 wd) (l : List Rd) (s : St) (bl : Bool) (k : Nat) : (redirsS wd s (l.take k) bl).1.length ≤ (redirsS wd s l bl).1.length := by
 have : ∀ (l m : List Rd) (s : St) (bl : Bool), (redirsS wd s l bl).1.length ≤ (redirsS wd s (l ++ m) bl).1.length := by
  intro l m
  induction l with
  | nil => exact fun s bl => redirsS_grow hw m s bl
  | cons a l ih => exact fun s bl => ih _ _
 have h := this (l.take k) (l.drop k) s bl
 rwa [List.take_append_drop] at h
theorem assigns_take_le {wd : St → List Pt → St} (hw : Grow2 wd) (l : List As) (s : St) (bl : Bool) (k : Nat) : (assignsS wd s (l.take k) bl).1.length ≤ (assignsS wd s l bl).1.length := by
 have : ∀ (l m : List As) (s : St) (bl : Bool), (assignsS wd s l bl).1.length ≤ (assignsS wd s (l ++ m) bl).1.length := by
  intro l m
  induction l with
  | nil => exact fun s bl => assignsS_grow hw m s bl
  | cons a l ih => exact fun s bl => ih _ _
 have h := this (l.take k) (l.drop k) s bl
 rwa [List.take_append_drop] at h
theorem words_take_le {wd : St → List Pt → St} (hw : Grow2 wd) (l : List (List Pt)) (s : St) (bl : Bool) (k : Nat) : (wordsS wd s (l.take k) bl).1.length ≤ (wordsS wd s l bl).1.length := by
 have : ∀ (l m : List (List Pt)) (s : St) (bl : Bool), (wordsS wd s l bl).1.length ≤ (wordsS wd s (l ++ m) bl).1.length := by
  intro l m
  induction l with
  | nil => exact fun s bl => wordsS_grow hw m s bl
  | cons a l ih => exact fun s bl => ih _ _
 have h := this (l.take k) (l.drop k) s bl
 rwa [List.take_append_drop] at h
theorem bars_take_le {wd : St → List Pt → St} (hw : Grow2 wd) (l : List (List Pt)) (s : St) (bl : Bool) (k : Nat) : (barsS wd s (l.take k) bl).1.length ≤ (barsS wd s l bl).1.length := by
 have : ∀ (l m : List (List Pt)) (s : St) (bl : Bool), (barsS wd s l bl).1.length ≤ (barsS wd s (l ++ m) bl).1.length := by
  intro l m
  induction l with
  | nil => exact fun s bl => barsS_grow hw m s bl
  | cons a l ih => exact fun s bl => ih _ _
 have h := this (l.take k) (l.drop k) s bl
 rwa [List.take_append_drop] at h
theorem join_take_le {nd : St → Nd → St} (hn : Grow2 nd) (sign : List UInt8) (l : List (List Nd)) (s : St) (bl : Bool) (k : Nat) : (joinS nd sign s (l.take k) bl).1.length ≤ (joinS nd sign s l bl).1.length := by
 have : ∀ (l m : List (List Nd)) (s : St) (bl : Bool), (joinS nd sign s l bl).1.length ≤ (joinS nd sign s (l ++ m) bl).1.length := by
  intro l m
  induction l with
  | nil => exact fun s bl => joinS_grow hn sign m s bl
  | cons a l ih => exact fun s bl => ih _ _
 have h := this (l.take k) (l.drop k) s bl
 rwa [List.take_append_drop] at h
end Go.Proofs.YtnackmnoldkihaaGreatDoor
