/-
  The check of bytes, plain: bit by bit; what turned bits do to it.
-/
import Derived.Test.YtaanmmfhkhbchaaDoorBytes
namespace Go.Proofs.YtaanmmfhkhbchaaDoor
open Go.RowKit

def poly : BitVec 32 := 79764919#32
def step (v : BitVec 32) : BitVec 32 := if v.msb then (v <<< 1) ^^^ poly else v <<< 1

theorem step_xor (x y : BitVec 32) : step (x ^^^ y) = step x ^^^ step y := by
  unfold step
  rw [BitVec.msb_xor, BitVec.shiftLeft_xor_distrib]
  cases x.msb <;> cases y.msb <;> simp
  · rw [BitVec.xor_assoc]
  · rw [BitVec.xor_assoc, BitVec.xor_comm (y <<< 1) poly, ← BitVec.xor_assoc]
  · rw [BitVec.xor_comm (y <<< 1) poly, ← BitVec.xor_assoc, BitVec.xor_assoc (x <<< 1) poly poly, BitVec.xor_self, BitVec.xor_zero]
theorem step_zero : step 0#32 = 0#32 := by decide
theorem step_ne {x : BitVec 32} (h : x ≠ 0#32) : step x ≠ 0#32 := by
  intro e
  unfold step at e
  cases hm : x.msb with
  | true =>
    rw [hm, if_pos rfl] at e
    have := congrArg (fun v : BitVec 32 => v.getLsbD 0) e
    simp [poly] at this
  | false =>
    rw [hm, if_neg (by decide)] at e
    apply h
    apply BitVec.eq_of_getLsbD_eq
    intro i hi
    by_cases hi31 : i = 31
    · subst hi31
      rw [BitVec.msb_eq_getLsbD_last] at hm
      simpa using hm
    · have := congrArg (fun v : BitVec 32 => v.getLsbD (i + 1)) e
      simp [BitVec.getLsbD_shiftLeft] at this
      simpa using this (by omega)

def steps : Nat → BitVec 32 → BitVec 32
  | 0, v => v
  | n + 1, v => steps n (step v)
theorem steps_xor : ∀ (n : Nat) (x y : BitVec 32), steps n (x ^^^ y) = steps n x ^^^ steps n y
  | 0, _, _ => rfl
  | n + 1, x, y => by rw [steps, steps, steps, step_xor, steps_xor n]
theorem steps_zero : ∀ n, steps n 0#32 = 0#32
  | 0 => rfl
  | n + 1 => by rw [steps, step_zero, steps_zero n]
theorem steps_ne : ∀ (n : Nat) {x : BitVec 32}, x ≠ 0#32 → steps n x ≠ 0#32
  | 0, _, h => h
  | n + 1, _, h => steps_ne n (step_ne h)

def top (b : Bool) : BitVec 32 := if b then 2147483648#32 else 0#32
def bitS (v : BitVec 32) (b : Bool) : BitVec 32 := step (v ^^^ top b)
def pack : List Bool → BitVec 32
  | [] => 0#32
  | b :: bs => top b ^^^ (pack bs >>> 1)

theorem top_bit (b : Bool) (i : Nat) : (top b).getLsbD i = (b && decide (i = 31)) := by
  cases b
  · simp [top]
  · have : (2147483648#32 : BitVec 32) = BitVec.twoPow 32 31 := by decide
    rw [top, if_pos rfl, this, BitVec.getLsbD_twoPow]
    by_cases h : i = 31
    · subst h; rfl
    · simp [h]; intro h2; omega

theorem pack_bit : ∀ (bs : List Bool) (i : Nat), i < 32 → (pack bs).getLsbD i = bs.getD (31 - i) false
  | [], i, _ => by simp [pack]
  | b :: bs, i, hi => by
    rw [pack, BitVec.getLsbD_xor, top_bit, BitVec.getLsbD_ushiftRight]
    by_cases h : i = 31
    · subst h
      have : (pack bs).getLsbD (1 + 31) = false := BitVec.getLsbD_of_ge _ _ (by omega)
      rw [this]; simp
    · rw [pack_bit bs (1 + i) (by omega)]
      obtain ⟨j, hj⟩ : ∃ j, 31 - i = j + 1 := ⟨30 - i, by omega⟩
      rw [hj, show 31 - (1 + i) = j by omega]
      simp [h]

theorem fold_pack : ∀ (bs : List Bool) (v : BitVec 32), bs.length ≤ 32 → bs.foldl bitS v = steps bs.length (v ^^^ pack bs)
  | [], v, _ => by simp [pack, steps]
  | b :: bs, v, h => by
    rw [List.length_cons] at h
    have h0 : (pack bs).getLsbD 0 = false := by
      rw [pack_bit bs 0 (by omega), List.getD, List.getElem?_eq_none (by omega)]; rfl
    have h1 : step (pack bs >>> 1) = pack bs := by
      have hm : (pack bs >>> 1).msb = false := by simp
      rw [step, hm, if_neg (by decide)]
      apply BitVec.eq_of_getLsbD_eq
      intro i hi
      rw [BitVec.getLsbD_shiftLeft, BitVec.getLsbD_ushiftRight]
      by_cases hi0 : i = 0
      · subst hi0; rw [h0]; simp
      · rw [show 1 + (i - 1) = i by omega]; simp [hi]; intro h2; omega
    rw [List.foldl_cons, fold_pack bs (bitS v b) (by omega), List.length_cons, steps, pack, ← BitVec.xor_assoc, step_xor, h1, bitS]

theorem fold_diff : ∀ (x y : List Bool) (u v : BitVec 32), x.length = y.length → x.foldl bitS u ^^^ y.foldl bitS v = (List.zipWith (· ^^ ·) x y).foldl bitS (u ^^^ v)
  | [], [], _, _, _ => rfl
  | [], _ :: _, _, _, h => by simp at h
  | _ :: _, [], _, _, h => by simp at h
  | a :: x, b :: y, u, v, h => by
    rw [List.foldl_cons, List.foldl_cons, fold_diff x y _ _ (by simpa using h), List.zipWith_cons_cons, List.foldl_cons]
    congr 1
    rw [bitS, bitS, bitS, ← step_xor]
    congr 1
    have : top (a ^^ b) = top a ^^^ top b := by cases a <;> cases b <;> decide
    rw [this]
    ac_rfl

theorem fold_false : ∀ (n : Nat) (v : BitVec 32), (List.replicate n false).foldl bitS v = steps n v
  | 0, _ => rfl
  | n + 1, v => by
    rw [List.replicate_succ, List.foldl_cons, fold_false n, steps]
    congr 1
    rw [bitS]
    simp [top]

/-- Bits turned within 32 turn the outcome. -/
theorem burst_fold (a r : Nat) (f : List Bool) (hf : f.length = 32) (h1 : true ∈ f) : (List.replicate a false ++ f ++ List.replicate r false).foldl bitS 0#32 ≠ 0#32 := by
  rw [List.foldl_append, List.foldl_append, fold_false, fold_false, steps_zero]
  refine steps_ne r ?_
  rw [fold_pack f _ (by omega)]
  refine steps_ne _ fun e => ?_
  rw [BitVec.zero_xor] at e
  obtain ⟨i, hi, hv⟩ := List.getElem_of_mem h1
  have := pack_bit f (31 - i) (by omega)
  rw [e, show 31 - (31 - i) = i by omega, List.getD, List.getElem?_eq_getElem hi, hv] at this
  simp at this

/-! ### bytes -/
def shiftS (v : BitVec 32) (b : UInt8) : BitVec 32 := steps 8 (v ^^^ (BitVec.ofNat 32 b.toNat <<< 24))
def addS (v : BitVec 32) (l : List UInt8) : BitVec 32 := l.foldl shiftS v
def byteBits (b : UInt8) : List Bool := [b.toNat.testBit 7, b.toNat.testBit 6, b.toNat.testBit 5, b.toNat.testBit 4, b.toNat.testBit 3, b.toNat.testBit 2, b.toNat.testBit 1, b.toNat.testBit 0]
theorem byteBits_get (b : UInt8) (j : Nat) (h : j < 8) : (byteBits b)[j]? = some (b.toNat.testBit (7 - j)) := by
  rcases (by omega : j = 0 ∨ j = 1 ∨ j = 2 ∨ j = 3 ∨ j = 4 ∨ j = 5 ∨ j = 6 ∨ j = 7) with rfl | rfl | rfl | rfl | rfl | rfl | rfl | rfl <;> rfl
theorem pack_byte (b : UInt8) : pack (byteBits b) = BitVec.ofNat 32 b.toNat <<< 24 := by
  apply BitVec.eq_of_getLsbD_eq
  intro i hi
  rw [pack_bit _ _ hi, BitVec.getLsbD_shiftLeft, BitVec.getLsbD_ofNat]
  by_cases h : 24 ≤ i
  · rw [List.getD, byteBits_get b (31 - i) (by omega), show 7 - (31 - i) = i - 24 by omega]
    have h1 : ¬ i < 24 := by omega
    have h2 : i - 24 < 32 := by omega
    simp [hi, h1, h2]
  · rw [List.getD, List.getElem?_eq_none (by simp [byteBits]; omega)]
    simp; omega
theorem shift_bits (v : BitVec 32) (b : UInt8) : shiftS v b = (byteBits b).foldl bitS v := by
  rw [fold_pack _ _ (by simp [byteBits]), pack_byte]; rfl
def bitsOf (l : List UInt8) : List Bool := l.flatMap byteBits
theorem add_bits : ∀ (l : List UInt8) (v : BitVec 32), addS v l = (bitsOf l).foldl bitS v
  | [], _ => rfl
  | b :: l, v => by
    show addS (shiftS v b) l = _
    rw [add_bits l, bitsOf, bitsOf, List.flatMap_cons, List.foldl_append, shift_bits]
def bitB (l : List UInt8) (p : Nat) : Bool := (l.getD (p / 8) 0).toNat.testBit (7 - p % 8)
theorem bitsOf_len : ∀ l : List UInt8, (bitsOf l).length = 8 * l.length
  | [] => rfl
  | b :: l => by
    have := bitsOf_len l
    rw [bitsOf, List.flatMap_cons, List.length_append, List.length_cons]
    rw [bitsOf] at this
    rw [this]; simp [byteBits]; omega
theorem bitsOf_get : ∀ (l : List UInt8) (p : Nat), p < 8 * l.length → (bitsOf l)[p]? = some (bitB l p)
  | [], p, h => by simp at h
  | b :: l, p, h => by
    rw [bitsOf, List.flatMap_cons]
    by_cases hp : p < 8
    · rw [List.getElem?_append_left (by simpa [byteBits] using hp), byteBits_get b p hp, bitB, show p / 8 = 0 by omega, show p % 8 = p by omega]; rfl
    · have := bitsOf_get l (p - 8) (by rw [List.length_cons] at h; omega)
      rw [bitsOf] at this
      have h8 : (byteBits b).length = 8 := rfl
      rw [List.getElem?_append_right (by omega), h8, this, bitB, bitB, show p / 8 = (p - 8) / 8 + 1 by omega, show p % 8 = (p - 8) % 8 by omega]; rfl

theorem add_inj {u v : BitVec 32} (h : u ≠ v) (l : List UInt8) : addS u l ≠ addS v l := by
  rw [add_bits, add_bits]
  intro e
  have := fold_diff (bitsOf l) (bitsOf l) u v rfl
  rw [e, BitVec.xor_self] at this
  have hz : List.zipWith (· ^^ ·) (bitsOf l) (bitsOf l) = List.replicate (bitsOf l).length false := by
    generalize bitsOf l = x
    induction x with
    | nil => rfl
    | cons a x ih => rw [List.zipWith_cons_cons, ih, List.length_cons, List.replicate_succ]; simp
  rw [hz, fold_false] at this
  refine steps_ne _ (fun e2 => h ?_) this.symm
  have h3 := congrArg (· ^^^ v) e2
  simpa [BitVec.xor_assoc] using h3

/-- The bytes of a length, the lowest first. -/
def lenBytes (n : Nat) : List UInt8 := if n = 0 then [] else UInt8.ofNat (n % 256) :: lenBytes (n / 256)
theorem lenBytes_zero : lenBytes 0 = [] := by rw [lenBytes, if_pos rfl]
theorem lenBytes_pos {n : Nat} (h : n ≠ 0) : lenBytes n = UInt8.ofNat (n % 256) :: lenBytes (n / 256) := by rw [lenBytes, if_neg h]
def sumS (l : List UInt8) : BitVec 32 := ~~~ addS (addS 0#32 l) (lenBytes l.length)

theorem burst_law {l bl : List UInt8} {a fl : Nat} (hlen : bl.length = l.length) (ha : a + 32 ≤ 8 * l.length) (hfl : fl ≠ 0) (hf2 : fl < 4294967296)
    (hb : ∀ p, p < 8 * l.length → bitB bl p = (bitB l p ^^ (decide (a ≤ p) && decide (p < a + 32) && fl.testBit (p - a)))) : sumS l ≠ sumS bl := by
  intro e
  unfold sumS at e
  rw [hlen] at e
  have e2 := congrArg (~~~ ·) e
  simp only [BitVec.not_not] at e2
  refine add_inj (fun e3 => ?_) _ e2
  rw [add_bits, add_bits] at e3
  have hd := fold_diff (bitsOf l) (bitsOf bl) 0#32 0#32 (by rw [bitsOf_len, bitsOf_len, hlen])
  rw [e3, BitVec.xor_self, BitVec.xor_self] at hd
  have hz : List.zipWith (· ^^ ·) (bitsOf l) (bitsOf bl) = List.replicate a false ++ (List.range 32).map (fun i => fl.testBit i) ++ List.replicate (8 * l.length - a - 32) false := by
    apply List.ext_getElem?
    intro p
    by_cases hp : p < 8 * l.length
    · rw [List.getElem?_zipWith, bitsOf_get l p hp, bitsOf_get bl p (by omega), hb p hp]
      have hx : ∀ x y : Bool, (x ^^ (x ^^ y)) = y := by decide
      simp only [hx]
      by_cases h1 : p < a
      · rw [List.getElem?_append_left (by simp; omega), List.getElem?_append_left (by simpa using h1), List.getElem?_replicate, if_pos h1]
        simp; omega
      · by_cases h2 : p < a + 32
        · rw [List.getElem?_append_left (by simp; omega), List.getElem?_append_right (by simp; omega), List.length_replicate, List.getElem?_map, List.getElem?_range (by omega)]
          simp; omega
        · rw [List.getElem?_append_right (by simp; omega), List.getElem?_replicate, if_pos (by simp; omega)]
          simp; omega
    · rw [List.getElem?_eq_none (by rw [List.length_zipWith, bitsOf_len, bitsOf_len]; omega), List.getElem?_eq_none (by simp; omega)]
  rw [hz] at hd
  refine burst_fold a _ _ (by simp) ?_ hd.symm
  obtain ⟨i, hi⟩ := Nat.exists_testBit_of_ne_zero hfl
  have hi32 : i < 32 := by
    refine Nat.lt_of_not_le fun h => ?_
    rw [Nat.testBit_lt_two_pow (Nat.lt_of_lt_of_le hf2 (Nat.pow_le_pow_right (n := 2) (i := 32) (by omega) h))] at hi
    cases hi
  exact List.mem_map.2 ⟨i, List.mem_range.2 hi32, hi⟩
end Go.Proofs.YtaanmmfhkhbchaaDoor
