/-
  Modes, plain: what a text says of one.
-/
import Derived.Test.YtbfplannbhafeaaDoorLib
namespace Go.Proofs.YtbfplannbhafeaaDoor
open Go.RowKit

/-- x without the bits of y. -/
def andN (x y : Nat) : Nat := x ^^^ (x &&& y)
theorem andN_bit (x y i : Nat) : (andN x y).testBit i = (x.testBit i && !y.testBit i) := by
  rw [andN, Nat.testBit_xor, Nat.testBit_and]
  cases x.testBit i <;> cases y.testBit i <;> rfl

theorem bv_nat (x : Nat) : BitVec.ofInt 64 (x : Int) = BitVec.ofNat 64 x := by
  apply BitVec.eq_of_toNat_eq
  rw [BitVec.toNat_ofInt, BitVec.toNat_ofNat]; omega
theorem nat_lt_64 {x : Nat} (h : x < 4294967296) : x % 2 ^ 64 = x := Nat.mod_eq_of_lt (by omega)
theorem i64_wrap (x : Int) (h : -9223372036854775808 ≤ x ∧ x ≤ 9223372036854775807) : IntKind.i64.wrap x = x := by
  unfold IntKind.wrap
  simp [IntKind.bits, IntKind.signed]
  omega

theorem bits_or64 (x y : Nat) (hx : x < 4294967296) (hy : y < 4294967296) : bits BinOp.or .i64 (x : Int) (y : Int) = ((x ||| y : Nat) : Int) := by
  have h : x ||| y < 2 ^ 32 := Nat.or_lt_two_pow (by omega) (by omega)
  show IntKind.i64.wrap (((BitVec.ofInt 64 (x : Int) ||| BitVec.ofInt 64 (y : Int)).toNat : Nat) : Int) = _
  rw [bv_nat x, bv_nat y, BitVec.toNat_or, BitVec.toNat_ofNat, BitVec.toNat_ofNat, nat_lt_64 hx, nat_lt_64 hy, i64_wrap _ ⟨by omega, by omega⟩]
theorem bits_and64 (x y : Nat) (hx : x < 4294967296) (hy : y < 4294967296) : bits BinOp.and .i64 (x : Int) (y : Int) = ((x &&& y : Nat) : Int) := by
  have h : x &&& y ≤ x := Nat.and_le_left
  show IntKind.i64.wrap (((BitVec.ofInt 64 (x : Int) &&& BitVec.ofInt 64 (y : Int)).toNat : Nat) : Int) = _
  rw [bv_nat x, bv_nat y, BitVec.toNat_and, BitVec.toNat_ofNat, BitVec.toNat_ofNat, nat_lt_64 hx, nat_lt_64 hy, i64_wrap _ ⟨by omega, by omega⟩]
theorem bits_not64 (x y : Nat) (hx : x < 4294967296) : bits BinOp.andNot .i64 (x : Int) (y : Int) = ((andN x y : Nat) : Int) := by
  have h0 : andN x y < 2 ^ 32 := Nat.xor_lt_two_pow (by omega) (Nat.lt_of_le_of_lt Nat.and_le_left (by omega))
  show IntKind.i64.wrap (((BitVec.ofInt 64 (x : Int) &&& ~~~ BitVec.ofInt 64 (y : Int)).toNat : Nat) : Int) = _
  have e : (BitVec.ofInt 64 (x : Int) &&& ~~~ BitVec.ofInt 64 (y : Int)) = BitVec.ofNat 64 (andN x y) := by
    rw [bv_nat x, bv_nat y]
    apply BitVec.eq_of_getLsbD_eq
    intro i hi
    simp only [BitVec.getLsbD_and, BitVec.getLsbD_not, BitVec.getLsbD_ofNat, andN_bit, hi, decide_true, Bool.true_and]
  rw [e, BitVec.toNat_ofNat, Nat.mod_eq_of_lt (by omega), i64_wrap _ ⟨by omega, by omega⟩]

/-! ### who is meant -/
structure Who where
  u : Bool
  g : Bool
  o : Bool
def Who.own (c : Who) : Nat := (if c.u then 448 else 0) + (if c.g then 56 else 0) + (if c.o then 7 else 0)
def Who.bes (c : Who) : Nat := (if c.u then 2048 else 0) + (if c.g then 1024 else 0)
def Who.all : Who := ⟨true, true, true⟩
def Who.none : Who := ⟨false, false, false⟩
def isWho (c : UInt8) : Bool := c == 117 || c == 103 || c == 111 || c == 97
def Who.add (c : Who) (l : UInt8) : Who := if l = 117 then ⟨true, c.g, c.o⟩ else if l = 103 then ⟨c.u, true, c.o⟩ else if l = 111 then ⟨c.u, c.g, true⟩ else Who.all
theorem own_le (c : Who) : c.own ≤ 511 := by obtain ⟨u, g, o⟩ := c; cases u <;> cases g <;> cases o <;> decide
theorem bes_le (c : Who) : c.bes ≤ 3072 := by obtain ⟨u, g, o⟩ := c; cases u <;> cases g <;> cases o <;> decide

/-! ### bits that letters mean -/
def isLet (c : UInt8) : Bool := c == 114 || c == 119 || c == 120 || c == 88 || c == 115 || c == 116
def letN (c : Who) (any : Bool) (l : UInt8) : Nat :=
  if l = 114 then c.own &&& 292 else if l = 119 then c.own &&& 146 else if l = 120 then c.own &&& 73 else if l = 88 then (if any then c.own &&& 73 else 0) else if l = 115 then c.bes else 512
def letsN (c : Who) (any : Bool) (out : Nat) (p : List UInt8) : Nat := p.foldl (fun o l => o ||| letN c any l) out
theorem letN_le (c : Who) (any : Bool) (l : UInt8) : letN c any l < 4096 := by
  have h1 := own_le c
  have h2 := bes_le c
  have h3 : ∀ k, c.own &&& k < 4096 := fun k => Nat.lt_of_le_of_lt Nat.and_le_left (by omega)
  unfold letN
  repeat' split
  all_goals first | exact h3 _ | omega
theorem letsN_lt (c : Who) (any : Bool) : ∀ (p : List UInt8) (out : Nat), out < 4096 → letsN c any out p < 4096
  | [], _, h => h
  | _ :: p, _, h => letsN_lt c any p _ (Nat.or_lt_two_pow (n := 12) h (letN_le c any _))

/-- Without the mask's bits, where it is not said who is meant. -/
def masked (named : Bool) (mask x : Nat) : Nat := if named then x else andN x (mask &&& 511)
theorem andN_le (x y : Nat) (h : x < 4096) : andN x y < 4096 := Nat.xor_lt_two_pow (n := 12) h (Nat.lt_of_le_of_lt Nat.and_le_left h)
theorem masked_lt (named : Bool) (mask x : Nat) (h : x < 4096) : masked named mask x < 4096 := by
  unfold masked; split
  · exact h
  · exact andN_le _ _ h
def isSign (c : UInt8) : Bool := c == 43 || c == 45 || c == 61
def doSign (sign : UInt8) (m set gone : Nat) : Nat := if sign = 43 then m ||| set else if sign = 45 then andN m set else andN m gone ||| set
theorem doSign_lt (sign : UInt8) (m set gone : Nat) (hm : m < 4096) (hs : set < 4096) : doSign sign m set gone < 4096 := by
  unfold doSign
  split
  · exact Nat.or_lt_two_pow (n := 12) hm hs
  · split
    · exact andN_le _ _ hm
    · exact Nat.or_lt_two_pow (n := 12) (andN_le _ _ hm) hs
def anyB (dir : Bool) (m : Nat) : Bool := dir || (m &&& 73) != 0

theorem dropWhile_le (f : UInt8 → Bool) : ∀ l : List UInt8, (l.dropWhile f).length ≤ l.length
  | [] => Nat.le_refl _
  | c :: l => by
    rw [List.dropWhile_cons]
    split
    · have := dropWhile_le f l; simp; omega
    · exact Nat.le_refl _

/-- The actions behind who is meant. -/
def actL (c : Who) (named dir : Bool) (mask : Nat) : List UInt8 → Nat → Option Nat
  | [], m => some m
  | s :: l, m => if isSign s then actL c named dir mask (l.dropWhile isLet) (doSign s m (masked named mask (letsN c (anyB dir m) 0 (l.takeWhile isLet))) (masked named mask (c.own ||| c.bes))) else none
  termination_by l _ => l.length
  decreasing_by
    have := dropWhile_le isLet l
    simp; omega
theorem actL_nil (c : Who) (named dir : Bool) (mask m : Nat) : actL c named dir mask [] m = some m := by rw [actL]
theorem actL_yes {c : Who} {named dir : Bool} {mask m : Nat} {s : UInt8} {l : List UInt8} (h : isSign s = true) : actL c named dir mask (s :: l) m = actL c named dir mask (l.dropWhile isLet) (doSign s m (masked named mask (letsN c (anyB dir m) 0 (l.takeWhile isLet))) (masked named mask (c.own ||| c.bes))) := by rw [actL, if_pos h]
theorem actL_no {c : Who} {named dir : Bool} {mask m : Nat} {s : UInt8} {l : List UInt8} (h : isSign s = false) : actL c named dir mask (s :: l) m = none := by rw [actL, if_neg (by rw [h]; decide)]

def whoOf (s : List UInt8) : Who := if (s.takeWhile isWho) = [] then Who.all else (s.takeWhile isWho).foldl Who.add Who.none
def namedOf (s : List UInt8) : Bool := !(s.takeWhile isWho).isEmpty
def clauseL (dir : Bool) (mask : Nat) (s : List UInt8) (m : Nat) : Option Nat := if s.dropWhile isWho = [] then none else actL (whoOf s) (namedOf s) dir mask (s.dropWhile isWho) m
def partsL (dir : Bool) (mask : Nat) : List (List UInt8) → Nat → Option Nat
  | [], m => some m
  | p :: ps, m => match clauseL dir mask p m with
    | none => none
    | some n => partsL dir mask ps n

theorem actL_lt {c : Who} {named dir : Bool} {mask : Nat} : ∀ (n : Nat) (l : List UInt8) (m r : Nat), l.length ≤ n → m < 4096 → actL c named dir mask l m = some r → r < 4096
  | _, [], m, r, _, hm, h => by rw [actL_nil] at h; cases h; exact hm
  | 0, _ :: _, _, _, h, _, _ => by simp at h
  | n + 1, s :: l, m, r, hn, hm, h => by
    cases hs : isSign s with
    | false => rw [actL_no hs] at h; cases h
    | true =>
      rw [actL_yes hs] at h
      have := dropWhile_le isLet l
      exact actL_lt n _ _ r (by rw [List.length_cons] at hn; omega) (doSign_lt _ _ _ _ hm (masked_lt _ _ _ (letsN_lt _ _ _ _ (by omega)))) h
theorem clauseL_lt {dir : Bool} {mask m r : Nat} {s : List UInt8} (hm : m < 4096) (h : clauseL dir mask s m = some r) : r < 4096 := by
  unfold clauseL at h
  split at h
  · cases h
  · exact actL_lt _ _ _ _ (Nat.le_refl _) hm h

/-! ### digits -/
def octalL : List UInt8 → Nat → Nat × Int
  | [], n => (n, 0)
  | c :: l, n => if c.toNat < 48 ∨ 55 < c.toNat then (0, 11) else if 4095 < n * 8 + (c.toNat - 48) then (0, 10) else octalL l (n * 8 + (c.toNat - 48))
end Go.Proofs.YtbfplannbhafeaaDoor
