/-
  Small laws for walks, over any program of the kind: bytes as a string, the elements of a slice that came in, lists.
-/
import Derived.Test.YtnofoenkeoabpaaDoorRows
import Derived.WalkKit
import Derived.WalkSpells
import Derived.WalkLawsBesides
import Derived.Laws.BytesArg
import Derived.Handy
import Derived.Lib.Hide
import Derived.ScopeJumps
import Derived.Lib.Strings
namespace Go.Proofs.YtnofoenkeoabpaaDoor
open Go.RowKit

/-! ### what is returned -/
theorem ret_string {a b : ByteArray} (h : a = b) : Ending.returned (.string a) = .returned (.string b) := by rw [h]
theorem ret_bool {a b : Bool} (h : a = b) : Ending.returned (.bool a) = .returned (.bool b) := by rw [h]
theorem ret_int {k : IntKind} {a b : Int} (h : a = b) : Ending.returned (.int k a) = .returned (.int k b) := by rw [h]

/-! ### strings as lists of bytes -/
/-- The bytes of a string. -/
def L (s : ByteArray) : List UInt8 := s.data.toList
/-- The string of bytes. -/
def S (l : List UInt8) : ByteArray := ⟨l.toArray⟩
theorem L_S (l : List UInt8) : L (S l) = l := rfl
theorem S_L (s : ByteArray) : S (L s) = s := rfl
theorem L_size (s : ByteArray) : (L s).length = s.size := rfl
theorem S_size (l : List UInt8) : (S l).size = l.length := rfl
theorem L_append (s t : ByteArray) : L (s ++ t) = L s ++ L t := by simp [L]
theorem S_append (l m : List UInt8) : S l ++ S m = S (l ++ m) := by
  have : L (S l ++ S m) = l ++ m := by rw [L_append, L_S, L_S]
  rw [← this, S_L]
theorem L_inj {s t : ByteArray} (h : L s = L t) : s = t := by rw [← S_L s, h, S_L]
theorem S_inj {l m : List UInt8} (h : S l = S m) : l = m := by rw [← L_S l, h, L_S]
theorem toList_L (s : ByteArray) : s.toList = L s := ByteArray.toList_eq s

@[simp] theorem size_mk' (a : Array UInt8) : (ByteArray.mk a).size = a.size := rfl
@[simp] theorem L_mk (a : Array UInt8) : L ⟨a⟩ = a.toList := rfl

/-- A number that is a byte. -/
theorem u8_of {n : Int} (h0 : 0 ≤ n) (h1 : n < 256) : n = (((UInt8.ofNat n.toNat).toNat : Nat) : Int) := by simp; omega

theorem L_extract (s : ByteArray) (a b : Nat) : L (s.extract a b) = ((L s).drop a).take (b - a) := Lib.extract_data s a b
theorem drop_getD (l : List UInt8) {k : Nat} (h : k < l.length) : l.drop k = l.getD k 0 :: l.drop (k + 1) := by
  rw [List.drop_eq_getElem_cons h]; simp [List.getD, h]
/-- A byte of a string. -/
theorem run_idx {P : Program} {T : TypeId} (hT : P.underlying T = some .string) (s : ByteArray) {k : IntKind} (i : Int) (n : Nat) (hi : i = n) (hn : n < s.size) (w : World) :
    (Instr.index T (.string s) (.int k i)).run P w = .ok (.int .u8 ((((L s).getD n 0).toNat : Nat) : Int)) w := by
  subst hi
  have h0 : (0 : Int) ≤ (n : Int) := by omega
  have h1 : s[n]? = some ((L s).getD n 0) := by
    rw [getElem?_pos s n hn]
    have : n < (L s).length := hn
    simp [List.getD, this]
    rfl
  simp [Instr.index, run_underlying hT, asIntOf, h1]

/-! ### bits -/
theorem bits_and_mask (k : IntKind) (m : Nat) (hm : m + 1 < k.bits) (x : Int) : bits BinOp.and k x ((2 ^ m - 1 : Nat) : Int) = x % (2 ^ m : Nat) := by
  have hp : 2 ^ m < 2 ^ (k.bits - 1) := Nat.pow_lt_pow_right (by omega) (by omega)
  have hb : 2 ^ k.bits = 2 * 2 ^ (k.bits - 1) := by rw [← Nat.pow_succ']; congr 1; omega
  have h1 : 0 < 2 ^ m := Nat.pow_pos (by omega)
  have e2 : (BitVec.ofInt k.bits ((2 ^ m - 1 : Nat) : Int)).toNat = 2 ^ m - 1 := by
    rw [BitVec.toNat_ofInt, Int.emod_eq_of_lt (by omega) (by omega)]; omega
  have hx : (BitVec.ofInt k.bits x &&& BitVec.ofInt k.bits ((2 ^ m - 1 : Nat) : Int)).toNat = (x % (2 ^ m : Nat)).toNat := by
    rw [BitVec.toNat_and, e2, Nat.and_two_pow_sub_one_eq_mod, BitVec.toNat_ofInt]
    have hd : ((2 ^ m : Nat) : Int) ∣ ((2 ^ k.bits : Nat) : Int) := by
      refine Int.natCast_dvd_natCast.2 (Nat.pow_dvd_pow 2 (by omega))
    have := Int.emod_emod_of_dvd x hd
    have hn : 0 ≤ x % ((2 ^ k.bits : Nat) : Int) := Int.emod_nonneg _ (by omega)
    obtain ⟨y, hy⟩ := Int.eq_ofNat_of_zero_le hn
    rw [hy] at this ⊢
    rw [← this, Int.toNat_natCast, ← Int.natCast_emod, Int.toNat_natCast]
  have hr : 0 ≤ x % ((2 ^ m : Nat) : Int) ∧ x % ((2 ^ m : Nat) : Int) < ((2 ^ m : Nat) : Int) := ⟨Int.emod_nonneg _ (by omega), Int.emod_lt_of_pos _ (by omega)⟩
  show k.wrap (((BitVec.ofInt k.bits x &&& BitVec.ofInt k.bits ((2 ^ m - 1 : Nat) : Int)).toNat : Nat) : Int) = _
  rw [hx, Int.toNat_of_nonneg hr.1]
  generalize x % ((2 ^ m : Nat) : Int) = y at hr
  unfold IntKind.wrap
  cases k <;> simp [IntKind.bits, IntKind.signed] at hp hb ⊢ <;> omega

@[go_sem] theorem bits_and_7 (x : Int) : bits BinOp.and .i64 x 7 = x % 8 := bits_and_mask .i64 3 (by decide) x
@[go_sem] theorem bits_and_63 (x : Int) : bits BinOp.and .u32 x 63 = x % 64 := bits_and_mask .u32 6 (by decide) x

theorem bits_or_nat (x y : Nat) (hx : x < 4294967296) (hy : y < 4294967296) : bits BinOp.or .u32 (x : Int) (y : Int) = ((x ||| y : Nat) : Int) := by
  have h : x ||| y < 2 ^ 32 := Nat.or_lt_two_pow (by omega) (by omega)
  have e : (BitVec.ofInt 32 (x : Int) ||| BitVec.ofInt 32 (y : Int)).toNat = x ||| y := by
    rw [BitVec.toNat_or, BitVec.toNat_ofInt, BitVec.toNat_ofInt]
    congr 1 <;> omega
  show IntKind.u32.wrap (((BitVec.ofInt 32 (x : Int) ||| BitVec.ofInt 32 (y : Int)).toNat : Nat) : Int) = _
  rw [e, IntWalk.u32_in _ ⟨by omega, by omega⟩]

theorem mul_256 (a b : Nat) : (a * 256 + b) * 256 = a * 65536 + b * 256 := by omega

/-- Three bytes in a number, as the walk spells it. -/
theorem or3 (a b c : UInt8) : bits BinOp.or .u32 (bits BinOp.or .u32 (((a.toNat : Nat) : Int) % 4294967296 * 65536 % 4294967296) (((b.toNat : Nat) : Int) % 4294967296 * 256 % 4294967296)) (((c.toNat : Nat) : Int) % 4294967296) = ((a.toNat * 65536 + b.toNat * 256 + c.toNat : Nat) : Int) := by
  have ha := a.toNat_lt
  have hb := b.toNat_lt
  have hc := c.toNat_lt
  rw [show ((a.toNat : Nat) : Int) % 4294967296 * 65536 % 4294967296 = ((a.toNat * 65536 : Nat) : Int) by omega, show ((b.toNat : Nat) : Int) % 4294967296 * 256 % 4294967296 = ((b.toNat * 256 : Nat) : Int) by omega,
    show ((c.toNat : Nat) : Int) % 4294967296 = (c.toNat : Int) by omega, bits_or_nat _ _ (by omega) (by omega)]
  have e1 : a.toNat * 65536 ||| b.toNat * 256 = a.toNat * 65536 + b.toNat * 256 := by
    have := Nat.shiftLeft_add_eq_or_of_lt (b := b.toNat * 256) (i := 16) (by omega) a.toNat
    rw [Nat.shiftLeft_eq, show (2 : Nat) ^ 16 = 65536 from rfl] at this
    exact this.symm
  have e2 : (a.toNat * 65536 + b.toNat * 256) ||| c.toNat = a.toNat * 65536 + b.toNat * 256 + c.toNat := by
    have := Nat.shiftLeft_add_eq_or_of_lt (b := c.toNat) (i := 8) (by omega) (a.toNat * 256 + b.toNat)
    rw [Nat.shiftLeft_eq, show (2 : Nat) ^ 8 = 256 from rfl] at this
    rw [mul_256] at this
    exact this.symm
  rw [e1, bits_or_nat _ _ (by omega) (by omega), e2]

/-! ### bytes in cells, as a string -/
/-- The bytes in the cells off, off + 1 .. of block b. -/
def cellBytes (w : World) (b : Nat) : Nat → Nat → Option (List UInt8)
  | _, 0 => some []
  | off, l + 1 => match w.cell? ⟨b, off, none⟩ with
    | some (.int .u8 n) => (cellBytes w b (off + 1) l).map (UInt8.ofNat n.toNat :: ·)
    | _ => none
def convFb (P : Program) (w : World) (src dst b off l c : Nat) : Result Value := (convert src dst (.slice (some ⟨b, off, none⟩) l c)).run P w
def convK (o : Option (List UInt8)) (w : World) (fb : Result Value) : Result Value := match o with
  | some l => .ok (.string ⟨l.toArray⟩) w
  | none => fb
theorem convK_some (l : List UInt8) (w : World) (fb : Result Value) : convK (some l) w fb = .ok (.string ⟨l.toArray⟩) w := rfl
attribute [go_sem] cellBytes convK_some

theorem cellBytes_get (w : World) (b : Nat) : ∀ (l off : Nat) (bs : List UInt8), cellBytes w b off l = some bs →
    bs.length = l ∧ ∃ xs : List Int, xs.length = l ∧ (∀ i, i < l → w.cell? ⟨b, off + i, none⟩ = some (.int .u8 (xs.getD i 0))) ∧ strOfNums xs = ⟨bs.toArray⟩ := by
  intro l
  induction l with
  | zero => intro off bs h; simp [cellBytes] at h; subst h; exact ⟨rfl, [], rfl, by intro i hi; omega, rfl⟩
  | succ l ih =>
    intro off bs h
    unfold cellBytes at h
    split at h
    · rename_i n hn
      simp only [Option.map_eq_some_iff] at h
      obtain ⟨t, ht, rfl⟩ := h
      obtain ⟨h1, xs, h2, h3, h4⟩ := ih _ _ ht
      refine ⟨by simp [h1], n :: xs, by simp [h2], ?_, ?_⟩
      · intro i hi
        cases i with
        | zero => simpa using hn
        | succ i => have := h3 i (by omega); rw [show off + (i + 1) = off + 1 + i by omega, this]; simp
      · have h5 : (strOfNums xs).data.toList = t := by rw [h4]
        simp only [strOfNums_data] at h5
        simp [strOfNums, h5]
    · cases h

theorem run_convK {P : Program} (src dst e : Nat) (hs : P.underlying src = some (.slice e)) (he : P.underlying e = some (.int .u8)) (hd : P.underlying dst = some .string) (w : World) (b off l c : Nat) :
    (convert src dst (.slice (some ⟨b, off, none⟩) l c)).run P w = convK (cellBytes w b off l) w (convFb P w src dst b off l c) := by
  cases h : cellBytes w b off l with
  | none => rfl
  | some bs =>
    obtain ⟨h1, xs, h2, h3, h4⟩ := cellBytes_get w b l off bs h
    rw [run_convert_bytes_arg w src e hs he b off l c xs h2 h3 dst hd, h4]; rfl

/-! ### a slice that came in -/
/-- The cells of the slice (a, n) hold xs; they lie below block B. -/
def Elems (w : World) (B : Nat) (a : Option Addr) (n : Nat) (xs : List Value) : Prop :=
  xs.length = n ∧ n ≤ maxLen ∧ (n = 0 ∨ ∃ b off, a = some ⟨b, off, none⟩ ∧ b < B ∧ ∀ i, i < n → w.cell? ⟨b, off + i, none⟩ = xs[i]?)

theorem Elems.below {w w' : World} {B : Nat} {a : Option Addr} {n : Nat} {xs : List Value} (h : Elems w B a n xs) (hb : Below B w w') : Elems w' B a n xs := by
  obtain ⟨h1, h2, h3⟩ := h
  refine ⟨h1, h2, ?_⟩
  rcases h3 with h3 | ⟨b, off, ha, hB, hc⟩
  · exact .inl h3
  · exact .inr ⟨b, off, ha, hB, fun i hi => by rw [hb.cell (p := ⟨b, off + i, none⟩) hB]; exact hc i hi⟩

theorem Elems.mono {w : World} {B B' : Nat} {a : Option Addr} {n : Nat} {xs : List Value} (h : Elems w B a n xs) (hB : B ≤ B') : Elems w B' a n xs := by
  obtain ⟨h1, h2, h3⟩ := h
  refine ⟨h1, h2, ?_⟩
  rcases h3 with h3 | ⟨b, off, ha, hb, hc⟩
  · exact .inl h3
  · exact .inr ⟨b, off, ha, by omega, hc⟩

/-- A slice of one cell that the call has just made. -/
theorem elems_one (w : World) (v : Value) (e : TypeId) : Elems (w.alloc (.cells #[v] e)) (w.alloc (.cells #[v] e)).heap.size (some ⟨w.heap.size, 0, none⟩) 1 [v] := by
  refine ⟨rfl, by unfold maxLen; omega, .inr ⟨_, _, rfl, by simp, fun i hi => ?_⟩⟩
  obtain rfl : i = 0 := by omega
  simp

theorem addr_add (b off k : Nat) : (⟨b, off, none⟩ : Addr).add k = ⟨b, off + k, none⟩ := by
  unfold Addr.add; split <;> simp_all

/-- What a walk wants of the slice: where its k-th element lies, and what is there. -/
theorem Elems.open {P : Program} {w : World} {B : Nat} {a : Option Addr} {n : Nat} {xs : List Value} (h : Elems w B a n xs) (T E : Nat)
    (hT : P.underlying T = some (.slice E)) (hs : (P.info? E).map (·.size) = some 1) :
    ∃ b off, (∀ (k cap : Nat) (w' : World), k < n → (Instr.indexAt T (.slice a n cap) (.int .i64 (k : Int))).run P w' = .ok (.pointer (some ⟨b, off + k, none⟩)) w') ∧ (n = 0 ∨ b < B) ∧
      ∀ k, k < n → w.cell? ⟨b, off + k, none⟩ = xs[k]? := by
  obtain ⟨h1, h2, h3⟩ := h
  rcases h3 with h3 | ⟨b, off, rfl, hB, hc⟩
  · exact ⟨0, 0, fun k _ _ hk => by omega, .inl h3, fun k hk => by omega⟩
  · refine ⟨b, off, fun k cap w' hk => ?_, .inr hB, hc⟩
    have he : P.elem T = E := by simp [Program.elem, hT]
    rw [run_indexAt_slice _ _ _ _ _ _ _ (by rw [he]; exact hT), if_pos ⟨by omega, by omega⟩, he]
    obtain ⟨i, hi, hi1⟩ := Option.map_eq_some_iff.1 hs
    simp [sizeOf, typeInfo, hi, hi1, Result.andThen, addr_add]

/-! ### a scope in which the run jumps back to one label -/
theorem Exit.jump_mono {l : Nat} {J J' : Act → World → Prop} {Q : Exit → Act → World → Prop} (h : ∀ a w, J a w → J' a w) : ∀ e a w, Exit.jump l J Q e a w → Exit.jump l J' Q e a w := by
  intro e a w he
  cases e <;> first | exact he | exact ⟨he.1, h _ _ he.2⟩

theorem wp_scope_again {P : Program} {a : Act} {w : World} {Q : Exit → Act → World → Prop} {c rest : Code} (l : Nat) (J : Act → World → Prop) (μ : Act → World → Nat) (hf : findLabel c l = some (.seq .skip rest))
    (pass : ∀ a w, J a w → rest.wp P (Exit.jump l (fun a' w' => J a' w' ∧ μ a' w' < μ a w) Q) a w)
    (first : Hid (∀ a w, J a w → rest.wp P (Exit.jump l J Q) a w) → c.wp P (Exit.jump l J Q) a w) : (Code.scope c).wp P Q a w :=
  wp_scope_jumps l J μ hf (first fun a w hJ => Code.wp_mono (Exit.jump_mono fun _ _ h => h.1) (pass a w hJ)) fun a w hJ => wp_seq (wp_skip (pass a w hJ))

end Go.Proofs.YtnofoenkeoabpaaDoor
