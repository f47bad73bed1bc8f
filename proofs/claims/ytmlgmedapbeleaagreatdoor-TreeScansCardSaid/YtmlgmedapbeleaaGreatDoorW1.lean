/-
  Paths, plain: the slashes at the end, the last slash, the last part and what stands ahead of it.
-/
import Derived.Test.YtmlgmedapbeleaaGreatDoorRows
import Derived.WalkKit
import Derived.WalkSpells
import Derived.WalkLawsBesides
import Derived.Laws.BytesArg
import Derived.Handy
import Derived.Lib.Hide
import Derived.ScopeJumps
import Derived.Lib.Strings
import Derived.Laws.AppendOwnNone
import Derived.OneCell
import Derived.OwnWalk
import Derived.Deep.AppendLies
import Derived.Maps.OwnSet
import Derived.WideKeyEntry
import Derived.Laws.IdiomStrings
import Derived.Lib.TrimByte
import Derived.Lib.LastIndexByte
set_option linter.unusedVariables false
set_option linter.unusedSimpArgs false
/-
  Small laws for walks, over any program of the kind: bytes as a string, the elements of a slice that came in, lists.
-/
namespace Go.Proofs.YtmlgmedapbeleaaGreatDoor
open Go.RowKit

/-! ### what is returned -/
theorem ret_string {a b : ByteArray} (h : a = b) : Ending.returned (.string a) = .returned (.string b) := by rw [h]
theorem ret_bool {a b : Bool} (h : a = b) : Ending.returned (.bool a) = .returned (.bool b) := by rw [h]
theorem ret_int {k : IntKind} {a b : Int} (h : a = b) : Ending.returned (.int k a) = .returned (.int k b) := by rw [h]

/-! ### strings as lists of bytes -/
/-- The bytes of a string. -/
def L (s : ByteArray) : List UInt8 := s.data.toList
/-- The string of bytes. -/
def S (l : List UInt8) : ByteArray := ⟨l.toArray⟩
theorem L_S (l : List UInt8) : L (S l) = l := rfl
theorem S_L (s : ByteArray) : S (L s) = s := rfl
theorem L_size (s : ByteArray) : (L s).length = s.size := rfl
theorem S_size (l : List UInt8) : (S l).size = l.length := rfl
theorem L_append (s t : ByteArray) : L (s ++ t) = L s ++ L t := by simp [L]
theorem S_append (l m : List UInt8) : S l ++ S m = S (l ++ m) := by
  have : L (S l ++ S m) = l ++ m := by rw [L_append, L_S, L_S]
  rw [← this, S_L]
theorem L_inj {s t : ByteArray} (h : L s = L t) : s = t := by rw [← S_L s, h, S_L]
theorem S_inj {l m : List UInt8} (h : S l = S m) : l = m := by rw [← L_S l, h, L_S]
theorem toList_L (s : ByteArray) : s.toList = L s := ByteArray.toList_eq s

@[simp] theorem size_mk' (a : Array UInt8) : (ByteArray.mk a).size = a.size := rfl
@[simp] theorem L_mk (a : Array UInt8) : L ⟨a⟩ = a.toList := rfl

/-- A number that is a byte. -/
theorem u8_of {n : Int} (h0 : 0 ≤ n) (h1 : n < 256) : n = (((UInt8.ofNat n.toNat).toNat : Nat) : Int) := by simp; omega

theorem L_extract (s : ByteArray) (a b : Nat) : L (s.extract a b) = ((L s).drop a).take (b - a) := Lib.extract_data s a b
theorem drop_getD (l : List UInt8) {k : Nat} (h : k < l.length) : l.drop k = l.getD k 0 :: l.drop (k + 1) := by
  rw [List.drop_eq_getElem_cons h]; simp [List.getD, h]
/-- A byte of a string. -/
theorem run_idx {P : Program} {T : TypeId} (hT : P.underlying T = some .string) (s : ByteArray) {k : IntKind} (i : Int) (n : Nat) (hi : i = n) (hn : n < s.size) (w : World) :
    (Instr.index T (.string s) (.int k i)).run P w = .ok (.int .u8 ((((L s).getD n 0).toNat : Nat) : Int)) w := by
  subst hi
  have h0 : (0 : Int) ≤ (n : Int) := by omega
  have h1 : s[n]? = some ((L s).getD n 0) := by
    rw [getElem?_pos s n hn]
    have : n < (L s).length := hn
    simp [List.getD, this]
    rfl
  simp [Instr.index, run_underlying hT, asIntOf, h1]

/-! ### bits -/
theorem bits_and_mask (k : IntKind) (m : Nat) (hm : m + 1 < k.bits) (x : Int) : bits BinOp.and k x ((2 ^ m - 1 : Nat) : Int) = x % (2 ^ m : Nat) := by
  have hp : 2 ^ m < 2 ^ (k.bits - 1) := Nat.pow_lt_pow_right (by omega) (by omega)
  have hb : 2 ^ k.bits = 2 * 2 ^ (k.bits - 1) := by rw [← Nat.pow_succ']; congr 1; omega
  have h1 : 0 < 2 ^ m := Nat.pow_pos (by omega)
  have e2 : (BitVec.ofInt k.bits ((2 ^ m - 1 : Nat) : Int)).toNat = 2 ^ m - 1 := by
    rw [BitVec.toNat_ofInt, Int.emod_eq_of_lt (by omega) (by omega)]; omega
  have hx : (BitVec.ofInt k.bits x &&& BitVec.ofInt k.bits ((2 ^ m - 1 : Nat) : Int)).toNat = (x % (2 ^ m : Nat)).toNat := by
    rw [BitVec.toNat_and, e2, Nat.and_two_pow_sub_one_eq_mod, BitVec.toNat_ofInt]
    have hd : ((2 ^ m : Nat) : Int) ∣ ((2 ^ k.bits : Nat) : Int) := by
      refine Int.natCast_dvd_natCast.2 (Nat.pow_dvd_pow 2 (by omega))
    have := Int.emod_emod_of_dvd x hd
    have hn : 0 ≤ x % ((2 ^ k.bits : Nat) : Int) := Int.emod_nonneg _ (by omega)
    obtain ⟨y, hy⟩ := Int.eq_ofNat_of_zero_le hn
    rw [hy] at this ⊢
    rw [← this, Int.toNat_natCast, ← Int.natCast_emod, Int.toNat_natCast]
  have hr : 0 ≤ x % ((2 ^ m : Nat) : Int) ∧ x % ((2 ^ m : Nat) : Int) < ((2 ^ m : Nat) : Int) := ⟨Int.emod_nonneg _ (by omega), Int.emod_lt_of_pos _ (by omega)⟩
  show k.wrap (((BitVec.ofInt k.bits x &&& BitVec.ofInt k.bits ((2 ^ m - 1 : Nat) : Int)).toNat : Nat) : Int) = _
  rw [hx, Int.toNat_of_nonneg hr.1]
  generalize x % ((2 ^ m : Nat) : Int) = y at hr
  unfold IntKind.wrap
  cases k <;> simp [IntKind.bits, IntKind.signed] at hp hb ⊢ <;> omega

@[go_sem] theorem bits_and_7 (x : Int) : bits BinOp.and .i64 x 7 = x % 8 := bits_and_mask .i64 3 (by decide) x
@[go_sem] theorem bits_and_63 (x : Int) : bits BinOp.and .u32 x 63 = x % 64 := bits_and_mask .u32 6 (by decide) x

theorem bits_or_nat (x y : Nat) (hx : x < 4294967296) (hy : y < 4294967296) : bits BinOp.or .u32 (x : Int) (y : Int) = ((x ||| y : Nat) : Int) := by
  have h : x ||| y < 2 ^ 32 := Nat.or_lt_two_pow (by omega) (by omega)
  have e : (BitVec.ofInt 32 (x : Int) ||| BitVec.ofInt 32 (y : Int)).toNat = x ||| y := by
    rw [BitVec.toNat_or, BitVec.toNat_ofInt, BitVec.toNat_ofInt]
    congr 1 <;> omega
  show IntKind.u32.wrap (((BitVec.ofInt 32 (x : Int) ||| BitVec.ofInt 32 (y : Int)).toNat : Nat) : Int) = _
  rw [e, IntWalk.u32_in _ ⟨by omega, by omega⟩]

theorem mul_256 (a b : Nat) : (a * 256 + b) * 256 = a * 65536 + b * 256 := by omega

/-- Three bytes in a number, as the walk spells it. -/
theorem or3 (a b c : UInt8) : bits BinOp.or .u32 (bits BinOp.or .u32 (((a.toNat : Nat) : Int) % 4294967296 * 65536 % 4294967296) (((b.toNat : Nat) : Int) % 4294967296 * 256 % 4294967296)) (((c.toNat : Nat) : Int) % 4294967296) = ((a.toNat * 65536 + b.toNat * 256 + c.toNat : Nat) : Int) := by
  have ha := a.toNat_lt
  have hb := b.toNat_lt
  have hc := c.toNat_lt
  rw [show ((a.toNat : Nat) : Int) % 4294967296 * 65536 % 4294967296 = ((a.toNat * 65536 : Nat) : Int) by omega, show ((b.toNat : Nat) : Int) % 4294967296 * 256 % 4294967296 = ((b.toNat * 256 : Nat) : Int) by omega,
    show ((c.toNat : Nat) : Int) % 4294967296 = (c.toNat : Int) by omega, bits_or_nat _ _ (by omega) (by omega)]
  have e1 : a.toNat * 65536 ||| b.toNat * 256 = a.toNat * 65536 + b.toNat * 256 := by
    have := Nat.shiftLeft_add_eq_or_of_lt (b := b.toNat * 256) (i := 16) (by omega) a.toNat
    rw [Nat.shiftLeft_eq, show (2 : Nat) ^ 16 = 65536 from rfl] at this
    exact this.symm
  have e2 : (a.toNat * 65536 + b.toNat * 256) ||| c.toNat = a.toNat * 65536 + b.toNat * 256 + c.toNat := by
    have := Nat.shiftLeft_add_eq_or_of_lt (b := c.toNat) (i := 8) (by omega) (a.toNat * 256 + b.toNat)
    rw [Nat.shiftLeft_eq, show (2 : Nat) ^ 8 = 256 from rfl] at this
    rw [mul_256] at this
    exact this.symm
  rw [e1, bits_or_nat _ _ (by omega) (by omega), e2]

/-! ### bytes in cells, as a string -/
/-- The bytes in the cells off, off + 1 .. of block b. -/
def cellBytes (w : World) (b : Nat) : Nat → Nat → Option (List UInt8)
  | _, 0 => some []
  | off, l + 1 => match w.cell? ⟨b, off, none⟩ with
    | some (.int .u8 n) => (cellBytes w b (off + 1) l).map (UInt8.ofNat n.toNat :: ·)
    | _ => none
def convFb (P : Program) (w : World) (src dst b off l c : Nat) : Result Value := (convert src dst (.slice (some ⟨b, off, none⟩) l c)).run P w
def convK (o : Option (List UInt8)) (w : World) (fb : Result Value) : Result Value := match o with
  | some l => .ok (.string ⟨l.toArray⟩) w
  | none => fb
theorem convK_some (l : List UInt8) (w : World) (fb : Result Value) : convK (some l) w fb = .ok (.string ⟨l.toArray⟩) w := rfl
attribute [go_sem] cellBytes convK_some

theorem cellBytes_get (w : World) (b : Nat) : ∀ (l off : Nat) (bs : List UInt8), cellBytes w b off l = some bs →
    bs.length = l ∧ ∃ xs : List Int, xs.length = l ∧ (∀ i, i < l → w.cell? ⟨b, off + i, none⟩ = some (.int .u8 (xs.getD i 0))) ∧ strOfNums xs = ⟨bs.toArray⟩ := by
  intro l
  induction l with
  | zero => intro off bs h; simp [cellBytes] at h; subst h; exact ⟨rfl, [], rfl, by intro i hi; omega, rfl⟩
  | succ l ih =>
    intro off bs h
    unfold cellBytes at h
    split at h
    · rename_i n hn
      simp only [Option.map_eq_some_iff] at h
      obtain ⟨t, ht, rfl⟩ := h
      obtain ⟨h1, xs, h2, h3, h4⟩ := ih _ _ ht
      refine ⟨by simp [h1], n :: xs, by simp [h2], ?_, ?_⟩
      · intro i hi
        cases i with
        | zero => simpa using hn
        | succ i => have := h3 i (by omega); rw [show off + (i + 1) = off + 1 + i by omega, this]; simp
      · have h5 : (strOfNums xs).data.toList = t := by rw [h4]
        simp only [strOfNums_data] at h5
        simp [strOfNums, h5]
    · cases h

theorem run_convK {P : Program} (src dst e : Nat) (hs : P.underlying src = some (.slice e)) (he : P.underlying e = some (.int .u8)) (hd : P.underlying dst = some .string) (w : World) (b off l c : Nat) :
    (convert src dst (.slice (some ⟨b, off, none⟩) l c)).run P w = convK (cellBytes w b off l) w (convFb P w src dst b off l c) := by
  cases h : cellBytes w b off l with
  | none => rfl
  | some bs =>
    obtain ⟨h1, xs, h2, h3, h4⟩ := cellBytes_get w b l off bs h
    rw [run_convert_bytes_arg w src e hs he b off l c xs h2 h3 dst hd, h4]; rfl

/-! ### a slice that came in -/
/-- The cells of the slice (a, n) hold xs; they lie below block B. -/
def Elems (w : World) (B : Nat) (a : Option Addr) (n : Nat) (xs : List Value) : Prop :=
  xs.length = n ∧ n ≤ maxLen ∧ (n = 0 ∨ ∃ b off, a = some ⟨b, off, none⟩ ∧ b < B ∧ ∀ i, i < n → w.cell? ⟨b, off + i, none⟩ = xs[i]?)

theorem Elems.below {w w' : World} {B : Nat} {a : Option Addr} {n : Nat} {xs : List Value} (h : Elems w B a n xs) (hb : Below B w w') : Elems w' B a n xs := by
  obtain ⟨h1, h2, h3⟩ := h
  refine ⟨h1, h2, ?_⟩
  rcases h3 with h3 | ⟨b, off, ha, hB, hc⟩
  · exact .inl h3
  · exact .inr ⟨b, off, ha, hB, fun i hi => by rw [hb.cell (p := ⟨b, off + i, none⟩) hB]; exact hc i hi⟩

theorem Elems.mono {w : World} {B B' : Nat} {a : Option Addr} {n : Nat} {xs : List Value} (h : Elems w B a n xs) (hB : B ≤ B') : Elems w B' a n xs := by
  obtain ⟨h1, h2, h3⟩ := h
  refine ⟨h1, h2, ?_⟩
  rcases h3 with h3 | ⟨b, off, ha, hb, hc⟩
  · exact .inl h3
  · exact .inr ⟨b, off, ha, by omega, hc⟩

/-- A slice of one cell that the call has just made. -/
theorem elems_one (w : World) (v : Value) (e : TypeId) : Elems (w.alloc (.cells #[v] e)) (w.alloc (.cells #[v] e)).heap.size (some ⟨w.heap.size, 0, none⟩) 1 [v] := by
  refine ⟨rfl, by unfold maxLen; omega, .inr ⟨_, _, rfl, by simp, fun i hi => ?_⟩⟩
  obtain rfl : i = 0 := by omega
  simp

theorem addr_add (b off k : Nat) : (⟨b, off, none⟩ : Addr).add k = ⟨b, off + k, none⟩ := by
  unfold Addr.add; split <;> simp_all

/-- What a walk wants of the slice: where its k-th element lies, and what is there. -/
theorem Elems.open {P : Program} {w : World} {B : Nat} {a : Option Addr} {n : Nat} {xs : List Value} (h : Elems w B a n xs) (T E : Nat)
    (hT : P.underlying T = some (.slice E)) (hs : (P.info? E).map (·.size) = some 1) :
    ∃ b off, (∀ (k cap : Nat) (w' : World), k < n → (Instr.indexAt T (.slice a n cap) (.int .i64 (k : Int))).run P w' = .ok (.pointer (some ⟨b, off + k, none⟩)) w') ∧ (n = 0 ∨ b < B) ∧
      ∀ k, k < n → w.cell? ⟨b, off + k, none⟩ = xs[k]? := by
  obtain ⟨h1, h2, h3⟩ := h
  rcases h3 with h3 | ⟨b, off, rfl, hB, hc⟩
  · exact ⟨0, 0, fun k _ _ hk => by omega, .inl h3, fun k hk => by omega⟩
  · refine ⟨b, off, fun k cap w' hk => ?_, .inr hB, hc⟩
    have he : P.elem T = E := by simp [Program.elem, hT]
    rw [run_indexAt_slice _ _ _ _ _ _ _ (by rw [he]; exact hT), if_pos ⟨by omega, by omega⟩, he]
    obtain ⟨i, hi, hi1⟩ := Option.map_eq_some_iff.1 hs
    simp [sizeOf, typeInfo, hi, hi1, Result.andThen, addr_add]

/-! ### a scope in which the run jumps back to one label -/
theorem Exit.jump_mono {l : Nat} {J J' : Act → World → Prop} {Q : Exit → Act → World → Prop} (h : ∀ a w, J a w → J' a w) : ∀ e a w, Exit.jump l J Q e a w → Exit.jump l J' Q e a w := by
  intro e a w he
  cases e <;> first | exact he | exact ⟨he.1, h _ _ he.2⟩

theorem wp_scope_again {P : Program} {a : Act} {w : World} {Q : Exit → Act → World → Prop} {c rest : Code} (l : Nat) (J : Act → World → Prop) (μ : Act → World → Nat) (hf : findLabel c l = some (.seq .skip rest))
    (pass : ∀ a w, J a w → rest.wp P (Exit.jump l (fun a' w' => J a' w' ∧ μ a' w' < μ a w) Q) a w)
    (first : Hid (∀ a w, J a w → rest.wp P (Exit.jump l J Q) a w) → c.wp P (Exit.jump l J Q) a w) : (Code.scope c).wp P Q a w :=
  wp_scope_jumps l J μ hf (first fun a w hJ => Code.wp_mono (Exit.jump_mono fun _ _ h => h.1) (pass a w hJ)) fun a w hJ => wp_seq (wp_skip (pass a w hJ))

end Go.Proofs.YtmlgmedapbeleaaGreatDoor
/-
  Slices whose elements take any number of cells: what they hold; an element's place; cutting; appending to a slice of the call's own.
-/
namespace Go.Proofs.YtmlgmedapbeleaaGreatDoor
open Go.RowKit

/-- A frame whose unknown slots are one function's values. -/
theorem fr_intro {a : Act} {F : (Nat → Value) → Act} (h : a = F (fun i => a.tmps.getD i undef)) : ∃ u, a = F u := ⟨_, h⟩

/-- v is a slice of n elements, of size cells each, below block B; xs are all cells. -/
def Sl (w : World) (B size : Nat) (v : Value) (n : Nat) (xs : List Value) : Prop :=
  xs.length = n * size ∧ ∃ a cap, v = .slice a n cap ∧ n ≤ cap ∧ cap ≤ maxLen ∧ (n = 0 ∨ ∃ b off, a = some ⟨b, off, none⟩ ∧ b < B ∧ ∀ j, j < n * size → w.cell? ⟨b, off + j, none⟩ = xs[j]?)

section
variable {w w' : World} {B B' size n : Nat} {v : Value} {xs : List Value}
theorem Sl.nil (w : World) (B size : Nat) : Sl w B size (.slice none 0 0) 0 [] := ⟨by simp, none, 0, rfl, Nat.le_refl _, Nat.zero_le _, .inl rfl⟩
theorem Sl.keep (h : Sl w B size v n xs) (hc : ∀ b o, b < B → w'.cell? ⟨b, o, none⟩ = w.cell? ⟨b, o, none⟩) : Sl w' B size v n xs := by
  obtain ⟨h1, a, cap, h2, h3, h4, h5⟩ := h
  refine ⟨h1, a, cap, h2, h3, h4, ?_⟩
  rcases h5 with h5 | ⟨b, off, ha, hb, hx⟩
  · exact .inl h5
  · exact .inr ⟨b, off, ha, hb, fun j hj => by rw [hc _ _ hb]; exact hx j hj⟩
theorem Sl.mono (h : Sl w B size v n xs) (hB : B ≤ B') : Sl w B' size v n xs := by
  obtain ⟨h1, a, cap, h2, h3, h4, h5⟩ := h
  refine ⟨h1, a, cap, h2, h3, h4, ?_⟩
  rcases h5 with h5 | ⟨b, off, ha, hb, hx⟩
  · exact .inl h5
  · exact .inr ⟨b, off, ha, by omega, hx⟩
theorem Sl.below (h : Sl w B size v n xs) (hb : Below B w w') : Sl w' B size v n xs := h.keep fun b o hlt => hb.cell (p := ⟨b, o, none⟩) hlt
theorem Sl.set (h : Sl w B size v n xs) {p : Addr} (hp : B ≤ p.block) (u : Value) : Sl (w.setCell p u) B size v n xs :=
  h.keep fun b o hlt => World.cell?_setCell_other w p _ u (fun e => by subst e; simp at hp; omega)
theorem Sl.grown (h : Sl w B size v n xs) {row : Option Nat} (hg : w.grownBy w' row) (hB : B ≤ w.heap.size) (hr : ∀ g, row = some g → B ≤ g) : Sl w' B size v n xs :=
  h.keep fun b o hlt => World.cell?_of_block (hg.block b (by omega) (fun e => by have := hr _ e.symm; omega))
theorem Sl.len (h : Sl w B size v n xs) : n ≤ maxLen := by obtain ⟨_, _, _, _, h3, h4, _⟩ := h; omega
theorem Sl.of_own {base : Nat} {e : TypeId} (h : w.ownsRow base e size v n xs) : Sl w w.heap.size size v n xs := by
  obtain ⟨h1, h2⟩ := h
  refine ⟨h1, ?_⟩
  rcases h2 with ⟨rfl, h3⟩ | ⟨g, cap, cur, rfl, hB, hg, hn, hc, hs, hx⟩
  · exact ⟨none, 0, by rw [h3], by omega, Nat.zero_le _, .inl h3⟩
  · refine ⟨some ⟨g, 0, none⟩, cap, rfl, hn, hc, .inr ⟨g, 0, rfl, (Array.getElem?_eq_some_iff.1 hg).1, fun j hj => ?_⟩⟩
    rw [← hx, List.getElem?_take_of_lt hj, Nat.zero_add]
    simp [World.cell?, hg]

/-- What a walk wants: its form; where an element lies; its cells. -/
theorem Sl.open {P : Program} (h : Sl w B size v n xs) (T E : Nat) (hT : P.underlying T = some (.slice E)) (hs : (P.info? E).map (·.size) = some size) :
    ∃ a cap b off, v = .slice a n cap ∧ n ≤ cap ∧ n ≤ maxLen ∧ (∀ (k : Nat) (w' : World), k < n → (Instr.indexAt T (.slice a n cap) (.int .i64 (k : Int))).run P w' = .ok (.pointer (some ⟨b, off + k * size, none⟩)) w') ∧ (n = 0 ∨ b < B) ∧
      ∀ j, j < n * size → w.cell? ⟨b, off + j, none⟩ = xs[j]? := by
  obtain ⟨h1, a, cap, rfl, h3, h4, h5⟩ := h
  rcases h5 with h5 | ⟨b, off, rfl, hB, hc⟩
  · subst h5; exact ⟨a, cap, 0, 0, rfl, h3, Nat.zero_le _, fun k _ hk => by omega, .inl rfl, fun j hj => by omega⟩
  · refine ⟨_, cap, b, off, rfl, h3, by omega, fun k w' hk => ?_, .inr hB, hc⟩
    have he : P.elem T = E := by simp [Program.elem, hT]
    rw [run_indexAt_slice _ _ _ _ _ _ _ (by rw [he]; exact hT), if_pos ⟨by omega, by omega⟩, he]
    obtain ⟨i, hi, hi1⟩ := Option.map_eq_some_iff.1 hs
    simp [sizeOf, typeInfo, hi, hi1, Result.andThen, addr_add]

/-- v[k:] -/
theorem Sl.cut {P : Program} (h : Sl w B size v n xs) (T E : Nat) (hT : P.underlying T = some (.slice E)) (hs : (P.info? E).map (·.size) = some size) {k : Nat} (hk : k ≤ n) :
    ∃ v', (∀ (w' : World), (Instr.slice T v (some (.int .i64 (k : Int))) none none).run P w' = .ok v' w') ∧ Sl w B size v' (n - k) (xs.drop (k * size)) := by
  obtain ⟨h1, a, cap, rfl, h3, h4, h5⟩ := h
  have he : P.elem T = E := by simp [Program.elem, hT]
  obtain ⟨i, hi, hi1⟩ := Option.map_eq_some_iff.1 hs
  refine ⟨sliced a k n cap size, fun w' => ?_, ?_⟩
  · rw [run_slice_l w' T a n cap (by rw [he]; exact hT) .i64 k (by omega) (by omega), he]
    simp [sizeOf, typeInfo, hi, hi1, Result.andThen]
  · refine ⟨by rw [List.length_drop, h1, Nat.sub_mul], _, _, rfl, by omega, by omega, ?_⟩
    rcases h5 with h5 | ⟨b, off, rfl, hB, hc⟩
    · exact .inl (by omega)
    · by_cases e : n = k
      · exact .inl (by omega)
      · refine .inr ⟨b, off + k * size, ?_, hB, fun j hj => ?_⟩
        · rw [if_neg (by omega), Option.map_some, addr_add]
        · rw [Nat.add_assoc, hc (k * size + j) (by rw [Nat.sub_mul] at hj; omega), List.getElem?_drop]

/-- The cells of an element. -/
theorem flat_get {α : Type} (f : α → List Value) (size : Nat) (hf : ∀ x, (f x).length = size) : ∀ (l : List α) (k : Nat) (x : α), l[k]? = some x → ∀ j, j < size → (l.flatMap f)[k * size + j]? = (f x)[j]?
  | [], k, x, h, _, _ => by simp at h
  | y :: l, 0, x, h, j, hj => by
    simp at h; subst h
    rw [List.flatMap_cons, Nat.zero_mul, Nat.zero_add, List.getElem?_append_left (by rw [hf]; exact hj)]
  | y :: l, k + 1, x, h, j, hj => by
    rw [List.flatMap_cons, List.getElem?_append_right (by rw [hf, Nat.succ_mul]; omega), hf, show (k + 1) * size + j - size = k * size + j by rw [Nat.succ_mul]; omega]
    exact flat_get f size hf l k x (by simpa using h) j hj
theorem flat_len {α : Type} (f : α → List Value) (size : Nat) (hf : ∀ x, (f x).length = size) : ∀ (l : List α), (l.flatMap f).length = l.length * size
  | [] => by simp
  | y :: l => by rw [List.flatMap_cons, List.length_append, hf, flat_len f size hf l, List.length_cons, Nat.succ_mul]; omega
theorem flat_drop {α : Type} (f : α → List Value) (size : Nat) (hf : ∀ x, (f x).length = size) : ∀ (l : List α) (k : Nat), (l.flatMap f).drop (k * size) = (l.drop k).flatMap f
  | l, 0 => by simp
  | [], k + 1 => by simp
  | y :: l, k + 1 => by
    rw [List.flatMap_cons, List.drop_append, hf, List.drop_of_length_le (by rw [hf, Nat.succ_mul]; omega), List.nil_append, show (k + 1) * size - size = k * size by rw [Nat.succ_mul]; omega, List.drop_succ_cons]
    exact flat_drop f size hf l k

/-- append(s, x...), s the call's own, x whatever lies ready. -/
theorem append_sl {P : Program} {ops : Array Oper} {rest : List Oper} {o : Oper} {a : Act} {Q : Exit → Act → World → Prop} (hgd : o.guard = none) (s x : Operand) (t : TypeId)
    (ho : o.op = .call { callee := .builtin .append, args := #[s, x], argTypes := #[t, t] }) (base : Nat) (e : TypeId) {z : Value} {bytes : Nat} (ht : P.underlying t = some (.slice e))
    (hinfo : (P.info? e).map (fun i => (i.zero, i.size, i.bytes)) = some (some z, size, bytes)) (hzs : z.cells.size = size) (hsz : 0 < size)
    {v : Value} {n : Nat} {xs : List Value} (hs : a.eval s = v) (hown : w.ownsRow base e size v n xs) {vx : Value} {m : Nat} {news : List Value} {B : Nat} (hx : a.eval x = vx) (hsl : Sl w B size vx m news) (hne : 0 < m) (h1 : ∀ u ∈ news, u.oneCell' = true)
    (hlen : (n + m) * (bytes + 1) ≤ 140737488355328) (hbase : base ≤ w.heap.size)
    (h : ∀ g cap w', w'.ownsRow base e size (.slice (some ⟨g, 0, none⟩) (n + m) cap) (n + m) (xs ++ news) → w.grownBy w' v.ownBlock → (v.ownBlock = some g ∨ g = w.heap.size) → g < w'.heap.size → wpList P ops Q rest (a.put o.dst (.slice (some ⟨g, 0, none⟩) (n + m) cap)) w') : wpList P ops Q (o :: rest) a w := by
  obtain ⟨i0, hi, hz0, hz1, hz2⟩ := info_parts hinfo
  obtain ⟨k1, ax, cx, rfl, k3, k4, k5⟩ := hsl
  rcases k5 with k5 | ⟨b, off, rfl, kB, kc⟩
  · omega
  have hb1 : (n + m) * bytes ≤ 140737488355328 := Nat.le_trans (Nat.mul_le_mul_left _ (by omega)) hlen
  have hb2 : n + m ≤ 140737488355328 := Nat.le_trans (Nat.le_mul_of_pos_right _ (by omega)) hlen
  exact wpList_append_lies w hgd s x t ho base e i0 z size bytes ht hi hz0 hz1 hz2 hzs hsz v n xs hs hown ⟨b, off, none⟩ m cx news hx k1 (fun j u hj => by
    have hj' : j < m * size := by rw [← k1]; exact (List.getElem?_eq_some_iff.1 hj).1
    rw [addr_add, kc j hj', hj]) h1 hne (by unfold maxLen; omega) hb1 hbase _ rfl h

/-- The same, its bounds one by one. -/
theorem append_sl2 {P : Program} {ops : Array Oper} {rest : List Oper} {o : Oper} {a : Act} {Q : Exit → Act → World → Prop} (hgd : o.guard = none) (s x : Operand) (t : TypeId)
    (ho : o.op = .call { callee := .builtin .append, args := #[s, x], argTypes := #[t, t] }) (base : Nat) (e : TypeId) {z : Value} {bytes : Nat} (ht : P.underlying t = some (.slice e))
    (hinfo : (P.info? e).map (fun i => (i.zero, i.size, i.bytes)) = some (some z, size, bytes)) (hzs : z.cells.size = size) (hsz : 0 < size)
    {v : Value} {n : Nat} {xs : List Value} (hs : a.eval s = v) (hown : w.ownsRow base e size v n xs) {vx : Value} {m : Nat} {news : List Value} {B : Nat} (hx : a.eval x = vx) (hsl : Sl w B size vx m news) (hne : 0 < m) (h1 : ∀ u ∈ news, u.oneCell' = true)
    (hb1 : (n + m) * bytes ≤ 140737488355328) (hb2 : n + m ≤ maxLen) (hbase : base ≤ w.heap.size)
    (h : ∀ g cap w', w'.ownsRow base e size (.slice (some ⟨g, 0, none⟩) (n + m) cap) (n + m) (xs ++ news) → w.grownBy w' v.ownBlock → (v.ownBlock = some g ∨ g = w.heap.size) → g < w'.heap.size → wpList P ops Q rest (a.put o.dst (.slice (some ⟨g, 0, none⟩) (n + m) cap)) w') : wpList P ops Q (o :: rest) a w := by
  obtain ⟨i0, hi, hz0, hz1, hz2⟩ := info_parts hinfo
  obtain ⟨k1, ax, cx, rfl, k3, k4, k5⟩ := hsl
  rcases k5 with k5 | ⟨b, off, rfl, kB, kc⟩
  · omega
  exact wpList_append_lies w hgd s x t ho base e i0 z size bytes ht hi hz0 hz1 hz2 hzs hsz v n xs hs hown ⟨b, off, none⟩ m cx news hx k1 (fun j u hj => by
    have hj' : j < m * size := by rw [← k1]; exact (List.getElem?_eq_some_iff.1 hj).1
    rw [addr_add, kc j hj', hj]) h1 hne hb2 hb1 hbase _ rfl h
end

/-- A row of the call's own stays where only what is new, or another block, turns. -/
theorem own_below {w w' : World} {base : Nat} {e : TypeId} {size : Nat} {v : Value} {n : Nat} {xs : List Value} (h : w.ownsRow base e size v n xs) (hb : Below w.heap.size w w') : w'.ownsRow base e size v n xs := by
  refine ⟨h.1, ?_⟩
  rcases h.2 with h2 | ⟨g, cap, cur, hv, hB, hg, r⟩
  · exact .inl h2
  · exact .inr ⟨g, cap, cur, hv, hB, by rw [hb.block g (Array.getElem?_eq_some_iff.1 hg).1]; exact hg, r⟩
theorem own_from {w : World} {base base' : Nat} {e : TypeId} {size : Nat} {v : Value} {n : Nat} {xs : List Value} (h : w.ownsRow base e size v n xs) (hB : base' ≤ base) : w.ownsRow base' e size v n xs := by
  refine ⟨h.1, ?_⟩
  rcases h.2 with h2 | ⟨g, cap, cur, hv, hB2, r⟩
  · exact .inl h2
  · exact .inr ⟨g, cap, cur, hv, Nat.le_trans hB hB2, r⟩

/-- A slice that has just been made of elements that are written out. -/
theorem sl_made (w : World) (cs : Array Value) (e : TypeId) (n size : Nat) (hs : cs.size = n * size) (hn : n ≤ maxLen) {B : Nat} (hB : w.heap.size < B) : Sl (w.alloc (.cells cs e)) B size (.slice (some ⟨w.heap.size, 0, none⟩) n n) n cs.toList := by
  refine ⟨by simpa using hs, _, _, rfl, Nat.le_refl _, hn, .inr ⟨w.heap.size, 0, rfl, hB, fun j _ => ?_⟩⟩
  rw [Nat.zero_add]
  unfold World.cell?
  rw [heap_alloc_new]
  simp

theorem sl_made_at (w : World) (cs : Array Value) (e : TypeId) (n size : Nat) (hs : cs.size = n * size) (hn : n ≤ maxLen) {g : Nat} (hg : g = w.heap.size) : Sl (w.alloc (.cells cs e)) (w.alloc (.cells cs e)).heap.size size (.slice (some ⟨g, 0, none⟩) n n) n cs.toList := by
  subst hg
  exact sl_made w cs e n size hs hn (by simp)

/-- Block g is just these cells, none of which is frozen. -/
def Blk (w : World) (g : Nat) (t : TypeId) (cs : Array Value) : Prop := w.heap[g]? = some (.cells cs t (0, 0))
section
variable {w w' : World} {g : Nat} {t : TypeId} {cs : Array Value}
theorem Blk.lt (h : Blk w g t cs) : g < w.heap.size := by
  rcases Nat.lt_or_ge g w.heap.size with hlt | hge
  · exact hlt
  · unfold Blk at h; rw [Array.getElem?_eq_none hge] at h; cases h
theorem Blk.cell (h : Blk w g t cs) (i : Nat) : w.cell? ⟨g, i, none⟩ = cs[i]? := by
  unfold Blk at h
  simp [World.cell?, h]
theorem Blk.free (h : Blk w g t cs) (i : Nat) : w.frozen? ⟨g, i, none⟩ = false := by
  unfold Blk at h
  simp [World.frozen?, h]
theorem Blk.new (w : World) (t : TypeId) (cs : Array Value) : Blk (w.alloc (.cells cs t)) w.heap.size t cs := heap_alloc_new w _
theorem Blk.alloc (h : Blk w g t cs) (o : Obj) : Blk (w.alloc o) g t cs := (Below.heap_alloc w o g h.lt).trans h
theorem Blk.put (h : Blk w g t cs) (i : Nat) (u : Value) : Blk (w.setCell ⟨g, i, none⟩ u) g t (cs.setIfInBounds i u) := by
  unfold Blk at h ⊢
  simp [World.setCell, Array.getElem?_modify, h]
theorem Blk.far (h : Blk w g t cs) {p : Addr} (hp : g ≠ p.block) (u : Value) : Blk (w.setCell p u) g t cs := (Below.heap_setCell w p u g hp).trans h
theorem Blk.below {B : Nat} (h : Blk w g t cs) (hb : Below B w w') (hg : g < B) : Blk w' g t cs := (hb.block g hg).trans h
theorem Blk.grown (h : Blk w g t cs) {row : Option Nat} (hg : w.grownBy w' row) (hr : row ≠ some g) : Blk w' g t cs := (hg.block g h.lt (Ne.symm hr)).trans h
theorem Blk.drewN (h : Blk w g t cs) (n : Nat) : Blk (w.drewN n) g t cs := h
end
theorem own_shape {w : World} {base : Nat} {e : TypeId} {size : Nat} {v : Value} {n : Nat} {xs : List Value} (h : w.ownsRow base e size v n xs) : ∃ a cap, v = .slice a n cap := by
  rcases h.2 with ⟨rfl, rfl⟩ | ⟨g, cap, cur, rfl, _⟩
  · exact ⟨none, 0, rfl⟩
  · exact ⟨_, cap, rfl⟩
theorem own_ne {w : World} {base : Nat} {e : TypeId} {size : Nat} {v : Value} {n : Nat} {xs : List Value} (h : w.ownsRow base e size v n xs) {g : Nat} (hg : g < base) : v.ownBlock ≠ some g := fun e => by
  have := (World.ownsRow.lt h g e).1
  omega
theorem own_far {w : World} {base : Nat} {e : TypeId} {size : Nat} {v : Value} {n : Nat} {xs : List Value} (h : w.ownsRow base e size v n xs) {p : Addr} (hp : p.block < base) (u : Value) : (w.setCell p u).ownsRow base e size v n xs := ownsRow_setCell_below h hp u
end Go.Proofs.YtmlgmedapbeleaaGreatDoor
/-
  A map from strings of the call's own, whatever its elements are: what it holds, exactly.
-/
namespace Go.Proofs.YtmlgmedapbeleaaGreatDoor
open Go.RowKit Go.ChangeMaps

/-- An element reads as itself. -/
def RV (v : Value) : Option (DataW Value × List MemPlace) := some (.held v, [])

/-- The map in block b holds m; it has at most n entries. -/
def MapS (w : World) (b n : Nat) (m : List UInt8 → Option Value) : Prop :=
  ∃ D : DataW Value, w.ownsMap Tryz.prog 9 RV b n D ∧ ∀ (t : List UInt8) (z : DataW Value), D.atKey (.string t) z = match m t with | some v => .held v | none => z

section
variable {w w' : World} {b n : Nat} {m : List UInt8 → Option Value}
theorem MapS.lt (h : MapS w b n m) : b < w.heap.size := by
  obtain ⟨D, h1, _⟩ := h
  exact h1.lt
theorem MapS.below (h : MapS w b n m) (hb : Below w.heap.size w w') : MapS w' b n m := by
  obtain ⟨D, h1, h2⟩ := h
  refine ⟨D, ?_, h2⟩
  have hlt := h1.lt
  obtain ⟨es, clock, h0, F, hs, hD⟩ := h1
  exact ⟨es, clock, (hb.block b hlt).trans h0, F, hs, hD⟩
theorem MapS.block (h : MapS w b n m) (hb : w'.heap[b]? = w.heap[b]?) : MapS w' b n m := by
  obtain ⟨D, ⟨es, clock, h0, F, hs, hD⟩, h2⟩ := h
  exact ⟨D, ⟨es, clock, hb.trans h0, F, hs, hD⟩, h2⟩
theorem MapS.kept {row : Option Nat} (h : MapS w b n m) (hg : w.grownBy w' row) (hne : some b ≠ row) : MapS w' b n m := h.block (hg.block b h.lt hne)
theorem MapS.set (h : MapS w b n m) {p : Addr} (hp : b ≠ p.block) (u : Value) : MapS (w.setCell p u) b n m := h.block (Below.heap_setCell _ _ _ _ hp)
theorem MapS.alloc (h : MapS w b n m) (o : Obj) : MapS (w.alloc o) b n m := h.block (Below.heap_alloc w o b h.lt)
theorem MapS.mono (h : MapS w b n m) {n' : Nat} (hn : n ≤ n') : MapS w b n' m := by
  obtain ⟨D, h1, h2⟩ := h
  exact ⟨D, h1.mono hn, h2⟩
theorem MapS.made (w : World) : MapS (w.alloc (.map #[] 0)) w.heap.size 0 (fun _ => none) := ⟨_, World.ownsMap_made _ _ _ _, fun t z => by simp [DataW.atKey]⟩
theorem MapS.put_at {D : DataW Value} (h0 : Maps.IsMap D) (h2 : ∀ (t : List UInt8) (z : DataW Value), D.atKey (.string t) z = match m t with | some v => .held v | none => z) (s : List UInt8) (v : Value) :
    ∀ (t : List UInt8) (z : DataW Value), (D.put (.string s) (.held v)).atKey (.string t) z = match (if t = s then some v else m t) with | some v => .held v | none => z := by
  intro t z
  by_cases e : t = s
  · subst e
    rw [Maps.atKey_put_same h0 (by simp [WideAt.IsKeyLit]), if_pos rfl]
  · rw [Maps.atKey_put_other (by intro h'; injection h' with h'; exact e h'), if_neg e, h2 t]

theorem hasKey_of {D : DataW Value} (h2 : ∀ (t : List UInt8) (z : DataW Value), D.atKey (.string t) z = match m t with | some v => .held v | none => z) (t : List UInt8) : Maps.has D (.string t) = (m t).isSome := by
  cases hm : m t with
  | none => exact Maps.has_false_of_atKey fun z => by rw [h2 t z, hm]
  | some v => exact Maps.has_true_of_atKey fun z => by rw [h2 t z, hm]

/-- m[s] -/
theorem MapS.look (h : MapS w b n m) {T e : TypeId} (ht : Tryz.prog.underlying T = some (.map 9 e)) {z : Value} (hz : (zeroValue e).run Tryz.prog w = .ok z w) (s : ByteArray) (hs : s.size ≤ maxLen) :
    (Instr.lookup T (.map (some b)) (.string s) false).run Tryz.prog w = .ok ((m (L s)).getD z) w := by
  obtain ⟨D, h1, h2⟩ := h
  obtain ⟨v, ps, hr, hv⟩ := h1.lookup (t := T) (Maps.string_keyed Tryz.underlying9) ht hz (zd := .held z) (zp := []) rfl (WideMaps.keyOf_string_mk Tryz.underlying9 hs)
  have h3 := h2 (L s) (.held z)
  rw [hr]
  rw [L] at h3
  simp only [RV, Option.some.injEq, Prod.mk.injEq] at hv
  rw [h3] at hv
  rw [L]
  cases hm : m s.data.toList with
  | none => rw [hm] at hv; simp at hv; simp [hv]
  | some u => rw [hm] at hv; simp at hv; simp [hv]
/-- v, ok := m[s] -/
theorem MapS.look_ok (h : MapS w b n m) {T e : TypeId} (ht : Tryz.prog.underlying T = some (.map 9 e)) {z : Value} (hz : (zeroValue e).run Tryz.prog w = .ok z w) (s : ByteArray) (hs : s.size ≤ maxLen) :
    (Instr.lookup T (.map (some b)) (.string s) true).run Tryz.prog w = .ok (.tuple #[(m (L s)).getD z, .bool (m (L s)).isSome]) w := by
  obtain ⟨D, h1, h2⟩ := h
  obtain ⟨v, ps, hr, hv⟩ := h1.look_ok (t := T) (Maps.string_keyed Tryz.underlying9) ht hz (zd := .held z) (zp := []) rfl (WideMaps.keyOf_string_mk Tryz.underlying9 hs)
  have h3 := h2 (L s) (.held z)
  have h4 := hasKey_of h2 (L s)
  rw [L] at h3 h4
  rw [hr, h4]
  simp only [RV, Option.some.injEq, Prod.mk.injEq] at hv
  rw [h3] at hv
  rw [L]
  cases hm : m s.data.toList with
  | none => rw [hm] at hv; simp at hv; simp [hv]
  | some u => rw [hm] at hv; simp at hv; simp [hv]
end

theorem heap_setBlock_same' (w : World) (b : Nat) (X : Obj) {Y : Obj} (hb : w.heap[b]? = some Y) : (setBlock w b X).heap[b]? = some X := by
  have := (Array.getElem?_eq_some_iff.1 hb).1
  simp [setBlock, this]
theorem heap_setBlock_other' (w : World) (b : Nat) (X : Obj) (i : Nat) (h : i ≠ b) : (setBlock w b X).heap[i]? = w.heap[i]? := by
  simp [setBlock, Ne.symm h]

/-- m[s] = v, at the operation. -/
theorem wpList_put {w : World} {ops : Array Oper} {rest : List Oper} {o : Oper} {a : Act} {Q : Exit → Act → World → Prop} (hg : o.guard = none) (m x v : Operand) (T : TypeId) (hop : o.op = Op.mapUpdate T m x v) (e : TypeId) (ht : Tryz.prog.underlying T = some (.map 9 e))
    {b n : Nat} {f : List UInt8 → Option Value} (hm : a.eval m = .map (some b)) (hown : MapS w b n f) (hn : n < maxLen) (s : ByteArray) (u : Value) (hx : a.eval x = .string s) (hv : a.eval v = u) (hs : s.size ≤ maxLen)
    (hK : ∀ w', MapS w' b (n + 1) (fun t => if t = L s then some u else f t) → w.grownBy w' (some b) → wpList Tryz.prog ops Q rest (a.put o.dst undef) w') : wpList Tryz.prog ops Q (o :: rest) a w := by
  obtain ⟨D, h1, h2⟩ := hown
  exact wpList_mapUpdate_own w hg m x v T hop 9 e (Maps.string_keyed Tryz.underlying9) ht RV b n D hm h1 hn (.string s) u (.string (L s)) hx hv (WideMaps.keyOf_string_mk Tryz.underlying9 hs) (.held u) [] rfl fun w' h3 h4 =>
    hK w' ⟨_, h3, MapS.put_at h1.isMap h2 (L s) u⟩ h4

/-- m[s] = v, as an equation. -/
theorem MapS.put_run {w : World} {b n : Nat} {f : List UInt8 → Option Value} (hown : MapS w b n f) {T e : TypeId} (ht : Tryz.prog.underlying T = some (.map 9 e)) (hn : n < maxLen) (s : ByteArray) (u : Value) (hs : s.size ≤ maxLen) :
    ∃ w', (Instr.mapUpdate T (.map (some b)) (.string s) u).run Tryz.prog w = .ok () w' ∧ MapS w' b (n + 1) (fun t => if t = L s then some u else f t) ∧ w.grownBy w' (some b) := by
  obtain ⟨D, h1, h2⟩ := hown
  obtain ⟨w', hr, r1, r2⟩ := h1.update (Maps.string_keyed Tryz.underlying9) ht hn (val := u) (WideMaps.keyOf_string_mk Tryz.underlying9 hs) (d := .held u) (ps := []) rfl
  exact ⟨w', hr, ⟨_, r1, MapS.put_at h1.isMap h2 (L s) u⟩, r2⟩

/-! ### at a step of a region that draws its order -/
section
variable {w : World} {ops : Array Oper} {o : Oper} {a : Act} {K : Act → World → Prop} {Q : Exit → Act → World → Prop} {E : Prop} {T e : TypeId} {b n : Nat} {f : List UInt8 → Option Value}
theorem step_look (hg : o.guard = none) (m x : Operand) (hop : o.op = Op.lookup T m x false) (ht : Tryz.prog.underlying T = some (.map 9 e)) {z : Value} (hz : ∀ u, (zeroValue e).run Tryz.prog u = .ok z u)
    (hown : MapS w b n f) (s : ByteArray) (hm : a.eval m = .map (some b)) (hx : a.eval x = .string s) (hs : s.size ≤ maxLen) {v : Value} (hv : (f (L s)).getD z = v) (h : K (a.put o.dst v) w) :
    if Region.wanted o (yielded ops a.tmps) = true then Oper.wp Tryz.prog o a w K Q else E := by
  have hw : Region.wanted o (yielded ops a.tmps) = true := by simp [Region.wanted, hg]
  rw [if_pos hw]
  have hr := hown.look ht (hz w) s hs
  unfold Oper.wp
  simp [execOp, hop, hm, hx, hr, hv, Result.andThen]
  exact h
theorem step_look_ok (hg : o.guard = none) (m x : Operand) (hop : o.op = Op.lookup T m x true) (ht : Tryz.prog.underlying T = some (.map 9 e)) {z : Value} (hz : ∀ u, (zeroValue e).run Tryz.prog u = .ok z u)
    (hown : MapS w b n f) (s : ByteArray) (hm : a.eval m = .map (some b)) (hx : a.eval x = .string s) (hs : s.size ≤ maxLen) {v : Value} {ok : Bool} (hv : (f (L s)).getD z = v) (hok : (f (L s)).isSome = ok) (h : K (a.put o.dst (.tuple #[v, .bool ok])) w) :
    if Region.wanted o (yielded ops a.tmps) = true then Oper.wp Tryz.prog o a w K Q else E := by
  have hw : Region.wanted o (yielded ops a.tmps) = true := by simp [Region.wanted, hg]
  rw [if_pos hw]
  have hr := hown.look_ok ht (hz w) s hs
  unfold Oper.wp
  simp [execOp, hop, hm, hx, hr, hv, hok, Result.andThen]
  exact h
theorem step_put (hg : o.guard = none) (m x v : Operand) (hop : o.op = Op.mapUpdate T m x v) (ht : Tryz.prog.underlying T = some (.map 9 e))
    (hown : MapS w b n f) (hn : n < maxLen) (s : ByteArray) (u : Value) (hm : a.eval m = .map (some b)) (hx : a.eval x = .string s) (hv : a.eval v = u) (hs : s.size ≤ maxLen)
    (h : ∀ w', MapS w' b (n + 1) (fun t => if t = L s then some u else f t) → w.grownBy w' (some b) → K (a.put o.dst undef) w') :
    if Region.wanted o (yielded ops a.tmps) = true then Oper.wp Tryz.prog o a w K Q else E := by
  have hw : Region.wanted o (yielded ops a.tmps) = true := by simp [Region.wanted, hg]
  rw [if_pos hw]
  obtain ⟨D, h1, h2⟩ := hown
  obtain ⟨w', hr, r1, r2⟩ := h1.update (Maps.string_keyed Tryz.underlying9) ht hn (val := u) (WideMaps.keyOf_string_mk Tryz.underlying9 hs) (d := .held u) (ps := []) rfl
  unfold Oper.wp
  simp [execOp, hop, hm, hx, hv, hr, Result.andThen]
  exact h _ ⟨_, r1, MapS.put_at h1.isMap h2 (L s) u⟩ r2
/-- What m[s] = v, begun and not ended, may still do. -/
def MapE (w : World) (T : TypeId) (b n : Nat) (s : ByteArray) (st : Value) (f : List UInt8 → Option Value) : Prop :=
  b < w.heap.size ∧ ∀ (w2 : World) (u : Value), w2.heap[b]? = w.heap[b]? → ∃ w3, (Instr.entryStore T (.map (some b)) st u).run Tryz.prog w2 = .ok () w3 ∧ MapS w3 b (n + 1) (fun t => if t = L s then some u else f t) ∧ w2.grownBy w3 (some b)
theorem MapE.below {w w' : World} {s : ByteArray} {st : Value} (h : MapE w T b n s st f) (hb : Below w.heap.size w w') : MapE w' T b n s st f :=
  ⟨Nat.lt_of_lt_of_le h.1 hb.size, fun w2 u he => h.2 w2 u (he.trans (hb.block b h.1))⟩
theorem MapE.set {w : World} {s : ByteArray} {st : Value} (h : MapE w T b n s st f) {p : Addr} (hp : b ≠ p.block) (u : Value) : MapE (w.setCell p u) T b n s st f :=
  ⟨by simpa using h.1, fun w2 u' he => h.2 w2 u' (he.trans (Below.heap_setCell _ _ _ _ hp))⟩
theorem MapS.entry (hown : MapS w b n f) (ht : Tryz.prog.underlying T = some (.map 9 e)) {z : Value} (hz : ∀ u, (zeroValue e).run Tryz.prog u = .ok z u) (hn : n < maxLen) (s : ByteArray) (hs : s.size ≤ maxLen) :
    ∃ v0 st w', (Instr.mapEntry T (.map (some b)) (.string s)).run Tryz.prog w = .ok (.tuple #[v0, st]) w' ∧ MapE w' T b n s st f ∧ w.grownBy w' (some b) := by
  obtain ⟨D, h1, h2⟩ := hown
  have h1' := h1
  obtain ⟨es, clock, hb, F, hsz, hD⟩ := h1
  have hkey := WideMaps.keyOf_string_mk (P := Tryz.prog) (s := s) Tryz.underlying9 hs
  have K : Maps.Keyed Tryz.prog 9 := Maps.string_keyed Tryz.underlying9
  obtain ⟨v0, st, es1, clock1, hr, _, hst⟩ := WideElems.entry_then_store (WideMaps.string_law Tryz.underlying9) ht hz hb F hkey
  have gset : ∀ (w2 : World) (X : Obj), w2.grownBy (setBlock w2 b X) (some b) := fun w2 X => ⟨rfl, rfl, rfl, by simp [setBlock], fun i _ hi => heap_setBlock_other' w2 b X i (fun e => hi (by rw [e]))⟩
  refine ⟨v0, goInt st, _, hr, ⟨by simpa [setBlock] using (Array.getElem?_eq_some_iff.1 hb).1, fun w2 u he => ?_⟩, gset _ _⟩
  have he1 : w2.heap[b]? = some (.map es1 clock1) := by rw [he]; exact heap_setBlock_same' w b _ hb
  obtain ⟨es', clock', r1, r2⟩ := hst w2 u he1
  obtain ⟨w', hru, q1, q2⟩ := h1'.update K ht hn (val := u) hkey (d := .held u) (ps := []) rfl
  rw [r2] at hru
  cases hru
  refine ⟨_, r1, ?_, gset _ _⟩
  refine MapS.block ⟨_, q1, MapS.put_at h1'.isMap h2 (L s) u⟩ ?_
  rw [heap_setBlock_same' w2 b _ he1, heap_setBlock_same' w b _ hb]
theorem step_entry (hg : o.guard = none) (m x : Operand) (hop : o.op = Op.mapEntry T m x) (ht : Tryz.prog.underlying T = some (.map 9 e)) {z : Value} (hz : ∀ u, (zeroValue e).run Tryz.prog u = .ok z u)
    (hown : MapS w b n f) (hn : n < maxLen) (s : ByteArray) (hm : a.eval m = .map (some b)) (hx : a.eval x = .string s) (hs : s.size ≤ maxLen)
    (h : ∀ v0 st w', MapE w' T b n s st f → w.grownBy w' (some b) → K (a.put o.dst (.tuple #[v0, st])) w') :
    if Region.wanted o (yielded ops a.tmps) = true then Oper.wp Tryz.prog o a w K Q else E := by
  have hw : Region.wanted o (yielded ops a.tmps) = true := by simp [Region.wanted, hg]
  rw [if_pos hw]
  obtain ⟨v0, st, w', hr, h1, h2⟩ := hown.entry ht hz hn s hs
  unfold Oper.wp
  simp [execOp, hop, hm, hx, hr, Result.andThen]
  exact h _ _ _ h1 h2
theorem step_estore (hg : o.guard = none) (m st x : Operand) (hop : o.op = Op.entryStore T m st x) {s : ByteArray} {sv : Value} (hown : MapE w T b n s sv f) (u : Value) (hm : a.eval m = .map (some b)) (hst : a.eval st = sv) (hx : a.eval x = u)
    (h : ∀ w', MapS w' b (n + 1) (fun t => if t = L s then some u else f t) → w.grownBy w' (some b) → K (a.put o.dst undef) w') :
    if Region.wanted o (yielded ops a.tmps) = true then Oper.wp Tryz.prog o a w K Q else E := by
  have hw : Region.wanted o (yielded ops a.tmps) = true := by simp [Region.wanted, hg]
  rw [if_pos hw]
  obtain ⟨w3, hr, h1, h2⟩ := hown.2 w u rfl
  unfold Oper.wp
  simp [execOp, hop, hm, hst, hx, hr, Result.andThen]
  exact h _ h1 h2
end
end Go.Proofs.YtmlgmedapbeleaaGreatDoor
/-
  A map from integers of the call's own, whatever its elements are: what it holds, exactly.
-/
namespace Go.Proofs.YtmlgmedapbeleaaGreatDoor
open Go.RowKit Go.ChangeMaps

/-- The map in block b holds m; it has at most n entries. -/
def MapI (w : World) (b n : Nat) (m : Int → Option Value) : Prop :=
  ∃ D : DataW Value, w.ownsMap Tryz.prog 3 RV b n D ∧ ∀ (t : Int) (z : DataW Value), D.atKey (.int .i64 t) z = match m t with | some v => .held v | none => z

section
variable {w w' : World} {b n : Nat} {m : Int → Option Value}
theorem MapI.lt (h : MapI w b n m) : b < w.heap.size := by
  obtain ⟨D, h1, _⟩ := h
  exact h1.lt
theorem MapI.below (h : MapI w b n m) (hb : Below w.heap.size w w') : MapI w' b n m := by
  obtain ⟨D, h1, h2⟩ := h
  refine ⟨D, ?_, h2⟩
  have hlt := h1.lt
  obtain ⟨es, clock, h0, F, hs, hD⟩ := h1
  exact ⟨es, clock, (hb.block b hlt).trans h0, F, hs, hD⟩
theorem MapI.block (h : MapI w b n m) (hb : w'.heap[b]? = w.heap[b]?) : MapI w' b n m := by
  obtain ⟨D, ⟨es, clock, h0, F, hs, hD⟩, h2⟩ := h
  exact ⟨D, ⟨es, clock, hb.trans h0, F, hs, hD⟩, h2⟩
theorem MapI.kept {row : Option Nat} (h : MapI w b n m) (hg : w.grownBy w' row) (hne : some b ≠ row) : MapI w' b n m := h.block (hg.block b h.lt hne)
theorem MapI.set (h : MapI w b n m) {p : Addr} (hp : b ≠ p.block) (u : Value) : MapI (w.setCell p u) b n m := h.block (Below.heap_setCell _ _ _ _ hp)
theorem MapI.alloc (h : MapI w b n m) (o : Obj) : MapI (w.alloc o) b n m := h.block (Below.heap_alloc w o b h.lt)
theorem MapI.mono (h : MapI w b n m) {n' : Nat} (hn : n ≤ n') : MapI w b n' m := by
  obtain ⟨D, h1, h2⟩ := h
  exact ⟨D, h1.mono hn, h2⟩
theorem MapI.made (w : World) : MapI (w.alloc (.map #[] 0)) w.heap.size 0 (fun _ => none) := ⟨_, World.ownsMap_made _ _ _ _, fun t z => by simp [DataW.atKey]⟩
theorem MapI.put_at {D : DataW Value} (h0 : Maps.IsMap D) (h2 : ∀ (t : Int) (z : DataW Value), D.atKey (.int .i64 t) z = match m t with | some v => .held v | none => z) (s : Int) (v : Value) :
    ∀ (t : Int) (z : DataW Value), (D.put (.int .i64 s) (.held v)).atKey (.int .i64 t) z = match (if t = s then some v else m t) with | some v => .held v | none => z := by
  intro t z
  by_cases e : t = s
  · subst e
    rw [Maps.atKey_put_same h0 (by simp [WideAt.IsKeyLit]), if_pos rfl]
  · rw [Maps.atKey_put_other (by intro h'; injection h' with _ h'; exact e h'), if_neg e, h2 t]

theorem hasKeyI_of {D : DataW Value} (h2 : ∀ (t : Int) (z : DataW Value), D.atKey (.int .i64 t) z = match m t with | some v => .held v | none => z) (t : Int) : Maps.has D (.int .i64 t) = (m t).isSome := by
  cases hm : m t with
  | none => exact Maps.has_false_of_atKey fun z => by rw [h2 t z, hm]
  | some v => exact Maps.has_true_of_atKey fun z => by rw [h2 t z, hm]

/-- m[s] -/
theorem MapI.look (h : MapI w b n m) {T e : TypeId} (ht : Tryz.prog.underlying T = some (.map 3 e)) {z : Value} (hz : (zeroValue e).run Tryz.prog w = .ok z w) (s : Int) (hs : (Lit.int .i64 s).wf = true) :
    (Instr.lookup T (.map (some b)) (.int .i64 s) false).run Tryz.prog w = .ok ((m s).getD z) w := by
  obtain ⟨D, h1, h2⟩ := h
  obtain ⟨v, ps, hr, hv⟩ := h1.lookup (t := T) (Maps.int_keyed Tryz.underlying3) ht hz (zd := .held z) (zp := []) rfl (Maps.keyOf_int_mk Tryz.underlying3 hs)
  have h3 := h2 s (.held z)
  rw [hr]
  simp only [RV, Option.some.injEq, Prod.mk.injEq] at hv
  rw [h3] at hv
  cases hm : m s with
  | none => rw [hm] at hv; simp at hv; simp [hv]
  | some u => rw [hm] at hv; simp at hv; simp [hv]
/-- v, ok := m[s] -/
theorem MapI.look_ok (h : MapI w b n m) {T e : TypeId} (ht : Tryz.prog.underlying T = some (.map 3 e)) {z : Value} (hz : (zeroValue e).run Tryz.prog w = .ok z w) (s : Int) (hs : (Lit.int .i64 s).wf = true) :
    (Instr.lookup T (.map (some b)) (.int .i64 s) true).run Tryz.prog w = .ok (.tuple #[(m s).getD z, .bool (m s).isSome]) w := by
  obtain ⟨D, h1, h2⟩ := h
  obtain ⟨v, ps, hr, hv⟩ := h1.look_ok (t := T) (Maps.int_keyed Tryz.underlying3) ht hz (zd := .held z) (zp := []) rfl (Maps.keyOf_int_mk Tryz.underlying3 hs)
  have h3 := h2 s (.held z)
  have h4 := hasKeyI_of h2 s

  rw [hr, h4]
  simp only [RV, Option.some.injEq, Prod.mk.injEq] at hv
  rw [h3] at hv
  cases hm : m s with
  | none => rw [hm] at hv; simp at hv; simp [hv]
  | some u => rw [hm] at hv; simp at hv; simp [hv]
end

/-- len(m) -/
theorem MapI.len {w : World} {b n : Nat} {m : Int → Option Value} (h : MapI w b n m) {T e : TypeId} (ht : Tryz.prog.underlying T = some (.map 3 e)) : ∃ k : Nat, k ≤ n ∧ ∀ ty, (Builtin.len_ #[T] ty #[.map (some b)]).run Tryz.prog w = .ok (.int .i64 (k : Int)) w := by
  obtain ⟨D, h1, _⟩ := h
  exact ⟨_, h1.size_le, fun ty => h1.len ht ty⟩

/-- m[s] = v, at the operation. -/
theorem wpList_putI {w : World} {ops : Array Oper} {rest : List Oper} {o : Oper} {a : Act} {Q : Exit → Act → World → Prop} (hg : o.guard = none) (m x v : Operand) (T : TypeId) (hop : o.op = Op.mapUpdate T m x v) (e : TypeId) (ht : Tryz.prog.underlying T = some (.map 3 e))
    {b n : Nat} {f : Int → Option Value} (hm : a.eval m = .map (some b)) (hown : MapI w b n f) (hn : n < maxLen) (s : Int) (u : Value) (hx : a.eval x = .int .i64 s) (hv : a.eval v = u) (hs : (Lit.int .i64 s).wf = true)
    (hK : ∀ w', MapI w' b (n + 1) (fun t => if t = s then some u else f t) → w.grownBy w' (some b) → wpList Tryz.prog ops Q rest (a.put o.dst undef) w') : wpList Tryz.prog ops Q (o :: rest) a w := by
  obtain ⟨D, h1, h2⟩ := hown
  exact wpList_mapUpdate_own w hg m x v T hop 3 e (Maps.int_keyed Tryz.underlying3) ht RV b n D hm h1 hn (.int .i64 s) u (.int .i64 s) hx hv (Maps.keyOf_int_mk Tryz.underlying3 hs) (.held u) [] rfl fun w' h3 h4 =>
    hK w' ⟨_, h3, MapI.put_at h1.isMap h2 s u⟩ h4

/-- m[s] = v, as an equation. -/
theorem MapI.put_run {w : World} {b n : Nat} {f : Int → Option Value} (hown : MapI w b n f) {T e : TypeId} (ht : Tryz.prog.underlying T = some (.map 3 e)) (hn : n < maxLen) (s : Int) (u : Value) (hs : (Lit.int .i64 s).wf = true) :
    ∃ w', (Instr.mapUpdate T (.map (some b)) (.int .i64 s) u).run Tryz.prog w = .ok () w' ∧ MapI w' b (n + 1) (fun t => if t = s then some u else f t) ∧ w.grownBy w' (some b) := by
  obtain ⟨D, h1, h2⟩ := hown
  obtain ⟨w', hr, r1, r2⟩ := h1.update (Maps.int_keyed Tryz.underlying3) ht hn (val := u) (Maps.keyOf_int_mk Tryz.underlying3 hs) (d := .held u) (ps := []) rfl
  exact ⟨w', hr, ⟨_, r1, MapI.put_at h1.isMap h2 s u⟩, r2⟩

/-! ### at a step of a region that draws its order -/
section
variable {w : World} {ops : Array Oper} {o : Oper} {a : Act} {K : Act → World → Prop} {Q : Exit → Act → World → Prop} {E : Prop} {T e : TypeId} {b n : Nat} {f : Int → Option Value}
theorem step_lookI (hg : o.guard = none) (m x : Operand) (hop : o.op = Op.lookup T m x false) (ht : Tryz.prog.underlying T = some (.map 3 e)) {z : Value} (hz : ∀ u, (zeroValue e).run Tryz.prog u = .ok z u)
    (hown : MapI w b n f) (s : Int) (hm : a.eval m = .map (some b)) (hx : a.eval x = .int .i64 s) (hs : (Lit.int .i64 s).wf = true) {v : Value} (hv : (f s).getD z = v) (h : K (a.put o.dst v) w) :
    if Region.wanted o (yielded ops a.tmps) = true then Oper.wp Tryz.prog o a w K Q else E := by
  have hw : Region.wanted o (yielded ops a.tmps) = true := by simp [Region.wanted, hg]
  rw [if_pos hw]
  have hr := hown.look ht (hz w) s hs
  unfold Oper.wp
  simp [execOp, hop, hm, hx, hr, hv, Result.andThen]
  exact h
theorem step_lookI_ok (hg : o.guard = none) (m x : Operand) (hop : o.op = Op.lookup T m x true) (ht : Tryz.prog.underlying T = some (.map 3 e)) {z : Value} (hz : ∀ u, (zeroValue e).run Tryz.prog u = .ok z u)
    (hown : MapI w b n f) (s : Int) (hm : a.eval m = .map (some b)) (hx : a.eval x = .int .i64 s) (hs : (Lit.int .i64 s).wf = true) {v : Value} {ok : Bool} (hv : (f s).getD z = v) (hok : (f s).isSome = ok) (h : K (a.put o.dst (.tuple #[v, .bool ok])) w) :
    if Region.wanted o (yielded ops a.tmps) = true then Oper.wp Tryz.prog o a w K Q else E := by
  have hw : Region.wanted o (yielded ops a.tmps) = true := by simp [Region.wanted, hg]
  rw [if_pos hw]
  have hr := hown.look_ok ht (hz w) s hs
  unfold Oper.wp
  simp [execOp, hop, hm, hx, hr, hv, hok, Result.andThen]
  exact h
theorem step_putI (hg : o.guard = none) (m x v : Operand) (hop : o.op = Op.mapUpdate T m x v) (ht : Tryz.prog.underlying T = some (.map 3 e))
    (hown : MapI w b n f) (hn : n < maxLen) (s : Int) (u : Value) (hm : a.eval m = .map (some b)) (hx : a.eval x = .int .i64 s) (hv : a.eval v = u) (hs : (Lit.int .i64 s).wf = true)
    (h : ∀ w', MapI w' b (n + 1) (fun t => if t = s then some u else f t) → w.grownBy w' (some b) → K (a.put o.dst undef) w') :
    if Region.wanted o (yielded ops a.tmps) = true then Oper.wp Tryz.prog o a w K Q else E := by
  have hw : Region.wanted o (yielded ops a.tmps) = true := by simp [Region.wanted, hg]
  rw [if_pos hw]
  obtain ⟨D, h1, h2⟩ := hown
  obtain ⟨w', hr, r1, r2⟩ := h1.update (Maps.int_keyed Tryz.underlying3) ht hn (val := u) (Maps.keyOf_int_mk Tryz.underlying3 hs) (d := .held u) (ps := []) rfl
  unfold Oper.wp
  simp [execOp, hop, hm, hx, hv, hr, Result.andThen]
  exact h _ ⟨_, r1, MapI.put_at h1.isMap h2 s u⟩ r2
end
end Go.Proofs.YtmlgmedapbeleaaGreatDoor
/-
  The disk in memory: its nodes, each in a box of its own, their bytes and entries.
-/
namespace Go.Proofs.YtmlgmedapbeleaaGreatDoor
open Go.RowKit

/-- A node: kind, mode, entries that name it, holds, bytes, entries, the directory that has it. -/
structure Nd where
  k : Int
  m : Int
  n : Int
  h : Int
  d : ByteArray
  e : List (ByteArray × Int)
  u : Int
def enC (x : ByteArray × Int) : List Value := [.string x.1, .int .i64 x.2]
theorem enC_len (x : ByteArray × Int) : (enC x).length = 2 := rfl

/-- Where a node lies: its box, its bytes, its entries. -/
structure Pl where
  b : Nat
  v : Value
  r : Value
def ptrV (p : Pl) : Value := .pointer (some ⟨p.b, 0, none⟩)
def ndC (n : Nd) (p : Pl) : Array Value := #[.int .i64 n.k, .int .i64 n.m, .int .i64 n.n, .int .i64 n.h, p.v, p.r, .int .i64 n.u]

/-- Bytes that have been made out of a text; or none. -/
def DatAt (w : World) (v : Value) (d : ByteArray) : Prop :=
  (v = .slice none 0 0 ∧ d.size = 0) ∨ ∃ b cap, v = .slice (some ⟨b, 0, none⟩) d.size cap ∧ w.heap[b]? = some (.cells (bytesRow d cap) 5 ((bytesRow d cap).size, (bytesRow d cap).size + 1))

structure NdAt (w : World) (B : Nat) (n : Nd) (p : Pl) : Prop where
  box : Blk w p.b 51 (ndC n p)
  low : B ≤ p.b
  dat : DatAt w p.v n.d
  row : w.ownsRow B 84 2 p.r n.e.length (n.e.flatMap enC)

/-- The nodes by their numbers. -/
def nodeM (ps : List Pl) (t : Int) : Option Value := if 1 ≤ t then (ps[(t - 1).toNat]?).map ptrV else none

/-- A disk. -/
structure Dk (w : World) (B db mb : Nat) (ns : List Nd) (ps : List Pl) (used : Int) : Prop where
  box : Blk w db 44 #[.map (some mb), .int .i64 ((ns.length : Int) + 1), .int .i64 used, .int .i64 1048576]
  map : MapI w mb ns.length (nodeM ps)
  len : ps.length = ns.length
  node : ∀ (i : Nat) (n : Nd) (p : Pl), ns[i]? = some n → ps[i]? = some p → NdAt w B n p
  sep : ∀ (i j : Nat) (p q : Pl), ps[i]? = some p → ps[j]? = some q → i ≠ j → p.b ≠ q.b ∧ (p.r.ownBlock = none ∨ p.r.ownBlock ≠ q.r.ownBlock)
  lowd : B ≤ db
  lowm : B ≤ mb

section
variable {w w' : World} {B db mb : Nat} {ns : List Nd} {ps : List Pl} {used : Int} {n : Nd} {p : Pl}
theorem DatAt.keep {v : Value} {d : ByteArray} (h : DatAt w v d) (hk : ∀ (b : Nat) (cs : Array Value) (fr : Nat × Nat), w.heap[b]? = some (.cells cs 5 fr) → w'.heap[b]? = w.heap[b]?) : DatAt w' v d := by
  rcases h with h | ⟨b, cap, h1, h2⟩
  · exact .inl h
  · exact .inr ⟨b, cap, h1, (hk b _ _ h2).trans h2⟩
theorem DatAt.below {v : Value} {d : ByteArray} (h : DatAt w v d) (hb : Below w.heap.size w w') : DatAt w' v d := h.keep fun b _ _ hx => hb.block b (Array.getElem?_eq_some_iff.1 hx).1
theorem own_keep {base : Nat} {e : TypeId} {size : Nat} {v : Value} {c : Nat} {xs : List Value} (h : w.ownsRow base e size v c xs) (hk : ∀ b, v.ownBlock = some b → b < w.heap.size → w'.heap[b]? = w.heap[b]?) : w'.ownsRow base e size v c xs := by
  refine ⟨h.1, ?_⟩
  rcases h.2 with h2 | ⟨g, cap, cur, hv, hB, hg, r⟩
  · exact .inl h2
  · exact .inr ⟨g, cap, cur, hv, hB, by rw [hk g (by rw [hv]; rfl) (Array.getElem?_eq_some_iff.1 hg).1]; exact hg, r⟩
theorem NdAt.below (h : NdAt w B n p) (hb : Below w.heap.size w w') : NdAt w' B n p :=
  ⟨h.box.below hb h.box.lt, h.low, h.dat.below hb, own_below h.row hb⟩
theorem Dk.below (h : Dk w B db mb ns ps used) (hb : Below w.heap.size w w') : Dk w' B db mb ns ps used :=
  ⟨h.box.below hb h.box.lt, h.map.below hb, h.len, fun i n p h1 h2 => (h.node i n p h1 h2).below hb, h.sep, h.lowd, h.lowm⟩
theorem Dk.pl (h : Dk w B db mb ns ps used) {i : Nat} (hn : ns[i]? = some n) : ∃ p, ps[i]? = some p := by
  have := (List.getElem?_eq_some_iff.1 hn).1
  exact ⟨_, List.getElem?_eq_getElem (by rw [h.len]; exact this)⟩
theorem nodeM_at {i : Nat} (hp : ps[i]? = some p) : nodeM ps ((i : Int) + 1) = some (ptrV p) := by
  rw [nodeM, if_pos (by omega), show ((i : Int) + 1 - 1).toNat = i by omega, hp]; rfl
theorem nodeM_none {t : Int} (h : (ps.length : Int) < t) : nodeM ps t = none := by
  rw [nodeM]
  split
  · rw [List.getElem?_eq_none (by omega)]; rfl
  · rfl
theorem nodeM_push (q : Pl) : (fun t => if t = (ps.length : Int) + 1 then some (ptrV q) else nodeM ps t) = nodeM (ps ++ [q]) := by
  funext t
  by_cases e : t = (ps.length : Int) + 1
  · rw [if_pos e, e, nodeM_at (p := q) (by simp)]
  · rw [if_neg e, nodeM, nodeM]
    by_cases h1 : 1 ≤ t
    · rw [if_pos h1, if_pos h1]
      by_cases h2 : (t - 1).toNat < ps.length
      · rw [List.getElem?_append_left h2]
      · rw [List.getElem?_eq_none (by omega), List.getElem?_eq_none (by simp; omega)]
    · rw [if_neg h1, if_neg h1]

/-- What is of another kind than the disk's own blocks stays. -/
def Stay (mb : Nat) (w w' : World) : Prop :=
  (∀ (b : Nat) (cs : Array Value) (t : TypeId) (fr : Nat × Nat), w.heap[b]? = some (.cells cs t fr) → t ≠ 44 → t ≠ 51 → t ≠ 84 → w'.heap[b]? = w.heap[b]?) ∧
  ∀ (b : Nat) (es : Array MapEntry) (c : Nat), w.heap[b]? = some (.map es c) → b ≠ mb → w'.heap[b]? = w.heap[b]?
theorem Stay.refl (mb : Nat) (w : World) : Stay mb w w := ⟨fun _ _ _ _ _ _ _ _ => rfl, fun _ _ _ _ _ => rfl⟩
theorem Stay.trans {w1 : World} (h : Stay mb w w1) (k : Stay mb w1 w') : Stay mb w w' :=
  ⟨fun b cs t fr hb h1 h2 h3 => by have e := h.1 b cs t fr hb h1 h2 h3; exact (k.1 b cs t fr (e.trans hb) h1 h2 h3).trans e,
   fun b es c hb h1 => by have e := h.2 b es c hb h1; exact (k.2 b es c (e.trans hb) h1).trans e⟩
theorem Stay.below (h : Below w.heap.size w w') : Stay mb w w' :=
  ⟨fun b _ _ _ hb _ _ _ => h.block b (Array.getElem?_eq_some_iff.1 hb).1, fun b _ _ hb _ => h.block b (Array.getElem?_eq_some_iff.1 hb).1⟩
theorem Blk.stay {g : Nat} {t : TypeId} {cs : Array Value} (h : Blk w g t cs) (k : Stay mb w w') (h1 : t ≠ 44) (h2 : t ≠ 51) (h3 : t ≠ 84) : Blk w' g t cs := (k.1 g cs t _ h h1 h2 h3).trans h
theorem MapS.stay {b c : Nat} {m : List UInt8 → Option Value} (h : MapS w b c m) (k : Stay mb w w') (hb : b ≠ mb) : MapS w' b c m := by
  have h' := h
  obtain ⟨D, ⟨es, clock, h0, _⟩, _⟩ := h'
  exact h.block (k.2 b es clock h0 hb)
/-- A cell of a box of the disk's own kind. -/
theorem Stay.set {g i : Nat} {t : TypeId} {cs : Array Value} (h : Blk w g t cs) (ht : t = 44 ∨ t = 51 ∨ t = 84) (x : Value) : Stay mb w (w.setCell ⟨g, i, none⟩ x) :=
  ⟨fun b cs' t' fr hb h1 h2 h3 => Below.heap_setCell _ _ _ _ (fun e => by
      have e' : b = g := e
      subst e'
      rw [Blk, hb] at h
      cases h
      rcases ht with ht | ht | ht <;> first | exact h1 ht | exact h2 ht | exact h3 ht),
   fun b es c hb _ => Below.heap_setCell _ _ _ _ (fun e => by
      have e' : b = g := e
      subst e'
      rw [Blk, hb] at h
      cases h)⟩
end
end Go.Proofs.YtmlgmedapbeleaaGreatDoor
/-
  The disk in memory: what a store, a longer row, a new node make of it.
-/
namespace Go.Proofs.YtmlgmedapbeleaaGreatDoor
open Go.RowKit

theorem own_ne_blk {w : World} {base : Nat} {e t : TypeId} {size : Nat} {v : Value} {n : Nat} {xs : List Value} {q : Nat} {cs : Array Value} (h : w.ownsRow base e size v n xs) (hb : Blk w q t cs) (hne : e ≠ t) : v.ownBlock ≠ some q := by
  obtain ⟨_, h⟩ := h
  rcases h with ⟨rfl, _⟩ | ⟨b, cap, cur, rfl, _, h1, _⟩
  · simp [Value.ownBlock]
  · intro e2
    obtain rfl : b = q := by simpa [Value.ownBlock] using e2
    rw [Blk, h1] at hb
    simp only [Option.some.injEq, Obj.cells.injEq] at hb
    exact hne hb.2.1
theorem own_keepT {w w' : World} {base : Nat} {e : TypeId} {size : Nat} {v : Value} {c : Nat} {xs : List Value} (h : w.ownsRow base e size v c xs) (hk : ∀ (b : Nat) (cs : Array Value) (fr : Nat × Nat), v.ownBlock = some b → w.heap[b]? = some (.cells cs e fr) → w'.heap[b]? = w.heap[b]?) : w'.ownsRow base e size v c xs := by
  refine ⟨h.1, ?_⟩
  rcases h.2 with h2 | ⟨g, cap, cur, hv, hB, hg, r⟩
  · exact .inl h2
  · exact .inr ⟨g, cap, cur, hv, hB, by rw [hk g _ _ (by rw [hv]; rfl) hg]; exact hg, r⟩
theorem own_size {w : World} {base : Nat} {e : TypeId} {size : Nat} {v : Value} {c : Nat} {xs : List Value} (h : w.ownsRow base e size v c xs) {g : Nat} (hv : v.ownBlock = some g) : g < w.heap.size ∧ base ≤ g := by
  rcases h.2 with ⟨h1, _⟩ | ⟨b, cap, cur, h1, hB, hg, _⟩
  · rw [h1] at hv; simp [Value.ownBlock] at hv
  · rw [h1] at hv
    obtain rfl : b = g := by simpa [Value.ownBlock] using hv
    exact ⟨(Array.getElem?_eq_some_iff.1 hg).1, hB⟩
theorem blk_ne {w : World} {g q : Nat} {t u : TypeId} {cs ds : Array Value} (h : Blk w g t cs) (k : Blk w q u ds) (hne : t ≠ u) : g ≠ q := fun e => by
  subst e
  rw [Blk, h] at k
  simp only [Option.some.injEq, Obj.cells.injEq] at k
  exact hne k.2.1
theorem mapI_ne {w : World} {b c g : Nat} {t : TypeId} {cs : Array Value} {m : Int → Option Value} (h : MapI w b c m) (k : Blk w g t cs) : b ≠ g := fun e => by
  subst e
  obtain ⟨D, ⟨es, clock, h0, _⟩, _⟩ := h
  rw [Blk, h0] at k
  cases k

section
variable {w w' : World} {B db mb : Nat} {ns : List Nd} {ps : List Pl} {used : Int} {n : Nd} {p : Pl}

/-- A store into another block of the disk's own leaves a node. -/
theorem NdAt.far (h : NdAt w B n p) {g i : Nat} {t : TypeId} {cs : Array Value} (hg : Blk w g t cs) (hne : p.b ≠ g) (h1 : t ≠ 5) (h2 : p.r.ownBlock ≠ some g) (x : Value) : NdAt (w.setCell ⟨g, i, none⟩ x) B n p where
  box := h.box.far hne x
  low := h.low
  dat := h.dat.keep fun b cs' fr hb => Below.heap_setCell _ _ _ _ (fun e => by
    have e' : b = g := e
    subst e'
    rw [Blk, hb] at hg
    simp only [Option.some.injEq, Obj.cells.injEq] at hg
    exact h1 hg.2.1.symm)
  row := own_keepT h.row fun b _ _ hb _ => Below.heap_setCell _ _ _ _ (fun e => h2 (by rw [hb]; exact congrArg some e))

/-- The room that is taken. -/
theorem Dk.use (h : Dk w B db mb ns ps used) (u : Int) : Dk (w.setCell ⟨db, 2, none⟩ (.int .i64 u)) B db mb ns ps u where
  box := by have := h.box.put 2 (.int .i64 u); simpa using this
  map := h.map.set (mapI_ne h.map h.box) _
  len := h.len
  node i n p h1 h2 := by
    have k := h.node i n p h1 h2
    exact k.far h.box (blk_ne k.box h.box (by decide)) (by decide) (own_ne_blk k.row h.box (by decide)) _
  sep := h.sep
  lowd := h.lowd
  lowm := h.lowm

/-- A cell of a node's box. -/
theorem Dk.setn (h : Dk w B db mb ns ps used) {i : Nat} (hn : ns[i]? = some n) (hp : ps[i]? = some p) (c : Nat) (x : Value) (n' : Nd) (hC : (ndC n p).setIfInBounds c x = ndC n' p) (hd : n'.d = n.d) (he : n'.e = n.e) :
    Dk (w.setCell ⟨p.b, c, none⟩ x) B db mb (ns.set i n') ps used where
  box := by
    rw [List.length_set]
    exact h.box.far (blk_ne h.box (h.node i n p hn hp).box (by decide)) x
  map := by
    rw [List.length_set]
    exact h.map.set (mapI_ne h.map (h.node i n p hn hp).box) _
  len := by rw [List.length_set]; exact h.len
  node j m q h1 h2 := by
    have k0 := h.node i n p hn hp
    by_cases e : i = j
    · subst e
      rw [hp] at h2
      cases h2
      rw [List.getElem?_set_self (List.getElem?_eq_some_iff.1 hn).1] at h1
      cases h1
      refine ⟨?_, k0.low, ?_, ?_⟩
      · have := k0.box.put c x
        rw [hC] at this
        exact this
      · rw [hd]
        exact k0.dat.keep fun b cs' fr hb => Below.heap_setCell _ _ _ _ (fun e => by
          have e' : b = p.b := e
          subst e'
          have hg := k0.box
          rw [Blk, hb] at hg
          simp only [Option.some.injEq, Obj.cells.injEq] at hg
          exact absurd hg.2.1.symm (by decide))
      · rw [he]
        exact own_keepT k0.row fun b _ _ hb _ => Below.heap_setCell _ _ _ _ (fun e => own_ne_blk k0.row k0.box (by decide) (by rw [hb]; exact congrArg some e))
    · rw [List.getElem?_set_ne e] at h1
      have k := h.node j m q h1 h2
      exact k.far k0.box (fun e2 => (h.sep i j p q hp h2 e).1 e2.symm) (by decide) (own_ne_blk k.row k0.box (by decide)) _
  sep := h.sep
  lowd := h.lowd
  lowm := h.lowm
end
end Go.Proofs.YtmlgmedapbeleaaGreatDoor
/-
  The disk in memory: an entry more; a node more.
-/
namespace Go.Proofs.YtmlgmedapbeleaaGreatDoor
open Go.RowKit

section
variable {w w' : World} {B db mb : Nat} {ns : List Nd} {ps : List Pl} {used : Int} {n : Nd} {p : Pl}

theorem ndC_row (n : Nd) (p : Pl) (r : Value) (x : ByteArray × Int) : (ndC n p).setIfInBounds 5 r = ndC { n with e := n.e ++ [x] } { p with r := r } := rfl

/-- A longer row in the place of a node's. -/
theorem Dk.row (h : Dk w B db mb ns ps used) {i : Nat} (hn : ns[i]? = some n) (hp : ps[i]? = some p) {w1 : World} (hg : w.grownBy w1 p.r.ownBlock) {g cap : Nat} (x : ByteArray × Int) (hlie : p.r.ownBlock = some g ∨ w.heap.size ≤ g)
    (hrow : w1.ownsRow B 84 2 (.slice (some ⟨g, 0, none⟩) (n.e.length + 1) cap) (n.e.length + 1) (n.e.flatMap enC ++ enC x)) :
    Dk (w1.setCell ⟨p.b, 5, none⟩ (.slice (some ⟨g, 0, none⟩) (n.e.length + 1) cap)) B db mb (ns.set i { n with e := n.e ++ [x] }) (ps.set i { p with r := .slice (some ⟨g, 0, none⟩) (n.e.length + 1) cap }) used := by
  have k0 := h.node i n p hn hp
  have hil : i < ns.length := (List.getElem?_eq_some_iff.1 hn).1
  have hpl : i < ps.length := by rw [h.len]; exact hil
  have hbox1 : Blk w1 p.b 51 (ndC n p) := k0.box.grown hg (own_ne_blk k0.row k0.box (by decide))
  have hgp : g ≠ p.b := fun e => own_ne_blk hrow hbox1 (by decide) (by rw [← e]; rfl)
  refine ⟨?_, ?_, by rw [List.length_set, List.length_set]; exact h.len, ?_, ?_, h.lowd, h.lowm⟩
  · rw [List.length_set]
    exact (h.box.grown hg (own_ne_blk k0.row h.box (by decide))).far (blk_ne h.box k0.box (by decide)) _
  · rw [List.length_set]
    have e : nodeM (ps.set i { p with r := .slice (some ⟨g, 0, none⟩) (n.e.length + 1) cap }) = nodeM ps := by
      funext t
      rw [nodeM, nodeM]
      split
      · by_cases e : i = (t - 1).toNat
        · rw [← e, List.getElem?_set_self hpl, hp]; rfl
        · rw [List.getElem?_set_ne e]
      · rfl
    rw [e]
    have hm1 : MapI w1 mb ns.length (nodeM ps) := h.map.kept hg fun e => by
      rcases k0.row.2 with ⟨h1, _⟩ | ⟨b, cap, cur, h1, hB, hb, _⟩
      · rw [h1] at e; simp [Value.ownBlock] at e
      · rw [h1] at e
        obtain rfl : mb = b := by simpa [Value.ownBlock] using e
        obtain ⟨D, ⟨es, clock, h0, _⟩, _⟩ := h.map
        rw [h0] at hb
        cases hb
    exact hm1.set (mapI_ne h.map k0.box) _
  · intro j m q h1 h2
    by_cases e : i = j
    · subst e
      rw [List.getElem?_set_self hil] at h1
      rw [List.getElem?_set_self hpl] at h2
      cases h1
      cases h2
      refine ⟨?_, k0.low, ?_, ?_⟩
      · have := hbox1.put 5 (.slice (some ⟨g, 0, none⟩) (n.e.length + 1) cap)
        rw [ndC_row n p _ x] at this
        exact this
      · refine k0.dat.keep fun b cs' fr hb => ?_
        have e1 : w1.heap[b]? = w.heap[b]? := hg.block b (Array.getElem?_eq_some_iff.1 hb).1 fun e2 => by
          rcases k0.row.2 with ⟨h1, _⟩ | ⟨b', cap, cur, h1, hB, hb', _⟩
          · rw [h1] at e2; simp [Value.ownBlock] at e2
          · rw [h1] at e2
            obtain rfl : b = b' := by simpa [Value.ownBlock] using e2
            rw [hb'] at hb
            simp only [Option.some.injEq, Obj.cells.injEq] at hb
            exact absurd hb.2.1 (by decide)
        rw [Below.heap_setCell _ _ _ _ (fun e => by
          have e' : b = p.b := e
          subst e'
          have hg' := k0.box
          rw [Blk, hb] at hg'
          simp only [Option.some.injEq, Obj.cells.injEq] at hg'
          exact absurd hg'.2.1.symm (by decide)), e1]
      · have hr2 : (n.e ++ [x]).length = n.e.length + 1 := by simp
        have hr3 : (n.e ++ [x]).flatMap enC = n.e.flatMap enC ++ enC x := by rw [List.flatMap_append]; simp
        show World.ownsRow _ B _ 2 _ (n.e ++ [x]).length ((n.e ++ [x]).flatMap enC)
        rw [hr2, hr3]
        exact own_keepT hrow fun b _ _ hb _ => Below.heap_setCell _ _ _ _ (fun e => hgp (by
          have e' : b = p.b := e
          rw [← e']
          simpa [Value.ownBlock] using hb))
    · rw [List.getElem?_set_ne e] at h1 h2
      have k := h.node j m q h1 h2
      have hs := h.sep i j p q hp h2 e
      refine ⟨(k.box.grown hg (own_ne_blk k0.row k.box (by decide))).far (fun e2 => hs.1 e2.symm) _, k.low, ?_, ?_⟩
      · refine k.dat.keep fun b cs' fr hb => ?_
        have e1 : w1.heap[b]? = w.heap[b]? := hg.block b (Array.getElem?_eq_some_iff.1 hb).1 fun e2 => by
          rcases k0.row.2 with ⟨h1, _⟩ | ⟨b', cap, cur, h1, hB, hb', _⟩
          · rw [h1] at e2; simp [Value.ownBlock] at e2
          · rw [h1] at e2
            obtain rfl : b = b' := by simpa [Value.ownBlock] using e2
            rw [hb'] at hb
            simp only [Option.some.injEq, Obj.cells.injEq] at hb
            exact absurd hb.2.1 (by decide)
        rw [Below.heap_setCell _ _ _ _ (fun e => by
          have e' : b = p.b := e
          subst e'
          have hg' := k0.box
          rw [Blk, hb] at hg'
          simp only [Option.some.injEq, Obj.cells.injEq] at hg'
          exact absurd hg'.2.1.symm (by decide)), e1]
      · refine own_keepT k.row fun b cs' fr hb hc => ?_
        have e1 : w1.heap[b]? = w.heap[b]? := hg.block b (Array.getElem?_eq_some_iff.1 hc).1 fun e2 => by
          rcases hs.2 with h3 | h3
          · rw [h3] at e2; cases e2
          · exact h3 (by rw [← e2, hb])
        rw [Below.heap_setCell _ _ _ _ (fun e => own_ne_blk k.row k0.box (by decide) (by rw [hb]; exact congrArg some e)), e1]
  · intro a b q1 q2 ha hb hne
    have hsz : ∀ (j : Nat) (m : Nd) (q : Pl), ns[j]? = some m → ps[j]? = some q → i ≠ j → q.r.ownBlock ≠ some g := fun j m q h1 h2 e e2 => by
      have k := h.node j m q h1 h2
      rcases hlie with h3 | h3
      · rcases (h.sep i j p q hp h2 e).2 with h4 | h4
        · rw [h4] at h3; cases h3
        · exact h4 (h3.trans e2.symm)
      · have := (own_size k.row e2).1
        omega
    by_cases e1 : i = a
    · subst e1
      rw [List.getElem?_set_self hpl] at ha
      cases ha
      rw [List.getElem?_set_ne hne] at hb
      obtain ⟨m, hm⟩ : ∃ m, ns[b]? = some m := ⟨_, List.getElem?_eq_getElem (by rw [← h.len]; exact (List.getElem?_eq_some_iff.1 hb).1)⟩
      exact ⟨(h.sep i b p q2 hp hb hne).1, .inr fun e2 => hsz b m q2 hm hb hne e2.symm⟩
    · rw [List.getElem?_set_ne e1] at ha
      obtain ⟨m, hm⟩ : ∃ m, ns[a]? = some m := ⟨_, List.getElem?_eq_getElem (by rw [← h.len]; exact (List.getElem?_eq_some_iff.1 ha).1)⟩
      by_cases e2 : i = b
      · subst e2
        rw [List.getElem?_set_self hpl] at hb
        cases hb
        exact ⟨(h.sep a i q1 p ha hp hne).1, .inr (hsz a m q1 hm ha e1)⟩
      · rw [List.getElem?_set_ne e2] at hb
        exact h.sep a b q1 q2 ha hb hne
end
end Go.Proofs.YtmlgmedapbeleaaGreatDoor
/-
  A slice of strings that the call itself makes and appends to: what it holds; append; reading it.
-/
namespace Go.Proofs.YtmlgmedapbeleaaGreatDoor
open Go.RowKit

/-- The slice value v, in blocks from B on, owns the strings xs. -/
def OwnS (w : World) (B : Nat) (v : Value) (xs : List ByteArray) : Prop := w.ownsRow B 9 1 v xs.length (xs.map Value.string)

theorem OwnS.nil (w : World) (B : Nat) : OwnS w B (.slice none 0 0) [] := World.ownsRow_nil _ _ _ _

theorem OwnS.below {w w' : World} {B : Nat} {v : Value} {xs : List ByteArray} (h : OwnS w B v xs) (hb : Below w.heap.size w w') : OwnS w' B v xs := by
  refine ⟨h.1, ?_⟩
  rcases h.2 with h2 | ⟨g, cap, cur, hv, hB, hg, r⟩
  · exact .inl h2
  · exact .inr ⟨g, cap, cur, hv, hB, by rw [hb.block g (Array.getElem?_eq_some_iff.1 hg).1]; exact hg, r⟩

theorem OwnS.alloc {w : World} {B : Nat} {v : Value} {xs : List ByteArray} (h : OwnS w B v xs) (o : Obj) : OwnS (w.alloc o) B v xs := World.ownsRow.alloc h o

/-- Of blocks from an elder place on. -/
theorem OwnS.from {w : World} {B B' : Nat} {v : Value} {xs : List ByteArray} (h : OwnS w B v xs) (hB : B' ≤ B) : OwnS w B' v xs := by
  refine ⟨h.1, ?_⟩
  rcases h.2 with h2 | ⟨g, cap, cur, hv, hB2, r⟩
  · exact .inl h2
  · exact .inr ⟨g, cap, cur, hv, Nat.le_trans hB hB2, r⟩

/-- As a slice that came in. -/
theorem OwnS.elems {w : World} {B : Nat} {v : Value} {xs : List ByteArray} (h : OwnS w B v xs) (hl : xs.length ≤ maxLen) :
    ∃ a cap, v = .slice a xs.length cap ∧ Elems w w.heap.size a xs.length (xs.map Value.string) := by
  obtain ⟨h1, h2⟩ := h
  rcases h2 with ⟨rfl, h3⟩ | ⟨g, cap, cur, rfl, hB, hg, hn, hc, hs, hx⟩
  · rw [h3]; exact ⟨none, 0, rfl, by simpa using h3, Nat.zero_le _, .inl rfl⟩
  · have hg' := (Array.getElem?_eq_some_iff.1 hg).1
    refine ⟨some ⟨g, 0, none⟩, cap, rfl, by simp, hl, .inr ⟨g, 0, rfl, hg', fun i hi => ?_⟩⟩
    have h5 : (cur.toList.take (xs.length * 1))[i]? = cur[i]? := by rw [List.getElem?_take_of_lt (by omega)]; simp
    rw [← hx, h5]
    have : i < cur.size := by omega
    simp [World.cell?, hg, this]

/-- Its form. -/
theorem OwnS.form {w : World} {B : Nat} {v : Value} {xs : List ByteArray} (h : OwnS w B v xs) : (v = .slice none 0 0 ∧ xs = []) ∨ ∃ g cap, v = .slice (some ⟨g, 0, none⟩) xs.length cap ∧ g < w.heap.size ∧ xs.length ≤ cap ∧ ∀ (j : Nat) x, xs[j]? = some x → w.cell? ⟨g, 0 + j, none⟩ = some (.string x) := by
  obtain ⟨h1, h2⟩ := h
  rcases h2 with ⟨h2, h3⟩ | ⟨g, cap, cur, rfl, hB, hg, hn, hc, hs, hx⟩
  · exact .inl ⟨h2, List.length_eq_zero_iff.1 h3⟩
  · refine .inr ⟨g, cap, rfl, (Array.getElem?_eq_some_iff.1 hg).1, hn, fun j x hj => ?_⟩
    have hjl := (List.getElem?_eq_some_iff.1 hj).1
    have h5 : (cur.toList.take (xs.length * 1))[j]? = cur[j]? := by rw [List.getElem?_take_of_lt (by omega)]; simp
    have h6 : (xs.map Value.string)[j]? = some (.string x) := by rw [List.getElem?_map, hj]; rfl
    rw [Nat.zero_add]
    rw [← hx, h5] at h6
    simp [World.cell?, hg, h6]

theorem infoS : (Tryz.prog.info? 9).map (fun i => (i.zero, i.size, i.bytes)) = some (some (.string ByteArray.empty), 1, 16) := by kernel_rfl

/-- append(out, x). -/
theorem append_string {w : World} {ops : Array Oper} {rest : List Oper} {o : Oper} {a : Act} {Q : Exit → Act → World → Prop} (hgd : o.guard = none) (s x : Operand)
    (ho : o.op = .call { callee := .builtin .append, args := #[s, x], argTypes := #[118, 118] }) {B : Nat} {v : Value} {xs : List ByteArray} (hs : a.eval s = v) (hown : OwnS w B v xs)
    {g : Nat} (c : ByteArray) (hx : a.eval x = .slice (some ⟨g, 0, none⟩) 1 1) (hcell : w.cell? ⟨g, 0, none⟩ = some (.string c)) (hlen : xs.length + 1 ≤ 1000000000000) {w0 : World} (hb : Below B w0 w) (hB : B ≤ w.heap.size)
    (h : ∀ v' w', OwnS w' B v' (xs ++ [c]) → Below B w0 w' → B ≤ w'.heap.size → wpList Tryz.prog ops Q rest (a.put o.dst v') w') : wpList Tryz.prog ops Q (o :: rest) a w := by
  obtain ⟨i0, hi, hz0, hz1, hz2⟩ := info_parts infoS
  refine wpList_append_own w hgd s x 118 ho B 9 i0 (.string ByteArray.empty) 1 16 Tryz.underlying118 hi hz0 hz1 hz2 rfl (by omega) v xs.length _ hs hown ⟨g, 0, none⟩ 1 1 [.string c] hx (by simp)
    ?_ (by intro u hu; simp at hu; subst hu; rfl) (by unfold maxLen; omega) (by omega) hB ?_
  · intro j u hj
    have hj' : j = 0 := by
      rcases j with _ | j
      · rfl
      · simp at hj
    subst hj'
    simp at hj
    subst hj
    rw [addr_add]
    exact hcell
  · intro v' w' h2 h3 _
    refine h v' w' ?_ (hb.grown h3 hB fun k hk => (World.ownsRow.lt hown k hk).1) (Nat.le_trans hB h3.size)
    unfold OwnS
    rw [List.length_append, List.map_append]
    exact h2

/-- make([]string, 0, n). -/
theorem make_strings {w : World} {ops : Array Oper} {rest : List Oper} {o : Oper} {a : Act} {Q : Exit → Act → World → Prop} (hg : o.guard = none) (l c : Operand) (hop : o.op = Op.makeSlice 118 l c) (B : Nat)
    (n : Nat) (hl : a.eval l = .int .i64 0) (hc : a.eval c = .int .i64 (n : Int)) (hn : n ≤ 1000000) {w0 : World} (hb : Below B w0 w) (hB : B ≤ w.heap.size)
    (h : ∀ w', OwnS w' B (.slice (some ⟨w.heap.size, 0, none⟩) 0 n) [] → Below B w0 w' → B ≤ w'.heap.size → wpList Tryz.prog ops Q rest (a.put o.dst (.slice (some ⟨w.heap.size, 0, none⟩) 0 n)) w') : wpList Tryz.prog ops Q (o :: rest) a w := by
  obtain ⟨i0, hi, hz0, hz1, hz2⟩ := info_parts infoS
  refine wpList_make_own _ hg l c 118 hop B 9 i0 (.string ByteArray.empty) 1 Tryz.underlying118 hi hz0 hz1 .i64 .i64 _ n hl hc rfl (by rw [hz2]; omega) (by unfold maxLen; omega) hB fun w' h1 h2 => ?_
  exact h w' h1 (hb.grown h2 hB fun k hk => by cases hk) (Nat.le_trans hB h2.size)

theorem cell_newS (w : World) (v : Value) (e : TypeId) : (w.alloc (.cells #[v] e)).cell? ⟨w.heap.size, 0, none⟩ = some v := by simp
end Go.Proofs.YtmlgmedapbeleaaGreatDoor
namespace Go.Proofs.YtmlgmedapbeleaaGreatDoor
open Go.RowKit

/-- How many bytes are left without the slashes at the end of the first n; one, if there are no others. -/
def cutTo (l : List UInt8) : Nat → Nat
  | 0 => 0
  | n + 1 => if 0 < n ∧ l.getD n 0 = 47 then cutTo l n else n + 1
def bareL (l : List UInt8) : List UInt8 := l.take (cutTo l l.length)

theorem cutTo_step (l : List UInt8) (n : Nat) (h : 0 < n ∧ l.getD n 0 = 47) : cutTo l (n + 1) = cutTo l n := by rw [cutTo, if_pos h]
theorem cutTo_stop (l : List UInt8) (n : Nat) (h : ¬ (0 < n ∧ l.getD n 0 = 47)) : cutTo l (n + 1) = n + 1 := by rw [cutTo, if_neg h]
theorem cutTo_spec (l : List UInt8) : ∀ n, cutTo l n ≤ n ∧ (∀ j, cutTo l n ≤ j → j < n → l.getD j 0 = 47) ∧ (0 < n → 0 < cutTo l n) ∧ (1 < cutTo l n → l.getD (cutTo l n - 1) 0 ≠ 47)
  | 0 => ⟨Nat.le_refl _, fun j _ h => by omega, fun h => h, fun h => by simp [cutTo] at h⟩
  | n + 1 => by
    obtain ⟨h1, h2, h3, h4⟩ := cutTo_spec l n
    rw [cutTo]
    split
    · rename_i h
      refine ⟨by omega, fun j hj hn => ?_, fun _ => h3 h.1, h4⟩
      by_cases hjn : j < n
      · exact h2 j hj hjn
      · obtain rfl : j = n := by omega
        exact h.2
    · rename_i h
      refine ⟨Nat.le_refl _, fun j _ _ => by omega, fun _ => by omega, fun h5 h6 => h ⟨by omega, by simpa using h6⟩⟩

theorem bareL_len (l : List UInt8) : (bareL l).length ≤ l.length := by rw [bareL, List.length_take]; omega
theorem bareL_pos {l : List UInt8} (h : l ≠ []) : bareL l ≠ [] := by
  have h0 : 0 < l.length := List.length_pos_iff.2 h
  have := (cutTo_spec l l.length).2.2.1 h0
  have h1 := (cutTo_spec l l.length).1
  intro e
  have := congrArg List.length e
  rw [bareL, List.length_take, List.length_nil] at this
  omega

theorem getD_some {l : List UInt8} {j : Nat} {b : UInt8} (h : l[j]? = some b) : l.getD j 0 = b := by simp [List.getD, h]

theorem bare_trim (l : List UInt8) : (if Lib.trimRightB l 47 = [] ∧ l ≠ [] then [47] else Lib.trimRightB l 47) = bareL l := by
  obtain ⟨h1, h2, h3, h4⟩ := cutTo_spec l l.length
  by_cases h0 : l = []
  · subst h0; rfl
  · have hpos : 0 < l.length := List.length_pos_iff.2 h0
    have hk := h3 hpos
    by_cases hc : cutTo l l.length = 1 ∧ l.getD 0 0 = 47
    · have e : Lib.trimRightB l 47 = [] := by
        rw [Lib.trimRightB_take l 47 0 (Nat.zero_le _) (fun j b _ hj => ?_) (fun b hb => by omega)]
        · rfl
        · rw [← getD_some hj]
          have hjl : j < l.length := (List.getElem?_eq_some_iff.1 hj).1
          by_cases hj0 : j = 0
          · subst hj0; exact hc.2
          · exact h2 j (by omega) hjl
      rw [if_pos ⟨e, h0⟩, bareL, hc.1]
      cases l with
      | nil => exact absurd rfl h0
      | cons c l => simpa using hc.2.symm
    · have e : Lib.trimRightB l 47 = bareL l := by
        refine Lib.trimRightB_take l 47 _ h1 (fun j b hj hb => ?_) (fun b hb hb' => ?_)
        · rw [← getD_some hb]; exact h2 j hj (List.getElem?_eq_some_iff.1 hb).1
        · rw [← getD_some hb']
          by_cases h5 : 1 < cutTo l l.length
          · exact h4 h5
          · have h6 : cutTo l l.length = 1 := by omega
            rw [h6]
            exact fun h7 => hc ⟨h6, h7⟩
      rw [if_neg, e]
      rintro ⟨h5, _⟩
      exact bareL_pos h0 (e ▸ h5)

/-- The place of the last slash among the first n; -1: none. -/
def lastTo (l : List UInt8) : Nat → Int
  | 0 => -1
  | n + 1 => if l.getD n 0 = 47 then (n : Int) else lastTo l n
def lastL (l : List UInt8) : Int := lastTo l l.length
theorem lastTo_lt (l : List UInt8) : ∀ n, -1 ≤ lastTo l n ∧ lastTo l n < n
  | 0 => by simp [lastTo]
  | n + 1 => by have := lastTo_lt l n; rw [lastTo]; split <;> omega
theorem lastTo_yes {l : List UInt8} {n : Nat} (h : l.getD n 0 = 47) : lastTo l (n + 1) = n := by rw [lastTo, if_pos h]
theorem lastTo_no {l : List UInt8} {n : Nat} (h : l.getD n 0 ≠ 47) : lastTo l (n + 1) = lastTo l n := by rw [lastTo, if_neg h]

theorem lib_last (s : ByteArray) : ∀ n, n ≤ s.size → Lib.lastIdx s 47 n = lastTo (L s) n
  | 0, _ => rfl
  | n + 1, h => by
    have hn : n < s.data.size := h
    have hl : n < (L s).length := h
    have e : s.data[n]! = (L s).getD n 0 := by
      rw [getElem!_pos s.data n hn, List.getD, List.getElem?_eq_getElem hl]; rfl
    rw [Lib.lastIdx, lastTo, lib_last s n (by omega), e]
    congr 1
    refine propext ⟨fun h => UInt8.toNat_inj.1 (by have : ((47 : UInt8).toNat : Int) = 47 := rfl; omega), fun h => by rw [h]; rfl⟩
theorem lib_last_all (s : ByteArray) : Lib.lastIndexByte s 47 = lastL (L s) := lib_last s s.size (Nat.le_refl _)

def baseL (l : List UInt8) : List UInt8 := if bareL l = [47] then [47] else (bareL l).drop (lastL (bareL l) + 1).toNat
def dirL (l : List UInt8) : List UInt8 := if bareL l = [47] then [47] else if lastL (bareL l) < 0 then [46] else bareL ((bareL l).take (lastL (bareL l) + 1).toNat)
end Go.Proofs.YtmlgmedapbeleaaGreatDoor
