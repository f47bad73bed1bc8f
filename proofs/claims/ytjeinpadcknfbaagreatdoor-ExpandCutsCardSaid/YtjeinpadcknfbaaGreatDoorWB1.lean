/-
  A shell's variables, plain: by name, in a list by rising names; the environment's entries, and what a sort by names makes of them.
-/
import Derived.Test.YtjeinpadcknfbaaGreatDoorRows
import Derived.WalkKit
import Derived.WalkSpells
import Derived.WalkLawsBesides
import Derived.Laws.BytesArg
import Derived.Handy
import Derived.Lib.Hide
import Derived.ScopeJumps
import Derived.Lib.Strings
import Derived.Lib.Bytealg
import Derived.Lib.IndexMore
import Derived.Lib.IndexBytes
set_option linter.unusedVariables false
set_option linter.unusedSimpArgs false
/-
  Small laws for walks, over any program of the kind: bytes as a string, the elements of a slice that came in, lists.
-/
namespace Go.Proofs.YtjeinpadcknfbaaGreatDoor
open Go.RowKit

/-! ### what is returned -/
theorem ret_string {a b : ByteArray} (h : a = b) : Ending.returned (.string a) = .returned (.string b) := by rw [h]
theorem ret_bool {a b : Bool} (h : a = b) : Ending.returned (.bool a) = .returned (.bool b) := by rw [h]
theorem ret_int {k : IntKind} {a b : Int} (h : a = b) : Ending.returned (.int k a) = .returned (.int k b) := by rw [h]

/-! ### strings as lists of bytes -/
/-- The bytes of a string. -/
def L (s : ByteArray) : List UInt8 := s.data.toList
/-- The string of bytes. -/
def S (l : List UInt8) : ByteArray := ⟨l.toArray⟩
theorem L_S (l : List UInt8) : L (S l) = l := rfl
theorem S_L (s : ByteArray) : S (L s) = s := rfl
theorem L_size (s : ByteArray) : (L s).length = s.size := rfl
theorem S_size (l : List UInt8) : (S l).size = l.length := rfl
theorem L_append (s t : ByteArray) : L (s ++ t) = L s ++ L t := by simp [L]
theorem S_append (l m : List UInt8) : S l ++ S m = S (l ++ m) := by
  have : L (S l ++ S m) = l ++ m := by rw [L_append, L_S, L_S]
  rw [← this, S_L]
theorem L_inj {s t : ByteArray} (h : L s = L t) : s = t := by rw [← S_L s, h, S_L]
theorem S_inj {l m : List UInt8} (h : S l = S m) : l = m := by rw [← L_S l, h, L_S]
theorem toList_L (s : ByteArray) : s.toList = L s := ByteArray.toList_eq s

@[simp] theorem size_mk' (a : Array UInt8) : (ByteArray.mk a).size = a.size := rfl
@[simp] theorem L_mk (a : Array UInt8) : L ⟨a⟩ = a.toList := rfl

/-- A number that is a byte. -/
theorem u8_of {n : Int} (h0 : 0 ≤ n) (h1 : n < 256) : n = (((UInt8.ofNat n.toNat).toNat : Nat) : Int) := by simp; omega

theorem L_extract (s : ByteArray) (a b : Nat) : L (s.extract a b) = ((L s).drop a).take (b - a) := Lib.extract_data s a b
theorem drop_getD (l : List UInt8) {k : Nat} (h : k < l.length) : l.drop k = l.getD k 0 :: l.drop (k + 1) := by
  rw [List.drop_eq_getElem_cons h]; simp [List.getD, h]
/-- A byte of a string. -/
theorem run_idx {P : Program} {T : TypeId} (hT : P.underlying T = some .string) (s : ByteArray) {k : IntKind} (i : Int) (n : Nat) (hi : i = n) (hn : n < s.size) (w : World) :
    (Instr.index T (.string s) (.int k i)).run P w = .ok (.int .u8 ((((L s).getD n 0).toNat : Nat) : Int)) w := by
  subst hi
  have h0 : (0 : Int) ≤ (n : Int) := by omega
  have h1 : s[n]? = some ((L s).getD n 0) := by
    rw [getElem?_pos s n hn]
    have : n < (L s).length := hn
    simp [List.getD, this]
    rfl
  simp [Instr.index, run_underlying hT, asIntOf, h1]

/-! ### bits -/
theorem bits_and_mask (k : IntKind) (m : Nat) (hm : m + 1 < k.bits) (x : Int) : bits BinOp.and k x ((2 ^ m - 1 : Nat) : Int) = x % (2 ^ m : Nat) := by
  have hp : 2 ^ m < 2 ^ (k.bits - 1) := Nat.pow_lt_pow_right (by omega) (by omega)
  have hb : 2 ^ k.bits = 2 * 2 ^ (k.bits - 1) := by rw [← Nat.pow_succ']; congr 1; omega
  have h1 : 0 < 2 ^ m := Nat.pow_pos (by omega)
  have e2 : (BitVec.ofInt k.bits ((2 ^ m - 1 : Nat) : Int)).toNat = 2 ^ m - 1 := by
    rw [BitVec.toNat_ofInt, Int.emod_eq_of_lt (by omega) (by omega)]; omega
  have hx : (BitVec.ofInt k.bits x &&& BitVec.ofInt k.bits ((2 ^ m - 1 : Nat) : Int)).toNat = (x % (2 ^ m : Nat)).toNat := by
    rw [BitVec.toNat_and, e2, Nat.and_two_pow_sub_one_eq_mod, BitVec.toNat_ofInt]
    have hd : ((2 ^ m : Nat) : Int) ∣ ((2 ^ k.bits : Nat) : Int) := by
      refine Int.natCast_dvd_natCast.2 (Nat.pow_dvd_pow 2 (by omega))
    have := Int.emod_emod_of_dvd x hd
    have hn : 0 ≤ x % ((2 ^ k.bits : Nat) : Int) := Int.emod_nonneg _ (by omega)
    obtain ⟨y, hy⟩ := Int.eq_ofNat_of_zero_le hn
    rw [hy] at this ⊢
    rw [← this, Int.toNat_natCast, ← Int.natCast_emod, Int.toNat_natCast]
  have hr : 0 ≤ x % ((2 ^ m : Nat) : Int) ∧ x % ((2 ^ m : Nat) : Int) < ((2 ^ m : Nat) : Int) := ⟨Int.emod_nonneg _ (by omega), Int.emod_lt_of_pos _ (by omega)⟩
  show k.wrap (((BitVec.ofInt k.bits x &&& BitVec.ofInt k.bits ((2 ^ m - 1 : Nat) : Int)).toNat : Nat) : Int) = _
  rw [hx, Int.toNat_of_nonneg hr.1]
  generalize x % ((2 ^ m : Nat) : Int) = y at hr
  unfold IntKind.wrap
  cases k <;> simp [IntKind.bits, IntKind.signed] at hp hb ⊢ <;> omega

@[go_sem] theorem bits_and_7 (x : Int) : bits BinOp.and .i64 x 7 = x % 8 := bits_and_mask .i64 3 (by decide) x
@[go_sem] theorem bits_and_63 (x : Int) : bits BinOp.and .u32 x 63 = x % 64 := bits_and_mask .u32 6 (by decide) x

theorem bits_or_nat (x y : Nat) (hx : x < 4294967296) (hy : y < 4294967296) : bits BinOp.or .u32 (x : Int) (y : Int) = ((x ||| y : Nat) : Int) := by
  have h : x ||| y < 2 ^ 32 := Nat.or_lt_two_pow (by omega) (by omega)
  have e : (BitVec.ofInt 32 (x : Int) ||| BitVec.ofInt 32 (y : Int)).toNat = x ||| y := by
    rw [BitVec.toNat_or, BitVec.toNat_ofInt, BitVec.toNat_ofInt]
    congr 1 <;> omega
  show IntKind.u32.wrap (((BitVec.ofInt 32 (x : Int) ||| BitVec.ofInt 32 (y : Int)).toNat : Nat) : Int) = _
  rw [e, IntWalk.u32_in _ ⟨by omega, by omega⟩]

theorem mul_256 (a b : Nat) : (a * 256 + b) * 256 = a * 65536 + b * 256 := by omega

/-- Three bytes in a number, as the walk spells it. -/
theorem or3 (a b c : UInt8) : bits BinOp.or .u32 (bits BinOp.or .u32 (((a.toNat : Nat) : Int) % 4294967296 * 65536 % 4294967296) (((b.toNat : Nat) : Int) % 4294967296 * 256 % 4294967296)) (((c.toNat : Nat) : Int) % 4294967296) = ((a.toNat * 65536 + b.toNat * 256 + c.toNat : Nat) : Int) := by
  have ha := a.toNat_lt
  have hb := b.toNat_lt
  have hc := c.toNat_lt
  rw [show ((a.toNat : Nat) : Int) % 4294967296 * 65536 % 4294967296 = ((a.toNat * 65536 : Nat) : Int) by omega, show ((b.toNat : Nat) : Int) % 4294967296 * 256 % 4294967296 = ((b.toNat * 256 : Nat) : Int) by omega,
    show ((c.toNat : Nat) : Int) % 4294967296 = (c.toNat : Int) by omega, bits_or_nat _ _ (by omega) (by omega)]
  have e1 : a.toNat * 65536 ||| b.toNat * 256 = a.toNat * 65536 + b.toNat * 256 := by
    have := Nat.shiftLeft_add_eq_or_of_lt (b := b.toNat * 256) (i := 16) (by omega) a.toNat
    rw [Nat.shiftLeft_eq, show (2 : Nat) ^ 16 = 65536 from rfl] at this
    exact this.symm
  have e2 : (a.toNat * 65536 + b.toNat * 256) ||| c.toNat = a.toNat * 65536 + b.toNat * 256 + c.toNat := by
    have := Nat.shiftLeft_add_eq_or_of_lt (b := c.toNat) (i := 8) (by omega) (a.toNat * 256 + b.toNat)
    rw [Nat.shiftLeft_eq, show (2 : Nat) ^ 8 = 256 from rfl] at this
    rw [mul_256] at this
    exact this.symm
  rw [e1, bits_or_nat _ _ (by omega) (by omega), e2]

/-! ### bytes in cells, as a string -/
/-- The bytes in the cells off, off + 1 .. of block b. -/
def cellBytes (w : World) (b : Nat) : Nat → Nat → Option (List UInt8)
  | _, 0 => some []
  | off, l + 1 => match w.cell? ⟨b, off, none⟩ with
    | some (.int .u8 n) => (cellBytes w b (off + 1) l).map (UInt8.ofNat n.toNat :: ·)
    | _ => none
def convFb (P : Program) (w : World) (src dst b off l c : Nat) : Result Value := (convert src dst (.slice (some ⟨b, off, none⟩) l c)).run P w
def convK (o : Option (List UInt8)) (w : World) (fb : Result Value) : Result Value := match o with
  | some l => .ok (.string ⟨l.toArray⟩) w
  | none => fb
theorem convK_some (l : List UInt8) (w : World) (fb : Result Value) : convK (some l) w fb = .ok (.string ⟨l.toArray⟩) w := rfl
attribute [go_sem] cellBytes convK_some

theorem cellBytes_get (w : World) (b : Nat) : ∀ (l off : Nat) (bs : List UInt8), cellBytes w b off l = some bs →
    bs.length = l ∧ ∃ xs : List Int, xs.length = l ∧ (∀ i, i < l → w.cell? ⟨b, off + i, none⟩ = some (.int .u8 (xs.getD i 0))) ∧ strOfNums xs = ⟨bs.toArray⟩ := by
  intro l
  induction l with
  | zero => intro off bs h; simp [cellBytes] at h; subst h; exact ⟨rfl, [], rfl, by intro i hi; omega, rfl⟩
  | succ l ih =>
    intro off bs h
    unfold cellBytes at h
    split at h
    · rename_i n hn
      simp only [Option.map_eq_some_iff] at h
      obtain ⟨t, ht, rfl⟩ := h
      obtain ⟨h1, xs, h2, h3, h4⟩ := ih _ _ ht
      refine ⟨by simp [h1], n :: xs, by simp [h2], ?_, ?_⟩
      · intro i hi
        cases i with
        | zero => simpa using hn
        | succ i => have := h3 i (by omega); rw [show off + (i + 1) = off + 1 + i by omega, this]; simp
      · have h5 : (strOfNums xs).data.toList = t := by rw [h4]
        simp only [strOfNums_data] at h5
        simp [strOfNums, h5]
    · cases h

theorem run_convK {P : Program} (src dst e : Nat) (hs : P.underlying src = some (.slice e)) (he : P.underlying e = some (.int .u8)) (hd : P.underlying dst = some .string) (w : World) (b off l c : Nat) :
    (convert src dst (.slice (some ⟨b, off, none⟩) l c)).run P w = convK (cellBytes w b off l) w (convFb P w src dst b off l c) := by
  cases h : cellBytes w b off l with
  | none => rfl
  | some bs =>
    obtain ⟨h1, xs, h2, h3, h4⟩ := cellBytes_get w b l off bs h
    rw [run_convert_bytes_arg w src e hs he b off l c xs h2 h3 dst hd, h4]; rfl

/-! ### a slice that came in -/
/-- The cells of the slice (a, n) hold xs; they lie below block B. -/
def Elems (w : World) (B : Nat) (a : Option Addr) (n : Nat) (xs : List Value) : Prop :=
  xs.length = n ∧ n ≤ maxLen ∧ (n = 0 ∨ ∃ b off, a = some ⟨b, off, none⟩ ∧ b < B ∧ ∀ i, i < n → w.cell? ⟨b, off + i, none⟩ = xs[i]?)

theorem Elems.below {w w' : World} {B : Nat} {a : Option Addr} {n : Nat} {xs : List Value} (h : Elems w B a n xs) (hb : Below B w w') : Elems w' B a n xs := by
  obtain ⟨h1, h2, h3⟩ := h
  refine ⟨h1, h2, ?_⟩
  rcases h3 with h3 | ⟨b, off, ha, hB, hc⟩
  · exact .inl h3
  · exact .inr ⟨b, off, ha, hB, fun i hi => by rw [hb.cell (p := ⟨b, off + i, none⟩) hB]; exact hc i hi⟩

theorem Elems.mono {w : World} {B B' : Nat} {a : Option Addr} {n : Nat} {xs : List Value} (h : Elems w B a n xs) (hB : B ≤ B') : Elems w B' a n xs := by
  obtain ⟨h1, h2, h3⟩ := h
  refine ⟨h1, h2, ?_⟩
  rcases h3 with h3 | ⟨b, off, ha, hb, hc⟩
  · exact .inl h3
  · exact .inr ⟨b, off, ha, by omega, hc⟩

/-- A slice of one cell that the call has just made. -/
theorem elems_one (w : World) (v : Value) (e : TypeId) : Elems (w.alloc (.cells #[v] e)) (w.alloc (.cells #[v] e)).heap.size (some ⟨w.heap.size, 0, none⟩) 1 [v] := by
  refine ⟨rfl, by unfold maxLen; omega, .inr ⟨_, _, rfl, by simp, fun i hi => ?_⟩⟩
  obtain rfl : i = 0 := by omega
  simp

theorem addr_add (b off k : Nat) : (⟨b, off, none⟩ : Addr).add k = ⟨b, off + k, none⟩ := by
  unfold Addr.add; split <;> simp_all

/-- What a walk wants of the slice: where its k-th element lies, and what is there. -/
theorem Elems.open {P : Program} {w : World} {B : Nat} {a : Option Addr} {n : Nat} {xs : List Value} (h : Elems w B a n xs) (T E : Nat)
    (hT : P.underlying T = some (.slice E)) (hs : (P.info? E).map (·.size) = some 1) :
    ∃ b off, (∀ (k cap : Nat) (w' : World), k < n → (Instr.indexAt T (.slice a n cap) (.int .i64 (k : Int))).run P w' = .ok (.pointer (some ⟨b, off + k, none⟩)) w') ∧ (n = 0 ∨ b < B) ∧
      ∀ k, k < n → w.cell? ⟨b, off + k, none⟩ = xs[k]? := by
  obtain ⟨h1, h2, h3⟩ := h
  rcases h3 with h3 | ⟨b, off, rfl, hB, hc⟩
  · exact ⟨0, 0, fun k _ _ hk => by omega, .inl h3, fun k hk => by omega⟩
  · refine ⟨b, off, fun k cap w' hk => ?_, .inr hB, hc⟩
    have he : P.elem T = E := by simp [Program.elem, hT]
    rw [run_indexAt_slice _ _ _ _ _ _ _ (by rw [he]; exact hT), if_pos ⟨by omega, by omega⟩, he]
    obtain ⟨i, hi, hi1⟩ := Option.map_eq_some_iff.1 hs
    simp [sizeOf, typeInfo, hi, hi1, Result.andThen, addr_add]

/-! ### a scope in which the run jumps back to one label -/
theorem Exit.jump_mono {l : Nat} {J J' : Act → World → Prop} {Q : Exit → Act → World → Prop} (h : ∀ a w, J a w → J' a w) : ∀ e a w, Exit.jump l J Q e a w → Exit.jump l J' Q e a w := by
  intro e a w he
  cases e <;> first | exact he | exact ⟨he.1, h _ _ he.2⟩

theorem wp_scope_again {P : Program} {a : Act} {w : World} {Q : Exit → Act → World → Prop} {c rest : Code} (l : Nat) (J : Act → World → Prop) (μ : Act → World → Nat) (hf : findLabel c l = some (.seq .skip rest))
    (pass : ∀ a w, J a w → rest.wp P (Exit.jump l (fun a' w' => J a' w' ∧ μ a' w' < μ a w) Q) a w)
    (first : Hid (∀ a w, J a w → rest.wp P (Exit.jump l J Q) a w) → c.wp P (Exit.jump l J Q) a w) : (Code.scope c).wp P Q a w :=
  wp_scope_jumps l J μ hf (first fun a w hJ => Code.wp_mono (Exit.jump_mono fun _ _ h => h.1) (pass a w hJ)) fun a w hJ => wp_seq (wp_skip (pass a w hJ))

end Go.Proofs.YtjeinpadcknfbaaGreatDoor
namespace Go.Proofs.YtjeinpadcknfbaaGreatDoor
open Go.RowKit

abbrev Nm := List UInt8
theorem nm_irrefl (a : Nm) : ¬ a < a := List.lt_irrefl a
theorem nm_trans {a b c : Nm} (h : a < b) (k : b < c) : a < c := List.lt_trans h k
theorem nm_tri (a b : Nm) : a < b ∨ a = b ∨ b < a := by
  by_cases h1 : a < b
  · exact .inl h1
  · by_cases h2 : b < a
    · exact .inr (.inr h2)
    · exact .inr (.inl (List.le_antisymm (List.not_lt.1 h2) (List.not_lt.1 h1)))
theorem cmp_lt : ∀ a b : Nm, (Go.Lib.compareBytes a b < 0) ↔ a < b
  | [], [] => by simp [Go.Lib.compareBytes]
  | [], _ :: _ => by simp [Go.Lib.compareBytes]
  | _ :: _, [] => by simp [Go.Lib.compareBytes]
  | a :: xs, b :: ys => by
    rw [Go.Lib.compareBytes, List.cons_lt_cons_iff]
    by_cases h1 : a < b
    · simp [h1]
    · by_cases h2 : b < a
      · have : a ≠ b := fun e => by subst e; exact h1 h2
        simp [h1, h2, this]
      · have e : a = b := UInt8.le_antisymm (UInt8.not_lt.1 h2) (UInt8.not_lt.1 h1)
        subst e
        simp [cmp_lt xs ys]

/-- A variable. -/
structure Xd where
  text : Nm
  set : Bool
  exp : Bool
  fix : Bool
def d0 : Xd := ⟨[], false, false, false⟩
def find : List (Nm × Xd) → Nm → Xd
  | [], _ => d0
  | p :: r, k => if p.1 = k then p.2 else find r k
def putL (l : List (Nm × Xd)) (k : Nm) (x : Xd) : List (Nm × Xd) := l.filter (fun p => decide (p.1 < k)) ++ (k, x) :: l.filter (fun p => decide (k < p.1))
def Rising (l : List (Nm × Xd)) : Prop := l.Pairwise fun p q => p.1 < q.1
theorem put_rising {l : List (Nm × Xd)} (h : Rising l) (k : Nm) (x : Xd) : Rising (putL l k x) := by
  rw [Rising, putL, List.pairwise_append, List.pairwise_cons]
  refine ⟨h.sublist List.filter_sublist, ⟨fun p hp => by simpa using (List.mem_filter.1 hp).2, h.sublist List.filter_sublist⟩, fun p hp q hq => ?_⟩
  have h1 : p.1 < k := by simpa using (List.mem_filter.1 hp).2
  rcases List.mem_cons.1 hq with rfl | hq
  · exact h1
  · exact nm_trans h1 (by simpa using (List.mem_filter.1 hq).2)
theorem find_append (a b : List (Nm × Xd)) (k : Nm) (h : ∀ p ∈ a, p.1 ≠ k) : find (a ++ b) k = find b k := by
  induction a with
  | nil => rfl
  | cons p r ih => rw [List.cons_append, find, if_neg (h p (by simp)), ih fun q hq => h q (by simp [hq])]
theorem find_filter (l : List (Nm × Xd)) (f : Nm × Xd → Bool) (k : Nm) (h : ∀ p, p.1 = k → f p = true) : find (l.filter f) k = find l k := by
  induction l with
  | nil => rfl
  | cons p r ih =>
    rw [List.filter_cons, find]
    by_cases hp : p.1 = k
    · rw [if_pos (h p hp), find, if_pos hp, if_pos hp]
    · rw [if_neg hp]
      split
      · rw [find, if_neg hp, ih]
      · exact ih
theorem find_none (l : List (Nm × Xd)) (k : Nm) (h : ∀ p ∈ l, p.1 ≠ k) : find l k = d0 := by
  have := find_append l [] k h
  rwa [List.append_nil] at this
theorem find_app2 (a b : List (Nm × Xd)) (k : Nm) (h : ∀ p ∈ b, p.1 ≠ k) : find (a ++ b) k = find a k := by
  induction a with
  | nil => rw [List.nil_append, find_none b k h]; rfl
  | cons p r ih => rw [List.cons_append, find, find, ih]
theorem find_putL (l : List (Nm × Xd)) (k k' : Nm) (x : Xd) : find (putL l k x) k' = if k' = k then x else find l k' := by
  have hl : ∀ p ∈ l.filter (fun p => decide (p.1 < k)), p.1 < k := fun p hp => by simpa using (List.mem_filter.1 hp).2
  have hr : ∀ p ∈ l.filter (fun p => decide (k < p.1)), k < p.1 := fun p hp => by simpa using (List.mem_filter.1 hp).2
  by_cases e : k' = k
  · subst e
    rw [if_pos rfl, putL, find_append _ _ _ fun p hp e => nm_irrefl _ (e ▸ hl p hp), find, if_pos rfl]
  · rw [if_neg e, putL]
    rcases nm_tri k' k with h | h | h
    · rw [find_app2 _ _ _ fun p hp e2 => ?_]
      · exact find_filter l _ k' fun p hp => by simpa [hp] using h
      · rcases List.mem_cons.1 hp with rfl | hp
        · exact e e2.symm
        · exact nm_irrefl _ (nm_trans h (by have := hr p hp; rwa [e2] at this))
    · exact absurd h e
    · rw [find_append _ _ _ fun p hp e2 => nm_irrefl _ (nm_trans h (by have := hl p hp; rwa [e2] at this)), find, if_neg (fun h => e h.symm)]
      exact find_filter l _ k' fun p hp => by simpa [hp] using h
theorem mem_find {l : List (Nm × Xd)} (h : Rising l) {p : Nm × Xd} (hp : p ∈ l) : find l p.1 = p.2 := by
  induction l with
  | nil => simp at hp
  | cons q r ih =>
    rw [Rising, List.pairwise_cons] at h
    rw [find]
    rcases List.mem_cons.1 hp with rfl | hp
    · rw [if_pos rfl]
    · rw [if_neg (fun e => nm_irrefl _ (by have := h.1 p hp; rwa [e] at this)), ih h.2 hp]
theorem find_mem {l : List (Nm × Xd)} {k : Nm} (h : find l k ≠ d0) : (k, find l k) ∈ l := by
  induction l with
  | nil => exact absurd rfl h
  | cons q r ih =>
    rw [find] at h ⊢
    by_cases e : q.1 = k
    · rw [if_pos e]; subst e; simp
    · rw [if_neg e] at h ⊢; exact List.mem_cons_of_mem _ (ih h)
/-- What is in the environment. -/
def inEnv (x : Xd) : Bool := x.set && x.exp
def envR (l : List (Nm × Xd)) : List (Nm × Nm) := (l.filter fun p => inEnv p.2).map fun p => (p.1, p.2.text)
theorem env_rising {l : List (Nm × Xd)} (h : Rising l) : (envR l).Pairwise fun p q => p.1 < q.1 := by
  rw [envR, List.pairwise_map]
  exact h.sublist List.filter_sublist
theorem env_mem {l : List (Nm × Xd)} (h : Rising l) (k t : Nm) : (k, t) ∈ envR l ↔ (inEnv (find l k) = true ∧ (find l k).text = t) := by
  rw [envR, List.mem_map]
  constructor
  · rintro ⟨p, hp, e⟩
    rw [List.mem_filter] at hp
    cases e
    rw [mem_find h hp.1]
    exact ⟨hp.2, rfl⟩
  · rintro ⟨h1, rfl⟩
    refine ⟨(k, find l k), List.mem_filter.2 ⟨find_mem fun e => ?_, h1⟩, rfl⟩
    rw [e] at h1; cases h1
/-- Two lists by rising names that hold the same are one. -/
theorem rising_one : ∀ {a b : List (Nm × Nm)}, a.Pairwise (fun p q => p.1 < q.1) → b.Pairwise (fun p q => p.1 < q.1) → (∀ p, p ∈ a ↔ p ∈ b) → a = b
  | [], [], _, _, _ => rfl
  | [], q :: b, _, _, h => by have := (h q).2 (by simp); simp at this
  | p :: a, [], _, _, h => by have := (h p).1 (by simp); simp at this
  | p :: a, q :: b, ha, hb, h => by
    rw [List.pairwise_cons] at ha hb
    have e : p = q := by
      rcases List.mem_cons.1 ((h p).1 (by simp)) with e | hp
      · exact e
      · rcases List.mem_cons.1 ((h q).2 (by simp)) with e | hq
        · exact e.symm
        · exact absurd (nm_trans (ha.1 q hq) (hb.1 p hp)) (nm_irrefl _)
    subst e
    rw [rising_one ha.2 hb.2 fun r => ?_]
    constructor
    · intro hr
      rcases List.mem_cons.1 ((h r).1 (List.mem_cons_of_mem _ hr)) with e | hr2
      · subst e; exact absurd (ha.1 r hr) (nm_irrefl _)
      · exact hr2
    · intro hr
      rcases List.mem_cons.1 ((h r).2 (List.mem_cons_of_mem _ hr)) with e | hr2
      · subst e; exact absurd (hb.1 r hr) (nm_irrefl _)
      · exact hr2
/-- An entry of the environment. -/
def ent (p : Nm × Nm) : Nm := p.1 ++ 61 :: p.2
def dec (s : Nm) : Nm × Nm := ((Go.Lib.cut s [61]).1, (Go.Lib.cut s [61]).2.1)
theorem index_ent : ∀ {k t : Nm}, 61 ∉ k → Go.Lib.index (k ++ 61 :: t) [61] = k.length
  | [], t, _ => by rw [Go.Lib.index_one]; rfl
  | a :: k, t, h => by
    have h1 : a ≠ 61 := fun e => h (by simp [e])
    have ih := index_ent (k := k) (t := t) fun e => h (by simp [e])
    rw [Go.Lib.index_one] at ih ⊢
    rw [List.cons_append, Go.Lib.indexByte]
    simp [h1, ih]
theorem index_no : ∀ {s : Nm}, 61 ∉ s → Go.Lib.index s [61] = -1
  | [], _ => by rw [Go.Lib.index_one]; rfl
  | a :: s, h => by
    have h1 : a ≠ 61 := fun e => h (by simp [e])
    have ih := index_no (s := s) fun e => h (by simp [e])
    rw [Go.Lib.index_one] at ih ⊢
    rw [Go.Lib.indexByte]
    simp [h1, ih]
theorem cut_ent {k t : Nm} (h : 61 ∉ k) : Go.Lib.cut (k ++ 61 :: t) [61] = (k, t, true) := by
  rw [Go.Lib.cut, index_ent h, if_pos (by omega)]
  simp
theorem cut_no {s : Nm} (h : 61 ∉ s) : Go.Lib.cut s [61] = (s, [], false) := by
  rw [Go.Lib.cut, index_no h, if_neg (by omega)]
theorem ent_or (s : Nm) : 61 ∉ s ∨ ∃ k t, 61 ∉ k ∧ s = k ++ 61 :: t := by
  induction s with
  | nil => exact .inl (by simp)
  | cons a s ih =>
    by_cases e : a = 61
    · exact .inr ⟨[], s, by simp, by rw [e]; rfl⟩
    · rcases ih with h | ⟨k, t, h1, h2⟩
      · exact .inl (by simp [h, Ne.symm e])
      · exact .inr ⟨a :: k, t, by simp [h1, Ne.symm e], by rw [h2]; rfl⟩
theorem dec_ent {p : Nm × Nm} (h : 61 ∉ p.1) : dec (ent p) = p := by rw [dec, ent, cut_ent h]
/-- How the environment's sort tells two entries apart. -/
def cfE (a b : Nm) : Int := Go.Lib.compareBytes (Go.Lib.cut a [61]).1 (Go.Lib.cut b [61]).1
/-- What a sort by names makes of the entries. -/
theorem sorted_env {l : List (Nm × Xd)} (hl : Rising l) {es : List (Nm × Nm)} {d : List Nm} (hp : d.Perm (es.map ent)) (hn : ∀ p ∈ es, 61 ∉ p.1) (hd : es.Pairwise fun p q => p.1 ≠ q.1) (hm : ∀ p, p ∈ es ↔ p ∈ envR l)
    (hs : d.Pairwise fun a b => ¬ cfE b a < 0) : d = (envR l).map ent := by
  have h1 : (d.map dec).Perm es := by
    have := hp.map dec
    rw [List.map_map] at this
    have e : es.map (dec ∘ ent) = es := by
      conv => rhs; rw [← List.map_id es]
      exact List.map_congr_left fun p hp => dec_ent (hn p hp)
    rwa [e] at this
  have h2 : (d.map dec).map ent = d := by
    rw [List.map_map]
    conv => rhs; rw [← List.map_id d]
    refine List.map_congr_left fun s hs => ?_
    obtain ⟨p, hp2, rfl⟩ := List.mem_map.1 (hp.mem_iff.1 hs)
    show ent (dec (ent p)) = ent p
    rw [dec_ent (hn p hp2)]
  have h3 : (d.map dec).Pairwise fun p q => p.1 ≠ q.1 := (h1.pairwise_iff fun h e => h e.symm).2 hd
  have h4 : (d.map dec).Pairwise fun p q => ¬ q.1 < p.1 := by
    rw [List.pairwise_map]
    exact hs.imp fun {a b} h => by rw [cfE, cmp_lt] at h; exact h
  have h5 : (d.map dec).Pairwise fun p q => p.1 < q.1 := (h3.and h4).imp fun {p q} ⟨a, b⟩ => by
    rcases nm_tri p.1 q.1 with h | h | h
    · exact h
    · exact absurd h a
    · exact absurd h b
  rw [← h2, rising_one h5 (env_rising hl) fun p => (h1.mem_iff).trans (hm p)]
end Go.Proofs.YtjeinpadcknfbaaGreatDoor
