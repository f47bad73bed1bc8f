/-
  A block of bytes of the call's own, made by []byte(s), written byte by byte, read back by string(b).
-/
import Derived.Test.YtnackmnoldkihaaGreatDoorRows
import Derived.WalkKit
import Derived.WalkSpells
import Derived.WalkLawsBesides
import Derived.Laws.BytesArg
import Derived.Handy
import Derived.Lib.Hide
import Derived.ScopeJumps
import Derived.Lib.Strings
import Derived.Shelf.Strings.Builder1
import Derived.Shelf.Strings.Builder2
import Derived.Shelf.Small.Strs
import Derived.Shelf.Strings.BuilderF
import Derived.Shelf.Strings.BuilderK
import Derived.Shelf.Utf8.RuneCount
import Derived.Shelf.Strings.Builder2Cap
import Derived.Shelf.Strconv.Itoa0
import Derived.Shelf.Strconv.Itoa1
import Derived.Shelf.LaysM
import Derived.Shelf.Strconv.Itoa2
import Derived.Shelf.Strconv.Itoa3
import Derived.Shelf.Strings.Search1
import Derived.Shelf.Strings.Search2
import Derived.Shelf.Strings.Search3
import Derived.Shelf.Strings.Cut
import Derived.Shelf.Strings.Count
import Derived.Shelf.Strings.Shaped
import Derived.Shelf.Strings.Prefix
import Derived.Shelf.Strings.Split
import Derived.Shelf.Strings.Replace
import Derived.Shelf.Strings.SplitShaped
import Derived.Shelf.Unicode.Decode
import Derived.Shelf.Strings.RuneCount
import Derived.Shelf.Unicode.DecodeSlow
import Derived.Shelf.Unicode.DecodeAny
import Derived.Shelf.Strings.BuilderCap
import Derived.Test.YtnackmnoldkihaaGreatDoorProg
import Derived.Laws.DeepStrings4
import Derived.Lib.ConvBytes
set_option linter.unusedVariables false
set_option linter.unusedSimpArgs false
/-
  Small laws for walks, over any program of the kind: bytes as a string, the elements of a slice that came in, lists.
-/
namespace Go.Proofs.YtnackmnoldkihaaGreatDoor
open Go.RowKit

/-! ### what is returned -/
theorem ret_string {a b : ByteArray} (h : a = b) : Ending.returned (.string a) = .returned (.string b) := by rw [h]
theorem ret_bool {a b : Bool} (h : a = b) : Ending.returned (.bool a) = .returned (.bool b) := by rw [h]
theorem ret_int {k : IntKind} {a b : Int} (h : a = b) : Ending.returned (.int k a) = .returned (.int k b) := by rw [h]

/-! ### strings as lists of bytes -/
/-- The bytes of a string. -/
def L (s : ByteArray) : List UInt8 := s.data.toList
/-- The string of bytes. -/
def S (l : List UInt8) : ByteArray := ⟨l.toArray⟩
theorem L_S (l : List UInt8) : L (S l) = l := rfl
theorem S_L (s : ByteArray) : S (L s) = s := rfl
theorem L_size (s : ByteArray) : (L s).length = s.size := rfl
theorem S_size (l : List UInt8) : (S l).size = l.length := rfl
theorem L_append (s t : ByteArray) : L (s ++ t) = L s ++ L t := by simp [L]
theorem S_append (l m : List UInt8) : S l ++ S m = S (l ++ m) := by
 have : L (S l ++ S m) = l ++ m := by rw [L_append, L_S, L_S]
 rw [← this, S_L]
theorem L_inj {s t : ByteArray} (h : L s = L t) : s = t := by rw [← S_L s, h, S_L]
theorem S_inj {l m : List UInt8} (h : S l = S m) : l = m := by rw [← L_S l, h, L_S]
theorem toList_L (s : ByteArray) : s.toList = L s := ByteArray.toList_eq s

@[simp] theorem size_mk' (a : Array UInt8) : (ByteArray.mk a).size = a.size := rfl
@[simp] theorem L_mk (a : Array UInt8) : L ⟨a⟩ = a.toList := rfl

/-- A number that is a byte. -/
theorem u8_of {n : Int} (h0 : 0 ≤ n) (h1 : n < 256) : n = (((UInt8.ofNat n.toNat).toNat : Nat) : Int) := by simp; omega

theorem L_extract (s : ByteArray) (a b : Nat) : L (s.extract a b) = ((L s).drop a).take (b - a) := Lib.extract_data s a b
theorem drop_getD (l : List UInt8) {k : Nat} (h : k < l.length) : l.drop k = l.getD k 0 :: l.drop (k + 1) := by
 rw [List.drop_eq_getElem_cons h]; simp [List.getD, h]
/-- A byte of a string. -/
theorem run_idx {P : Program} {T : TypeId} (hT : P.underlying T = some .string) (s : ByteArray) {k : IntKind} (i : Int) (n : Nat) (hi : i = n) (hn : n < s.size) (w : World) :
 (Instr.index T (.string s) (.int k i)).run P w = .ok (.int .u8 ((((L s).getD n 0).toNat : Nat) : Int)) w := by
 subst hi
 have h0 : (0 : Int) ≤ (n : Int) := by omega
 have h1 : s[n]? = some ((L s).getD n 0) := by
  rw [getElem?_pos s n hn]
  have : n < (L s).length := hn
  simp [List.getD, this]
  rfl
 simp [Instr.index, run_underlying hT, asIntOf, h1]

/-! ### bits -/
theorem bits_and_mask (k : IntKind) (m : Nat) (hm : m + 1 < k.bits) (x : Int) : bits BinOp.and k x ((2 ^ m - 1 : Nat) : Int) = x % (2 ^ m : Nat) := by
 have hp : 2 ^ m < 2 ^ (k.bits - 1) := Nat.pow_lt_pow_right (by omega) (by omega)
 have hb : 2 ^ k.bits = 2 * 2 ^ (k.bits - 1) := by rw [← Nat.pow_succ']; congr 1; omega
 have h1 : 0 < 2 ^ m := Nat.pow_pos (by omega)
 have e2 : (BitVec.ofInt k.bits ((2 ^ m - 1 : Nat) : Int)).toNat = 2 ^ m - 1 := by
  rw [BitVec.toNat_ofInt, Int.emod_eq_of_lt (by omega) (by omega)]; omega
 have hx : (BitVec.ofInt k.bits x &&& BitVec.ofInt k.bits ((2 ^ m - 1 : Nat) : Int)).toNat = (x % (2 ^ m : Nat)).toNat := by
  rw [BitVec.toNat_and, e2, Nat.and_two_pow_sub_one_eq_mod, BitVec.toNat_ofInt]
  have hd : ((2 ^ m : Nat) : Int) ∣ ((2 ^ k.bits : Nat) : Int) := by
   refine Int.natCast_dvd_natCast.2 (Nat.pow_dvd_pow 2 (by omega))
  have := Int.emod_emod_of_dvd x hd
  have hn : 0 ≤ x % ((2 ^ k.bits : Nat) : Int) := Int.emod_nonneg _ (by omega)
  obtain ⟨y, hy⟩ := Int.eq_ofNat_of_zero_le hn
  rw [hy] at this ⊢
  rw [← this, Int.toNat_natCast, ← Int.natCast_emod, Int.toNat_natCast]
 have hr : 0 ≤ x % ((2 ^ m : Nat) : Int) ∧ x % ((2 ^ m : Nat) : Int) < ((2 ^ m : Nat) : Int) := ⟨Int.emod_nonneg _ (by omega), Int.emod_lt_of_pos _ (by omega)⟩
 show k.wrap (((BitVec.ofInt k.bits x &&& BitVec.ofInt k.bits ((2 ^ m - 1 : Nat) : Int)).toNat : Nat) : Int) = _
 rw [hx, Int.toNat_of_nonneg hr.1]
 generalize x % ((2 ^ m : Nat) : Int) = y at hr
 unfold IntKind.wrap
 cases k <;> simp [IntKind.bits, IntKind.signed] at hp hb ⊢ <;> omega

@[go_sem] theorem bits_and_7 (x : Int) : bits BinOp.and .i64 x 7 = x % 8 := bits_and_mask .i64 3 (by decide) x
@[go_sem] theorem bits_and_63 (x : Int) : bits BinOp.and .u32 x 63 = x % 64 := bits_and_mask .u32 6 (by decide) x

theorem bits_or_nat (x y : Nat) (hx : x < 4294967296) (hy : y < 4294967296) : bits BinOp.or .u32 (x : Int) (y : Int) = ((x ||| y : Nat) : Int) := by
 have h : x ||| y < 2 ^ 32 := Nat.or_lt_two_pow (by omega) (by omega)
 have e : (BitVec.ofInt 32 (x : Int) ||| BitVec.ofInt 32 (y : Int)).toNat = x ||| y := by
  rw [BitVec.toNat_or, BitVec.toNat_ofInt, BitVec.toNat_ofInt]
  congr 1 <;> omega
 show IntKind.u32.wrap (((BitVec.ofInt 32 (x : Int) ||| BitVec.ofInt 32 (y : Int)).toNat : Nat) : Int) = _
 rw [e, IntWalk.u32_in _ ⟨by omega, by omega⟩]

theorem mul_256 (a b : Nat) : (a * 256 + b) * 256 = a * 65536 + b * 256 := by omega

/-- Three bytes in a number, as the walk spells it. -/
theorem or3 (a b c : UInt8) : bits BinOp.or .u32 (bits BinOp.or .u32 (((a.toNat : Nat) : Int) % 4294967296 * 65536 % 4294967296) (((b.toNat : Nat) : Int) % 4294967296 * 256 % 4294967296)) (((c.toNat : Nat) : Int) % 4294967296) = ((a.toNat * 65536 + b.toNat * 256 + c.toNat : Nat) : Int) := by
 have ha := a.toNat_lt
 have hb := b.toNat_lt
 have hc := c.toNat_lt
 rw [show ((a.toNat : Nat) : Int) % 4294967296 * 65536 % 4294967296 = ((a.toNat * 65536 : Nat) : Int) by omega, show ((b.toNat : Nat) : Int) % 4294967296 * 256 % 4294967296 = ((b.toNat * 256 : Nat) : Int) by omega,
  show ((c.toNat : Nat) : Int) % 4294967296 = (c.toNat : Int) by omega, bits_or_nat _ _ (by omega) (by omega)]
 have e1 : a.toNat * 65536 ||| b.toNat * 256 = a.toNat * 65536 + b.toNat * 256 := by
  have := Nat.shiftLeft_add_eq_or_of_lt (b := b.toNat * 256) (i := 16) (by omega) a.toNat
  rw [Nat.shiftLeft_eq, show (2 : Nat) ^ 16 = 65536 from rfl] at this
  exact this.symm
 have e2 : (a.toNat * 65536 + b.toNat * 256) ||| c.toNat = a.toNat * 65536 + b.toNat * 256 + c.toNat := by
  have := Nat.shiftLeft_add_eq_or_of_lt (b := c.toNat) (i := 8) (by omega) (a.toNat * 256 + b.toNat)
  rw [Nat.shiftLeft_eq, show (2 : Nat) ^ 8 = 256 from rfl] at this
  rw [mul_256] at this
  exact this.symm
 rw [e1, bits_or_nat _ _ (by omega) (by omega), e2]

/-! ### bytes in cells, as a string -/
/-- The bytes in the cells off, off + 1 .. of block b. -/
def cellBytes (w : World) (b : Nat) : Nat → Nat → Option (List UInt8)
 | _, 0 => some []
 | off, l + 1 => match w.cell? ⟨b, off, none⟩ with
   | some (.int .u8 n) => (cellBytes w b (off + 1) l).map (UInt8.ofNat n.toNat :: ·)
   | _ => none
def convFb (P : Program) (w : World) (src dst b off l c : Nat) : Result Value := (convert src dst (.slice (some ⟨b, off, none⟩) l c)).run P w
def convK (o : Option (List UInt8)) (w : World) (fb : Result Value) : Result Value := match o with
 | some l => .ok (.string ⟨l.toArray⟩) w
 | none => fb
theorem convK_some (l : List UInt8) (w : World) (fb : Result Value) : convK (some l) w fb = .ok (.string ⟨l.toArray⟩) w := rfl
attribute [go_sem] cellBytes convK_some

theorem cellBytes_get (w : World) (b : Nat) : ∀ (l off : Nat) (bs : List UInt8), cellBytes w b off l = some bs →
 bs.length = l ∧ ∃ xs : List Int, xs.length = l ∧ (∀ i, i < l → w.cell? ⟨b, off + i, none⟩ = some (.int .u8 (xs.getD i 0))) ∧ strOfNums xs = ⟨bs.toArray⟩ := by
 intro l
 induction l with
 | zero => intro off bs h; simp [cellBytes] at h; subst h; exact ⟨rfl, [], rfl, by intro i hi; omega, rfl⟩
 | succ l ih =>
   intro off bs h
   unfold cellBytes at h
   split at h
   · rename_i n hn
     simp only [Option.map_eq_some_iff] at h
     obtain ⟨t, ht, rfl⟩ := h
     obtain ⟨h1, xs, h2, h3, h4⟩ := ih _ _ ht
     refine ⟨by simp [h1], n :: xs, by simp [h2], ?_, ?_⟩
     · intro i hi
       cases i with
       | zero => simpa using hn
       | succ i => have := h3 i (by omega); rw [show off + (i + 1) = off + 1 + i by omega, this]; simp
     · have h5 : (strOfNums xs).data.toList = t := by rw [h4]
       simp only [strOfNums_data] at h5
       simp [strOfNums, h5]
   · cases h

theorem run_convK {P : Program} (src dst e : Nat) (hs : P.underlying src = some (.slice e)) (he : P.underlying e = some (.int .u8)) (hd : P.underlying dst = some .string) (w : World) (b off l c : Nat) :
 (convert src dst (.slice (some ⟨b, off, none⟩) l c)).run P w = convK (cellBytes w b off l) w (convFb P w src dst b off l c) := by
 cases h : cellBytes w b off l with
 | none => rfl
 | some bs =>
   obtain ⟨h1, xs, h2, h3, h4⟩ := cellBytes_get w b l off bs h
   rw [run_convert_bytes_arg w src e hs he b off l c xs h2 h3 dst hd, h4]; rfl

/-! ### a slice that came in -/
/-- The cells of the slice (a, n) hold xs; they lie below block B. -/
def Elems (w : World) (B : Nat) (a : Option Addr) (n : Nat) (xs : List Value) : Prop :=
 xs.length = n ∧ n ≤ maxLen ∧ (n = 0 ∨ ∃ b off, a = some ⟨b, off, none⟩ ∧ b < B ∧ ∀ i, i < n → w.cell? ⟨b, off + i, none⟩ = xs[i]?)

theorem Elems.below {w w' : World} {B : Nat} {a : Option Addr} {n : Nat} {xs : List Value} (h : Elems w B a n xs) (hb : Below B w w') : Elems w' B a n xs := by
 obtain ⟨h1, h2, h3⟩ := h
 refine ⟨h1, h2, ?_⟩
 rcases h3 with h3 | ⟨b, off, ha, hB, hc⟩
 · exact .inl h3
 · exact .inr ⟨b, off, ha, hB, fun i hi => by rw [hb.cell (p := ⟨b, off + i, none⟩) hB]; exact hc i hi⟩

theorem Elems.mono {w : World} {B B' : Nat} {a : Option Addr} {n : Nat} {xs : List Value} (h : Elems w B a n xs) (hB : B ≤ B') : Elems w B' a n xs := by
 obtain ⟨h1, h2, h3⟩ := h
 refine ⟨h1, h2, ?_⟩
 rcases h3 with h3 | ⟨b, off, ha, hb, hc⟩
 · exact .inl h3
 · exact .inr ⟨b, off, ha, by omega, hc⟩

/-- A slice of one cell that the call has just made. -/
theorem elems_one (w : World) (v : Value) (e : TypeId) : Elems (w.alloc (.cells #[v] e)) (w.alloc (.cells #[v] e)).heap.size (some ⟨w.heap.size, 0, none⟩) 1 [v] := by
 refine ⟨rfl, by unfold maxLen; omega, .inr ⟨_, _, rfl, by simp, fun i hi => ?_⟩⟩
 obtain rfl : i = 0 := by omega
 simp

theorem addr_add (b off k : Nat) : (⟨b, off, none⟩ : Addr).add k = ⟨b, off + k, none⟩ := by
 unfold Addr.add; split <;> simp_all

/-- What a walk wants of the slice: where its k-th element lies, and what is there. -/
theorem Elems.open {P : Program} {w : World} {B : Nat} {a : Option Addr} {n : Nat} {xs : List Value} (h : Elems w B a n xs) (T E : Nat)
 (hT : P.underlying T = some (.slice E)) (hs : (P.info? E).map (·.size) = some 1) :
 ∃ b off, (∀ (k cap : Nat) (w' : World), k < n → (Instr.indexAt T (.slice a n cap) (.int .i64 (k : Int))).run P w' = .ok (.pointer (some ⟨b, off + k, none⟩)) w') ∧ (n = 0 ∨ b < B) ∧
   ∀ k, k < n → w.cell? ⟨b, off + k, none⟩ = xs[k]? := by
 obtain ⟨h1, h2, h3⟩ := h
 rcases h3 with h3 | ⟨b, off, rfl, hB, hc⟩
 · exact ⟨0, 0, fun k _ _ hk => by omega, .inl h3, fun k hk => by omega⟩
 · refine ⟨b, off, fun k cap w' hk => ?_, .inr hB, hc⟩
   have he : P.elem T = E := by simp [Program.elem, hT]
   rw [run_indexAt_slice _ _ _ _ _ _ _ (by rw [he]; exact hT), if_pos ⟨by omega, by omega⟩, he]
   obtain ⟨i, hi, hi1⟩ := Option.map_eq_some_iff.1 hs
   simp [sizeOf, typeInfo, hi, hi1, Result.andThen, addr_add]

/-! ### a scope in which the run jumps back to one label -/
theorem Exit.jump_mono {l : Nat} {J J' : Act → World → Prop} {Q : Exit → Act → World → Prop} (h : ∀ a w, J a w → J' a w) : ∀ e a w, Exit.jump l J Q e a w → Exit.jump l J' Q e a w := by
 intro e a w he
 cases e <;> first | exact he | exact ⟨he.1, h _ _ he.2⟩

theorem wp_scope_again {P : Program} {a : Act} {w : World} {Q : Exit → Act → World → Prop} {c rest : Code} (l : Nat) (J : Act → World → Prop) (μ : Act → World → Nat) (hf : findLabel c l = some (.seq .skip rest))
 (pass : ∀ a w, J a w → rest.wp P (Exit.jump l (fun a' w' => J a' w' ∧ μ a' w' < μ a w) Q) a w)
 (first : Hid (∀ a w, J a w → rest.wp P (Exit.jump l J Q) a w) → c.wp P (Exit.jump l J Q) a w) : (Code.scope c).wp P Q a w :=
 wp_scope_jumps l J μ hf (first fun a w hJ => Code.wp_mono (Exit.jump_mono fun _ _ h => h.1) (pass a w hJ)) fun a w hJ => wp_seq (wp_skip (pass a w hJ))

end Go.Proofs.YtnackmnoldkihaaGreatDoor
/-
  Contracts of functions of the library at this translation, laid by the kit; each one application. Their conditions stand in them.
-/
namespace Go.Proofs
open Go.Shelf
def Tryz.lays137_ren : Go.Shelf.Ren := ⟨fun | 137 => 44 | 217 => 60 | 266 => 75 | n => n, fun | 9 => 9 | 5 => 5 | 3 => 3 | n => n, fun | n => n⟩
theorem Tryz.lays137 : Go.Proofs.Lays.n137 Tryz.prog Tryz.lays137_ren := {
 mixed := by kernel_rfl
 f137 := Tryz.func44.trans (congrArg some (by kernel_rfl))
 f217 := Tryz.func60.trans (congrArg some (by kernel_rfl))
 f266 := Tryz.func75.trans (congrArg some (by kernel_rfl))
 t3 := Tryz.underlying3
 a3 := Tryz.isAgg3
 z3 := Tryz.sizeOf3
 v3 := Tryz.zeroValue3
 t5 := Tryz.underlying5
 a5 := Tryz.isAgg5
 z5 := Tryz.sizeOf5
 v5 := Tryz.zeroValue5
 t9 := Tryz.underlying9
 a9 := Tryz.isAgg9
 z9 := Tryz.sizeOf9
 v9 := Tryz.zeroValue9 }
open Go.RowKit in
theorem Tryz.strings_IndexByte (s : ByteArray) (c : Int) (w : World) :
 Calls Tryz.prog 44 #[.string s, .int .u8 c] w fun e w' => e = .returned (.int .i64 (Lib.indexByte s.data.toList c.toNat.toUInt8)) ∧ w' = w := Any.strings_IndexByte Tryz.lays137 s c w
def Tryz.lays171_ren : Go.Shelf.Ren := ⟨fun | 171 => 105 | 243 => 115 | 246 => 123 | 283 => 127 | 284 => 128 | 285 => 129 | 286 => 130 | 129 => 138 | 317 => 137 | 318 => 139 | 319 => 140 | 320 => 141 | 337 => 147 | 338 => 148 | n => n, fun | 3 => 3 | 9 => 9 | 2 => 2 | 4 => 4 | 171 => 150 | 0 => 0 | 53 => 145 | 37 => 76 | 5 => 5 | 173 => 153 | 212 => 161 | 51 => 162 | 20 => 20 | 213 => 163 | 46 => 156 | 232 => 175 | 233 => 176 | n => n, fun | 17 => 1 | 18 => 4 | 19 => 5 | n => n⟩
theorem Tryz.lays171 : Go.Proofs.Lays.n171 Tryz.prog Tryz.lays171_ren := {
 mixed := by kernel_rfl
 f129 := Tryz.func138.trans (congrArg some (by kernel_rfl))
 f171 := Tryz.func105.trans (congrArg some (by kernel_rfl))
 f243 := Tryz.func115.trans (congrArg some (by kernel_rfl))
 f246 := Tryz.func123.trans (congrArg some (by kernel_rfl))
 f283 := Tryz.func127.trans (congrArg some (by kernel_rfl))
 f284 := Tryz.func128.trans (congrArg some (by kernel_rfl))
 f285 := Tryz.func129.trans (congrArg some (by kernel_rfl))
 f286 := Tryz.func130.trans (congrArg some (by kernel_rfl))
 f317 := Tryz.func137.trans (congrArg some (by kernel_rfl))
 f318 := Tryz.func139.trans (congrArg some (by kernel_rfl))
 f319 := Tryz.func140.trans (congrArg some (by kernel_rfl))
 f320 := Tryz.func141.trans (congrArg some (by kernel_rfl))
 f337 := Tryz.func147.trans (congrArg some (by kernel_rfl))
 f338 := Tryz.func148.trans (congrArg some (by kernel_rfl))
 t0 := Tryz.underlying0
 a0 := Tryz.isAgg0
 z0 := Tryz.sizeOf0
 v0 := Tryz.zeroValue0
 t2 := Tryz.underlying2
 a2 := Tryz.isAgg2
 z2 := Tryz.sizeOf2
 v2 := Tryz.zeroValue2
 t3 := Tryz.underlying3
 a3 := Tryz.isAgg3
 z3 := Tryz.sizeOf3
 v3 := Tryz.zeroValue3
 t4 := Tryz.underlying4
 a4 := Tryz.isAgg4
 z4 := Tryz.sizeOf4
 v4 := Tryz.zeroValue4
 t5 := Tryz.underlying5
 a5 := Tryz.isAgg5
 z5 := Tryz.sizeOf5
 v5 := Tryz.zeroValue5
 t9 := Tryz.underlying9
 a9 := Tryz.isAgg9
 z9 := Tryz.sizeOf9
 v9 := Tryz.zeroValue9
 t20 := Tryz.underlying20
 a20 := Tryz.isAgg20
 z20 := Tryz.sizeOf20
 v20 := Tryz.zeroValue20
 t37 := Tryz.underlying76
 a37 := Tryz.isAgg76
 z37 := Tryz.sizeOf76
 v37 := Tryz.zeroValue76
 t46 := Tryz.underlying156
 a46 := Tryz.isAgg156
 z46 := Tryz.sizeOf156
 v46 := Tryz.zeroValue156
 t51 := Tryz.underlying162
 a51 := Tryz.isAgg162
 z51 := Tryz.sizeOf162
 v51 := Tryz.zeroValue162
 t53 := Tryz.underlying145
 a53 := Tryz.isAgg145
 z53 := Tryz.sizeOf145
 v53 := Tryz.zeroValue145
 t171 := Tryz.underlying150
 a171 := Tryz.isAgg150
 z171 := Tryz.sizeOf150
 v171 := Tryz.zeroValue150
 t173 := Tryz.underlying153
 a173 := Tryz.isAgg153
 z173 := Tryz.sizeOf153
 v173 := Tryz.zeroValue153
 t212 := Tryz.underlying161
 a212 := Tryz.isAgg161
 z212 := Tryz.sizeOf161
 v212 := Tryz.zeroValue161
 t213 := Tryz.underlying163
 a213 := Tryz.isAgg163
 z213 := Tryz.sizeOf163
 t232 := Tryz.underlying175
 a232 := Tryz.isAgg175
 z232 := Tryz.sizeOf175
 v232 := Tryz.zeroValue175
 t233 := Tryz.underlying176
 a233 := Tryz.isAgg176
 z233 := Tryz.sizeOf176
 v233 := Tryz.zeroValue176
 g17 := by kernel_rfl
 g18 := by kernel_rfl
 g19 := by kernel_rfl }
open Go.RowKit Go.Sort Go.Lib in
theorem Tryz.strconv_Itoa_small (i : Nat) (hi : i < 100) (w : World) :
 Calls Tryz.prog 105 #[.int .i64 i] w fun e w' => e = .returned (.string ⟨(Lib.decDigits i).toArray⟩) ∧ w' = w := Any.strconv_Itoa_small Tryz.lays171 i hi w
def Tryz.lays144_ren : Go.Shelf.Ren := ⟨fun | 144 => 111 | 143 => 119 | 219 => 125 | 217 => 60 | 225 => 131 | 224 => 132 | 267 => 133 | 266 => 75 | 314 => 142 | n => n, fun | 9 => 9 | 4 => 4 | 3 => 3 | 5 => 5 | 46 => 156 | 146 => 166 | 51 => 162 | n => n, fun | 1 => 0 | n => n⟩
theorem Tryz.lays144 : Go.Proofs.Lays.n144 Tryz.prog Tryz.lays144_ren := {
 mixed := by kernel_rfl
 f143 := Tryz.func119.trans (congrArg some (by kernel_rfl))
 f144 := Tryz.func111.trans (congrArg some (by kernel_rfl))
 f217 := Tryz.func60.trans (congrArg some (by kernel_rfl))
 f219 := Tryz.func125.trans (congrArg some (by kernel_rfl))
 f224 := Tryz.func132.trans (congrArg some (by kernel_rfl))
 f225 := Tryz.func131.trans (congrArg some (by kernel_rfl))
 f266 := Tryz.func75.trans (congrArg some (by kernel_rfl))
 f267 := Tryz.func133.trans (congrArg some (by kernel_rfl))
 f314 := Tryz.func142.trans (congrArg some (by kernel_rfl))
 t3 := Tryz.underlying3
 a3 := Tryz.isAgg3
 z3 := Tryz.sizeOf3
 v3 := Tryz.zeroValue3
 t4 := Tryz.underlying4
 a4 := Tryz.isAgg4
 z4 := Tryz.sizeOf4
 v4 := Tryz.zeroValue4
 t5 := Tryz.underlying5
 a5 := Tryz.isAgg5
 z5 := Tryz.sizeOf5
 v5 := Tryz.zeroValue5
 t9 := Tryz.underlying9
 a9 := Tryz.isAgg9
 z9 := Tryz.sizeOf9
 v9 := Tryz.zeroValue9
 t46 := Tryz.underlying156
 a46 := Tryz.isAgg156
 z46 := Tryz.sizeOf156
 v46 := Tryz.zeroValue156
 t51 := Tryz.underlying162
 a51 := Tryz.isAgg162
 z51 := Tryz.sizeOf162
 v51 := Tryz.zeroValue162
 t146 := Tryz.underlying166
 a146 := Tryz.isAgg166
 z146 := Tryz.sizeOf166
 v146 := Tryz.zeroValue166
 g1 := by kernel_rfl }
open Go.RowKit Go.Lib in
theorem Tryz.strings_Contains (s sub : ByteArray) (m : Int) (w : World) (hs : s.size < 4294967281) (hm : w.cell? ⟨0, 0, none⟩ = some (.int .i64 m)) :
 Calls Tryz.prog 111 #[.string s, .string sub] w fun e w' => e = .returned (.bool (Lib.contains s.data.toList sub.data.toList)) ∧ w' = w := Any.strings_Contains Tryz.lays144 s sub m w hs hm
def Tryz.lays145_ren : Go.Shelf.Ren := ⟨fun | 145 => 112 | 220 => 120 | 219 => 125 | 217 => 60 | 225 => 131 | 224 => 132 | 267 => 133 | 266 => 75 | 314 => 142 | n => n, fun | 9 => 9 | 4 => 4 | 59 => 139 | 3 => 3 | 5 => 5 | 46 => 156 | 146 => 166 | 51 => 162 | n => n, fun | 1 => 0 | n => n⟩
theorem Tryz.lays145 : Go.Proofs.Lays.n145 Tryz.prog Tryz.lays145_ren := {
 mixed := by kernel_rfl
 f145 := Tryz.func112.trans (congrArg some (by kernel_rfl))
 f217 := Tryz.func60.trans (congrArg some (by kernel_rfl))
 f219 := Tryz.func125.trans (congrArg some (by kernel_rfl))
 f220 := Tryz.func120.trans (congrArg some (by kernel_rfl))
 f224 := Tryz.func132.trans (congrArg some (by kernel_rfl))
 f225 := Tryz.func131.trans (congrArg some (by kernel_rfl))
 f266 := Tryz.func75.trans (congrArg some (by kernel_rfl))
 f267 := Tryz.func133.trans (congrArg some (by kernel_rfl))
 f314 := Tryz.func142.trans (congrArg some (by kernel_rfl))
 t3 := Tryz.underlying3
 a3 := Tryz.isAgg3
 z3 := Tryz.sizeOf3
 v3 := Tryz.zeroValue3
 t4 := Tryz.underlying4
 a4 := Tryz.isAgg4
 z4 := Tryz.sizeOf4
 v4 := Tryz.zeroValue4
 t5 := Tryz.underlying5
 a5 := Tryz.isAgg5
 z5 := Tryz.sizeOf5
 v5 := Tryz.zeroValue5
 t9 := Tryz.underlying9
 a9 := Tryz.isAgg9
 z9 := Tryz.sizeOf9
 v9 := Tryz.zeroValue9
 t46 := Tryz.underlying156
 a46 := Tryz.isAgg156
 z46 := Tryz.sizeOf156
 v46 := Tryz.zeroValue156
 t51 := Tryz.underlying162
 a51 := Tryz.isAgg162
 z51 := Tryz.sizeOf162
 v51 := Tryz.zeroValue162
 t59 := Tryz.underlying139
 a59 := Tryz.isAgg139
 z59 := Tryz.sizeOf139
 v59 := Tryz.zeroValue139
 t146 := Tryz.underlying166
 a146 := Tryz.isAgg166
 z146 := Tryz.sizeOf166
 v146 := Tryz.zeroValue166
 g1 := by kernel_rfl }
open Go.RowKit Go.Lib in
theorem Tryz.strings_Cut (s sep : ByteArray) (m : Int) (w : World) (hs : s.size < 4294967281) (hm : w.cell? ⟨0, 0, none⟩ = some (.int .i64 m)) :
 Calls Tryz.prog 112 #[.string s, .string sep] w fun e w' => e = .returned (.tuple #[.string ⟨(Lib.cut s.data.toList sep.data.toList).1.toArray⟩, .string ⟨(Lib.cut s.data.toList sep.data.toList).2.1.toArray⟩, .bool (Lib.cut s.data.toList sep.data.toList).2.2]) ∧ ∃ n, w' = w.drewN n := Any.strings_Cut Tryz.lays145 s sep m w hs hm
def Tryz.lays99_ren : Go.Shelf.Ren := ⟨fun | 99 => 117 | 206 => 124 | n => n, fun | 9 => 9 | 4 => 4 | 3 => 3 | n => n, fun | n => n⟩
theorem Tryz.lays99 : Go.Proofs.Lays.n99 Tryz.prog Tryz.lays99_ren := {
 mixed := by kernel_rfl
 f99 := Tryz.func117.trans (congrArg some (by kernel_rfl))
 f206 := Tryz.func124.trans (congrArg some (by kernel_rfl))
 t3 := Tryz.underlying3
 a3 := Tryz.isAgg3
 z3 := Tryz.sizeOf3
 v3 := Tryz.zeroValue3
 t4 := Tryz.underlying4
 a4 := Tryz.isAgg4
 z4 := Tryz.sizeOf4
 v4 := Tryz.zeroValue4
 t9 := Tryz.underlying9
 a9 := Tryz.isAgg9
 z9 := Tryz.sizeOf9
 v9 := Tryz.zeroValue9 }
open Go.RowKit Go.Lib in
theorem Tryz.strings_HasPrefix (s p : ByteArray) (w : World) :
 Calls Tryz.prog 117 #[.string s, .string p] w fun e w' => e = .returned (.bool (Lib.hasPrefix s.data.toList p.data.toList)) ∧ w' = w := Any.strings_HasPrefix Tryz.lays99 s p w
def Tryz.lays100_ren : Go.Shelf.Ren := ⟨fun | 100 => 110 | 207 => 118 | n => n, fun | 9 => 9 | 4 => 4 | 3 => 3 | n => n, fun | n => n⟩
theorem Tryz.lays100 : Go.Proofs.Lays.n100 Tryz.prog Tryz.lays100_ren := {
 mixed := by kernel_rfl
 f100 := Tryz.func110.trans (congrArg some (by kernel_rfl))
 f207 := Tryz.func118.trans (congrArg some (by kernel_rfl))
 t3 := Tryz.underlying3
 a3 := Tryz.isAgg3
 z3 := Tryz.sizeOf3
 v3 := Tryz.zeroValue3
 t4 := Tryz.underlying4
 a4 := Tryz.isAgg4
 z4 := Tryz.sizeOf4
 v4 := Tryz.zeroValue4
 t9 := Tryz.underlying9
 a9 := Tryz.isAgg9
 z9 := Tryz.sizeOf9
 v9 := Tryz.zeroValue9 }
open Go.RowKit Go.Lib in
theorem Tryz.strings_HasSuffix (s p : ByteArray) (w : World) (hs : s.size ≤ 9223372036854775807) :
 Calls Tryz.prog 110 #[.string s, .string p] w fun e w' => e = .returned (.bool (Lib.hasSuffix s.data.toList p.data.toList)) ∧ w' = w := Any.strings_HasSuffix Tryz.lays100 s p w hs
def Tryz.lays155_ren : Go.Shelf.Ren := ⟨fun | 155 => 121 | 154 => 126 | 138 => 134 | 165 => 135 | 143 => 119 | 166 => 78 | 197 => 136 | 169 => 49 | 195 => 143 | 218 => 144 | 240 => 102 | 241 => 145 | 219 => 125 | 260 => 146 | 276 => 114 | 277 => 149 | 217 => 60 | 225 => 131 | 224 => 132 | 267 => 133 | 266 => 75 | 314 => 142 | n => n, fun | 9 => 9 | 3 => 3 | 4 => 4 | 72 => 82 | 0 => 0 | 76 => 118 | 105 => 158 | 21 => 21 | 5 => 5 | 70 => 80 | 20 => 20 | 37 => 76 | 75 => 117 | 127 => 107 | 164 => 142 | 46 => 156 | 119 => 171 | 139 => 174 | 138 => 173 | 146 => 166 | 51 => 162 | 80 => 39 | n => n, fun | 1 => 0 | 3 => 2 | 4 => 3 | n => n⟩
theorem Tryz.lays155 : Go.Proofs.Lays.n155 Tryz.prog Tryz.lays155_ren := {
 mixed := by kernel_rfl
 f138 := Tryz.func134.trans (congrArg some (by kernel_rfl))
 f143 := Tryz.func119.trans (congrArg some (by kernel_rfl))
 f154 := Tryz.func126.trans (congrArg some (by kernel_rfl))
 f155 := Tryz.func121.trans (congrArg some (by kernel_rfl))
 f165 := Tryz.func135.trans (congrArg some (by kernel_rfl))
 f166 := Tryz.func78.trans (congrArg some (by kernel_rfl))
 f169 := Tryz.func49.trans (congrArg some (by kernel_rfl))
 f195 := Tryz.func143.trans (congrArg some (by kernel_rfl))
 f197 := Tryz.func136.trans (congrArg some (by kernel_rfl))
 f217 := Tryz.func60.trans (congrArg some (by kernel_rfl))
 f218 := Tryz.func144.trans (congrArg some (by kernel_rfl))
 f219 := Tryz.func125.trans (congrArg some (by kernel_rfl))
 f224 := Tryz.func132.trans (congrArg some (by kernel_rfl))
 f225 := Tryz.func131.trans (congrArg some (by kernel_rfl))
 f240 := Tryz.func102.trans (congrArg some (by kernel_rfl))
 f241 := Tryz.func145.trans (congrArg some (by kernel_rfl))
 f260 := Tryz.func146.trans (congrArg some (by kernel_rfl))
 f266 := Tryz.func75.trans (congrArg some (by kernel_rfl))
 f267 := Tryz.func133.trans (congrArg some (by kernel_rfl))
 f276 := Tryz.func114.trans (congrArg some (by kernel_rfl))
 f277 := Tryz.func149.trans (congrArg some (by kernel_rfl))
 f314 := Tryz.func142.trans (congrArg some (by kernel_rfl))
 t0 := Tryz.underlying0
 a0 := Tryz.isAgg0
 z0 := Tryz.sizeOf0
 v0 := Tryz.zeroValue0
 t3 := Tryz.underlying3
 a3 := Tryz.isAgg3
 z3 := Tryz.sizeOf3
 v3 := Tryz.zeroValue3
 t4 := Tryz.underlying4
 a4 := Tryz.isAgg4
 z4 := Tryz.sizeOf4
 v4 := Tryz.zeroValue4
 t5 := Tryz.underlying5
 a5 := Tryz.isAgg5
 z5 := Tryz.sizeOf5
 v5 := Tryz.zeroValue5
 t9 := Tryz.underlying9
 a9 := Tryz.isAgg9
 z9 := Tryz.sizeOf9
 v9 := Tryz.zeroValue9
 t20 := Tryz.underlying20
 a20 := Tryz.isAgg20
 z20 := Tryz.sizeOf20
 v20 := Tryz.zeroValue20
 t21 := Tryz.underlying21
 a21 := Tryz.isAgg21
 z21 := Tryz.sizeOf21
 v21 := Tryz.zeroValue21
 t37 := Tryz.underlying76
 a37 := Tryz.isAgg76
 z37 := Tryz.sizeOf76
 v37 := Tryz.zeroValue76
 t46 := Tryz.underlying156
 a46 := Tryz.isAgg156
 z46 := Tryz.sizeOf156
 v46 := Tryz.zeroValue156
 t51 := Tryz.underlying162
 a51 := Tryz.isAgg162
 z51 := Tryz.sizeOf162
 v51 := Tryz.zeroValue162
 t70 := Tryz.underlying80
 a70 := Tryz.isAgg80
 z70 := Tryz.sizeOf80
 v70 := Tryz.zeroValue80
 t72 := Tryz.underlying82
 a72 := Tryz.isAgg82
 z72 := Tryz.sizeOf82
 v72 := Tryz.zeroValue82
 t75 := Tryz.underlying117
 a75 := Tryz.isAgg117
 z75 := Tryz.sizeOf117
 v75 := Tryz.zeroValue117
 t76 := Tryz.underlying118
 a76 := Tryz.isAgg118
 z76 := Tryz.sizeOf118
 v76 := Tryz.zeroValue118
 t105 := Tryz.underlying158
 a105 := Tryz.isAgg158
 z105 := Tryz.sizeOf158
 v105 := Tryz.zeroValue158
 t119 := Tryz.underlying171
 a119 := Tryz.isAgg171
 z119 := Tryz.sizeOf171
 t127 := Tryz.underlying107
 a127 := Tryz.isAgg107
 z127 := Tryz.sizeOf107
 v127 := Tryz.zeroValue107
 t138 := Tryz.underlying173
 a138 := Tryz.isAgg173
 z138 := Tryz.sizeOf173
 v138 := Tryz.zeroValue173
 t139 := Tryz.underlying174
 a139 := Tryz.isAgg174
 z139 := Tryz.sizeOf174
 v139 := Tryz.zeroValue174
 t146 := Tryz.underlying166
 a146 := Tryz.isAgg166
 z146 := Tryz.sizeOf166
 v146 := Tryz.zeroValue166
 t164 := Tryz.underlying142
 a164 := Tryz.isAgg142
 z164 := Tryz.sizeOf142
 v164 := Tryz.zeroValue142
 g1 := by kernel_rfl
 g3 := by kernel_rfl
 g4 := by kernel_rfl }
theorem Tryz.Builder_Extra_155 : Builder.Extra Tryz.prog Tryz.lays155_ren := {
 sizeBuilder := by kernel_rfl
 liesBuilder := by kernel_rfl
 t5 := Tryz.underlying5
 a5 := Tryz.isAgg5
 z5 := Tryz.sizeOf5
 v5 := Tryz.zeroValue5
 infoByte := by kernel_rfl
 cellsByte := by kernel_rfl
 sizeByte := by kernel_rfl
 neB5 := by decide }
open Go.RowKit Go.Lib in
theorem Tryz.strings_ReplaceAll (s old new : ByteArray) (m : Int) (w : World) (hs : s.size < 4294967281) (hm : w.cell? ⟨0, 0, none⟩ = some (.int .i64 m)) (h1 : 1 ≤ old.size) (hlen : s.size + Lib.countB s old * new.size ≤ 140737488355328) :
 Calls Tryz.prog 121 #[.string s, .string old, .string new] w fun e w' =>
  e = .returned (.string ⟨(Lib.replaceAll s.data.toList old.data.toList new.data.toList).toArray⟩) ∧ Below w.heap.size w w' := Any.strings_ReplaceAll Tryz.lays155 Tryz.Builder_Extra_155 s old new m w hs hm h1 hlen
end Go.Proofs
/-
  Bytes that are alike, or not, as a walk spells it.
-/
namespace Go.Proofs.YtnackmnoldkihaaGreatDoor
theorem eq_byte {c d : UInt8} (h : c = d) : (((c.toNat : Nat) : Int) == ((d.toNat : Nat) : Int)) = true := by rw [h]; simp
theorem ne_byte {c d : UInt8} (h : c ≠ d) : (((c.toNat : Nat) : Int) == ((d.toNat : Nat) : Int)) = false := by
 rw [beq_eq_false_iff_ne]
 intro e
 exact h (UInt8.toNat_inj.1 (by omega))
end Go.Proofs.YtnackmnoldkihaaGreatDoor
/-
  Strings and their bytes: more small laws.
-/
namespace Go.Proofs.YtnackmnoldkihaaGreatDoor
open Go.RowKit

theorem isEmpty_L (s : ByteArray) : s.toList.isEmpty = (L s).isEmpty := by rw [toList_L]
theorem toList_S (l : List UInt8) : (S l).toList = l := by rw [toList_L, L_S]
theorem S_extract (s : ByteArray) (a b : Nat) : s.extract a b = S (((L s).drop a).take (b - a)) := by rw [← L_extract, S_L]
theorem S_extract_from (s : ByteArray) (a : Nat) : s.extract a s.size = S ((L s).drop a) := by
 rw [S_extract, List.take_of_length_le (by simp [L_size])]
theorem S_extract_to (s : ByteArray) (b : Nat) : s.extract 0 b = S ((L s).take b) := by rw [S_extract]; rfl
theorem extract_len (s : ByteArray) (a b : Nat) : (s.extract a b).size ≤ s.size := by rw [S_extract, S_size, List.length_take, List.length_drop, L_size]; omega

/-- Pieces of a string, as a region that draws wants them. -/
theorem run_sl {P : Program} {T : TypeId} (hT : P.underlying T = some .string) (s : ByteArray) (i j : Int) (a b : Nat) (hi : i = a) (hj : j = b) (h1 : a ≤ b) (h2 : b ≤ s.size) (w : World) :
 (Instr.slice T (.string s) (some (.int .i64 i)) (some (.int .i64 j)) none).run P w = .ok (.string (s.extract a b)) w := by
 subst hi hj
 rw [run_slice_string_if w T s .i64 .i64 _ _ hT, if_pos ⟨by omega, by omega⟩, if_pos ⟨by omega, by omega⟩]; rfl
theorem run_sl_from {P : Program} {T : TypeId} (hT : P.underlying T = some .string) (s : ByteArray) (i : Int) (a : Nat) (hi : i = a) (h1 : a ≤ s.size) (w : World) :
 (Instr.slice T (.string s) (some (.int .i64 i)) none none).run P w = .ok (.string (s.extract a s.size)) w := by
 subst hi
 rw [run_slice_string_from_if w T s .i64 _ hT, if_pos ⟨by omega, by omega⟩]; rfl
theorem run_sl_to {P : Program} {T : TypeId} (hT : P.underlying T = some .string) (s : ByteArray) (j : Int) (b : Nat) (hj : j = b) (h2 : b ≤ s.size) (w : World) :
 (Instr.slice T (.string s) none (some (.int .i64 j)) none).run P w = .ok (.string (s.extract 0 b)) w := by
 subst hj
 rw [run_slice_string_to_if w T s .i64 _ hT, if_pos ⟨by omega, by omega⟩]; rfl
theorem wrap_in (x : Int) (h : -9223372036854775808 ≤ x ∧ x ≤ 9223372036854775807) : IntKind.i64.wrap x = x := by
 unfold IntKind.wrap
 simp [IntKind.bits, IntKind.signed]
 omega

end Go.Proofs.YtnackmnoldkihaaGreatDoor
/-
  Bytes of scripts' texts: letters, digits, bytes that may stand without quotes, special signs; the walks.
-/
namespace Go.Proofs.YtnackmnoldkihaaGreatDoor
open Go.RowKit

def lettB (c : UInt8) : Bool := (decide (97 ≤ c.toNat) && decide (c.toNat ≤ 122)) || (decide (65 ≤ c.toNat) && decide (c.toNat ≤ 90))
def digB (c : UInt8) : Bool := decide (48 ≤ c.toNat) && decide (c.toNat ≤ 57)
theorem bool_of {a b : Bool} {p : Prop} (h1 : a = true ↔ p) (h2 : b = true ↔ p) : a = b := by rw [Bool.eq_iff_iff, h1, h2]
theorem lettB_iff (c : UInt8) : lettB c = true ↔ (97 ≤ c.toNat ∧ c.toNat ≤ 122) ∨ (65 ≤ c.toNat ∧ c.toNat ≤ 90) := by simp [lettB]
theorem digB_iff (c : UInt8) : digB c = true ↔ 48 ≤ c.toNat ∧ c.toNat ≤ 57 := by simp [digB]

theorem letter_any (c : UInt8) (w : World) : Calls Tryz.prog 45 #[.int .u8 ((c.toNat : Nat) : Int)] w fun e w' => e = .returned (.bool (lettB c)) ∧ w' = w := by
 have hr := lettB_iff c
 obtain ⟨r, hr0⟩ : ∃ r, r = lettB c := ⟨_, rfl⟩
 rw [← hr0] at hr ⊢
 clear hr0
 obtain ⟨v, hv⟩ : ∃ v, v = c.toNat := ⟨_, rfl⟩
 rw [← hv] at hr ⊢
 have HR := Lib.hid hr
 clear hv hr
 by_cases h1 : 97 ≤ v
 all_goals by_cases h2 : 65 ≤ v
 all_goals by_cases h3 : v ≤ 122
 all_goals
  go_enter Tryz.func45, Tryz.ntmps45
  go_wp2
  all_goals
   go_ret
   exact ⟨ret_bool (by have := HR.out; rw [Bool.eq_iff_iff, this]; simp; try omega), rfl⟩

theorem digit_any (c : UInt8) (w : World) : Calls Tryz.prog 46 #[.int .u8 ((c.toNat : Nat) : Int)] w fun e w' => e = .returned (.bool (digB c)) ∧ w' = w := by
 have hr := digB_iff c
 obtain ⟨r, hr0⟩ : ∃ r, r = digB c := ⟨_, rfl⟩
 rw [← hr0] at hr ⊢
 clear hr0
 obtain ⟨v, hv⟩ : ∃ v, v = c.toNat := ⟨_, rfl⟩
 rw [← hv] at hr ⊢
 have HR := Lib.hid hr
 clear hv hr
 by_cases h1 : 48 ≤ v
 all_goals
  go_enter Tryz.func46, Tryz.ntmps46
  go_wp2
  all_goals
   go_ret
   exact ⟨ret_bool (by have := HR.out; rw [Bool.eq_iff_iff, this]; simp; try omega), rfl⟩

/-- One of a text's bytes. -/
def hasB (l : List UInt8) (c : UInt8) : Bool := l.contains c
theorem hasB_mem {l : List UInt8} {c : UInt8} : hasB l c = true ↔ c ∈ l := by rw [hasB, List.contains_iff_mem]
theorem getD_mem' {l : List UInt8} {i : Nat} (h : i < l.length) : l.getD i 0 ∈ l := by simp [List.getD, h]
theorem take_getD {l : List UInt8} {k : Nat} (h : k < l.length) : l.take (k + 1) = l.take k ++ [l.getD k 0] := by
 rw [List.take_add_one]
 simp [List.getD, List.getElem?_eq_getElem h]

theorem In_any (s : ByteArray) (c : UInt8) (w : World) (hs : s.size ≤ maxLen) :
 Calls Tryz.prog 43 #[.string s, .int .u8 ((c.toNat : Nat) : Int)] w fun e w' => e = .returned (.bool (hasB (L s) c)) ∧ w' = w := by
 unfold maxLen at hs
 go_enter Tryz.func43, Tryz.ntmps43
 go_wp2_with fail
 go_loop [5] (fun i => ∃ k : Nat, k ≤ s.size ∧ i = .int .i64 k ∧ ∀ d ∈ (L s).take k, d ≠ c) (fun i => s.size - (intOf i).toNat)
 case atStart => exact ⟨0, Nat.zero_le _, rfl, by simp⟩
 case round =>
  obtain ⟨k, hk, rfl, hno⟩ := hrel
  have HNO := Lib.hid hno
  clear hno
  by_cases hlt : k < s.size
  · have hidx := run_idx (P := Tryz.prog) Tryz.underlying9 s (k := .i64) (k : Int) k rfl hlt
    have htk := take_getD (show k < (L s).length from hlt)
    have hmem : (L s).getD k 0 ∈ L s := getD_mem' hlt
    obtain ⟨d, hd⟩ : ∃ d, d = (L s).getD k 0 := ⟨_, rfl⟩
    rw [← hd] at hidx htk hmem
    have HTK := Lib.hid htk
    have HM := Lib.hid hmem
    clear htk hd hmem
    by_cases hdc : d = c
    · have e1 := eq_byte hdc
      have HR : Hid (hasB (L s) c = true) := Lib.hid (hasB_mem.2 (by rw [← hdc]; exact HM.out))
      clear hdc
      go_wp2
      go_ret
      exact ⟨ret_bool HR.out.symm, rfl⟩
    · have e1 := ne_byte hdc
      have HDC := Lib.hid hdc
      clear hdc
      go_wp2
      go_round
      case rel => exact ⟨k + 1, by omega, by go_num, by
       rw [HTK.out]
       intro z hz
       rcases List.mem_append.1 hz with hz | hz
       · exact HNO.out z hz
       · simp at hz; subst hz; exact HDC.out⟩
      case measure => simp [intOf]; omega
  · have HR : Hid (hasB (L s) c = false) := Lib.hid (by
     have h := HNO.out
     rw [List.take_of_length_le (by rw [L_size]; omega)] at h
     cases hh : hasB (L s) c with
     | false => rfl
     | true => exact absurd rfl (h c (hasB_mem.1 hh)))
    go_wp2
    go_ret
    exact ⟨ret_bool HR.out.symm, rfl⟩
end Go.Proofs.YtnackmnoldkihaaGreatDoor
namespace Go.Proofs.YtnackmnoldkihaaGreatDoor
open Go.RowKit

theorem bits_xor_u8 (u v : UInt8) {x y : Int} (hx : x = (u.toNat : Nat)) (hy : y = (v.toNat : Nat)) : bits BinOp.xor .u8 x y = (((u ^^^ v).toNat : Nat) : Int) := by
 subst hx hy
 have hu := u.toNat_lt
 have hv := v.toNat_lt
 have hxor : u.toNat ^^^ v.toNat < 2 ^ 8 := Nat.xor_lt_two_pow hu hv
 have e1 : ((u.toNat : Int) % ((2 ^ 8 : Nat) : Int)).toNat = u.toNat := by simp; omega
 have e2 : ((v.toNat : Int) % ((2 ^ 8 : Nat) : Int)).toNat = v.toNat := by simp; omega
 have h : (BitVec.ofInt 8 (u.toNat : Int) ^^^ BitVec.ofInt 8 (v.toNat : Int)).toNat = u.toNat ^^^ v.toNat := by
  rw [BitVec.toNat_xor, BitVec.toNat_ofInt, BitVec.toNat_ofInt, e1, e2]
 show IntKind.u8.wrap (((BitVec.ofInt 8 (u.toNat : Int) ^^^ BitVec.ofInt 8 (v.toNat : Int)).toNat : Nat) : Int) = _
 rw [h, IntWalk.u8_in _ ⟨by omega, by omega⟩, UInt8.toNat_xor]

/-- The bit that a shift of 128 leaves. -/
def bitAt (k : Nat) : UInt8 := UInt8.ofNat (128 / 2 ^ (k % 8))
theorem bitAt_int (k : Nat) : (128 / 2 ^ (k % 8) : Int) = ((bitAt k).toNat : Nat) := by
 have : (128 / 2 ^ (k % 8) : Nat) < 256 := Nat.lt_of_le_of_lt (Nat.div_le_self _ _) (by omega)
 have e : (bitAt k).toNat = 128 / 2 ^ (k % 8) := by simp [bitAt]; omega
 rw [e]; simp

/-- Block b holds the bytes bl from its head on, and they may be written. -/
def BytesAt (w : World) (b : Nat) (bl : List UInt8) : Prop := ∀ j, j < bl.length → w.cell? ⟨b, j, none⟩ = some (.int .u8 ((bl.getD j 0).toNat : Nat)) ∧ w.frozen? ⟨b, j, none⟩ = false

theorem cellBytes_of {w : World} {b : Nat} : ∀ (bl : List UInt8) (off : Nat), (∀ j, j < bl.length → w.cell? ⟨b, off + j, none⟩ = some (.int .u8 ((bl.getD j 0).toNat : Nat))) → cellBytes w b off bl.length = some bl
 | [], _, _ => rfl
 | c :: bl, off, h => by
   have h0 := h 0 (by simp)
   have ih := cellBytes_of bl (off + 1) fun j hj => by
    have := h (j + 1) (by simpa using hj)
    rw [show off + 1 + j = off + (j + 1) by omega, this]; simp
   simp only [Nat.add_zero] at h0
   simp [cellBytes, h0, ih]

theorem BytesAt.bytes {w : World} {b : Nat} {bl : List UInt8} (h : BytesAt w b bl) {n : Nat} (hn : bl.length = n) : cellBytes w b 0 n = some bl := by
 subst hn
 exact cellBytes_of bl 0 fun j hj => by rw [Nat.zero_add]; exact (h j hj).1

theorem BytesAt.below {w w' : World} {b B : Nat} {bl : List UInt8} (h : BytesAt w b bl) (hb : Below B w w') (hB : b < B) : BytesAt w' b bl := fun j hj => by
 rw [hb.cell (p := ⟨b, j, none⟩) hB, hb.frozen (p := ⟨b, j, none⟩) hB]; exact h j hj

theorem BytesAt.set {w : World} {b : Nat} {bl : List UInt8} (h : BytesAt w b bl) {j : Nat} (hj : j < bl.length) {x : Int} {u : UInt8} (hu : x = (u.toNat : Nat)) : BytesAt (w.setCell ⟨b, j, none⟩ (.int .u8 x)) b (bl.set j u) := by
 intro i hi
 have hi' : i < bl.length := by simpa using hi
 refine ⟨?_, by rw [World.frozen?_setCell]; exact (h i hi').2⟩
 by_cases e : j = i
 · subst e
   rw [World.cell?_setCell_same _ _ _ (h j hj).1, hu]
   simp [hj]
 · rw [World.cell?_setCell_other _ _ _ _ (by intro h'; injection h' with _ h'; exact e h'), (h i hi').1]
   simp [List.getElem?_set_ne e]

theorem BytesAt.made (w : World) (e : TypeId) (s : ByteArray) : BytesAt (Lib.bytesWorld w e s) w.heap.size (L s) := by
 intro j hj
 refine ⟨?_, ?_⟩
 · rw [Lib.bytesWorld_cell w e s j hj]; rfl
 · have hc : s.size ≤ (Lib.bytesCells w e s).size := by simp [Lib.bytesCells]
   have hj' : j < s.size := hj
   simp [World.frozen?, Lib.bytesWorld_at_new]
   omega

@[go_sem] theorem Tryz.toBytes (w : World) (s : ByteArray) : (convert 9 76 (.string s)).run Tryz.prog w = .ok (.slice (some ⟨w.heap.size, 0, none⟩) s.size (grownCap w s.size 0 5)) (Lib.bytesWorld w 5 s) :=
 Lib.run_convert_string_bytes w _ _ _ s Tryz.underlying9 Tryz.underlying76 Tryz.underlying5

theorem below_bytesWorld (w : World) (e : TypeId) (s : ByteArray) : Below w.heap.size w (Lib.bytesWorld w e s) :=
 ⟨rfl, rfl, rfl, by rw [Lib.bytesWorld_size]; omega, fun k hk => Lib.bytesWorld_at_old w e s k hk⟩
end Go.Proofs.YtnackmnoldkihaaGreatDoor
