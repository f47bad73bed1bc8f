/-
  Small laws for walks, over any program of the kind: bytes as a string, the elements of a slice that came in, lists.
-/
import Derived.Test.YtkeinpifbiiodaaRows
import Derived.WalkKit
import Derived.WalkSpells
import Derived.WalkLawsBesides
import Derived.Laws.BytesArg
import Derived.Handy
import Derived.Lib.Hide
import Derived.ScopeJumps
namespace Go.Proofs.Ytkeinpifbiiodaa
open Go.RowKit

/-! ### what is returned -/
theorem ret_string {a b : ByteArray} (h : a = b) : Ending.returned (.string a) = .returned (.string b) := by rw [h]
theorem ret_bool {a b : Bool} (h : a = b) : Ending.returned (.bool a) = .returned (.bool b) := by rw [h]
theorem ret_int {k : IntKind} {a b : Int} (h : a = b) : Ending.returned (.int k a) = .returned (.int k b) := by rw [h]

/-! ### strings as lists of bytes -/
/-- The bytes of a string. -/
def L (s : ByteArray) : List UInt8 := s.data.toList
/-- The string of bytes. -/
def S (l : List UInt8) : ByteArray := ⟨l.toArray⟩
theorem L_S (l : List UInt8) : L (S l) = l := rfl
theorem S_L (s : ByteArray) : S (L s) = s := rfl
theorem L_size (s : ByteArray) : (L s).length = s.size := rfl
theorem S_size (l : List UInt8) : (S l).size = l.length := rfl
theorem L_append (s t : ByteArray) : L (s ++ t) = L s ++ L t := by simp [L]
theorem S_append (l m : List UInt8) : S l ++ S m = S (l ++ m) := by
  have : L (S l ++ S m) = l ++ m := by rw [L_append, L_S, L_S]
  rw [← this, S_L]
theorem L_inj {s t : ByteArray} (h : L s = L t) : s = t := by rw [← S_L s, h, S_L]
theorem S_inj {l m : List UInt8} (h : S l = S m) : l = m := by rw [← L_S l, h, L_S]
theorem toList_L (s : ByteArray) : s.toList = L s := ByteArray.toList_eq s

@[simp] theorem size_mk' (a : Array UInt8) : (ByteArray.mk a).size = a.size := rfl
@[simp] theorem L_mk (a : Array UInt8) : L ⟨a⟩ = a.toList := rfl

/-! ### bytes in cells, as a string -/
/-- The bytes in the cells off, off + 1 .. of block b. -/
def cellBytes (w : World) (b : Nat) : Nat → Nat → Option (List UInt8)
  | _, 0 => some []
  | off, l + 1 => match w.cell? ⟨b, off, none⟩ with
    | some (.int .u8 n) => (cellBytes w b (off + 1) l).map (UInt8.ofNat n.toNat :: ·)
    | _ => none
def convFb (P : Program) (w : World) (src dst b off l c : Nat) : Result Value := (convert src dst (.slice (some ⟨b, off, none⟩) l c)).run P w
def convK (o : Option (List UInt8)) (w : World) (fb : Result Value) : Result Value := match o with
  | some l => .ok (.string ⟨l.toArray⟩) w
  | none => fb
theorem convK_some (l : List UInt8) (w : World) (fb : Result Value) : convK (some l) w fb = .ok (.string ⟨l.toArray⟩) w := rfl
attribute [go_sem] cellBytes convK_some

theorem cellBytes_get (w : World) (b : Nat) : ∀ (l off : Nat) (bs : List UInt8), cellBytes w b off l = some bs →
    bs.length = l ∧ ∃ xs : List Int, xs.length = l ∧ (∀ i, i < l → w.cell? ⟨b, off + i, none⟩ = some (.int .u8 (xs.getD i 0))) ∧ strOfNums xs = ⟨bs.toArray⟩ := by
  intro l
  induction l with
  | zero => intro off bs h; simp [cellBytes] at h; subst h; exact ⟨rfl, [], rfl, by intro i hi; omega, rfl⟩
  | succ l ih =>
    intro off bs h
    unfold cellBytes at h
    split at h
    · rename_i n hn
      simp only [Option.map_eq_some_iff] at h
      obtain ⟨t, ht, rfl⟩ := h
      obtain ⟨h1, xs, h2, h3, h4⟩ := ih _ _ ht
      refine ⟨by simp [h1], n :: xs, by simp [h2], ?_, ?_⟩
      · intro i hi
        cases i with
        | zero => simpa using hn
        | succ i => have := h3 i (by omega); rw [show off + (i + 1) = off + 1 + i by omega, this]; simp
      · have h5 : (strOfNums xs).data.toList = t := by rw [h4]
        simp only [strOfNums_data] at h5
        simp [strOfNums, h5]
    · cases h

theorem run_convK {P : Program} (src dst e : Nat) (hs : P.underlying src = some (.slice e)) (he : P.underlying e = some (.int .u8)) (hd : P.underlying dst = some .string) (w : World) (b off l c : Nat) :
    (convert src dst (.slice (some ⟨b, off, none⟩) l c)).run P w = convK (cellBytes w b off l) w (convFb P w src dst b off l c) := by
  cases h : cellBytes w b off l with
  | none => rfl
  | some bs =>
    obtain ⟨h1, xs, h2, h3, h4⟩ := cellBytes_get w b l off bs h
    rw [run_convert_bytes_arg w src e hs he b off l c xs h2 h3 dst hd, h4]; rfl

/-! ### a slice that came in -/
/-- The cells of the slice (a, n) hold xs; they lie below block B. -/
def Elems (w : World) (B : Nat) (a : Option Addr) (n : Nat) (xs : List Value) : Prop :=
  xs.length = n ∧ n ≤ maxLen ∧ (n = 0 ∨ ∃ b off, a = some ⟨b, off, none⟩ ∧ b < B ∧ ∀ i, i < n → w.cell? ⟨b, off + i, none⟩ = xs[i]?)

theorem Elems.below {w w' : World} {B : Nat} {a : Option Addr} {n : Nat} {xs : List Value} (h : Elems w B a n xs) (hb : Below B w w') : Elems w' B a n xs := by
  obtain ⟨h1, h2, h3⟩ := h
  refine ⟨h1, h2, ?_⟩
  rcases h3 with h3 | ⟨b, off, ha, hB, hc⟩
  · exact .inl h3
  · exact .inr ⟨b, off, ha, hB, fun i hi => by rw [hb.cell (p := ⟨b, off + i, none⟩) hB]; exact hc i hi⟩

theorem Elems.mono {w : World} {B B' : Nat} {a : Option Addr} {n : Nat} {xs : List Value} (h : Elems w B a n xs) (hB : B ≤ B') : Elems w B' a n xs := by
  obtain ⟨h1, h2, h3⟩ := h
  refine ⟨h1, h2, ?_⟩
  rcases h3 with h3 | ⟨b, off, ha, hb, hc⟩
  · exact .inl h3
  · exact .inr ⟨b, off, ha, by omega, hc⟩

/-- A slice of one cell that the call has just made. -/
theorem elems_one (w : World) (v : Value) (e : TypeId) : Elems (w.alloc (.cells #[v] e)) (w.alloc (.cells #[v] e)).heap.size (some ⟨w.heap.size, 0, none⟩) 1 [v] := by
  refine ⟨rfl, by unfold maxLen; omega, .inr ⟨_, _, rfl, by simp, fun i hi => ?_⟩⟩
  obtain rfl : i = 0 := by omega
  simp

theorem addr_add (b off k : Nat) : (⟨b, off, none⟩ : Addr).add k = ⟨b, off + k, none⟩ := by
  unfold Addr.add; split <;> simp_all

/-- What a walk wants of the slice: where its k-th element lies, and what is there. -/
theorem Elems.open {P : Program} {w : World} {B : Nat} {a : Option Addr} {n : Nat} {xs : List Value} (h : Elems w B a n xs) (T E : Nat)
    (hT : P.underlying T = some (.slice E)) (hs : (P.info? E).map (·.size) = some 1) :
    ∃ b off, (∀ (k cap : Nat) (w' : World), k < n → (Instr.indexAt T (.slice a n cap) (.int .i64 (k : Int))).run P w' = .ok (.pointer (some ⟨b, off + k, none⟩)) w') ∧ (n = 0 ∨ b < B) ∧
      ∀ k, k < n → w.cell? ⟨b, off + k, none⟩ = xs[k]? := by
  obtain ⟨h1, h2, h3⟩ := h
  rcases h3 with h3 | ⟨b, off, rfl, hB, hc⟩
  · exact ⟨0, 0, fun k _ _ hk => by omega, .inl h3, fun k hk => by omega⟩
  · refine ⟨b, off, fun k cap w' hk => ?_, .inr hB, hc⟩
    have he : P.elem T = E := by simp [Program.elem, hT]
    rw [run_indexAt_slice _ _ _ _ _ _ _ (by rw [he]; exact hT), if_pos ⟨by omega, by omega⟩, he]
    obtain ⟨i, hi, hi1⟩ := Option.map_eq_some_iff.1 hs
    simp [sizeOf, typeInfo, hi, hi1, Result.andThen, addr_add]

/-! ### a scope in which the run jumps back to one label -/
theorem Exit.jump_mono {l : Nat} {J J' : Act → World → Prop} {Q : Exit → Act → World → Prop} (h : ∀ a w, J a w → J' a w) : ∀ e a w, Exit.jump l J Q e a w → Exit.jump l J' Q e a w := by
  intro e a w he
  cases e <;> first | exact he | exact ⟨he.1, h _ _ he.2⟩

theorem wp_scope_again {P : Program} {a : Act} {w : World} {Q : Exit → Act → World → Prop} {c rest : Code} (l : Nat) (J : Act → World → Prop) (μ : Act → World → Nat) (hf : findLabel c l = some (.seq .skip rest))
    (pass : ∀ a w, J a w → rest.wp P (Exit.jump l (fun a' w' => J a' w' ∧ μ a' w' < μ a w) Q) a w)
    (first : Hid (∀ a w, J a w → rest.wp P (Exit.jump l J Q) a w) → c.wp P (Exit.jump l J Q) a w) : (Code.scope c).wp P Q a w :=
  wp_scope_jumps l J μ hf (first fun a w hJ => Code.wp_mono (Exit.jump_mono fun _ _ h => h.1) (pass a w hJ)) fun a w hJ => wp_seq (wp_skip (pass a w hJ))

end Go.Proofs.Ytkeinpifbiiodaa
