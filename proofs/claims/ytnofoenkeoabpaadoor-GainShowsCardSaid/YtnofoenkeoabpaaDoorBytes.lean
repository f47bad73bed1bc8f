/-
  A block of bytes of the call's own, made by []byte(s), written byte by byte, read back by string(b).
-/
import Derived.Test.YtnofoenkeoabpaaDoorLib
import Derived.Lib.ConvBytes
namespace Go.Proofs.YtnofoenkeoabpaaDoor
open Go.RowKit

theorem bits_xor_u8 (u v : UInt8) {x y : Int} (hx : x = (u.toNat : Nat)) (hy : y = (v.toNat : Nat)) : bits BinOp.xor .u8 x y = (((u ^^^ v).toNat : Nat) : Int) := by
  subst hx hy
  have hu := u.toNat_lt
  have hv := v.toNat_lt
  have hxor : u.toNat ^^^ v.toNat < 2 ^ 8 := Nat.xor_lt_two_pow hu hv
  have e1 : ((u.toNat : Int) % ((2 ^ 8 : Nat) : Int)).toNat = u.toNat := by simp; omega
  have e2 : ((v.toNat : Int) % ((2 ^ 8 : Nat) : Int)).toNat = v.toNat := by simp; omega
  have h : (BitVec.ofInt 8 (u.toNat : Int) ^^^ BitVec.ofInt 8 (v.toNat : Int)).toNat = u.toNat ^^^ v.toNat := by
    rw [BitVec.toNat_xor, BitVec.toNat_ofInt, BitVec.toNat_ofInt, e1, e2]
  show IntKind.u8.wrap (((BitVec.ofInt 8 (u.toNat : Int) ^^^ BitVec.ofInt 8 (v.toNat : Int)).toNat : Nat) : Int) = _
  rw [h, IntWalk.u8_in _ ⟨by omega, by omega⟩, UInt8.toNat_xor]

/-- The bit that a shift of 128 leaves. -/
def bitAt (k : Nat) : UInt8 := UInt8.ofNat (128 / 2 ^ (k % 8))
theorem bitAt_int (k : Nat) : (128 / 2 ^ (k % 8) : Int) = ((bitAt k).toNat : Nat) := by
  have : (128 / 2 ^ (k % 8) : Nat) < 256 := Nat.lt_of_le_of_lt (Nat.div_le_self _ _) (by omega)
  have e : (bitAt k).toNat = 128 / 2 ^ (k % 8) := by simp [bitAt]; omega
  rw [e]; simp

/-- Block b holds the bytes bl from its head on, and they may be written. -/
def BytesAt (w : World) (b : Nat) (bl : List UInt8) : Prop := ∀ j, j < bl.length → w.cell? ⟨b, j, none⟩ = some (.int .u8 ((bl.getD j 0).toNat : Nat)) ∧ w.frozen? ⟨b, j, none⟩ = false

theorem cellBytes_of {w : World} {b : Nat} : ∀ (bl : List UInt8) (off : Nat), (∀ j, j < bl.length → w.cell? ⟨b, off + j, none⟩ = some (.int .u8 ((bl.getD j 0).toNat : Nat))) → cellBytes w b off bl.length = some bl
  | [], _, _ => rfl
  | c :: bl, off, h => by
    have h0 := h 0 (by simp)
    have ih := cellBytes_of bl (off + 1) fun j hj => by
      have := h (j + 1) (by simpa using hj)
      rw [show off + 1 + j = off + (j + 1) by omega, this]; simp
    simp only [Nat.add_zero] at h0
    simp [cellBytes, h0, ih]

theorem BytesAt.bytes {w : World} {b : Nat} {bl : List UInt8} (h : BytesAt w b bl) {n : Nat} (hn : bl.length = n) : cellBytes w b 0 n = some bl := by
  subst hn
  exact cellBytes_of bl 0 fun j hj => by rw [Nat.zero_add]; exact (h j hj).1

theorem BytesAt.below {w w' : World} {b B : Nat} {bl : List UInt8} (h : BytesAt w b bl) (hb : Below B w w') (hB : b < B) : BytesAt w' b bl := fun j hj => by
  rw [hb.cell (p := ⟨b, j, none⟩) hB, hb.frozen (p := ⟨b, j, none⟩) hB]; exact h j hj

theorem BytesAt.set {w : World} {b : Nat} {bl : List UInt8} (h : BytesAt w b bl) {j : Nat} (hj : j < bl.length) {x : Int} {u : UInt8} (hu : x = (u.toNat : Nat)) : BytesAt (w.setCell ⟨b, j, none⟩ (.int .u8 x)) b (bl.set j u) := by
  intro i hi
  have hi' : i < bl.length := by simpa using hi
  refine ⟨?_, by rw [World.frozen?_setCell]; exact (h i hi').2⟩
  by_cases e : j = i
  · subst e
    rw [World.cell?_setCell_same _ _ _ (h j hj).1, hu]
    simp [hj]
  · rw [World.cell?_setCell_other _ _ _ _ (by intro h'; injection h' with _ h'; exact e h'), (h i hi').1]
    simp [List.getElem?_set_ne e]

theorem BytesAt.made (w : World) (e : TypeId) (s : ByteArray) : BytesAt (Lib.bytesWorld w e s) w.heap.size (L s) := by
  intro j hj
  refine ⟨?_, ?_⟩
  · rw [Lib.bytesWorld_cell w e s j hj]; rfl
  · have hc : s.size ≤ (Lib.bytesCells w e s).size := by simp [Lib.bytesCells]
    have hj' : j < s.size := hj
    simp [World.frozen?, Lib.bytesWorld_at_new]
    omega

@[go_sem] theorem Tryd.toBytes (w : World) (s : ByteArray) : (convert 9 36 (.string s)).run Tryd.prog w = .ok (.slice (some ⟨w.heap.size, 0, none⟩) s.size (grownCap w s.size 0 5)) (Lib.bytesWorld w 5 s) :=
  Lib.run_convert_string_bytes w _ _ _ s Tryd.underlying9 Tryd.underlying36 Tryd.underlying5

theorem below_bytesWorld (w : World) (e : TypeId) (s : ByteArray) : Below w.heap.size w (Lib.bytesWorld w e s) :=
  ⟨rfl, rfl, rfl, by rw [Lib.bytesWorld_size]; omega, fun k hk => Lib.bytesWorld_at_old w e s k hk⟩
end Go.Proofs.YtnofoenkeoabpaaDoor
