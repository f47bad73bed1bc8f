/-
  The one variable of the library that strings.Index, Split and Replace read.
-/
import Derived.Test.YtnackmnoldkihaaGreatDoorQB1
import Derived.Test.YtnackmnoldkihaaGreatDoorQB2
import Derived.Lib.ConvBytes
import Derived.Lib.IndexAny
import Derived.Laws.AppendOwnNone
import Derived.OneCell
import Derived.OwnWalk
import Derived.Deep.AppendLies
set_option linter.unusedVariables false
set_option linter.unusedSimpArgs false
/-
  Bytes of scripts' texts: letters, digits, bytes that may stand without quotes, special signs; the walks.
-/
namespace Go.Proofs.YtnackmnoldkihaaGreatDoor
open Go.RowKit

def lettB (c : UInt8) : Bool := (decide (97 ≤ c.toNat) && decide (c.toNat ≤ 122)) || (decide (65 ≤ c.toNat) && decide (c.toNat ≤ 90))
def digB (c : UInt8) : Bool := decide (48 ≤ c.toNat) && decide (c.toNat ≤ 57)
theorem bool_of {a b : Bool} {p : Prop} (h1 : a = true ↔ p) (h2 : b = true ↔ p) : a = b := by rw [Bool.eq_iff_iff, h1, h2]
theorem lettB_iff (c : UInt8) : lettB c = true ↔ (97 ≤ c.toNat ∧ c.toNat ≤ 122) ∨ (65 ≤ c.toNat ∧ c.toNat ≤ 90) := by simp [lettB]
theorem digB_iff (c : UInt8) : digB c = true ↔ 48 ≤ c.toNat ∧ c.toNat ≤ 57 := by simp [digB]

theorem letter_any (c : UInt8) (w : World) : Calls Tryz.prog 45 #[.int .u8 ((c.toNat : Nat) : Int)] w fun e w' => e = .returned (.bool (lettB c)) ∧ w' = w := by
  have hr := lettB_iff c
  obtain ⟨r, hr0⟩ : ∃ r, r = lettB c := ⟨_, rfl⟩
  rw [← hr0] at hr ⊢
  clear hr0
  obtain ⟨v, hv⟩ : ∃ v, v = c.toNat := ⟨_, rfl⟩
  rw [← hv] at hr ⊢
  have HR := Lib.hid hr
  clear hv hr
  by_cases h1 : 97 ≤ v
  all_goals by_cases h2 : 65 ≤ v
  all_goals by_cases h3 : v ≤ 122
  all_goals
    go_enter Tryz.func45, Tryz.ntmps45
    go_wp2
    all_goals
      go_ret
      exact ⟨ret_bool (by have := HR.out; rw [Bool.eq_iff_iff, this]; simp; try omega), rfl⟩

theorem digit_any (c : UInt8) (w : World) : Calls Tryz.prog 46 #[.int .u8 ((c.toNat : Nat) : Int)] w fun e w' => e = .returned (.bool (digB c)) ∧ w' = w := by
  have hr := digB_iff c
  obtain ⟨r, hr0⟩ : ∃ r, r = digB c := ⟨_, rfl⟩
  rw [← hr0] at hr ⊢
  clear hr0
  obtain ⟨v, hv⟩ : ∃ v, v = c.toNat := ⟨_, rfl⟩
  rw [← hv] at hr ⊢
  have HR := Lib.hid hr
  clear hv hr
  by_cases h1 : 48 ≤ v
  all_goals
    go_enter Tryz.func46, Tryz.ntmps46
    go_wp2
    all_goals
      go_ret
      exact ⟨ret_bool (by have := HR.out; rw [Bool.eq_iff_iff, this]; simp; try omega), rfl⟩

/-- One of a text's bytes. -/
def hasB (l : List UInt8) (c : UInt8) : Bool := l.contains c
theorem hasB_mem {l : List UInt8} {c : UInt8} : hasB l c = true ↔ c ∈ l := by rw [hasB, List.contains_iff_mem]
theorem getD_mem' {l : List UInt8} {i : Nat} (h : i < l.length) : l.getD i 0 ∈ l := by simp [List.getD, h]
theorem take_getD {l : List UInt8} {k : Nat} (h : k < l.length) : l.take (k + 1) = l.take k ++ [l.getD k 0] := by
  rw [List.take_add_one]
  simp [List.getD, List.getElem?_eq_getElem h]

theorem In_any (s : ByteArray) (c : UInt8) (w : World) (hs : s.size ≤ maxLen) :
    Calls Tryz.prog 43 #[.string s, .int .u8 ((c.toNat : Nat) : Int)] w fun e w' => e = .returned (.bool (hasB (L s) c)) ∧ w' = w := by
  unfold maxLen at hs
  go_enter Tryz.func43, Tryz.ntmps43
  go_wp2_with fail
  go_loop [5] (fun i => ∃ k : Nat, k ≤ s.size ∧ i = .int .i64 k ∧ ∀ d ∈ (L s).take k, d ≠ c) (fun i => s.size - (intOf i).toNat)
  case atStart => exact ⟨0, Nat.zero_le _, rfl, by simp⟩
  case round =>
    obtain ⟨k, hk, rfl, hno⟩ := hrel
    have HNO := Lib.hid hno
    clear hno
    by_cases hlt : k < s.size
    · have hidx := run_idx (P := Tryz.prog) Tryz.underlying9 s (k := .i64) (k : Int) k rfl hlt
      have htk := take_getD (show k < (L s).length from hlt)
      have hmem : (L s).getD k 0 ∈ L s := getD_mem' hlt
      obtain ⟨d, hd⟩ : ∃ d, d = (L s).getD k 0 := ⟨_, rfl⟩
      rw [← hd] at hidx htk hmem
      have HTK := Lib.hid htk
      have HM := Lib.hid hmem
      clear htk hd hmem
      by_cases hdc : d = c
      · have e1 := eq_byte hdc
        have HR : Hid (hasB (L s) c = true) := Lib.hid (hasB_mem.2 (by rw [← hdc]; exact HM.out))
        clear hdc
        go_wp2
        go_ret
        exact ⟨ret_bool HR.out.symm, rfl⟩
      · have e1 := ne_byte hdc
        have HDC := Lib.hid hdc
        clear hdc
        go_wp2
        go_round
        case rel => exact ⟨k + 1, by omega, by go_num, by
          rw [HTK.out]
          intro z hz
          rcases List.mem_append.1 hz with hz | hz
          · exact HNO.out z hz
          · simp at hz; subst hz; exact HDC.out⟩
        case measure => simp [intOf]; omega
    · have HR : Hid (hasB (L s) c = false) := Lib.hid (by
        have h := HNO.out
        rw [List.take_of_length_le (by rw [L_size]; omega)] at h
        cases hh : hasB (L s) c with
        | false => rfl
        | true => exact absurd rfl (h c (hasB_mem.1 hh)))
      go_wp2
      go_ret
      exact ⟨ret_bool HR.out.symm, rfl⟩
end Go.Proofs.YtnackmnoldkihaaGreatDoor
/-
  A block of bytes of the call's own, made by []byte(s), written byte by byte, read back by string(b).
-/
namespace Go.Proofs.YtnackmnoldkihaaGreatDoor
open Go.RowKit

theorem bits_xor_u8 (u v : UInt8) {x y : Int} (hx : x = (u.toNat : Nat)) (hy : y = (v.toNat : Nat)) : bits BinOp.xor .u8 x y = (((u ^^^ v).toNat : Nat) : Int) := by
  subst hx hy
  have hu := u.toNat_lt
  have hv := v.toNat_lt
  have hxor : u.toNat ^^^ v.toNat < 2 ^ 8 := Nat.xor_lt_two_pow hu hv
  have e1 : ((u.toNat : Int) % ((2 ^ 8 : Nat) : Int)).toNat = u.toNat := by simp; omega
  have e2 : ((v.toNat : Int) % ((2 ^ 8 : Nat) : Int)).toNat = v.toNat := by simp; omega
  have h : (BitVec.ofInt 8 (u.toNat : Int) ^^^ BitVec.ofInt 8 (v.toNat : Int)).toNat = u.toNat ^^^ v.toNat := by
    rw [BitVec.toNat_xor, BitVec.toNat_ofInt, BitVec.toNat_ofInt, e1, e2]
  show IntKind.u8.wrap (((BitVec.ofInt 8 (u.toNat : Int) ^^^ BitVec.ofInt 8 (v.toNat : Int)).toNat : Nat) : Int) = _
  rw [h, IntWalk.u8_in _ ⟨by omega, by omega⟩, UInt8.toNat_xor]

/-- The bit that a shift of 128 leaves. -/
def bitAt (k : Nat) : UInt8 := UInt8.ofNat (128 / 2 ^ (k % 8))
theorem bitAt_int (k : Nat) : (128 / 2 ^ (k % 8) : Int) = ((bitAt k).toNat : Nat) := by
  have : (128 / 2 ^ (k % 8) : Nat) < 256 := Nat.lt_of_le_of_lt (Nat.div_le_self _ _) (by omega)
  have e : (bitAt k).toNat = 128 / 2 ^ (k % 8) := by simp [bitAt]; omega
  rw [e]; simp

/-- Block b holds the bytes bl from its head on, and they may be written. -/
def BytesAt (w : World) (b : Nat) (bl : List UInt8) : Prop := ∀ j, j < bl.length → w.cell? ⟨b, j, none⟩ = some (.int .u8 ((bl.getD j 0).toNat : Nat)) ∧ w.frozen? ⟨b, j, none⟩ = false

theorem cellBytes_of {w : World} {b : Nat} : ∀ (bl : List UInt8) (off : Nat), (∀ j, j < bl.length → w.cell? ⟨b, off + j, none⟩ = some (.int .u8 ((bl.getD j 0).toNat : Nat))) → cellBytes w b off bl.length = some bl
  | [], _, _ => rfl
  | c :: bl, off, h => by
    have h0 := h 0 (by simp)
    have ih := cellBytes_of bl (off + 1) fun j hj => by
      have := h (j + 1) (by simpa using hj)
      rw [show off + 1 + j = off + (j + 1) by omega, this]; simp
    simp only [Nat.add_zero] at h0
    simp [cellBytes, h0, ih]

theorem BytesAt.bytes {w : World} {b : Nat} {bl : List UInt8} (h : BytesAt w b bl) {n : Nat} (hn : bl.length = n) : cellBytes w b 0 n = some bl := by
  subst hn
  exact cellBytes_of bl 0 fun j hj => by rw [Nat.zero_add]; exact (h j hj).1

theorem BytesAt.below {w w' : World} {b B : Nat} {bl : List UInt8} (h : BytesAt w b bl) (hb : Below B w w') (hB : b < B) : BytesAt w' b bl := fun j hj => by
  rw [hb.cell (p := ⟨b, j, none⟩) hB, hb.frozen (p := ⟨b, j, none⟩) hB]; exact h j hj

theorem BytesAt.set {w : World} {b : Nat} {bl : List UInt8} (h : BytesAt w b bl) {j : Nat} (hj : j < bl.length) {x : Int} {u : UInt8} (hu : x = (u.toNat : Nat)) : BytesAt (w.setCell ⟨b, j, none⟩ (.int .u8 x)) b (bl.set j u) := by
  intro i hi
  have hi' : i < bl.length := by simpa using hi
  refine ⟨?_, by rw [World.frozen?_setCell]; exact (h i hi').2⟩
  by_cases e : j = i
  · subst e
    rw [World.cell?_setCell_same _ _ _ (h j hj).1, hu]
    simp [hj]
  · rw [World.cell?_setCell_other _ _ _ _ (by intro h'; injection h' with _ h'; exact e h'), (h i hi').1]
    simp [List.getElem?_set_ne e]

theorem BytesAt.made (w : World) (e : TypeId) (s : ByteArray) : BytesAt (Lib.bytesWorld w e s) w.heap.size (L s) := by
  intro j hj
  refine ⟨?_, ?_⟩
  · rw [Lib.bytesWorld_cell w e s j hj]; rfl
  · have hc : s.size ≤ (Lib.bytesCells w e s).size := by simp [Lib.bytesCells]
    have hj' : j < s.size := hj
    simp [World.frozen?, Lib.bytesWorld_at_new]
    omega

@[go_sem] theorem Tryz.toBytes (w : World) (s : ByteArray) : (convert 9 76 (.string s)).run Tryz.prog w = .ok (.slice (some ⟨w.heap.size, 0, none⟩) s.size (grownCap w s.size 0 5)) (Lib.bytesWorld w 5 s) :=
  Lib.run_convert_string_bytes w _ _ _ s Tryz.underlying9 Tryz.underlying76 Tryz.underlying5

theorem below_bytesWorld (w : World) (e : TypeId) (s : ByteArray) : Below w.heap.size w (Lib.bytesWorld w e s) :=
  ⟨rfl, rfl, rfl, by rw [Lib.bytesWorld_size]; omega, fun k hk => Lib.bytesWorld_at_old w e s k hk⟩
end Go.Proofs.YtnackmnoldkihaaGreatDoor
/-
  The walks of Bare, Special, Name: the program's, and the document's.
-/
namespace Go.Proofs.YtnackmnoldkihaaGreatDoor
open Go.RowKit

def bareSigns : ByteArray := ⟨#[95, 46, 47, 44, 43, 45, 58, 64, 42, 63, 91, 93, 33, 94, 61, 126, 37]⟩
def specSigns : ByteArray := ⟨#[64, 42, 35, 63, 45, 36, 33]⟩
def bareB (c : UInt8) : Bool := lettB c || digB c || hasB (L bareSigns) c

theorem index_any (s : ByteArray) (c : UInt8) (w : World) :
    Calls Tryz.prog 44 #[.string s, .int .u8 ((c.toNat : Nat) : Int)] w fun e w' => (∃ n : Int, e = .returned (.int .i64 n) ∧ decide (0 ≤ n) = hasB (L s) c) ∧ w = w' :=
  (Tryz.strings_IndexByte s ((c.toNat : Nat) : Int) w).mono fun e w' ⟨h1, h2⟩ => ⟨⟨_, h1, by
    have := Lib.contains_iff_indexByte (L s) c
    have hc : ((c.toNat : Nat) : Int).toNat.toUInt8 = c := by simp
    rw [hc, hasB, this]
    exact decide_eq_decide.2 Iff.rfl⟩, h2.symm⟩

theorem bare_any (c : UInt8) (w : World) : Calls Tryz.prog 19 #[.int .u8 ((c.toNat : Nat) : Int)] w fun e w' => e = .returned (.bool (bareB c)) ∧ w = w' := by
  have CI := Lib.hid (index_any bareSigns c w)
  have hr : bareB c = true ↔ ((97 ≤ c.toNat ∧ c.toNat ≤ 122) ∨ (65 ≤ c.toNat ∧ c.toNat ≤ 90)) ∨ (48 ≤ c.toNat ∧ c.toNat ≤ 57) ∨ hasB (L bareSigns) c = true := by
    rw [bareB, Bool.or_eq_true, Bool.or_eq_true, lettB_iff, digB_iff, or_assoc]
  obtain ⟨r, hr0⟩ : ∃ r, r = bareB c := ⟨_, rfl⟩
  obtain ⟨q, hq⟩ : ∃ q, q = hasB (L bareSigns) c := ⟨_, rfl⟩
  rw [← hr0] at hr ⊢
  rw [← hq] at hr CI
  clear hr0 hq
  obtain ⟨v, hv⟩ : ∃ v, v = c.toNat := ⟨_, rfl⟩
  rw [← hv] at hr CI ⊢
  have HR := Lib.hid hr
  clear hv hr
  unfold bareSigns at CI
  by_cases h1 : 97 ≤ v ∧ v ≤ 122
  · obtain ⟨h1, h1'⟩ := h1
    go_enter Tryz.func19, Tryz.ntmps19
    go_wp2
    go_ret
    exact ⟨ret_bool (by have := HR.out; rw [Bool.eq_iff_iff, this]; simp; try omega), rfl⟩
  · by_cases h2 : 65 ≤ v ∧ v ≤ 90
    · obtain ⟨h2, h2'⟩ := h2
      clear h1
      go_enter Tryz.func19, Tryz.ntmps19
      go_wp2
      go_ret
      exact ⟨ret_bool (by have := HR.out; rw [Bool.eq_iff_iff, this]; simp; try omega), rfl⟩
    · by_cases h3 : 48 ≤ v ∧ v ≤ 57
      · obtain ⟨h3, h3'⟩ := h3
        clear h1 h2
        go_enter Tryz.func19, Tryz.ntmps19
        go_wp2
        go_ret
        exact ⟨ret_bool (by have := HR.out; rw [Bool.eq_iff_iff, this]; simp; try omega), rfl⟩
      · have HQ : Hid (r = q) := Lib.hid (by have := HR.out; rw [Bool.eq_iff_iff, this]; constructor
                                             · rintro (h | h | h)
                                               · omega
                                               · omega
                                               · exact h
                                             · intro h; exact .inr (.inr h))
        clear HR
        by_cases g1 : 97 ≤ v
        · have g1' : ¬ v ≤ 122 := fun h => h1 ⟨g1, h⟩
          clear h1 h2 h3
          go_enter Tryz.func19, Tryz.ntmps19
          go_wp2_with fail
          refine CI.out.mono ?_
          rintro e w1 ⟨⟨n, rfl, hn⟩, rfl⟩
          have HN := Lib.hid hn
          clear hn
          go_wp2
          go_ret
          exact ⟨ret_bool (by rw [HQ.out, ← HN.out]), rfl⟩
        · by_cases g2 : 65 ≤ v
          · have g2' : ¬ v ≤ 90 := fun h => h2 ⟨g2, h⟩
            clear h1 h2 h3
            go_enter Tryz.func19, Tryz.ntmps19
            go_wp2_with fail
            refine CI.out.mono ?_
            rintro e w1 ⟨⟨n, rfl, hn⟩, rfl⟩
            have HN := Lib.hid hn
            clear hn
            go_wp2
            go_ret
            exact ⟨ret_bool (by rw [HQ.out, ← HN.out]), rfl⟩
          · by_cases g3 : 48 ≤ v
            · have g3' : ¬ v ≤ 57 := fun h => h3 ⟨g3, h⟩
              clear h1 h2 h3
              go_enter Tryz.func19, Tryz.ntmps19
              go_wp2_with fail
              refine CI.out.mono ?_
              rintro e w1 ⟨⟨n, rfl, hn⟩, rfl⟩
              have HN := Lib.hid hn
              clear hn
              go_wp2
              go_ret
              exact ⟨ret_bool (by rw [HQ.out, ← HN.out]), rfl⟩
            · clear h1 h2 h3
              go_enter Tryz.func19, Tryz.ntmps19
              go_wp2_with fail
              refine CI.out.mono ?_
              rintro e w1 ⟨⟨n, rfl, hn⟩, rfl⟩
              have HN := Lib.hid hn
              clear hn
              go_wp2
              go_ret
              exact ⟨ret_bool (by rw [HQ.out, ← HN.out]), rfl⟩

theorem rbare_any (c : UInt8) (w : World) : Calls Tryz.prog 20 #[.int .u8 ((c.toNat : Nat) : Int)] w fun e w' => e = .returned (.bool (bareB c)) ∧ w = w' := by
  have C1 : Hid (∀ W, Calls Tryz.prog 45 #[.int .u8 ((c.toNat : Nat) : Int)] W fun e w' => e = .returned (.bool (lettB c)) ∧ W = w') := Lib.hid fun W => (letter_any c W).mono fun e w' h => ⟨h.1, h.2.symm⟩
  have C2 : Hid (∀ W, Calls Tryz.prog 46 #[.int .u8 ((c.toNat : Nat) : Int)] W fun e w' => e = .returned (.bool (digB c)) ∧ W = w') := Lib.hid fun W => (digit_any c W).mono fun e w' h => ⟨h.1, h.2.symm⟩
  have C3 : Hid (∀ W, Calls Tryz.prog 43 #[.string bareSigns, .int .u8 ((c.toNat : Nat) : Int)] W fun e w' => e = .returned (.bool (hasB (L bareSigns) c)) ∧ W = w') := Lib.hid fun W => (In_any bareSigns c W (by decide)).mono fun e w' h => ⟨h.1, h.2.symm⟩
  unfold bareSigns at C3
  unfold bareB
  obtain ⟨r1, h1⟩ : ∃ r, r = lettB c := ⟨_, rfl⟩
  obtain ⟨r2, h2⟩ : ∃ r, r = digB c := ⟨_, rfl⟩
  obtain ⟨r3, h3⟩ : ∃ r, r = hasB (L bareSigns) c := ⟨_, rfl⟩
  have h3' := h3
  unfold bareSigns at h3'
  rw [← h1] at C1
  rw [← h2] at C2
  rw [← h3'] at C3
  rw [← h1, ← h2, ← h3]
  clear h1 h2 h3 h3'
  cases r1
  · cases r2
    · go_enter Tryz.func20, Tryz.ntmps20
      go_wp2_with fail
      refine (C1.out _).mono ?_
      rintro e w1 ⟨rfl, rfl⟩
      go_wp2_with fail
      refine (C2.out _).mono ?_
      rintro e w1 ⟨rfl, rfl⟩
      go_wp2_with fail
      refine (C3.out _).mono ?_
      rintro e w1 ⟨rfl, rfl⟩
      go_wp2
      go_ret
      exact ⟨by simp, rfl⟩
    · go_enter Tryz.func20, Tryz.ntmps20
      go_wp2_with fail
      refine (C1.out _).mono ?_
      rintro e w1 ⟨rfl, rfl⟩
      go_wp2_with fail
      refine (C2.out _).mono ?_
      rintro e w1 ⟨rfl, rfl⟩
      go_wp2
      go_ret
      exact ⟨by simp, rfl⟩
  · go_enter Tryz.func20, Tryz.ntmps20
    go_wp2_with fail
    refine (C1.out _).mono ?_
    rintro e w1 ⟨rfl, rfl⟩
    go_wp2
    go_ret
    exact ⟨by simp, rfl⟩

/-- A special sign. -/
def specB (l : List UInt8) : Bool := decide (l.length = 1) && hasB (L specSigns) (l.getD 0 0)
theorem special_any (s : ByteArray) (w : World) : Calls Tryz.prog 25 #[.string s] w fun e w' => e = .returned (.bool (specB (L s))) ∧ w = w' := by
  by_cases h : s.size = 1
  · have i0 := run_idx (P := Tryz.prog) (k := .i64) Tryz.underlying9 s (0 : Int) 0 rfl (by omega)
    have CI := Lib.hid (index_any specSigns ((L s).getD 0 0) w)
    obtain ⟨c, hc⟩ : ∃ c, c = (L s).getD 0 0 := ⟨_, rfl⟩
    have HR : Hid (specB (L s) = hasB (L specSigns) c) := Lib.hid (by rw [specB, ← hc, decide_eq_true (show (L s).length = 1 from h), Bool.true_and])
    rw [← hc] at i0 CI
    have h1 : ((s.size : Int) == 1) = true := by rw [h]; rfl
    unfold specSigns at CI
    clear hc h
    go_enter Tryz.func25, Tryz.ntmps25
    go_wp2_with fail
    refine CI.out.mono ?_
    rintro e w1 ⟨⟨n, rfl, hn⟩, rfl⟩
    have HN := Lib.hid hn
    clear hn
    go_wp2
    go_ret
    exact ⟨ret_bool (by rw [HR.out]; exact HN.out), rfl⟩
  · have h1 : ((s.size : Int) == 1) = false := by rw [beq_eq_false_iff_ne]; omega
    have HR : Hid (specB (L s) = false) := Lib.hid (by rw [specB, decide_eq_false (show ¬ (L s).length = 1 from h), Bool.false_and])
    clear h
    go_enter Tryz.func25, Tryz.ntmps25
    go_wp2
    go_ret
    exact ⟨ret_bool HR.out.symm, rfl⟩
theorem rspecial_any (s : ByteArray) (w : World) : Calls Tryz.prog 26 #[.string s] w fun e w' => e = .returned (.bool (specB (L s))) ∧ w = w' := by
  by_cases h : s.size = 1
  · have i0 := run_idx (P := Tryz.prog) (k := .i64) Tryz.underlying9 s (0 : Int) 0 rfl (by omega)
    have CI : Hid (∀ W, Calls Tryz.prog 43 #[.string specSigns, .int .u8 ((((L s).getD 0 0).toNat : Nat) : Int)] W fun e w' => e = .returned (.bool (hasB (L specSigns) ((L s).getD 0 0))) ∧ W = w') := Lib.hid fun W => (In_any specSigns _ W (by decide)).mono fun e w' h => ⟨h.1, h.2.symm⟩
    obtain ⟨c, hc⟩ : ∃ c, c = (L s).getD 0 0 := ⟨_, rfl⟩
    have HR : Hid (specB (L s) = hasB (L specSigns) c) := Lib.hid (by rw [specB, ← hc, decide_eq_true (show (L s).length = 1 from h), Bool.true_and])
    rw [← hc] at i0 CI
    have h1 : ((s.size : Int) == 1) = true := by rw [h]; rfl
    obtain ⟨r, hr⟩ : ∃ r, r = hasB (L specSigns) c := ⟨_, rfl⟩
    rw [← hr] at CI HR
    unfold specSigns at CI
    clear hc h hr
    go_enter Tryz.func26, Tryz.ntmps26
    go_wp2_with fail
    refine (CI.out _).mono ?_
    rintro e w1 ⟨rfl, rfl⟩
    go_wp2
    go_ret
    exact ⟨ret_bool HR.out.symm, rfl⟩
  · have h1 : ((s.size : Int) == 1) = false := by rw [beq_eq_false_iff_ne]; omega
    have HR : Hid (specB (L s) = false) := Lib.hid (by rw [specB, decide_eq_false (show ¬ (L s).length = 1 from h), Bool.false_and])
    clear h
    go_enter Tryz.func26, Tryz.ntmps26
    go_wp2
    go_ret
    exact ⟨ret_bool HR.out.symm, rfl⟩
end Go.Proofs.YtnackmnoldkihaaGreatDoor
/-
  The walks of Name and Number: the program's, and the document's.
-/
namespace Go.Proofs.YtnackmnoldkihaaGreatDoor
open Go.RowKit

theorem u8lt (c : UInt8) : c.toNat < 256 := c.toNat_lt
/-- A byte of a name: the first one, or another. -/
def nmB (first : Bool) (c : UInt8) : Bool := lettB c || c == 95 || (!first && digB c)
def nameL (l : List UInt8) : Bool := !l.isEmpty && (List.range l.length).all fun i => nmB (i == 0) (l.getD i 0)
def nmTo (l : List UInt8) (k : Nat) : Prop := ∀ i, i < k → nmB (i == 0) (l.getD i 0) = true
theorem nmTo_succ {l : List UInt8} {k : Nat} (h : nmTo l k) (hc : nmB (k == 0) (l.getD k 0) = true) : nmTo l (k + 1) := fun i hi => by
  by_cases h1 : i < k
  · exact h i h1
  · obtain rfl : i = k := by omega
    exact hc
theorem name_no {l : List UInt8} {k : Nat} (hk : k < l.length) (hc : nmB (k == 0) (l.getD k 0) = false) : nameL l = false := by
  rw [nameL, Bool.and_eq_false_iff]
  right
  rw [List.all_eq_false]
  exact ⟨k, List.mem_range.2 hk, by rw [hc]; decide⟩
theorem name_yes {l : List UInt8} (h : nmTo l l.length) : nameL l = !l.isEmpty := by
  rw [nameL, List.all_eq_true.2 (fun i hi => h i (List.mem_range.1 hi)), Bool.and_true]

theorem rname_any (s : ByteArray) (w : World) (hs : s.size ≤ maxLen) :
    Calls Tryz.prog 22 #[.string s] w fun e w' => e = .returned (.bool (nameL (L s))) ∧ w = w' := by
  unfold maxLen at hs
  have C1 : Hid (∀ W (c : UInt8), Calls Tryz.prog 45 #[.int .u8 ((c.toNat : Nat) : Int)] W fun e w' => e = .returned (.bool (lettB c)) ∧ W = w') := Lib.hid fun W c => (letter_any c W).mono fun e w' h => ⟨h.1, h.2.symm⟩
  have C2 : Hid (∀ W (c : UInt8), Calls Tryz.prog 46 #[.int .u8 ((c.toNat : Nat) : Int)] W fun e w' => e = .returned (.bool (digB c)) ∧ W = w') := Lib.hid fun W c => (digit_any c W).mono fun e w' h => ⟨h.1, h.2.symm⟩
  go_enter Tryz.func22, Tryz.ntmps22
  go_wp2_with fail
  go_loop [3] (fun i => ∃ k : Nat, k ≤ s.size ∧ i = .int .i64 k ∧ nmTo (L s) k) (fun i => s.size - (intOf i).toNat)
  case atStart => exact ⟨0, Nat.zero_le _, rfl, fun i hi => by omega⟩
  case round =>
    obtain ⟨k, hk, rfl, hnm⟩ := hrel
    have HNM := Lib.hid hnm
    clear hnm
    by_cases hlt : k < s.size
    · have hidx := run_idx (P := Tryz.prog) Tryz.underlying9 s (k := .i64) (k : Int) k rfl hlt
      obtain ⟨r, hr⟩ : ∃ r, r = nmB (k == 0) ((L s).getD k 0) := ⟨_, rfl⟩
      have HRR := Lib.hid hr
      obtain ⟨c, hc⟩ : ∃ c, c = (L s).getD k 0 := ⟨_, rfl⟩
      rw [← hc] at hidx hr
      have D1 := Lib.hid (fun W => C1.out W c)
      have D2 := Lib.hid (fun W => C2.out W c)
      unfold nmB at hr
      obtain ⟨r1, h1⟩ : ∃ r, r = lettB c := ⟨_, rfl⟩
      obtain ⟨r2, h2⟩ : ∃ r, r = digB c := ⟨_, rfl⟩
      rw [← h1] at D1 hr
      rw [← h2] at D2 hr
      clear hc h1 h2
      cases r1
      · by_cases h95 : c = 95
        · have e1 : (((c.toNat : Nat) : Int) != 95) = false := by rw [h95]; rfl
          have HR : Hid (r = true) := Lib.hid (by rw [hr, h95]; simp)
          clear hr h95
          go_wp2_with fail
          refine (D1.out _).mono ?_
          rintro e w1 ⟨rfl, rfl⟩
          go_wp2
          go_round
          case rel => exact ⟨k + 1, by omega, by go_num, nmTo_succ HNM.out (HRR.out.symm.trans HR.out)⟩
          case measure => simp [intOf]; omega
        · have e1 : (((c.toNat : Nat) : Int) != 95) = true := by
            rw [bne_iff_ne]
            intro h
            exact h95 (UInt8.toNat_inj.1 (by have : ((95 : UInt8).toNat : Int) = 95 := rfl; omega))
          have h95' : (c == 95) = false := by simpa using h95
          rw [h95'] at hr
          by_cases hk0 : k = 0
          · have HR : Hid (r = false) := Lib.hid (by rw [hr, hk0]; rfl)
            have hkg : decide ((0 : Int) < (k : Int)) = false := by simp [hk0]
            have hkg2 : decide (0 < k) = false := by simp [hk0]
            clear hr h95 h95' hk0
            go_wp2_with fail
            refine (D1.out _).mono ?_
            rintro e w1 ⟨rfl, rfl⟩
            go_wp2
            go_ret
            exact ⟨ret_bool (name_no (l := L s) hlt (HRR.out.symm.trans HR.out)).symm, rfl⟩
          · have hkg : decide ((0 : Int) < (k : Int)) = true := by simp; omega
            have hkg2 : decide (0 < k) = true := by simp; omega
            have hk0' : (k == 0) = false := by simpa using hk0
            rw [hk0'] at hr
            cases r2
            · have HR : Hid (r = false) := Lib.hid (by rw [hr]; rfl)
              clear hr h95 h95' hk0 hk0'
              go_wp2_with fail
              refine (D1.out _).mono ?_
              rintro e w1 ⟨rfl, rfl⟩
              go_wp2_with fail
              refine (D2.out _).mono ?_
              rintro e w1 ⟨rfl, rfl⟩
              go_wp2
              go_ret
              exact ⟨ret_bool (name_no (l := L s) hlt (HRR.out.symm.trans HR.out)).symm, rfl⟩
            · have HR : Hid (r = true) := Lib.hid (by rw [hr]; rfl)
              clear hr h95 h95' hk0 hk0'
              go_wp2_with fail
              refine (D1.out _).mono ?_
              rintro e w1 ⟨rfl, rfl⟩
              go_wp2_with fail
              refine (D2.out _).mono ?_
              rintro e w1 ⟨rfl, rfl⟩
              go_wp2
              go_round
              case rel => exact ⟨k + 1, by omega, by go_num, nmTo_succ HNM.out (HRR.out.symm.trans HR.out)⟩
              case measure => simp [intOf]; omega
      · have HR : Hid (r = true) := Lib.hid (by rw [hr]; rfl)
        clear hr
        go_wp2_with fail
        refine (D1.out _).mono ?_
        rintro e w1 ⟨rfl, rfl⟩
        go_wp2
        go_round
        case rel => exact ⟨k + 1, by omega, by go_num, nmTo_succ HNM.out (HRR.out.symm.trans HR.out)⟩
        case measure => simp [intOf]; omega
    · have HR : Hid (nameL (L s) = !(L s).isEmpty) := Lib.hid (name_yes (by rw [L_size]; exact fun i hi => HNM.out i (by omega)))
      cases he : (L s).isEmpty with
      | true =>
        have e1 : s.toList.isEmpty = true := by rw [isEmpty_L]; exact he
        rw [he] at HR
        clear he
        go_wp2
        go_ret
        exact ⟨ret_bool HR.out.symm, rfl⟩
      | false =>
        have e1 : s.toList.isEmpty = false := by rw [isEmpty_L]; exact he
        rw [he] at HR
        clear he
        go_wp2
        go_ret
        exact ⟨ret_bool HR.out.symm, rfl⟩
end Go.Proofs.YtnackmnoldkihaaGreatDoor
/-
  The walk of the program's Name.
-/
namespace Go.Proofs.YtnackmnoldkihaaGreatDoor
open Go.RowKit

theorem nmB_iff (first : Bool) (c : UInt8) : nmB first c = true ↔ ((97 ≤ c.toNat ∧ c.toNat ≤ 122) ∨ (65 ≤ c.toNat ∧ c.toNat ≤ 90)) ∨ c.toNat = 95 ∨ (first = false ∧ 48 ≤ c.toNat ∧ c.toNat ≤ 57) := by
  have e : (c == 95) = true ↔ c.toNat = 95 := by
    rw [beq_iff_eq]
    exact ⟨fun h => by rw [h]; rfl, fun h => UInt8.toNat_inj.1 h⟩
  rw [nmB, Bool.or_eq_true, Bool.or_eq_true, lettB_iff, e, Bool.and_eq_true, digB_iff, or_assoc]
  cases first <;> simp

set_option maxHeartbeats 1000000 in
theorem name_any (s : ByteArray) (w : World) (hs : s.size ≤ maxLen) :
    Calls Tryz.prog 21 #[.string s] w fun e w' => e = .returned (.bool (nameL (L s))) ∧ Below w.heap.size w w' := by
  unfold maxLen at hs
  have HM := Lib.hid (BytesAt.made w 5 s)
  have HB := Lib.hid (below_bytesWorld w 5 s)
  obtain ⟨wb, hwb⟩ : ∃ wb, wb = Lib.bytesWorld w 5 s := ⟨_, rfl⟩
  rw [← hwb] at HM HB
  have HWB := Lib.hid hwb
  clear hwb
  go_enter Tryz.func21, Tryz.ntmps21
  go_wp2_with fail
  rw [← HWB.out]
  go_loopw [8] (fun i wr => ∃ k : Nat, k ≤ s.size ∧ i = .int .i64 k ∧ nmTo (L s) k ∧ wr = wb) (fun i _ => s.size - (intOf i).toNat)
  case atStart => exact ⟨0, Nat.zero_le _, rfl, fun i hi => by omega, rfl⟩
  case round =>
    obtain ⟨k, hk, rfl, hnm, rfl⟩ := hrel
    have HNM := Lib.hid hnm
    clear hnm
    by_cases hlt : k < s.size
    · have hcell := (HM.out k hlt).1
      obtain ⟨r, hr⟩ : ∃ r, r = nmB (k == 0) ((L s).getD k 0) := ⟨_, rfl⟩
      have HRR := Lib.hid hr
      obtain ⟨c, hc⟩ : ∃ c, c = (L s).getD k 0 := ⟨_, rfl⟩
      rw [← hc] at hcell hr
      have hiff := nmB_iff (k == 0) c
      rw [← hr] at hiff
      obtain ⟨v, hv⟩ : ∃ v, v = c.toNat := ⟨_, rfl⟩
      rw [← hv] at hcell hiff
      clear hc hr hv
      obtain ⟨z, hz⟩ : ∃ z, z = (k == 0) := ⟨_, rfl⟩
      rw [← hz] at hiff
      have hcls : v < 48 ∨ (48 ≤ v ∧ v ≤ 57) ∨ (58 ≤ v ∧ v ≤ 64) ∨ (65 ≤ v ∧ v ≤ 90) ∨ (91 ≤ v ∧ v ≤ 94) ∨ v = 95 ∨ v = 96 ∨ (97 ≤ v ∧ v ≤ 122) ∨ 123 ≤ v := by omega
      by_cases hk0 : k = 0
      · obtain rfl : z = true := by rw [hz, hk0]; rfl
        have hkg : ((k : Int) == 0) = true := by rw [hk0]; rfl
        have hit : r = true ↔ ((97 ≤ v ∧ v ≤ 122) ∨ (65 ≤ v ∧ v ≤ 90)) ∨ v = 95 := by rw [hiff]; simp
        clear hz hk0 hiff
        rcases hcls with h | ⟨h, h'⟩ | ⟨h, h'⟩ | ⟨h, h'⟩ | ⟨h, h'⟩ | h | h | ⟨h, h'⟩ | h
        all_goals
          first
            | (have e95 : (((v : Nat) : Int) != 95) = true := by rw [bne_iff_ne]; omega)
            | (have e95 : (((v : Nat) : Int) != 95) = false := by rw [bne_eq_false_iff_eq]; omega)
          first
            | (have HR : Hid (r = true) := Lib.hid (hit.2 (by omega)))
            | (have HR : Hid (r = false) := Lib.hid ((Bool.eq_false_or_eq_true r).elim (fun e => absurd (hit.1 e) (by omega)) id))
          clear hit
          go_wp2
          first
            | (go_ret
               exact ⟨ret_bool (name_no (l := L s) hlt (HRR.out.symm.trans HR.out)).symm, HB.out⟩)
            | (go_roundw
               case rel => exact ⟨k + 1, by omega, by go_num, nmTo_succ HNM.out (HRR.out.symm.trans HR.out), by first | trivial | rfl⟩
               case measure => simp [intOf]; omega)
      · obtain rfl : z = false := by rw [hz]; simpa using hk0
        have hkg : ((k : Int) == 0) = false := by rw [beq_eq_false_iff_ne]; omega
        have hit : r = true ↔ ((97 ≤ v ∧ v ≤ 122) ∨ (65 ≤ v ∧ v ≤ 90)) ∨ v = 95 ∨ (48 ≤ v ∧ v ≤ 57) := by rw [hiff]; simp
        clear hz hk0 hiff
        rcases hcls with h | ⟨h, h'⟩ | ⟨h, h'⟩ | ⟨h, h'⟩ | ⟨h, h'⟩ | h | h | ⟨h, h'⟩ | h
        all_goals
          first
            | (have e95 : (((v : Nat) : Int) != 95) = true := by rw [bne_iff_ne]; omega)
            | (have e95 : (((v : Nat) : Int) != 95) = false := by rw [bne_eq_false_iff_eq]; omega)
          first
            | (have HR : Hid (r = true) := Lib.hid (hit.2 (by omega)))
            | (have HR : Hid (r = false) := Lib.hid ((Bool.eq_false_or_eq_true r).elim (fun e => absurd (hit.1 e) (by omega)) id))
          clear hit
          go_wp2
          first
            | (go_ret
               exact ⟨ret_bool (name_no (l := L s) hlt (HRR.out.symm.trans HR.out)).symm, HB.out⟩)
            | (go_roundw
               case rel => exact ⟨k + 1, by omega, by go_num, nmTo_succ HNM.out (HRR.out.symm.trans HR.out), by first | trivial | rfl⟩
               case measure => simp [intOf]; omega)
    · have HR : Hid (nameL (L s) = !(L s).isEmpty) := Lib.hid (name_yes (by rw [L_size]; exact fun i hi => HNM.out i (by omega)))
      cases he : (L s).isEmpty with
      | true =>
        have e1 : s.toList.isEmpty = true := by rw [isEmpty_L]; exact he
        rw [he] at HR
        clear he
        go_wp2
        go_ret
        exact ⟨ret_bool HR.out.symm, HB.out⟩
      | false =>
        have e1 : s.toList.isEmpty = false := by rw [isEmpty_L]; exact he
        rw [he] at HR
        clear he
        go_wp2
        go_ret
        exact ⟨ret_bool HR.out.symm, HB.out⟩
end Go.Proofs.YtnackmnoldkihaaGreatDoor
/-
  The walks of Number: the program's, and the document's.
-/
namespace Go.Proofs.YtnackmnoldkihaaGreatDoor
open Go.RowKit

def digsTo (l : List UInt8) (k : Nat) : Prop := ∀ i, i < k → digB (l.getD i 0) = true
theorem digsTo_succ {l : List UInt8} {k : Nat} (h : digsTo l k) (hc : digB (l.getD k 0) = true) : digsTo l (k + 1) := fun i hi => by
  by_cases h1 : i < k
  · exact h i h1
  · obtain rfl : i = k := by omega
    exact hc
def digsB (l : List UInt8) : Bool := (List.range l.length).all fun i => digB (l.getD i 0)
theorem digs_no {l : List UInt8} {k : Nat} (hk : k < l.length) (hc : digB (l.getD k 0) = false) : digsB l = false := by
  rw [digsB, List.all_eq_false]
  exact ⟨k, List.mem_range.2 hk, by rw [hc]; decide⟩
theorem digs_yes {l : List UInt8} (h : digsTo l l.length) : digsB l = true := List.all_eq_true.2 (fun i hi => h i (List.mem_range.1 hi))
/-- A positional parameter's number. -/
def numB (l : List UInt8) : Bool := digsB l && (l == [48] || (!l.isEmpty && (l.getD 0 0 != 48 && decide (l.length ≤ 4))))
theorem num_no {l : List UInt8} {k : Nat} (hk : k < l.length) (hc : digB (l.getD k 0) = false) : numB l = false := by rw [numB, digs_no hk hc, Bool.false_and]
theorem num_yes {l : List UInt8} (h : digsTo l l.length) : numB l = (l == [48] || (!l.isEmpty && (l.getD 0 0 != 48 && decide (l.length ≤ 4)))) := by rw [numB, digs_yes h, Bool.true_and]

set_option maxHeartbeats 1000000 in
theorem number_any (s : ByteArray) (w : World) (hs : s.size ≤ maxLen) :
    Calls Tryz.prog 23 #[.string s] w fun e w' => e = .returned (.bool (numB (L s))) ∧ Below w.heap.size w w' := by
  unfold maxLen at hs
  have HM := Lib.hid (BytesAt.made w 5 s)
  have HB := Lib.hid (below_bytesWorld w 5 s)
  obtain ⟨wb, hwb⟩ : ∃ wb, wb = Lib.bytesWorld w 5 s := ⟨_, rfl⟩
  rw [← hwb] at HM HB
  have HWB := Lib.hid hwb
  clear hwb
  go_enter Tryz.func23, Tryz.ntmps23
  go_wp2_with fail
  rw [← HWB.out]
  go_loopw [8] (fun i wr => ∃ k : Nat, k ≤ s.size ∧ i = .int .i64 k ∧ digsTo (L s) k ∧ wr = wb) (fun i _ => s.size - (intOf i).toNat)
  case atStart => exact ⟨0, Nat.zero_le _, rfl, fun i hi => by omega, rfl⟩
  case round =>
    obtain ⟨k, hk, rfl, hnm, rfl⟩ := hrel
    have HNM := Lib.hid hnm
    clear hnm
    by_cases hlt : k < s.size
    · have hcell := (HM.out k hlt).1
      obtain ⟨r, hr⟩ : ∃ r, r = digB ((L s).getD k 0) := ⟨_, rfl⟩
      have HRR := Lib.hid hr
      obtain ⟨c, hc⟩ : ∃ c, c = (L s).getD k 0 := ⟨_, rfl⟩
      rw [← hc] at hcell hr
      have hit := digB_iff c
      rw [← hr] at hit
      obtain ⟨v, hv⟩ : ∃ v, v = c.toNat := ⟨_, rfl⟩
      rw [← hv] at hcell hit
      clear hc hr hv
      have hcls : v < 48 ∨ (48 ≤ v ∧ v ≤ 57) ∨ 58 ≤ v := by omega
      rcases hcls with h | ⟨h, h'⟩ | h
      all_goals
        first
          | (have HR : Hid (r = true) := Lib.hid (hit.2 (by omega)))
          | (have HR : Hid (r = false) := Lib.hid ((Bool.eq_false_or_eq_true r).elim (fun e => absurd (hit.1 e) (by omega)) id))
        clear hit
        go_wp2
        first
          | (go_ret
             exact ⟨ret_bool (num_no (l := L s) hlt (HRR.out.symm.trans HR.out)).symm, HB.out⟩)
          | (go_roundw
             case rel => exact ⟨k + 1, by omega, by go_num, digsTo_succ HNM.out (HRR.out.symm.trans HR.out), by first | trivial | rfl⟩
             case measure => simp [intOf]; omega)
    · have HR := Lib.hid (num_yes (l := L s) (by rw [L_size]; exact fun i hi => HNM.out i (by omega)))
      obtain ⟨b0, h0⟩ : ∃ b, b = (L s == [48]) := ⟨_, rfl⟩
      have e0 : (s.toList == [48]) = b0 := by rw [h0, toList_L]
      rw [← h0] at HR
      obtain ⟨b1, h1⟩ : ∃ b, b = (L s).isEmpty := ⟨_, rfl⟩
      have e1 : s.toList.isEmpty = b1 := by rw [h1, toList_L]
      rw [← h1] at HR
      clear h0
      cases b0
      · cases b1
        · have hpos : 0 < s.size := by
            rw [← L_size]
            exact List.length_pos_iff.2 fun h => by rw [h] at h1; cases h1
          have i0 := run_idx (P := Tryz.prog) (k := .i64) Tryz.underlying9 s (0 : Int) 0 rfl hpos
          obtain ⟨c, hc⟩ : ∃ c, c = (L s).getD 0 0 := ⟨_, rfl⟩
          rw [← hc] at HR i0
          obtain ⟨b2, h2⟩ : ∃ b, b = (c != 48) := ⟨_, rfl⟩
          rw [← h2] at HR
          have e2 : (((c.toNat : Nat) : Int) != 48) = b2 := by
            rw [h2, Bool.eq_iff_iff, bne_iff_ne, bne_iff_ne]
            exact not_congr ⟨fun h => UInt8.toNat_inj.1 (by have : ((48 : UInt8).toNat : Int) = 48 := rfl; omega), fun h => by rw [h]; rfl⟩
          rw [L_size] at HR
          clear hc h1 h2
          cases b2
          · skip
            go_wp2
            go_ret
            exact ⟨ret_bool (by rw [HR.out]; simp <;> omega), HB.out⟩
          · by_cases h4 : s.size ≤ 4
            · rw [decide_eq_true h4] at HR
              go_wp2
              go_ret
              exact ⟨ret_bool (by rw [HR.out]; simp <;> omega), HB.out⟩
            · rw [decide_eq_false h4] at HR
              go_wp2
              go_ret
              exact ⟨ret_bool (by rw [HR.out]; simp <;> omega), HB.out⟩
        · clear h1
          go_wp2
          go_ret
          exact ⟨ret_bool (by rw [HR.out]; simp <;> omega), HB.out⟩
      · clear h1
        go_wp2
        go_ret
        exact ⟨ret_bool (by rw [HR.out]; simp <;> omega), HB.out⟩

set_option maxHeartbeats 1000000 in
theorem rnumber_any (s : ByteArray) (w : World) (hs : s.size ≤ maxLen) :
    Calls Tryz.prog 24 #[.string s] w fun e w' => e = .returned (.bool (numB (L s))) ∧ w = w' := by
  unfold maxLen at hs
  have C2 : Hid (∀ (W : World) (c : UInt8), Calls Tryz.prog 46 #[.int .u8 ((c.toNat : Nat) : Int)] W fun e w' => e = .returned (.bool (digB c)) ∧ W = w') := Lib.hid fun W c => (digit_any c W).mono fun e w' h => ⟨h.1, h.2.symm⟩
  obtain ⟨b0, h0⟩ : ∃ b, b = (L s == [48]) := ⟨_, rfl⟩
  have e0 : (s.toList == [48]) = b0 := by rw [h0, toList_L]
  have H0 := Lib.hid h0
  clear h0
  cases b0
  · go_enter Tryz.func24, Tryz.ntmps24
    go_wp2_with fail
    go_loop [3] (fun i => ∃ k : Nat, k ≤ s.size ∧ i = .int .i64 k ∧ digsTo (L s) k) (fun i => s.size - (intOf i).toNat)
    case atStart => exact ⟨0, Nat.zero_le _, rfl, fun i hi => by omega⟩
    case round =>
      obtain ⟨k, hk, rfl, hnm⟩ := hrel
      have HNM := Lib.hid hnm
      clear hnm
      by_cases hlt : k < s.size
      · have hidx := run_idx (P := Tryz.prog) Tryz.underlying9 s (k := .i64) (k : Int) k rfl hlt
        obtain ⟨r, hr⟩ : ∃ r, r = digB ((L s).getD k 0) := ⟨_, rfl⟩
        have HRR := Lib.hid hr
        obtain ⟨c, hc⟩ : ∃ c, c = (L s).getD k 0 := ⟨_, rfl⟩
        rw [← hc] at hidx hr
        have D2 := Lib.hid (fun W => C2.out W c)
        rw [← hr] at D2
        clear hc hr
        cases r
        · go_wp2_with fail
          refine (D2.out _).mono ?_
          rintro e w1 ⟨rfl, rfl⟩
          go_wp2
          go_ret
          exact ⟨ret_bool (num_no (l := L s) hlt HRR.out.symm).symm, rfl⟩
        · go_wp2_with fail
          refine (D2.out _).mono ?_
          rintro e w1 ⟨rfl, rfl⟩
          go_wp2
          go_round
          case rel => exact ⟨k + 1, by omega, by go_num, digsTo_succ HNM.out HRR.out.symm⟩
          case measure => simp [intOf]; omega
      · have HR := Lib.hid (num_yes (l := L s) (by rw [L_size]; exact fun i hi => HNM.out i (by omega)))
        rw [← H0.out] at HR
        by_cases hpos : 1 ≤ s.size
        · have h1 : (L s).isEmpty = false := by
            cases h : L s with
            | nil => have := L_size s; rw [h] at this; simp at this; omega
            | cons a l => rfl
          rw [h1] at HR
          have i0 := run_idx (P := Tryz.prog) (k := .i64) Tryz.underlying9 s (0 : Int) 0 rfl hpos
          obtain ⟨c, hc⟩ : ∃ c, c = (L s).getD 0 0 := ⟨_, rfl⟩
          rw [← hc] at HR i0
          obtain ⟨b2, h2⟩ : ∃ b, b = (c != 48) := ⟨_, rfl⟩
          rw [← h2] at HR
          have e2 : (((c.toNat : Nat) : Int) != 48) = b2 := by
            rw [h2, Bool.eq_iff_iff, bne_iff_ne, bne_iff_ne]
            exact not_congr ⟨fun h => UInt8.toNat_inj.1 (by have : ((48 : UInt8).toNat : Int) = 48 := rfl; omega), fun h => by rw [h]; rfl⟩
          rw [L_size] at HR
          clear hc h1 h2
          by_cases h4 : s.size ≤ 4
          · rw [decide_eq_true h4] at HR
            cases b2
            · go_wp2
              go_ret
              exact ⟨ret_bool (by rw [HR.out]; simp <;> omega), rfl⟩
            · go_wp2
              go_ret
              exact ⟨ret_bool (by rw [HR.out]; simp <;> omega), rfl⟩
          · rw [decide_eq_false h4] at HR
            go_wp2
            go_ret
            exact ⟨ret_bool (by rw [HR.out]; simp <;> omega), rfl⟩
        · have h1 : (L s).isEmpty = true := by
            cases h : L s with
            | nil => rfl
            | cons a l => have := L_size s; rw [h] at this; simp at this; omega
          rw [h1] at HR
          clear h1
          go_wp2
          go_ret
          exact ⟨ret_bool (by rw [HR.out]; simp <;> omega), rfl⟩
  · go_enter Tryz.func24, Tryz.ntmps24
    go_wp2
    go_ret
    exact ⟨ret_bool (by rw [show L s = [48] by simpa using H0.out.symm]; decide), rfl⟩
end Go.Proofs.YtnackmnoldkihaaGreatDoor
/-
  The walks of Op and Reserved: the program's, and the document's.
-/
namespace Go.Proofs.YtnackmnoldkihaaGreatDoor
open Go.RowKit

/-- A text that is one of some, and not empty. -/
def oneB (xs : List (List UInt8)) (l : List UInt8) : Bool := !l.isEmpty && xs.contains l
def oneTo (xs : List (List UInt8)) (l : List UInt8) (k : Nat) : Prop := ∀ i, i < k → (xs.getD i [] == l && !l.isEmpty) = false
theorem oneTo_succ {xs : List (List UInt8)} {l : List UInt8} {k : Nat} (h : oneTo xs l k) (hc : (xs.getD k [] == l && !l.isEmpty) = false) : oneTo xs l (k + 1) := fun i hi => by
  by_cases h1 : i < k
  · exact h i h1
  · obtain rfl : i = k := by omega
    exact hc
theorem one_no {xs : List (List UInt8)} {l : List UInt8} (h : oneTo xs l xs.length) : oneB xs l = false := by
  unfold oneB
  cases he : l.isEmpty with
  | true => rfl
  | false =>
    show xs.contains l = false
    rw [← Bool.not_eq_true, List.contains_iff_mem]
    intro hm
    obtain ⟨i, hi, hx⟩ := List.getElem_of_mem hm
    have := h i hi
    rw [he] at this
    simp [List.getD, List.getElem?_eq_getElem hi, hx] at this
theorem one_yes {xs : List (List UInt8)} {l : List UInt8} {k : Nat} (hk : k < xs.length) (h : (xs.getD k [] == l && !l.isEmpty) = true) : oneB xs l = true := by
  rw [Bool.and_eq_true] at h
  rw [oneB, Bool.and_eq_true]
  refine ⟨h.2, List.contains_iff_mem.2 ?_⟩
  have := eq_of_beq h.1
  rw [← this]
  simp [List.getD, List.getElem?_eq_getElem hk]

def strVals (xs : List (List UInt8)) : Array Value := (xs.map fun l => Value.string (S l)).toArray
theorem strVals_size (xs : List (List UInt8)) : (strVals xs).size = xs.length := by simp [strVals]
theorem strVals_get {xs : List (List UInt8)} {k : Nat} (h : k < xs.length) : (strVals xs)[k]? = some (.string (S (xs.getD k []))) := by
  simp [strVals, List.getD, List.getElem?_eq_getElem h]

set_option maxHeartbeats 1000000 in
theorem one_any (s : ByteArray) (xs : List (List UInt8)) (h16 : xs.length = 16) (w : World) :
    Calls Tryz.prog 47 #[.string s, .agg (strVals xs)] w fun e w' => e = .returned (.bool (oneB xs (L s))) ∧ Below w.heap.size w w' := by
  have HX : Hid (∀ k, k < 16 → (w.alloc (.cells (strVals xs) 78)).cell? ⟨w.heap.size, k, none⟩ = some (.string (S (xs.getD k [])))) := Lib.hid fun k hk => by
    rw [← strVals_get (by omega)]
    unfold World.cell?
    rw [heap_alloc_new]
    rfl
  have HB := Lib.hid ((Below.refl w.heap.size w).alloc (Nat.le_refl _) (.cells (strVals xs) 78))
  have HS := Lib.hid (strVals_size xs)
  have H16 := Lib.hid h16
  rw [h16] at HS
  obtain ⟨arr, harr⟩ : ∃ a, a = strVals xs := ⟨_, rfl⟩
  rw [← harr] at HX HB HS ⊢
  clear harr h16
  go_enter Tryz.func47, Tryz.ntmps47
  go_wp2_with fail
  go_loop [5] (fun i => ∃ k : Nat, k ≤ 16 ∧ i = .int .i64 k ∧ oneTo xs (L s) k) (fun i => 16 - (intOf i).toNat)
  case atStart => exact ⟨0, Nat.zero_le _, rfl, fun i hi => by omega⟩
  case round =>
    obtain ⟨k, hk, rfl, hnm⟩ := hrel
    have HNM := Lib.hid hnm
    clear hnm
    by_cases hlt : k < 16
    · have hcell := HX.out k hlt
      obtain ⟨x, hx⟩ : ∃ x, x = S (xs.getD k []) := ⟨_, rfl⟩
      rw [← hx] at hcell
      obtain ⟨b0, h0⟩ : ∃ b, b = (xs.getD k [] == L s) := ⟨_, rfl⟩
      have e0 : (x.toList == s.toList) = b0 := by rw [h0, toList_L, toList_L, hx, L_S]
      obtain ⟨b1, h1⟩ : ∃ b, b = (L s).isEmpty := ⟨_, rfl⟩
      have e1 : s.toList.isEmpty = b1 := by rw [h1, toList_L]
      have HQ : Hid ((xs.getD k [] == L s && !(L s).isEmpty) = (b0 && !b1)) := Lib.hid (by rw [h0, h1])
      clear hx h0 h1
      cases b0
      · go_wp2
        go_round
        case rel => exact ⟨k + 1, by omega, by go_num, oneTo_succ HNM.out (by rw [HQ.out]; rfl)⟩
        case measure => simp [intOf]; omega
      · cases b1
        · go_wp2
          go_ret
          exact ⟨ret_bool (one_yes (by rw [H16.out]; exact hlt) HQ.out).symm, HB.out⟩
        · go_wp2
          go_round
          case rel => exact ⟨k + 1, by omega, by go_num, oneTo_succ HNM.out (by rw [HQ.out]; rfl)⟩
          case measure => simp [intOf]; omega
    · have HR : Hid (oneB xs (L s) = false) := Lib.hid (one_no (by rw [H16.out]; exact fun i hi => HNM.out i (by omega)))
      go_wp2
      go_ret
      exact ⟨ret_bool HR.out.symm, HB.out⟩

def opWs : List (List UInt8) := [[45], [58, 45], [61], [58, 61], [63], [58, 63], [43], [58, 43], [35], [35, 35], [37], [37, 37], [], [], [], []]
theorem rop_any (s : ByteArray) (w : World) : Calls Tryz.prog 30 #[.string s] w fun e w' => e = .returned (.bool (oneB opWs (L s))) ∧ Below w.heap.size w w' := by
  have C := Lib.hid (one_any s opWs rfl w)
  have hv : strVals opWs = #[.string ⟨#[45]⟩, .string ⟨#[58, 45]⟩, .string ⟨#[61]⟩, .string ⟨#[58, 61]⟩, .string ⟨#[63]⟩, .string ⟨#[58, 63]⟩, .string ⟨#[43]⟩, .string ⟨#[58, 43]⟩, .string ⟨#[35]⟩, .string ⟨#[35, 35]⟩, .string ⟨#[37]⟩, .string ⟨#[37, 37]⟩, .string ⟨#[]⟩, .string ⟨#[]⟩, .string ⟨#[]⟩, .string ⟨#[]⟩] := rfl
  rw [hv] at C
  obtain ⟨r, hr⟩ : ∃ r, r = oneB opWs (L s) := ⟨_, rfl⟩
  rw [← hr] at C ⊢
  clear hr hv
  go_enter Tryz.func30, Tryz.ntmps30
  go_wp2_with fail
  refine C.out.mono ?_
  rintro e w1 ⟨rfl, hb⟩
  have HB := Lib.hid hb
  clear hb
  go_wp2
  go_ret
  exact ⟨rfl, HB.out⟩

set_option maxHeartbeats 2000000 in
theorem op_any (s : ByteArray) (w : World) : Calls Tryz.prog 29 #[.string s] w fun e w' => e = .returned (.bool (oneB opWs (L s))) ∧ w = w' := by
  by_cases h : s.toList = [45]
  · have HR : Hid (oneB opWs (L s) = true) := Lib.hid (by rw [← toList_L, h]; decide)
    have e0 : (s.toList == [45]) = true := by rw [h]; decide
    clear h
    go_enter Tryz.func29, Tryz.ntmps29
    go_wp2
    go_ret
    exact ⟨ret_bool HR.out.symm, rfl⟩
  have e0 : (s.toList == [45]) = false := beq_eq_false_iff_ne.2 h
  have H0 := Lib.hid h
  clear h
  by_cases h : s.toList = [58, 45]
  · have HR : Hid (oneB opWs (L s) = true) := Lib.hid (by rw [← toList_L, h]; decide)
    have e1 : (s.toList == [58, 45]) = true := by rw [h]; decide
    clear h
    go_enter Tryz.func29, Tryz.ntmps29
    go_wp2
    go_ret
    exact ⟨ret_bool HR.out.symm, rfl⟩
  have e1 : (s.toList == [58, 45]) = false := beq_eq_false_iff_ne.2 h
  have H1 := Lib.hid h
  clear h
  by_cases h : s.toList = [61]
  · have HR : Hid (oneB opWs (L s) = true) := Lib.hid (by rw [← toList_L, h]; decide)
    have e2 : (s.toList == [61]) = true := by rw [h]; decide
    clear h
    go_enter Tryz.func29, Tryz.ntmps29
    go_wp2
    go_ret
    exact ⟨ret_bool HR.out.symm, rfl⟩
  have e2 : (s.toList == [61]) = false := beq_eq_false_iff_ne.2 h
  have H2 := Lib.hid h
  clear h
  by_cases h : s.toList = [58, 61]
  · have HR : Hid (oneB opWs (L s) = true) := Lib.hid (by rw [← toList_L, h]; decide)
    have e3 : (s.toList == [58, 61]) = true := by rw [h]; decide
    clear h
    go_enter Tryz.func29, Tryz.ntmps29
    go_wp2
    go_ret
    exact ⟨ret_bool HR.out.symm, rfl⟩
  have e3 : (s.toList == [58, 61]) = false := beq_eq_false_iff_ne.2 h
  have H3 := Lib.hid h
  clear h
  by_cases h : s.toList = [63]
  · have HR : Hid (oneB opWs (L s) = true) := Lib.hid (by rw [← toList_L, h]; decide)
    have e4 : (s.toList == [63]) = true := by rw [h]; decide
    clear h
    go_enter Tryz.func29, Tryz.ntmps29
    go_wp2
    go_ret
    exact ⟨ret_bool HR.out.symm, rfl⟩
  have e4 : (s.toList == [63]) = false := beq_eq_false_iff_ne.2 h
  have H4 := Lib.hid h
  clear h
  by_cases h : s.toList = [58, 63]
  · have HR : Hid (oneB opWs (L s) = true) := Lib.hid (by rw [← toList_L, h]; decide)
    have e5 : (s.toList == [58, 63]) = true := by rw [h]; decide
    clear h
    go_enter Tryz.func29, Tryz.ntmps29
    go_wp2
    go_ret
    exact ⟨ret_bool HR.out.symm, rfl⟩
  have e5 : (s.toList == [58, 63]) = false := beq_eq_false_iff_ne.2 h
  have H5 := Lib.hid h
  clear h
  by_cases h : s.toList = [43]
  · have HR : Hid (oneB opWs (L s) = true) := Lib.hid (by rw [← toList_L, h]; decide)
    have e6 : (s.toList == [43]) = true := by rw [h]; decide
    clear h
    go_enter Tryz.func29, Tryz.ntmps29
    go_wp2
    go_ret
    exact ⟨ret_bool HR.out.symm, rfl⟩
  have e6 : (s.toList == [43]) = false := beq_eq_false_iff_ne.2 h
  have H6 := Lib.hid h
  clear h
  by_cases h : s.toList = [58, 43]
  · have HR : Hid (oneB opWs (L s) = true) := Lib.hid (by rw [← toList_L, h]; decide)
    have e7 : (s.toList == [58, 43]) = true := by rw [h]; decide
    clear h
    go_enter Tryz.func29, Tryz.ntmps29
    go_wp2
    go_ret
    exact ⟨ret_bool HR.out.symm, rfl⟩
  have e7 : (s.toList == [58, 43]) = false := beq_eq_false_iff_ne.2 h
  have H7 := Lib.hid h
  clear h
  by_cases h : s.toList = [35]
  · have HR : Hid (oneB opWs (L s) = true) := Lib.hid (by rw [← toList_L, h]; decide)
    have e8 : (s.toList == [35]) = true := by rw [h]; decide
    clear h
    go_enter Tryz.func29, Tryz.ntmps29
    go_wp2
    go_ret
    exact ⟨ret_bool HR.out.symm, rfl⟩
  have e8 : (s.toList == [35]) = false := beq_eq_false_iff_ne.2 h
  have H8 := Lib.hid h
  clear h
  by_cases h : s.toList = [35, 35]
  · have HR : Hid (oneB opWs (L s) = true) := Lib.hid (by rw [← toList_L, h]; decide)
    have e9 : (s.toList == [35, 35]) = true := by rw [h]; decide
    clear h
    go_enter Tryz.func29, Tryz.ntmps29
    go_wp2
    go_ret
    exact ⟨ret_bool HR.out.symm, rfl⟩
  have e9 : (s.toList == [35, 35]) = false := beq_eq_false_iff_ne.2 h
  have H9 := Lib.hid h
  clear h
  by_cases h : s.toList = [37]
  · have HR : Hid (oneB opWs (L s) = true) := Lib.hid (by rw [← toList_L, h]; decide)
    have e10 : (s.toList == [37]) = true := by rw [h]; decide
    clear h
    go_enter Tryz.func29, Tryz.ntmps29
    go_wp2
    go_ret
    exact ⟨ret_bool HR.out.symm, rfl⟩
  have e10 : (s.toList == [37]) = false := beq_eq_false_iff_ne.2 h
  have H10 := Lib.hid h
  clear h
  by_cases h : s.toList = [37, 37]
  · have HR : Hid (oneB opWs (L s) = true) := Lib.hid (by rw [← toList_L, h]; decide)
    have e11 : (s.toList == [37, 37]) = true := by rw [h]; decide
    clear h
    go_enter Tryz.func29, Tryz.ntmps29
    go_wp2
    go_ret
    exact ⟨ret_bool HR.out.symm, rfl⟩
  have e11 : (s.toList == [37, 37]) = false := beq_eq_false_iff_ne.2 h
  have H11 := Lib.hid h
  clear h
  have h : True := trivial
  have HR : Hid (oneB opWs (L s) = false) := Lib.hid (by
    rw [← toList_L]
    simp [oneB, opWs, H0.out, H1.out, H2.out, H3.out, H4.out, H5.out, H6.out, H7.out, H8.out, H9.out, H10.out, H11.out])
  clear h
  go_enter Tryz.func29, Tryz.ntmps29
  go_wp2
  go_ret
  exact ⟨ret_bool HR.out.symm, rfl⟩

def reservedWs : List (List UInt8) := [[105, 102], [116, 104, 101, 110], [101, 108, 105, 102], [101, 108, 115, 101], [102, 105], [119, 104, 105, 108, 101], [117, 110, 116, 105, 108], [100, 111], [100, 111, 110, 101], [102, 111, 114], [105, 110], [99, 97, 115, 101], [101, 115, 97, 99], [33], [123], [125]]
theorem rreserved_any (s : ByteArray) (w : World) : Calls Tryz.prog 28 #[.string s] w fun e w' => e = .returned (.bool (oneB reservedWs (L s))) ∧ Below w.heap.size w w' := by
  have C := Lib.hid (one_any s reservedWs rfl w)
  have hv : strVals reservedWs = #[.string ⟨#[105, 102]⟩, .string ⟨#[116, 104, 101, 110]⟩, .string ⟨#[101, 108, 105, 102]⟩, .string ⟨#[101, 108, 115, 101]⟩, .string ⟨#[102, 105]⟩, .string ⟨#[119, 104, 105, 108, 101]⟩, .string ⟨#[117, 110, 116, 105, 108]⟩, .string ⟨#[100, 111]⟩, .string ⟨#[100, 111, 110, 101]⟩, .string ⟨#[102, 111, 114]⟩, .string ⟨#[105, 110]⟩, .string ⟨#[99, 97, 115, 101]⟩, .string ⟨#[101, 115, 97, 99]⟩, .string ⟨#[33]⟩, .string ⟨#[123]⟩, .string ⟨#[125]⟩] := rfl
  rw [hv] at C
  obtain ⟨r, hr⟩ : ∃ r, r = oneB reservedWs (L s) := ⟨_, rfl⟩
  rw [← hr] at C ⊢
  clear hr hv
  go_enter Tryz.func28, Tryz.ntmps28
  go_wp2_with fail
  refine C.out.mono ?_
  rintro e w1 ⟨rfl, hb⟩
  have HB := Lib.hid hb
  clear hb
  go_wp2
  go_ret
  exact ⟨rfl, HB.out⟩

set_option maxHeartbeats 2000000 in
theorem reserved_any (s : ByteArray) (w : World) : Calls Tryz.prog 27 #[.string s] w fun e w' => e = .returned (.bool (oneB reservedWs (L s))) ∧ w = w' := by
  by_cases h : s.toList = [105, 102]
  · have HR : Hid (oneB reservedWs (L s) = true) := Lib.hid (by rw [← toList_L, h]; decide)
    have e0 : (s.toList == [105, 102]) = true := by rw [h]; decide
    clear h
    go_enter Tryz.func27, Tryz.ntmps27
    go_wp2
    go_ret
    exact ⟨ret_bool HR.out.symm, rfl⟩
  have e0 : (s.toList == [105, 102]) = false := beq_eq_false_iff_ne.2 h
  have H0 := Lib.hid h
  clear h
  by_cases h : s.toList = [116, 104, 101, 110]
  · have HR : Hid (oneB reservedWs (L s) = true) := Lib.hid (by rw [← toList_L, h]; decide)
    have e1 : (s.toList == [116, 104, 101, 110]) = true := by rw [h]; decide
    clear h
    go_enter Tryz.func27, Tryz.ntmps27
    go_wp2
    go_ret
    exact ⟨ret_bool HR.out.symm, rfl⟩
  have e1 : (s.toList == [116, 104, 101, 110]) = false := beq_eq_false_iff_ne.2 h
  have H1 := Lib.hid h
  clear h
  by_cases h : s.toList = [101, 108, 105, 102]
  · have HR : Hid (oneB reservedWs (L s) = true) := Lib.hid (by rw [← toList_L, h]; decide)
    have e2 : (s.toList == [101, 108, 105, 102]) = true := by rw [h]; decide
    clear h
    go_enter Tryz.func27, Tryz.ntmps27
    go_wp2
    go_ret
    exact ⟨ret_bool HR.out.symm, rfl⟩
  have e2 : (s.toList == [101, 108, 105, 102]) = false := beq_eq_false_iff_ne.2 h
  have H2 := Lib.hid h
  clear h
  by_cases h : s.toList = [101, 108, 115, 101]
  · have HR : Hid (oneB reservedWs (L s) = true) := Lib.hid (by rw [← toList_L, h]; decide)
    have e3 : (s.toList == [101, 108, 115, 101]) = true := by rw [h]; decide
    clear h
    go_enter Tryz.func27, Tryz.ntmps27
    go_wp2
    go_ret
    exact ⟨ret_bool HR.out.symm, rfl⟩
  have e3 : (s.toList == [101, 108, 115, 101]) = false := beq_eq_false_iff_ne.2 h
  have H3 := Lib.hid h
  clear h
  by_cases h : s.toList = [102, 105]
  · have HR : Hid (oneB reservedWs (L s) = true) := Lib.hid (by rw [← toList_L, h]; decide)
    have e4 : (s.toList == [102, 105]) = true := by rw [h]; decide
    clear h
    go_enter Tryz.func27, Tryz.ntmps27
    go_wp2
    go_ret
    exact ⟨ret_bool HR.out.symm, rfl⟩
  have e4 : (s.toList == [102, 105]) = false := beq_eq_false_iff_ne.2 h
  have H4 := Lib.hid h
  clear h
  by_cases h : s.toList = [119, 104, 105, 108, 101]
  · have HR : Hid (oneB reservedWs (L s) = true) := Lib.hid (by rw [← toList_L, h]; decide)
    have e5 : (s.toList == [119, 104, 105, 108, 101]) = true := by rw [h]; decide
    clear h
    go_enter Tryz.func27, Tryz.ntmps27
    go_wp2
    go_ret
    exact ⟨ret_bool HR.out.symm, rfl⟩
  have e5 : (s.toList == [119, 104, 105, 108, 101]) = false := beq_eq_false_iff_ne.2 h
  have H5 := Lib.hid h
  clear h
  by_cases h : s.toList = [117, 110, 116, 105, 108]
  · have HR : Hid (oneB reservedWs (L s) = true) := Lib.hid (by rw [← toList_L, h]; decide)
    have e6 : (s.toList == [117, 110, 116, 105, 108]) = true := by rw [h]; decide
    clear h
    go_enter Tryz.func27, Tryz.ntmps27
    go_wp2
    go_ret
    exact ⟨ret_bool HR.out.symm, rfl⟩
  have e6 : (s.toList == [117, 110, 116, 105, 108]) = false := beq_eq_false_iff_ne.2 h
  have H6 := Lib.hid h
  clear h
  by_cases h : s.toList = [100, 111]
  · have HR : Hid (oneB reservedWs (L s) = true) := Lib.hid (by rw [← toList_L, h]; decide)
    have e7 : (s.toList == [100, 111]) = true := by rw [h]; decide
    clear h
    go_enter Tryz.func27, Tryz.ntmps27
    go_wp2
    go_ret
    exact ⟨ret_bool HR.out.symm, rfl⟩
  have e7 : (s.toList == [100, 111]) = false := beq_eq_false_iff_ne.2 h
  have H7 := Lib.hid h
  clear h
  by_cases h : s.toList = [100, 111, 110, 101]
  · have HR : Hid (oneB reservedWs (L s) = true) := Lib.hid (by rw [← toList_L, h]; decide)
    have e8 : (s.toList == [100, 111, 110, 101]) = true := by rw [h]; decide
    clear h
    go_enter Tryz.func27, Tryz.ntmps27
    go_wp2
    go_ret
    exact ⟨ret_bool HR.out.symm, rfl⟩
  have e8 : (s.toList == [100, 111, 110, 101]) = false := beq_eq_false_iff_ne.2 h
  have H8 := Lib.hid h
  clear h
  by_cases h : s.toList = [102, 111, 114]
  · have HR : Hid (oneB reservedWs (L s) = true) := Lib.hid (by rw [← toList_L, h]; decide)
    have e9 : (s.toList == [102, 111, 114]) = true := by rw [h]; decide
    clear h
    go_enter Tryz.func27, Tryz.ntmps27
    go_wp2
    go_ret
    exact ⟨ret_bool HR.out.symm, rfl⟩
  have e9 : (s.toList == [102, 111, 114]) = false := beq_eq_false_iff_ne.2 h
  have H9 := Lib.hid h
  clear h
  by_cases h : s.toList = [105, 110]
  · have HR : Hid (oneB reservedWs (L s) = true) := Lib.hid (by rw [← toList_L, h]; decide)
    have e10 : (s.toList == [105, 110]) = true := by rw [h]; decide
    clear h
    go_enter Tryz.func27, Tryz.ntmps27
    go_wp2
    go_ret
    exact ⟨ret_bool HR.out.symm, rfl⟩
  have e10 : (s.toList == [105, 110]) = false := beq_eq_false_iff_ne.2 h
  have H10 := Lib.hid h
  clear h
  by_cases h : s.toList = [99, 97, 115, 101]
  · have HR : Hid (oneB reservedWs (L s) = true) := Lib.hid (by rw [← toList_L, h]; decide)
    have e11 : (s.toList == [99, 97, 115, 101]) = true := by rw [h]; decide
    clear h
    go_enter Tryz.func27, Tryz.ntmps27
    go_wp2
    go_ret
    exact ⟨ret_bool HR.out.symm, rfl⟩
  have e11 : (s.toList == [99, 97, 115, 101]) = false := beq_eq_false_iff_ne.2 h
  have H11 := Lib.hid h
  clear h
  by_cases h : s.toList = [101, 115, 97, 99]
  · have HR : Hid (oneB reservedWs (L s) = true) := Lib.hid (by rw [← toList_L, h]; decide)
    have e12 : (s.toList == [101, 115, 97, 99]) = true := by rw [h]; decide
    clear h
    go_enter Tryz.func27, Tryz.ntmps27
    go_wp2
    go_ret
    exact ⟨ret_bool HR.out.symm, rfl⟩
  have e12 : (s.toList == [101, 115, 97, 99]) = false := beq_eq_false_iff_ne.2 h
  have H12 := Lib.hid h
  clear h
  by_cases h : s.toList = [33]
  · have HR : Hid (oneB reservedWs (L s) = true) := Lib.hid (by rw [← toList_L, h]; decide)
    have e13 : (s.toList == [33]) = true := by rw [h]; decide
    clear h
    go_enter Tryz.func27, Tryz.ntmps27
    go_wp2
    go_ret
    exact ⟨ret_bool HR.out.symm, rfl⟩
  have e13 : (s.toList == [33]) = false := beq_eq_false_iff_ne.2 h
  have H13 := Lib.hid h
  clear h
  by_cases h : s.toList = [123]
  · have HR : Hid (oneB reservedWs (L s) = true) := Lib.hid (by rw [← toList_L, h]; decide)
    have e14 : (s.toList == [123]) = true := by rw [h]; decide
    clear h
    go_enter Tryz.func27, Tryz.ntmps27
    go_wp2
    go_ret
    exact ⟨ret_bool HR.out.symm, rfl⟩
  have e14 : (s.toList == [123]) = false := beq_eq_false_iff_ne.2 h
  have H14 := Lib.hid h
  clear h
  by_cases h : s.toList = [125]
  · have HR : Hid (oneB reservedWs (L s) = true) := Lib.hid (by rw [← toList_L, h]; decide)
    have e15 : (s.toList == [125]) = true := by rw [h]; decide
    clear h
    go_enter Tryz.func27, Tryz.ntmps27
    go_wp2
    go_ret
    exact ⟨ret_bool HR.out.symm, rfl⟩
  have e15 : (s.toList == [125]) = false := beq_eq_false_iff_ne.2 h
  have H15 := Lib.hid h
  clear h
  have h : True := trivial
  have HR : Hid (oneB reservedWs (L s) = false) := Lib.hid (by
    rw [← toList_L]
    simp [oneB, reservedWs, H0.out, H1.out, H2.out, H3.out, H4.out, H5.out, H6.out, H7.out, H8.out, H9.out, H10.out, H11.out, H12.out, H13.out, H14.out, H15.out])
  clear h
  go_enter Tryz.func27, Tryz.ntmps27
  go_wp2
  go_ret
  exact ⟨ret_bool HR.out.symm, rfl⟩

end Go.Proofs.YtnackmnoldkihaaGreatDoor
/-
  The walks of Sum: the program's, and the document's.
-/
namespace Go.Proofs.YtnackmnoldkihaaGreatDoor
open Go.RowKit

def sumSigns : ByteArray := ⟨#[95, 32, 43, 45, 42, 47, 37, 60, 62, 61, 33, 38, 124, 94, 126, 63, 58, 36, 9, 10]⟩
def rsumSigns : ByteArray := ⟨#[95, 32, 9, 10, 43, 45, 42, 47, 37, 60, 62, 61, 33, 38, 124, 94, 126, 63, 58, 36, 40, 41]⟩
theorem rsum_signs (c : UInt8) : hasB (L rsumSigns) c = (c == 40 || c == 41 || hasB (L sumSigns) c) := by
  rw [Bool.eq_iff_iff]
  simp [hasB_mem, rsumSigns, sumSigns]
  constructor
  all_goals (intro h; repeat' (rcases h with h | h)) <;> simp [*]
/-- How deep one is behind a byte more; none: not a sum's text. -/
def sumStep : Option Nat → UInt8 → Option Nat
  | none, _ => none
  | some d, c => if c = 40 then some (d + 1) else if c = 41 then (if d = 0 then none else some (d - 1)) else if (lettB c || digB c || hasB (L sumSigns) c) = true then some d else none
def sumB (l : List UInt8) : Bool := l.foldl sumStep (some 0) == some 0
theorem sum_none (l : List UInt8) : l.foldl sumStep none = none := by induction l with
  | nil => rfl
  | cons a l ih => exact ih
theorem sum_take {l : List UInt8} {k : Nat} (hk : k < l.length) {d : Nat} (h : (l.take k).foldl sumStep (some 0) = some d) : (l.take (k + 1)).foldl sumStep (some 0) = sumStep (some d) (l.getD k 0) := by
  rw [take_getD hk, List.foldl_append, h]; rfl
theorem sum_no {l : List UInt8} {k : Nat} (hk : k < l.length) {d : Nat} (h : (l.take k).foldl sumStep (some 0) = some d) (hc : sumStep (some d) (l.getD k 0) = none) : sumB l = false := by
  rw [sumB, ← List.take_append_drop (k + 1) l, List.foldl_append, sum_take hk h, hc, sum_none]; rfl
theorem sum_yes {l : List UInt8} {d : Nat} (h : (l.take l.length).foldl sumStep (some 0) = some d) : sumB l = (d == 0) := by
  rw [List.take_length] at h
  rw [sumB, h]
  cases d <;> rfl
theorem sumStep_open (d : Nat) {c : UInt8} (h : c = 40) : sumStep (some d) c = some (d + 1) := by rw [sumStep, if_pos h]
theorem sumStep_shut {d : Nat} (hd : d ≠ 0) {c : UInt8} (h : c = 41) : sumStep (some d) c = some (d - 1) := by rw [sumStep, if_neg (by rw [h]; decide), if_pos h, if_neg hd]
theorem sumStep_shut0 {c : UInt8} (h : c = 41) : sumStep (some 0) c = none := by rw [sumStep, if_neg (by rw [h]; decide), if_pos h, if_pos rfl]
theorem sumStep_ok (d : Nat) {c : UInt8} (h1 : c ≠ 40) (h2 : c ≠ 41) (h : (lettB c || digB c || hasB (L sumSigns) c) = true) : sumStep (some d) c = some d := by rw [sumStep, if_neg h1, if_neg h2, if_pos h]
theorem sumStep_not (d : Nat) {c : UInt8} (h1 : c ≠ 40) (h2 : c ≠ 41) (h : (lettB c || digB c || hasB (L sumSigns) c) = false) : sumStep (some d) c = none := by rw [sumStep, if_neg h1, if_neg h2, if_neg (by rw [h]; decide)]

set_option maxHeartbeats 1000000 in
theorem sum_any (s : ByteArray) (w : World) (hs : s.size ≤ maxLen) :
    Calls Tryz.prog 31 #[.string s] w fun e w' => e = .returned (.bool (sumB (L s))) ∧ Below w.heap.size w w' := by
  unfold maxLen at hs
  have HM := Lib.hid (BytesAt.made w 5 s)
  have HB := Lib.hid (below_bytesWorld w 5 s)
  obtain ⟨wb, hwb⟩ : ∃ wb, wb = Lib.bytesWorld w 5 s := ⟨_, rfl⟩
  rw [← hwb] at HM HB
  have HWB := Lib.hid hwb
  clear hwb
  go_enter Tryz.func31, Tryz.ntmps31
  go_wp2_with fail
  rw [← HWB.out]
  go_loopw [3, 9] (fun o i wr => ∃ k d : Nat, k ≤ s.size ∧ d ≤ k ∧ i = .int .i64 k ∧ o = .int .i64 d ∧ ((L s).take k).foldl sumStep (some 0) = some d ∧ wr = wb) (fun o i _ => s.size - (intOf i).toNat)
  case atStart => exact ⟨0, 0, Nat.zero_le _, Nat.le_refl _, rfl, rfl, rfl, rfl⟩
  case round =>
    obtain ⟨k, d, hk, hd, rfl, rfl, hnm, rfl⟩ := hrel
    have HNM := Lib.hid hnm
    clear hnm
    by_cases hlt : k < s.size
    · have hcell := (HM.out k hlt).1
      have CI := Lib.hid (index_any sumSigns ((L s).getD k 0) wr)
      obtain ⟨c, hc⟩ : ∃ c, c = (L s).getD k 0 := ⟨_, rfl⟩
      have HC := Lib.hid hc
      rw [← hc] at hcell CI
      obtain ⟨q, hq⟩ : ∃ q, q = hasB (L sumSigns) c := ⟨_, rfl⟩
      rw [← hq] at CI
      have HQ := Lib.hid hq
      have HL := Lib.hid (lettB_iff c)
      have HD := Lib.hid (digB_iff c)
      have H40 : Hid (c = 40 ↔ c.toNat = 40) := Lib.hid ⟨fun h => by rw [h]; rfl, fun h => UInt8.toNat_inj.1 h⟩
      have H41 : Hid (c = 41 ↔ c.toNat = 41) := Lib.hid ⟨fun h => by rw [h]; rfl, fun h => UInt8.toNat_inj.1 h⟩
      obtain ⟨v, hv⟩ : ∃ v, v = c.toNat := ⟨_, rfl⟩
      rw [← hv] at hcell CI HL HD H40 H41
      unfold sumSigns at CI
      clear hc hv hq
      have hcls : v = 40 ∨ v = 41 ∨ ((97 ≤ v ∧ v ≤ 122) ∨ (65 ≤ v ∧ v ≤ 90) ∨ (48 ≤ v ∧ v ≤ 57)) ∨ (v < 40 ∨ (42 ≤ v ∧ v < 48) ∨ (58 ≤ v ∧ v < 65) ∨ (91 ≤ v ∧ v < 97) ∨ 123 ≤ v) := by omega
      rcases hcls with h | h | h | h
      · have e40 : (((v : Nat) : Int) == 40) = true := by rw [beq_iff_eq]; omega
        have HR : Hid (sumStep (some d) c = some (d + 1)) := Lib.hid (sumStep_open d (H40.out.2 h))
        go_wp2
        go_roundw
        case rel => exact ⟨k + 1, d + 1, by omega, by omega, by go_num, by go_num, by rw [sum_take (l := L s) hlt HNM.out, ← HC.out]; exact HR.out, by first | trivial | rfl⟩
        case measure => simp [intOf]; omega
      · have e40 : (((v : Nat) : Int) == 40) = false := by rw [beq_eq_false_iff_ne]; omega
        have e41 : (((v : Nat) : Int) == 41) = true := by rw [beq_iff_eq]; omega
        by_cases hd0 : d = 0
        · have HR : Hid (sumStep (some d) c = none) := Lib.hid (by rw [hd0]; exact sumStep_shut0 (H41.out.2 h))
          go_wp2
          go_ret
          exact ⟨ret_bool (sum_no (l := L s) hlt HNM.out (by rw [← HC.out]; exact HR.out)).symm, HB.out⟩
        · have HR : Hid (sumStep (some d) c = some (d - 1)) := Lib.hid (sumStep_shut hd0 (H41.out.2 h))
          go_wp2
          go_roundw
          case rel => exact ⟨k + 1, d - 1, by omega, by omega, by go_num, by go_num, by rw [sum_take (l := L s) hlt HNM.out, ← HC.out]; exact HR.out, by first | trivial | rfl⟩
          case measure => simp [intOf]; omega
      · have e40 : (((v : Nat) : Int) == 40) = false := by rw [beq_eq_false_iff_ne]; omega
        have e41 : (((v : Nat) : Int) == 41) = false := by rw [beq_eq_false_iff_ne]; omega
        have HR : Hid (sumStep (some d) c = some d) := Lib.hid (sumStep_ok d (fun e => by have := H40.out.1 e; omega) (fun e => by have := H41.out.1 e; omega) (by
          rcases h with h | h | h
          · rw [HL.out.2 (.inl h)]; rfl
          · rw [HL.out.2 (.inr h)]; rfl
          · rw [HD.out.2 h, Bool.or_true, Bool.true_or]))
        rcases h with ⟨h, h'⟩ | ⟨h, h'⟩ | ⟨h, h'⟩
        all_goals
          go_wp2
          go_roundw
          case rel => exact ⟨k + 1, d, by omega, by omega, by go_num, by go_num, by rw [sum_take (l := L s) hlt HNM.out, ← HC.out]; exact HR.out, by first | trivial | rfl⟩
          case measure => simp [intOf]; omega
      · have e40 : (((v : Nat) : Int) == 40) = false := by rw [beq_eq_false_iff_ne]; omega
        have e41 : (((v : Nat) : Int) == 41) = false := by rw [beq_eq_false_iff_ne]; omega
        have hl : lettB c = false := by
          rw [← Bool.not_eq_true, HL.out]; omega
        have hg : digB c = false := by
          rw [← Bool.not_eq_true, HD.out]; omega
        have h40 : c ≠ 40 := fun e => by have := H40.out.1 e; omega
        have h41 : c ≠ 41 := fun e => by have := H41.out.1 e; omega
        cases q
        · have HR : Hid (sumStep (some d) c = none) := Lib.hid (sumStep_not d h40 h41 (by rw [hl, hg, ← HQ.out]; rfl))
          clear hl hg h40 h41
          rcases h with h | ⟨h, h'⟩ | ⟨h, h'⟩ | ⟨h, h'⟩ | h
          all_goals
            go_wp2_with fail
            refine CI.out.mono ?_
            rintro e w1 ⟨⟨n, rfl, hn⟩, rfl⟩
            have hn' : n < 0 := by simpa using hn
            clear hn
            go_wp2
            go_ret
            exact ⟨ret_bool (sum_no (l := L s) hlt HNM.out (by rw [← HC.out]; exact HR.out)).symm, HB.out⟩
        · have HR : Hid (sumStep (some d) c = some d) := Lib.hid (sumStep_ok d h40 h41 (by rw [hl, hg, ← HQ.out]; rfl))
          clear hl hg h40 h41
          rcases h with h | ⟨h, h'⟩ | ⟨h, h'⟩ | ⟨h, h'⟩ | h
          all_goals
            go_wp2_with fail
            refine CI.out.mono ?_
            rintro e w1 ⟨⟨n, rfl, hn⟩, rfl⟩
            have hn' : 0 ≤ n := by simpa using hn
            clear hn
            go_wp2
            go_roundw
            case rel => exact ⟨k + 1, d, by omega, by omega, by go_num, by go_num, by rw [sum_take (l := L s) hlt HNM.out, ← HC.out]; exact HR.out, by first | trivial | rfl⟩
            case measure => simp [intOf]; omega
    · have HR := Lib.hid (sum_yes (l := L s) (d := d) (by rw [L_size, show s.size = k by omega]; exact HNM.out))
      by_cases hd0 : d = 0
      · have HRR : Hid (sumB (L s) = true) := Lib.hid (by rw [HR.out, hd0]; rfl)
        go_wp2
        go_ret
        exact ⟨ret_bool (by first | (rw [HRR.out]; done) | (rw [HRR.out]; simp <;> omega)), HB.out⟩
      · have HRR : Hid (sumB (L s) = false) := Lib.hid (by rw [HR.out]; simpa using hd0)
        go_wp2
        go_ret
        exact ⟨ret_bool (by first | (rw [HRR.out]; done) | (rw [HRR.out]; simp <;> omega)), HB.out⟩

set_option maxHeartbeats 1000000 in
theorem rsum_any (s : ByteArray) (w : World) (hs : s.size ≤ maxLen) :
    Calls Tryz.prog 32 #[.string s] w fun e w' => e = .returned (.bool (sumB (L s))) ∧ w = w' := by
  unfold maxLen at hs
  have C1 : Hid (∀ (W : World) (c : UInt8), Calls Tryz.prog 45 #[.int .u8 ((c.toNat : Nat) : Int)] W fun e w' => e = .returned (.bool (lettB c)) ∧ W = w') := Lib.hid fun W c => (letter_any c W).mono fun e w' h => ⟨h.1, h.2.symm⟩
  have C2 : Hid (∀ (W : World) (c : UInt8), Calls Tryz.prog 46 #[.int .u8 ((c.toNat : Nat) : Int)] W fun e w' => e = .returned (.bool (digB c)) ∧ W = w') := Lib.hid fun W c => (digit_any c W).mono fun e w' h => ⟨h.1, h.2.symm⟩
  have C3 : Hid (∀ (W : World) (c : UInt8), Calls Tryz.prog 43 #[.string rsumSigns, .int .u8 ((c.toNat : Nat) : Int)] W fun e w' => e = .returned (.bool (hasB (L rsumSigns) c)) ∧ W = w') := Lib.hid fun W c => (In_any rsumSigns c W (by decide)).mono fun e w' h => ⟨h.1, h.2.symm⟩
  go_enter Tryz.func32, Tryz.ntmps32
  go_wp2_with fail
  go_loop [3, 4] (fun o i => ∃ k d : Nat, k ≤ s.size ∧ d ≤ k ∧ i = .int .i64 k ∧ o = .int .i64 d ∧ ((L s).take k).foldl sumStep (some 0) = some d) (fun o i => s.size - (intOf i).toNat)
  case atStart => exact ⟨0, 0, Nat.zero_le _, Nat.le_refl _, rfl, rfl, rfl⟩
  case round =>
    obtain ⟨k, d, hk, hd, rfl, rfl, hnm⟩ := hrel
    have HNM := Lib.hid hnm
    clear hnm
    by_cases hlt : k < s.size
    · have hidx := run_idx (P := Tryz.prog) Tryz.underlying9 s (k := .i64) (k : Int) k rfl hlt
      obtain ⟨c, hc⟩ : ∃ c, c = (L s).getD k 0 := ⟨_, rfl⟩
      have HC := Lib.hid hc
      rw [← hc] at hidx
      have D1 := Lib.hid (fun W => C1.out W c)
      have D2 := Lib.hid (fun W => C2.out W c)
      have D3 := Lib.hid (fun W => C3.out W c)
      obtain ⟨r1, h1⟩ : ∃ r, r = lettB c := ⟨_, rfl⟩
      obtain ⟨r2, h2⟩ : ∃ r, r = digB c := ⟨_, rfl⟩
      obtain ⟨r3, h3⟩ : ∃ r, r = hasB (L rsumSigns) c := ⟨_, rfl⟩
      have h3' := rsum_signs c
      rw [← h3] at h3'
      have HL := lettB_iff c
      have HD := digB_iff c
      rw [← h1] at HL D1
      rw [← h2] at HD D2
      rw [← h3] at D3
      have H1 := Lib.hid h1
      have H2 := Lib.hid h2
      have H3 := Lib.hid h3'
      unfold rsumSigns at D3
      clear hc h1 h2 h3 h3'
      by_cases c40 : c = 40
      · have e40 : (((c.toNat : Nat) : Int) == 40) = true := by rw [c40]; rfl
        have e41 : (((c.toNat : Nat) : Int) == 41) = false := by rw [c40]; rfl
        have HR : Hid (sumStep (some d) c = some (d + 1)) := Lib.hid (sumStep_open d c40)
        obtain rfl : r1 = false := by rw [← Bool.not_eq_true, HL, c40]; decide
        obtain rfl : r2 = false := by rw [← Bool.not_eq_true, HD, c40]; decide
        obtain rfl : r3 = true := by rw [H3.out, c40]; rfl
        clear HL HD c40
        go_wp2_with fail
        refine (D1.out _).mono ?_
        rintro e w1 ⟨rfl, rfl⟩
        go_wp2_with fail
        refine (D2.out _).mono ?_
        rintro e w1 ⟨rfl, rfl⟩
        go_wp2_with fail
        refine (D3.out _).mono ?_
        rintro e w1 ⟨rfl, rfl⟩
        go_wp2
        go_round
        case rel => exact ⟨k + 1, d + 1, by omega, by omega, by go_num, by go_num, by rw [sum_take (l := L s) hlt HNM.out, ← HC.out]; exact HR.out⟩
        case measure => simp [intOf]; omega
      · by_cases c41 : c = 41
        · have e40 : (((c.toNat : Nat) : Int) == 40) = false := by rw [c41]; rfl
          have e41 : (((c.toNat : Nat) : Int) == 41) = true := by rw [c41]; rfl
          have HC41 := Lib.hid c41
          obtain rfl : r1 = false := by rw [← Bool.not_eq_true, HL, c41]; decide
          obtain rfl : r2 = false := by rw [← Bool.not_eq_true, HD, c41]; decide
          obtain rfl : r3 = true := by rw [H3.out, c41]; rfl
          clear HL HD c40 c41
          by_cases hd0 : d = 0
          · have HR : Hid (sumStep (some d) c = none) := Lib.hid (by rw [hd0]; exact sumStep_shut0 HC41.out)
            go_wp2_with fail
            refine (D1.out _).mono ?_
            rintro e w1 ⟨rfl, rfl⟩
            go_wp2_with fail
            refine (D2.out _).mono ?_
            rintro e w1 ⟨rfl, rfl⟩
            go_wp2_with fail
            refine (D3.out _).mono ?_
            rintro e w1 ⟨rfl, rfl⟩
            go_wp2
            go_ret
            exact ⟨ret_bool (sum_no (l := L s) hlt HNM.out (by rw [← HC.out]; exact HR.out)).symm, rfl⟩
          · have HR : Hid (sumStep (some d) c = some (d - 1)) := Lib.hid (sumStep_shut hd0 HC41.out)
            go_wp2_with fail
            refine (D1.out _).mono ?_
            rintro e w1 ⟨rfl, rfl⟩
            go_wp2_with fail
            refine (D2.out _).mono ?_
            rintro e w1 ⟨rfl, rfl⟩
            go_wp2_with fail
            refine (D3.out _).mono ?_
            rintro e w1 ⟨rfl, rfl⟩
            go_wp2
            go_round
            case rel => exact ⟨k + 1, d - 1, by omega, by omega, by go_num, by go_num, by rw [sum_take (l := L s) hlt HNM.out, ← HC.out]; exact HR.out⟩
            case measure => simp [intOf]; omega
        · have e40 : (((c.toNat : Nat) : Int) == 40) = false := by
            rw [beq_eq_false_iff_ne]
            exact fun h => c40 (UInt8.toNat_inj.1 (by have : ((40 : UInt8).toNat : Int) = 40 := rfl; omega))
          have e41 : (((c.toNat : Nat) : Int) == 41) = false := by
            rw [beq_eq_false_iff_ne]
            exact fun h => c41 (UInt8.toNat_inj.1 (by have : ((41 : UInt8).toNat : Int) = 41 := rfl; omega))
          have h3 : r3 = hasB (L sumSigns) c := by
            rw [H3.out, beq_eq_false_iff_ne.2 c40, beq_eq_false_iff_ne.2 c41]; rfl
          have H5 := Lib.hid h3
          have N40 := Lib.hid c40
          have N41 := Lib.hid c41
          clear h3 c40 c41 HL HD
          cases r1
          · cases r2
            · cases r3
              · have HR : Hid (sumStep (some d) c = none) := Lib.hid (sumStep_not d N40.out N41.out (by rw [← H1.out, ← H2.out, ← H5.out]; rfl))
                go_wp2_with fail
                refine (D1.out _).mono ?_
                rintro e w1 ⟨rfl, rfl⟩
                go_wp2_with fail
                refine (D2.out _).mono ?_
                rintro e w1 ⟨rfl, rfl⟩
                go_wp2_with fail
                refine (D3.out _).mono ?_
                rintro e w1 ⟨rfl, rfl⟩
                go_wp2
                go_ret
                exact ⟨ret_bool (sum_no (l := L s) hlt HNM.out (by rw [← HC.out]; exact HR.out)).symm, rfl⟩
              · have HR : Hid (sumStep (some d) c = some d) := Lib.hid (sumStep_ok d N40.out N41.out (by rw [← H1.out, ← H2.out, ← H5.out]; rfl))
                go_wp2_with fail
                refine (D1.out _).mono ?_
                rintro e w1 ⟨rfl, rfl⟩
                go_wp2_with fail
                refine (D2.out _).mono ?_
                rintro e w1 ⟨rfl, rfl⟩
                go_wp2_with fail
                refine (D3.out _).mono ?_
                rintro e w1 ⟨rfl, rfl⟩
                go_wp2
                go_round
                case rel => exact ⟨k + 1, d, by omega, by omega, by go_num, by go_num, by rw [sum_take (l := L s) hlt HNM.out, ← HC.out]; exact HR.out⟩
                case measure => simp [intOf]; omega
            · have HR : Hid (sumStep (some d) c = some d) := Lib.hid (sumStep_ok d N40.out N41.out (by rw [← H1.out, ← H2.out]; rfl))
              go_wp2_with fail
              refine (D1.out _).mono ?_
              rintro e w1 ⟨rfl, rfl⟩
              go_wp2_with fail
              refine (D2.out _).mono ?_
              rintro e w1 ⟨rfl, rfl⟩
              go_wp2
              go_round
              case rel => exact ⟨k + 1, d, by omega, by omega, by go_num, by go_num, by rw [sum_take (l := L s) hlt HNM.out, ← HC.out]; exact HR.out⟩
              case measure => simp [intOf]; omega
          · have HR : Hid (sumStep (some d) c = some d) := Lib.hid (sumStep_ok d N40.out N41.out (by rw [← H1.out]; rfl))
            go_wp2_with fail
            refine (D1.out _).mono ?_
            rintro e w1 ⟨rfl, rfl⟩
            go_wp2
            go_round
            case rel => exact ⟨k + 1, d, by omega, by omega, by go_num, by go_num, by rw [sum_take (l := L s) hlt HNM.out, ← HC.out]; exact HR.out⟩
            case measure => simp [intOf]; omega
    · have HR := Lib.hid (sum_yes (l := L s) (d := d) (by rw [L_size, show s.size = k by omega]; exact HNM.out))
      by_cases hd0 : d = 0
      · have HRR : Hid (sumB (L s) = true) := Lib.hid (by rw [HR.out, hd0]; rfl)
        go_wp2
        go_ret
        exact ⟨ret_bool (by first | (rw [HRR.out]; done) | (rw [HRR.out]; simp <;> omega)), rfl⟩
      · have HRR : Hid (sumB (L s) = false) := Lib.hid (by rw [HR.out]; simpa using hd0)
        go_wp2
        go_ret
        exact ⟨ret_bool (by first | (rw [HRR.out]; done) | (rw [HRR.out]; simp <;> omega)), rfl⟩
end Go.Proofs.YtnackmnoldkihaaGreatDoor
/-
  Slices whose elements take any number of cells: what they hold; an element's place; cutting; appending to a slice of the call's own.
-/
namespace Go.Proofs.YtnackmnoldkihaaGreatDoor
open Go.RowKit

/-- A frame whose unknown slots are one function's values. -/
theorem fr_intro {a : Act} {F : (Nat → Value) → Act} (h : a = F (fun i => a.tmps.getD i undef)) : ∃ u, a = F u := ⟨_, h⟩

/-- v is a slice of n elements, of size cells each, below block B; xs are all cells. -/
def Sl (w : World) (B size : Nat) (v : Value) (n : Nat) (xs : List Value) : Prop :=
  xs.length = n * size ∧ ∃ a cap, v = .slice a n cap ∧ n ≤ cap ∧ cap ≤ maxLen ∧ (n = 0 ∨ ∃ b off, a = some ⟨b, off, none⟩ ∧ b < B ∧ ∀ j, j < n * size → w.cell? ⟨b, off + j, none⟩ = xs[j]?)

section
variable {w w' : World} {B B' size n : Nat} {v : Value} {xs : List Value}
theorem Sl.nil (w : World) (B size : Nat) : Sl w B size (.slice none 0 0) 0 [] := ⟨by simp, none, 0, rfl, Nat.le_refl _, Nat.zero_le _, .inl rfl⟩
theorem Sl.keep (h : Sl w B size v n xs) (hc : ∀ b o, b < B → w'.cell? ⟨b, o, none⟩ = w.cell? ⟨b, o, none⟩) : Sl w' B size v n xs := by
  obtain ⟨h1, a, cap, h2, h3, h4, h5⟩ := h
  refine ⟨h1, a, cap, h2, h3, h4, ?_⟩
  rcases h5 with h5 | ⟨b, off, ha, hb, hx⟩
  · exact .inl h5
  · exact .inr ⟨b, off, ha, hb, fun j hj => by rw [hc _ _ hb]; exact hx j hj⟩
theorem Sl.mono (h : Sl w B size v n xs) (hB : B ≤ B') : Sl w B' size v n xs := by
  obtain ⟨h1, a, cap, h2, h3, h4, h5⟩ := h
  refine ⟨h1, a, cap, h2, h3, h4, ?_⟩
  rcases h5 with h5 | ⟨b, off, ha, hb, hx⟩
  · exact .inl h5
  · exact .inr ⟨b, off, ha, by omega, hx⟩
theorem Sl.below (h : Sl w B size v n xs) (hb : Below B w w') : Sl w' B size v n xs := h.keep fun b o hlt => hb.cell (p := ⟨b, o, none⟩) hlt
theorem Sl.set (h : Sl w B size v n xs) {p : Addr} (hp : B ≤ p.block) (u : Value) : Sl (w.setCell p u) B size v n xs :=
  h.keep fun b o hlt => World.cell?_setCell_other w p _ u (fun e => by subst e; simp at hp; omega)
theorem Sl.grown (h : Sl w B size v n xs) {row : Option Nat} (hg : w.grownBy w' row) (hB : B ≤ w.heap.size) (hr : ∀ g, row = some g → B ≤ g) : Sl w' B size v n xs :=
  h.keep fun b o hlt => World.cell?_of_block (hg.block b (by omega) (fun e => by have := hr _ e.symm; omega))
theorem Sl.len (h : Sl w B size v n xs) : n ≤ maxLen := by obtain ⟨_, _, _, _, h3, h4, _⟩ := h; omega
theorem Sl.of_own {base : Nat} {e : TypeId} (h : w.ownsRow base e size v n xs) : Sl w w.heap.size size v n xs := by
  obtain ⟨h1, h2⟩ := h
  refine ⟨h1, ?_⟩
  rcases h2 with ⟨rfl, h3⟩ | ⟨g, cap, cur, rfl, hB, hg, hn, hc, hs, hx⟩
  · exact ⟨none, 0, by rw [h3], by omega, Nat.zero_le _, .inl h3⟩
  · refine ⟨some ⟨g, 0, none⟩, cap, rfl, hn, hc, .inr ⟨g, 0, rfl, (Array.getElem?_eq_some_iff.1 hg).1, fun j hj => ?_⟩⟩
    rw [← hx, List.getElem?_take_of_lt hj, Nat.zero_add]
    simp [World.cell?, hg]

/-- What a walk wants: its form; where an element lies; its cells. -/
theorem Sl.open {P : Program} (h : Sl w B size v n xs) (T E : Nat) (hT : P.underlying T = some (.slice E)) (hs : (P.info? E).map (·.size) = some size) :
    ∃ a cap b off, v = .slice a n cap ∧ n ≤ cap ∧ n ≤ maxLen ∧ (∀ (k : Nat) (w' : World), k < n → (Instr.indexAt T (.slice a n cap) (.int .i64 (k : Int))).run P w' = .ok (.pointer (some ⟨b, off + k * size, none⟩)) w') ∧ (n = 0 ∨ b < B) ∧
      ∀ j, j < n * size → w.cell? ⟨b, off + j, none⟩ = xs[j]? := by
  obtain ⟨h1, a, cap, rfl, h3, h4, h5⟩ := h
  rcases h5 with h5 | ⟨b, off, rfl, hB, hc⟩
  · subst h5; exact ⟨a, cap, 0, 0, rfl, h3, Nat.zero_le _, fun k _ hk => by omega, .inl rfl, fun j hj => by omega⟩
  · refine ⟨_, cap, b, off, rfl, h3, by omega, fun k w' hk => ?_, .inr hB, hc⟩
    have he : P.elem T = E := by simp [Program.elem, hT]
    rw [run_indexAt_slice _ _ _ _ _ _ _ (by rw [he]; exact hT), if_pos ⟨by omega, by omega⟩, he]
    obtain ⟨i, hi, hi1⟩ := Option.map_eq_some_iff.1 hs
    simp [sizeOf, typeInfo, hi, hi1, Result.andThen, addr_add]

/-- v[k:] -/
theorem Sl.cut {P : Program} (h : Sl w B size v n xs) (T E : Nat) (hT : P.underlying T = some (.slice E)) (hs : (P.info? E).map (·.size) = some size) {k : Nat} (hk : k ≤ n) :
    ∃ v', (∀ (w' : World), (Instr.slice T v (some (.int .i64 (k : Int))) none none).run P w' = .ok v' w') ∧ Sl w B size v' (n - k) (xs.drop (k * size)) := by
  obtain ⟨h1, a, cap, rfl, h3, h4, h5⟩ := h
  have he : P.elem T = E := by simp [Program.elem, hT]
  obtain ⟨i, hi, hi1⟩ := Option.map_eq_some_iff.1 hs
  refine ⟨sliced a k n cap size, fun w' => ?_, ?_⟩
  · rw [run_slice_l w' T a n cap (by rw [he]; exact hT) .i64 k (by omega) (by omega), he]
    simp [sizeOf, typeInfo, hi, hi1, Result.andThen]
  · refine ⟨by rw [List.length_drop, h1, Nat.sub_mul], _, _, rfl, by omega, by omega, ?_⟩
    rcases h5 with h5 | ⟨b, off, rfl, hB, hc⟩
    · exact .inl (by omega)
    · by_cases e : n = k
      · exact .inl (by omega)
      · refine .inr ⟨b, off + k * size, ?_, hB, fun j hj => ?_⟩
        · rw [if_neg (by omega), Option.map_some, addr_add]
        · rw [Nat.add_assoc, hc (k * size + j) (by rw [Nat.sub_mul] at hj; omega), List.getElem?_drop]

/-- The cells of an element. -/
theorem flat_get {α : Type} (f : α → List Value) (size : Nat) (hf : ∀ x, (f x).length = size) : ∀ (l : List α) (k : Nat) (x : α), l[k]? = some x → ∀ j, j < size → (l.flatMap f)[k * size + j]? = (f x)[j]?
  | [], k, x, h, _, _ => by simp at h
  | y :: l, 0, x, h, j, hj => by
    simp at h; subst h
    rw [List.flatMap_cons, Nat.zero_mul, Nat.zero_add, List.getElem?_append_left (by rw [hf]; exact hj)]
  | y :: l, k + 1, x, h, j, hj => by
    rw [List.flatMap_cons, List.getElem?_append_right (by rw [hf, Nat.succ_mul]; omega), hf, show (k + 1) * size + j - size = k * size + j by rw [Nat.succ_mul]; omega]
    exact flat_get f size hf l k x (by simpa using h) j hj
theorem flat_len {α : Type} (f : α → List Value) (size : Nat) (hf : ∀ x, (f x).length = size) : ∀ (l : List α), (l.flatMap f).length = l.length * size
  | [] => by simp
  | y :: l => by rw [List.flatMap_cons, List.length_append, hf, flat_len f size hf l, List.length_cons, Nat.succ_mul]; omega
theorem flat_drop {α : Type} (f : α → List Value) (size : Nat) (hf : ∀ x, (f x).length = size) : ∀ (l : List α) (k : Nat), (l.flatMap f).drop (k * size) = (l.drop k).flatMap f
  | l, 0 => by simp
  | [], k + 1 => by simp
  | y :: l, k + 1 => by
    rw [List.flatMap_cons, List.drop_append, hf, List.drop_of_length_le (by rw [hf, Nat.succ_mul]; omega), List.nil_append, show (k + 1) * size - size = k * size by rw [Nat.succ_mul]; omega, List.drop_succ_cons]
    exact flat_drop f size hf l k

/-- append(s, x...), s the call's own, x whatever lies ready. -/
theorem append_sl {P : Program} {ops : Array Oper} {rest : List Oper} {o : Oper} {a : Act} {Q : Exit → Act → World → Prop} (hgd : o.guard = none) (s x : Operand) (t : TypeId)
    (ho : o.op = .call { callee := .builtin .append, args := #[s, x], argTypes := #[t, t] }) (base : Nat) (e : TypeId) {z : Value} {bytes : Nat} (ht : P.underlying t = some (.slice e))
    (hinfo : (P.info? e).map (fun i => (i.zero, i.size, i.bytes)) = some (some z, size, bytes)) (hzs : z.cells.size = size) (hsz : 0 < size)
    {v : Value} {n : Nat} {xs : List Value} (hs : a.eval s = v) (hown : w.ownsRow base e size v n xs) {vx : Value} {m : Nat} {news : List Value} {B : Nat} (hx : a.eval x = vx) (hsl : Sl w B size vx m news) (hne : 0 < m) (h1 : ∀ u ∈ news, u.oneCell' = true)
    (hlen : (n + m) * (bytes + 1) ≤ 140737488355328) (hbase : base ≤ w.heap.size)
    (h : ∀ g cap w', w'.ownsRow base e size (.slice (some ⟨g, 0, none⟩) (n + m) cap) (n + m) (xs ++ news) → w.grownBy w' v.ownBlock → (v.ownBlock = some g ∨ g = w.heap.size) → g < w'.heap.size → wpList P ops Q rest (a.put o.dst (.slice (some ⟨g, 0, none⟩) (n + m) cap)) w') : wpList P ops Q (o :: rest) a w := by
  obtain ⟨i0, hi, hz0, hz1, hz2⟩ := info_parts hinfo
  obtain ⟨k1, ax, cx, rfl, k3, k4, k5⟩ := hsl
  rcases k5 with k5 | ⟨b, off, rfl, kB, kc⟩
  · omega
  have hb1 : (n + m) * bytes ≤ 140737488355328 := Nat.le_trans (Nat.mul_le_mul_left _ (by omega)) hlen
  have hb2 : n + m ≤ 140737488355328 := Nat.le_trans (Nat.le_mul_of_pos_right _ (by omega)) hlen
  exact wpList_append_lies w hgd s x t ho base e i0 z size bytes ht hi hz0 hz1 hz2 hzs hsz v n xs hs hown ⟨b, off, none⟩ m cx news hx k1 (fun j u hj => by
    have hj' : j < m * size := by rw [← k1]; exact (List.getElem?_eq_some_iff.1 hj).1
    rw [addr_add, kc j hj', hj]) h1 hne (by unfold maxLen; omega) hb1 hbase _ rfl h

/-- The same, its bounds one by one. -/
theorem append_sl2 {P : Program} {ops : Array Oper} {rest : List Oper} {o : Oper} {a : Act} {Q : Exit → Act → World → Prop} (hgd : o.guard = none) (s x : Operand) (t : TypeId)
    (ho : o.op = .call { callee := .builtin .append, args := #[s, x], argTypes := #[t, t] }) (base : Nat) (e : TypeId) {z : Value} {bytes : Nat} (ht : P.underlying t = some (.slice e))
    (hinfo : (P.info? e).map (fun i => (i.zero, i.size, i.bytes)) = some (some z, size, bytes)) (hzs : z.cells.size = size) (hsz : 0 < size)
    {v : Value} {n : Nat} {xs : List Value} (hs : a.eval s = v) (hown : w.ownsRow base e size v n xs) {vx : Value} {m : Nat} {news : List Value} {B : Nat} (hx : a.eval x = vx) (hsl : Sl w B size vx m news) (hne : 0 < m) (h1 : ∀ u ∈ news, u.oneCell' = true)
    (hb1 : (n + m) * bytes ≤ 140737488355328) (hb2 : n + m ≤ maxLen) (hbase : base ≤ w.heap.size)
    (h : ∀ g cap w', w'.ownsRow base e size (.slice (some ⟨g, 0, none⟩) (n + m) cap) (n + m) (xs ++ news) → w.grownBy w' v.ownBlock → (v.ownBlock = some g ∨ g = w.heap.size) → g < w'.heap.size → wpList P ops Q rest (a.put o.dst (.slice (some ⟨g, 0, none⟩) (n + m) cap)) w') : wpList P ops Q (o :: rest) a w := by
  obtain ⟨i0, hi, hz0, hz1, hz2⟩ := info_parts hinfo
  obtain ⟨k1, ax, cx, rfl, k3, k4, k5⟩ := hsl
  rcases k5 with k5 | ⟨b, off, rfl, kB, kc⟩
  · omega
  exact wpList_append_lies w hgd s x t ho base e i0 z size bytes ht hi hz0 hz1 hz2 hzs hsz v n xs hs hown ⟨b, off, none⟩ m cx news hx k1 (fun j u hj => by
    have hj' : j < m * size := by rw [← k1]; exact (List.getElem?_eq_some_iff.1 hj).1
    rw [addr_add, kc j hj', hj]) h1 hne hb2 hb1 hbase _ rfl h
end

/-- A row of the call's own stays where only what is new, or another block, turns. -/
theorem own_below {w w' : World} {base : Nat} {e : TypeId} {size : Nat} {v : Value} {n : Nat} {xs : List Value} (h : w.ownsRow base e size v n xs) (hb : Below w.heap.size w w') : w'.ownsRow base e size v n xs := by
  refine ⟨h.1, ?_⟩
  rcases h.2 with h2 | ⟨g, cap, cur, hv, hB, hg, r⟩
  · exact .inl h2
  · exact .inr ⟨g, cap, cur, hv, hB, by rw [hb.block g (Array.getElem?_eq_some_iff.1 hg).1]; exact hg, r⟩
theorem own_from {w : World} {base base' : Nat} {e : TypeId} {size : Nat} {v : Value} {n : Nat} {xs : List Value} (h : w.ownsRow base e size v n xs) (hB : base' ≤ base) : w.ownsRow base' e size v n xs := by
  refine ⟨h.1, ?_⟩
  rcases h.2 with h2 | ⟨g, cap, cur, hv, hB2, r⟩
  · exact .inl h2
  · exact .inr ⟨g, cap, cur, hv, Nat.le_trans hB hB2, r⟩

/-- A slice that has just been made of elements that are written out. -/
theorem sl_made (w : World) (cs : Array Value) (e : TypeId) (n size : Nat) (hs : cs.size = n * size) (hn : n ≤ maxLen) {B : Nat} (hB : w.heap.size < B) : Sl (w.alloc (.cells cs e)) B size (.slice (some ⟨w.heap.size, 0, none⟩) n n) n cs.toList := by
  refine ⟨by simpa using hs, _, _, rfl, Nat.le_refl _, hn, .inr ⟨w.heap.size, 0, rfl, hB, fun j _ => ?_⟩⟩
  rw [Nat.zero_add]
  unfold World.cell?
  rw [heap_alloc_new]
  simp

theorem sl_made_at (w : World) (cs : Array Value) (e : TypeId) (n size : Nat) (hs : cs.size = n * size) (hn : n ≤ maxLen) {g : Nat} (hg : g = w.heap.size) : Sl (w.alloc (.cells cs e)) (w.alloc (.cells cs e)).heap.size size (.slice (some ⟨g, 0, none⟩) n n) n cs.toList := by
  subst hg
  exact sl_made w cs e n size hs hn (by simp)

/-- Block g is just these cells, none of which is frozen. -/
def Blk (w : World) (g : Nat) (t : TypeId) (cs : Array Value) : Prop := w.heap[g]? = some (.cells cs t (0, 0))
section
variable {w w' : World} {g : Nat} {t : TypeId} {cs : Array Value}
theorem Blk.lt (h : Blk w g t cs) : g < w.heap.size := by
  rcases Nat.lt_or_ge g w.heap.size with hlt | hge
  · exact hlt
  · unfold Blk at h; rw [Array.getElem?_eq_none hge] at h; cases h
theorem Blk.cell (h : Blk w g t cs) (i : Nat) : w.cell? ⟨g, i, none⟩ = cs[i]? := by
  unfold Blk at h
  simp [World.cell?, h]
theorem Blk.free (h : Blk w g t cs) (i : Nat) : w.frozen? ⟨g, i, none⟩ = false := by
  unfold Blk at h
  simp [World.frozen?, h]
theorem Blk.new (w : World) (t : TypeId) (cs : Array Value) : Blk (w.alloc (.cells cs t)) w.heap.size t cs := heap_alloc_new w _
theorem Blk.alloc (h : Blk w g t cs) (o : Obj) : Blk (w.alloc o) g t cs := (Below.heap_alloc w o g h.lt).trans h
theorem Blk.put (h : Blk w g t cs) (i : Nat) (u : Value) : Blk (w.setCell ⟨g, i, none⟩ u) g t (cs.setIfInBounds i u) := by
  unfold Blk at h ⊢
  simp [World.setCell, Array.getElem?_modify, h]
theorem Blk.far (h : Blk w g t cs) {p : Addr} (hp : g ≠ p.block) (u : Value) : Blk (w.setCell p u) g t cs := (Below.heap_setCell w p u g hp).trans h
theorem Blk.below {B : Nat} (h : Blk w g t cs) (hb : Below B w w') (hg : g < B) : Blk w' g t cs := (hb.block g hg).trans h
theorem Blk.grown (h : Blk w g t cs) {row : Option Nat} (hg : w.grownBy w' row) (hr : row ≠ some g) : Blk w' g t cs := (hg.block g h.lt (Ne.symm hr)).trans h
theorem Blk.drewN (h : Blk w g t cs) (n : Nat) : Blk (w.drewN n) g t cs := h
end
theorem own_shape {w : World} {base : Nat} {e : TypeId} {size : Nat} {v : Value} {n : Nat} {xs : List Value} (h : w.ownsRow base e size v n xs) : ∃ a cap, v = .slice a n cap := by
  rcases h.2 with ⟨rfl, rfl⟩ | ⟨g, cap, cur, rfl, _⟩
  · exact ⟨none, 0, rfl⟩
  · exact ⟨_, cap, rfl⟩
theorem own_ne {w : World} {base : Nat} {e : TypeId} {size : Nat} {v : Value} {n : Nat} {xs : List Value} (h : w.ownsRow base e size v n xs) {g : Nat} (hg : g < base) : v.ownBlock ≠ some g := fun e => by
  have := (World.ownsRow.lt h g e).1
  omega
theorem own_far {w : World} {base : Nat} {e : TypeId} {size : Nat} {v : Value} {n : Nat} {xs : List Value} (h : w.ownsRow base e size v n xs) {p : Addr} (hp : p.block < base) (u : Value) : (w.setCell p u).ownsRow base e size v n xs := ownsRow_setCell_below h hp u
end Go.Proofs.YtnackmnoldkihaaGreatDoor
/-
  Scripts as trees, and how they lie in memory.
-/
namespace Go.Proofs.YtnackmnoldkihaaGreatDoor
open Go.RowKit

/-- A name that is given a word. -/
structure AsF (π : Type) where
  name : ByteArray
  word : List π
/-- A redirection. -/
structure RdF (π : Type) where
  fd : Int
  op : ByteArray
  tag : ByteArray
  word : List π
/-- A case's arm. -/
structure ArF (π ν : Type) where
  words : List (List π)
  body : List ν
mutual
inductive Pt where
  | mk (kind : Int) (quoted : Bool) (text op : ByteArray) (word : List Pt) (body : List Nd)
inductive Nd where
  | mk (kind : Int) (name : ByteArray) (assigns : List (AsF Pt)) (words : List (List Pt)) (redirs : List (RdF Pt)) (lists : List (List Nd)) (arms : List (ArF Pt Nd))
end
abbrev As := AsF Pt
abbrev Rd := RdF Pt
abbrev Ar := ArF Pt Nd
namespace Pt
def kind : Pt → Int | mk k _ _ _ _ _ => k
def quoted : Pt → Bool | mk _ q _ _ _ _ => q
def text : Pt → ByteArray | mk _ _ t _ _ _ => t
def op : Pt → ByteArray | mk _ _ _ o _ _ => o
def word : Pt → List Pt | mk _ _ _ _ w _ => w
def body : Pt → List Nd | mk _ _ _ _ _ b => b
end Pt
namespace Nd
def kind : Nd → Int | mk k _ _ _ _ _ _ => k
def name : Nd → ByteArray | mk _ n _ _ _ _ _ => n
def assigns : Nd → List As | mk _ _ a _ _ _ _ => a
def words : Nd → List (List Pt) | mk _ _ _ w _ _ _ => w
def redirs : Nd → List Rd | mk _ _ _ _ r _ _ => r
def lists : Nd → List (List Nd) | mk _ _ _ _ _ l _ => l
def arms : Nd → List Ar | mk _ _ _ _ _ _ m => m
end Nd

/-- No text and no list is longer. -/
def bigN : Nat := 1048576

/-- v is a slice of the things l, each of so many cells, of which F tells. -/
def SlOf {α : Type} (w : World) (B size : Nat) (F : α → List Value → Prop) (l : List α) (v : Value) : Prop :=
  l.length ≤ bigN ∧ ∃ cs : List (List Value), cs.length = l.length ∧ (∀ c ∈ cs, c.length = size) ∧ Sl w B size v l.length cs.flatten ∧ ∀ (i : Nat) (x : α) (c : List Value), l[i]? = some x → cs[i]? = some c → F x c

theorem SlOf.imp {α : Type} {w w' : World} {B B' size : Nat} {F F' : α → List Value → Prop} {l : List α} {v : Value} (h : SlOf w B size F l v) (hs : ∀ xs, Sl w B size v l.length xs → Sl w' B' size v l.length xs) (hF : ∀ x ∈ l, ∀ c, F x c → F' x c) : SlOf w' B' size F' l v := by
  obtain ⟨h0, cs, h1, h2, h3, h4⟩ := h
  exact ⟨h0, cs, h1, h2, hs _ h3, fun i x c hx hc => hF x (List.mem_of_getElem? hx) c (h4 i x c hx hc)⟩

mutual
/-- v is a slice of the parts l, which nest no deeper than so. -/
def PtsIn (w : World) (B : Nat) : Nat → List Pt → Value → Prop
  | 0, l, v => SlOf w B 6 (fun _ _ => False) l v
  | n + 1, l, v => SlOf w B 6 (fun p c => p.text.size ≤ bigN ∧ p.op.size ≤ bigN ∧ ∃ wv bv, c = [.int .i64 p.kind, .bool p.quoted, .string p.text, .string p.op, wv, bv] ∧ PtsIn w B n p.word wv ∧ NdsIn w B n p.body bv) l v
/-- v is a slice of the commands l. -/
def NdsIn (w : World) (B : Nat) : Nat → List Nd → Value → Prop
  | 0, l, v => SlOf w B 7 (fun _ _ => False) l v
  | n + 1, l, v => SlOf w B 7 (fun x c => x.name.size ≤ bigN ∧ ∃ av wv rv lv mv, c = [.int .i64 x.kind, .string x.name, av, wv, rv, lv, mv] ∧
      SlOf w B 2 (fun (a : As) c => a.name.size ≤ bigN ∧ ∃ v, c = [.string a.name, v] ∧ PtsIn w B n a.word v) x.assigns av ∧
      SlOf w B 1 (fun (y : List Pt) c => ∃ v, c = [v] ∧ PtsIn w B n y v) x.words wv ∧
      SlOf w B 4 (fun (r : Rd) c => r.op.size ≤ bigN ∧ r.tag.size ≤ bigN ∧ (r.word.map fun p => p.text.size).sum ≤ bigN ∧ ∃ v, c = [.int .i64 r.fd, .string r.op, .string r.tag, v] ∧ PtsIn w B n r.word v) x.redirs rv ∧
      SlOf w B 1 (fun (y : List Nd) c => ∃ v, c = [v] ∧ NdsIn w B n y v) x.lists lv ∧
      SlOf w B 2 (fun (a : Ar) c => ∃ wv bv, c = [wv, bv] ∧ SlOf w B 1 (fun (y : List Pt) c => ∃ v, c = [v] ∧ PtsIn w B n y v) a.words wv ∧ NdsIn w B n a.body bv) x.arms mv) l v
end

/-- One part's cells. -/
def PtC (w : World) (B n : Nat) (p : Pt) (c : List Value) : Prop := p.text.size ≤ bigN ∧ p.op.size ≤ bigN ∧ ∃ wv bv, c = [.int .i64 p.kind, .bool p.quoted, .string p.text, .string p.op, wv, bv] ∧ PtsIn w B n p.word wv ∧ NdsIn w B n p.body bv
/-- Words. -/
abbrev WdsIn (w : World) (B n : Nat) (l : List (List Pt)) (v : Value) : Prop := SlOf w B 1 (fun (y : List Pt) c => ∃ v, c = [v] ∧ PtsIn w B n y v) l v
abbrev LssIn (w : World) (B n : Nat) (l : List (List Nd)) (v : Value) : Prop := SlOf w B 1 (fun (y : List Nd) c => ∃ v, c = [v] ∧ NdsIn w B n y v) l v
def AsC (w : World) (B n : Nat) (a : As) (c : List Value) : Prop := a.name.size ≤ bigN ∧ ∃ v, c = [.string a.name, v] ∧ PtsIn w B n a.word v
def RdC (w : World) (B n : Nat) (r : Rd) (c : List Value) : Prop := r.op.size ≤ bigN ∧ r.tag.size ≤ bigN ∧ (r.word.map fun p => p.text.size).sum ≤ bigN ∧ ∃ v, c = [.int .i64 r.fd, .string r.op, .string r.tag, v] ∧ PtsIn w B n r.word v
def ArC (w : World) (B n : Nat) (a : Ar) (c : List Value) : Prop := ∃ wv bv, c = [wv, bv] ∧ WdsIn w B n a.words wv ∧ NdsIn w B n a.body bv
abbrev AssIn (w : World) (B n : Nat) (l : List As) (v : Value) : Prop := SlOf w B 2 (AsC w B n) l v
abbrev RdsIn (w : World) (B n : Nat) (l : List Rd) (v : Value) : Prop := SlOf w B 4 (RdC w B n) l v
abbrev ArsIn (w : World) (B n : Nat) (l : List Ar) (v : Value) : Prop := SlOf w B 2 (ArC w B n) l v
/-- One command's cells. -/
def NdC (w : World) (B n : Nat) (x : Nd) (c : List Value) : Prop := x.name.size ≤ bigN ∧ ∃ av wv rv lv mv, c = [.int .i64 x.kind, .string x.name, av, wv, rv, lv, mv] ∧ AssIn w B n x.assigns av ∧ WdsIn w B n x.words wv ∧ RdsIn w B n x.redirs rv ∧ LssIn w B n x.lists lv ∧ ArsIn w B n x.arms mv
theorem PtsIn.succ {w : World} {B n : Nat} {l : List Pt} {v : Value} : PtsIn w B (n + 1) l v = SlOf w B 6 (PtC w B n) l v := by rw [PtsIn]; rfl
theorem NdsIn.succ {w : World} {B n : Nat} {l : List Nd} {v : Value} : NdsIn w B (n + 1) l v = SlOf w B 7 (NdC w B n) l v := by rw [NdsIn]; rfl

/-! ### where nothing has turned that lies below -/
theorem in_keep {w w' : World} {B B' : Nat} (hs : ∀ (size n : Nat) (v : Value) (xs : List Value), Sl w B size v n xs → Sl w' B' size v n xs) : ∀ n, (∀ l v, PtsIn w B n l v → PtsIn w' B' n l v) ∧ (∀ l v, NdsIn w B n l v → NdsIn w' B' n l v)
  | 0 => by
    refine ⟨fun l v h => ?_, fun l v h => ?_⟩
    · rw [PtsIn] at h ⊢; exact h.imp (hs _ _ _) fun _ _ _ h => h
    · rw [NdsIn] at h ⊢; exact h.imp (hs _ _ _) fun _ _ _ h => h
  | n + 1 => by
    obtain ⟨hp, hn⟩ := in_keep hs n
    have hw : ∀ l v, WdsIn w B n l v → WdsIn w' B' n l v := fun l v h => h.imp (hs _ _ _) fun x _ c ⟨v, e, h⟩ => ⟨v, e, hp _ _ h⟩
    refine ⟨fun l v h => ?_, fun l v h => ?_⟩
    · rw [PtsIn.succ] at h ⊢
      exact h.imp (hs _ _ _) fun p _ c ⟨h1, h2, wv, bv, e, h3, h4⟩ => ⟨h1, h2, wv, bv, e, hp _ _ h3, hn _ _ h4⟩
    · rw [NdsIn.succ] at h ⊢
      refine h.imp (hs _ _ _) fun x _ c ⟨h1, av, wv, rv, lv, mv, e, h2, h3, h4, h5, h6⟩ => ⟨h1, av, wv, rv, lv, mv, e, ?_, hw _ _ h3, ?_, ?_, ?_⟩
      · exact h2.imp (hs _ _ _) fun a _ c ⟨h1, v, e, h⟩ => ⟨h1, v, e, hp _ _ h⟩
      · exact h4.imp (hs _ _ _) fun a _ c ⟨h1, h2, h3, v, e, h⟩ => ⟨h1, h2, h3, v, e, hp _ _ h⟩
      · exact h5.imp (hs _ _ _) fun a _ c ⟨v, e, h⟩ => ⟨v, e, hn _ _ h⟩
      · exact h6.imp (hs _ _ _) fun a _ c ⟨wv, bv, e, h1, h2⟩ => ⟨wv, bv, e, hw _ _ h1, hn _ _ h2⟩
section
variable {w w' : World} {B n : Nat}
theorem sl_keep_of (hb : Below B w w') : ∀ (size n : Nat) (v : Value) (xs : List Value), Sl w B size v n xs → Sl w' B size v n xs := fun _ _ _ _ h => h.below hb
theorem PtsIn.below {l : List Pt} {v : Value} (h : PtsIn w B n l v) (hb : Below B w w') : PtsIn w' B n l v := (in_keep (sl_keep_of hb) n).1 _ _ h
theorem NdsIn.below {l : List Nd} {v : Value} (h : NdsIn w B n l v) (hb : Below B w w') : NdsIn w' B n l v := (in_keep (sl_keep_of hb) n).2 _ _ h
theorem PtsIn.mono {B' : Nat} {l : List Pt} {v : Value} (h : PtsIn w B n l v) (hB : B ≤ B') : PtsIn w B' n l v := (in_keep (fun _ _ _ _ h => h.mono hB) n).1 _ _ h
theorem NdsIn.mono {B' : Nat} {l : List Nd} {v : Value} (h : NdsIn w B n l v) (hB : B ≤ B') : NdsIn w B' n l v := (in_keep (fun _ _ _ _ h => h.mono hB) n).2 _ _ h
theorem PtC.keep {B' : Nat} {p : Pt} {c : List Value} (h : PtC w B n p c) (hs : ∀ (size n : Nat) (v : Value) (xs : List Value), Sl w B size v n xs → Sl w' B' size v n xs) : PtC w' B' n p c := by
  obtain ⟨h1, h2, wv, bv, e, h3, h4⟩ := h
  exact ⟨h1, h2, wv, bv, e, (in_keep hs n).1 _ _ h3, (in_keep hs n).2 _ _ h4⟩
theorem WdsIn.keep {B' : Nat} {l : List (List Pt)} {v : Value} (h : WdsIn w B n l v) (hs : ∀ (size n : Nat) (v : Value) (xs : List Value), Sl w B size v n xs → Sl w' B' size v n xs) : WdsIn w' B' n l v :=
  h.imp (hs _ _ _) fun _ _ _ ⟨v, e, h⟩ => ⟨v, e, (in_keep hs n).1 _ _ h⟩
theorem LssIn.keep {B' : Nat} {l : List (List Nd)} {v : Value} (h : LssIn w B n l v) (hs : ∀ (size n : Nat) (v : Value) (xs : List Value), Sl w B size v n xs → Sl w' B' size v n xs) : LssIn w' B' n l v :=
  h.imp (hs _ _ _) fun _ _ _ ⟨v, e, h⟩ => ⟨v, e, (in_keep hs n).2 _ _ h⟩
theorem AsC.keep {B' : Nat} {a : As} {c : List Value} (h : AsC w B n a c) (hs : ∀ (size n : Nat) (v : Value) (xs : List Value), Sl w B size v n xs → Sl w' B' size v n xs) : AsC w' B' n a c := by
  obtain ⟨h1, v, e, h⟩ := h
  exact ⟨h1, v, e, (in_keep hs n).1 _ _ h⟩
theorem RdC.keep {B' : Nat} {r : Rd} {c : List Value} (h : RdC w B n r c) (hs : ∀ (size n : Nat) (v : Value) (xs : List Value), Sl w B size v n xs → Sl w' B' size v n xs) : RdC w' B' n r c := by
  obtain ⟨h1, h2, h3, v, e, h⟩ := h
  exact ⟨h1, h2, h3, v, e, (in_keep hs n).1 _ _ h⟩
theorem ArC.keep {B' : Nat} {a : Ar} {c : List Value} (h : ArC w B n a c) (hs : ∀ (size n : Nat) (v : Value) (xs : List Value), Sl w B size v n xs → Sl w' B' size v n xs) : ArC w' B' n a c := by
  obtain ⟨wv, bv, e, h1, h2⟩ := h
  exact ⟨wv, bv, e, WdsIn.keep h1 hs, (in_keep hs n).2 _ _ h2⟩
theorem NdC.keep {B' : Nat} {x : Nd} {c : List Value} (h : NdC w B n x c) (hs : ∀ (size n : Nat) (v : Value) (xs : List Value), Sl w B size v n xs → Sl w' B' size v n xs) : NdC w' B' n x c := by
  obtain ⟨h1, av, wv, rv, lv, mv, e, h2, h3, h4, h5, h6⟩ := h
  exact ⟨h1, av, wv, rv, lv, mv, e, h2.imp (hs _ _ _) fun _ _ _ h => h.keep hs, WdsIn.keep h3 hs, h4.imp (hs _ _ _) fun _ _ _ h => h.keep hs, LssIn.keep h5 hs, h6.imp (hs _ _ _) fun _ _ _ h => h.keep hs⟩
end

/-! ### an element -/
theorem flatten_get {cs : List (List Value)} {size : Nat} (h : ∀ c ∈ cs, c.length = size) : ∀ {k : Nat} {c : List Value}, cs[k]? = some c → ∀ j, j < size → cs.flatten[k * size + j]? = c[j]? := by
  induction cs with
  | nil => intro k c hc; simp at hc
  | cons a cs ih =>
    intro k c hc j hj
    have ha := h a (by simp)
    cases k with
    | zero =>
      simp at hc; subst hc
      rw [List.flatten_cons, Nat.zero_mul, Nat.zero_add, List.getElem?_append_left (by omega)]
    | succ k =>
      rw [List.flatten_cons, List.getElem?_append_right (by rw [ha, Nat.succ_mul]; omega), ha, show (k + 1) * size + j - size = k * size + j by rw [Nat.succ_mul]; omega]
      exact ih (fun c hc => h c (by simp [hc])) (by simpa using hc) j hj

/-- The cells from a place on. -/
def CellsAt (w : World) (b o : Nat) (c : List Value) : Prop := ∀ j u, c[j]? = some u → w.cell? ⟨b, o + j, none⟩ = some u
theorem SlOf.shape {α : Type} {w : World} {B size : Nat} {F : α → List Value → Prop} {l : List α} {v : Value} (h : SlOf w B size F l v) : ∃ a cap, v = .slice a l.length cap := by
  obtain ⟨_, cs, _, _, ⟨_, a, cap, e, _⟩, _⟩ := h
  exact ⟨a, cap, e⟩
theorem SlOf.at {α : Type} {w : World} {B size : Nat} {F : α → List Value → Prop} {l : List α} {v : Value} (h : SlOf w B size F l v) (T E : Nat) (hT : Tryz.prog.underlying T = some (.slice E)) (hs : (Tryz.prog.info? E).map (·.size) = some size) {k : Nat} {x : α} (hx : l[k]? = some x) :
    ∃ b o c, (∀ w' : World, (Instr.indexAt T v (.int .i64 (k : Int))).run Tryz.prog w' = .ok (.pointer (some ⟨b, o, none⟩)) w') ∧ b < B ∧ CellsAt w b o c ∧ F x c ∧ c.length = size := by
  obtain ⟨h0, cs, h1, h2, h3, h4⟩ := h
  have hk := (List.getElem?_eq_some_iff.1 hx).1
  obtain ⟨a, cap, b, off, rfl, _, _, g1, g2, g3⟩ := h3.open (P := Tryz.prog) T E hT hs
  obtain ⟨c, hc⟩ : ∃ c, cs[k]? = some c := ⟨_, List.getElem?_eq_getElem (by omega)⟩
  have hcl := h2 c (List.mem_of_getElem? hc)
  refine ⟨b, off + k * size, c, fun w' => g1 k w' hk, by omega, fun j u hj => ?_, h4 k x c hx hc, hcl⟩
  have hj' : j < size := by rw [← hcl]; exact (List.getElem?_eq_some_iff.1 hj).1
  rw [Nat.add_assoc, g3 (k * size + j) (Nat.lt_of_lt_of_le (by omega : k * size + j < k * size + size) (by rw [← Nat.succ_mul]; exact Nat.mul_le_mul_right _ hk)), flatten_get h2 hc j hj', hj]
end Go.Proofs.YtnackmnoldkihaaGreatDoor
namespace Go.Proofs.YtnackmnoldkihaaGreatDoor
open Go.RowKit

/-- internal/bytealg.MaxLen holds some number. -/
def Held (w : World) : Prop := (∃ c, w.cell? ⟨0, 0, none⟩ = some (.int .i64 c)) ∧ 0 < w.heap.size
theorem Held.below {w w' : World} (h : Held w) {B : Nat} (hB : 0 < B) (hb : Below B w w') : Held w' := by
  obtain ⟨⟨c, hc⟩, h2⟩ := h
  exact ⟨⟨c, by rw [hb.cell hB]; exact hc⟩, Nat.lt_of_lt_of_le h2 hb.size⟩
end Go.Proofs.YtnackmnoldkihaaGreatDoor
