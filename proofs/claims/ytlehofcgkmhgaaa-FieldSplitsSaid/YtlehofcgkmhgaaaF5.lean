/-
  whites, split: the walks.
-/
import Derived.Test.YtlehofcgkmhgaaaF4
import Derived.Test.YtlehofcgkmhgaaaBytes
import Derived.Test.YtlehofcgkmhgaaaShelf
import Derived.Deep.QuietTactic
import Derived.BigQuiet
namespace Go.Proofs.Ytlehofcgkmhgaaa
open Go.RowKit

@[go_sem] theorem Try.convK (w : World) (b off l c : Nat) : (convert 58 9 (.slice (some ⟨b, off, none⟩) l c)).run Try.prog w = convK (cellBytes w b off l) w (convFb Try.prog w 58 9 b off l c) :=
  run_convK 58 9 5 Try.underlying58 Try.underlying5 Try.underlying9 w b off l c
theorem beq_byte (b c : UInt8) : (((b.toNat : Nat) : Int) == ((c.toNat : Nat) : Int)) = (b == c) := by
  rw [Bool.eq_iff_iff, beq_iff_eq, beq_iff_eq]
  constructor
  · intro h; exact UInt8.toNat_inj.1 (by omega)
  · intro h; rw [h]
def whL (l : List UInt8) : List UInt8 := l.filter isW
def otL (l : List UInt8) : List UInt8 := l.filter (fun c => !isW c)
theorem wh_has (l : List UInt8) (c : UInt8) : hasB (whL l) c = (hasB l c && isW c) := by
  unfold hasB whL
  rw [Bool.eq_iff_iff]
  simp
theorem ot_has (l : List UInt8) (c : UInt8) : hasB (otL l) c = (hasB l c && !isW c) := by
  unfold hasB otL
  rw [Bool.eq_iff_iff]
  simp
theorem ib_any (l : List UInt8) (c : UInt8) : ∃ v : Int, Lib.indexByte l c = v ∧ decide (v < 0) = !hasB l c := by
  refine ⟨_, rfl, ?_⟩
  have h0 := Lib.indexByte_ge l c
  unfold hasB
  by_cases h : c ∈ l
  · have : ¬ Lib.indexByte l c < 0 := fun hlt => by
      obtain ⟨k, hk, e⟩ := List.getElem_of_mem h
      exact Lib.indexByte_none (show Lib.indexByte l c = -1 by omega) k (by rw [List.getElem?_eq_getElem hk, e])
    simp [h, this]
  · have : Lib.indexByte l c < 0 := by
      rcases Int.lt_or_le (Lib.indexByte l c) 0 with h1 | h1
      · exact h1
      · obtain ⟨n, hn⟩ := Int.eq_ofNat_of_zero_le h1
        exact absurd (List.mem_of_getElem? (Lib.indexByte_some hn).1) h
    simp [h, this]
theorem take_snoc {l : List UInt8} {k : Nat} (h : k < l.length) : l.take (k + 1) = l.take k ++ [l.getD k 0] := by
  rw [List.take_succ_eq_append_getElem h]; simp [List.getD, h]
theorem filter_snoc (p : UInt8 → Bool) (l : List UInt8) (c : UInt8) : (l ++ [c]).filter p = l.filter p ++ if p c then [c] else [] := by
  rw [List.filter_append]
  cases h : p c <;> simp [h]
theorem S_snoc (l : List UInt8) (c : UInt8) : S l ++ ⟨#[c]⟩ = S (l ++ [c]) := S_append l [c]

set_option maxHeartbeats 1000000 in
theorem whites_any (s : ByteArray) (w : World) (hs : s.size ≤ 9223372036854775807) :
    Calls Try.prog 14 #[.string s] w fun e w' => e = .returned (.tuple #[.string (S (whL (L s))), .string (S (otL (L s)))]) ∧ Below w.heap.size w w' := by
  have HBM := Lib.hid (BytesAt.made w 5 s)
  have HBW := Lib.hid (below_bytesWorld w 5 s)
  go_enter Try.func14, Try.ntmps14
  go_wp2_with fail
  go_loopw [2, 3, 9] (fun a b i wr => ∃ k : Nat, k ≤ s.size ∧ i = .int .i64 k ∧ a = .string (S (whL ((L s).take k))) ∧ b = .string (S (otL ((L s).take k))) ∧ Below (Lib.bytesWorld w 5 s).heap.size (Lib.bytesWorld w 5 s) wr) (fun _ _ i _ => s.size - (intOf i).toNat)
  case atStart => exact ⟨0, by omega, rfl, rfl, rfl, Below.refl _ _⟩
  case round =>
    obtain ⟨k, hk, rfl, rfl, rfl, hb⟩ := hrel
    have HB := Lib.hid hb
    clear hb
    by_cases hlt : k < s.size
    · have hcell := ((HBM.out.below HB.out (by rw [Lib.bytesWorld_size]; omega)) k (by rw [L_size]; exact hlt)).1
      have htk := take_snoc (show k < (L s).length from hlt)
      obtain ⟨c, hc⟩ : ∃ c, c = (L s).getD k 0 := ⟨_, rfl⟩
      rw [← hc] at hcell htk
      have HTK := Lib.hid htk
      have e1 : (((c.toNat : Nat) : Int) == 32) = (c == 32) := beq_byte c 32
      have e2 : (((c.toNat : Nat) : Int) == 9) = (c == 9) := beq_byte c 9
      have e3 : (((c.toNat : Nat) : Int) == 10) = (c == 10) := beq_byte c 10
      have hw : isW c = (c == 32 || c == 9 || c == 10) := rfl
      obtain ⟨b1, hb1⟩ : ∃ b, (c == 32) = b := ⟨_, rfl⟩
      obtain ⟨b2, hb2⟩ : ∃ b, (c == 9) = b := ⟨_, rfl⟩
      obtain ⟨b3, hb3⟩ : ∃ b, (c == 10) = b := ⟨_, rfl⟩
      rw [hb1, hb2, hb3] at hw
      rw [hb1] at e1
      rw [hb2] at e2
      rw [hb3] at e3
      have z1 : (S (whL ((L s).take k))).size ≤ k := by rw [S_size]; exact Nat.le_trans (List.length_filter_le _ _) (by rw [List.length_take]; omega)
      have z2 : (S (otL ((L s).take k))).size ≤ k := by rw [S_size]; exact Nat.le_trans (List.length_filter_le _ _) (by rw [List.length_take]; omega)
      have F1 : Hid (whL ((L s).take (k + 1)) = whL ((L s).take k) ++ if isW c then [c] else []) := Lib.hid (by rw [HTK.out]; exact filter_snoc _ _ _)
      have F2 : Hid (otL ((L s).take (k + 1)) = otL ((L s).take k) ++ if isW c then [] else [c]) := Lib.hid (by rw [HTK.out, otL, filter_snoc]; cases isW c <;> rfl)
      obtain ⟨p, hp⟩ : ∃ p, p = whL ((L s).take k) := ⟨_, rfl⟩
      obtain ⟨q, hq⟩ : ∃ q, q = otL ((L s).take k) := ⟨_, rfl⟩
      rw [← hp] at F1 z1 ⊢
      rw [← hq] at F2 z2 ⊢
      have HW := Lib.hid hw
      clear htk hc hw hb1 hb2 hb3 hp hq
      cases b1 with
      | true =>
        go_wp2
        go_roundw
        case rel => exact ⟨k + 1, by omega, by go_num, by rw [F1.out, HW.out]; first | rfl | (simp; done) | (simp [S_snoc]; done), by rw [F2.out, HW.out]; first | rfl | (simp; done) | (simp [S_snoc]; done), by first | exact HB.out | exact HB.out.alloc (by have := HB.out.size; omega) _⟩
        case measure => simp [intOf]; omega
      | false =>
        cases b2 with
        | true =>
          go_wp2
          go_roundw
          case rel => exact ⟨k + 1, by omega, by go_num, by rw [F1.out, HW.out]; first | rfl | (simp; done) | (simp [S_snoc]; done), by rw [F2.out, HW.out]; first | rfl | (simp; done) | (simp [S_snoc]; done), by first | exact HB.out | exact HB.out.alloc (by have := HB.out.size; omega) _⟩
          case measure => simp [intOf]; omega
        | false =>
          cases b3 with
          | true =>
            go_wp2
            go_roundw
            case rel => exact ⟨k + 1, by omega, by go_num, by rw [F1.out, HW.out]; first | rfl | (simp; done) | (simp [S_snoc]; done), by rw [F2.out, HW.out]; first | rfl | (simp; done) | (simp [S_snoc]; done), by first | exact HB.out | exact HB.out.alloc (by have := HB.out.size; omega) _⟩
            case measure => simp [intOf]; omega
          | false =>
            go_wp2
            go_roundw
            case rel => exact ⟨k + 1, by omega, by go_num, by rw [F1.out, HW.out]; first | rfl | (simp; done) | (simp [S_snoc]; done), by rw [F2.out, HW.out]; first | rfl | (simp; done) | (simp [S_snoc]; done), by first | exact HB.out | exact HB.out.alloc (by have := HB.out.size; omega) _⟩
            case measure => simp [intOf]; omega
    · obtain rfl : k = s.size := by omega
      have e : (L s).take s.size = L s := List.take_of_length_le (by rw [L_size]; omega)
      rw [e]
      go_wp2
      go_ret2
      exact ⟨rfl, HBW.out.trans (HB.out.mono (by rw [Lib.bytesWorld_size]; omega))⟩
theorem put_fits {l : List Pc} {t : ByteArray} {q : Bool} {m M : Nat} (h : ∀ p ∈ l, p.t.size + (t.size + m) ≤ M) (ht : t.size + m ≤ M) : ∀ p ∈ putN l t q, p.t.size + m ≤ M := by
  intro p hp
  rcases snoc_or l with rfl | ⟨k, x, rfl⟩
  · rw [putN_nil] at hp
    simp at hp; subst hp; exact ht
  · by_cases hq : x.q = q
    · rw [putN_same _ _ _ _ hq] at hp
      rcases List.mem_append.1 hp with hp | hp
      · have := h p (by simp [hp]); omega
      · simp at hp; subst hp
        have := h x (by simp)
        simp [ByteArray.size_append]; omega
    · rw [putN_other _ _ _ _ hq] at hp
      rcases List.mem_append.1 hp with hp | hp
      · have := h p hp; omega
      · simp at hp; subst hp; exact ht
def FitS (s : St) (m : Nat) : Prop := (∀ p ∈ s.now, p.t.size + m ≤ 9223372036854775807) ∧ m ≤ 9223372036854775807 ∧ cnt s + m ≤ 1000000
theorem FitS.put {s : St} {m : Nat} {t : ByteArray} {q : Bool} (h : FitS s (t.size + m)) (ht : 0 < t.size) : FitS (putS s t q) m := by
  obtain ⟨h1, h2, h3⟩ := h
  exact ⟨put_fits h1 h2, by omega, by have := cnt_put s t q; omega⟩
theorem FitS.less {s : St} {m n : Nat} (h : FitS s m) (hn : n ≤ m) : FitS s n := ⟨fun p hp => by have := h.1 p hp; omega, by have := h.2.1; omega, by have := h.2.2; omega⟩
theorem FitS.clear {s s' : St} {m : Nat} (h : FitS s (m + 1)) (hc : cnt s' ≤ cnt s + 1) (hn : s'.now = [] ∨ s'.now = s.now) : FitS s' m := by
  obtain ⟨h1, h2, h3⟩ := h
  refine ⟨fun p hp => ?_, by omega, by omega⟩
  rcases hn with hn | hn
  · rw [hn] at hp; simp at hp
  · rw [hn] at hp; have := h1 p hp; omega
theorem FitS.len {s : St} {m : Nat} (h : FitS s m) : s.now.length ≤ 1000000 ∧ s.out.length ≤ 1000000 := by
  have := h.2.2
  unfold cnt at this
  omega
end Go.Proofs.Ytlehofcgkmhgaaa
