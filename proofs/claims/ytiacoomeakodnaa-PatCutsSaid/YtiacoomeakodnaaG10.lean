/-
  Means, Dot, Match: the walks.
-/
import Derived.Test.YtiacoomeakodnaaG9
import Derived.BigQuiet
import Derived.Lib.QuietBelow
namespace Go.Proofs.Ytiacoomeakodnaa
open Go.RowKit

theorem PatAt.shape {w : World} {B : Nat} {v : Value} {l : List Pt} (h : PatAt w B v l) : ∃ a cap, v = .slice a l.length cap ∧ l.length ≤ maxLen := by
  obtain ⟨ps, _, h2, _⟩ := h
  have h3 := h2.len
  obtain ⟨_, a, cap, h, _⟩ := h2
  exact ⟨a, cap, h, h3⟩

theorem pt_at {w : World} {B : Nat} {v : Value} {l : List Pt} (h : PatAt w B v l) {k : Nat} {p : Pt} (hp : l[k]? = some p) (i : Int) (hi : i = k) :
    ∃ b o sv, (∀ w' : World, (Instr.indexAt 24 v (.int .i64 i)).run Try.prog w' = .ok (.pointer (some ⟨b, o, none⟩)) w') ∧ b < B ∧ w.cell? ⟨b, o, none⟩ = some (.int .u8 ((p.kind.toNat : Nat) : Int)) ∧
      w.cell? ⟨b, o + 1, none⟩ = some (.int .u8 ((p.b.toNat : Nat) : Int)) ∧ w.cell? ⟨b, o + 2, none⟩ = some (.bool p.neg) ∧ w.cell? ⟨b, o + 3, none⟩ = some sv ∧ Sl w B 2 sv p.set.length (p.set.flatMap spanC) := by
  subst hi
  obtain ⟨ps, rfl, h2, h3⟩ := h
  rw [List.getElem?_map] at hp
  obtain ⟨x, hx, rfl⟩ := Option.map_eq_some_iff.1 hp
  rw [List.length_map] at h2
  have hk := (List.getElem?_eq_some_iff.1 hx).1
  obtain ⟨a, cap, b, off, rfl, _, _, q1, q2, q3⟩ := h2.open (P := Try.prog) 24 49 Try.underlying24 (by kernel_rfl)
  have g := flat_get ptC 4 ptC_len ps k x hx
  refine ⟨b, off + k * 4, x.2, fun w' => q1 k w' hk, by omega, ?_, ?_, ?_, ?_, h3 x (List.mem_of_getElem? hx)⟩
  · rw [show off + k * 4 = off + (k * 4 + 0) by omega, q3 _ (by omega), g 0 (by omega)]; rfl
  · rw [show off + k * 4 + 1 = off + (k * 4 + 1) by omega, q3 _ (by omega), g 1 (by omega)]; rfl
  · rw [show off + k * 4 + 2 = off + (k * 4 + 2) by omega, q3 _ (by omega), g 2 (by omega)]; rfl
  · rw [show off + k * 4 + 3 = off + (k * 4 + 3) by omega, q3 _ (by omega), g 3 (by omega)]; rfl

def meansP (l : List Pt) : Bool := l.any fun p => p.kind != 98

set_option maxHeartbeats 1000000 in
theorem means_any (v : Value) (l : List Pt) (w : World) (hp : PatAt w w.heap.size v l) : Calls Try.prog 14 #[.agg #[v]] w fun e w' => e = .returned (.bool (meansP l)) ∧ Below w.heap.size w w' := by
  obtain ⟨n, hn⟩ : ∃ n, n = l.length := ⟨_, rfl⟩
  obtain ⟨R, hR⟩ : ∃ R, R = meansP l := ⟨_, rfl⟩
  obtain ⟨a, cap, rfl, hl⟩ := hp.shape
  rw [← hn] at hp hl ⊢
  rw [← hR]
  unfold maxLen at hl
  have HP := Lib.hid hp
  have HN := Lib.hid hn
  have HR := Lib.hid hR
  clear hp hn hR
  go_enter Try.func14, Try.ntmps14
  go_wp2
  go_loopw [8] (fun i wr => ∃ k : Nat, k ≤ n ∧ i = .int .i64 k ∧ meansP (l.take k) = false ∧ Below w.heap.size w wr) (fun i _ => n - (intOf i).toNat)
  case atStart => exact ⟨0, Nat.zero_le _, rfl, by simp [meansP], Below.alloc (Below.refl _ _) (Nat.le_refl _) _⟩
  case round =>
    obtain ⟨k, hk, rfl, ha, hb⟩ := hrel
    have HB := Lib.hid hb
    have hbs := hb.size
    by_cases hlt : k < n
    · obtain ⟨p, hx⟩ : ∃ x, l[k]? = some x := ⟨_, List.getElem?_eq_getElem (by rw [← HN.out]; omega)⟩
      obtain ⟨b1, o1, sv, i1, hb1, c1, c2, c3, c4, hsl⟩ := pt_at (HP.out.below hb) hx (k : Int) rfl
      obtain ⟨_, sa, sc, rfl, _⟩ := hsl
      have hb1' : b1 < wr.heap.size := by omega
      have htk : meansP (l.take (k + 1)) = (p.kind != 98) := by
        obtain ⟨hk', e⟩ := List.getElem?_eq_some_iff.1 hx
        rw [List.take_succ_eq_append_getElem hk', e, meansP, List.any_append]
        rw [meansP] at ha
        rw [ha]; simp
      have hany : p.kind ≠ 98 → meansP l = true := fun h => List.any_eq_true.2 ⟨p, List.mem_of_getElem? hx, by simpa using h⟩
      by_cases g1 : p.kind = 98
      · have t1 : (((p.kind.toNat : Nat) : Int) != 98) = false := by rw [bne, show (((p.kind.toNat : Nat) : Int) == 98) = true from eq_byte g1]; rfl
        have hT : Hid (meansP (l.take (k + 1)) = false) := Lib.hid (by rw [htk, g1]; decide)
        clear hx htk hany ha hb g1
        go_wp2
        go_roundw
        case rel => exact ⟨k + 1, by omega, by go_num, hT.out, Below.alloc HB.out hbs _⟩
        case measure => simp [intOf]; omega
      · have t1 : (((p.kind.toNat : Nat) : Int) != 98) = true := by rw [bne, show (((p.kind.toNat : Nat) : Int) == 98) = false from ne_byte g1]; rfl
        have hR : R = true := by rw [HR.out, hany g1]
        subst hR
        clear hx htk hany ha hb g1
        go_wp2
        go_ret
        exact ⟨rfl, Below.alloc HB.out hbs _⟩
    · obtain rfl : k = n := by omega
      have hR : R = false := by
        rw [List.take_of_length_le (by rw [← HN.out]; omega)] at ha
        rw [HR.out, ha]
      subst hR
      clear ha hb
      go_wp2
      go_ret
      exact ⟨rfl, HB.out⟩

def dotP : List Pt → Bool
  | [] => false
  | p :: _ => p.kind == 98 && p.b == 46

set_option maxHeartbeats 1000000 in
theorem dot_any (v : Value) (l : List Pt) (w : World) (hp : PatAt w w.heap.size v l) : Calls Try.prog 16 #[.agg #[v]] w fun e w' => e = .returned (.bool (dotP l)) ∧ Below w.heap.size w w' := by
  obtain ⟨R, hR⟩ : ∃ R, R = dotP l := ⟨_, rfl⟩
  obtain ⟨n, hn⟩ : ∃ n, n = l.length := ⟨_, rfl⟩
  obtain ⟨a, cap, rfl, hl⟩ := hp.shape
  rw [← hn] at hp hl ⊢
  rw [← hR]
  unfold maxLen at hl
  cases l with
  | nil =>
    replace hR : R = false := hR
    obtain rfl : n = 0 := hn
    subst hR
    clear hp hl
    go_enter Try.func16, Try.ntmps16
    go_wp2
    go_ret
    exact ⟨rfl, Below.alloc (Below.refl _ _) (Nat.le_refl _) _⟩
  | cons p t =>
    obtain ⟨b1, o1, sv, i1, hb1, c1, c2, c3, c4, _⟩ := pt_at hp (k := 0) (p := p) rfl 0 rfl
    have hlen : 0 < n := by rw [hn]; simp
    have HR := Lib.hid hR
    clear hR hp hn
    by_cases g1 : p.kind = 98
    · have t1 : (((p.kind.toNat : Nat) : Int) == 98) = true := eq_byte g1
      by_cases g2 : p.b = 46
      · have t2 : (((p.b.toNat : Nat) : Int) == 46) = true := eq_byte g2
        have hR : R = true := by rw [HR.out, dotP, g1, g2]; rfl
        subst hR
        clear g1 g2 HR
        go_enter Try.func16, Try.ntmps16
        go_wp2
        go_ret
        exact ⟨rfl, Below.alloc (Below.refl _ _) (Nat.le_refl _) _⟩
      · have t2 : (((p.b.toNat : Nat) : Int) == 46) = false := ne_byte g2
        have hR : R = false := by rw [HR.out, dotP, g1]; simpa using g2
        subst hR
        clear g1 g2 HR
        go_enter Try.func16, Try.ntmps16
        go_wp2
        go_ret
        exact ⟨rfl, Below.alloc (Below.refl _ _) (Nat.le_refl _) _⟩
    · have t1 : (((p.kind.toNat : Nat) : Int) == 98) = false := ne_byte g1
      have hR : R = false := by rw [HR.out, dotP]; simp [g1]
      subst hR
      clear g1 HR
      go_enter Try.func16, Try.ntmps16
      go_wp2
      go_ret
      exact ⟨rfl, Below.alloc (Below.refl _ _) (Nat.le_refl _) _⟩
end Go.Proofs.Ytiacoomeakodnaa
