/-
  The document's patterns: is, In: the walks.
-/
import Derived.Test.YtiacoomeakodnaaG10
import Derived.Test.YtiacoomeakodnaaSt
namespace Go.Proofs.Ytiacoomeakodnaa
open Go.RowKit

/-- The sign at a place, if there is one, means something and is that. -/
def isAtL (l : List Sg) (k : Nat) (b : UInt8) : Bool := match l[k]? with
  | some s => isb s b
  | none => false
theorem isAtL_some {l : List Sg} {k : Nat} {s : Sg} (h : l[k]? = some s) (b : UInt8) : isAtL l k b = isb s b := by unfold isAtL; rw [h]
theorem isAtL_none {l : List Sg} {k : Nat} (h : l.length ≤ k) (b : UInt8) : isAtL l k b = false := by unfold isAtL; rw [List.getElem?_eq_none h]

theorem rsg_at {w : World} {B : Nat} {v : Value} {l : List Sg} (h : Sl w B 2 v l.length (l.flatMap sgC)) {k : Nat} {x : Sg} (hx : l[k]? = some x) (i : Int) (hi : i = k) :
    ∃ b o, (∀ w' : World, (Instr.indexAt 31 v (.int .i64 i)).run Try.prog w' = .ok (.pointer (some ⟨b, o, none⟩)) w') ∧ b < B ∧ w.cell? ⟨b, o, none⟩ = some (.int .u8 ((x.b.toNat : Nat) : Int)) ∧ w.cell? ⟨b, o + 1, none⟩ = some (.bool x.q) := by
  subst hi
  have hk := (List.getElem?_eq_some_iff.1 hx).1
  obtain ⟨a, cap, b, off, rfl, _, _, h1, h2, h3⟩ := h.open (P := Try.prog) 31 38 Try.underlying31 (by kernel_rfl)
  have g := flat_get sgC 2 sgC_len l k x hx
  refine ⟨b, off + k * 2, fun w' => h1 k w' hk, by omega, ?_, ?_⟩
  · rw [show off + k * 2 = off + (k * 2 + 0) by omega, h3 _ (by omega), g 0 (by omega)]; rfl
  · rw [show off + k * 2 + 1 = off + (k * 2 + 1) by omega, h3 _ (by omega), g 1 (by omega)]; rfl

set_option maxHeartbeats 1000000 in
theorem ris_any (l : List Sg) (v : Value) (k : Nat) (b : UInt8) (w : World) (hl : Sl w w.heap.size 2 v l.length (l.flatMap sgC)) (hk : k ≤ 1000000) :
    Calls Try.prog 24 #[v, .int .i64 (k : Int), .int .u8 ((b.toNat : Nat) : Int)] w fun e w' => e = .returned (.bool (isAtL l k b)) ∧ w = w' := by
  obtain ⟨n, hn⟩ : ∃ n, n = l.length := ⟨_, rfl⟩
  obtain ⟨R, hR⟩ : ∃ R, R = isAtL l k b := ⟨_, rfl⟩
  rw [← hR]
  rw [← hn] at hl
  have hm := hl.len
  unfold maxLen at hm
  obtain ⟨a, cap, rfl⟩ : ∃ a cap, v = .slice a n cap := by
    obtain ⟨_, a, cap, h, _⟩ := hl
    exact ⟨a, cap, h⟩
  have hk0 : 0 ≤ (k : Int) := by omega
  by_cases hlt : k < n
  · obtain ⟨x, hx⟩ : ∃ x, l[k]? = some x := ⟨_, List.getElem?_eq_getElem (by rw [← hn]; omega)⟩
    rw [hn] at hl
    obtain ⟨b1, o1, i1, hb1, c1, d1⟩ := rsg_at hl hx (k : Int) rfl
    rw [← hn] at i1
    have hbb := beq_byte x.b b
    rw [isAtL_some hx] at hR
    obtain ⟨xb, xq⟩ := x
    obtain ⟨r, hr⟩ : ∃ r, (xb == b) = r := ⟨_, rfl⟩
    simp only at hbb c1 d1
    rw [hr] at hbb
    have hR2 : R = (!xq && r) := by rw [hR, ← hr]; rfl
    have HR := Lib.hid hR2
    clear hR hR2 hr hl hx hn
    cases xq
    all_goals
      go_enter Try.func24, Try.ntmps24
      go_wp2
      go_ret
      exact ⟨ret_bool (by rw [HR.out]; simp), rfl⟩
  · have hR2 : R = false := by rw [hR, isAtL_none (by rw [← hn]; omega)]
    subst hR2
    clear hR hl hn
    go_enter Try.func24, Try.ntmps24
    go_wp2
    go_ret
    exact ⟨rfl, rfl⟩
end Go.Proofs.Ytiacoomeakodnaa
