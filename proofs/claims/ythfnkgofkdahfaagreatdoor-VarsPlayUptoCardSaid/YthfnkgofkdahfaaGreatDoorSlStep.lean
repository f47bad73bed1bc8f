/-
  append to a slice of the call's own, at a step of a region that draws its order.
-/
import Derived.Test.YthfnkgofkdahfaaGreatDoorSl
namespace Go.Proofs.YthfnkgofkdahfaaGreatDoor
open Go.RowKit

section
variable {w : World} {size : Nat}
/-- The same at a step of a region that draws its order. -/
theorem step_append_sl {P : Program} {ops : Array Oper} {o : Oper} {a : Act} {K : Act → World → Prop} {Q : Exit → Act → World → Prop} {E : Prop} (hgd : o.guard = none) (s x : Operand) (t : TypeId)
    (ho : o.op = .call { callee := .builtin .append, args := #[s, x], argTypes := #[t, t] }) (base : Nat) (e : TypeId) {z : Value} {bytes : Nat} (ht : P.underlying t = some (.slice e))
    (hinfo : (P.info? e).map (fun i => (i.zero, i.size, i.bytes)) = some (some z, size, bytes)) (hzs : z.cells.size = size) (hsz : 0 < size)
    {v : Value} {n : Nat} {xs : List Value} (hs : a.eval s = v) (hown : w.ownsRow base e size v n xs) {vx : Value} {m : Nat} {news : List Value} {B : Nat} (hx : a.eval x = vx) (hsl : Sl w B size vx m news) (hne : 0 < m) (h1 : ∀ u ∈ news, u.oneCell' = true)
    (hlen : (n + m) * (bytes + 1) ≤ 140737488355328) (hbase : base ≤ w.heap.size)
    (h : ∀ g cap w', w'.ownsRow base e size (.slice (some ⟨g, 0, none⟩) (n + m) cap) (n + m) (xs ++ news) → w.grownBy w' v.ownBlock → (v.ownBlock = some g ∨ g = w.heap.size) → g < w'.heap.size → K (a.put o.dst (.slice (some ⟨g, 0, none⟩) (n + m) cap)) w') :
    if Region.wanted o (yielded ops a.tmps) = true then Oper.wp P o a w K Q else E := by
  obtain ⟨i0, hi, hz0, hz1, hz2⟩ := info_parts hinfo
  obtain ⟨k1, ax, cx, rfl, k3, k4, k5⟩ := hsl
  rcases k5 with k5 | ⟨b, off, rfl, kB, kc⟩
  · omega
  have hb1 : (n + m) * bytes ≤ 140737488355328 := Nat.le_trans (Nat.mul_le_mul_left _ (by omega)) hlen
  have hb2 : n + m ≤ 140737488355328 := Nat.le_trans (Nat.le_mul_of_pos_right _ (by omega)) hlen
  exact step_append_lies w hgd s x t ho base e i0 z size bytes ht hi hz0 hz1 hz2 hzs hsz v n xs hs hown ⟨b, off, none⟩ m cx news hx k1 (fun j u hj => by
    have hj' : j < m * size := by rw [← k1]; exact (List.getElem?_eq_some_iff.1 hj).1
    rw [addr_add, kc j hj', hj]) h1 hne (by unfold maxLen; omega) hb1 hbase _ rfl h
end
end Go.Proofs.YthfnkgofkdahfaaGreatDoor
