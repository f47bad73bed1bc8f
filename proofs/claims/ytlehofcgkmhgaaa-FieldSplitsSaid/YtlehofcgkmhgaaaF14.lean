/-
  refs, is: the walks.
-/
import Derived.Test.YtlehofcgkmhgaaaF13
namespace Go.Proofs.Ytlehofcgkmhgaaa
open Go.RowKit

def szs (l : List In) : Nat := (l.map (·.t.size)).sum
theorem szs_snoc {l : List In} {k : Nat} {x : In} (h : l[k]? = some x) : szs (l.take (k + 1)) = szs (l.take k) + x.t.size ∧ l.take (k + 1) = l.take k ++ [x] := by
  obtain ⟨hk, rfl⟩ := List.getElem?_eq_some_iff.1 h
  rw [List.take_succ_eq_append_getElem hk]
  refine ⟨?_, rfl⟩
  unfold szs
  rw [List.map_append, List.sum_append]
  simp only [List.map_cons, List.map_nil, List.sum_cons, List.sum_nil, Nat.add_zero]
def RefsPost (l : List In) (w : World) (e : Ending) (w' : World) : Prop := Below w.heap.size w w' ∧ if szs l ≤ 500 then ∃ v, e = .returned (.tuple #[v, .bool (decide (l.length ≤ 60))]) ∧ w'.ownsRow w.heap.size 65 4 v l.length (l.flatMap inC)
  else e = .returned (.tuple #[.slice none 0 0, .bool false])

set_option maxHeartbeats 2000000 in
theorem refs_any (l : List In) (v : Value) (w : World) (hl : Sl w w.heap.size 4 v l.length (l.flatMap inC)) (hz : ∀ p ∈ l, p.t.size ≤ 140737488355328) (hn : l.length * 24 ≤ 140737488355328) :
    Calls Try.prog 9 #[v] w (RefsPost l w) := by
  obtain ⟨n, hnl⟩ : ∃ n, n = l.length := ⟨_, rfl⟩
  rw [← hnl] at hl hn
  obtain ⟨a, cap, rfl⟩ : ∃ a cap, v = .slice a n cap := by
    obtain ⟨_, a, cap, h, _⟩ := hl
    exact ⟨a, cap, h⟩
  have HL := Lib.hid hl
  have HN := Lib.hid hnl
  have HZ := Lib.hid hz
  clear hl hnl hz
  go_enter Try.func9, Try.ntmps9
  go_wp2_with fail
  go_loopw [4, 5, 10] (fun v4 c i wr => ∃ k : Nat, k ≤ n ∧ i = .int .i64 k ∧ c = .int .i64 (szs (l.take k) : Nat) ∧ szs (l.take k) ≤ 500 ∧ wr.ownsRow w.heap.size 65 4 v4 k ((l.take k).flatMap inC) ∧ Below w.heap.size w wr) (fun _ _ i _ => n - (intOf i).toNat)
  case atStart => exact ⟨0, Nat.zero_le _, rfl, rfl, by simp [szs], World.ownsRow_nil _ _ _ _, Below.refl _ _⟩
  case round =>
    obtain ⟨k, hk, rfl, rfl, h5, hown, hb⟩ := hrel
    obtain ⟨wo, rfl⟩ : ∃ wo : World, wo = wr := ⟨_, rfl⟩
    have hbs := hb.size
    obtain ⟨oa, oc, rfl⟩ := own_shape hown
    obtain ⟨c0, hc0⟩ : ∃ c, c = szs (l.take k) := ⟨_, rfl⟩
    rw [← hc0] at h5 ⊢
    by_cases hlt : k < n
    · obtain ⟨x, hx⟩ : ∃ x, l[k]? = some x := ⟨_, List.getElem?_eq_getElem (by rw [← HN.out]; omega)⟩
      have hl1 := HL.out.below hb
      rw [HN.out] at hl1
      obtain ⟨b1, o1, i1, hb1, c1, c2, c3, c4⟩ := in_at hl1 hx (k : Int) rfl
      rw [← HN.out] at i1
      have hb1' : b1 < wo.heap.size := by omega
      have hxz := HZ.out x (List.mem_of_getElem? hx)
      have hsn := szs_snoc hx
      rw [← hc0] at hsn
      obtain ⟨t, q, sp, bk⟩ := x
      simp only at hxz hsn c1 c2 c3 c4
      have HSN := Lib.hid hsn
      have HO := Lib.hid hown
      have HB := Lib.hid hb
      clear hl1 hx hsn hown hb hc0
      by_cases hbig : (500 : Int) < (c0 : Int) + (t.size : Int)
      · have HR : Hid (¬ szs l ≤ 500) := Lib.hid (by
          have h1 := sum_take (·.t.size) l (k + 1)
          have h2 := HSN.out.1
          unfold szs at h2 ⊢
          omega)
        go_wp2_with fail
        go_ret2
        exact ⟨HB.out.alloc hbs _, by rw [if_neg HR.out]; rfl⟩
      · have hk24 : (k + 1) * 24 ≤ 140737488355328 := by omega
        have hk25 : k + 1 ≤ 140737488355328 := by omega
        have hc5 : c0 + t.size ≤ 500 := by omega
        go_wp2_with (at_builtin; go_must ((refine append_sl2 rfl _ _ 35 rfl w.heap.size 65 Try.underlying35 infoP rfl (by decide) (v := .slice oa k oc) (n := k) (xs := (l.take k).flatMap inC) rfl ((HO.out.alloc _).alloc _) (m := 1) (news := inC ⟨t, q, sp, bk⟩) rfl (sl_made_at _ #[.string t, .bool q, .bool sp, .bool bk] _ 1 4 rfl (by unfold maxLen; omega) (by simp)) (by omega) (ins_one [⟨t, q, sp, bk⟩]) hk24 (by unfold maxLen; omega) (by simp; omega) ?_); intro g1 cap1 w2 hown hgrow hlie hglt; have HB2 := Lib.hid (((HB.out.alloc hbs _).alloc (by simp; omega) _).grown hgrow (by simp; omega) fun p hp => (World.ownsRow.lt HO.out p hp).1); have HO2 := Lib.hid hown; clear hown hgrow hlie hglt))
        go_roundw
        case rel => exact ⟨k + 1, by omega, by go_num, by rw [HSN.out.1]; go_num, by rw [HSN.out.1]; exact hc5, by rw [HSN.out.2, List.flatMap_append]; simpa using HO2.out, HB2.out⟩
        case measure => simp [intOf]; omega
    · obtain rfl : k = n := by omega
      have e : l.take k = l := List.take_of_length_le (by rw [← HN.out]; omega)
      have HO := Lib.hid hown
      have HB := Lib.hid hb
      have H5 : Hid (szs l ≤ 500) := Lib.hid (by rw [← e, ← hc0]; exact h5)
      rw [e] at HO
      clear hown hb hc0 e
      go_wp2_with fail
      go_ret2
      refine ⟨HB.out, ?_⟩
      rw [if_pos H5.out]
      refine ⟨_, congrArg Ending.returned (congrArg Value.tuple (by rw [← HN.out, show decide ((k : Int) ≤ 60) = decide (k ≤ 60) by rw [decide_eq_decide]; omega]; rfl)), ?_⟩
      rw [← HN.out]; exact HO.out
end Go.Proofs.Ytlehofcgkmhgaaa
