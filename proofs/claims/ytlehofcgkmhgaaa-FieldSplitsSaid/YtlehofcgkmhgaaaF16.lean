/-
  Join, and the document's: the walks.
-/
import Derived.Test.YtlehofcgkmhgaaaF15
namespace Go.Proofs.Ytlehofcgkmhgaaa
open Go.RowKit

def jK (by_ : ByteArray) (l : List In) (k : Nat) : List Pc := (l.take k).foldl (joinP by_) []
theorem jK_succ {by_ : ByteArray} {l : List In} {k : Nat} {x : In} (h : l[k]? = some x) : jK by_ l (k + 1) = joinP by_ (jK by_ l k) x := by
  obtain ⟨hk, rfl⟩ := List.getElem?_eq_some_iff.1 h
  unfold jK
  rw [List.take_succ_eq_append_getElem hk, List.foldl_append]; rfl
theorem join_facts (by_ : ByteArray) : ∀ (l : List In) (o : List Pc), (l.foldl (joinP by_) o).length ≤ o.length + l.length ∧ (textL (l.foldl (joinP by_) o)).length ≤ (textL o).length + szs l + l.length * by_.size
  | [], o => by simp [szs]
  | p :: l, o => by
    obtain ⟨h1, h2⟩ := join_facts by_ l (joinP by_ o p)
    have h3 := join_len by_ o p
    have h4 : (textL (joinP by_ o p)).length ≤ (textL o).length + p.t.size + by_.size := by
      unfold joinP
      split
      · rw [textL_put]; omega
      · rw [textL_put]; omega
    have h5 : szs (p :: l) = p.t.size + szs l := by simp [szs]
    rw [List.foldl_cons, List.length_cons, h5, Nat.succ_mul]
    omega
theorem jK_facts (by_ : ByteArray) (l : List In) (h1 : szs l ≤ 500) (h2 : l.length ≤ 60) (h3 : by_.size ≤ 20) (k : Nat) : (jK by_ l k).length ≤ 60 ∧ (textL (jK by_ l k)).length ≤ 1700 := by
  obtain ⟨a, b⟩ := join_facts by_ (l.take k) []
  have c := sum_take (·.t.size) l k
  have d : (l.take k).length ≤ 60 := by rw [List.length_take]; omega
  have e : (l.take k).length * by_.size ≤ 60 * 20 := Nat.mul_le_mul d h3
  have f : (textL ([] : List Pc)).length = 0 := rfl
  have g : ([] : List Pc).length = 0 := rfl
  unfold szs at b h1
  unfold jK
  omega

def JoinPost (f : List Pc) (w : World) (e : Ending) (w' : World) : Prop := Below w.heap.size w w' ∧ ∃ v, e = .returned v ∧ w'.ownsRow w.heap.size 45 2 v f.length (f.flatMap pcC)
set_option maxHeartbeats 4000000 in
theorem join_any (by_ : ByteArray) (l : List In) (v : Value) (w : World) (hl : Sl w w.heap.size 4 v l.length (l.flatMap inC)) (h1 : szs l ≤ 500) (h2 : l.length ≤ 60) (h3 : by_.size ≤ 20) :
    Calls Try.prog 12 #[v, .string by_] w (JoinPost (joinF by_ l) w) := by
  have HJF := Lib.hid (jK_facts by_ l h1 h2 h3)
  have hone : ∀ x ∈ l, x.t.size ≤ 500 := fun x hx => by
    have := sum_mem (·.t.size) hx
    unfold szs at h1
    omega
  obtain ⟨n, hnl⟩ : ∃ n, n = l.length := ⟨_, rfl⟩
  rw [← hnl] at hl h2
  obtain ⟨a, cap, rfl⟩ : ∃ a cap, v = .slice a n cap := by
    obtain ⟨_, a, cap, h, _⟩ := hl
    exact ⟨a, cap, h⟩
  have HL := Lib.hid hl
  have HN := Lib.hid hnl
  have HONE := Lib.hid hone
  clear hl hnl h1 hone
  go_enter Try.func12, Try.ntmps12
  go_wp2_with fail
  go_loopw [5, 13] (fun o i wr => ∃ k : Nat, k ≤ n ∧ i = .int .i64 k ∧ wr.ownsRow w.heap.size 45 2 o (jK by_ l k).length ((jK by_ l k).flatMap pcC) ∧ Below w.heap.size w wr) (fun _ i _ => n - (intOf i).toNat)
  case atStart => exact ⟨0, Nat.zero_le _, rfl, World.ownsRow_nil _ _ _ _, Below.refl _ _⟩
  case round =>
    obtain ⟨k, hk, rfl, hown, hb⟩ := hrel
    obtain ⟨wo, rfl⟩ : ∃ wo : World, wo = wr := ⟨_, rfl⟩
    have hbs := hb.size
    by_cases hlt : k < n
    · obtain ⟨x, hx⟩ : ∃ x, l[k]? = some x := ⟨_, List.getElem?_eq_getElem (by rw [← HN.out]; omega)⟩
      have hl1 := HL.out.below hb
      rw [HN.out] at hl1
      obtain ⟨b1, o1, i1, hb1, c1, c2, c3, c4⟩ := in_at hl1 hx (k : Int) rfl
      rw [← HN.out] at i1
      have hb1' : b1 < wo.heap.size := by omega
      have hjs := jK_succ (by_ := by_) hx
      have hxz := HONE.out x (List.mem_of_getElem? hx)
      obtain ⟨t, q, sp, bk⟩ := x
      obtain ⟨cur, hcur⟩ : ∃ c, c = jK by_ l k := ⟨_, rfl⟩
      have hcf := HJF.out k
      rw [← hcur] at hown hjs hcf
      simp only at hxz c1 c2 c3 c4
      have HB := Lib.hid hb
      have HTX := Lib.hid (fun p (hp : p ∈ cur) => text_mem hp)
      clear hl1 hx hcur hb
      -- the text t', and whether it is quoted
      cases bk with
      | true =>
        replace hjs : jK by_ l (k + 1) = putN cur by_ true := hjs
        rcases snoc_or cur with rfl | ⟨m, p, rfl⟩
        · obtain ⟨oa, oc, rfl⟩ := own_shape hown
          have HO := Lib.hid hown
          have HJS : Hid ((jK by_ l (k + 1)).length = 0 + 1 ∧ (jK by_ l (k + 1)).flatMap pcC = [] ++ [.string by_, .bool true]) := Lib.hid (by rw [hjs, putN_nil]; exact ⟨rfl, rfl⟩)
          rw [List.length_nil] at HO ⊢
          clear hown hjs
          have HBA := Lib.hid (Below.alloc (Below.refl wo.heap.size wo) (Nat.le_refl _) (.cells #[.string t, .bool q, .bool sp, .bool true] 26))
          go_wp2_with fail
          go_quiet (fail)
          have HBD := Lib.hid (below_drewN HBA.out nq)
          have HOD := Lib.hid (own_below HO.out HBD.out)
          go_wp2_with (at_builtin; go_must ((refine append_sl rfl _ _ 30 rfl w.heap.size 45 Try.underlying30 infoPc rfl (by decide) (v := .slice oa 0 oc) (n := 0) (xs := []) rfl (HOD.out.alloc _) (m := 1) (news := [.string by_, .bool true]) rfl (sl_made_at _ #[.string by_, .bool true] _ 1 2 rfl (by unfold maxLen; omega) (by simp)) (by omega) (pcs_one [⟨by_, true⟩]) (by omega) (by simp; omega) ?_); intro g1 cap1 w2 hown hgrow hlie hglt; have HO2 := Lib.hid hown; have HB2 := Lib.hid (((HB.out.trans (HBD.out.mono hbs)).alloc (by simp; omega) _).grown hgrow (by simp; omega) fun p hp => (World.ownsRow.lt HO.out p hp).1); clear hown hgrow hlie hglt))
          go_roundw
          case rel => exact ⟨k + 1, by omega, by go_num, by rw [HJS.out.1, HJS.out.2]; exact HO2.out, HB2.out⟩
          case measure => simp [intOf]; omega
        · obtain ⟨pt, pq⟩ := p
          obtain ⟨mn, hnm⟩ : ∃ n, n = m.length := ⟨_, rfl⟩
          have hlen : (m ++ [(⟨pt, pq⟩ : Pc)]).length = mn + 1 := by simp [hnm]
          obtain ⟨d0, d1⟩ := last_cells m ⟨pt, pq⟩
          rw [hlen] at hown hcf
          rw [← hnm] at d0 d1
          have hptz : pt.size ≤ 1700 := Nat.le_trans (HTX.out ⟨pt, pq⟩ (by simp)) hcf.2
          obtain ⟨gb, oc, rfl, hgb, hgw, j0, hce⟩ := own_at (P := Try.prog) hown 30 Try.underlying30 (by kernel_rfl) (k := mn) (by omega) (mn : Int) rfl
          have e0 := (hce (mn * 2) (by omega)).1.trans d0
          have e1 := (hce (mn * 2 + 1) (by omega)).1.trans d1
          have q0 := (hce (mn * 2) (by omega)).2
          have HO := Lib.hid hown
          have HNM := Lib.hid hnm
          clear hown hce d0 d1 hnm
          by_cases hpq : pq = true
          · have HJS : Hid ((jK by_ l (k + 1)).length = mn + 1 ∧ (jK by_ l (k + 1)).flatMap pcC = ((m ++ [(⟨pt, pq⟩ : Pc)]).flatMap pcC).set (mn * 2) (.string (pt ++ by_))) := Lib.hid (by
              rw [hjs, putN_same m ⟨pt, pq⟩ _ _ hpq, HNM.out, flat_set]
              exact ⟨by simp, by rw [← hpq]⟩)
            have hpq2 : (pq == true) = true := by rw [hpq]; simp
            clear hjs hlen hpq
            have HBA := Lib.hid (Below.alloc (Below.refl wo.heap.size wo) (Nat.le_refl _) (.cells #[.string t, .bool q, .bool sp, .bool true] 26))
            go_wp2_with fail
            go_quiet (fail)
            have HBD := Lib.hid (below_drewN HBA.out nq)
            have HOD := Lib.hid (own_below HO.out HBD.out)
            go_wp2
            obtain ⟨hs1, hs2⟩ := World.ownsRow.stored HOD.out (mn * 2) (.string (pt ++ by_))
            have HO2 := Lib.hid hs1
            have HB2 : Hid (Below w.heap.size w _) := Lib.hid ((HB.out.trans (HBD.out.mono hbs)).grown hs2 (by simp; omega) fun p hp => by cases hp; exact hgb)
            clear hs1 hs2
            go_roundw
            case rel => exact ⟨k + 1, by omega, by go_num, by rw [HJS.out.1, HJS.out.2]; exact HO2.out, HB2.out⟩
            case measure => simp [intOf]; omega
          · have HJS : Hid ((jK by_ l (k + 1)).length = mn + 1 + 1 ∧ (jK by_ l (k + 1)).flatMap pcC = (m ++ [(⟨pt, pq⟩ : Pc)]).flatMap pcC ++ [.string by_, .bool true]) := Lib.hid (by
              rw [hjs, putN_other m ⟨pt, pq⟩ _ _ hpq, List.length_append, hlen, List.flatMap_append]
              exact ⟨rfl, rfl⟩)
            have hpq2 : (pq == true) = false := by rw [beq_eq_false_iff_ne]; exact hpq
            clear hjs hlen hpq
            have HBA := Lib.hid (Below.alloc (Below.refl wo.heap.size wo) (Nat.le_refl _) (.cells #[.string t, .bool q, .bool sp, .bool true] 26))
            go_wp2_with fail
            go_quiet (fail)
            have HBD := Lib.hid (below_drewN HBA.out nq)
            have HOD := Lib.hid (own_below HO.out HBD.out)
            go_wp2_with (at_builtin; go_must ((refine append_sl rfl _ _ 30 rfl w.heap.size 45 Try.underlying30 infoPc rfl (by decide) (v := .slice (some ⟨gb, 0, none⟩) (mn + 1) oc) (n := mn + 1) (xs := (m ++ [(⟨pt, pq⟩ : Pc)]).flatMap pcC) rfl (HOD.out.alloc _) (m := 1) (news := [.string by_, .bool true]) rfl (sl_made_at _ #[.string by_, .bool true] _ 1 2 rfl (by unfold maxLen; omega) (by simp)) (by omega) (pcs_one [⟨by_, true⟩]) (by omega) (by simp; omega) ?_); intro g1 cap1 w2 hown hgrow hlie hglt; have HO2 := Lib.hid hown; have HB2 := Lib.hid (((HB.out.trans (HBD.out.mono hbs)).alloc (by simp; omega) _).grown hgrow (by simp; omega) fun p hp => (World.ownsRow.lt HO.out p hp).1); clear hown hgrow hlie hglt))
            go_roundw
            case rel => exact ⟨k + 1, by omega, by go_num, by rw [HJS.out.1, HJS.out.2]; exact HO2.out, HB2.out⟩
            case measure => simp [intOf]; omega
      | false =>
        replace hjs : jK by_ l (k + 1) = putN cur t q := hjs
        rcases snoc_or cur with rfl | ⟨m, p, rfl⟩
        · obtain ⟨oa, oc, rfl⟩ := own_shape hown
          have HO := Lib.hid hown
          have HJS : Hid ((jK by_ l (k + 1)).length = 0 + 1 ∧ (jK by_ l (k + 1)).flatMap pcC = [] ++ [.string t, .bool q]) := Lib.hid (by rw [hjs, putN_nil]; exact ⟨rfl, rfl⟩)
          rw [List.length_nil] at HO ⊢
          clear hown hjs
          have HBA := Lib.hid (Below.alloc (Below.refl wo.heap.size wo) (Nat.le_refl _) (.cells #[.string t, .bool q, .bool sp, .bool false] 26))
          go_wp2_with fail
          go_quiet (fail)
          have HBD := Lib.hid (below_drewN HBA.out nq)
          have HOD := Lib.hid (own_below HO.out HBD.out)
          go_wp2_with (at_builtin; go_must ((refine append_sl rfl _ _ 30 rfl w.heap.size 45 Try.underlying30 infoPc rfl (by decide) (v := .slice oa 0 oc) (n := 0) (xs := []) rfl (HOD.out.alloc _) (m := 1) (news := [.string t, .bool q]) rfl (sl_made_at _ #[.string t, .bool q] _ 1 2 rfl (by unfold maxLen; omega) (by simp)) (by omega) (pcs_one [⟨t, q⟩]) (by omega) (by simp; omega) ?_); intro g1 cap1 w2 hown hgrow hlie hglt; have HO2 := Lib.hid hown; have HB2 := Lib.hid (((HB.out.trans (HBD.out.mono hbs)).alloc (by simp; omega) _).grown hgrow (by simp; omega) fun p hp => (World.ownsRow.lt HO.out p hp).1); clear hown hgrow hlie hglt))
          go_roundw
          case rel => exact ⟨k + 1, by omega, by go_num, by rw [HJS.out.1, HJS.out.2]; exact HO2.out, HB2.out⟩
          case measure => simp [intOf]; omega
        · obtain ⟨pt, pq⟩ := p
          obtain ⟨mn, hnm⟩ : ∃ n, n = m.length := ⟨_, rfl⟩
          have hlen : (m ++ [(⟨pt, pq⟩ : Pc)]).length = mn + 1 := by simp [hnm]
          obtain ⟨d0, d1⟩ := last_cells m ⟨pt, pq⟩
          rw [hlen] at hown hcf
          rw [← hnm] at d0 d1
          have hptz : pt.size ≤ 1700 := Nat.le_trans (HTX.out ⟨pt, pq⟩ (by simp)) hcf.2
          obtain ⟨gb, oc, rfl, hgb, hgw, j0, hce⟩ := own_at (P := Try.prog) hown 30 Try.underlying30 (by kernel_rfl) (k := mn) (by omega) (mn : Int) rfl
          have e0 := (hce (mn * 2) (by omega)).1.trans d0
          have e1 := (hce (mn * 2 + 1) (by omega)).1.trans d1
          have q0 := (hce (mn * 2) (by omega)).2
          have HO := Lib.hid hown
          have HNM := Lib.hid hnm
          clear hown hce d0 d1 hnm
          by_cases hpq : pq = q
          · have HJS : Hid ((jK by_ l (k + 1)).length = mn + 1 ∧ (jK by_ l (k + 1)).flatMap pcC = ((m ++ [(⟨pt, pq⟩ : Pc)]).flatMap pcC).set (mn * 2) (.string (pt ++ t))) := Lib.hid (by
              rw [hjs, putN_same m ⟨pt, pq⟩ _ _ hpq, HNM.out, flat_set]
              exact ⟨by simp, by rw [← hpq]⟩)
            have hpq2 : (pq == q) = true := by rw [hpq]; simp
            clear hjs hlen hpq
            have HBA := Lib.hid (Below.alloc (Below.refl wo.heap.size wo) (Nat.le_refl _) (.cells #[.string t, .bool q, .bool sp, .bool false] 26))
            go_wp2_with fail
            go_quiet (fail)
            have HBD := Lib.hid (below_drewN HBA.out nq)
            have HOD := Lib.hid (own_below HO.out HBD.out)
            go_wp2
            obtain ⟨hs1, hs2⟩ := World.ownsRow.stored HOD.out (mn * 2) (.string (pt ++ t))
            have HO2 := Lib.hid hs1
            have HB2 : Hid (Below w.heap.size w _) := Lib.hid ((HB.out.trans (HBD.out.mono hbs)).grown hs2 (by simp; omega) fun p hp => by cases hp; exact hgb)
            clear hs1 hs2
            go_roundw
            case rel => exact ⟨k + 1, by omega, by go_num, by rw [HJS.out.1, HJS.out.2]; exact HO2.out, HB2.out⟩
            case measure => simp [intOf]; omega
          · have HJS : Hid ((jK by_ l (k + 1)).length = mn + 1 + 1 ∧ (jK by_ l (k + 1)).flatMap pcC = (m ++ [(⟨pt, pq⟩ : Pc)]).flatMap pcC ++ [.string t, .bool q]) := Lib.hid (by
              rw [hjs, putN_other m ⟨pt, pq⟩ _ _ hpq, List.length_append, hlen, List.flatMap_append]
              exact ⟨rfl, rfl⟩)
            have hpq2 : (pq == q) = false := by rw [beq_eq_false_iff_ne]; exact hpq
            clear hjs hlen hpq
            have HBA := Lib.hid (Below.alloc (Below.refl wo.heap.size wo) (Nat.le_refl _) (.cells #[.string t, .bool q, .bool sp, .bool false] 26))
            go_wp2_with fail
            go_quiet (fail)
            have HBD := Lib.hid (below_drewN HBA.out nq)
            have HOD := Lib.hid (own_below HO.out HBD.out)
            go_wp2_with (at_builtin; go_must ((refine append_sl rfl _ _ 30 rfl w.heap.size 45 Try.underlying30 infoPc rfl (by decide) (v := .slice (some ⟨gb, 0, none⟩) (mn + 1) oc) (n := mn + 1) (xs := (m ++ [(⟨pt, pq⟩ : Pc)]).flatMap pcC) rfl (HOD.out.alloc _) (m := 1) (news := [.string t, .bool q]) rfl (sl_made_at _ #[.string t, .bool q] _ 1 2 rfl (by unfold maxLen; omega) (by simp)) (by omega) (pcs_one [⟨t, q⟩]) (by omega) (by simp; omega) ?_); intro g1 cap1 w2 hown hgrow hlie hglt; have HO2 := Lib.hid hown; have HB2 := Lib.hid (((HB.out.trans (HBD.out.mono hbs)).alloc (by simp; omega) _).grown hgrow (by simp; omega) fun p hp => (World.ownsRow.lt HO.out p hp).1); clear hown hgrow hlie hglt))
            go_roundw
            case rel => exact ⟨k + 1, by omega, by go_num, by rw [HJS.out.1, HJS.out.2]; exact HO2.out, HB2.out⟩
            case measure => simp [intOf]; omega
    · obtain rfl : k = n := by omega
      have e : jK by_ l k = joinF by_ l := by unfold jK joinF; rw [List.take_of_length_le (by rw [← HN.out]; omega)]
      rw [e] at hown
      have HO := Lib.hid hown
      have HB := Lib.hid hb
      clear hown hb e
      go_wp2_with fail
      go_ret
      exact ⟨HB.out, _, rfl, HO.out⟩
end Go.Proofs.Ytlehofcgkmhgaaa
