/-
  must; instead for =; param of x, which is not set, for =: the walks.
-/
import Derived.Test.YtjeinpadcknfbaaGreatDoorWB7
import Derived.Lib.QuietBelow
import Derived.Test.YtjeinpadcknfbaaGreatDoorWB4
import Derived.Test.YtjeinpadcknfbaaGreatDoorWB6
import Derived.Deep.RegionHeld3
import Derived.Lib.AppendIntMem
set_option linter.unusedVariables false
set_option linter.unusedSimpArgs false
/-
  The document's example of fields; quoted texts: the walk of FieldQuotes.
-/
namespace Go.Proofs.YtjeinpadcknfbaaGreatDoor
open Go.RowKit

/-! ### what fits -/
theorem textL_put (l : List Pc) (t : ByteArray) (q : Bool) : (textL (putN l t q)).length = (textL l).length + t.size := by
  rcases snoc_or l with rfl | ⟨m, p, rfl⟩
  · rw [putN_nil]; simp [textL, L_size]
  · by_cases h : p.q = q
    · rw [putN_same _ _ _ _ h]; simp [textL, L_append, L_size]; omega
    · rw [putN_other _ _ _ _ h]; simp [textL, L_size]; omega
theorem text_mem {l : List Pc} {p : Pc} (h : p ∈ l) : p.t.size ≤ (textL l).length := by
  obtain ⟨a, b, rfl⟩ := List.append_of_mem h
  simp [textL, L_size]; omega
theorem text_stepB (ifs : List UInt8) (s : St) (c : UInt8) : (textL (stepB ifs s c).now).length ≤ (textL s.now).length + 1 := by
  unfold stepB
  split
  · split
    · split
      · simp [textL]
      · omega
    · split
      · simp
      · simp [endS, textL]
  · show (textL (putN s.now (S [c]) false)).length ≤ _
    rw [textL_put]; exact Nat.le_refl _
theorem text_fold (ifs : List UInt8) : ∀ (t : List UInt8) (s : St), (textL (t.foldl (stepB ifs) s).now).length ≤ (textL s.now).length + t.length
  | [], _ => Nat.le_refl _
  | c :: t, s => by
    have h1 := text_fold ifs t (stepB ifs s c)
    have h2 := text_stepB ifs s c
    rw [List.foldl_cons, List.length_cons]; omega
theorem text_piece (ifs : List UInt8) (s : St) (p : In) : (textL (stepP ifs s p).now).length ≤ (textL s.now).length + p.t.size := by
  unfold stepP
  split
  · simp [textL]
  · split
    · exact Nat.le_of_eq (textL_put _ _ _)
    · split
      · exact text_fold ifs (L p.t) s
      · split
        · omega
        · exact Nat.le_of_eq (textL_put _ _ _)
theorem text_pieces (ifs : List UInt8) : ∀ (l : List In) (s : St), (textL (l.foldl (stepP ifs) s).now).length ≤ (textL s.now).length + (l.map (·.t.size)).sum
  | [], _ => by simp
  | p :: l, s => by
    have h1 := text_pieces ifs l (stepP ifs s p)
    have h2 := text_piece ifs s p
    rw [List.foldl_cons, List.map_cons, List.sum_cons]; omega
theorem sum_mem (f : In → Nat) {l : List In} {x : In} (h : x ∈ l) : f x ≤ (l.map f).sum := by
  obtain ⟨a, b, rfl⟩ := List.append_of_mem h
  simp; omega
theorem FitL.small {ifs : List UInt8} {l : List In} (h1 : (l.map (·.t.size)).sum ≤ 400000) (h2 : l.length ≤ 400000) : FitL ifs l := by
  refine ⟨fun k x hx _ p hp => ?_, ?_⟩
  · have h3 := text_pieces ifs (l.take k) St0
    have h4 := text_mem hp
    have h5 := sum_take (·.t.size) l k
    have h6 : x.t.size ≤ (l.map (·.t.size)).sum := sum_mem (·.t.size) (List.mem_of_getElem? hx)
    have h7 : (textL St0.now).length = 0 := rfl
    unfold stK at h4
    omega
  · have key : ∀ l : List In, (l.map wt).sum ≤ l.length + (l.map (·.t.size)).sum := by
      intro l
      induction l with
      | nil => simp
      | cons x l ih =>
        have : wt x ≤ 1 + x.t.size := by unfold wt; split <;> omega
        simp only [List.map_cons, List.sum_cons, List.length_cons]; omega
    have := key l
    omega
theorem quotes_now (ifs : List UInt8) : ∀ (l : List ByteArray) (s : St) (k : Nat) (x : In), (l.flatMap fun s => [(⟨⟨#[]⟩, false, false, true⟩ : In), ⟨s, true, false, false⟩])[k]? = some x → x.b = false → (((l.flatMap fun s => [(⟨⟨#[]⟩, false, false, true⟩ : In), ⟨s, true, false, false⟩]).take k).foldl (stepP ifs) s).now = []
  | [], s, k, x, h, _ => by simp at h
  | t :: l, s, 0, x, h, hb => by
    rw [List.flatMap_cons] at h
    simp at h
    subst h
    cases hb
  | t :: l, s, 1, x, h, hb => rfl
  | t :: l, s, k + 2, x, h, hb => by
    rw [List.flatMap_cons] at h ⊢
    exact quotes_now ifs l _ k x (by simpa using h) hb
theorem FitL.quotes (ifs : List UInt8) (l : List ByteArray) (hl : l.length ≤ 1000) (hm : ∀ s ∈ l, s.size ≤ 9223372036854775807) : FitL ifs (qPieces l) := by
  refine ⟨fun k x hx hb p hp => ?_, by have := (qPieces_wt l).1; omega⟩
  have : (stK ifs (qPieces l) k).now = [] := by
    cases l with
    | nil => simp [qPieces] at hx
    | cons s l =>
      cases k with
      | zero => rfl
      | succ k => exact quotes_now ifs l _ k x (by simpa [qPieces] using hx) hb
  rw [this] at hp
  simp at hp

/-! ### the document's example -/
def anchorIn : List In := [⟨⟨#[97]⟩, false, false, false⟩, ⟨⟨#[98, 58, 99]⟩, false, true, false⟩, ⟨⟨#[100]⟩, true, false, false⟩]
theorem anchor_out : splitF (L ⟨#[58]⟩) anchorIn = [[⟨⟨#[97, 98]⟩, false⟩], [⟨⟨#[99]⟩, false⟩, ⟨⟨#[100]⟩, true⟩]] := by kernel_rfl
/-- A field's text, in every later world. -/
abbrev TextAt (W1 : World) (v : Value) (s : ByteArray) : Prop := ∀ W, Below W1.heap.size W1 W → Calls Tryz.prog 28 #[v] W fun e w' => e = .returned (.string s) ∧ Below W.heap.size W w'
theorem text_at {W1 : World} {B : Nat} {v : Value} {f : List Pc} (h : W1.ownsRow B 101 2 v f.length (f.flatMap pcC)) (s : ByteArray) (hs : S (textL f) = s) (hz : (textL f).length ≤ 140737488355328) : Hid (TextAt W1 v s) := Lib.hid fun W hW => by
  rw [← hs]
  exact text_any f v W (Sl.of_own (own_below h hW)) hz

end Go.Proofs.YtjeinpadcknfbaaGreatDoor
/-
  refs, is: the walks.
-/
namespace Go.Proofs.YtjeinpadcknfbaaGreatDoor
open Go.RowKit

def szs (l : List In) : Nat := (l.map (·.t.size)).sum
theorem szs_snoc {l : List In} {k : Nat} {x : In} (h : l[k]? = some x) : szs (l.take (k + 1)) = szs (l.take k) + x.t.size ∧ l.take (k + 1) = l.take k ++ [x] := by
  obtain ⟨hk, rfl⟩ := List.getElem?_eq_some_iff.1 h
  rw [List.take_succ_eq_append_getElem hk]
  refine ⟨?_, rfl⟩
  unfold szs
  rw [List.map_append, List.sum_append]
  simp only [List.map_cons, List.map_nil, List.sum_cons, List.sum_nil, Nat.add_zero]
end Go.Proofs.YtjeinpadcknfbaaGreatDoor
/-
  Join, and the document's: the walks.
-/
namespace Go.Proofs.YtjeinpadcknfbaaGreatDoor
open Go.RowKit

def jK (by_ : ByteArray) (l : List In) (k : Nat) : List Pc := (l.take k).foldl (joinP by_) []
theorem jK_succ {by_ : ByteArray} {l : List In} {k : Nat} {x : In} (h : l[k]? = some x) : jK by_ l (k + 1) = joinP by_ (jK by_ l k) x := by
  obtain ⟨hk, rfl⟩ := List.getElem?_eq_some_iff.1 h
  unfold jK
  rw [List.take_succ_eq_append_getElem hk, List.foldl_append]; rfl
theorem join_facts (by_ : ByteArray) : ∀ (l : List In) (o : List Pc), (l.foldl (joinP by_) o).length ≤ o.length + l.length ∧ (textL (l.foldl (joinP by_) o)).length ≤ (textL o).length + szs l + l.length * by_.size
  | [], o => by simp [szs]
  | p :: l, o => by
    obtain ⟨h1, h2⟩ := join_facts by_ l (joinP by_ o p)
    have h3 := join_len by_ o p
    have h4 : (textL (joinP by_ o p)).length ≤ (textL o).length + p.t.size + by_.size := by
      unfold joinP
      split
      · rw [textL_put]; omega
      · rw [textL_put]; omega
    have h5 : szs (p :: l) = p.t.size + szs l := by simp [szs]
    rw [List.foldl_cons, List.length_cons, h5, Nat.succ_mul]
    omega
theorem jK_facts (by_ : ByteArray) (l : List In) (h1 : szs l ≤ 500) (h2 : l.length ≤ 60) (h3 : by_.size ≤ 20) (k : Nat) : (jK by_ l k).length ≤ 60 ∧ (textL (jK by_ l k)).length ≤ 1700 := by
  obtain ⟨a, b⟩ := join_facts by_ (l.take k) []
  have c := sum_take (·.t.size) l k
  have d : (l.take k).length ≤ 60 := by rw [List.length_take]; omega
  have e : (l.take k).length * by_.size ≤ 60 * 20 := Nat.mul_le_mul d h3
  have f : (textL ([] : List Pc)).length = 0 := rfl
  have g : ([] : List Pc).length = 0 := rfl
  unfold szs at b h1
  unfold jK
  omega

def JoinPost (f : List Pc) (w : World) (e : Ending) (w' : World) : Prop := Below w.heap.size w w' ∧ ∃ v, e = .returned v ∧ w'.ownsRow w.heap.size 101 2 v f.length (f.flatMap pcC)
set_option maxHeartbeats 4000000 in
theorem join_any (by_ : ByteArray) (l : List In) (v : Value) (w : World) (hl : Sl w w.heap.size 4 v l.length (l.flatMap inC)) (h1 : szs l ≤ 500) (h2 : l.length ≤ 60) (h3 : by_.size ≤ 20) :
    Calls Tryz.prog 27 #[v, .string by_] w (JoinPost (joinF by_ l) w) := by
  have HJF := Lib.hid (jK_facts by_ l h1 h2 h3)
  have hone : ∀ x ∈ l, x.t.size ≤ 500 := fun x hx => by
    have := sum_mem (·.t.size) hx
    unfold szs at h1
    omega
  obtain ⟨n, hnl⟩ : ∃ n, n = l.length := ⟨_, rfl⟩
  rw [← hnl] at hl h2
  obtain ⟨a, cap, rfl⟩ : ∃ a cap, v = .slice a n cap := by
    obtain ⟨_, a, cap, h, _⟩ := hl
    exact ⟨a, cap, h⟩
  have HL := Lib.hid hl
  have HN := Lib.hid hnl
  have HONE := Lib.hid hone
  clear hl hnl h1 hone
  go_enter Tryz.func27, Tryz.ntmps27
  go_wp2_with fail
  go_loopw [5, 13] (fun o i wr => ∃ k : Nat, k ≤ n ∧ i = .int .i64 k ∧ wr.ownsRow w.heap.size 101 2 o (jK by_ l k).length ((jK by_ l k).flatMap pcC) ∧ Below w.heap.size w wr) (fun _ i _ => n - (intOf i).toNat)
  case atStart => exact ⟨0, Nat.zero_le _, rfl, World.ownsRow_nil _ _ _ _, Below.refl _ _⟩
  case round =>
    obtain ⟨k, hk, rfl, hown, hb⟩ := hrel
    obtain ⟨wo, rfl⟩ : ∃ wo : World, wo = wr := ⟨_, rfl⟩
    have hbs := hb.size
    by_cases hlt : k < n
    · obtain ⟨x, hx⟩ : ∃ x, l[k]? = some x := ⟨_, List.getElem?_eq_getElem (by rw [← HN.out]; omega)⟩
      have hl1 := HL.out.below hb
      rw [HN.out] at hl1
      obtain ⟨b1, o1, i1, hb1, c1, c2, c3, c4⟩ := in_at hl1 hx (k : Int) rfl
      rw [← HN.out] at i1
      have hb1' : b1 < wo.heap.size := by omega
      have hjs := jK_succ (by_ := by_) hx
      have hxz := HONE.out x (List.mem_of_getElem? hx)
      obtain ⟨t, q, sp, bk⟩ := x
      obtain ⟨cur, hcur⟩ : ∃ c, c = jK by_ l k := ⟨_, rfl⟩
      have hcf := HJF.out k
      rw [← hcur] at hown hjs hcf
      simp only at hxz c1 c2 c3 c4
      have HB := Lib.hid hb
      have HTX := Lib.hid (fun p (hp : p ∈ cur) => text_mem hp)
      clear hl1 hx hcur hb
      -- the text t', and whether it is quoted
      cases bk with
      | true =>
        replace hjs : jK by_ l (k + 1) = putN cur by_ true := hjs
        rcases snoc_or cur with rfl | ⟨m, p, rfl⟩
        · obtain ⟨oa, oc, rfl⟩ := own_shape hown
          have HO := Lib.hid hown
          have HJS : Hid ((jK by_ l (k + 1)).length = 0 + 1 ∧ (jK by_ l (k + 1)).flatMap pcC = [] ++ [.string by_, .bool true]) := Lib.hid (by rw [hjs, putN_nil]; exact ⟨rfl, rfl⟩)
          rw [List.length_nil] at HO ⊢
          clear hown hjs
          have HBA := Lib.hid (Below.alloc (Below.refl wo.heap.size wo) (Nat.le_refl _) (.cells #[.string t, .bool q, .bool sp, .bool true] 80))
          go_wp2_with fail
          go_quiet (fail)
          have HBD := Lib.hid (below_drewN HBA.out nq)
          have HOD := Lib.hid (own_below HO.out HBD.out)
          go_wp2_with (at_builtin; go_must ((refine append_sl rfl _ _ 70 rfl w.heap.size 101 Tryz.underlying70 infoPc rfl (by decide) (v := .slice oa 0 oc) (n := 0) (xs := []) rfl (HOD.out.alloc _) (m := 1) (news := [.string by_, .bool true]) rfl (sl_made_at _ #[.string by_, .bool true] _ 1 2 rfl (by unfold maxLen; omega) (by simp)) (by omega) (pcs_one [⟨by_, true⟩]) (by omega) (by simp; omega) ?_); intro g1 cap1 w2 hown hgrow hlie hglt; have HO2 := Lib.hid hown; have HB2 := Lib.hid (((HB.out.trans (HBD.out.mono hbs)).alloc (by simp; omega) _).grown hgrow (by simp; omega) fun p hp => (World.ownsRow.lt HO.out p hp).1); clear hown hgrow hlie hglt))
          go_roundw
          case rel => exact ⟨k + 1, by omega, by go_num, by rw [HJS.out.1, HJS.out.2]; exact HO2.out, HB2.out⟩
          case measure => simp [intOf]; omega
        · obtain ⟨pt, pq⟩ := p
          obtain ⟨mn, hnm⟩ : ∃ n, n = m.length := ⟨_, rfl⟩
          have hlen : (m ++ [(⟨pt, pq⟩ : Pc)]).length = mn + 1 := by simp [hnm]
          obtain ⟨d0, d1⟩ := last_cells m ⟨pt, pq⟩
          rw [hlen] at hown hcf
          rw [← hnm] at d0 d1
          have hptz : pt.size ≤ 1700 := Nat.le_trans (HTX.out ⟨pt, pq⟩ (by simp)) hcf.2
          obtain ⟨gb, oc, rfl, hgb, hgw, j0, hce⟩ := own_at (P := Tryz.prog) hown 70 Tryz.underlying70 (by kernel_rfl) (k := mn) (by omega) (mn : Int) rfl
          have e0 := (hce (mn * 2) (by omega)).1.trans d0
          have e1 := (hce (mn * 2 + 1) (by omega)).1.trans d1
          have q0 := (hce (mn * 2) (by omega)).2
          have HO := Lib.hid hown
          have HNM := Lib.hid hnm
          clear hown hce d0 d1 hnm
          by_cases hpq : pq = true
          · have HJS : Hid ((jK by_ l (k + 1)).length = mn + 1 ∧ (jK by_ l (k + 1)).flatMap pcC = ((m ++ [(⟨pt, pq⟩ : Pc)]).flatMap pcC).set (mn * 2) (.string (pt ++ by_))) := Lib.hid (by
              rw [hjs, putN_same m ⟨pt, pq⟩ _ _ hpq, HNM.out, flat_set]
              exact ⟨by simp, by rw [← hpq]⟩)
            have hpq2 : (pq == true) = true := by rw [hpq]; simp
            clear hjs hlen hpq
            have HBA := Lib.hid (Below.alloc (Below.refl wo.heap.size wo) (Nat.le_refl _) (.cells #[.string t, .bool q, .bool sp, .bool true] 80))
            go_wp2_with fail
            go_quiet (fail)
            have HBD := Lib.hid (below_drewN HBA.out nq)
            have HOD := Lib.hid (own_below HO.out HBD.out)
            go_wp2
            obtain ⟨hs1, hs2⟩ := World.ownsRow.stored HOD.out (mn * 2) (.string (pt ++ by_))
            have HO2 := Lib.hid hs1
            have HB2 : Hid (Below w.heap.size w _) := Lib.hid ((HB.out.trans (HBD.out.mono hbs)).grown hs2 (by simp; omega) fun p hp => by cases hp; exact hgb)
            clear hs1 hs2
            go_roundw
            case rel => exact ⟨k + 1, by omega, by go_num, by rw [HJS.out.1, HJS.out.2]; exact HO2.out, HB2.out⟩
            case measure => simp [intOf]; omega
          · have HJS : Hid ((jK by_ l (k + 1)).length = mn + 1 + 1 ∧ (jK by_ l (k + 1)).flatMap pcC = (m ++ [(⟨pt, pq⟩ : Pc)]).flatMap pcC ++ [.string by_, .bool true]) := Lib.hid (by
              rw [hjs, putN_other m ⟨pt, pq⟩ _ _ hpq, List.length_append, hlen, List.flatMap_append]
              exact ⟨rfl, rfl⟩)
            have hpq2 : (pq == true) = false := by rw [beq_eq_false_iff_ne]; exact hpq
            clear hjs hlen hpq
            have HBA := Lib.hid (Below.alloc (Below.refl wo.heap.size wo) (Nat.le_refl _) (.cells #[.string t, .bool q, .bool sp, .bool true] 80))
            go_wp2_with fail
            go_quiet (fail)
            have HBD := Lib.hid (below_drewN HBA.out nq)
            have HOD := Lib.hid (own_below HO.out HBD.out)
            go_wp2_with (at_builtin; go_must ((refine append_sl rfl _ _ 70 rfl w.heap.size 101 Tryz.underlying70 infoPc rfl (by decide) (v := .slice (some ⟨gb, 0, none⟩) (mn + 1) oc) (n := mn + 1) (xs := (m ++ [(⟨pt, pq⟩ : Pc)]).flatMap pcC) rfl (HOD.out.alloc _) (m := 1) (news := [.string by_, .bool true]) rfl (sl_made_at _ #[.string by_, .bool true] _ 1 2 rfl (by unfold maxLen; omega) (by simp)) (by omega) (pcs_one [⟨by_, true⟩]) (by omega) (by simp; omega) ?_); intro g1 cap1 w2 hown hgrow hlie hglt; have HO2 := Lib.hid hown; have HB2 := Lib.hid (((HB.out.trans (HBD.out.mono hbs)).alloc (by simp; omega) _).grown hgrow (by simp; omega) fun p hp => (World.ownsRow.lt HO.out p hp).1); clear hown hgrow hlie hglt))
            go_roundw
            case rel => exact ⟨k + 1, by omega, by go_num, by rw [HJS.out.1, HJS.out.2]; exact HO2.out, HB2.out⟩
            case measure => simp [intOf]; omega
      | false =>
        replace hjs : jK by_ l (k + 1) = putN cur t q := hjs
        rcases snoc_or cur with rfl | ⟨m, p, rfl⟩
        · obtain ⟨oa, oc, rfl⟩ := own_shape hown
          have HO := Lib.hid hown
          have HJS : Hid ((jK by_ l (k + 1)).length = 0 + 1 ∧ (jK by_ l (k + 1)).flatMap pcC = [] ++ [.string t, .bool q]) := Lib.hid (by rw [hjs, putN_nil]; exact ⟨rfl, rfl⟩)
          rw [List.length_nil] at HO ⊢
          clear hown hjs
          have HBA := Lib.hid (Below.alloc (Below.refl wo.heap.size wo) (Nat.le_refl _) (.cells #[.string t, .bool q, .bool sp, .bool false] 80))
          go_wp2_with fail
          go_quiet (fail)
          have HBD := Lib.hid (below_drewN HBA.out nq)
          have HOD := Lib.hid (own_below HO.out HBD.out)
          go_wp2_with (at_builtin; go_must ((refine append_sl rfl _ _ 70 rfl w.heap.size 101 Tryz.underlying70 infoPc rfl (by decide) (v := .slice oa 0 oc) (n := 0) (xs := []) rfl (HOD.out.alloc _) (m := 1) (news := [.string t, .bool q]) rfl (sl_made_at _ #[.string t, .bool q] _ 1 2 rfl (by unfold maxLen; omega) (by simp)) (by omega) (pcs_one [⟨t, q⟩]) (by omega) (by simp; omega) ?_); intro g1 cap1 w2 hown hgrow hlie hglt; have HO2 := Lib.hid hown; have HB2 := Lib.hid (((HB.out.trans (HBD.out.mono hbs)).alloc (by simp; omega) _).grown hgrow (by simp; omega) fun p hp => (World.ownsRow.lt HO.out p hp).1); clear hown hgrow hlie hglt))
          go_roundw
          case rel => exact ⟨k + 1, by omega, by go_num, by rw [HJS.out.1, HJS.out.2]; exact HO2.out, HB2.out⟩
          case measure => simp [intOf]; omega
        · obtain ⟨pt, pq⟩ := p
          obtain ⟨mn, hnm⟩ : ∃ n, n = m.length := ⟨_, rfl⟩
          have hlen : (m ++ [(⟨pt, pq⟩ : Pc)]).length = mn + 1 := by simp [hnm]
          obtain ⟨d0, d1⟩ := last_cells m ⟨pt, pq⟩
          rw [hlen] at hown hcf
          rw [← hnm] at d0 d1
          have hptz : pt.size ≤ 1700 := Nat.le_trans (HTX.out ⟨pt, pq⟩ (by simp)) hcf.2
          obtain ⟨gb, oc, rfl, hgb, hgw, j0, hce⟩ := own_at (P := Tryz.prog) hown 70 Tryz.underlying70 (by kernel_rfl) (k := mn) (by omega) (mn : Int) rfl
          have e0 := (hce (mn * 2) (by omega)).1.trans d0
          have e1 := (hce (mn * 2 + 1) (by omega)).1.trans d1
          have q0 := (hce (mn * 2) (by omega)).2
          have HO := Lib.hid hown
          have HNM := Lib.hid hnm
          clear hown hce d0 d1 hnm
          by_cases hpq : pq = q
          · have HJS : Hid ((jK by_ l (k + 1)).length = mn + 1 ∧ (jK by_ l (k + 1)).flatMap pcC = ((m ++ [(⟨pt, pq⟩ : Pc)]).flatMap pcC).set (mn * 2) (.string (pt ++ t))) := Lib.hid (by
              rw [hjs, putN_same m ⟨pt, pq⟩ _ _ hpq, HNM.out, flat_set]
              exact ⟨by simp, by rw [← hpq]⟩)
            have hpq2 : (pq == q) = true := by rw [hpq]; simp
            clear hjs hlen hpq
            have HBA := Lib.hid (Below.alloc (Below.refl wo.heap.size wo) (Nat.le_refl _) (.cells #[.string t, .bool q, .bool sp, .bool false] 80))
            go_wp2_with fail
            go_quiet (fail)
            have HBD := Lib.hid (below_drewN HBA.out nq)
            have HOD := Lib.hid (own_below HO.out HBD.out)
            go_wp2
            obtain ⟨hs1, hs2⟩ := World.ownsRow.stored HOD.out (mn * 2) (.string (pt ++ t))
            have HO2 := Lib.hid hs1
            have HB2 : Hid (Below w.heap.size w _) := Lib.hid ((HB.out.trans (HBD.out.mono hbs)).grown hs2 (by simp; omega) fun p hp => by cases hp; exact hgb)
            clear hs1 hs2
            go_roundw
            case rel => exact ⟨k + 1, by omega, by go_num, by rw [HJS.out.1, HJS.out.2]; exact HO2.out, HB2.out⟩
            case measure => simp [intOf]; omega
          · have HJS : Hid ((jK by_ l (k + 1)).length = mn + 1 + 1 ∧ (jK by_ l (k + 1)).flatMap pcC = (m ++ [(⟨pt, pq⟩ : Pc)]).flatMap pcC ++ [.string t, .bool q]) := Lib.hid (by
              rw [hjs, putN_other m ⟨pt, pq⟩ _ _ hpq, List.length_append, hlen, List.flatMap_append]
              exact ⟨rfl, rfl⟩)
            have hpq2 : (pq == q) = false := by rw [beq_eq_false_iff_ne]; exact hpq
            clear hjs hlen hpq
            have HBA := Lib.hid (Below.alloc (Below.refl wo.heap.size wo) (Nat.le_refl _) (.cells #[.string t, .bool q, .bool sp, .bool false] 80))
            go_wp2_with fail
            go_quiet (fail)
            have HBD := Lib.hid (below_drewN HBA.out nq)
            have HOD := Lib.hid (own_below HO.out HBD.out)
            go_wp2_with (at_builtin; go_must ((refine append_sl rfl _ _ 70 rfl w.heap.size 101 Tryz.underlying70 infoPc rfl (by decide) (v := .slice (some ⟨gb, 0, none⟩) (mn + 1) oc) (n := mn + 1) (xs := (m ++ [(⟨pt, pq⟩ : Pc)]).flatMap pcC) rfl (HOD.out.alloc _) (m := 1) (news := [.string t, .bool q]) rfl (sl_made_at _ #[.string t, .bool q] _ 1 2 rfl (by unfold maxLen; omega) (by simp)) (by omega) (pcs_one [⟨t, q⟩]) (by omega) (by simp; omega) ?_); intro g1 cap1 w2 hown hgrow hlie hglt; have HO2 := Lib.hid hown; have HB2 := Lib.hid (((HB.out.trans (HBD.out.mono hbs)).alloc (by simp; omega) _).grown hgrow (by simp; omega) fun p hp => (World.ownsRow.lt HO.out p hp).1); clear hown hgrow hlie hglt))
            go_roundw
            case rel => exact ⟨k + 1, by omega, by go_num, by rw [HJS.out.1, HJS.out.2]; exact HO2.out, HB2.out⟩
            case measure => simp [intOf]; omega
    · obtain rfl : k = n := by omega
      have e : jK by_ l k = joinF by_ l := by unfold jK joinF; rw [List.take_of_length_le (by rw [← HN.out]; omega)]
      rw [e] at hown
      have HO := Lib.hid hown
      have HB := Lib.hid hb
      clear hown hb e
      go_wp2_with fail
      go_ret
      exact ⟨HB.out, _, rfl, HO.out⟩
end Go.Proofs.YtjeinpadcknfbaaGreatDoor
/-
  Parts of a word; one, size, tilde: the walks.
-/
namespace Go.Proofs.YtjeinpadcknfbaaGreatDoor
open Go.RowKit

/-- A part of a word: its own word is a slice; no commands. -/
structure Pa where
  kind : Int
  q : Bool
  t : ByteArray
  op : ByteArray
  wa : Option Addr
  wn : Nat
  wc : Nat
def paC (p : Pa) : List Value := [.int .i64 p.kind, .bool p.q, .string p.t, .string p.op, .slice p.wa p.wn p.wc, .slice none 0 0]
theorem paC_len (p : Pa) : (paC p).length = 6 := rfl
abbrev paV (p : Pa) : Value := .agg #[.int .i64 p.kind, .bool p.q, .string p.t, .string p.op, .slice p.wa p.wn p.wc, .slice none 0 0]
/-- An element of a word. -/
theorem pa_at {w : World} {B : Nat} {v : Value} {l : List Pa} (h : Sl w B 6 v l.length (l.flatMap paC)) {k : Nat} {x : Pa} (hx : l[k]? = some x) (i : Int) (hi : i = k) :
    ∃ b o, (∀ w' : World, (Instr.indexAt 33 v (.int .i64 i)).run Tryz.prog w' = .ok (.pointer (some ⟨b, o, none⟩)) w') ∧ b < B ∧ w.cell? ⟨b, o, none⟩ = some (.int .i64 x.kind) ∧ w.cell? ⟨b, o + 1, none⟩ = some (.bool x.q) ∧
      w.cell? ⟨b, o + 2, none⟩ = some (.string x.t) ∧ w.cell? ⟨b, o + 3, none⟩ = some (.string x.op) ∧ w.cell? ⟨b, o + 4, none⟩ = some (.slice x.wa x.wn x.wc) ∧ w.cell? ⟨b, o + 5, none⟩ = some (.slice none 0 0) := by
  subst hi
  have hk := (List.getElem?_eq_some_iff.1 hx).1
  obtain ⟨a, cap, b, off, rfl, _, _, h1, h2, h3⟩ := h.open (P := Tryz.prog) 33 36 Tryz.underlying33 (by kernel_rfl)
  have g := flat_get paC 6 paC_len l k x hx
  refine ⟨b, off + k * 6, fun w' => h1 k w' hk, by omega, ?_, ?_, ?_, ?_, ?_, ?_⟩
  · rw [show off + k * 6 = off + (k * 6 + 0) by omega, h3 _ (by omega), g 0 (by omega)]; rfl
  · rw [show off + k * 6 + 1 = off + (k * 6 + 1) by omega, h3 _ (by omega), g 1 (by omega)]; rfl
  · rw [show off + k * 6 + 2 = off + (k * 6 + 2) by omega, h3 _ (by omega), g 2 (by omega)]; rfl
  · rw [show off + k * 6 + 3 = off + (k * 6 + 3) by omega, h3 _ (by omega), g 3 (by omega)]; rfl
  · rw [show off + k * 6 + 4 = off + (k * 6 + 4) by omega, h3 _ (by omega), g 4 (by omega)]; rfl
  · rw [show off + k * 6 + 5 = off + (k * 6 + 5) by omega, h3 _ (by omega), g 5 (by omega)]; rfl

theorem one_any (s : ByteArray) (p : Pa) (w : World) :
    Calls Tryz.prog 36 #[.string s, paV p] w fun e w' => e = .returned (.agg #[.string s, .bool p.q, .bool !p.q, .bool false]) ∧ Below w.heap.size w w' := by
  obtain ⟨kind, q, t, op, wa, wn, wc⟩ := p
  go_enter Tryz.func36, Tryz.ntmps36
  go_wp2_with fail
  exact bodyPost_ret (v := .agg #[.string s, .bool q, .bool !q, .bool false]) (by simp [results, Tryz.results36, go_sem]) rfl ⟨rfl, by go_grown⟩

set_option maxHeartbeats 1000000 in
theorem size_one (x : In) (v : Value) (w : World) (hl : Sl w w.heap.size 4 v 1 (inC x)) (hz : x.t.size ≤ 1000000) :
    Calls Tryz.prog 40 #[v] w fun e w' => e = .returned (.int .i64 (x.t.size : Nat)) ∧ Below w.heap.size w w' := by
  have hl' : Sl w w.heap.size 4 v [x].length ([x].flatMap inC) := by simpa using hl
  obtain ⟨b1, o1, i1, hb1, c1, c2, c3, c4⟩ := in_at hl' (k := 0) (x := x) rfl (0 : Int) rfl
  obtain ⟨a, cap, rfl⟩ : ∃ a cap, v = .slice a 1 cap := by
    obtain ⟨_, a, cap, h, _⟩ := hl
    exact ⟨a, cap, h⟩
  obtain ⟨t, q, sp, bk⟩ := x
  simp only at hz c1 c2 c3 c4
  clear hl hl'
  go_enter Tryz.func40, Tryz.ntmps40
  go_wp2_with fail
  go_rounds 2
  go_ret
  exact ⟨ret_int (by omega), by go_grown⟩

set_option maxHeartbeats 1000000 in
theorem tilde_any (xg : Nat) (l : List Pa) (x : Pa) (r : List Pa) (hlr : l = x :: r) (v : Value) (w : World) (hl : Sl w w.heap.size 6 v l.length (l.flatMap paC)) (hx : x.kind ≠ 1 ∨ x.q = true) :
    Calls Tryz.prog 33 #[.pointer (some ⟨xg, 0, none⟩), v] w fun e w' => e = .returned (.tuple #[.agg #[.string ⟨#[]⟩, .bool false, .bool false, .bool false], .string ⟨#[]⟩, .bool false]) ∧ Below w.heap.size w w' := by
  obtain ⟨b1, o1, i1, hb1, c1, c2, c3, c4, c5, c6⟩ := pa_at hl (k := 0) (x := x) (by rw [hlr]; rfl) (0 : Int) rfl
  obtain ⟨n, hn⟩ : ∃ n, n = l.length := ⟨_, rfl⟩
  have hn0 : 0 < n := by rw [hn, hlr]; simp
  rw [← hn] at hl
  obtain ⟨a, cap, rfl⟩ : ∃ a cap, v = .slice a n cap := by
    obtain ⟨_, a, cap, h, _⟩ := hl
    exact ⟨a, cap, h⟩
  have hz : ((n : Int) == 0) = false := by simp; omega
  clear hl hlr hn
  obtain ⟨kind, q, t, op, wa, wn, wc⟩ := x
  simp only at hx c1 c2 c3 c4 c5 c6
  by_cases hk : kind = 1
  · have hq : q = true := hx.resolve_left (fun h => h hk)
    subst hk hq
    clear hx
    go_enter Tryz.func33, Tryz.ntmps33
    go_wp2_with fail
    exact bodyPost_ret (v := .tuple #[.agg #[.string ⟨#[]⟩, .bool false, .bool false, .bool false], .string ⟨#[]⟩, .bool false]) (by simp [results, Tryz.results33, go_sem]) rfl ⟨rfl, by go_grown⟩
  · have hk2 : (kind != 1) = true := by simpa using hk
    clear hx hk
    go_enter Tryz.func33, Tryz.ntmps33
    go_wp2_with fail
    exact bodyPost_ret (v := .tuple #[.agg #[.string ⟨#[]⟩, .bool false, .bool false, .bool false], .string ⟨#[]⟩, .bool false]) (by simp [results, Tryz.results33, go_sem]) rfl ⟨rfl, by go_grown⟩
end Go.Proofs.YtjeinpadcknfbaaGreatDoor
/-
  pieces of a word of one part: the walk.
-/
namespace Go.Proofs.YtjeinpadcknfbaaGreatDoor
open Go.RowKit

theorem infoIn : (Tryz.prog.info? 80).map (fun i => (i.zero, i.size, i.bytes)) = some (some (.agg #[.string ⟨#[]⟩, .bool false, .bool false, .bool false]), 4, 24) := by kernel_rfl
theorem in_one (x : In) : ∀ u ∈ inC x, u.oneCell' = true := by
  intro u hu
  simp [inC] at hu
  rcases hu with rfl | rfl | rfl | rfl <;> rfl
theorem sl_one {w : World} {B size : Nat} {v : Value} {n : Nat} {xs ys : List Value} (h : Sl w B size v n xs) (e : xs = ys) : Sl w B size v n ys := e ▸ h

/-- What pieces of a word of one part leaves: one piece, a row of its own. -/
def OneP (B : Nat) (x : In) (v : Value) (w : World) : Prop := w.ownsRow B 80 4 v 1 (inC x)

set_option maxHeartbeats 2000000 in
theorem pieces_lit (xg : Nat) (x : Pa) (v : Value) (w : World) (hl : Sl w w.heap.size 6 v 1 (paC x)) (hk : x.kind = 1) (hq : x.q = true) (hz : x.t.size ≤ 1000000) :
    Calls Tryz.prog 22 #[.pointer (some ⟨xg, 0, none⟩), v] w fun e w' => ∃ v', e = .returned v' ∧ OneP w.heap.size ⟨x.t, true, false, false⟩ v' w' ∧ Below w.heap.size w w' := by
  have hl' : Sl w w.heap.size 6 v [x].length ([x].flatMap paC) := by simpa using hl
  have CT := Lib.hid (tilde_any xg [x] x [] rfl v w hl' (.inr hq))
  obtain ⟨b1, o1, i1, hb1, c1, c2, c3, c4, c5, c6⟩ := pa_at hl' (k := 0) (x := x) rfl (0 : Int) rfl
  obtain ⟨a, cap, rfl⟩ : ∃ a cap, v = .slice a 1 cap := by
    obtain ⟨_, a, cap, h, _⟩ := hl
    exact ⟨a, cap, h⟩
  obtain ⟨kind, q, t, op, wa, wn, wc⟩ := x
  simp only at hk hq hz c1 c2 c3 c4 c5 c6
  subst hk hq
  have HC := Lib.hid (And.intro c1 (And.intro c2 (And.intro c3 (And.intro c4 (And.intro c5 c6)))))
  have CS : Hid (∀ (W : World) v', W.ownsRow w.heap.size 80 4 v' 1 (inC ⟨t, true, false, false⟩) → Calls Tryz.prog 40 #[v'] W fun e w' => e = .returned (.int .i64 (t.size : Nat)) ∧ Below W.heap.size W w') := Lib.hid fun W v' hv => size_one ⟨t, true, false, false⟩ v' W (Sl.of_own hv) hz
  clear hl hl' c1 c2 c3 c4 c5 c6
  go_enter Tryz.func22, Tryz.ntmps22
  go_wp2_with fail
  refine CT.out.mono ?_
  rintro e w1 ⟨rfl, hb⟩
  have HB1 := Lib.hid hb
  have hlt : b1 < w.heap.size := hb1
  have c1 := (hb.cell (p := ⟨b1, o1, none⟩) hlt).trans HC.out.1
  have c2 := (hb.cell (p := ⟨b1, o1 + 1, none⟩) hlt).trans HC.out.2.1
  have c3 := (hb.cell (p := ⟨b1, o1 + 2, none⟩) hlt).trans HC.out.2.2.1
  have c4 := (hb.cell (p := ⟨b1, o1 + 3, none⟩) hlt).trans HC.out.2.2.2.1
  have c5 := (hb.cell (p := ⟨b1, o1 + 4, none⟩) hlt).trans HC.out.2.2.2.2.1
  have c6 := (hb.cell (p := ⟨b1, o1 + 5, none⟩) hlt).trans HC.out.2.2.2.2.2
  have hlt1 : b1 < w1.heap.size := Nat.lt_of_lt_of_le hlt hb.size
  clear hb
  go_wp2_with fail
  refine wp_loop_rounds 2 ?_
  rw [rounds_succ]
  go_wp2_with (at_builtin; go_must ((refine append_sl rfl _ _ 66 rfl w.heap.size 80 Tryz.underlying66 infoIn rfl (by decide) (v := .slice none 0 0) (n := 0) (xs := []) rfl (World.ownsRow_nil _ _ _ _) (m := 1) (news := [.string t, .bool true, .bool false, .bool false]) rfl (sl_made_at _ #[.string t, .bool true, .bool false, .bool false] _ 1 4 rfl (by unfold maxLen; omega) (by simp)) (by omega) (in_one ⟨t, true, false, false⟩) (by omega) (by have := HB1.out.size; simp; omega) ?_); intro g1 cap1 w2 hown hgrow hlie hglt))
  have HO2 : Hid (w2.ownsRow w.heap.size 80 4 (.slice (some ⟨g1, 0, none⟩) 1 cap1) 1 (inC ⟨t, true, false, false⟩)) := Lib.hid (by simpa [inC] using hown)
  have HB2 : Hid (Below w.heap.size w w2) := Lib.hid (HB1.out.trans ((Below.grown (B := w1.heap.size) (by go_grown) hgrow (by simp; omega) (fun k hk => by cases hk)).mono HB1.out.size))
  clear hown hgrow
  refine (CS.out _ _ HO2.out).mono ?_
  rintro e w3 ⟨rfl, hb3⟩
  have HO3 := Lib.hid (own_below HO2.out hb3)
  have HB3 := Lib.hid (HB2.out.trans (hb3.mono HB2.out.size))
  clear hb3
  go_wp2_with fail
  rw [rounds_succ]
  go_wp2_with fail
  go_ret
  exact ⟨_, rfl, HO3.out, HB3.out⟩
end Go.Proofs.YtjeinpadcknfbaaGreatDoor
/-
  text and pattern of a word, whose pieces are one piece: the walks.
-/
namespace Go.Proofs.YtjeinpadcknfbaaGreatDoor
open Go.RowKit

/-- What stays, where only what is new turns. -/
def Kept (R : World → Prop) : Prop := ∀ w1 w2, R w1 → Below w1.heap.size w1 w2 → R w2
theorem join_one (x : In) (hb : x.b = false) (by_ : ByteArray) : joinF by_ [x] = [⟨x.t, x.q⟩] := by
  show joinP by_ [] x = _
  rw [joinP, hb]
  rfl
theorem S_L' (s : ByteArray) : S (L s) = s := S_L s

/-- The contract of pieces at a word: one piece; what R says holds behind it. -/
abbrev PiecesC (xg : Nat) (v : Value) (x : In) (w : World) (R : World → Prop) : Prop :=
  Calls Tryz.prog 22 #[.pointer (some ⟨xg, 0, none⟩), v] w fun e w' => ∃ v', e = .returned v' ∧ OneP w.heap.size x v' w' ∧ R w'
abbrev TextC (xg : Nat) (v : Value) (s : ByteArray) (w : World) (R : World → Prop) : Prop :=
  Calls Tryz.prog 18 #[.pointer (some ⟨xg, 0, none⟩), v] w fun e w' => e = .returned (.string s) ∧ R w'
theorem text_of {xg : Nat} {v : Value} {x : In} {w : World} {R : World → Prop} (hP : PiecesC xg v x w R) (hR : Kept R) (hb : x.b = false) (hz : x.t.size ≤ 500) : TextC xg v x.t w R := by
  unfold PiecesC at hP
  unfold TextC
  have HP := Lib.hid hP
  have HR := Lib.hid hR
  have CJ : Hid (∀ (W : World) v' B, W.ownsRow B 80 4 v' 1 (inC x) → Calls Tryz.prog 27 #[v', .string ⟨#[32]⟩] W (JoinPost [⟨x.t, x.q⟩] W)) := Lib.hid fun W v' B hv => by
    have := join_any ⟨#[32]⟩ [x] v' W (by simpa using Sl.of_own hv) (by simpa [szs] using hz) (by simp) (by simp)
    rwa [join_one x hb] at this
  have CT : Hid (∀ (W : World) v' B, W.ownsRow B 101 2 v' 1 (pcC ⟨x.t, x.q⟩) → Calls Tryz.prog 28 #[v'] W fun e w' => e = .returned (.string x.t) ∧ Below W.heap.size W w') := Lib.hid fun W v' B hv => by
    have := text_any [⟨x.t, x.q⟩] v' W (by simpa using Sl.of_own hv) (by simp [textL, L_size]; omega)
    rwa [show textL [⟨x.t, x.q⟩] = L x.t by simp [textL], S_L] at this
  clear hP hR hb hz
  go_enter Tryz.func18, Tryz.ntmps18
  go_wp2_with fail
  refine HP.out.mono ?_
  rintro e w1 ⟨v1, rfl, ho1, hr1⟩
  have H1 := Lib.hid hr1
  have HO1 : Hid (w1.ownsRow w.heap.size 80 4 v1 1 (inC x)) := Lib.hid ho1
  clear hr1 ho1
  go_wp2_with fail
  refine (CJ.out _ _ _ HO1.out).mono ?_
  rintro e w2 ⟨hb2, v2, rfl, ho2⟩
  have H2 := Lib.hid (HR.out _ _ H1.out hb2)
  have HO2 : Hid (w2.ownsRow w1.heap.size 101 2 v2 1 (pcC ⟨x.t, x.q⟩)) := Lib.hid (by simpa using ho2)
  clear hb2 ho2
  go_wp2_with fail
  refine (CT.out _ _ _ HO2.out).mono ?_
  rintro e w3 ⟨rfl, hb3⟩
  have H3 := Lib.hid (HR.out _ _ H2.out hb3)
  clear hb3
  go_wp2_with fail
  go_ret
  exact ⟨rfl, H3.out⟩

theorem kept_below (B : Nat) (w : World) (hB : B ≤ w.heap.size) : Kept (fun W => Below B w W) := fun _ _ h1 h2 => h1.trans (h2.mono (Nat.le_trans hB h1.size))
theorem pieces_litC {xg : Nat} {x : Pa} {v : Value} {w : World} (hl : Sl w w.heap.size 6 v 1 (paC x)) (hk : x.kind = 1) (hq : x.q = true) (hz : x.t.size ≤ 500) : PiecesC xg v ⟨x.t, true, false, false⟩ w (fun W => Below w.heap.size w W) :=
  (pieces_lit xg x v w hl hk hq (by omega)).mono fun e w' ⟨v', h1, h2, h3⟩ => ⟨v', h1, h2, h3⟩
theorem text_lit {xg : Nat} {x : Pa} {v : Value} {w : World} (hl : Sl w w.heap.size 6 v 1 (paC x)) (hk : x.kind = 1) (hq : x.q = true) (hz : x.t.size ≤ 500) : TextC xg v x.t w (fun W => Below w.heap.size w W) :=
  text_of (pieces_litC hl hk hq hz) (kept_below _ _ (Nat.le_refl _)) rfl hz

theorem pattern_lit {xg : Nat} {x : Pa} {v : Value} {w : World} (hl : Sl w w.heap.size 6 v 1 (paC x)) (hk : x.kind = 1) (hq : x.q = true) (hz : x.t.size ≤ 500) :
    Calls Tryz.prog 57 #[.pointer (some ⟨xg, 0, none⟩), v] w fun e w' => ∃ a n c, e = .returned (.agg #[.slice a n c]) ∧ PatAt w' w'.heap.size (.slice a n c) (bytesP (L x.t)) ∧ Below w.heap.size w w' := by
  have HP : Hid (∀ W, Below w.heap.size w W → PiecesC xg v ⟨x.t, true, false, false⟩ W (fun W' => Below W.heap.size W W')) := Lib.hid fun W hW => pieces_litC ((hl.below hW).mono hW.size) hk hq hz
  have CJ : Hid (∀ (W : World) v' B, W.ownsRow B 80 4 v' 1 (inC ⟨x.t, true, false, false⟩) → Calls Tryz.prog 27 #[v', .string ⟨#[32]⟩] W (JoinPost [⟨x.t, true⟩] W)) := Lib.hid fun W v' B hv => by
    have := join_any ⟨#[32]⟩ [⟨x.t, true, false, false⟩] v' W (by simpa using Sl.of_own hv) (by simpa [szs] using hz) (by simp) (by simp)
    rwa [join_one _ rfl] at this
  have CC : Hid (∀ (W : World) v' B, W.ownsRow B 101 2 v' 1 (pcC ⟨x.t, true⟩) → Calls Tryz.prog 41 #[v'] W (CompAt W (bytesP (L x.t)))) := Lib.hid fun W v' B hv => by
    have := comp_any [⟨x.t, true⟩] v' W (by simpa using Sl.of_own hv) (by simp [signsOf, signsP, L_size]; omega)
    rw [quotes_comp1] at this
    exact this.mono fun e w' h => CompAt.of h
  clear hl hk hq hz
  go_enter Tryz.func57, Tryz.ntmps57
  go_wp2_with fail
  have HB0 : Hid (Below w.heap.size w (w.alloc (.cells #[.slice none 0 0] 97))) := Lib.hid (by go_grown)
  refine (HP.out _ HB0.out).mono ?_
  rintro e w1 ⟨v1, rfl, ho1, hb1⟩
  have HO1 : Hid (w1.ownsRow (w.heap.size + 1) 80 4 v1 1 (inC ⟨x.t, true, false, false⟩)) := Lib.hid (by simpa [OneP] using ho1)
  have HK1 := Lib.hid ((Blk.new w 97 #[.slice none 0 0]).below hb1 (by simp))
  have HB1 := Lib.hid (HB0.out.trans (hb1.mono (by simp)))
  have hs1 : w.heap.size < w1.heap.size := HK1.out.lt
  clear hb1 ho1
  go_wp2_with fail
  refine (CJ.out _ _ _ HO1.out).mono ?_
  rintro e w2 ⟨hb2, v2, rfl, ho2⟩
  have HO2 : Hid (w2.ownsRow w1.heap.size 101 2 v2 1 (pcC ⟨x.t, true⟩)) := Lib.hid (by simpa using ho2)
  have HK2 := Lib.hid (HK1.out.below hb2 hs1)
  have HB2 := Lib.hid (HB1.out.trans (hb2.mono HB1.out.size))
  clear hb2 ho2
  go_wp2_with fail
  refine (CC.out _ _ _ HO2.out).mono ?_
  rintro e w3 ⟨hb3, va, vn, vc, rfl, hp3⟩
  have hk3 := HK2.out.below hb3 HK2.out.lt
  have HB3 := Lib.hid (HB2.out.trans (hb3.mono HB2.out.size))
  have y0 := hk3.cell 0
  have f0 := hk3.free 0
  simp at y0
  have HP3 : Hid (PatAt (w3.setCell ⟨w.heap.size, 0, none⟩ (.slice va vn vc)) w3.heap.size (.slice va vn vc) (bytesP (L x.t))) := Lib.hid (by
    have h1 : PatOwn (w3.setCell ⟨w.heap.size, 0, none⟩ (.slice va vn vc)) w2.heap.size (.slice va vn vc) (bytesP (L x.t)) := hp3.far HK2.out.lt _
    simpa using h1.at_)
  clear hb3 hp3 hk3 hs1
  go_wp2_with fail
  refine bodyPost_ret (v := .agg #[.slice va vn vc]) (by simp [results, Tryz.results57, go_sem, y0]) rfl ?_
  exact ⟨_, _, _, rfl, by simpa using HP3.out, HB3.out.setCell (p := ⟨w.heap.size, 0, none⟩) (Nat.le_refl _) _⟩
end Go.Proofs.YtjeinpadcknfbaaGreatDoor
/-
  Param of x; CutPrefix; Itoa: the walks.
-/
namespace Go.Proofs.YtjeinpadcknfbaaGreatDoor
open Go.RowKit

/-- The name x. -/
def xN : Nm := [120]
theorem numB_x : numB (L ⟨#[120]⟩) = false := by decide
section
variable {lo g mb n : Nat} {l : List (Nm × Xd)} {xs : List ByteArray} {st : Int}
set_option maxHeartbeats 1000000 in
theorem vparam_x (w : World) (hV : VSt w lo g mb n l xs st) :
    Calls Tryz.prog 52 #[.pointer (some ⟨g, 0, none⟩), .string ⟨#[120]⟩] w fun e w' => e = .returned (.tuple #[.string ⟨(find l xN).text.toArray⟩, .bool (find l xN).set]) ∧ Below w.heap.size w w' := by
  have CN := Lib.hid (fun W => number_any ⟨#[120]⟩ W (by unfold maxLen; decide))
  have CG : Hid (∀ W, Below w.heap.size w W → Calls Tryz.prog 11 #[.pointer (some ⟨g, 0, none⟩), .string ⟨#[120]⟩] W fun e w' => e = .returned (.tuple #[.string ⟨(find l xN).text.toArray⟩, .bool (find l xN).set]) ∧ Below W.heap.size W w') := Lib.hid fun W hW => vget_any ⟨#[120]⟩ W (by obtain ⟨v, h⟩ := hV; exact ⟨v, h.below hW⟩) (by unfold maxLen; decide)
  rw [numB_x] at CN
  clear hV
  go_enter Tryz.func52, Tryz.ntmps52
  go_wp2_with fail
  refine (CN.out _).mono ?_
  rintro e w1 ⟨rfl, hb1⟩
  have HB1 := Lib.hid hb1
  clear hb1
  go_wp2_with fail
  refine (CG.out _ HB1.out).mono ?_
  rintro e w2 ⟨rfl, hb2⟩
  have HB2 := Lib.hid (HB1.out.trans (hb2.mono HB1.out.size))
  clear hb2
  go_wp2_with fail
  go_ret2
  exact ⟨rfl, HB2.out⟩
end
end Go.Proofs.YtjeinpadcknfbaaGreatDoor
/-
  param of x, which is set: as it is, its length, what is left of it.
-/
namespace Go.Proofs.YtjeinpadcknfbaaGreatDoor
open Go.RowKit

theorem own_made {w : World} (cs : Array Value) (e : TypeId) {n size B : Nat} (hs : cs.size = n * size) (hn : n ≤ maxLen) (hB : B ≤ w.heap.size) : (w.alloc (.cells cs e)).ownsRow B e size (.slice (some ⟨w.heap.size, 0, none⟩) n n) n cs.toList := by
  refine ⟨by simpa using hs, .inr ⟨w.heap.size, n, _, rfl, hB, heap_alloc_new w _, Nat.le_refl _, hn, by simpa using hs, ?_⟩⟩
  rw [List.take_of_length_le (by simp [hs])]

/-- The expander at block xg: its variables' block, its host, whether what is not set is an error. -/
def XBk (w : World) (xg g : Nat) (hv : Value) (strict : Bool) : Prop := Blk w xg 59 #[.pointer (some ⟨g, 0, none⟩), hv, .bool strict]
/-- A part in its box. -/
def PaB (w : World) (b : Nat) (p : Pa) : Prop := Blk w b 36 #[.int .i64 p.kind, .bool p.q, .string p.t, .string p.op, .slice p.wa p.wn p.wc, .slice none 0 0]
theorem PaB.cells {w : World} {b : Nat} {p : Pa} (h : PaB w b p) : w.cell? ⟨b, 0, none⟩ = some (.int .i64 p.kind) ∧ w.cell? ⟨b, 1, none⟩ = some (.bool p.q) ∧ w.cell? ⟨b, 2, none⟩ = some (.string p.t) ∧ w.cell? ⟨b, 3, none⟩ = some (.string p.op) ∧ w.cell? ⟨b, 4, none⟩ = some (.slice p.wa p.wn p.wc) ∧ w.cell? ⟨b, 5, none⟩ = some (.slice none 0 0) :=
  ⟨h.cell 0, h.cell 1, h.cell 2, h.cell 3, h.cell 4, h.cell 5⟩
theorem PaB.below {w w' : World} {b B : Nat} {p : Pa} (h : PaB w b p) (hb : Below B w w') (hB : b < B) : PaB w' b p := Blk.below h hb hB
section
variable {lo g mb n : Nat} {l : List (Nm × Xd)} {xs : List ByteArray} {st : Int}
theorem noColon (op : ByteArray) (h1 : Lib.hasPrefix op.data.toList [58] = false) (h2 : (⟨(Lib.trimPrefix op.data.toList [58]).toArray⟩ : ByteArray) = op) (w : World) :
    Calls Tryz.prog 53 #[.string op, .string ⟨#[58]⟩] w fun e w' => e = .returned (.tuple #[.string op, .bool false]) ∧ w' = w := by
  have := Tryz.strings_CutPrefix op ⟨#[58]⟩ w
  rw [show (⟨#[58]⟩ : ByteArray).data.toList = [58] from rfl, h1, h2] at this
  exact this
/-- What param leaves. -/
def ParamP (B : Nat) (x : In) (w : World) (e : Ending) (w' : World) : Prop := ∃ v', e = .returned v' ∧ OneP B x v' w' ∧ Below w.heap.size w w'
set_option maxHeartbeats 4000000 in
set_option maxRecDepth 100000 in
theorem param_as (xg : Nat) (hv : Value) (strict q : Bool) (wa : Option Addr) (wn wc : Nat) (w : World) (hX : XBk w xg g hv strict) (hV : VSt w lo g mb n l xs st) (t : ByteArray) (ht : find l xN = ⟨L t, true, true, false⟩) :
    Calls Tryz.prog 34 #[.pointer (some ⟨xg, 0, none⟩), paV ⟨2, q, ⟨#[120]⟩, ⟨#[]⟩, wa, wn, wc⟩] w (ParamP w.heap.size ⟨t, q, !q, false⟩ w) := by
  have CP : Hid (∀ W, Below w.heap.size w W → Calls Tryz.prog 52 #[.pointer (some ⟨g, 0, none⟩), .string ⟨#[120]⟩] W fun e w' => e = .returned (.tuple #[.string t, .bool true]) ∧ Below W.heap.size W w') := Lib.hid fun W hW => by
    have := vparam_x W (by obtain ⟨v, h⟩ := hV; exact ⟨v, h.below hW⟩ : VSt W lo g mb n l xs st)
    rw [ht] at this
    exact this
  have CO := Lib.hid (one_any t ⟨2, q, ⟨#[120]⟩, ⟨#[]⟩, wa, wn, wc⟩)
  have CC := Lib.hid (noColon ⟨#[]⟩ (by decide) (by decide))
  have x0 : w.cell? ⟨xg, 0, none⟩ = some (.pointer (some ⟨g, 0, none⟩)) := by have := hX.cell 0; simpa using this
  have hxl := hX.lt
  clear hX hV ht
  go_enter Tryz.func34, Tryz.ntmps34
  go_wp2_with fail
  obtain ⟨W0, hW0⟩ : ∃ W0, W0 = w.alloc (.cells #[.int .i64 2, .bool q, .string ⟨#[120]⟩, .string ⟨#[]⟩, .slice wa wn wc, .slice none 0 0] 36) := ⟨_, rfl⟩
  have KB : Hid (PaB W0 w.heap.size ⟨2, q, ⟨#[120]⟩, ⟨#[]⟩, wa, wn, wc⟩) := Lib.hid (by rw [hW0]; exact Blk.new _ _ _)
  have HB0 : Hid (Below w.heap.size w W0) := Lib.hid (by rw [hW0]; go_grown)
  have hs0 : w.heap.size < W0.heap.size := by rw [hW0]; simp
  have y0 := (HB0.out.cell (p := ⟨xg, 0, none⟩) hxl).trans x0
  obtain ⟨_, y1, y2, y3, y4, _⟩ := KB.out.cells
  simp only at y1 y2 y3 y4
  rw [← hW0]
  clear hW0
  go_region_with (go_at_call 52; (with_reducible refine (CP.out _ HB0.out.drew).mono ?_); rintro e w1 ⟨rfl, hb1⟩; have HB1 := Lib.hid hb1; obtain ⟨_, z1, z2, z3, z4, z5⟩ := (PaB.below (w := W0.drew) KB.out hb1 hs0).cells; simp only at z1 z2 z3 z4 z5; clear hb1)
  all_goals
    have HB1' := Lib.hid (HB0.out.drew.trans (HB1.out.mono (Nat.le_of_lt hs0)))
    go_wp2_with fail
    refine (CC.out _).mono ?_
    rintro e w2 ⟨rfl, rfl⟩
    go_wp2_with fail
    refine (CO.out _).mono ?_
    rintro e w3 ⟨rfl, hb3⟩
    have HB3 := Lib.hid (HB1'.out.trans (hb3.mono HB1'.out.size))
    clear hb3
    go_wp2_with fail
    go_ret
    exact ⟨_, rfl, own_made #[.string t, .bool q, .bool !q, .bool false] _ (n := 1) (size := 4) rfl (by unfold maxLen; omega) HB3.out.size, HB3.out.alloc HB3.out.size _⟩
end
end Go.Proofs.YtjeinpadcknfbaaGreatDoor
/-
  param of x, which is set, with a word to cut: the walks.
-/
namespace Go.Proofs.YtjeinpadcknfbaaGreatDoor
open Go.RowKit

section
variable {lo g mb n : Nat} {l : List (Nm × Xd)} {xs : List ByteArray} {st : Int}
set_option maxHeartbeats 4000000 in
set_option maxRecDepth 100000 in
theorem param_h (xg : Nat) (hv : Value) (strict q : Bool) (wa : Option Addr) (wc : Nat) (w : World) (hX : XBk w xg g hv strict) (hV : VSt w lo g mb n l xs st) (t : ByteArray) (y : Pa) (o : Option Nat) (hy : Sl w w.heap.size 6 (.slice wa 1 wc) 1 (paC y)) (hk : y.kind = 1) (hyq : y.q = true) (hyz : y.t.size ≤ 100) (htz : t.size ≤ 500) (ho : IsBest (fun n => matchP (bytesP (L y.t)) (cutPart (L t) false n)) t.size false o) (ht : find l xN = ⟨L t, true, true, false⟩) :
    Calls Tryz.prog 34 #[.pointer (some ⟨xg, 0, none⟩), paV ⟨2, q, ⟨#[120]⟩, ⟨#[35]⟩, wa, 1, wc⟩] w (ParamP w.heap.size ⟨cutLeft t false o, q, !q, false⟩ w) := by
  have CP : Hid (∀ W, Below w.heap.size w W → Calls Tryz.prog 52 #[.pointer (some ⟨g, 0, none⟩), .string ⟨#[120]⟩] W fun e w' => e = .returned (.tuple #[.string t, .bool true]) ∧ Below W.heap.size W w') := Lib.hid fun W hW => by
    have := vparam_x W (by obtain ⟨v, h⟩ := hV; exact ⟨v, h.below hW⟩ : VSt W lo g mb n l xs st)
    rw [ht] at this
    exact this
  have CO := Lib.hid (one_any (cutLeft t false o) ⟨2, q, ⟨#[120]⟩, ⟨#[35]⟩, wa, 1, wc⟩)
  have CC := Lib.hid (noColon ⟨#[35]⟩ (by decide) (by decide))
  have x0 : w.cell? ⟨xg, 0, none⟩ = some (.pointer (some ⟨g, 0, none⟩)) := by have := hX.cell 0; simpa using this
  have hxl := hX.lt
  have CPt : Hid (∀ W, Below w.heap.size w W → Calls Tryz.prog 57 #[.pointer (some ⟨xg, 0, none⟩), .slice wa 1 wc] W fun e w' => ∃ a n c, e = .returned (.agg #[.slice a n c]) ∧ PatAt w' w'.heap.size (.slice a n c) (bytesP (L y.t)) ∧ Below W.heap.size W w') := Lib.hid fun W hW => pattern_lit ((hy.below hW).mono hW.size) hk hyq (by omega)
  have CCu : Hid (∀ W v, PatAt W W.heap.size v (bytesP (L y.t)) → Calls Tryz.prog 58 #[.agg #[v], .string t, .bool false, .bool false] W fun e w' => e = .returned (.string (cutLeft t false o)) ∧ Below W.heap.size W w') := Lib.hid fun W v hp => cut_any v _ t false false W hp (by simp [bytesP, L_size]; omega) (by omega) o ho
  clear hX hV ht hy hk hyq hyz htz ho
  go_enter Tryz.func34, Tryz.ntmps34
  go_wp2_with fail
  obtain ⟨W0, hW0⟩ : ∃ W0, W0 = w.alloc (.cells #[.int .i64 2, .bool q, .string ⟨#[120]⟩, .string ⟨#[35]⟩, .slice wa 1 wc, .slice none 0 0] 36) := ⟨_, rfl⟩
  have KB : Hid (PaB W0 w.heap.size ⟨2, q, ⟨#[120]⟩, ⟨#[35]⟩, wa, 1, wc⟩) := Lib.hid (by rw [hW0]; exact Blk.new _ _ _)
  have HB0 : Hid (Below w.heap.size w W0) := Lib.hid (by rw [hW0]; go_grown)
  have hs0 : w.heap.size < W0.heap.size := by rw [hW0]; simp
  have y0 := (HB0.out.cell (p := ⟨xg, 0, none⟩) hxl).trans x0
  obtain ⟨_, y1, y2, y3, y4, _⟩ := KB.out.cells
  simp only at y1 y2 y3 y4
  rw [← hW0]
  clear hW0
  go_region_with (go_at_call 52; (with_reducible refine (CP.out _ HB0.out.drew).mono ?_); rintro e w1 ⟨rfl, hb1⟩; have HB1 := Lib.hid hb1; obtain ⟨_, z1, z2, z3, z4, z5⟩ := (PaB.below (w := W0.drew) KB.out hb1 hs0).cells; simp only at z1 z2 z3 z4 z5; clear hb1)
  all_goals
    have HB1' := Lib.hid (HB0.out.drew.trans (HB1.out.mono (Nat.le_of_lt hs0)))
    have HB1'' : Hid (Below W0.heap.size W0 w1) := Lib.hid ((Below.refl W0.heap.size W0).drew.trans HB1.out)
    have hs1 : W0.heap.size ≤ w1.heap.size := HB1''.out.size
    go_wp2_with fail
    refine (CC.out _).mono ?_
    rintro e w2 ⟨rfl, rfl⟩
    go_wp2_with fail
    refine (CPt.out _ HB1'.out).mono ?_
    rintro e w4 ⟨pa, pn, pc, rfl, hp4, hb4⟩
    have HP4 := Lib.hid hp4
    have HB4 := Lib.hid (HB1'.out.trans (hb4.mono HB1'.out.size))
    have K4 : Hid (PaB w4 w.heap.size ⟨2, q, ⟨#[120]⟩, ⟨#[35]⟩, wa, 1, wc⟩) := Lib.hid (PaB.below KB.out (Below.trans HB1''.out (hb4.mono hs1)) hs0)
    clear hb4 hp4
    go_wp2_with fail
    refine (CCu.out _ _ HP4.out).mono ?_
    rintro e w5 ⟨rfl, hb5⟩
    have HB5 := Lib.hid (HB4.out.trans (hb5.mono HB4.out.size))
    obtain ⟨v0, v1, v2, v3, v4, v5⟩ := (PaB.below K4.out hb5 (Blk.lt K4.out)).cells
    simp only at v0 v1 v2 v3 v4 v5
    clear hb5
    go_wp2_with fail
    refine (CO.out _).mono ?_
    rintro e w3 ⟨rfl, hb3⟩
    have HB3 := Lib.hid (HB5.out.trans (hb3.mono HB5.out.size))
    clear hb3
    go_wp2_with fail
    go_ret
    exact ⟨_, rfl, own_made #[.string (cutLeft t false o), .bool q, .bool !q, .bool false] _ (n := 1) (size := 4) rfl (by unfold maxLen; omega) HB3.out.size, HB3.out.alloc HB3.out.size _⟩
set_option maxHeartbeats 4000000 in
set_option maxRecDepth 100000 in
theorem param_hh (xg : Nat) (hv : Value) (strict q : Bool) (wa : Option Addr) (wc : Nat) (w : World) (hX : XBk w xg g hv strict) (hV : VSt w lo g mb n l xs st) (t : ByteArray) (y : Pa) (o : Option Nat) (hy : Sl w w.heap.size 6 (.slice wa 1 wc) 1 (paC y)) (hk : y.kind = 1) (hyq : y.q = true) (hyz : y.t.size ≤ 100) (htz : t.size ≤ 500) (ho : IsBest (fun n => matchP (bytesP (L y.t)) (cutPart (L t) false n)) t.size true o) (ht : find l xN = ⟨L t, true, true, false⟩) :
    Calls Tryz.prog 34 #[.pointer (some ⟨xg, 0, none⟩), paV ⟨2, q, ⟨#[120]⟩, ⟨#[35, 35]⟩, wa, 1, wc⟩] w (ParamP w.heap.size ⟨cutLeft t false o, q, !q, false⟩ w) := by
  have CP : Hid (∀ W, Below w.heap.size w W → Calls Tryz.prog 52 #[.pointer (some ⟨g, 0, none⟩), .string ⟨#[120]⟩] W fun e w' => e = .returned (.tuple #[.string t, .bool true]) ∧ Below W.heap.size W w') := Lib.hid fun W hW => by
    have := vparam_x W (by obtain ⟨v, h⟩ := hV; exact ⟨v, h.below hW⟩ : VSt W lo g mb n l xs st)
    rw [ht] at this
    exact this
  have CO := Lib.hid (one_any (cutLeft t false o) ⟨2, q, ⟨#[120]⟩, ⟨#[35, 35]⟩, wa, 1, wc⟩)
  have CC := Lib.hid (noColon ⟨#[35, 35]⟩ (by decide) (by decide))
  have x0 : w.cell? ⟨xg, 0, none⟩ = some (.pointer (some ⟨g, 0, none⟩)) := by have := hX.cell 0; simpa using this
  have hxl := hX.lt
  have CPt : Hid (∀ W, Below w.heap.size w W → Calls Tryz.prog 57 #[.pointer (some ⟨xg, 0, none⟩), .slice wa 1 wc] W fun e w' => ∃ a n c, e = .returned (.agg #[.slice a n c]) ∧ PatAt w' w'.heap.size (.slice a n c) (bytesP (L y.t)) ∧ Below W.heap.size W w') := Lib.hid fun W hW => pattern_lit ((hy.below hW).mono hW.size) hk hyq (by omega)
  have CCu : Hid (∀ W v, PatAt W W.heap.size v (bytesP (L y.t)) → Calls Tryz.prog 58 #[.agg #[v], .string t, .bool false, .bool true] W fun e w' => e = .returned (.string (cutLeft t false o)) ∧ Below W.heap.size W w') := Lib.hid fun W v hp => cut_any v _ t false true W hp (by simp [bytesP, L_size]; omega) (by omega) o ho
  clear hX hV ht hy hk hyq hyz htz ho
  go_enter Tryz.func34, Tryz.ntmps34
  go_wp2_with fail
  obtain ⟨W0, hW0⟩ : ∃ W0, W0 = w.alloc (.cells #[.int .i64 2, .bool q, .string ⟨#[120]⟩, .string ⟨#[35, 35]⟩, .slice wa 1 wc, .slice none 0 0] 36) := ⟨_, rfl⟩
  have KB : Hid (PaB W0 w.heap.size ⟨2, q, ⟨#[120]⟩, ⟨#[35, 35]⟩, wa, 1, wc⟩) := Lib.hid (by rw [hW0]; exact Blk.new _ _ _)
  have HB0 : Hid (Below w.heap.size w W0) := Lib.hid (by rw [hW0]; go_grown)
  have hs0 : w.heap.size < W0.heap.size := by rw [hW0]; simp
  have y0 := (HB0.out.cell (p := ⟨xg, 0, none⟩) hxl).trans x0
  obtain ⟨_, y1, y2, y3, y4, _⟩ := KB.out.cells
  simp only at y1 y2 y3 y4
  rw [← hW0]
  clear hW0
  go_region_with (go_at_call 52; (with_reducible refine (CP.out _ HB0.out.drew).mono ?_); rintro e w1 ⟨rfl, hb1⟩; have HB1 := Lib.hid hb1; obtain ⟨_, z1, z2, z3, z4, z5⟩ := (PaB.below (w := W0.drew) KB.out hb1 hs0).cells; simp only at z1 z2 z3 z4 z5; clear hb1)
  all_goals
    have HB1' := Lib.hid (HB0.out.drew.trans (HB1.out.mono (Nat.le_of_lt hs0)))
    have HB1'' : Hid (Below W0.heap.size W0 w1) := Lib.hid ((Below.refl W0.heap.size W0).drew.trans HB1.out)
    have hs1 : W0.heap.size ≤ w1.heap.size := HB1''.out.size
    go_wp2_with fail
    refine (CC.out _).mono ?_
    rintro e w2 ⟨rfl, rfl⟩
    go_wp2_with fail
    refine (CPt.out _ HB1'.out).mono ?_
    rintro e w4 ⟨pa, pn, pc, rfl, hp4, hb4⟩
    have HP4 := Lib.hid hp4
    have HB4 := Lib.hid (HB1'.out.trans (hb4.mono HB1'.out.size))
    have K4 : Hid (PaB w4 w.heap.size ⟨2, q, ⟨#[120]⟩, ⟨#[35, 35]⟩, wa, 1, wc⟩) := Lib.hid (PaB.below KB.out (Below.trans HB1''.out (hb4.mono hs1)) hs0)
    clear hb4 hp4
    go_wp2_with fail
    refine (CCu.out _ _ HP4.out).mono ?_
    rintro e w5 ⟨rfl, hb5⟩
    have HB5 := Lib.hid (HB4.out.trans (hb5.mono HB4.out.size))
    obtain ⟨v0, v1, v2, v3, v4, v5⟩ := (PaB.below K4.out hb5 (Blk.lt K4.out)).cells
    simp only at v0 v1 v2 v3 v4 v5
    clear hb5
    go_wp2_with fail
    refine (CO.out _).mono ?_
    rintro e w3 ⟨rfl, hb3⟩
    have HB3 := Lib.hid (HB5.out.trans (hb3.mono HB5.out.size))
    clear hb3
    go_wp2_with fail
    go_ret
    exact ⟨_, rfl, own_made #[.string (cutLeft t false o), .bool q, .bool !q, .bool false] _ (n := 1) (size := 4) rfl (by unfold maxLen; omega) HB3.out.size, HB3.out.alloc HB3.out.size _⟩
set_option maxHeartbeats 4000000 in
set_option maxRecDepth 100000 in
theorem param_p (xg : Nat) (hv : Value) (strict q : Bool) (wa : Option Addr) (wc : Nat) (w : World) (hX : XBk w xg g hv strict) (hV : VSt w lo g mb n l xs st) (t : ByteArray) (y : Pa) (o : Option Nat) (hy : Sl w w.heap.size 6 (.slice wa 1 wc) 1 (paC y)) (hk : y.kind = 1) (hyq : y.q = true) (hyz : y.t.size ≤ 100) (htz : t.size ≤ 500) (ho : IsBest (fun n => matchP (bytesP (L y.t)) (cutPart (L t) true n)) t.size false o) (ht : find l xN = ⟨L t, true, true, false⟩) :
    Calls Tryz.prog 34 #[.pointer (some ⟨xg, 0, none⟩), paV ⟨2, q, ⟨#[120]⟩, ⟨#[37]⟩, wa, 1, wc⟩] w (ParamP w.heap.size ⟨cutLeft t true o, q, !q, false⟩ w) := by
  have CP : Hid (∀ W, Below w.heap.size w W → Calls Tryz.prog 52 #[.pointer (some ⟨g, 0, none⟩), .string ⟨#[120]⟩] W fun e w' => e = .returned (.tuple #[.string t, .bool true]) ∧ Below W.heap.size W w') := Lib.hid fun W hW => by
    have := vparam_x W (by obtain ⟨v, h⟩ := hV; exact ⟨v, h.below hW⟩ : VSt W lo g mb n l xs st)
    rw [ht] at this
    exact this
  have CO := Lib.hid (one_any (cutLeft t true o) ⟨2, q, ⟨#[120]⟩, ⟨#[37]⟩, wa, 1, wc⟩)
  have CC := Lib.hid (noColon ⟨#[37]⟩ (by decide) (by decide))
  have x0 : w.cell? ⟨xg, 0, none⟩ = some (.pointer (some ⟨g, 0, none⟩)) := by have := hX.cell 0; simpa using this
  have hxl := hX.lt
  have CPt : Hid (∀ W, Below w.heap.size w W → Calls Tryz.prog 57 #[.pointer (some ⟨xg, 0, none⟩), .slice wa 1 wc] W fun e w' => ∃ a n c, e = .returned (.agg #[.slice a n c]) ∧ PatAt w' w'.heap.size (.slice a n c) (bytesP (L y.t)) ∧ Below W.heap.size W w') := Lib.hid fun W hW => pattern_lit ((hy.below hW).mono hW.size) hk hyq (by omega)
  have CCu : Hid (∀ W v, PatAt W W.heap.size v (bytesP (L y.t)) → Calls Tryz.prog 58 #[.agg #[v], .string t, .bool true, .bool false] W fun e w' => e = .returned (.string (cutLeft t true o)) ∧ Below W.heap.size W w') := Lib.hid fun W v hp => cut_any v _ t true false W hp (by simp [bytesP, L_size]; omega) (by omega) o ho
  clear hX hV ht hy hk hyq hyz htz ho
  go_enter Tryz.func34, Tryz.ntmps34
  go_wp2_with fail
  obtain ⟨W0, hW0⟩ : ∃ W0, W0 = w.alloc (.cells #[.int .i64 2, .bool q, .string ⟨#[120]⟩, .string ⟨#[37]⟩, .slice wa 1 wc, .slice none 0 0] 36) := ⟨_, rfl⟩
  have KB : Hid (PaB W0 w.heap.size ⟨2, q, ⟨#[120]⟩, ⟨#[37]⟩, wa, 1, wc⟩) := Lib.hid (by rw [hW0]; exact Blk.new _ _ _)
  have HB0 : Hid (Below w.heap.size w W0) := Lib.hid (by rw [hW0]; go_grown)
  have hs0 : w.heap.size < W0.heap.size := by rw [hW0]; simp
  have y0 := (HB0.out.cell (p := ⟨xg, 0, none⟩) hxl).trans x0
  obtain ⟨_, y1, y2, y3, y4, _⟩ := KB.out.cells
  simp only at y1 y2 y3 y4
  rw [← hW0]
  clear hW0
  go_region_with (go_at_call 52; (with_reducible refine (CP.out _ HB0.out.drew).mono ?_); rintro e w1 ⟨rfl, hb1⟩; have HB1 := Lib.hid hb1; obtain ⟨_, z1, z2, z3, z4, z5⟩ := (PaB.below (w := W0.drew) KB.out hb1 hs0).cells; simp only at z1 z2 z3 z4 z5; clear hb1)
  all_goals
    have HB1' := Lib.hid (HB0.out.drew.trans (HB1.out.mono (Nat.le_of_lt hs0)))
    have HB1'' : Hid (Below W0.heap.size W0 w1) := Lib.hid ((Below.refl W0.heap.size W0).drew.trans HB1.out)
    have hs1 : W0.heap.size ≤ w1.heap.size := HB1''.out.size
    go_wp2_with fail
    refine (CC.out _).mono ?_
    rintro e w2 ⟨rfl, rfl⟩
    go_wp2_with fail
    refine (CPt.out _ HB1'.out).mono ?_
    rintro e w4 ⟨pa, pn, pc, rfl, hp4, hb4⟩
    have HP4 := Lib.hid hp4
    have HB4 := Lib.hid (HB1'.out.trans (hb4.mono HB1'.out.size))
    have K4 : Hid (PaB w4 w.heap.size ⟨2, q, ⟨#[120]⟩, ⟨#[37]⟩, wa, 1, wc⟩) := Lib.hid (PaB.below KB.out (Below.trans HB1''.out (hb4.mono hs1)) hs0)
    clear hb4 hp4
    go_wp2_with fail
    refine (CCu.out _ _ HP4.out).mono ?_
    rintro e w5 ⟨rfl, hb5⟩
    have HB5 := Lib.hid (HB4.out.trans (hb5.mono HB4.out.size))
    obtain ⟨v0, v1, v2, v3, v4, v5⟩ := (PaB.below K4.out hb5 (Blk.lt K4.out)).cells
    simp only at v0 v1 v2 v3 v4 v5
    clear hb5
    go_wp2_with fail
    refine (CO.out _).mono ?_
    rintro e w3 ⟨rfl, hb3⟩
    have HB3 := Lib.hid (HB5.out.trans (hb3.mono HB5.out.size))
    clear hb3
    go_wp2_with fail
    go_ret
    exact ⟨_, rfl, own_made #[.string (cutLeft t true o), .bool q, .bool !q, .bool false] _ (n := 1) (size := 4) rfl (by unfold maxLen; omega) HB3.out.size, HB3.out.alloc HB3.out.size _⟩
set_option maxHeartbeats 4000000 in
set_option maxRecDepth 100000 in
theorem param_pp (xg : Nat) (hv : Value) (strict q : Bool) (wa : Option Addr) (wc : Nat) (w : World) (hX : XBk w xg g hv strict) (hV : VSt w lo g mb n l xs st) (t : ByteArray) (y : Pa) (o : Option Nat) (hy : Sl w w.heap.size 6 (.slice wa 1 wc) 1 (paC y)) (hk : y.kind = 1) (hyq : y.q = true) (hyz : y.t.size ≤ 100) (htz : t.size ≤ 500) (ho : IsBest (fun n => matchP (bytesP (L y.t)) (cutPart (L t) true n)) t.size true o) (ht : find l xN = ⟨L t, true, true, false⟩) :
    Calls Tryz.prog 34 #[.pointer (some ⟨xg, 0, none⟩), paV ⟨2, q, ⟨#[120]⟩, ⟨#[37, 37]⟩, wa, 1, wc⟩] w (ParamP w.heap.size ⟨cutLeft t true o, q, !q, false⟩ w) := by
  have CP : Hid (∀ W, Below w.heap.size w W → Calls Tryz.prog 52 #[.pointer (some ⟨g, 0, none⟩), .string ⟨#[120]⟩] W fun e w' => e = .returned (.tuple #[.string t, .bool true]) ∧ Below W.heap.size W w') := Lib.hid fun W hW => by
    have := vparam_x W (by obtain ⟨v, h⟩ := hV; exact ⟨v, h.below hW⟩ : VSt W lo g mb n l xs st)
    rw [ht] at this
    exact this
  have CO := Lib.hid (one_any (cutLeft t true o) ⟨2, q, ⟨#[120]⟩, ⟨#[37, 37]⟩, wa, 1, wc⟩)
  have CC := Lib.hid (noColon ⟨#[37, 37]⟩ (by decide) (by decide))
  have x0 : w.cell? ⟨xg, 0, none⟩ = some (.pointer (some ⟨g, 0, none⟩)) := by have := hX.cell 0; simpa using this
  have hxl := hX.lt
  have CPt : Hid (∀ W, Below w.heap.size w W → Calls Tryz.prog 57 #[.pointer (some ⟨xg, 0, none⟩), .slice wa 1 wc] W fun e w' => ∃ a n c, e = .returned (.agg #[.slice a n c]) ∧ PatAt w' w'.heap.size (.slice a n c) (bytesP (L y.t)) ∧ Below W.heap.size W w') := Lib.hid fun W hW => pattern_lit ((hy.below hW).mono hW.size) hk hyq (by omega)
  have CCu : Hid (∀ W v, PatAt W W.heap.size v (bytesP (L y.t)) → Calls Tryz.prog 58 #[.agg #[v], .string t, .bool true, .bool true] W fun e w' => e = .returned (.string (cutLeft t true o)) ∧ Below W.heap.size W w') := Lib.hid fun W v hp => cut_any v _ t true true W hp (by simp [bytesP, L_size]; omega) (by omega) o ho
  clear hX hV ht hy hk hyq hyz htz ho
  go_enter Tryz.func34, Tryz.ntmps34
  go_wp2_with fail
  obtain ⟨W0, hW0⟩ : ∃ W0, W0 = w.alloc (.cells #[.int .i64 2, .bool q, .string ⟨#[120]⟩, .string ⟨#[37, 37]⟩, .slice wa 1 wc, .slice none 0 0] 36) := ⟨_, rfl⟩
  have KB : Hid (PaB W0 w.heap.size ⟨2, q, ⟨#[120]⟩, ⟨#[37, 37]⟩, wa, 1, wc⟩) := Lib.hid (by rw [hW0]; exact Blk.new _ _ _)
  have HB0 : Hid (Below w.heap.size w W0) := Lib.hid (by rw [hW0]; go_grown)
  have hs0 : w.heap.size < W0.heap.size := by rw [hW0]; simp
  have y0 := (HB0.out.cell (p := ⟨xg, 0, none⟩) hxl).trans x0
  obtain ⟨_, y1, y2, y3, y4, _⟩ := KB.out.cells
  simp only at y1 y2 y3 y4
  rw [← hW0]
  clear hW0
  go_region_with (go_at_call 52; (with_reducible refine (CP.out _ HB0.out.drew).mono ?_); rintro e w1 ⟨rfl, hb1⟩; have HB1 := Lib.hid hb1; obtain ⟨_, z1, z2, z3, z4, z5⟩ := (PaB.below (w := W0.drew) KB.out hb1 hs0).cells; simp only at z1 z2 z3 z4 z5; clear hb1)
  all_goals
    have HB1' := Lib.hid (HB0.out.drew.trans (HB1.out.mono (Nat.le_of_lt hs0)))
    have HB1'' : Hid (Below W0.heap.size W0 w1) := Lib.hid ((Below.refl W0.heap.size W0).drew.trans HB1.out)
    have hs1 : W0.heap.size ≤ w1.heap.size := HB1''.out.size
    go_wp2_with fail
    refine (CC.out _).mono ?_
    rintro e w2 ⟨rfl, rfl⟩
    go_wp2_with fail
    refine (CPt.out _ HB1'.out).mono ?_
    rintro e w4 ⟨pa, pn, pc, rfl, hp4, hb4⟩
    have HP4 := Lib.hid hp4
    have HB4 := Lib.hid (HB1'.out.trans (hb4.mono HB1'.out.size))
    have K4 : Hid (PaB w4 w.heap.size ⟨2, q, ⟨#[120]⟩, ⟨#[37, 37]⟩, wa, 1, wc⟩) := Lib.hid (PaB.below KB.out (Below.trans HB1''.out (hb4.mono hs1)) hs0)
    clear hb4 hp4
    go_wp2_with fail
    refine (CCu.out _ _ HP4.out).mono ?_
    rintro e w5 ⟨rfl, hb5⟩
    have HB5 := Lib.hid (HB4.out.trans (hb5.mono HB4.out.size))
    obtain ⟨v0, v1, v2, v3, v4, v5⟩ := (PaB.below K4.out hb5 (Blk.lt K4.out)).cells
    simp only at v0 v1 v2 v3 v4 v5
    clear hb5
    go_wp2_with fail
    refine (CO.out _).mono ?_
    rintro e w3 ⟨rfl, hb3⟩
    have HB3 := Lib.hid (HB5.out.trans (hb3.mono HB5.out.size))
    clear hb3
    go_wp2_with fail
    go_ret
    exact ⟨_, rfl, own_made #[.string (cutLeft t true o), .bool q, .bool !q, .bool false] _ (n := 1) (size := 4) rfl (by unfold maxLen; omega) HB3.out.size, HB3.out.alloc HB3.out.size _⟩
end
end Go.Proofs.YtjeinpadcknfbaaGreatDoor
/-
  param of x, which is set, for - and =; its length; word and instead for -: the walks.
-/
namespace Go.Proofs.YtjeinpadcknfbaaGreatDoor
open Go.RowKit

section
variable {lo g mb n : Nat} {l : List (Nm × Xd)} {xs : List ByteArray} {st : Int}
set_option maxHeartbeats 4000000 in
set_option maxRecDepth 100000 in
theorem param_minus (xg : Nat) (hv : Value) (strict q : Bool) (wa : Option Addr) (wn wc : Nat) (w : World) (hX : XBk w xg g hv strict) (hV : VSt w lo g mb n l xs st) (t : ByteArray) (ht : find l xN = ⟨L t, true, true, false⟩) :
    Calls Tryz.prog 34 #[.pointer (some ⟨xg, 0, none⟩), paV ⟨2, q, ⟨#[120]⟩, ⟨#[45]⟩, wa, wn, wc⟩] w (ParamP w.heap.size ⟨t, q, !q, false⟩ w) := by
  have CP : Hid (∀ W, Below w.heap.size w W → Calls Tryz.prog 52 #[.pointer (some ⟨g, 0, none⟩), .string ⟨#[120]⟩] W fun e w' => e = .returned (.tuple #[.string t, .bool true]) ∧ Below W.heap.size W w') := Lib.hid fun W hW => by
    have := vparam_x W (by obtain ⟨v, h⟩ := hV; exact ⟨v, h.below hW⟩ : VSt W lo g mb n l xs st)
    rw [ht] at this
    exact this
  have CO := Lib.hid (one_any t ⟨2, q, ⟨#[120]⟩, ⟨#[45]⟩, wa, wn, wc⟩)
  have CC := Lib.hid (noColon ⟨#[45]⟩ (by decide) (by decide))
  have x0 : w.cell? ⟨xg, 0, none⟩ = some (.pointer (some ⟨g, 0, none⟩)) := by have := hX.cell 0; simpa using this
  have hxl := hX.lt
  clear hX hV ht
  go_enter Tryz.func34, Tryz.ntmps34
  go_wp2_with fail
  obtain ⟨W0, hW0⟩ : ∃ W0, W0 = w.alloc (.cells #[.int .i64 2, .bool q, .string ⟨#[120]⟩, .string ⟨#[45]⟩, .slice wa wn wc, .slice none 0 0] 36) := ⟨_, rfl⟩
  have KB : Hid (PaB W0 w.heap.size ⟨2, q, ⟨#[120]⟩, ⟨#[45]⟩, wa, wn, wc⟩) := Lib.hid (by rw [hW0]; exact Blk.new _ _ _)
  have HB0 : Hid (Below w.heap.size w W0) := Lib.hid (by rw [hW0]; go_grown)
  have hs0 : w.heap.size < W0.heap.size := by rw [hW0]; simp
  have y0 := (HB0.out.cell (p := ⟨xg, 0, none⟩) hxl).trans x0
  obtain ⟨_, y1, y2, y3, y4, _⟩ := KB.out.cells
  simp only at y1 y2 y3 y4
  rw [← hW0]
  clear hW0
  go_region_with (go_at_call 52; (with_reducible refine (CP.out _ HB0.out.drew).mono ?_); rintro e w1 ⟨rfl, hb1⟩; have HB1 := Lib.hid hb1; obtain ⟨_, z1, z2, z3, z4, z5⟩ := (PaB.below (w := W0.drew) KB.out hb1 hs0).cells; simp only at z1 z2 z3 z4 z5; clear hb1)
  all_goals
    have HB1' := Lib.hid (HB0.out.drew.trans (HB1.out.mono (Nat.le_of_lt hs0)))
    go_wp2_with fail
    refine (CC.out _).mono ?_
    rintro e w2 ⟨rfl, rfl⟩
    go_wp2_with fail
    refine (CO.out _).mono ?_
    rintro e w3 ⟨rfl, hb3⟩
    have HB3 := Lib.hid (HB1'.out.trans (hb3.mono HB1'.out.size))
    clear hb3
    go_wp2_with fail
    go_ret
    exact ⟨_, rfl, own_made #[.string t, .bool q, .bool !q, .bool false] _ (n := 1) (size := 4) rfl (by unfold maxLen; omega) HB3.out.size, HB3.out.alloc HB3.out.size _⟩
set_option maxHeartbeats 4000000 in
set_option maxRecDepth 100000 in
theorem param_set (xg : Nat) (hv : Value) (strict q : Bool) (wa : Option Addr) (wn wc : Nat) (w : World) (hX : XBk w xg g hv strict) (hV : VSt w lo g mb n l xs st) (t : ByteArray) (ht : find l xN = ⟨L t, true, true, false⟩) :
    Calls Tryz.prog 34 #[.pointer (some ⟨xg, 0, none⟩), paV ⟨2, q, ⟨#[120]⟩, ⟨#[61]⟩, wa, wn, wc⟩] w (ParamP w.heap.size ⟨t, q, !q, false⟩ w) := by
  have CP : Hid (∀ W, Below w.heap.size w W → Calls Tryz.prog 52 #[.pointer (some ⟨g, 0, none⟩), .string ⟨#[120]⟩] W fun e w' => e = .returned (.tuple #[.string t, .bool true]) ∧ Below W.heap.size W w') := Lib.hid fun W hW => by
    have := vparam_x W (by obtain ⟨v, h⟩ := hV; exact ⟨v, h.below hW⟩ : VSt W lo g mb n l xs st)
    rw [ht] at this
    exact this
  have CO := Lib.hid (one_any t ⟨2, q, ⟨#[120]⟩, ⟨#[61]⟩, wa, wn, wc⟩)
  have CC := Lib.hid (noColon ⟨#[61]⟩ (by decide) (by decide))
  have x0 : w.cell? ⟨xg, 0, none⟩ = some (.pointer (some ⟨g, 0, none⟩)) := by have := hX.cell 0; simpa using this
  have hxl := hX.lt
  clear hX hV ht
  go_enter Tryz.func34, Tryz.ntmps34
  go_wp2_with fail
  obtain ⟨W0, hW0⟩ : ∃ W0, W0 = w.alloc (.cells #[.int .i64 2, .bool q, .string ⟨#[120]⟩, .string ⟨#[61]⟩, .slice wa wn wc, .slice none 0 0] 36) := ⟨_, rfl⟩
  have KB : Hid (PaB W0 w.heap.size ⟨2, q, ⟨#[120]⟩, ⟨#[61]⟩, wa, wn, wc⟩) := Lib.hid (by rw [hW0]; exact Blk.new _ _ _)
  have HB0 : Hid (Below w.heap.size w W0) := Lib.hid (by rw [hW0]; go_grown)
  have hs0 : w.heap.size < W0.heap.size := by rw [hW0]; simp
  have y0 := (HB0.out.cell (p := ⟨xg, 0, none⟩) hxl).trans x0
  obtain ⟨_, y1, y2, y3, y4, _⟩ := KB.out.cells
  simp only at y1 y2 y3 y4
  rw [← hW0]
  clear hW0
  go_region_with (go_at_call 52; (with_reducible refine (CP.out _ HB0.out.drew).mono ?_); rintro e w1 ⟨rfl, hb1⟩; have HB1 := Lib.hid hb1; obtain ⟨_, z1, z2, z3, z4, z5⟩ := (PaB.below (w := W0.drew) KB.out hb1 hs0).cells; simp only at z1 z2 z3 z4 z5; clear hb1)
  all_goals
    have HB1' := Lib.hid (HB0.out.drew.trans (HB1.out.mono (Nat.le_of_lt hs0)))
    go_wp2_with fail
    refine (CC.out _).mono ?_
    rintro e w2 ⟨rfl, rfl⟩
    go_wp2_with fail
    refine (CO.out _).mono ?_
    rintro e w3 ⟨rfl, hb3⟩
    have HB3 := Lib.hid (HB1'.out.trans (hb3.mono HB1'.out.size))
    clear hb3
    go_wp2_with fail
    go_ret
    exact ⟨_, rfl, own_made #[.string t, .bool q, .bool !q, .bool false] _ (n := 1) (size := 4) rfl (by unfold maxLen; omega) HB3.out.size, HB3.out.alloc HB3.out.size _⟩
end
/-- The table of the powers of ten lies as it was laid. -/
def Tabx (w : World) : Prop := Lib.TabIs Tryz.prog w "internal/strconv.uint64pow10" .u64 Lib.pow10Tab ∧ 1 < w.heap.size
theorem Tabx.below {w w' : World} (h : Tabx w) {B : Nat} (hB : 1 < B) (hb : Below B w w') : Tabx w' := by
  obtain ⟨h1, h2⟩ := h
  have hg : Tryz.prog.globalNamed "internal/strconv.uint64pow10" = some 1 := by kernel_rfl
  refine ⟨?_, Nat.lt_of_lt_of_le h2 hb.size⟩
  unfold Lib.TabIs World.var? at h1 ⊢
  rw [hg] at h1 ⊢
  simp only [Option.bind_some] at h1 ⊢
  rw [hb.block _ hB]
  exact h1
theorem Tabx.on {w w' : World} (h : Tabx w) (hb : Below w.heap.size w w') : Tabx w' := h.below h.2 hb
theorem itoa_any (n : Int) (h0 : -9223372036854775808 ≤ n) (h1 : n ≤ 9223372036854775807) (w : World) (htab : Tabx w) :
    Calls Tryz.prog 56 #[.int .i64 n] w fun e w' => e = .returned (.string (S (Lib.itoa n))) ∧ Below w.heap.size w w' :=
  (Tryz.strconv_Itoa n h0 h1 w htab.1).mono fun e w' ⟨h1, k, os, h2⟩ => ⟨h1, by rw [h2]; exact Lib.below_grow w.heap.size w (Nat.le_refl _) k os⟩
section
variable {lo g mb n : Nat} {l : List (Nm × Xd)} {xs : List ByteArray} {st : Int}
set_option maxHeartbeats 4000000 in
set_option maxRecDepth 100000 in
theorem param_len (xg : Nat) (hv : Value) (strict q : Bool) (wa : Option Addr) (wn wc : Nat) (w : World) (hX : XBk w xg g hv strict) (hV : VSt w lo g mb n l xs st) (t : ByteArray) (htab : Tabx w) (htz : t.size ≤ 500) (ht : find l xN = ⟨L t, true, true, false⟩) :
    Calls Tryz.prog 34 #[.pointer (some ⟨xg, 0, none⟩), paV ⟨2, q, ⟨#[120]⟩, ⟨#[108, 101, 110]⟩, wa, wn, wc⟩] w (ParamP w.heap.size ⟨S (Lib.itoa (t.size : Nat)), q, !q, false⟩ w) := by
  have CP : Hid (∀ W, Below w.heap.size w W → Calls Tryz.prog 52 #[.pointer (some ⟨g, 0, none⟩), .string ⟨#[120]⟩] W fun e w' => e = .returned (.tuple #[.string t, .bool true]) ∧ Below W.heap.size W w') := Lib.hid fun W hW => by
    have := vparam_x W (by obtain ⟨v, h⟩ := hV; exact ⟨v, h.below hW⟩ : VSt W lo g mb n l xs st)
    rw [ht] at this
    exact this
  have CO := Lib.hid (one_any (S (Lib.itoa (t.size : Nat))) ⟨2, q, ⟨#[120]⟩, ⟨#[108, 101, 110]⟩, wa, wn, wc⟩)
  have CC := Lib.hid (noColon ⟨#[108, 101, 110]⟩ (by decide) (by decide))
  have x0 : w.cell? ⟨xg, 0, none⟩ = some (.pointer (some ⟨g, 0, none⟩)) := by have := hX.cell 0; simpa using this
  have hxl := hX.lt
  have CI : Hid (∀ W, Below w.heap.size w W → Calls Tryz.prog 56 #[.int .i64 (t.size : Nat)] W fun e w' => e = .returned (.string (S (Lib.itoa (t.size : Nat)))) ∧ Below W.heap.size W w') := Lib.hid fun W hW => itoa_any (t.size : Nat) (by omega) (by omega) W (htab.on hW)
  clear hX hV ht htab
  go_enter Tryz.func34, Tryz.ntmps34
  go_wp2_with fail
  obtain ⟨W0, hW0⟩ : ∃ W0, W0 = w.alloc (.cells #[.int .i64 2, .bool q, .string ⟨#[120]⟩, .string ⟨#[108, 101, 110]⟩, .slice wa wn wc, .slice none 0 0] 36) := ⟨_, rfl⟩
  have KB : Hid (PaB W0 w.heap.size ⟨2, q, ⟨#[120]⟩, ⟨#[108, 101, 110]⟩, wa, wn, wc⟩) := Lib.hid (by rw [hW0]; exact Blk.new _ _ _)
  have HB0 : Hid (Below w.heap.size w W0) := Lib.hid (by rw [hW0]; go_grown)
  have hs0 : w.heap.size < W0.heap.size := by rw [hW0]; simp
  have y0 := (HB0.out.cell (p := ⟨xg, 0, none⟩) hxl).trans x0
  obtain ⟨_, y1, y2, y3, y4, _⟩ := KB.out.cells
  simp only at y1 y2 y3 y4
  rw [← hW0]
  clear hW0
  go_region_with (go_at_call 52; (with_reducible refine (CP.out _ HB0.out.drew).mono ?_); rintro e w1 ⟨rfl, hb1⟩; have HB1 := Lib.hid hb1; obtain ⟨_, z1, z2, z3, z4, z5⟩ := (PaB.below (w := W0.drew) KB.out hb1 hs0).cells; simp only at z1 z2 z3 z4 z5; clear hb1)
  all_goals
    have HB1'' : Hid (Below W0.heap.size W0 w1) := Lib.hid ((Below.refl W0.heap.size W0).drew.trans HB1.out)
    have HB1' := Lib.hid (HB0.out.drew.trans (HB1.out.mono (Nat.le_of_lt hs0)))
    go_wp2_with fail
    refine (CC.out _).mono ?_
    rintro e w2 ⟨rfl, rfl⟩
    go_wp2_with fail
    refine (CI.out _ HB1'.out).mono ?_
    rintro e w4 ⟨rfl, hb4⟩
    have HB4 := Lib.hid (HB1'.out.trans (hb4.mono HB1'.out.size))
    obtain ⟨v0, v1, v2, v3, v4, v5⟩ := (PaB.below KB.out (Below.trans HB1''.out (hb4.mono HB1''.out.size)) hs0).cells
    simp only at v0 v1 v2 v3 v4 v5
    clear hb4
    go_wp2_with fail
    refine (CO.out _).mono ?_
    rintro e w3 ⟨rfl, hb3⟩
    have HB3 := Lib.hid (HB4.out.trans (hb3.mono HB4.out.size))
    clear hb3
    go_wp2_with fail
    go_ret
    exact ⟨_, rfl, own_made #[.string (S (Lib.itoa (t.size : Nat))), .bool q, .bool !q, .bool false] _ (n := 1) (size := 4) rfl (by unfold maxLen; omega) HB3.out.size, HB3.out.alloc HB3.out.size _⟩
end
end Go.Proofs.YtjeinpadcknfbaaGreatDoor
/-
  word; instead for -: the walks.
-/
namespace Go.Proofs.YtjeinpadcknfbaaGreatDoor
open Go.RowKit

/-- The word of a part: one part, quoted. -/
def WordAt (w : World) (wa : Option Addr) (wc : Nat) (y : Pa) : Prop := Sl w w.heap.size 6 (.slice wa 1 wc) 1 (paC y) ∧ y.kind = 1 ∧ y.q = true ∧ y.t.size ≤ 500
theorem WordAt.below {w w' : World} {wa : Option Addr} {wc : Nat} {y : Pa} (h : WordAt w wa wc y) (hb : Below w.heap.size w w') : WordAt w' wa wc y := ⟨(h.1.below hb).mono hb.size, h.2⟩
theorem WordAt.text {w : World} {wa : Option Addr} {wc : Nat} {y : Pa} (h : WordAt w wa wc y) (xg : Nat) : TextC xg (.slice wa 1 wc) y.t w (fun W => Below w.heap.size w W) := text_lit h.1 h.2.1 h.2.2.1 h.2.2.2

set_option maxHeartbeats 4000000 in
theorem word_any (xg : Nat) (op : ByteArray) (wa : Option Addr) (wc : Nat) (y : Pa) (w : World) (hW : WordAt w wa wc y) :
    Calls Tryz.prog 55 #[.pointer (some ⟨xg, 0, none⟩), paV ⟨2, true, ⟨#[120]⟩, op, wa, 1, wc⟩] w (ParamP w.heap.size ⟨y.t, true, false, false⟩ w) := by
  have CT : Hid (∀ W, Below w.heap.size w W → TextC xg (.slice wa 1 wc) y.t W (fun W' => Below W.heap.size W W')) := Lib.hid fun W hb => (hW.below hb).text xg
  have CO := Lib.hid (one_any y.t ⟨2, true, ⟨#[120]⟩, op, wa, 1, wc⟩)
  clear hW
  go_enter Tryz.func55, Tryz.ntmps55
  go_wp2_with fail
  obtain ⟨W0, hW0⟩ : ∃ W0, W0 = w.alloc (.cells #[.int .i64 2, .bool true, .string ⟨#[120]⟩, .string op, .slice wa 1 wc, .slice none 0 0] 36) := ⟨_, rfl⟩
  have KB : Hid (PaB W0 w.heap.size ⟨2, true, ⟨#[120]⟩, op, wa, 1, wc⟩) := Lib.hid (by rw [hW0]; exact Blk.new _ _ _)
  have HB0 : Hid (Below w.heap.size w W0) := Lib.hid (by rw [hW0]; go_grown)
  have hs0 : w.heap.size < W0.heap.size := by rw [hW0]; simp
  obtain ⟨y0, y1, y2, y3, y4, y5⟩ := KB.out.cells
  simp only at y0 y1 y2 y3 y4 y5
  rw [← hW0]
  clear hW0
  go_region_with (first
    | (go_at_call 18; (with_reducible refine (CT.out _ HB0.out.drew).mono ?_); rintro e w1 ⟨rfl, hb1⟩; have HB1 := Lib.hid hb1; obtain ⟨z0, z1, z2, z3, z4, z5⟩ := (PaB.below (w := W0.drew) KB.out hb1 hs0).cells; simp only at z0 z1 z2 z3 z4 z5; clear hb1)
    | (go_at_call 36; (with_reducible refine (CO.out _).mono ?_); rintro e w3 ⟨rfl, hb3⟩; have HB3 := Lib.hid hb3; clear hb3))
  all_goals
    have HB9 := Lib.hid ((HB0.out.drew.trans (HB1.out.mono (Nat.le_of_lt hs0))).trans (HB3.out.mono (Nat.le_trans (Nat.le_of_lt hs0) HB1.out.size)))
    go_wp2_with fail
    go_ret
    exact ⟨_, rfl, own_made #[.string y.t, .bool true, .bool false, .bool false] _ (n := 1) (size := 4) rfl (by unfold maxLen; omega) HB9.out.size, HB9.out.alloc HB9.out.size _⟩

set_option maxHeartbeats 2000000 in
theorem instead_minus (xg : Nat) (op : ByteArray) (wa : Option Addr) (wc : Nat) (y : Pa) (w : World) (hW : WordAt w wa wc y) :
    Calls Tryz.prog 54 #[.pointer (some ⟨xg, 0, none⟩), paV ⟨2, true, ⟨#[120]⟩, op, wa, 1, wc⟩, .string ⟨#[45]⟩] w (ParamP w.heap.size ⟨y.t, true, false, false⟩ w) := by
  have CW : Hid (∀ W, Below w.heap.size w W → Calls Tryz.prog 55 #[.pointer (some ⟨xg, 0, none⟩), paV ⟨2, true, ⟨#[120]⟩, op, wa, 1, wc⟩] W (ParamP W.heap.size ⟨y.t, true, false, false⟩ W)) := Lib.hid fun W hb => word_any xg op wa wc y W (hW.below hb)
  clear hW
  go_enter Tryz.func54, Tryz.ntmps54
  go_wp2_with fail
  obtain ⟨W0, hW0⟩ : ∃ W0, W0 = w.alloc (.cells #[.int .i64 2, .bool true, .string ⟨#[120]⟩, .string op, .slice wa 1 wc, .slice none 0 0] 36) := ⟨_, rfl⟩
  have HB0 : Hid (Below w.heap.size w W0) := Lib.hid (by rw [hW0]; go_grown)
  rw [← hW0]
  clear hW0
  refine (CW.out _ HB0.out).mono ?_
  rintro e w1 ⟨v1, rfl, ho, hb⟩
  have HO := Lib.hid ho
  have HB := Lib.hid (HB0.out.trans (hb.mono HB0.out.size))
  clear ho hb
  go_wp2_with fail
  go_ret
  exact ⟨_, rfl, own_from HO.out HB0.out.size, HB.out⟩
end Go.Proofs.YtjeinpadcknfbaaGreatDoor
/-
  param of x, which is not set, for -: the walk.
-/
namespace Go.Proofs.YtjeinpadcknfbaaGreatDoor
open Go.RowKit

section
variable {lo g mb n : Nat} {l : List (Nm × Xd)} {xs : List ByteArray} {st : Int}
set_option maxHeartbeats 4000000 in
set_option maxRecDepth 100000 in
theorem param_not (xg : Nat) (hv : Value) (strict : Bool) (wa : Option Addr) (wc : Nat) (y : Pa) (w : World) (hX : XBk w xg g hv strict) (hV : VSt w lo g mb n l xs st) (hW : WordAt w wa wc y) (ht : find l xN = d0) :
    Calls Tryz.prog 34 #[.pointer (some ⟨xg, 0, none⟩), paV ⟨2, true, ⟨#[120]⟩, ⟨#[45]⟩, wa, 1, wc⟩] w (ParamP w.heap.size ⟨y.t, true, false, false⟩ w) := by
  have CP : Hid (∀ W, Below w.heap.size w W → Calls Tryz.prog 52 #[.pointer (some ⟨g, 0, none⟩), .string ⟨#[120]⟩] W fun e w' => e = .returned (.tuple #[.string ⟨#[]⟩, .bool false]) ∧ Below W.heap.size W w') := Lib.hid fun W hW => by
    have := vparam_x W (by obtain ⟨v, h⟩ := hV; exact ⟨v, h.below hW⟩ : VSt W lo g mb n l xs st)
    rw [ht] at this
    exact this
  have CI : Hid (∀ W, Below w.heap.size w W → Calls Tryz.prog 54 #[.pointer (some ⟨xg, 0, none⟩), paV ⟨2, true, ⟨#[120]⟩, ⟨#[45]⟩, wa, 1, wc⟩, .string ⟨#[45]⟩] W (ParamP W.heap.size ⟨y.t, true, false, false⟩ W)) := Lib.hid fun W hb => instead_minus xg ⟨#[45]⟩ wa wc y W (hW.below hb)
  have CC := Lib.hid (noColon ⟨#[45]⟩ (by decide) (by decide))
  have x0 : w.cell? ⟨xg, 0, none⟩ = some (.pointer (some ⟨g, 0, none⟩)) := by have := hX.cell 0; simpa using this
  have hxl := hX.lt
  clear hX hV ht hW
  go_enter Tryz.func34, Tryz.ntmps34
  go_wp2_with fail
  obtain ⟨W0, hW0⟩ : ∃ W0, W0 = w.alloc (.cells #[.int .i64 2, .bool true, .string ⟨#[120]⟩, .string ⟨#[45]⟩, .slice wa 1 wc, .slice none 0 0] 36) := ⟨_, rfl⟩
  have KB : Hid (PaB W0 w.heap.size ⟨2, true, ⟨#[120]⟩, ⟨#[45]⟩, wa, 1, wc⟩) := Lib.hid (by rw [hW0]; exact Blk.new _ _ _)
  have HB0 : Hid (Below w.heap.size w W0) := Lib.hid (by rw [hW0]; go_grown)
  have hs0 : w.heap.size < W0.heap.size := by rw [hW0]; simp
  have y0 := (HB0.out.cell (p := ⟨xg, 0, none⟩) hxl).trans x0
  obtain ⟨_, y1, y2, y3, y4, _⟩ := KB.out.cells
  simp only at y1 y2 y3 y4
  rw [← hW0]
  clear hW0
  go_region_with (go_at_call 52; (with_reducible refine (CP.out _ HB0.out.drew).mono ?_); rintro e w1 ⟨rfl, hb1⟩; have HB1 := Lib.hid hb1; obtain ⟨z0, z1, z2, z3, z4, z5⟩ := (PaB.below (w := W0.drew) KB.out hb1 hs0).cells; simp only at z0 z1 z2 z3 z4 z5; clear hb1)
  all_goals
    have HB1' := Lib.hid (HB0.out.drew.trans (HB1.out.mono (Nat.le_of_lt hs0)))
    go_wp2_with fail
    refine (CC.out _).mono ?_
    rintro e w2 ⟨rfl, rfl⟩
    go_wp2_with fail
    refine (CI.out _ HB1'.out).mono ?_
    rintro e w3 ⟨v3, rfl, ho3, hb3⟩
    have HO3 := Lib.hid ho3
    have HB3 := Lib.hid (HB1'.out.trans (hb3.mono HB1'.out.size))
    clear hb3 ho3
    go_wp2_with fail
    go_ret
    exact ⟨_, rfl, own_from HO3.out HB1'.out.size, HB3.out⟩
end
end Go.Proofs.YtjeinpadcknfbaaGreatDoor
namespace Go.Proofs.YtjeinpadcknfbaaGreatDoor
open Go.RowKit

theorem must_ok (w : World) : Calls Tryz.prog 35 #[.int .i64 0] w fun e w' => e = .returned (.tuple #[]) ∧ w = w' := by
  go_enter Tryz.func35, Tryz.ntmps35
  go_wp2_with fail
  go_end0
  exact ⟨rfl, rfl⟩
theorem nameL_x : nameL (L ⟨#[120]⟩) = true := by decide

section
variable {lo g mb n : Nat} {l : List (Nm × Xd)} {xs : List ByteArray} {st : Int}
/-- What = leaves: a piece; the variable has the text. -/
def SetP (v0 : Value) (B : Nat) (x : In) (lo g mb n : Nat) (l : List (Nm × Xd)) (xs : List ByteArray) (st : Int) (w : World) (e : Ending) (w' : World) : Prop :=
  ∃ v', e = .returned v' ∧ OneP B x v' w' ∧ VS v0 w' lo g mb (n + 1) (putL l xN ⟨L x.t, true, false, false⟩) xs st ∧ But g mb w w'
set_option maxHeartbeats 4000000 in
set_option maxRecDepth 100000 in
theorem instead_set (v0 : Value) (xg : Nat) (hv : Value) (strict : Bool) (wa : Option Addr) (wc : Nat) (y : Pa) (w : World) (hX : XBk w xg g hv strict) (hxg : xg ≠ g ∧ xg ≠ mb) (hV : VS v0 w lo g mb n l xs st) (hn : n ≤ 1000) (hW : WordAt w wa wc y) (ht : find l xN = d0) :
    Calls Tryz.prog 54 #[.pointer (some ⟨xg, 0, none⟩), paV ⟨2, true, ⟨#[120]⟩, ⟨#[61]⟩, wa, 1, wc⟩, .string ⟨#[61]⟩] w (SetP v0 w.heap.size ⟨y.t, true, false, false⟩ lo g mb n l xs st w) := by
  have CN := Lib.hid (fun W => name_any ⟨#[120]⟩ W (by unfold maxLen; decide))
  rw [nameL_x] at CN
  have CT : Hid (∀ W, Below w.heap.size w W → TextC xg (.slice wa 1 wc) y.t W (fun W' => Below W.heap.size W W')) := Lib.hid fun W hb => (hW.below hb).text xg
  have hsr : setR l (L ⟨#[120]⟩) (L y.t) = (putL l xN ⟨L y.t, true, false, false⟩, 0) := by
    rw [setR, nameL_x]
    show (if (find l xN).fix = true then _ else (putL l xN ⟨L y.t, true, (find l xN).exp, (find l xN).fix⟩, 0)) = _
    rw [ht]
    rfl
  have hz := hW.2.2.2
  have CS : Hid (∀ W, Below w.heap.size w W → Calls Tryz.prog 81 #[.pointer (some ⟨g, 0, none⟩), .string ⟨#[120]⟩, .string y.t] W fun e w' => e = .returned (.int .i64 0) ∧ VS v0 w' lo g mb (n + 1) (putL l xN ⟨L y.t, true, false, false⟩) xs st ∧ But g mb W w') := Lib.hid fun W hW => by
    have := vset_any ⟨#[120]⟩ y.t W (hV.below hW) hn (by decide) (by omega)
    rw [hsr] at this
    exact this
  have CO := Lib.hid (one_any y.t ⟨2, true, ⟨#[120]⟩, ⟨#[61]⟩, wa, 1, wc⟩)
  have x0 : w.cell? ⟨xg, 0, none⟩ = some (.pointer (some ⟨g, 0, none⟩)) := by have := hX.cell 0; simpa using this
  have hxl := hX.lt
  have hgl : g < w.heap.size ∧ mb < w.heap.size := hV.lt
  have HXG := Lib.hid hxg
  have HGL := Lib.hid hgl
  clear hX hV ht hW hsr hz hxg hgl
  go_enter Tryz.func54, Tryz.ntmps54
  go_wp2_with fail
  obtain ⟨W0, hW0⟩ : ∃ W0, W0 = w.alloc (.cells #[.int .i64 2, .bool true, .string ⟨#[120]⟩, .string ⟨#[61]⟩, .slice wa 1 wc, .slice none 0 0] 36) := ⟨_, rfl⟩
  have KB : Hid (PaB W0 w.heap.size ⟨2, true, ⟨#[120]⟩, ⟨#[61]⟩, wa, 1, wc⟩) := Lib.hid (by rw [hW0]; exact Blk.new _ _ _)
  have HB0 : Hid (Below w.heap.size w W0) := Lib.hid (by rw [hW0]; go_grown)
  have hs0 : w.heap.size < W0.heap.size := by rw [hW0]; simp
  obtain ⟨y0, y1, y2, y3, y4, y5⟩ := KB.out.cells
  simp only at y0 y1 y2 y3 y4 y5
  rw [← hW0]
  clear hW0
  refine (CN.out _).mono ?_
  rintro e w1 ⟨rfl, hb1⟩
  have HB1 := Lib.hid (HB0.out.trans (hb1.mono HB0.out.size))
  have K1 := Lib.hid (PaB.below KB.out hb1 hs0)
  obtain ⟨z0, z1, z2, z3, z4, z5⟩ := K1.out.cells
  simp only at z0 z1 z2 z3 z4 z5
  clear hb1 y0 y1 y2 y3 y4 y5
  go_wp2_with fail
  refine (CT.out _ HB1.out).mono ?_
  rintro e w2 ⟨rfl, hb2⟩
  have HB2 := Lib.hid (HB1.out.trans (hb2.mono HB1.out.size))
  have K2 := Lib.hid (PaB.below K1.out hb2 (Blk.lt K1.out))
  obtain ⟨y0, y1, y2, y3, y4, y5⟩ := K2.out.cells
  simp only at y0 y1 y2 y3 y4 y5
  have x2 := (HB2.out.cell (p := ⟨xg, 0, none⟩) hxl).trans x0
  clear hb2 z0 z1 z2 z3 z4 z5
  go_wp2_with fail
  go_region_with (first
    | (go_at_call 81; (with_reducible refine (CS.out _ HB2.out.drew).mono ?_); rintro e w3 ⟨rfl, hV3, hb3⟩; have HV3 := Lib.hid hV3; have HB3 := Lib.hid hb3; clear hV3 hb3)
    | (go_at_call 35; (with_reducible refine (must_ok _).mono ?_); rintro e w4 ⟨rfl, rfl⟩))
  all_goals
    have HT3 := Lib.hid ((But.of_below (g := g) (mb := mb) (Below.drew HB2.out)).trans HB3.out)
    have K3 : Hid (PaB w3 w.heap.size ⟨2, true, ⟨#[120]⟩, ⟨#[61]⟩, wa, 1, wc⟩) := Lib.hid (Blk.but (w := w2.drew) K2.out HB3.out (by have := HGL.out; omega) (by have := HGL.out; omega))
    obtain ⟨z0, z1, z2, z3, z4, z5⟩ := K3.out.cells
    simp only at z0 z1 z2 z3 z4 z5
    go_wp2_with fail
    refine (CO.out _).mono ?_
    rintro e w5 ⟨rfl, hb5⟩
    have HT5 := Lib.hid (HT3.out.on hb5)
    have HV5 : Hid (VS v0 w5 lo g mb (n + 1) (putL l xN ⟨L y.t, true, false, false⟩) xs st) := Lib.hid (HV3.out.below hb5)
    clear hb5
    go_wp2_with fail
    go_ret
    exact ⟨_, rfl, own_made #[.string y.t, .bool true, .bool false, .bool false] _ (n := 1) (size := 4) rfl (by unfold maxLen; omega) HT5.out.size, HV5.out.below ((Below.refl _ _).alloc (Nat.le_refl _) _), HT5.out.alloc _⟩
end
end Go.Proofs.YtjeinpadcknfbaaGreatDoor
