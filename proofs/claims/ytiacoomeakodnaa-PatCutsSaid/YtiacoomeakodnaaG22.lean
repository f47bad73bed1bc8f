/-
  The pieces' bytes, as the document has them: the walk of refs.
-/
import Derived.Test.YtiacoomeakodnaaG16
import Derived.Test.YtiacoomeakodnaaSlStep
import Derived.Deep.RegionHeld3
namespace Go.Proofs.Ytiacoomeakodnaa
open Go.RowKit

theorem infoS16 : (Try.prog.info? 38).map (fun i => (i.zero, i.size, i.bytes)) = some (some (.agg #[.int .u8 0, .bool false]), 2, 2) := by kernel_rfl
def starsN (l : List Sg) : Nat := (l.filter fun s => isb s 42).length
theorem stars_snoc (l : List Sg) (s : Sg) : starsN (l ++ [s]) = starsN l + if isb s 42 then 1 else 0 := by
  unfold starsN
  rw [List.filter_append]
  cases h : isb s 42 <;> simp [h]
theorem stars_le (l : List Sg) : starsN l ≤ l.length := List.length_filter_le _ _
def RefsPost (s : List Sg) (w : World) (e : Ending) (w' : World) : Prop := Below w.heap.size w w' ∧ if s.length ≤ 61 then ∃ v, e = .returned (.tuple #[v, .bool (decide (starsN s ≤ 5))]) ∧ w'.ownsRow w.heap.size 38 2 v s.length (s.flatMap sgC)
  else e = .returned (.tuple #[.slice none 0 0, .bool false])

structure RefIn (w wi : World) (g : Nat) (p : Pc) (v4 : Value) (done : List Sg) : Prop where
  own : wi.ownsRow w.heap.size 38 2 v4 done.length (done.flatMap sgC)
  bel : Below w.heap.size w wi
  box : Blk wi g 41 #[.string p.t, .bool p.q]
  g0 : w.heap.size ≤ g
  og : v4.ownBlock ≠ some g

theorem RefIn.push {w wi wd w1 : World} {g : Nat} {p : Pc} {v4 : Value} {done : List Sg} (hI : RefIn w wi g p v4 done) (hwd : Below wi.heap.size wi wd) (s : Sg) {g' cap n : Nat} (hn : n = done.length) (hown : w1.ownsRow w.heap.size 38 2 (.slice (some ⟨g', 0, none⟩) (n + 1) cap) (n + 1) (done.flatMap sgC ++ [s].flatMap sgC))
    (hg : wd.grownBy w1 v4.ownBlock) (hl : v4.ownBlock = some g' ∨ g' = wd.heap.size) : RefIn w w1 g p (.slice (some ⟨g', 0, none⟩) (n + 1) cap) (done ++ [s]) := by
  have hb := hI.bel.size
  have hd := hwd.size
  have hgw := hI.box.lt
  refine ⟨?_, (hI.bel.trans (hwd.mono hb)).grown hg (by omega) fun k hk => (World.ownsRow.lt hI.own k hk).1, (hI.box.below hwd hgw).grown hg hI.og, hI.g0, fun e => ?_⟩
  · rw [List.length_append, ← hn, List.flatMap_append]
    exact hown
  · simp [Value.ownBlock] at e
    subst e
    rcases hl with hl | hl
    · exact hI.og hl
    · omega

set_option maxHeartbeats 4000000 in
theorem refs_any (l : List Pc) (v : Value) (w : World) (hl : Sl w w.heap.size 2 v l.length (l.flatMap pcC)) (hps : ∀ p ∈ l, p.t.size ≤ maxLen) :
    Calls Try.prog 11 #[v] w (RefsPost (signsOf l) w) := by
  obtain ⟨n, hnl⟩ : ∃ n, n = l.length := ⟨_, rfl⟩
  rw [← hnl] at hl
  have hnm := hl.len
  unfold maxLen at hnm
  obtain ⟨a, cap, rfl⟩ : ∃ a cap, v = .slice a n cap := by
    obtain ⟨_, a, cap, h, _⟩ := hl
    exact ⟨a, cap, h⟩
  have HL := Lib.hid hl
  have HN := Lib.hid hnl
  have HPS := Lib.hid hps
  clear hl hnl hps
  go_enter Try.func11, Try.ntmps11
  go_wp2_with fail
  go_loopw [4, 5, 11] (fun v4 c i wr => ∃ k : Nat, k ≤ n ∧ i = .int .i64 k ∧ c = .int .i64 (starsN (signsOf (l.take k)) : Nat) ∧ (signsOf (l.take k)).length ≤ 61 ∧ wr.ownsRow w.heap.size 38 2 v4 (signsOf (l.take k)).length ((signsOf (l.take k)).flatMap sgC) ∧ Below w.heap.size w wr) (fun _ _ i _ => n - (intOf i).toNat)
  case atStart => exact ⟨0, Nat.zero_le _, rfl, rfl, by simp [signsOf], World.ownsRow_nil _ _ _ _, Below.refl _ _⟩
  case round =>
    obtain ⟨k, hk, rfl, rfl, h61, hown, hb⟩ := hrel
    obtain ⟨wo, rfl⟩ : ∃ wo : World, wo = wr := ⟨_, rfl⟩
    have hsz := hb.size
    by_cases hlt : k < n
    · obtain ⟨x, hx⟩ : ∃ x, l[k]? = some x := ⟨_, List.getElem?_eq_getElem (by rw [← HN.out]; omega)⟩
      have hl1 := HL.out.below hb
      rw [HN.out] at hl1
      obtain ⟨b1, o1, i1, hb1, c1, d1⟩ := pc_at hl1 hx (k : Int) rfl
      rw [← HN.out] at i1
      have hb1' : b1 < wo.heap.size := by omega
      have hst := Lib.hid (signs_take hx)
      have HLE := Lib.hid (signs_le l (k + 1))
      obtain ⟨t, q⟩ := x
      obtain ⟨d0, hd0⟩ : ∃ d0, d0 = signsOf (l.take k) := ⟨_, rfl⟩
      rw [← hd0] at hown hst h61 ⊢
      obtain ⟨c0, hc0⟩ : ∃ c0, c0 = starsN d0 := ⟨_, rfl⟩
      have hc61 := stars_le d0
      rw [← hc0] at hc61 ⊢
      have hts : t.size ≤ 9223372036854775807 := HPS.out _ (List.mem_of_getElem? hx)
      have HC0 := Lib.hid hc0
      have HOWN := Lib.hid hown
      have HB := Lib.hid hb
      have HX := Lib.hid hx
      clear hl1 hx hown hb hd0 hc0
      go_wp2_with fail
      go_loopw [4, 5, 18] (fun v4 c j wi => ∃ m : Nat, m ≤ t.size ∧ j = .int .i64 m ∧ c = .int .i64 (starsN (d0 ++ (signsP ⟨t, q⟩).take m) : Nat) ∧ (d0 ++ (signsP ⟨t, q⟩).take m).length ≤ 61 ∧ RefIn w wi wo.heap.size ⟨t, q⟩ v4 (d0 ++ (signsP ⟨t, q⟩).take m)) (fun _ _ j _ => t.size - (intOf j).toNat)
      case atStart =>
        refine ⟨0, Nat.zero_le _, rfl, by rw [List.take_zero, List.append_nil, ← HC0.out], by simpa using h61, ?_⟩
        have h1 := Blk.new wo 41 #[.string t, .bool q]
        have hba := Below.alloc (Below.refl wo.heap.size wo) (Nat.le_refl _) (.cells #[.string t, .bool q] 41)
        rw [List.take_zero, List.append_nil]
        exact ⟨own_below HOWN.out hba, HB.out.trans (hba.mono (by omega)), h1, by omega, own_ne_new HOWN.out (by omega)⟩
      case round =>
        obtain ⟨m, hm, rfl, rfl, hd61, HI0⟩ := hrel
        obtain ⟨wi, rfl⟩ : ∃ wi : World, wi = wr := ⟨_, rfl⟩
        have hbx0 := HI0.box.cell 0
        have hbx := HI0.box.cell 1
        simp at hbx hbx0
        by_cases hm1 : m < t.size
        · have HI := Lib.hid HI0
          have hst2 := signsP_take ⟨t, q⟩ (j := m) hm1
          simp only at hst2
          obtain ⟨bb, hbb⟩ : ∃ bb, bb = (L t).getD m 0 := ⟨_, rfl⟩
          rw [← hbb] at hst2
          have hidx := run_idx (P := Try.prog) Try.underlying9 t (k := .i64) (m : Int) m rfl hm1
          rw [← hbb] at hidx
          have HST := Lib.hid hst2
          obtain ⟨sa, scap, rfl⟩ := own_shape HI0.own
          obtain ⟨c, hc⟩ : ∃ c, c = (d0 ++ (signsP ⟨t, q⟩).take m).length := ⟨_, rfl⟩
          obtain ⟨s0, hs0⟩ : ∃ s0, s0 = starsN (d0 ++ (signsP ⟨t, q⟩).take m) := ⟨_, rfl⟩
          have hsn := stars_snoc (d0 ++ (signsP ⟨t, q⟩).take m) ⟨bb, q⟩
          have hs61 := stars_le (d0 ++ (signsP ⟨t, q⟩).take m)
          rw [← hs0] at hsn hs61 ⊢
          rw [← hc] at hd61 hs61
          have how := HI0.own
          rw [← hc] at HI how ⊢
          have HOW := Lib.hid how
          have HC := Lib.hid hc
          have HSN := Lib.hid hsn
          have hg0 := HI0.box.lt
          have hbs := HI0.bel.size
          clear HI0 hst2 hbb hc how hs0 hsn
          by_cases hbig : 60 < c
          · have hR : ¬ (signsOf l).length ≤ 61 := by
              have h1 := HLE.out
              rw [hst.out, List.length_append] at h1
              have h2 := HC.out
              rw [List.length_append, List.length_take] at h2
              have h3 : (signsP ⟨t, q⟩).length = t.size := by simp [signsP, L_size]
              omega
            have HRR := Lib.hid hR
            clear hR
            go_wp2_with fail
            go_ret2
            exact ⟨HI.out.bel, by rw [if_neg HRR.out]; rfl⟩
          · go_wp2_with fail
            have hnx : c + 1 ≤ 61 := by omega
            by_cases h42 : bb = 42
            · have e42 : (((bb.toNat : Nat) : Int) == 42) = true := eq_byte h42
              have HIS : Hid (isb ⟨bb, q⟩ 42 = !q) := Lib.hid (by rw [h42]; cases q <;> rfl)
              clear h42
              cases q with
              | false =>
                go_region_held3 (fun w' => w'.cell? ⟨wo.heap.size, 0, none⟩ = some (.string t) ∧ w'.cell? ⟨wo.heap.size, 1, none⟩ = some (.bool false)) (go_keep) (first | (refine step_append_sl rfl _ _ 31 rfl w.heap.size 38 Try.underlying31 infoS16 rfl (by decide) (v := .slice sa c scap) (n := c) (xs := (d0 ++ (signsP ⟨t, false⟩).take m).flatMap sgC) rfl (own_below HOW.out ((Below.drew (Below.refl _ _)).alloc (by simp) _)) (m := 1) (news := [.int .u8 ((bb.toNat : Nat) : Int), .bool false]) rfl (sl_made_at _ #[.int .u8 ((bb.toNat : Nat) : Int), .bool false] _ 1 2 rfl (by unfold maxLen; omega) (by simp)) (by omega) (signs_one [⟨bb, false⟩]) (by omega) (by simp; omega) ?_; intro g cap1 w2 hown hgrow hlie hglt; have HP := Lib.hid (HI.out.push ((Below.drew (Below.refl _ _)).alloc (by simp) _) ⟨bb, false⟩ HC.out hown hgrow hlie); have hx0 := HP.out.box.cell 0; have hx1 := HP.out.box.cell 1; simp at hx0 hx1; clear hown hgrow hlie hglt))
                all_goals trace_state
                go_wp2
                go_roundw
                case rel => exact ⟨m + 1, by omega, by go_num, by first | (rw [HST.out, ← List.append_assoc, HSN.out]; first | (rw [HIS.out]; first | rfl | go_num)) | trivial, by rw [HST.out, ← List.append_assoc, List.length_append, ← HC.out]; exact hnx, by rw [HST.out, ← List.append_assoc]; exact HP.out⟩
                case measure => simp [intOf]; omega
              | true =>
                go_region_held3 (fun w' => w'.cell? ⟨wo.heap.size, 0, none⟩ = some (.string t) ∧ w'.cell? ⟨wo.heap.size, 1, none⟩ = some (.bool true)) (go_keep) (first | (refine step_append_sl rfl _ _ 31 rfl w.heap.size 38 Try.underlying31 infoS16 rfl (by decide) (v := .slice sa c scap) (n := c) (xs := (d0 ++ (signsP ⟨t, true⟩).take m).flatMap sgC) rfl (own_below HOW.out ((Below.drew (Below.refl _ _)).alloc (by simp) _)) (m := 1) (news := [.int .u8 ((bb.toNat : Nat) : Int), .bool true]) rfl (sl_made_at _ #[.int .u8 ((bb.toNat : Nat) : Int), .bool true] _ 1 2 rfl (by unfold maxLen; omega) (by simp)) (by omega) (signs_one [⟨bb, true⟩]) (by omega) (by simp; omega) ?_; intro g cap1 w2 hown hgrow hlie hglt; have HP := Lib.hid (HI.out.push ((Below.drew (Below.refl _ _)).alloc (by simp) _) ⟨bb, true⟩ HC.out hown hgrow hlie); have hx0 := HP.out.box.cell 0; have hx1 := HP.out.box.cell 1; simp at hx0 hx1; clear hown hgrow hlie hglt))
                all_goals trace_state
                go_wp2
                go_roundw
                case rel => exact ⟨m + 1, by omega, by go_num, by first | (rw [HST.out, ← List.append_assoc, HSN.out]; first | (rw [HIS.out]; first | rfl | go_num)) | trivial, by rw [HST.out, ← List.append_assoc, List.length_append, ← HC.out]; exact hnx, by rw [HST.out, ← List.append_assoc]; exact HP.out⟩
                case measure => simp [intOf]; omega
            · have e42 : (((bb.toNat : Nat) : Int) == 42) = false := ne_byte h42
              have HIS : Hid (isb ⟨bb, q⟩ 42 = false) := Lib.hid (by simp [isb, h42])
              clear h42
              go_region_held3 (fun w' => w'.cell? ⟨wo.heap.size, 0, none⟩ = some (.string t) ∧ w'.cell? ⟨wo.heap.size, 1, none⟩ = some (.bool q)) (go_keep) (first | (refine step_append_sl rfl _ _ 31 rfl w.heap.size 38 Try.underlying31 infoS16 rfl (by decide) (v := .slice sa c scap) (n := c) (xs := (d0 ++ (signsP ⟨t, q⟩).take m).flatMap sgC) rfl (own_below HOW.out ((Below.drew (Below.refl _ _)).alloc (by simp) _)) (m := 1) (news := [.int .u8 ((bb.toNat : Nat) : Int), .bool q]) rfl (sl_made_at _ #[.int .u8 ((bb.toNat : Nat) : Int), .bool q] _ 1 2 rfl (by unfold maxLen; omega) (by simp)) (by omega) (signs_one [⟨bb, q⟩]) (by omega) (by simp; omega) ?_; intro g cap1 w2 hown hgrow hlie hglt; have HP := Lib.hid (HI.out.push ((Below.drew (Below.refl _ _)).alloc (by simp) _) ⟨bb, q⟩ HC.out hown hgrow hlie); have hx0 := HP.out.box.cell 0; have hx1 := HP.out.box.cell 1; simp at hx0 hx1; clear hown hgrow hlie hglt))
              all_goals trace_state
              go_wp2
              go_roundw
              case rel => exact ⟨m + 1, by omega, by go_num, by first | (rw [HST.out, ← List.append_assoc, HSN.out]; first | (rw [HIS.out]; first | rfl | go_num)) | trivial, by rw [HST.out, ← List.append_assoc, List.length_append, ← HC.out]; exact hnx, by rw [HST.out, ← List.append_assoc]; exact HP.out⟩
              case measure => simp [intOf]; omega
        · obtain rfl : m = t.size := by omega
          go_wp2_with fail
          go_roundw
          case rel =>
            have h1 := HI0.own
            have e : d0 ++ (signsP ⟨t, q⟩).take t.size = signsOf (l.take (k + 1)) := by rw [hst.out, List.take_of_length_le (by simp [signsP, L_size])]
            rw [e] at h1 hd61 ⊢
            exact ⟨k + 1, by omega, by go_num, rfl, hd61, h1, HI0.bel⟩
          case measure => simp [intOf]; omega
    · obtain rfl : k = n := by omega
      have e : l.take k = l := List.take_of_length_le (by rw [← HN.out]; omega)
      rw [e] at h61 hown ⊢
      have hsl := stars_le (signsOf l)
      have HW := Lib.hid hown
      have HB := Lib.hid hb
      have H61 := Lib.hid h61
      clear hown hb e
      go_wp2_with fail
      go_ret2
      refine ⟨HB.out, ?_⟩
      rw [if_pos H61.out]
      exact ⟨_, congrArg Ending.returned (congrArg Value.tuple (by simp; omega)), HW.out⟩
end Go.Proofs.Ytiacoomeakodnaa
