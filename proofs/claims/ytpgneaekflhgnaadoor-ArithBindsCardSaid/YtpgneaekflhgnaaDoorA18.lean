/-
  The walks of set and assign where x is given 2+3*4; the anchor.
-/
import Derived.Test.YtpgneaekflhgnaaDoorA17
import Derived.Deep.RegionWith
namespace Go.Proofs.YtpgneaekflhgnaaDoor
open Go.RowKit

def row14 : List Tok := [(13, 3), (15, 4)]
theorem dec1 (m : Nat) (h : m < 10) : Lib.decDigits m = [UInt8.ofNat (48 + m)] := Lib.decDigits_one h
theorem text14 : Lib.decDigits (2 : Int).toNat ++ tailS false row14 = [50, 43, 51, 42, 52] := by
  show Lib.decDigits 2 ++ (opB 13 ++ (padB false ++ (Lib.decDigits 3 ++ (opB 15 ++ (padB false ++ (Lib.decDigits 4 ++ [])))))) = _
  rw [dec1 2 (by omega), dec1 3 (by omega), dec1 4 (by omega)]
  rfl
theorem worth14 : worth apO 2 row14 = some 14 := by kernel_rfl
theorem itoa14 : (⟨(Lib.itoa 14).toArray⟩ : ByteArray) = ⟨#[49, 52]⟩ := by
  have h : Lib.itoa 14 = [49, 52] := by
    rw [Lib.itoa, if_neg (by decide)]
    show Lib.decDigits 14 = _
    rw [Lib.decDigits, dif_neg (by decide)]
    show Lib.decDigits 1 ++ [UInt8.ofNat (48 + 4)] = _
    rw [dec1 1 (by omega)]
    rfl
  rw [h]
theorem num_ok (y : Int) (h : 0 ≤ y ∧ y < 100) : Num y := ⟨h.1, by omega⟩
theorem row14_ok : Row row14 := fun t ht => by
  simp [row14] at ht
  rcases ht with rfl | rfl
  · exact ⟨by decide, num_ok _ (by decide)⟩
  · exact ⟨by decide, num_ok _ (by decide)⟩
def vIf (vb : Nat) : Value := .iface 30 (.pointer (some ⟨vb, 0, none⟩))
theorem VN.but {w w' : World} {vb g : Nat} (h : VN w vb) (hb : But g g w w') (hg : vb ≠ g) : VN w' vb := Blk.but h hb hg hg
theorem VX.mono {w : World} {vb lo lo' : Nat} (h : VX w vb lo) (hl : lo' ≤ lo) : VX w vb lo' := by
  obtain ⟨b, c, h1, h2⟩ := h
  exact ⟨b, c, Nat.le_trans hl h1, h2⟩
theorem But.left {g h : Nat} {a b : World} (k : But g g a b) : But g h a b := ⟨k.os, k.tape, k.output, k.size, fun x h1 h2 _ => k.block x h1 h2 h2⟩
theorem But.right {g h : Nat} {a b : World} (k : But h h a b) : But g h a b := ⟨k.os, k.tape, k.output, k.size, fun x h1 _ h2 => k.block x h1 h2 h2⟩
theorem SR.but {g x y : Nat} {a b : World} {s : ByteArray} {l : List UInt8} {lf : Int} {vv : Value} {q : Int} (h : SR a g s l lf vv q) (k : But x y a b) (h1 : g ≠ x) (h2 : g ≠ y) : SR b g s l lf vv q := by
  obtain ⟨p, hp, hl, hb⟩ := h
  exact ⟨p, hp, hl, Blk.but hb k h1 h2⟩
section
variable {w : World} {g vb : Nat} {s : ByteArray}
set_option maxHeartbeats 1000000 in
set_option maxRecDepth 100000 in
theorem set_x (k : SR w g s [50, 43, 51, 42, 52] 200 (.iface 30 (.pointer (some ⟨vb, 0, none⟩))) 0) (hs : s.size ≤ 1000000) (hv : VN w vb) (hne : vb ≠ g) (ht : Tab w) (htg : 2 < g) :
    Calls Tryd.prog 33 #[.pointer (some ⟨g, 0, none⟩), .string ⟨#[120]⟩, .string ⟨#[]⟩] w fun e w' => e = .returned (.int .i64 14) ∧ SR w' g s [] 200 (.iface 30 (.pointer (some ⟨vb, 0, none⟩))) 0 ∧ VX w' vb w.heap.size ∧ But g vb w w' := by
  have C1 := Lib.hid (in_sr k (by omega) (by omega))
  have HV := Lib.hid hv
  have HT := Lib.hid (And.intro ht htg)
  have HS := Lib.hid hs
  have HNE := Lib.hid hne
  have HG := Lib.hid k.lt
  have HVL : Hid (vb < w.heap.size) := Lib.hid (Blk.lt hv)
  clear k hs hv hne ht htg
  go_enter Tryd.func33, Tryd.ntmps33
  go_wp2_with fail
  refine C1.out.mono ?_
  rintro e w1 ⟨rfl, hs1, hb1⟩
  have hs1' : SR w1 g s (Lib.decDigits (2 : Int).toNat ++ tailS false row14) 199 (.iface 30 (.pointer (some ⟨vb, 0, none⟩))) 0 := by rw [text14]; exact hs1
  have C2 := Lib.hid (assign_num hs1' HS.out (num_ok 2 (by decide)) row14_ok (by omega) (by omega))
  unfold ValP at C2
  rw [worth14] at C2
  have HB1 := Lib.hid hb1
  clear hs1 hs1' hb1 C1
  go_wp2_with fail
  refine C2.out.mono ?_
  rintro e w2 ⟨h12, h3⟩
  rcases h12.symm with ⟨h2, rfl⟩ | ⟨v, rfl, h2, h2'⟩
  · cases h2
  obtain rfl : v = 14 := (Option.some.inj h2).symm
  have HB2 : Hid (But g g w w2) := Lib.hid (HB1.out.trans h3)
  obtain ⟨p, hp, hl, hb⟩ := h2'
  have d2 := hb.c2
  have d3 := hb.c3
  have d4 := hb.c4
  have f2 := hb.z2
  have HP : Hid (SR (w2.setCell ⟨g, 2, none⟩ (.int .i64 200)) g s [] 200 (.iface 30 (.pointer (some ⟨vb, 0, none⟩))) 0 ∧ But g g w (w2.setCell ⟨g, 2, none⟩ (.int .i64 200))) := Lib.hid ⟨⟨p, hp, hl, hb.put2 200⟩, HB2.out.setG 2 _⟩
  clear h12 h2 h3 hp hl hb C2
  go_wp2_with fail
  obtain ⟨W3, hW3⟩ : ∃ W3, W3 = w2.setCell ⟨g, 2, none⟩ (.int .i64 200) := ⟨_, rfl⟩
  rw [← hW3] at HP ⊢
  have e3 : W3.cell? ⟨g, 3, none⟩ = some (.iface 30 (.pointer (some ⟨vb, 0, none⟩))) := by obtain ⟨p, _, _, hb⟩ := HP.out.1; exact hb.c3
  clear hW3 d2 d3 d4 f2
  have hbd : Below W3.heap.size W3 W3.drew := Below.drew (Below.refl _ _)
  have HD : Hid (But g g w W3.drew ∧ SR W3.drew g s [] 200 (.iface 30 (.pointer (some ⟨vb, 0, none⟩))) 0) := Lib.hid ⟨HP.out.2.on hbd, HP.out.1.below hbd⟩
  have HT3 : Hid (Tab W3.drew) := Lib.hid (HT.out.1.below HT.out.2 (HD.out.1.below (B := g) (Nat.le_refl _) (Nat.le_refl _) (by have := HG.out; omega)))
  have CD := Lib.hid (digits_any 14 (by omega) (by omega) _ HT3.out)
  rw [itoa14] at CD
  clear hbd
  go_region_with (first
    | (go_at_call 13; refine CD.out.mono ?_; rintro e w4 ⟨rfl, hb4⟩; have H4 := Lib.hid hb4; have e4 : w4.cell? ⟨g, 3, none⟩ = some (.iface 30 (.pointer (some ⟨vb, 0, none⟩))) := (by obtain ⟨p, _, _, hb⟩ := HD.out.2.below hb4; exact hb.c3); clear hb4)
    | (go_at_call 96; refine (lset_x (w := w4) (vb := vb) (Blk.below (HV.out.but HD.out.1 HNE.out) H4.out (Nat.lt_of_lt_of_le HVL.out HD.out.1.size))).mono ?_; rintro e w5 ⟨rfl, hv5, hb5⟩; have H5 := Lib.hid (And.intro hv5 hb5); clear hv5 hb5))
  all_goals
    have HF : Hid (SR w5 g s [] 200 (.iface 30 (.pointer (some ⟨vb, 0, none⟩))) 0 ∧ VX w5 vb w.heap.size ∧ But g vb w w5) := Lib.hid ⟨(HD.out.2.below H4.out).but H5.out.2 (Ne.symm HNE.out) (Ne.symm HNE.out), H5.out.1.mono (Nat.le_trans HD.out.1.size H4.out.size), (HD.out.1.left.on H4.out).trans H5.out.2.right⟩
    go_wp2_with fail
    go_ret
    exact ⟨rfl, HF.out⟩
theorem take_yes1 {l : List UInt8} {lf : Int} {vv : Value} {q : Int} (k : SR w g s l lf vv q) (hs : s.size ≤ 1000000) (t x : ByteArray) (T : TypeId) (b : Nat) (hb : b = w.heap.size) (h : takeL (L t) [L x] l = true) :
    Calls Tryd.prog 32 #[.pointer (some ⟨g, 0, none⟩), .string t, .slice (some ⟨b, 0, none⟩) 1 1] (w.alloc (.cells #[.string x] T)) fun e w' => e = .returned (.bool true) ∧ SR w' g s (skipB (l.drop t.size)) lf vv q ∧ But g g w w' := by
  subst hb
  have h2 := take_any (k.alloc (.cells #[.string x] T)) hs t (some ⟨w.heap.size, 0, none⟩) 1 _ [x] (elems_one w (.string x) T) (by simp)
  rw [show [x].map L = [L x] from rfl, h, if_pos rfl] at h2
  exact h2.mono fun e w' ⟨h1, h2, h3⟩ => ⟨h1, h2, ((But.refl g g w).alloc _).trans h3⟩
set_option maxHeartbeats 1000000 in
set_option maxRecDepth 100000 in
theorem assign_x (k : SR w g s [120, 61, 50, 43, 51, 42, 52] 200 (.iface 30 (.pointer (some ⟨vb, 0, none⟩))) 0) (hs : s.size ≤ 1000000) (hv : VN w vb) (hne : vb ≠ g) (ht : Tab w) (htg : 2 < g) :
    Calls Tryd.prog 18 #[.pointer (some ⟨g, 0, none⟩)] w fun e w' => e = .returned (.int .i64 14) ∧ SR w' g s [] 200 (.iface 30 (.pointer (some ⟨vb, 0, none⟩))) 0 ∧ VX w' vb w.heap.size ∧ But g vb w w' := by
  have C1 := Lib.hid (sname_x k hs)
  have HV := Lib.hid hv
  have HT := Lib.hid (And.intro ht htg)
  have HS := Lib.hid hs
  have HNE := Lib.hid hne
  have HG := Lib.hid k.lt
  obtain ⟨p, _, _, hb⟩ := k
  have d1 := hb.c1
  clear hb hs hv hne ht htg
  go_enter Tryd.func18, Tryd.ntmps18
  go_wp2_with fail
  refine C1.out.mono ?_
  rintro e w1 ⟨rfl, hs1, hb1⟩
  have H1 := Lib.hid (And.intro hs1 hb1)
  clear hs1 hb1 d1 C1
  go_wp2_with fail
  refine wp_loop_rounds 1 ?_
  rw [rounds_succ]
  go_wp2_with fail
  refine (take_yes1 (H1.out.1.alloc _) HS.out ⟨#[61]⟩ ⟨#[61, 61]⟩ _ _ (by simp) (by decide)).mono ?_
  rintro e w2 ⟨rfl, hs2, hb2⟩
  have hs3 : SR w2 g s [50, 43, 51, 42, 52] 200 (.iface 30 (.pointer (some ⟨vb, 0, none⟩))) 0 := hs2
  have H2 : Hid (SR w2 g s [50, 43, 51, 42, 52] 200 (.iface 30 (.pointer (some ⟨vb, 0, none⟩))) 0 ∧ But g g w w2) := Lib.hid ⟨hs3, H1.out.2.trans (((But.refl g g w1).alloc _).trans hb2)⟩
  clear hs2 hb2 hs3
  have C3 := Lib.hid (set_x H2.out.1 HS.out (HV.out.but H2.out.2 HNE.out) HNE.out (HT.out.1.below HT.out.2 (H2.out.2.below (B := g) (Nat.le_refl _) (Nat.le_refl _) (by have := HG.out; omega))) HT.out.2)
  go_wp2_with fail
  refine C3.out.mono ?_
  rintro e w3 ⟨rfl, hs3, hv3, hb3⟩
  have HF : Hid (SR w3 g s [] 200 (.iface 30 (.pointer (some ⟨vb, 0, none⟩))) 0 ∧ VX w3 vb w.heap.size ∧ But g vb w w3) := Lib.hid ⟨hs3, hv3.mono H2.out.2.size, H2.out.2.left.trans hb3⟩
  clear hs3 hv3 hb3
  go_wp2_with fail
  go_ret
  exact ⟨rfl, HF.out⟩
end
theorem eval_x {w : World} {vb : Nat} (hv : VN w vb) (ht : Tab w) :
    Calls Tryd.prog 8 #[.string ⟨#[120, 61, 50, 43, 51, 42, 52]⟩, .iface 30 (.pointer (some ⟨vb, 0, none⟩))] w fun e w' => e = .returned (.tuple #[.int .i64 14, .int .i64 0]) ∧ VX w' vb (w.heap.size + 1 + 1) ∧ But (w.heap.size + 1 + 1) vb w w' := by
  have hlt : vb < w.heap.size := Blk.lt hv
  refine (eval_of ⟨#[120, 61, 50, 43, 51, 42, 52]⟩ 30 (.pointer (some ⟨vb, 0, none⟩)) w (rest := [120, 61, 50, 43, 51, 42, 52]) (by decide) (by decide) (by simp) vb (.inl hlt) (fun v W => v = 14 ∧ VX W vb (w.heap.size + 1 + 1)) False 0 ?_ ?_).mono ?_
  · rintro v W p u hp ⟨h1, b, c, h2, h3, h4, h5, h6⟩
    refine ⟨h1, b, c, h2, h3.far (by omega) u, ?_⟩
    refine ⟨by simpa [World.setCell] using h4, ?_, ?_⟩
    · rw [World.cell?_setCell_other _ _ _ _ (by intro e; have := congrArg Addr.block e; simp at this; omega)]; exact h5
    · rw [World.cell?_setCell_other _ _ _ _ (by intro e; have := congrArg Addr.block e; simp at this; omega)]; exact h6
  · intro W hsr hb
    refine (assign_x hsr (by decide) (Blk.below hv hb hlt) (by omega) (ht.on hb) (by have := ht.2; omega)).mono ?_
    rintro e w' ⟨rfl, h1, h2, h3⟩
    exact ⟨.inl ⟨14, rfl, h1, rfl, h2.mono (by have := hsr.lt; omega)⟩, h3⟩
  · rintro e w' ⟨⟨v, rfl, rfl, h⟩ | ⟨h, _⟩, hb⟩
    · exact ⟨rfl, h, hb⟩
    · exact h.elim
set_option maxHeartbeats 1000000 in
theorem anchor_any (w : World) (ht : Tab w) : Calls Tryd.prog 5 #[] w fun e w' => e = .returned (.bool true) ∧ Below w.heap.size w w' := by
  obtain ⟨W1, hW1⟩ : ∃ W1, W1 = w.alloc (.cells #[.slice none 0 0, .string ⟨#[]⟩] 33) := ⟨_, rfl⟩
  have hb1 : Below w.heap.size w W1 := by rw [hW1]; exact (Below.refl _ _).alloc (Nat.le_refl _) _
  have hv : VN W1 w.heap.size := by rw [hW1]; exact Blk.at rfl
  have C1 := Lib.hid (eval_x hv (ht.on hb1))
  have HB := Lib.hid hb1
  have HL : Hid (w.heap.size < W1.heap.size) := Lib.hid (Blk.lt hv)
  clear hv hb1 ht
  go_enter Tryd.func5, Tryd.ntmps5
  go_wp2_with fail
  have hW2 : w.alloc (.cells #[.slice none 0 0, .string ByteArray.empty] 33) = W1 := hW1.symm
  first | rw [hW2] | rw [← hW1]
  refine C1.out.mono ?_
  rintro e w2 ⟨rfl, hv2, hb2⟩
  have H2 : Hid (Below w.heap.size w w2) := Lib.hid (HB.out.trans (hb2.below (by have := HL.out; omega) (Nat.le_refl _) (by have := HL.out; omega)))
  have C2 := Lib.hid (lget_x hv2)
  clear hv2 hb2 hW1 hW2
  go_wp2_with fail
  refine C2.out.mono ?_
  rintro e w3 ⟨rfl, hb3⟩
  have H3 := Lib.hid (H2.out.trans (hb3.mono H2.out.size))
  clear hb3
  go_wp2_with fail
  go_ret
  exact ⟨rfl, H3.out⟩
end Go.Proofs.YtpgneaekflhgnaaDoor
