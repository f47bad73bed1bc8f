/-
  The walk of add: an item behind others, and the maps.
-/
import Derived.Test.YtmlgmedapbeleaaGreatDoorW5
import Derived.Test.YtmlgmedapbeleaaGreatDoorW1
import Derived.Deep.RegionHeld3
set_option linter.unusedVariables false
set_option linter.unusedSimpArgs false
namespace Go.Proofs.YtmlgmedapbeleaaGreatDoor
open Go.RowKit

/-- The checker at block g, with the items l behind it. -/
structure Ck (w : World) (B g kb fb : Nat) (l : List It) : Prop where
  blk : Blk w g 69 #[.map (some kb), .map (some fb), .string (S (lastP l))]
  kinds : MapS w kb l.length (fun t => (kM l t).map fun x => .int .i64 x.k)
  first : MapS w fb l.length (fun t => (fM l t).map itV)
  le : B ≤ g ∧ B ≤ kb ∧ B ≤ fb
  ne : g ≠ kb ∧ g ≠ fb ∧ kb ≠ fb
theorem Ck.below {w w' : World} {B g kb fb : Nat} {l : List It} (h : Ck w B g kb fb l) (hb : Below w.heap.size w w') : Ck w' B g kb fb l :=
  ⟨h.blk.below hb h.blk.lt, h.kinds.below hb, h.first.below hb, h.le, h.ne⟩

theorem zeroK (u : World) : (zeroValue 3).run Tryz.prog u = .ok (.int .i64 0) u := by kernel_rfl
theorem zeroI (u : World) : (zeroValue 34).run Tryz.prog u = .ok (itV It0) u := by kernel_rfl

theorem kM_put (l : List It) (x : It) : (fun t => if t = L x.p then some (Value.int .i64 x.k) else (kM l t).map fun x => .int .i64 x.k) = (fun t => (kM (l ++ [x]) t).map fun x => .int .i64 x.k) := by
  funext t
  rw [kM_snoc]
  split <;> rfl
theorem fM_put {l : List It} {x : It} (h : L x.s = [] ∧ x.k = 1) : (fun t => if t = L x.p then some (itV x) else (fM l t).map itV) = (fun t => (fM (l ++ [x]) t).map itV) := by
  funext t
  rw [fM_snoc]
  by_cases e : t = L x.p
  · rw [if_pos e, if_pos ⟨h, e⟩]; rfl
  · rw [if_neg e, if_neg (fun h => e h.2)]
theorem fM_stay {l : List It} {x : It} (h : ¬ (L x.s = [] ∧ x.k = 1)) : (fun t => (fM l t).map itV) = (fun t => (fM (l ++ [x]) t).map itV) := by
  funext t
  rw [fM_snoc, if_neg (fun h' => h h'.1)]

def AddPost (l : List It) (x : It) (B g kb fb : Nat) (w : World) (r : Int) (e : Ending) (w' : World) : Prop := e = .returned (.int .i64 r) ∧ Below B w w' ∧ (r = 0 → Ck w' B g kb fb (l ++ [x]))

theorem bytes_tri : ∀ (a b : List UInt8), Op.bytesLess a b = true ∨ (a == b) = true ∨ b < a
  | [], [] => .inr (.inl rfl)
  | [], _ :: _ => .inl rfl
  | _ :: _, [] => .inr (.inr (by simp))
  | x :: a, y :: b => by
    have ih := bytes_tri a b
    rcases Nat.lt_trichotomy x.toNat y.toNat with h | h | h
    · left
      have : x < y := UInt8.lt_iff_toNat_lt.2 h
      simp [Op.bytesLess, this]
    · obtain rfl := UInt8.toNat_inj.1 h
      rcases ih with ih | ih | ih
      · left; simp [Op.bytesLess, ih]
      · right; left; simpa using ih
      · right; right; simpa using ih
    · right; right
      exact List.cons_lt_cons_iff.2 (.inl (UInt8.lt_iff_toNat_lt.2 h))
theorem bytes_le {a b : List UInt8} (h : ¬ b < a) : Op.bytesLess a b = true ∨ (a == b) = true := by
  rcases bytes_tri a b with h1 | h1 | h1
  · exact .inl h1
  · exact .inr h1
  · exact absurd h1 h
theorem bytes_gt {a b : List UInt8} (h : b < a) : Op.bytesLess a b = false ∧ (a == b) = false := by
  refine ⟨?_, ?_⟩
  · rw [bytesLess_eq, decide_eq_false_iff_not]
    exact fun h' => lt_irrefl' _ (lt_trans' h h')
  · rw [beq_eq_false_iff_ne]
    exact fun e => lt_irrefl' a (by rw [← e] at h; exact h)

theorem dirL_len (l : List UInt8) {n : Nat} (h : l.length ≤ n) : (dirL l).length ≤ n + 1 := by
  rw [dirL]
  split
  · simp
  · split
    · simp
    · refine Nat.le_trans (bareL_len _) ?_
      rw [List.length_take]
      have := bareL_len l
      omega

set_option maxHeartbeats 8000000 in
set_option maxRecDepth 100000 in
theorem add_any (l : List It) (x : It) (B g kb fb : Nat) (w : World) (hv : Held w) (h : Ck w B g kb fb l) (hl : l.length ≤ 5000) (hp : x.p.size ≤ 20000) (hd : x.d.size ≤ 20000) (hs : x.s.size ≤ 20000) :
    Calls Tryz.prog 21 #[.pointer (some ⟨g, 0, none⟩), itV x] w (AddPost l x B g kb fb w (addE (kM l (dirL (L x.p))) (fM l (L x.s)) (lastP l) x)) := by
  have CS : Hid (∀ W, Held W → Calls Tryz.prog 39 #[itV x] W fun e w' => e = .returned (.int .i64 (aloneE x)) ∧ Below W.heap.size W w') := Lib.hid fun W hW => shape_any x W hW (by omega) (by unfold maxLen; omega)
  have hsn := lastP_snoc l x
  have hkp := kM_put l x
  have hfp : (L x.s = [] ∧ x.k = 1) → (fun t => if t = L x.p then some (itV x) else (fM l t).map itV) = (fun t => (fM (l ++ [x]) t).map itV) := fun h => fM_put h
  have hfs : ¬ (L x.s = [] ∧ x.k = 1) → (fun t => (fM l t).map itV) = (fun t => (fM (l ++ [x]) t).map itV) := fun h => fM_stay h
  obtain ⟨r, hr⟩ : ∃ r, r = aloneE x := ⟨_, rfl⟩
  obtain ⟨E, hE⟩ : ∃ E, E = addE (kM l (dirL (L x.p))) (fM l (L x.s)) (lastP l) x := ⟨_, rfl⟩
  rw [← hE]
  unfold addE addLinkE at hE
  rw [← hr] at CS hE
  clear hr
  have HLX : Hid ((l ++ [x]).length = l.length + 1) := Lib.hid (by simp)
  obtain ⟨l1, hl1⟩ : ∃ l1, l1 = l ++ [x] := ⟨_, rfl⟩
  unfold AddPost
  rw [← hl1] at hsn hkp hfp hfs HLX ⊢
  clear hl1
  obtain ⟨p, k, m, d, s⟩ := x
  simp only [] at hp hd hs hE hsn hkp hfp hfs
  obtain ⟨dr, hdr⟩ : ∃ dr, dr = S (dirL (L p)) := ⟨_, rfl⟩
  have CD : Hid (∀ W, Calls Tryz.prog 40 #[.string p] W fun e w' => e = .returned (.string dr) ∧ W = w') := Lib.hid fun W => by rw [hdr]; exact (dir_any p W (by omega)).mono fun e w' h => ⟨h.1, h.2.symm⟩
  have hdrL : L dr = dirL (L p) := by rw [hdr]; rfl
  have hdz : dr.size ≤ 100000 := by
    have : (dirL (L p)).length ≤ 20000 + 1 := dirL_len (L p) (by rw [L_size]; exact hp)
    rw [hdr, S_size]; omega
  have hgl := h.blk.lt
  have HCK := Lib.hid h
  have HV := Lib.hid (hv.below hv.2 (Below.alloc (Below.refl w.heap.size w) (Nat.le_refl _) (.cells #[.string p, .int .i64 k, .int .i64 m, .string d, .string s] 34)))
  have hBw : B ≤ w.heap.size := by have := h.le.1; omega
  obtain ⟨hBg, hBk, hBf⟩ := h.le
  obtain ⟨hgk, hgf, hkf⟩ := h.ne
  have hfk := Ne.symm hkf
  have hik : w.heap.size ≠ kb := by have := h.kinds.lt; omega
  have hif : w.heap.size ≠ fb := by have := h.first.lt; omega
  obtain ⟨q, hq0⟩ : ∃ q, q = S (lastP l) := ⟨_, rfl⟩
  have hqL : L q = lastP l := by rw [hq0]; rfl
  have HKP := Lib.hid hkp
  have HFP := Lib.hid hfp
  have HFS := Lib.hid hfs
  have HSN := Lib.hid hsn
  have HQ := Lib.hid hq0
  clear h hv hkp hfp hfs hsn hdr hq0
  unfold itV at CS ⊢
  by_cases h0 : r = 0
  · subst h0
    rw [if_neg (by simp)] at hE
    by_cases hlt : lastP l < L p
    · rw [if_neg (fun h => h hlt)] at hE
      rw [← hqL] at hlt
      obtain ⟨f1, f2⟩ := bytes_gt hlt
      rw [← toList_L, ← toList_L] at f1 f2
      clear hlt hqL
      by_cases hd46 : dirL (L p) = [46]
      · have e1 : (dr.toList == [46]) = true := by rw [toList_L, hdrL, hd46]; rfl
        rw [if_neg (fun h => h.1 hd46)] at hE
        by_cases hs0 : L s = []
        · have e4 := nil_empty hs0
          rw [if_pos hs0] at hE
          have HE := Lib.hid hE
          by_cases hk1 : k = 1
          · subst hk1
            have HNF : Hid (L s = [] ∧ True) := Lib.hid ⟨hs0, trivial⟩
            clear hE hs0 hd46 hdrL
            go_enter Tryz.func21, Tryz.ntmps21
            go_wp2_with fail
            refine (CS.out _ HV.out).mono ?_
            rintro e w1 ⟨rfl, hb1⟩
            have hs1 : w.heap.size < w1.heap.size := by have := hb1.size; simp at this; omega
            have c0 : w1.cell? ⟨w.heap.size, 0, none⟩ = some (.string _) := (hb1.cell (by simp)).trans (by simp; rfl)
            have c1 : w1.cell? ⟨w.heap.size, 1, none⟩ = some (.int .i64 _) := (hb1.cell (by simp)).trans (by simp; rfl)
            have c2 : w1.cell? ⟨w.heap.size, 2, none⟩ = some (.int .i64 _) := (hb1.cell (by simp)).trans (by simp; rfl)
            have c3 : w1.cell? ⟨w.heap.size, 3, none⟩ = some (.string _) := (hb1.cell (by simp)).trans (by simp; rfl)
            have c4 : w1.cell? ⟨w.heap.size, 4, none⟩ = some (.string _) := (hb1.cell (by simp)).trans (by simp; rfl)
            have hb1' := (Below.alloc (Below.refl w.heap.size w) (Nat.le_refl _) _).trans (hb1.mono (by simp))
            have HB1 : Hid (Below B w w1) := Lib.hid (hb1'.mono hBw)
            have HC1 := Lib.hid (HCK.out.below hb1')
            have g0 := HC1.out.blk.cell 0
            have g1 := HC1.out.blk.cell 1
            have g2 := HC1.out.blk.cell 2
            have hgl1 := HC1.out.blk.lt
            simp at g0 g1 g2
            rw [← HQ.out] at g2
            clear hb1 hb1'
            go_wp2_with fail
            go_quiet (fail)
            obtain ⟨w2, hw2⟩ : ∃ w2, w2 = w1.drewN nq := ⟨_, rfl⟩
            rw [← hw2]
            have hcw : ∀ a, w2.cell? a = w1.cell? a := fun a => by rw [hw2]; rfl
            replace c0 := (hcw _).trans c0
            replace c1 := (hcw _).trans c1
            replace c2 := (hcw _).trans c2
            replace c3 := (hcw _).trans c3
            replace c4 := (hcw _).trans c4
            replace g0 := (hcw _).trans g0
            replace g1 := (hcw _).trans g1
            replace g2 := (hcw _).trans g2
            have HB2 : Hid (Below B w w2) := Lib.hid (by rw [hw2]; exact below_drewN HB1.out nq)
            have HC2 : Hid (Ck w2 B g kb fb l) := Lib.hid (by rw [hw2]; exact HC1.out.below (below_drewN (Below.refl _ _) nq))
            have hgl2 : g < w2.heap.size := HC2.out.blk.lt
            have hs2 : w.heap.size < w2.heap.size := by rw [hw2]; exact hs1
            clear hw2 hcw HC1 HB1 hgl1 hs1
            go_wp2_with fail
            refine (CD.out _).mono ?_
            rintro e w3 ⟨rfl, rfl⟩
            skip
            go_wp2_with fail
            obtain ⟨w4, hr4, hM4, hG4⟩ := (show MapS w2.drew fb _ _ from HC2.out.first.below (Below.drew (Below.refl _ _))).put_run Tryz.underlying67 (by unfold maxLen; omega) p (itV ⟨p, 1, m, d, s⟩) (by unfold maxLen; omega)
            replace hG4 : w2.grownBy w4 (some fb) := ⟨hG4.os, hG4.tape, hG4.output, hG4.size, hG4.block⟩
            have HBL4 : Hid (∀ b, b < w2.heap.size → b ≠ fb → w4.heap[b]? = w2.heap[b]?) := Lib.hid (fun b hb hne => hG4.block b hb (by simpa using hne))
            have HM4 := Lib.hid hM4
            have hsz4 : w2.heap.size ≤ w4.heap.size := hG4.size
            have HBB : Hid (Below B w w4) := Lib.hid (HB2.out.grown hG4 (by omega) (fun j hj => by cases hj; exact hBf))
            unfold itV at hr4
            clear hM4 hG4
            have d0 := (World.cell?_of_block (a := ⟨w.heap.size, 0, none⟩) (HBL4.out _ hs2 hif)).trans c0
            have d1 := (World.cell?_of_block (a := ⟨w.heap.size, 1, none⟩) (HBL4.out _ hs2 hif)).trans c1
            have d2 := (World.cell?_of_block (a := ⟨w.heap.size, 2, none⟩) (HBL4.out _ hs2 hif)).trans c2
            have d3 := (World.cell?_of_block (a := ⟨w.heap.size, 3, none⟩) (HBL4.out _ hs2 hif)).trans c3
            have d4 := (World.cell?_of_block (a := ⟨w.heap.size, 4, none⟩) (HBL4.out _ hs2 hif)).trans c4
            have d5 := (World.cell?_of_block (a := ⟨g, 1, none⟩) (HBL4.out g HC2.out.blk.lt hgf)).trans g1
            go_region_held3 (fun w' => w'.cell? ⟨g, 1, none⟩ = some (.map (some fb)) ∧ w'.cell? ⟨w.heap.size, 0, none⟩ = some (.string p) ∧ w'.cell? ⟨w.heap.size, 1, none⟩ = some (.int .i64 1) ∧ w'.cell? ⟨w.heap.size, 2, none⟩ = some (.int .i64 m) ∧ w'.cell? ⟨w.heap.size, 3, none⟩ = some (.string d) ∧ w'.cell? ⟨w.heap.size, 4, none⟩ = some (.string s)) (go_keep) (fail)
            have hbg : g < w4.heap.size := Nat.lt_of_lt_of_le HC2.out.blk.lt hsz4
            have hbk : kb < w4.heap.size := Nat.lt_of_lt_of_le HC2.out.kinds.lt hsz4
            have hbf : fb < w4.heap.size := Nat.lt_of_lt_of_le HC2.out.first.lt hsz4
            have hbi : w.heap.size < w4.heap.size := Nat.lt_of_lt_of_le hs2 hsz4
            have HBK : Hid (Blk w4 g 69 #[.map (some kb), .map (some fb), .string q]) := Lib.hid (by
              have := (HBL4.out g HC2.out.blk.lt hgf).trans HC2.out.blk
              rw [HQ.out]; exact this)
            have HKm := Lib.hid (HC2.out.kinds.block (HBL4.out kb HC2.out.kinds.lt hkf))
            have HFn : Hid (MapS w4 fb (l.length + 1) (fun t => (fM l1 t).map itV)) := Lib.hid (by rw [← HFP.out ⟨HNF.out.1, by first | trivial | rfl⟩]; exact HM4.out)
            replace c0 := (World.cell?_of_block (HBL4.out _ hs2 hif)).trans c0
            replace c1 := (World.cell?_of_block (HBL4.out _ hs2 hif)).trans c1
            replace g0 := (World.cell?_of_block (HBL4.out g HC2.out.blk.lt hgf)).trans g0
            clear c2 c3 c4 g1 g2 d0 d1 d2 d3 d4 d5
            go_wp2_with fail
            obtain ⟨v0, st, w5, hr5, hE5, hG5⟩ := (show MapS (w4).drew kb _ _ from HKm.out.below (Below.drew (Below.refl _ _))).entry Tryz.underlying52 zeroK (by unfold maxLen; omega) p (by unfold maxLen; omega)
            replace hG5 : (w4).grownBy w5 (some kb) := ⟨hG5.os, hG5.tape, hG5.output, hG5.size, hG5.block⟩
            obtain ⟨w6, hr6, hM6, hG6⟩ := hE5.2 w5 (.int .i64 1) rfl
            have hblk5 : ∀ b, b < (w4).heap.size → b ≠ kb → w5.heap[b]? = (w4).heap[b]? := fun b hb hne => hG5.block b hb (by simpa using hne)
            have hblk6 : ∀ b, b < (w4).heap.size → b ≠ kb → w6.heap[b]? = (w4).heap[b]? := fun b hb hne => (hG6.block b (Nat.lt_of_lt_of_le hb hG5.size) (by simpa using hne)).trans (hblk5 b hb hne)
            have q0 : w5.cell? ⟨g, 0, none⟩ = some (.map (some kb)) := (World.cell?_of_block (hblk5 g hbg hgk)).trans g0
            have q1 : w5.cell? ⟨w.heap.size, 0, none⟩ = some (.string p) := (World.cell?_of_block (hblk5 _ hbi hik)).trans c0
            have q2 : w5.cell? ⟨w.heap.size, 1, none⟩ = some (.int .i64 1) := (World.cell?_of_block (hblk5 _ hbi hik)).trans c1
            have p0 : w6.cell? ⟨g, 0, none⟩ = some (.map (some kb)) := (World.cell?_of_block (hblk6 g hbg hgk)).trans g0
            have p1 : w6.cell? ⟨w.heap.size, 0, none⟩ = some (.string p) := (World.cell?_of_block (hblk6 _ hbi hik)).trans c0
            have p2 : w6.cell? ⟨w.heap.size, 1, none⟩ = some (.int .i64 1) := (World.cell?_of_block (hblk6 _ hbi hik)).trans c1
            have z0 : (w6.setCell ⟨g, 2, none⟩ (.string p)).cell? ⟨g, 0, none⟩ = some (.map (some kb)) := (World.cell?_setCell_other _ _ _ _ (by simp)).trans p0
            have z1 : (w6.setCell ⟨g, 2, none⟩ (.string p)).cell? ⟨w.heap.size, 0, none⟩ = some (.string p) := (World.cell?_setCell_other _ _ _ _ (by simp)).trans p1
            have z2 : (w6.setCell ⟨g, 2, none⟩ (.string p)).cell? ⟨w.heap.size, 1, none⟩ = some (.int .i64 1) := (World.cell?_setCell_other _ _ _ _ (by simp)).trans p2
            have HBK6 : Hid (Blk w6 g 69 #[.map (some kb), .map (some fb), .string q]) := Lib.hid ((hblk6 g hbg hgk).trans HBK.out)
            have p3 := HBK6.out.cell 2
            have p4 := HBK6.out.free 2
            simp at p3
            have HF6 := Lib.hid (HFn.out.block (hblk6 fb hbf hfk))
            have HM6 := Lib.hid hM6
            have HB6 : Hid (Below B w w6) := Lib.hid ((HBB.out.grown hG5 (by omega) (fun j hj => by cases hj; exact hBk)).grown hG6 (by have := hG5.size; omega) (fun j hj => by cases hj; exact hBk))
            have HSZ : Hid (B ≤ w6.heap.size) := Lib.hid (by have := hG5.size; have := hG6.size; omega)
            clear hE5 hG5 hM6 hG6 hblk5 hblk6
            go_region_held3 (fun w' => w'.cell? ⟨g, 0, none⟩ = some (.map (some kb)) ∧ w'.cell? ⟨w.heap.size, 0, none⟩ = some (.string p) ∧ w'.cell? ⟨w.heap.size, 1, none⟩ = some (.int .i64 1)) (go_keep) (fail)
            all_goals
              go_wp2
              go_ret
              have HCF : Ck (w6.setCell ⟨g, 2, none⟩ (.string p)) B g kb fb l1 := by
                refine ⟨?_, ?_, ?_, HCK.out.le, HCK.out.ne⟩
                · have := HBK6.out.put 2 (.string p)
                  rw [HSN.out]
                  exact this
                · refine MapS.set ?_ (p := ⟨g, 2, none⟩) (Ne.symm hgk) _
                  rw [HLX.out, ← HKP.out]
                  exact HM6.out
                · refine MapS.set ?_ (p := ⟨g, 2, none⟩) (Ne.symm hgf) _
                  rw [HLX.out]
                  exact HF6.out
              exact ⟨ret_int HE.out.symm, by have h1 := HB6.out; have h2 := hBg; have h3 := HSZ.out; go_grown, fun _ => by first | exact HCF | exact HCF.below (by go_grown)⟩
          · have e5 : (k == 1) = false := by simpa using hk1
            have HNF : Hid (¬ (L s = [] ∧ k = 1)) := Lib.hid (fun h => hk1 h.2)
            clear hE hs0 hk1 hd46 hdrL
            go_enter Tryz.func21, Tryz.ntmps21
            go_wp2_with fail
            refine (CS.out _ HV.out).mono ?_
            rintro e w1 ⟨rfl, hb1⟩
            have hs1 : w.heap.size < w1.heap.size := by have := hb1.size; simp at this; omega
            have c0 : w1.cell? ⟨w.heap.size, 0, none⟩ = some (.string _) := (hb1.cell (by simp)).trans (by simp; rfl)
            have c1 : w1.cell? ⟨w.heap.size, 1, none⟩ = some (.int .i64 _) := (hb1.cell (by simp)).trans (by simp; rfl)
            have c2 : w1.cell? ⟨w.heap.size, 2, none⟩ = some (.int .i64 _) := (hb1.cell (by simp)).trans (by simp; rfl)
            have c3 : w1.cell? ⟨w.heap.size, 3, none⟩ = some (.string _) := (hb1.cell (by simp)).trans (by simp; rfl)
            have c4 : w1.cell? ⟨w.heap.size, 4, none⟩ = some (.string _) := (hb1.cell (by simp)).trans (by simp; rfl)
            have hb1' := (Below.alloc (Below.refl w.heap.size w) (Nat.le_refl _) _).trans (hb1.mono (by simp))
            have HB1 : Hid (Below B w w1) := Lib.hid (hb1'.mono hBw)
            have HC1 := Lib.hid (HCK.out.below hb1')
            have g0 := HC1.out.blk.cell 0
            have g1 := HC1.out.blk.cell 1
            have g2 := HC1.out.blk.cell 2
            have hgl1 := HC1.out.blk.lt
            simp at g0 g1 g2
            rw [← HQ.out] at g2
            clear hb1 hb1'
            go_wp2_with fail
            go_quiet (fail)
            obtain ⟨w2, hw2⟩ : ∃ w2, w2 = w1.drewN nq := ⟨_, rfl⟩
            rw [← hw2]
            have hcw : ∀ a, w2.cell? a = w1.cell? a := fun a => by rw [hw2]; rfl
            replace c0 := (hcw _).trans c0
            replace c1 := (hcw _).trans c1
            replace c2 := (hcw _).trans c2
            replace c3 := (hcw _).trans c3
            replace c4 := (hcw _).trans c4
            replace g0 := (hcw _).trans g0
            replace g1 := (hcw _).trans g1
            replace g2 := (hcw _).trans g2
            have HB2 : Hid (Below B w w2) := Lib.hid (by rw [hw2]; exact below_drewN HB1.out nq)
            have HC2 : Hid (Ck w2 B g kb fb l) := Lib.hid (by rw [hw2]; exact HC1.out.below (below_drewN (Below.refl _ _) nq))
            have hgl2 : g < w2.heap.size := HC2.out.blk.lt
            have hs2 : w.heap.size < w2.heap.size := by rw [hw2]; exact hs1
            clear hw2 hcw HC1 HB1 hgl1 hs1
            go_wp2_with fail
            refine (CD.out _).mono ?_
            rintro e w3 ⟨rfl, rfl⟩
            skip
            go_wp2_with fail
            have HBK := Lib.hid HC2.out.blk
            rw [← HQ.out] at HBK
            have HKm := Lib.hid HC2.out.kinds
            have HBB := HB2
            have hbg := HC2.out.blk.lt
            have hbk := HC2.out.kinds.lt
            have hbf := HC2.out.first.lt
            have hbi := hs2
            have HFn : Hid (MapS w2 fb (l.length + 1) (fun t => (fM l1 t).map itV)) := Lib.hid (by rw [← HFS.out HNF.out]; exact HC2.out.first.mono (by omega))
            obtain ⟨v0, st, w5, hr5, hE5, hG5⟩ := (show MapS (w2).drew kb _ _ from HKm.out.below (Below.drew (Below.refl _ _))).entry Tryz.underlying52 zeroK (by unfold maxLen; omega) p (by unfold maxLen; omega)
            replace hG5 : (w2).grownBy w5 (some kb) := ⟨hG5.os, hG5.tape, hG5.output, hG5.size, hG5.block⟩
            obtain ⟨w6, hr6, hM6, hG6⟩ := hE5.2 w5 (.int .i64 k) rfl
            have hblk5 : ∀ b, b < (w2).heap.size → b ≠ kb → w5.heap[b]? = (w2).heap[b]? := fun b hb hne => hG5.block b hb (by simpa using hne)
            have hblk6 : ∀ b, b < (w2).heap.size → b ≠ kb → w6.heap[b]? = (w2).heap[b]? := fun b hb hne => (hG6.block b (Nat.lt_of_lt_of_le hb hG5.size) (by simpa using hne)).trans (hblk5 b hb hne)
            have q0 : w5.cell? ⟨g, 0, none⟩ = some (.map (some kb)) := (World.cell?_of_block (hblk5 g hbg hgk)).trans g0
            have q1 : w5.cell? ⟨w.heap.size, 0, none⟩ = some (.string p) := (World.cell?_of_block (hblk5 _ hbi hik)).trans c0
            have q2 : w5.cell? ⟨w.heap.size, 1, none⟩ = some (.int .i64 k) := (World.cell?_of_block (hblk5 _ hbi hik)).trans c1
            have p0 : w6.cell? ⟨g, 0, none⟩ = some (.map (some kb)) := (World.cell?_of_block (hblk6 g hbg hgk)).trans g0
            have p1 : w6.cell? ⟨w.heap.size, 0, none⟩ = some (.string p) := (World.cell?_of_block (hblk6 _ hbi hik)).trans c0
            have p2 : w6.cell? ⟨w.heap.size, 1, none⟩ = some (.int .i64 k) := (World.cell?_of_block (hblk6 _ hbi hik)).trans c1
            have z0 : (w6.setCell ⟨g, 2, none⟩ (.string p)).cell? ⟨g, 0, none⟩ = some (.map (some kb)) := (World.cell?_setCell_other _ _ _ _ (by simp)).trans p0
            have z1 : (w6.setCell ⟨g, 2, none⟩ (.string p)).cell? ⟨w.heap.size, 0, none⟩ = some (.string p) := (World.cell?_setCell_other _ _ _ _ (by simp)).trans p1
            have z2 : (w6.setCell ⟨g, 2, none⟩ (.string p)).cell? ⟨w.heap.size, 1, none⟩ = some (.int .i64 k) := (World.cell?_setCell_other _ _ _ _ (by simp)).trans p2
            have HBK6 : Hid (Blk w6 g 69 #[.map (some kb), .map (some fb), .string q]) := Lib.hid ((hblk6 g hbg hgk).trans HBK.out)
            have p3 := HBK6.out.cell 2
            have p4 := HBK6.out.free 2
            simp at p3
            have HF6 := Lib.hid (HFn.out.block (hblk6 fb hbf hfk))
            have HM6 := Lib.hid hM6
            have HB6 : Hid (Below B w w6) := Lib.hid ((HBB.out.grown hG5 (by omega) (fun j hj => by cases hj; exact hBk)).grown hG6 (by have := hG5.size; omega) (fun j hj => by cases hj; exact hBk))
            have HSZ : Hid (B ≤ w6.heap.size) := Lib.hid (by have := hG5.size; have := hG6.size; omega)
            clear hE5 hG5 hM6 hG6 hblk5 hblk6
            go_region_held3 (fun w' => w'.cell? ⟨g, 0, none⟩ = some (.map (some kb)) ∧ w'.cell? ⟨w.heap.size, 0, none⟩ = some (.string p) ∧ w'.cell? ⟨w.heap.size, 1, none⟩ = some (.int .i64 k)) (go_keep) (fail)
            all_goals
              go_wp2
              go_ret
              have HCF : Ck (w6.setCell ⟨g, 2, none⟩ (.string p)) B g kb fb l1 := by
                refine ⟨?_, ?_, ?_, HCK.out.le, HCK.out.ne⟩
                · have := HBK6.out.put 2 (.string p)
                  rw [HSN.out]
                  exact this
                · refine MapS.set ?_ (p := ⟨g, 2, none⟩) (Ne.symm hgk) _
                  rw [HLX.out, ← HKP.out]
                  exact HM6.out
                · refine MapS.set ?_ (p := ⟨g, 2, none⟩) (Ne.symm hgf) _
                  rw [HLX.out]
                  exact HF6.out
              exact ⟨ret_int HE.out.symm, by have h1 := HB6.out; have h2 := hBg; have h3 := HSZ.out; go_grown, fun _ => by first | exact HCF | exact HCF.below (by go_grown)⟩
        · have e4 := ne_empty hs0
          rw [if_neg hs0] at hE
          have HNF : Hid (¬ (L s = [] ∧ k = 1)) := Lib.hid (fun h => hs0 h.1)
          cases hf : fM l (L s) with
          | none =>
            simp only [hf] at hE
            have HE := Lib.hid hE
            have HFO : Hid ((fM l (L s)).map itV = none) := Lib.hid (by rw [hf]; rfl)
            clear hE hf hs0 hd46 hdrL
            go_enter Tryz.func21, Tryz.ntmps21
            go_wp2_with fail
            refine (CS.out _ HV.out).mono ?_
            rintro e w1 ⟨rfl, hb1⟩
            have hs1 : w.heap.size < w1.heap.size := by have := hb1.size; simp at this; omega
            have c0 : w1.cell? ⟨w.heap.size, 0, none⟩ = some (.string _) := (hb1.cell (by simp)).trans (by simp; rfl)
            have c1 : w1.cell? ⟨w.heap.size, 1, none⟩ = some (.int .i64 _) := (hb1.cell (by simp)).trans (by simp; rfl)
            have c2 : w1.cell? ⟨w.heap.size, 2, none⟩ = some (.int .i64 _) := (hb1.cell (by simp)).trans (by simp; rfl)
            have c3 : w1.cell? ⟨w.heap.size, 3, none⟩ = some (.string _) := (hb1.cell (by simp)).trans (by simp; rfl)
            have c4 : w1.cell? ⟨w.heap.size, 4, none⟩ = some (.string _) := (hb1.cell (by simp)).trans (by simp; rfl)
            have hb1' := (Below.alloc (Below.refl w.heap.size w) (Nat.le_refl _) _).trans (hb1.mono (by simp))
            have HB1 : Hid (Below B w w1) := Lib.hid (hb1'.mono hBw)
            have HC1 := Lib.hid (HCK.out.below hb1')
            have g0 := HC1.out.blk.cell 0
            have g1 := HC1.out.blk.cell 1
            have g2 := HC1.out.blk.cell 2
            have hgl1 := HC1.out.blk.lt
            simp at g0 g1 g2
            rw [← HQ.out] at g2
            clear hb1 hb1'
            go_wp2_with fail
            go_quiet (fail)
            obtain ⟨w2, hw2⟩ : ∃ w2, w2 = w1.drewN nq := ⟨_, rfl⟩
            rw [← hw2]
            have hcw : ∀ a, w2.cell? a = w1.cell? a := fun a => by rw [hw2]; rfl
            replace c0 := (hcw _).trans c0
            replace c1 := (hcw _).trans c1
            replace c2 := (hcw _).trans c2
            replace c3 := (hcw _).trans c3
            replace c4 := (hcw _).trans c4
            replace g0 := (hcw _).trans g0
            replace g1 := (hcw _).trans g1
            replace g2 := (hcw _).trans g2
            have HB2 : Hid (Below B w w2) := Lib.hid (by rw [hw2]; exact below_drewN HB1.out nq)
            have HC2 : Hid (Ck w2 B g kb fb l) := Lib.hid (by rw [hw2]; exact HC1.out.below (below_drewN (Below.refl _ _) nq))
            have hgl2 : g < w2.heap.size := HC2.out.blk.lt
            have hs2 : w.heap.size < w2.heap.size := by rw [hw2]; exact hs1
            clear hw2 hcw HC1 HB1 hgl1 hs1
            go_wp2_with fail
            refine (CD.out _).mono ?_
            rintro e w3 ⟨rfl, rfl⟩
            skip
            go_wp2_with fail
            have hlk10 : ∀ W, Below w2.heap.size w2 W → (Instr.lookup 67 (.map (some fb)) (.string s) true).run Tryz.prog W = .ok (.tuple #[itV It0, .bool false]) W := fun W hW => by
              rw [(HC2.out.first.below hW).look_ok Tryz.underlying67 (zeroI W) s (by unfold maxLen; omega), HFO.out]; rfl
            have hlk11 := hlk10 w2.drew (by go_grown)
            have hlk12 := fun c => hlk10 ((w2.alloc c).drew) (by go_grown)
            unfold itV It0 at hlk11 hlk12
            clear hlk10
            go_region_held3 (fun w' => w'.cell? ⟨g, 1, none⟩ = some (.map (some fb)) ∧ w'.cell? ⟨w.heap.size, 4, none⟩ = some (.string s)) (go_keep) (fail)
            all_goals
              go_wp2
              go_ret
              exact ⟨ret_int HE.out.symm, by have h1 := HB2.out; go_grown, fun h => by rw [HE.out] at h; cases h⟩
          | some o =>
            simp only [hf] at hE
            obtain ⟨op, ok, om, od, os⟩ := o
            have HFO : Hid ((fM l (L s)).map itV = some (itV ⟨op, ok, om, od, os⟩)) := Lib.hid (by rw [hf]; rfl)
            by_cases hmm : om = m
            · have e5 : (om != m) = false := by simpa using hmm
              by_cases hd0 : L d = []
              · have e6 := nil_empty hd0
                rw [if_neg (by simp [hmm, hd0])] at hE
                have HE := Lib.hid hE
                clear hE hf hs0 hmm hd0 hd46 hdrL
                go_enter Tryz.func21, Tryz.ntmps21
                go_wp2_with fail
                refine (CS.out _ HV.out).mono ?_
                rintro e w1 ⟨rfl, hb1⟩
                have hs1 : w.heap.size < w1.heap.size := by have := hb1.size; simp at this; omega
                have c0 : w1.cell? ⟨w.heap.size, 0, none⟩ = some (.string _) := (hb1.cell (by simp)).trans (by simp; rfl)
                have c1 : w1.cell? ⟨w.heap.size, 1, none⟩ = some (.int .i64 _) := (hb1.cell (by simp)).trans (by simp; rfl)
                have c2 : w1.cell? ⟨w.heap.size, 2, none⟩ = some (.int .i64 _) := (hb1.cell (by simp)).trans (by simp; rfl)
                have c3 : w1.cell? ⟨w.heap.size, 3, none⟩ = some (.string _) := (hb1.cell (by simp)).trans (by simp; rfl)
                have c4 : w1.cell? ⟨w.heap.size, 4, none⟩ = some (.string _) := (hb1.cell (by simp)).trans (by simp; rfl)
                have hb1' := (Below.alloc (Below.refl w.heap.size w) (Nat.le_refl _) _).trans (hb1.mono (by simp))
                have HB1 : Hid (Below B w w1) := Lib.hid (hb1'.mono hBw)
                have HC1 := Lib.hid (HCK.out.below hb1')
                have g0 := HC1.out.blk.cell 0
                have g1 := HC1.out.blk.cell 1
                have g2 := HC1.out.blk.cell 2
                have hgl1 := HC1.out.blk.lt
                simp at g0 g1 g2
                rw [← HQ.out] at g2
                clear hb1 hb1'
                go_wp2_with fail
                go_quiet (fail)
                obtain ⟨w2, hw2⟩ : ∃ w2, w2 = w1.drewN nq := ⟨_, rfl⟩
                rw [← hw2]
                have hcw : ∀ a, w2.cell? a = w1.cell? a := fun a => by rw [hw2]; rfl
                replace c0 := (hcw _).trans c0
                replace c1 := (hcw _).trans c1
                replace c2 := (hcw _).trans c2
                replace c3 := (hcw _).trans c3
                replace c4 := (hcw _).trans c4
                replace g0 := (hcw _).trans g0
                replace g1 := (hcw _).trans g1
                replace g2 := (hcw _).trans g2
                have HB2 : Hid (Below B w w2) := Lib.hid (by rw [hw2]; exact below_drewN HB1.out nq)
                have HC2 : Hid (Ck w2 B g kb fb l) := Lib.hid (by rw [hw2]; exact HC1.out.below (below_drewN (Below.refl _ _) nq))
                have hgl2 : g < w2.heap.size := HC2.out.blk.lt
                have hs2 : w.heap.size < w2.heap.size := by rw [hw2]; exact hs1
                clear hw2 hcw HC1 HB1 hgl1 hs1
                go_wp2_with fail
                refine (CD.out _).mono ?_
                rintro e w3 ⟨rfl, rfl⟩
                skip
                go_wp2_with fail
                have hlk10 : ∀ W, Below w2.heap.size w2 W → (Instr.lookup 67 (.map (some fb)) (.string s) true).run Tryz.prog W = .ok (.tuple #[itV ⟨op, ok, om, od, os⟩, .bool true]) W := fun W hW => by
                  rw [(HC2.out.first.below hW).look_ok Tryz.underlying67 (zeroI W) s (by unfold maxLen; omega), HFO.out]; rfl
                have hlk11 := hlk10 w2.drew (by go_grown)
                have hlk12 := fun c => hlk10 ((w2.alloc c).drew) (by go_grown)
                unfold itV at hlk11 hlk12
                clear hlk10
                go_region_held3 (fun w' => w'.cell? ⟨g, 1, none⟩ = some (.map (some fb)) ∧ w'.cell? ⟨w.heap.size, 4, none⟩ = some (.string s)) (go_keep) (fail)
                all_goals
                  go_wp2_with fail
                  obtain ⟨w4, hw4⟩ : ∃ w4, w4 = (w2.alloc (.cells #[.string op, .int .i64 ok, .int .i64 om, .string od, .string os] 34)).drew := ⟨_, rfl⟩
                  rw [← hw4]
                  have hb4 : Below w2.heap.size w2 w4 := by rw [hw4]; go_grown
                  have HC4 := HC2.out.below hb4
                  have HBK := Lib.hid HC4.blk
                  rw [← HQ.out] at HBK
                  have HKm := Lib.hid HC4.kinds
                  have HBB : Hid (Below B w w4) := Lib.hid (HB2.out.trans (hb4.mono (by omega)))
                  have hbg := HC4.blk.lt
                  have hbk := HC4.kinds.lt
                  have hbf := HC4.first.lt
                  have hbi : w.heap.size < w4.heap.size := Nat.lt_of_lt_of_le hs2 hb4.size
                  have HFn : Hid (MapS w4 fb (l.length + 1) (fun t => (fM l1 t).map itV)) := Lib.hid (by rw [← HFS.out HNF.out]; exact HC4.first.mono (by omega))
                  replace c0 := (hb4.cell (p := ⟨w.heap.size, 0, none⟩) hs2).trans c0
                  replace c1 := (hb4.cell (p := ⟨w.heap.size, 1, none⟩) hs2).trans c1
                  replace g0 := (hb4.cell (p := ⟨g, 0, none⟩) HC2.out.blk.lt).trans g0
                  clear c2 c3 c4 g1 g2 hw4 hb4 HC4 hlk11 hlk12
                  obtain ⟨v0, st, w5, hr5, hE5, hG5⟩ := (show MapS (w4).drew kb _ _ from HKm.out.below (Below.drew (Below.refl _ _))).entry Tryz.underlying52 zeroK (by unfold maxLen; omega) p (by unfold maxLen; omega)
                  replace hG5 : (w4).grownBy w5 (some kb) := ⟨hG5.os, hG5.tape, hG5.output, hG5.size, hG5.block⟩
                  obtain ⟨w6, hr6, hM6, hG6⟩ := hE5.2 w5 (.int .i64 k) rfl
                  have hblk5 : ∀ b, b < (w4).heap.size → b ≠ kb → w5.heap[b]? = (w4).heap[b]? := fun b hb hne => hG5.block b hb (by simpa using hne)
                  have hblk6 : ∀ b, b < (w4).heap.size → b ≠ kb → w6.heap[b]? = (w4).heap[b]? := fun b hb hne => (hG6.block b (Nat.lt_of_lt_of_le hb hG5.size) (by simpa using hne)).trans (hblk5 b hb hne)
                  have q0 : w5.cell? ⟨g, 0, none⟩ = some (.map (some kb)) := (World.cell?_of_block (hblk5 g hbg hgk)).trans g0
                  have q1 : w5.cell? ⟨w.heap.size, 0, none⟩ = some (.string p) := (World.cell?_of_block (hblk5 _ hbi hik)).trans c0
                  have q2 : w5.cell? ⟨w.heap.size, 1, none⟩ = some (.int .i64 k) := (World.cell?_of_block (hblk5 _ hbi hik)).trans c1
                  have p0 : w6.cell? ⟨g, 0, none⟩ = some (.map (some kb)) := (World.cell?_of_block (hblk6 g hbg hgk)).trans g0
                  have p1 : w6.cell? ⟨w.heap.size, 0, none⟩ = some (.string p) := (World.cell?_of_block (hblk6 _ hbi hik)).trans c0
                  have p2 : w6.cell? ⟨w.heap.size, 1, none⟩ = some (.int .i64 k) := (World.cell?_of_block (hblk6 _ hbi hik)).trans c1
                  have z0 : (w6.setCell ⟨g, 2, none⟩ (.string p)).cell? ⟨g, 0, none⟩ = some (.map (some kb)) := (World.cell?_setCell_other _ _ _ _ (by simp)).trans p0
                  have z1 : (w6.setCell ⟨g, 2, none⟩ (.string p)).cell? ⟨w.heap.size, 0, none⟩ = some (.string p) := (World.cell?_setCell_other _ _ _ _ (by simp)).trans p1
                  have z2 : (w6.setCell ⟨g, 2, none⟩ (.string p)).cell? ⟨w.heap.size, 1, none⟩ = some (.int .i64 k) := (World.cell?_setCell_other _ _ _ _ (by simp)).trans p2
                  have HBK6 : Hid (Blk w6 g 69 #[.map (some kb), .map (some fb), .string q]) := Lib.hid ((hblk6 g hbg hgk).trans HBK.out)
                  have p3 := HBK6.out.cell 2
                  have p4 := HBK6.out.free 2
                  simp at p3
                  have HF6 := Lib.hid (HFn.out.block (hblk6 fb hbf hfk))
                  have HM6 := Lib.hid hM6
                  have HB6 : Hid (Below B w w6) := Lib.hid ((HBB.out.grown hG5 (by omega) (fun j hj => by cases hj; exact hBk)).grown hG6 (by have := hG5.size; omega) (fun j hj => by cases hj; exact hBk))
                  have HSZ : Hid (B ≤ w6.heap.size) := Lib.hid (by have := hG5.size; have := hG6.size; omega)
                  clear hE5 hG5 hM6 hG6 hblk5 hblk6
                  go_region_held3 (fun w' => w'.cell? ⟨g, 0, none⟩ = some (.map (some kb)) ∧ w'.cell? ⟨w.heap.size, 0, none⟩ = some (.string p) ∧ w'.cell? ⟨w.heap.size, 1, none⟩ = some (.int .i64 k)) (go_keep) (fail)
                  all_goals
                    go_wp2
                    go_ret
                    have HCF : Ck (w6.setCell ⟨g, 2, none⟩ (.string p)) B g kb fb l1 := by
                      refine ⟨?_, ?_, ?_, HCK.out.le, HCK.out.ne⟩
                      · have := HBK6.out.put 2 (.string p)
                        rw [HSN.out]
                        exact this
                      · refine MapS.set ?_ (p := ⟨g, 2, none⟩) (Ne.symm hgk) _
                        rw [HLX.out, ← HKP.out]
                        exact HM6.out
                      · refine MapS.set ?_ (p := ⟨g, 2, none⟩) (Ne.symm hgf) _
                        rw [HLX.out]
                        exact HF6.out
                    exact ⟨ret_int HE.out.symm, by have h1 := HB6.out; have h2 := hBg; have h3 := HSZ.out; go_grown, fun _ => by first | exact HCF | exact HCF.below (by go_grown)⟩
              · have e6 := ne_empty hd0
                rw [if_pos (.inr hd0)] at hE
                have HE := Lib.hid hE
                clear hE hf hs0 hmm hd0 hd46 hdrL
                go_enter Tryz.func21, Tryz.ntmps21
                go_wp2_with fail
                refine (CS.out _ HV.out).mono ?_
                rintro e w1 ⟨rfl, hb1⟩
                have hs1 : w.heap.size < w1.heap.size := by have := hb1.size; simp at this; omega
                have c0 : w1.cell? ⟨w.heap.size, 0, none⟩ = some (.string _) := (hb1.cell (by simp)).trans (by simp; rfl)
                have c1 : w1.cell? ⟨w.heap.size, 1, none⟩ = some (.int .i64 _) := (hb1.cell (by simp)).trans (by simp; rfl)
                have c2 : w1.cell? ⟨w.heap.size, 2, none⟩ = some (.int .i64 _) := (hb1.cell (by simp)).trans (by simp; rfl)
                have c3 : w1.cell? ⟨w.heap.size, 3, none⟩ = some (.string _) := (hb1.cell (by simp)).trans (by simp; rfl)
                have c4 : w1.cell? ⟨w.heap.size, 4, none⟩ = some (.string _) := (hb1.cell (by simp)).trans (by simp; rfl)
                have hb1' := (Below.alloc (Below.refl w.heap.size w) (Nat.le_refl _) _).trans (hb1.mono (by simp))
                have HB1 : Hid (Below B w w1) := Lib.hid (hb1'.mono hBw)
                have HC1 := Lib.hid (HCK.out.below hb1')
                have g0 := HC1.out.blk.cell 0
                have g1 := HC1.out.blk.cell 1
                have g2 := HC1.out.blk.cell 2
                have hgl1 := HC1.out.blk.lt
                simp at g0 g1 g2
                rw [← HQ.out] at g2
                clear hb1 hb1'
                go_wp2_with fail
                go_quiet (fail)
                obtain ⟨w2, hw2⟩ : ∃ w2, w2 = w1.drewN nq := ⟨_, rfl⟩
                rw [← hw2]
                have hcw : ∀ a, w2.cell? a = w1.cell? a := fun a => by rw [hw2]; rfl
                replace c0 := (hcw _).trans c0
                replace c1 := (hcw _).trans c1
                replace c2 := (hcw _).trans c2
                replace c3 := (hcw _).trans c3
                replace c4 := (hcw _).trans c4
                replace g0 := (hcw _).trans g0
                replace g1 := (hcw _).trans g1
                replace g2 := (hcw _).trans g2
                have HB2 : Hid (Below B w w2) := Lib.hid (by rw [hw2]; exact below_drewN HB1.out nq)
                have HC2 : Hid (Ck w2 B g kb fb l) := Lib.hid (by rw [hw2]; exact HC1.out.below (below_drewN (Below.refl _ _) nq))
                have hgl2 : g < w2.heap.size := HC2.out.blk.lt
                have hs2 : w.heap.size < w2.heap.size := by rw [hw2]; exact hs1
                clear hw2 hcw HC1 HB1 hgl1 hs1
                go_wp2_with fail
                refine (CD.out _).mono ?_
                rintro e w3 ⟨rfl, rfl⟩
                skip
                go_wp2_with fail
                have hlk10 : ∀ W, Below w2.heap.size w2 W → (Instr.lookup 67 (.map (some fb)) (.string s) true).run Tryz.prog W = .ok (.tuple #[itV ⟨op, ok, om, od, os⟩, .bool true]) W := fun W hW => by
                  rw [(HC2.out.first.below hW).look_ok Tryz.underlying67 (zeroI W) s (by unfold maxLen; omega), HFO.out]; rfl
                have hlk11 := hlk10 w2.drew (by go_grown)
                have hlk12 := fun c => hlk10 ((w2.alloc c).drew) (by go_grown)
                unfold itV at hlk11 hlk12
                clear hlk10
                go_region_held3 (fun w' => w'.cell? ⟨g, 1, none⟩ = some (.map (some fb)) ∧ w'.cell? ⟨w.heap.size, 4, none⟩ = some (.string s)) (go_keep) (fail)
                all_goals
                  go_wp2
                  go_ret
                  exact ⟨ret_int HE.out.symm, by have h1 := HB2.out; go_grown, fun h => by rw [HE.out] at h; cases h⟩
            · have e5 : (om != m) = true := by simpa using hmm
              rw [if_pos (.inl hmm)] at hE
              have HE := Lib.hid hE
              clear hE hf hs0 hmm hd46 hdrL
              go_enter Tryz.func21, Tryz.ntmps21
              go_wp2_with fail
              refine (CS.out _ HV.out).mono ?_
              rintro e w1 ⟨rfl, hb1⟩
              have hs1 : w.heap.size < w1.heap.size := by have := hb1.size; simp at this; omega
              have c0 : w1.cell? ⟨w.heap.size, 0, none⟩ = some (.string _) := (hb1.cell (by simp)).trans (by simp; rfl)
              have c1 : w1.cell? ⟨w.heap.size, 1, none⟩ = some (.int .i64 _) := (hb1.cell (by simp)).trans (by simp; rfl)
              have c2 : w1.cell? ⟨w.heap.size, 2, none⟩ = some (.int .i64 _) := (hb1.cell (by simp)).trans (by simp; rfl)
              have c3 : w1.cell? ⟨w.heap.size, 3, none⟩ = some (.string _) := (hb1.cell (by simp)).trans (by simp; rfl)
              have c4 : w1.cell? ⟨w.heap.size, 4, none⟩ = some (.string _) := (hb1.cell (by simp)).trans (by simp; rfl)
              have hb1' := (Below.alloc (Below.refl w.heap.size w) (Nat.le_refl _) _).trans (hb1.mono (by simp))
              have HB1 : Hid (Below B w w1) := Lib.hid (hb1'.mono hBw)
              have HC1 := Lib.hid (HCK.out.below hb1')
              have g0 := HC1.out.blk.cell 0
              have g1 := HC1.out.blk.cell 1
              have g2 := HC1.out.blk.cell 2
              have hgl1 := HC1.out.blk.lt
              simp at g0 g1 g2
              rw [← HQ.out] at g2
              clear hb1 hb1'
              go_wp2_with fail
              go_quiet (fail)
              obtain ⟨w2, hw2⟩ : ∃ w2, w2 = w1.drewN nq := ⟨_, rfl⟩
              rw [← hw2]
              have hcw : ∀ a, w2.cell? a = w1.cell? a := fun a => by rw [hw2]; rfl
              replace c0 := (hcw _).trans c0
              replace c1 := (hcw _).trans c1
              replace c2 := (hcw _).trans c2
              replace c3 := (hcw _).trans c3
              replace c4 := (hcw _).trans c4
              replace g0 := (hcw _).trans g0
              replace g1 := (hcw _).trans g1
              replace g2 := (hcw _).trans g2
              have HB2 : Hid (Below B w w2) := Lib.hid (by rw [hw2]; exact below_drewN HB1.out nq)
              have HC2 : Hid (Ck w2 B g kb fb l) := Lib.hid (by rw [hw2]; exact HC1.out.below (below_drewN (Below.refl _ _) nq))
              have hgl2 : g < w2.heap.size := HC2.out.blk.lt
              have hs2 : w.heap.size < w2.heap.size := by rw [hw2]; exact hs1
              clear hw2 hcw HC1 HB1 hgl1 hs1
              go_wp2_with fail
              refine (CD.out _).mono ?_
              rintro e w3 ⟨rfl, rfl⟩
              skip
              go_wp2_with fail
              have hlk10 : ∀ W, Below w2.heap.size w2 W → (Instr.lookup 67 (.map (some fb)) (.string s) true).run Tryz.prog W = .ok (.tuple #[itV ⟨op, ok, om, od, os⟩, .bool true]) W := fun W hW => by
                rw [(HC2.out.first.below hW).look_ok Tryz.underlying67 (zeroI W) s (by unfold maxLen; omega), HFO.out]; rfl
              have hlk11 := hlk10 w2.drew (by go_grown)
              have hlk12 := fun c => hlk10 ((w2.alloc c).drew) (by go_grown)
              unfold itV at hlk11 hlk12
              clear hlk10
              go_region_held3 (fun w' => w'.cell? ⟨g, 1, none⟩ = some (.map (some fb)) ∧ w'.cell? ⟨w.heap.size, 4, none⟩ = some (.string s)) (go_keep) (fail)
              all_goals
                go_wp2
                go_ret
                exact ⟨ret_int HE.out.symm, by have h1 := HB2.out; go_grown, fun h => by rw [HE.out] at h; cases h⟩
      · have e1 : (dr.toList == [46]) = false := by rw [toList_L, hdrL]; simpa using hd46
        obtain ⟨kk, hkk⟩ : ∃ kk : Int, kk = (match kM l (dirL (L p)) with | some o => o.k | none => 0) := ⟨_, rfl⟩
        have HLK : Hid (∀ W, MapS W kb l.length (fun t => (kM l t).map fun x => .int .i64 x.k) → (Instr.lookup 52 (.map (some kb)) (.string dr) false).run Tryz.prog W = .ok (.int .i64 kk) W) := Lib.hid fun W hW => by
          rw [hW.look Tryz.underlying52 (zeroK W) dr (by unfold maxLen; omega), hdrL, hkk]
          cases kM l (dirL (L p)) <;> rfl
        by_cases hk2 : kk = 2
        · have e2 : (kk != 2) = false := by simp [hk2]
          rw [if_neg (fun h => h.2 (hkk.symm.trans hk2))] at hE
          by_cases hs0 : L s = []
          · have e4 := nil_empty hs0
            rw [if_pos hs0] at hE
            have HE := Lib.hid hE
            by_cases hk1 : k = 1
            · subst hk1
              have HNF : Hid (L s = [] ∧ True) := Lib.hid ⟨hs0, trivial⟩
              clear hE hs0 hkk hd46 hk2 hdrL
              go_enter Tryz.func21, Tryz.ntmps21
              go_wp2_with fail
              refine (CS.out _ HV.out).mono ?_
              rintro e w1 ⟨rfl, hb1⟩
              have hs1 : w.heap.size < w1.heap.size := by have := hb1.size; simp at this; omega
              have c0 : w1.cell? ⟨w.heap.size, 0, none⟩ = some (.string _) := (hb1.cell (by simp)).trans (by simp; rfl)
              have c1 : w1.cell? ⟨w.heap.size, 1, none⟩ = some (.int .i64 _) := (hb1.cell (by simp)).trans (by simp; rfl)
              have c2 : w1.cell? ⟨w.heap.size, 2, none⟩ = some (.int .i64 _) := (hb1.cell (by simp)).trans (by simp; rfl)
              have c3 : w1.cell? ⟨w.heap.size, 3, none⟩ = some (.string _) := (hb1.cell (by simp)).trans (by simp; rfl)
              have c4 : w1.cell? ⟨w.heap.size, 4, none⟩ = some (.string _) := (hb1.cell (by simp)).trans (by simp; rfl)
              have hb1' := (Below.alloc (Below.refl w.heap.size w) (Nat.le_refl _) _).trans (hb1.mono (by simp))
              have HB1 : Hid (Below B w w1) := Lib.hid (hb1'.mono hBw)
              have HC1 := Lib.hid (HCK.out.below hb1')
              have g0 := HC1.out.blk.cell 0
              have g1 := HC1.out.blk.cell 1
              have g2 := HC1.out.blk.cell 2
              have hgl1 := HC1.out.blk.lt
              simp at g0 g1 g2
              rw [← HQ.out] at g2
              clear hb1 hb1'
              go_wp2_with fail
              go_quiet (fail)
              obtain ⟨w2, hw2⟩ : ∃ w2, w2 = w1.drewN nq := ⟨_, rfl⟩
              rw [← hw2]
              have hcw : ∀ a, w2.cell? a = w1.cell? a := fun a => by rw [hw2]; rfl
              replace c0 := (hcw _).trans c0
              replace c1 := (hcw _).trans c1
              replace c2 := (hcw _).trans c2
              replace c3 := (hcw _).trans c3
              replace c4 := (hcw _).trans c4
              replace g0 := (hcw _).trans g0
              replace g1 := (hcw _).trans g1
              replace g2 := (hcw _).trans g2
              have HB2 : Hid (Below B w w2) := Lib.hid (by rw [hw2]; exact below_drewN HB1.out nq)
              have HC2 : Hid (Ck w2 B g kb fb l) := Lib.hid (by rw [hw2]; exact HC1.out.below (below_drewN (Below.refl _ _) nq))
              have hgl2 : g < w2.heap.size := HC2.out.blk.lt
              have hs2 : w.heap.size < w2.heap.size := by rw [hw2]; exact hs1
              clear hw2 hcw HC1 HB1 hgl1 hs1
              go_wp2_with fail
              refine (CD.out _).mono ?_
              rintro e w3 ⟨rfl, rfl⟩
              have hlk := HLK.out _ HC2.out.kinds
              go_wp2_with fail
              obtain ⟨w4, hr4, hM4, hG4⟩ := (show MapS w2.drew fb _ _ from HC2.out.first.below (Below.drew (Below.refl _ _))).put_run Tryz.underlying67 (by unfold maxLen; omega) p (itV ⟨p, 1, m, d, s⟩) (by unfold maxLen; omega)
              replace hG4 : w2.grownBy w4 (some fb) := ⟨hG4.os, hG4.tape, hG4.output, hG4.size, hG4.block⟩
              have HBL4 : Hid (∀ b, b < w2.heap.size → b ≠ fb → w4.heap[b]? = w2.heap[b]?) := Lib.hid (fun b hb hne => hG4.block b hb (by simpa using hne))
              have HM4 := Lib.hid hM4
              have hsz4 : w2.heap.size ≤ w4.heap.size := hG4.size
              have HBB : Hid (Below B w w4) := Lib.hid (HB2.out.grown hG4 (by omega) (fun j hj => by cases hj; exact hBf))
              unfold itV at hr4
              clear hM4 hG4
              have d0 := (World.cell?_of_block (a := ⟨w.heap.size, 0, none⟩) (HBL4.out _ hs2 hif)).trans c0
              have d1 := (World.cell?_of_block (a := ⟨w.heap.size, 1, none⟩) (HBL4.out _ hs2 hif)).trans c1
              have d2 := (World.cell?_of_block (a := ⟨w.heap.size, 2, none⟩) (HBL4.out _ hs2 hif)).trans c2
              have d3 := (World.cell?_of_block (a := ⟨w.heap.size, 3, none⟩) (HBL4.out _ hs2 hif)).trans c3
              have d4 := (World.cell?_of_block (a := ⟨w.heap.size, 4, none⟩) (HBL4.out _ hs2 hif)).trans c4
              have d5 := (World.cell?_of_block (a := ⟨g, 1, none⟩) (HBL4.out g HC2.out.blk.lt hgf)).trans g1
              go_region_held3 (fun w' => w'.cell? ⟨g, 1, none⟩ = some (.map (some fb)) ∧ w'.cell? ⟨w.heap.size, 0, none⟩ = some (.string p) ∧ w'.cell? ⟨w.heap.size, 1, none⟩ = some (.int .i64 1) ∧ w'.cell? ⟨w.heap.size, 2, none⟩ = some (.int .i64 m) ∧ w'.cell? ⟨w.heap.size, 3, none⟩ = some (.string d) ∧ w'.cell? ⟨w.heap.size, 4, none⟩ = some (.string s)) (go_keep) (fail)
              have hbg : g < w4.heap.size := Nat.lt_of_lt_of_le HC2.out.blk.lt hsz4
              have hbk : kb < w4.heap.size := Nat.lt_of_lt_of_le HC2.out.kinds.lt hsz4
              have hbf : fb < w4.heap.size := Nat.lt_of_lt_of_le HC2.out.first.lt hsz4
              have hbi : w.heap.size < w4.heap.size := Nat.lt_of_lt_of_le hs2 hsz4
              have HBK : Hid (Blk w4 g 69 #[.map (some kb), .map (some fb), .string q]) := Lib.hid (by
                have := (HBL4.out g HC2.out.blk.lt hgf).trans HC2.out.blk
                rw [HQ.out]; exact this)
              have HKm := Lib.hid (HC2.out.kinds.block (HBL4.out kb HC2.out.kinds.lt hkf))
              have HFn : Hid (MapS w4 fb (l.length + 1) (fun t => (fM l1 t).map itV)) := Lib.hid (by rw [← HFP.out ⟨HNF.out.1, by first | trivial | rfl⟩]; exact HM4.out)
              replace c0 := (World.cell?_of_block (HBL4.out _ hs2 hif)).trans c0
              replace c1 := (World.cell?_of_block (HBL4.out _ hs2 hif)).trans c1
              replace g0 := (World.cell?_of_block (HBL4.out g HC2.out.blk.lt hgf)).trans g0
              clear c2 c3 c4 g1 g2 d0 d1 d2 d3 d4 d5
              go_wp2_with fail
              obtain ⟨v0, st, w5, hr5, hE5, hG5⟩ := (show MapS (w4).drew kb _ _ from HKm.out.below (Below.drew (Below.refl _ _))).entry Tryz.underlying52 zeroK (by unfold maxLen; omega) p (by unfold maxLen; omega)
              replace hG5 : (w4).grownBy w5 (some kb) := ⟨hG5.os, hG5.tape, hG5.output, hG5.size, hG5.block⟩
              obtain ⟨w6, hr6, hM6, hG6⟩ := hE5.2 w5 (.int .i64 1) rfl
              have hblk5 : ∀ b, b < (w4).heap.size → b ≠ kb → w5.heap[b]? = (w4).heap[b]? := fun b hb hne => hG5.block b hb (by simpa using hne)
              have hblk6 : ∀ b, b < (w4).heap.size → b ≠ kb → w6.heap[b]? = (w4).heap[b]? := fun b hb hne => (hG6.block b (Nat.lt_of_lt_of_le hb hG5.size) (by simpa using hne)).trans (hblk5 b hb hne)
              have q0 : w5.cell? ⟨g, 0, none⟩ = some (.map (some kb)) := (World.cell?_of_block (hblk5 g hbg hgk)).trans g0
              have q1 : w5.cell? ⟨w.heap.size, 0, none⟩ = some (.string p) := (World.cell?_of_block (hblk5 _ hbi hik)).trans c0
              have q2 : w5.cell? ⟨w.heap.size, 1, none⟩ = some (.int .i64 1) := (World.cell?_of_block (hblk5 _ hbi hik)).trans c1
              have p0 : w6.cell? ⟨g, 0, none⟩ = some (.map (some kb)) := (World.cell?_of_block (hblk6 g hbg hgk)).trans g0
              have p1 : w6.cell? ⟨w.heap.size, 0, none⟩ = some (.string p) := (World.cell?_of_block (hblk6 _ hbi hik)).trans c0
              have p2 : w6.cell? ⟨w.heap.size, 1, none⟩ = some (.int .i64 1) := (World.cell?_of_block (hblk6 _ hbi hik)).trans c1
              have z0 : (w6.setCell ⟨g, 2, none⟩ (.string p)).cell? ⟨g, 0, none⟩ = some (.map (some kb)) := (World.cell?_setCell_other _ _ _ _ (by simp)).trans p0
              have z1 : (w6.setCell ⟨g, 2, none⟩ (.string p)).cell? ⟨w.heap.size, 0, none⟩ = some (.string p) := (World.cell?_setCell_other _ _ _ _ (by simp)).trans p1
              have z2 : (w6.setCell ⟨g, 2, none⟩ (.string p)).cell? ⟨w.heap.size, 1, none⟩ = some (.int .i64 1) := (World.cell?_setCell_other _ _ _ _ (by simp)).trans p2
              have HBK6 : Hid (Blk w6 g 69 #[.map (some kb), .map (some fb), .string q]) := Lib.hid ((hblk6 g hbg hgk).trans HBK.out)
              have p3 := HBK6.out.cell 2
              have p4 := HBK6.out.free 2
              simp at p3
              have HF6 := Lib.hid (HFn.out.block (hblk6 fb hbf hfk))
              have HM6 := Lib.hid hM6
              have HB6 : Hid (Below B w w6) := Lib.hid ((HBB.out.grown hG5 (by omega) (fun j hj => by cases hj; exact hBk)).grown hG6 (by have := hG5.size; omega) (fun j hj => by cases hj; exact hBk))
              have HSZ : Hid (B ≤ w6.heap.size) := Lib.hid (by have := hG5.size; have := hG6.size; omega)
              clear hE5 hG5 hM6 hG6 hblk5 hblk6
              go_region_held3 (fun w' => w'.cell? ⟨g, 0, none⟩ = some (.map (some kb)) ∧ w'.cell? ⟨w.heap.size, 0, none⟩ = some (.string p) ∧ w'.cell? ⟨w.heap.size, 1, none⟩ = some (.int .i64 1)) (go_keep) (fail)
              all_goals
                go_wp2
                go_ret
                have HCF : Ck (w6.setCell ⟨g, 2, none⟩ (.string p)) B g kb fb l1 := by
                  refine ⟨?_, ?_, ?_, HCK.out.le, HCK.out.ne⟩
                  · have := HBK6.out.put 2 (.string p)
                    rw [HSN.out]
                    exact this
                  · refine MapS.set ?_ (p := ⟨g, 2, none⟩) (Ne.symm hgk) _
                    rw [HLX.out, ← HKP.out]
                    exact HM6.out
                  · refine MapS.set ?_ (p := ⟨g, 2, none⟩) (Ne.symm hgf) _
                    rw [HLX.out]
                    exact HF6.out
                exact ⟨ret_int HE.out.symm, by have h1 := HB6.out; have h2 := hBg; have h3 := HSZ.out; go_grown, fun _ => by first | exact HCF | exact HCF.below (by go_grown)⟩
            · have e5 : (k == 1) = false := by simpa using hk1
              have HNF : Hid (¬ (L s = [] ∧ k = 1)) := Lib.hid (fun h => hk1 h.2)
              clear hE hs0 hk1 hkk hd46 hk2 hdrL
              go_enter Tryz.func21, Tryz.ntmps21
              go_wp2_with fail
              refine (CS.out _ HV.out).mono ?_
              rintro e w1 ⟨rfl, hb1⟩
              have hs1 : w.heap.size < w1.heap.size := by have := hb1.size; simp at this; omega
              have c0 : w1.cell? ⟨w.heap.size, 0, none⟩ = some (.string _) := (hb1.cell (by simp)).trans (by simp; rfl)
              have c1 : w1.cell? ⟨w.heap.size, 1, none⟩ = some (.int .i64 _) := (hb1.cell (by simp)).trans (by simp; rfl)
              have c2 : w1.cell? ⟨w.heap.size, 2, none⟩ = some (.int .i64 _) := (hb1.cell (by simp)).trans (by simp; rfl)
              have c3 : w1.cell? ⟨w.heap.size, 3, none⟩ = some (.string _) := (hb1.cell (by simp)).trans (by simp; rfl)
              have c4 : w1.cell? ⟨w.heap.size, 4, none⟩ = some (.string _) := (hb1.cell (by simp)).trans (by simp; rfl)
              have hb1' := (Below.alloc (Below.refl w.heap.size w) (Nat.le_refl _) _).trans (hb1.mono (by simp))
              have HB1 : Hid (Below B w w1) := Lib.hid (hb1'.mono hBw)
              have HC1 := Lib.hid (HCK.out.below hb1')
              have g0 := HC1.out.blk.cell 0
              have g1 := HC1.out.blk.cell 1
              have g2 := HC1.out.blk.cell 2
              have hgl1 := HC1.out.blk.lt
              simp at g0 g1 g2
              rw [← HQ.out] at g2
              clear hb1 hb1'
              go_wp2_with fail
              go_quiet (fail)
              obtain ⟨w2, hw2⟩ : ∃ w2, w2 = w1.drewN nq := ⟨_, rfl⟩
              rw [← hw2]
              have hcw : ∀ a, w2.cell? a = w1.cell? a := fun a => by rw [hw2]; rfl
              replace c0 := (hcw _).trans c0
              replace c1 := (hcw _).trans c1
              replace c2 := (hcw _).trans c2
              replace c3 := (hcw _).trans c3
              replace c4 := (hcw _).trans c4
              replace g0 := (hcw _).trans g0
              replace g1 := (hcw _).trans g1
              replace g2 := (hcw _).trans g2
              have HB2 : Hid (Below B w w2) := Lib.hid (by rw [hw2]; exact below_drewN HB1.out nq)
              have HC2 : Hid (Ck w2 B g kb fb l) := Lib.hid (by rw [hw2]; exact HC1.out.below (below_drewN (Below.refl _ _) nq))
              have hgl2 : g < w2.heap.size := HC2.out.blk.lt
              have hs2 : w.heap.size < w2.heap.size := by rw [hw2]; exact hs1
              clear hw2 hcw HC1 HB1 hgl1 hs1
              go_wp2_with fail
              refine (CD.out _).mono ?_
              rintro e w3 ⟨rfl, rfl⟩
              have hlk := HLK.out _ HC2.out.kinds
              go_wp2_with fail
              have HBK := Lib.hid HC2.out.blk
              rw [← HQ.out] at HBK
              have HKm := Lib.hid HC2.out.kinds
              have HBB := HB2
              have hbg := HC2.out.blk.lt
              have hbk := HC2.out.kinds.lt
              have hbf := HC2.out.first.lt
              have hbi := hs2
              have HFn : Hid (MapS w2 fb (l.length + 1) (fun t => (fM l1 t).map itV)) := Lib.hid (by rw [← HFS.out HNF.out]; exact HC2.out.first.mono (by omega))
              obtain ⟨v0, st, w5, hr5, hE5, hG5⟩ := (show MapS (w2).drew kb _ _ from HKm.out.below (Below.drew (Below.refl _ _))).entry Tryz.underlying52 zeroK (by unfold maxLen; omega) p (by unfold maxLen; omega)
              replace hG5 : (w2).grownBy w5 (some kb) := ⟨hG5.os, hG5.tape, hG5.output, hG5.size, hG5.block⟩
              obtain ⟨w6, hr6, hM6, hG6⟩ := hE5.2 w5 (.int .i64 k) rfl
              have hblk5 : ∀ b, b < (w2).heap.size → b ≠ kb → w5.heap[b]? = (w2).heap[b]? := fun b hb hne => hG5.block b hb (by simpa using hne)
              have hblk6 : ∀ b, b < (w2).heap.size → b ≠ kb → w6.heap[b]? = (w2).heap[b]? := fun b hb hne => (hG6.block b (Nat.lt_of_lt_of_le hb hG5.size) (by simpa using hne)).trans (hblk5 b hb hne)
              have q0 : w5.cell? ⟨g, 0, none⟩ = some (.map (some kb)) := (World.cell?_of_block (hblk5 g hbg hgk)).trans g0
              have q1 : w5.cell? ⟨w.heap.size, 0, none⟩ = some (.string p) := (World.cell?_of_block (hblk5 _ hbi hik)).trans c0
              have q2 : w5.cell? ⟨w.heap.size, 1, none⟩ = some (.int .i64 k) := (World.cell?_of_block (hblk5 _ hbi hik)).trans c1
              have p0 : w6.cell? ⟨g, 0, none⟩ = some (.map (some kb)) := (World.cell?_of_block (hblk6 g hbg hgk)).trans g0
              have p1 : w6.cell? ⟨w.heap.size, 0, none⟩ = some (.string p) := (World.cell?_of_block (hblk6 _ hbi hik)).trans c0
              have p2 : w6.cell? ⟨w.heap.size, 1, none⟩ = some (.int .i64 k) := (World.cell?_of_block (hblk6 _ hbi hik)).trans c1
              have z0 : (w6.setCell ⟨g, 2, none⟩ (.string p)).cell? ⟨g, 0, none⟩ = some (.map (some kb)) := (World.cell?_setCell_other _ _ _ _ (by simp)).trans p0
              have z1 : (w6.setCell ⟨g, 2, none⟩ (.string p)).cell? ⟨w.heap.size, 0, none⟩ = some (.string p) := (World.cell?_setCell_other _ _ _ _ (by simp)).trans p1
              have z2 : (w6.setCell ⟨g, 2, none⟩ (.string p)).cell? ⟨w.heap.size, 1, none⟩ = some (.int .i64 k) := (World.cell?_setCell_other _ _ _ _ (by simp)).trans p2
              have HBK6 : Hid (Blk w6 g 69 #[.map (some kb), .map (some fb), .string q]) := Lib.hid ((hblk6 g hbg hgk).trans HBK.out)
              have p3 := HBK6.out.cell 2
              have p4 := HBK6.out.free 2
              simp at p3
              have HF6 := Lib.hid (HFn.out.block (hblk6 fb hbf hfk))
              have HM6 := Lib.hid hM6
              have HB6 : Hid (Below B w w6) := Lib.hid ((HBB.out.grown hG5 (by omega) (fun j hj => by cases hj; exact hBk)).grown hG6 (by have := hG5.size; omega) (fun j hj => by cases hj; exact hBk))
              have HSZ : Hid (B ≤ w6.heap.size) := Lib.hid (by have := hG5.size; have := hG6.size; omega)
              clear hE5 hG5 hM6 hG6 hblk5 hblk6
              go_region_held3 (fun w' => w'.cell? ⟨g, 0, none⟩ = some (.map (some kb)) ∧ w'.cell? ⟨w.heap.size, 0, none⟩ = some (.string p) ∧ w'.cell? ⟨w.heap.size, 1, none⟩ = some (.int .i64 k)) (go_keep) (fail)
              all_goals
                go_wp2
                go_ret
                have HCF : Ck (w6.setCell ⟨g, 2, none⟩ (.string p)) B g kb fb l1 := by
                  refine ⟨?_, ?_, ?_, HCK.out.le, HCK.out.ne⟩
                  · have := HBK6.out.put 2 (.string p)
                    rw [HSN.out]
                    exact this
                  · refine MapS.set ?_ (p := ⟨g, 2, none⟩) (Ne.symm hgk) _
                    rw [HLX.out, ← HKP.out]
                    exact HM6.out
                  · refine MapS.set ?_ (p := ⟨g, 2, none⟩) (Ne.symm hgf) _
                    rw [HLX.out]
                    exact HF6.out
                exact ⟨ret_int HE.out.symm, by have h1 := HB6.out; have h2 := hBg; have h3 := HSZ.out; go_grown, fun _ => by first | exact HCF | exact HCF.below (by go_grown)⟩
          · have e4 := ne_empty hs0
            rw [if_neg hs0] at hE
            have HNF : Hid (¬ (L s = [] ∧ k = 1)) := Lib.hid (fun h => hs0 h.1)
            cases hf : fM l (L s) with
            | none =>
              simp only [hf] at hE
              have HE := Lib.hid hE
              have HFO : Hid ((fM l (L s)).map itV = none) := Lib.hid (by rw [hf]; rfl)
              clear hE hf hs0 hkk hd46 hk2 hdrL
              go_enter Tryz.func21, Tryz.ntmps21
              go_wp2_with fail
              refine (CS.out _ HV.out).mono ?_
              rintro e w1 ⟨rfl, hb1⟩
              have hs1 : w.heap.size < w1.heap.size := by have := hb1.size; simp at this; omega
              have c0 : w1.cell? ⟨w.heap.size, 0, none⟩ = some (.string _) := (hb1.cell (by simp)).trans (by simp; rfl)
              have c1 : w1.cell? ⟨w.heap.size, 1, none⟩ = some (.int .i64 _) := (hb1.cell (by simp)).trans (by simp; rfl)
              have c2 : w1.cell? ⟨w.heap.size, 2, none⟩ = some (.int .i64 _) := (hb1.cell (by simp)).trans (by simp; rfl)
              have c3 : w1.cell? ⟨w.heap.size, 3, none⟩ = some (.string _) := (hb1.cell (by simp)).trans (by simp; rfl)
              have c4 : w1.cell? ⟨w.heap.size, 4, none⟩ = some (.string _) := (hb1.cell (by simp)).trans (by simp; rfl)
              have hb1' := (Below.alloc (Below.refl w.heap.size w) (Nat.le_refl _) _).trans (hb1.mono (by simp))
              have HB1 : Hid (Below B w w1) := Lib.hid (hb1'.mono hBw)
              have HC1 := Lib.hid (HCK.out.below hb1')
              have g0 := HC1.out.blk.cell 0
              have g1 := HC1.out.blk.cell 1
              have g2 := HC1.out.blk.cell 2
              have hgl1 := HC1.out.blk.lt
              simp at g0 g1 g2
              rw [← HQ.out] at g2
              clear hb1 hb1'
              go_wp2_with fail
              go_quiet (fail)
              obtain ⟨w2, hw2⟩ : ∃ w2, w2 = w1.drewN nq := ⟨_, rfl⟩
              rw [← hw2]
              have hcw : ∀ a, w2.cell? a = w1.cell? a := fun a => by rw [hw2]; rfl
              replace c0 := (hcw _).trans c0
              replace c1 := (hcw _).trans c1
              replace c2 := (hcw _).trans c2
              replace c3 := (hcw _).trans c3
              replace c4 := (hcw _).trans c4
              replace g0 := (hcw _).trans g0
              replace g1 := (hcw _).trans g1
              replace g2 := (hcw _).trans g2
              have HB2 : Hid (Below B w w2) := Lib.hid (by rw [hw2]; exact below_drewN HB1.out nq)
              have HC2 : Hid (Ck w2 B g kb fb l) := Lib.hid (by rw [hw2]; exact HC1.out.below (below_drewN (Below.refl _ _) nq))
              have hgl2 : g < w2.heap.size := HC2.out.blk.lt
              have hs2 : w.heap.size < w2.heap.size := by rw [hw2]; exact hs1
              clear hw2 hcw HC1 HB1 hgl1 hs1
              go_wp2_with fail
              refine (CD.out _).mono ?_
              rintro e w3 ⟨rfl, rfl⟩
              have hlk := HLK.out _ HC2.out.kinds
              go_wp2_with fail
              have hlk10 : ∀ W, Below w2.heap.size w2 W → (Instr.lookup 67 (.map (some fb)) (.string s) true).run Tryz.prog W = .ok (.tuple #[itV It0, .bool false]) W := fun W hW => by
                rw [(HC2.out.first.below hW).look_ok Tryz.underlying67 (zeroI W) s (by unfold maxLen; omega), HFO.out]; rfl
              have hlk11 := hlk10 w2.drew (by go_grown)
              have hlk12 := fun c => hlk10 ((w2.alloc c).drew) (by go_grown)
              unfold itV It0 at hlk11 hlk12
              clear hlk10
              go_region_held3 (fun w' => w'.cell? ⟨g, 1, none⟩ = some (.map (some fb)) ∧ w'.cell? ⟨w.heap.size, 4, none⟩ = some (.string s)) (go_keep) (fail)
              all_goals
                go_wp2
                go_ret
                exact ⟨ret_int HE.out.symm, by have h1 := HB2.out; go_grown, fun h => by rw [HE.out] at h; cases h⟩
            | some o =>
              simp only [hf] at hE
              obtain ⟨op, ok, om, od, os⟩ := o
              have HFO : Hid ((fM l (L s)).map itV = some (itV ⟨op, ok, om, od, os⟩)) := Lib.hid (by rw [hf]; rfl)
              by_cases hmm : om = m
              · have e5 : (om != m) = false := by simpa using hmm
                by_cases hd0 : L d = []
                · have e6 := nil_empty hd0
                  rw [if_neg (by simp [hmm, hd0])] at hE
                  have HE := Lib.hid hE
                  clear hE hf hs0 hmm hd0 hkk hd46 hk2 hdrL
                  go_enter Tryz.func21, Tryz.ntmps21
                  go_wp2_with fail
                  refine (CS.out _ HV.out).mono ?_
                  rintro e w1 ⟨rfl, hb1⟩
                  have hs1 : w.heap.size < w1.heap.size := by have := hb1.size; simp at this; omega
                  have c0 : w1.cell? ⟨w.heap.size, 0, none⟩ = some (.string _) := (hb1.cell (by simp)).trans (by simp; rfl)
                  have c1 : w1.cell? ⟨w.heap.size, 1, none⟩ = some (.int .i64 _) := (hb1.cell (by simp)).trans (by simp; rfl)
                  have c2 : w1.cell? ⟨w.heap.size, 2, none⟩ = some (.int .i64 _) := (hb1.cell (by simp)).trans (by simp; rfl)
                  have c3 : w1.cell? ⟨w.heap.size, 3, none⟩ = some (.string _) := (hb1.cell (by simp)).trans (by simp; rfl)
                  have c4 : w1.cell? ⟨w.heap.size, 4, none⟩ = some (.string _) := (hb1.cell (by simp)).trans (by simp; rfl)
                  have hb1' := (Below.alloc (Below.refl w.heap.size w) (Nat.le_refl _) _).trans (hb1.mono (by simp))
                  have HB1 : Hid (Below B w w1) := Lib.hid (hb1'.mono hBw)
                  have HC1 := Lib.hid (HCK.out.below hb1')
                  have g0 := HC1.out.blk.cell 0
                  have g1 := HC1.out.blk.cell 1
                  have g2 := HC1.out.blk.cell 2
                  have hgl1 := HC1.out.blk.lt
                  simp at g0 g1 g2
                  rw [← HQ.out] at g2
                  clear hb1 hb1'
                  go_wp2_with fail
                  go_quiet (fail)
                  obtain ⟨w2, hw2⟩ : ∃ w2, w2 = w1.drewN nq := ⟨_, rfl⟩
                  rw [← hw2]
                  have hcw : ∀ a, w2.cell? a = w1.cell? a := fun a => by rw [hw2]; rfl
                  replace c0 := (hcw _).trans c0
                  replace c1 := (hcw _).trans c1
                  replace c2 := (hcw _).trans c2
                  replace c3 := (hcw _).trans c3
                  replace c4 := (hcw _).trans c4
                  replace g0 := (hcw _).trans g0
                  replace g1 := (hcw _).trans g1
                  replace g2 := (hcw _).trans g2
                  have HB2 : Hid (Below B w w2) := Lib.hid (by rw [hw2]; exact below_drewN HB1.out nq)
                  have HC2 : Hid (Ck w2 B g kb fb l) := Lib.hid (by rw [hw2]; exact HC1.out.below (below_drewN (Below.refl _ _) nq))
                  have hgl2 : g < w2.heap.size := HC2.out.blk.lt
                  have hs2 : w.heap.size < w2.heap.size := by rw [hw2]; exact hs1
                  clear hw2 hcw HC1 HB1 hgl1 hs1
                  go_wp2_with fail
                  refine (CD.out _).mono ?_
                  rintro e w3 ⟨rfl, rfl⟩
                  have hlk := HLK.out _ HC2.out.kinds
                  go_wp2_with fail
                  have hlk10 : ∀ W, Below w2.heap.size w2 W → (Instr.lookup 67 (.map (some fb)) (.string s) true).run Tryz.prog W = .ok (.tuple #[itV ⟨op, ok, om, od, os⟩, .bool true]) W := fun W hW => by
                    rw [(HC2.out.first.below hW).look_ok Tryz.underlying67 (zeroI W) s (by unfold maxLen; omega), HFO.out]; rfl
                  have hlk11 := hlk10 w2.drew (by go_grown)
                  have hlk12 := fun c => hlk10 ((w2.alloc c).drew) (by go_grown)
                  unfold itV at hlk11 hlk12
                  clear hlk10
                  go_region_held3 (fun w' => w'.cell? ⟨g, 1, none⟩ = some (.map (some fb)) ∧ w'.cell? ⟨w.heap.size, 4, none⟩ = some (.string s)) (go_keep) (fail)
                  all_goals
                    go_wp2_with fail
                    obtain ⟨w4, hw4⟩ : ∃ w4, w4 = (w2.alloc (.cells #[.string op, .int .i64 ok, .int .i64 om, .string od, .string os] 34)).drew := ⟨_, rfl⟩
                    rw [← hw4]
                    have hb4 : Below w2.heap.size w2 w4 := by rw [hw4]; go_grown
                    have HC4 := HC2.out.below hb4
                    have HBK := Lib.hid HC4.blk
                    rw [← HQ.out] at HBK
                    have HKm := Lib.hid HC4.kinds
                    have HBB : Hid (Below B w w4) := Lib.hid (HB2.out.trans (hb4.mono (by omega)))
                    have hbg := HC4.blk.lt
                    have hbk := HC4.kinds.lt
                    have hbf := HC4.first.lt
                    have hbi : w.heap.size < w4.heap.size := Nat.lt_of_lt_of_le hs2 hb4.size
                    have HFn : Hid (MapS w4 fb (l.length + 1) (fun t => (fM l1 t).map itV)) := Lib.hid (by rw [← HFS.out HNF.out]; exact HC4.first.mono (by omega))
                    replace c0 := (hb4.cell (p := ⟨w.heap.size, 0, none⟩) hs2).trans c0
                    replace c1 := (hb4.cell (p := ⟨w.heap.size, 1, none⟩) hs2).trans c1
                    replace g0 := (hb4.cell (p := ⟨g, 0, none⟩) HC2.out.blk.lt).trans g0
                    clear c2 c3 c4 g1 g2 hw4 hb4 HC4 hlk11 hlk12
                    obtain ⟨v0, st, w5, hr5, hE5, hG5⟩ := (show MapS (w4).drew kb _ _ from HKm.out.below (Below.drew (Below.refl _ _))).entry Tryz.underlying52 zeroK (by unfold maxLen; omega) p (by unfold maxLen; omega)
                    replace hG5 : (w4).grownBy w5 (some kb) := ⟨hG5.os, hG5.tape, hG5.output, hG5.size, hG5.block⟩
                    obtain ⟨w6, hr6, hM6, hG6⟩ := hE5.2 w5 (.int .i64 k) rfl
                    have hblk5 : ∀ b, b < (w4).heap.size → b ≠ kb → w5.heap[b]? = (w4).heap[b]? := fun b hb hne => hG5.block b hb (by simpa using hne)
                    have hblk6 : ∀ b, b < (w4).heap.size → b ≠ kb → w6.heap[b]? = (w4).heap[b]? := fun b hb hne => (hG6.block b (Nat.lt_of_lt_of_le hb hG5.size) (by simpa using hne)).trans (hblk5 b hb hne)
                    have q0 : w5.cell? ⟨g, 0, none⟩ = some (.map (some kb)) := (World.cell?_of_block (hblk5 g hbg hgk)).trans g0
                    have q1 : w5.cell? ⟨w.heap.size, 0, none⟩ = some (.string p) := (World.cell?_of_block (hblk5 _ hbi hik)).trans c0
                    have q2 : w5.cell? ⟨w.heap.size, 1, none⟩ = some (.int .i64 k) := (World.cell?_of_block (hblk5 _ hbi hik)).trans c1
                    have p0 : w6.cell? ⟨g, 0, none⟩ = some (.map (some kb)) := (World.cell?_of_block (hblk6 g hbg hgk)).trans g0
                    have p1 : w6.cell? ⟨w.heap.size, 0, none⟩ = some (.string p) := (World.cell?_of_block (hblk6 _ hbi hik)).trans c0
                    have p2 : w6.cell? ⟨w.heap.size, 1, none⟩ = some (.int .i64 k) := (World.cell?_of_block (hblk6 _ hbi hik)).trans c1
                    have z0 : (w6.setCell ⟨g, 2, none⟩ (.string p)).cell? ⟨g, 0, none⟩ = some (.map (some kb)) := (World.cell?_setCell_other _ _ _ _ (by simp)).trans p0
                    have z1 : (w6.setCell ⟨g, 2, none⟩ (.string p)).cell? ⟨w.heap.size, 0, none⟩ = some (.string p) := (World.cell?_setCell_other _ _ _ _ (by simp)).trans p1
                    have z2 : (w6.setCell ⟨g, 2, none⟩ (.string p)).cell? ⟨w.heap.size, 1, none⟩ = some (.int .i64 k) := (World.cell?_setCell_other _ _ _ _ (by simp)).trans p2
                    have HBK6 : Hid (Blk w6 g 69 #[.map (some kb), .map (some fb), .string q]) := Lib.hid ((hblk6 g hbg hgk).trans HBK.out)
                    have p3 := HBK6.out.cell 2
                    have p4 := HBK6.out.free 2
                    simp at p3
                    have HF6 := Lib.hid (HFn.out.block (hblk6 fb hbf hfk))
                    have HM6 := Lib.hid hM6
                    have HB6 : Hid (Below B w w6) := Lib.hid ((HBB.out.grown hG5 (by omega) (fun j hj => by cases hj; exact hBk)).grown hG6 (by have := hG5.size; omega) (fun j hj => by cases hj; exact hBk))
                    have HSZ : Hid (B ≤ w6.heap.size) := Lib.hid (by have := hG5.size; have := hG6.size; omega)
                    clear hE5 hG5 hM6 hG6 hblk5 hblk6
                    go_region_held3 (fun w' => w'.cell? ⟨g, 0, none⟩ = some (.map (some kb)) ∧ w'.cell? ⟨w.heap.size, 0, none⟩ = some (.string p) ∧ w'.cell? ⟨w.heap.size, 1, none⟩ = some (.int .i64 k)) (go_keep) (fail)
                    all_goals
                      go_wp2
                      go_ret
                      have HCF : Ck (w6.setCell ⟨g, 2, none⟩ (.string p)) B g kb fb l1 := by
                        refine ⟨?_, ?_, ?_, HCK.out.le, HCK.out.ne⟩
                        · have := HBK6.out.put 2 (.string p)
                          rw [HSN.out]
                          exact this
                        · refine MapS.set ?_ (p := ⟨g, 2, none⟩) (Ne.symm hgk) _
                          rw [HLX.out, ← HKP.out]
                          exact HM6.out
                        · refine MapS.set ?_ (p := ⟨g, 2, none⟩) (Ne.symm hgf) _
                          rw [HLX.out]
                          exact HF6.out
                      exact ⟨ret_int HE.out.symm, by have h1 := HB6.out; have h2 := hBg; have h3 := HSZ.out; go_grown, fun _ => by first | exact HCF | exact HCF.below (by go_grown)⟩
                · have e6 := ne_empty hd0
                  rw [if_pos (.inr hd0)] at hE
                  have HE := Lib.hid hE
                  clear hE hf hs0 hmm hd0 hkk hd46 hk2 hdrL
                  go_enter Tryz.func21, Tryz.ntmps21
                  go_wp2_with fail
                  refine (CS.out _ HV.out).mono ?_
                  rintro e w1 ⟨rfl, hb1⟩
                  have hs1 : w.heap.size < w1.heap.size := by have := hb1.size; simp at this; omega
                  have c0 : w1.cell? ⟨w.heap.size, 0, none⟩ = some (.string _) := (hb1.cell (by simp)).trans (by simp; rfl)
                  have c1 : w1.cell? ⟨w.heap.size, 1, none⟩ = some (.int .i64 _) := (hb1.cell (by simp)).trans (by simp; rfl)
                  have c2 : w1.cell? ⟨w.heap.size, 2, none⟩ = some (.int .i64 _) := (hb1.cell (by simp)).trans (by simp; rfl)
                  have c3 : w1.cell? ⟨w.heap.size, 3, none⟩ = some (.string _) := (hb1.cell (by simp)).trans (by simp; rfl)
                  have c4 : w1.cell? ⟨w.heap.size, 4, none⟩ = some (.string _) := (hb1.cell (by simp)).trans (by simp; rfl)
                  have hb1' := (Below.alloc (Below.refl w.heap.size w) (Nat.le_refl _) _).trans (hb1.mono (by simp))
                  have HB1 : Hid (Below B w w1) := Lib.hid (hb1'.mono hBw)
                  have HC1 := Lib.hid (HCK.out.below hb1')
                  have g0 := HC1.out.blk.cell 0
                  have g1 := HC1.out.blk.cell 1
                  have g2 := HC1.out.blk.cell 2
                  have hgl1 := HC1.out.blk.lt
                  simp at g0 g1 g2
                  rw [← HQ.out] at g2
                  clear hb1 hb1'
                  go_wp2_with fail
                  go_quiet (fail)
                  obtain ⟨w2, hw2⟩ : ∃ w2, w2 = w1.drewN nq := ⟨_, rfl⟩
                  rw [← hw2]
                  have hcw : ∀ a, w2.cell? a = w1.cell? a := fun a => by rw [hw2]; rfl
                  replace c0 := (hcw _).trans c0
                  replace c1 := (hcw _).trans c1
                  replace c2 := (hcw _).trans c2
                  replace c3 := (hcw _).trans c3
                  replace c4 := (hcw _).trans c4
                  replace g0 := (hcw _).trans g0
                  replace g1 := (hcw _).trans g1
                  replace g2 := (hcw _).trans g2
                  have HB2 : Hid (Below B w w2) := Lib.hid (by rw [hw2]; exact below_drewN HB1.out nq)
                  have HC2 : Hid (Ck w2 B g kb fb l) := Lib.hid (by rw [hw2]; exact HC1.out.below (below_drewN (Below.refl _ _) nq))
                  have hgl2 : g < w2.heap.size := HC2.out.blk.lt
                  have hs2 : w.heap.size < w2.heap.size := by rw [hw2]; exact hs1
                  clear hw2 hcw HC1 HB1 hgl1 hs1
                  go_wp2_with fail
                  refine (CD.out _).mono ?_
                  rintro e w3 ⟨rfl, rfl⟩
                  have hlk := HLK.out _ HC2.out.kinds
                  go_wp2_with fail
                  have hlk10 : ∀ W, Below w2.heap.size w2 W → (Instr.lookup 67 (.map (some fb)) (.string s) true).run Tryz.prog W = .ok (.tuple #[itV ⟨op, ok, om, od, os⟩, .bool true]) W := fun W hW => by
                    rw [(HC2.out.first.below hW).look_ok Tryz.underlying67 (zeroI W) s (by unfold maxLen; omega), HFO.out]; rfl
                  have hlk11 := hlk10 w2.drew (by go_grown)
                  have hlk12 := fun c => hlk10 ((w2.alloc c).drew) (by go_grown)
                  unfold itV at hlk11 hlk12
                  clear hlk10
                  go_region_held3 (fun w' => w'.cell? ⟨g, 1, none⟩ = some (.map (some fb)) ∧ w'.cell? ⟨w.heap.size, 4, none⟩ = some (.string s)) (go_keep) (fail)
                  all_goals
                    go_wp2
                    go_ret
                    exact ⟨ret_int HE.out.symm, by have h1 := HB2.out; go_grown, fun h => by rw [HE.out] at h; cases h⟩
              · have e5 : (om != m) = true := by simpa using hmm
                rw [if_pos (.inl hmm)] at hE
                have HE := Lib.hid hE
                clear hE hf hs0 hmm hkk hd46 hk2 hdrL
                go_enter Tryz.func21, Tryz.ntmps21
                go_wp2_with fail
                refine (CS.out _ HV.out).mono ?_
                rintro e w1 ⟨rfl, hb1⟩
                have hs1 : w.heap.size < w1.heap.size := by have := hb1.size; simp at this; omega
                have c0 : w1.cell? ⟨w.heap.size, 0, none⟩ = some (.string _) := (hb1.cell (by simp)).trans (by simp; rfl)
                have c1 : w1.cell? ⟨w.heap.size, 1, none⟩ = some (.int .i64 _) := (hb1.cell (by simp)).trans (by simp; rfl)
                have c2 : w1.cell? ⟨w.heap.size, 2, none⟩ = some (.int .i64 _) := (hb1.cell (by simp)).trans (by simp; rfl)
                have c3 : w1.cell? ⟨w.heap.size, 3, none⟩ = some (.string _) := (hb1.cell (by simp)).trans (by simp; rfl)
                have c4 : w1.cell? ⟨w.heap.size, 4, none⟩ = some (.string _) := (hb1.cell (by simp)).trans (by simp; rfl)
                have hb1' := (Below.alloc (Below.refl w.heap.size w) (Nat.le_refl _) _).trans (hb1.mono (by simp))
                have HB1 : Hid (Below B w w1) := Lib.hid (hb1'.mono hBw)
                have HC1 := Lib.hid (HCK.out.below hb1')
                have g0 := HC1.out.blk.cell 0
                have g1 := HC1.out.blk.cell 1
                have g2 := HC1.out.blk.cell 2
                have hgl1 := HC1.out.blk.lt
                simp at g0 g1 g2
                rw [← HQ.out] at g2
                clear hb1 hb1'
                go_wp2_with fail
                go_quiet (fail)
                obtain ⟨w2, hw2⟩ : ∃ w2, w2 = w1.drewN nq := ⟨_, rfl⟩
                rw [← hw2]
                have hcw : ∀ a, w2.cell? a = w1.cell? a := fun a => by rw [hw2]; rfl
                replace c0 := (hcw _).trans c0
                replace c1 := (hcw _).trans c1
                replace c2 := (hcw _).trans c2
                replace c3 := (hcw _).trans c3
                replace c4 := (hcw _).trans c4
                replace g0 := (hcw _).trans g0
                replace g1 := (hcw _).trans g1
                replace g2 := (hcw _).trans g2
                have HB2 : Hid (Below B w w2) := Lib.hid (by rw [hw2]; exact below_drewN HB1.out nq)
                have HC2 : Hid (Ck w2 B g kb fb l) := Lib.hid (by rw [hw2]; exact HC1.out.below (below_drewN (Below.refl _ _) nq))
                have hgl2 : g < w2.heap.size := HC2.out.blk.lt
                have hs2 : w.heap.size < w2.heap.size := by rw [hw2]; exact hs1
                clear hw2 hcw HC1 HB1 hgl1 hs1
                go_wp2_with fail
                refine (CD.out _).mono ?_
                rintro e w3 ⟨rfl, rfl⟩
                have hlk := HLK.out _ HC2.out.kinds
                go_wp2_with fail
                have hlk10 : ∀ W, Below w2.heap.size w2 W → (Instr.lookup 67 (.map (some fb)) (.string s) true).run Tryz.prog W = .ok (.tuple #[itV ⟨op, ok, om, od, os⟩, .bool true]) W := fun W hW => by
                  rw [(HC2.out.first.below hW).look_ok Tryz.underlying67 (zeroI W) s (by unfold maxLen; omega), HFO.out]; rfl
                have hlk11 := hlk10 w2.drew (by go_grown)
                have hlk12 := fun c => hlk10 ((w2.alloc c).drew) (by go_grown)
                unfold itV at hlk11 hlk12
                clear hlk10
                go_region_held3 (fun w' => w'.cell? ⟨g, 1, none⟩ = some (.map (some fb)) ∧ w'.cell? ⟨w.heap.size, 4, none⟩ = some (.string s)) (go_keep) (fail)
                all_goals
                  go_wp2
                  go_ret
                  exact ⟨ret_int HE.out.symm, by have h1 := HB2.out; go_grown, fun h => by rw [HE.out] at h; cases h⟩
        · have e2 : (kk != 2) = true := by simp [hk2]
          rw [if_pos ⟨hd46, fun h => hk2 (hkk.trans h)⟩] at hE
          have HE := Lib.hid hE
          clear hE hkk hd46 hk2 hdrL
          go_enter Tryz.func21, Tryz.ntmps21
          go_wp2_with fail
          refine (CS.out _ HV.out).mono ?_
          rintro e w1 ⟨rfl, hb1⟩
          have hs1 : w.heap.size < w1.heap.size := by have := hb1.size; simp at this; omega
          have c0 : w1.cell? ⟨w.heap.size, 0, none⟩ = some (.string _) := (hb1.cell (by simp)).trans (by simp; rfl)
          have c1 : w1.cell? ⟨w.heap.size, 1, none⟩ = some (.int .i64 _) := (hb1.cell (by simp)).trans (by simp; rfl)
          have c2 : w1.cell? ⟨w.heap.size, 2, none⟩ = some (.int .i64 _) := (hb1.cell (by simp)).trans (by simp; rfl)
          have c3 : w1.cell? ⟨w.heap.size, 3, none⟩ = some (.string _) := (hb1.cell (by simp)).trans (by simp; rfl)
          have c4 : w1.cell? ⟨w.heap.size, 4, none⟩ = some (.string _) := (hb1.cell (by simp)).trans (by simp; rfl)
          have hb1' := (Below.alloc (Below.refl w.heap.size w) (Nat.le_refl _) _).trans (hb1.mono (by simp))
          have HB1 : Hid (Below B w w1) := Lib.hid (hb1'.mono hBw)
          have HC1 := Lib.hid (HCK.out.below hb1')
          have g0 := HC1.out.blk.cell 0
          have g1 := HC1.out.blk.cell 1
          have g2 := HC1.out.blk.cell 2
          have hgl1 := HC1.out.blk.lt
          simp at g0 g1 g2
          rw [← HQ.out] at g2
          clear hb1 hb1'
          go_wp2_with fail
          go_quiet (fail)
          obtain ⟨w2, hw2⟩ : ∃ w2, w2 = w1.drewN nq := ⟨_, rfl⟩
          rw [← hw2]
          have hcw : ∀ a, w2.cell? a = w1.cell? a := fun a => by rw [hw2]; rfl
          replace c0 := (hcw _).trans c0
          replace c1 := (hcw _).trans c1
          replace c2 := (hcw _).trans c2
          replace c3 := (hcw _).trans c3
          replace c4 := (hcw _).trans c4
          replace g0 := (hcw _).trans g0
          replace g1 := (hcw _).trans g1
          replace g2 := (hcw _).trans g2
          have HB2 : Hid (Below B w w2) := Lib.hid (by rw [hw2]; exact below_drewN HB1.out nq)
          have HC2 : Hid (Ck w2 B g kb fb l) := Lib.hid (by rw [hw2]; exact HC1.out.below (below_drewN (Below.refl _ _) nq))
          have hgl2 : g < w2.heap.size := HC2.out.blk.lt
          have hs2 : w.heap.size < w2.heap.size := by rw [hw2]; exact hs1
          clear hw2 hcw HC1 HB1 hgl1 hs1
          go_wp2_with fail
          refine (CD.out _).mono ?_
          rintro e w3 ⟨rfl, rfl⟩
          have hlk := HLK.out _ HC2.out.kinds
          go_wp2
          go_ret
          exact ⟨ret_int HE.out.symm, HB2.out, fun h => by rw [HE.out] at h; cases h⟩
    · rw [if_pos hlt] at hE
      have HE := Lib.hid hE
      rw [← hqL] at hlt
      have hor := bytes_le hlt
      rw [← toList_L, ← toList_L] at hor
      clear hE hqL hlt
      obtain ⟨f1, hf1⟩ : ∃ b, Op.bytesLess p.toList q.toList = b := ⟨_, rfl⟩
      obtain ⟨f2, hf2⟩ : ∃ b, (p.toList == q.toList) = b := ⟨_, rfl⟩
      rw [hf1, hf2] at hor
      cases f1
      · cases f2
        · simp at hor
        · clear hor
          go_enter Tryz.func21, Tryz.ntmps21
          go_wp2_with fail
          refine (CS.out _ HV.out).mono ?_
          rintro e w1 ⟨rfl, hb1⟩
          have hs1 : w.heap.size < w1.heap.size := by have := hb1.size; simp at this; omega
          have c0 : w1.cell? ⟨w.heap.size, 0, none⟩ = some (.string _) := (hb1.cell (by simp)).trans (by simp; rfl)
          have c1 : w1.cell? ⟨w.heap.size, 1, none⟩ = some (.int .i64 _) := (hb1.cell (by simp)).trans (by simp; rfl)
          have c2 : w1.cell? ⟨w.heap.size, 2, none⟩ = some (.int .i64 _) := (hb1.cell (by simp)).trans (by simp; rfl)
          have c3 : w1.cell? ⟨w.heap.size, 3, none⟩ = some (.string _) := (hb1.cell (by simp)).trans (by simp; rfl)
          have c4 : w1.cell? ⟨w.heap.size, 4, none⟩ = some (.string _) := (hb1.cell (by simp)).trans (by simp; rfl)
          have hb1' := (Below.alloc (Below.refl w.heap.size w) (Nat.le_refl _) _).trans (hb1.mono (by simp))
          have HB1 : Hid (Below B w w1) := Lib.hid (hb1'.mono hBw)
          have HC1 := Lib.hid (HCK.out.below hb1')
          have g0 := HC1.out.blk.cell 0
          have g1 := HC1.out.blk.cell 1
          have g2 := HC1.out.blk.cell 2
          have hgl1 := HC1.out.blk.lt
          simp at g0 g1 g2
          rw [← HQ.out] at g2
          clear hb1 hb1'
          go_wp2_with fail
          go_quiet (fail)
          go_wp2
          go_ret
          exact ⟨ret_int HE.out.symm, below_drewN HB1.out nq, fun h => by rw [HE.out] at h; cases h⟩
      · clear hor
        cases f2
        all_goals
          go_enter Tryz.func21, Tryz.ntmps21
          go_wp2_with fail
          refine (CS.out _ HV.out).mono ?_
          rintro e w1 ⟨rfl, hb1⟩
          have hs1 : w.heap.size < w1.heap.size := by have := hb1.size; simp at this; omega
          have c0 : w1.cell? ⟨w.heap.size, 0, none⟩ = some (.string _) := (hb1.cell (by simp)).trans (by simp; rfl)
          have c1 : w1.cell? ⟨w.heap.size, 1, none⟩ = some (.int .i64 _) := (hb1.cell (by simp)).trans (by simp; rfl)
          have c2 : w1.cell? ⟨w.heap.size, 2, none⟩ = some (.int .i64 _) := (hb1.cell (by simp)).trans (by simp; rfl)
          have c3 : w1.cell? ⟨w.heap.size, 3, none⟩ = some (.string _) := (hb1.cell (by simp)).trans (by simp; rfl)
          have c4 : w1.cell? ⟨w.heap.size, 4, none⟩ = some (.string _) := (hb1.cell (by simp)).trans (by simp; rfl)
          have hb1' := (Below.alloc (Below.refl w.heap.size w) (Nat.le_refl _) _).trans (hb1.mono (by simp))
          have HB1 : Hid (Below B w w1) := Lib.hid (hb1'.mono hBw)
          have HC1 := Lib.hid (HCK.out.below hb1')
          have g0 := HC1.out.blk.cell 0
          have g1 := HC1.out.blk.cell 1
          have g2 := HC1.out.blk.cell 2
          have hgl1 := HC1.out.blk.lt
          simp at g0 g1 g2
          rw [← HQ.out] at g2
          clear hb1 hb1'
          go_wp2_with fail
          go_quiet (fail)
          go_wp2
          go_ret
          exact ⟨ret_int HE.out.symm, below_drewN HB1.out nq, fun h => by rw [HE.out] at h; cases h⟩
  · have HE : Hid (E = r) := Lib.hid (by rw [hE, if_pos h0])
    have hne : (r != 0) = true := by simpa using h0
    have HN := Lib.hid h0
    clear hE h0 hqL
    go_enter Tryz.func21, Tryz.ntmps21
    go_wp2_with fail
    refine (CS.out _ HV.out).mono ?_
    rintro e w1 ⟨rfl, hb1⟩
    have hs1 : w.heap.size < w1.heap.size := by have := hb1.size; simp at this; omega
    have c0 : w1.cell? ⟨w.heap.size, 0, none⟩ = some (.string _) := (hb1.cell (by simp)).trans (by simp; rfl)
    have c1 : w1.cell? ⟨w.heap.size, 1, none⟩ = some (.int .i64 _) := (hb1.cell (by simp)).trans (by simp; rfl)
    have c2 : w1.cell? ⟨w.heap.size, 2, none⟩ = some (.int .i64 _) := (hb1.cell (by simp)).trans (by simp; rfl)
    have c3 : w1.cell? ⟨w.heap.size, 3, none⟩ = some (.string _) := (hb1.cell (by simp)).trans (by simp; rfl)
    have c4 : w1.cell? ⟨w.heap.size, 4, none⟩ = some (.string _) := (hb1.cell (by simp)).trans (by simp; rfl)
    have hb1' := (Below.alloc (Below.refl w.heap.size w) (Nat.le_refl _) _).trans (hb1.mono (by simp))
    have HB1 : Hid (Below B w w1) := Lib.hid (hb1'.mono hBw)
    have HC1 := Lib.hid (HCK.out.below hb1')
    have g0 := HC1.out.blk.cell 0
    have g1 := HC1.out.blk.cell 1
    have g2 := HC1.out.blk.cell 2
    have hgl1 := HC1.out.blk.lt
    simp at g0 g1 g2
    rw [← HQ.out] at g2
    clear hb1 hb1'
    go_wp2
    go_ret
    exact ⟨ret_int HE.out.symm, HB1.out, fun h => absurd (HE.out.symm.trans h) HN.out⟩
end Go.Proofs.YtmlgmedapbeleaaGreatDoor
