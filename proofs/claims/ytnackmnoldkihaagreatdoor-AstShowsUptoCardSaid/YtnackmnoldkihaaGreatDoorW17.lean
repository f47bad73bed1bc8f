/-
  The walk of the writer's redirs.
-/
import Derived.Test.YtnackmnoldkihaaGreatDoorW16
set_option linter.unusedVariables false
set_option linter.unusedSimpArgs false
namespace Go.Proofs.YtnackmnoldkihaaGreatDoor
open Go.RowKit

theorem infoRd : (Tryz.prog.info? 31).map (fun i => (i.zero, i.size, i.bytes)) = some (some (.agg #[.int .i64 0, .string ByteArray.empty, .string ByteArray.empty, .slice none 0 0]), 4, 64) := by kernel_rfl
theorem fd_digits (n : Int) (h0 : 0 ≤ n) (h9 : n ≤ 9) : Lib.decDigits n.toNat = fdL n := by
 obtain ⟨k, rfl⟩ : ∃ k : Nat, n = k := ⟨n.toNat, by omega⟩
 have hk : k ≤ 9 := by omega
 rw [fdL, Int.toNat_natCast]
 clear h0 h9
 revert k
 decide +kernel

/-- One here-document more. -/
theorem Shown.push {V W W2 : World} {B b : Nat} {dv dv1 : Value} {out : List UInt8} {ds : List DocV} {r : Rd} {d n : Nat} {a : Option Addr} {c : Nat} {g cap : Nat} (hf : Fr V W B b dv dv1) (hw : Wr W B b dv1 out ds) (hr : RdC W B d r [.int .i64 r.fd, .string r.op, .string r.tag, .slice a n c]) (hz : ds.length + 1 ≤ out.length)
 (hown : W2.ownsRow B 31 4 (.slice (some ⟨g, 0, none⟩) (ds.length + 1) cap) (ds.length + 1) (ds.flatMap docCells ++ [.int .i64 r.fd, .string r.op, .string r.tag, .slice a n c])) (hg : W.grownBy W2 dv1.ownBlock) (hl : dv1.ownBlock = some g ∨ W.heap.size ≤ g) :
 Shown V B b dv (out, ds.map (·.1) ++ [r]) (W2.setCell ⟨b, 2, none⟩ (.slice (some ⟨g, 0, none⟩) (ds.length + 1) cap)) := by
 have hb2 : Below B W W2 := (Below.refl B W).grown hg hw.le fun k hk => (hw.far k hk).1
 have hblk : W2.heap[b]? = W.heap[b]? := hg.block b hw.lt (fun e => hw.ne e.symm)
 have hw2 : Wr W2 B b dv1 out ds ∨ True := .inr trivial
 obtain ⟨hB, ⟨v, p, h1, h2, h3⟩, h4, h5, h6⟩ := hw
 have h1' : W2.heap[b]? = some (.cells #[p, v, dv1] 84 (0, 0)) := hblk.trans h1
 have h3' : OwnB W2 B v out := h3.kept hg (by
  rcases h4.2 with ⟨hd, _⟩ | ⟨g2, _, cur, hd, _, hg2, _⟩
  · rcases h3.2 with ⟨hv, _⟩ | ⟨g3, _, _, hv, _⟩
    · left; rw [hv]; rfl
    · right; rw [hv, hd]; simp [Value.ownBlock]
  · right; rw [hd]; exact row_ne h3 hg2 (by decide))
 have hown' : W2.ownsRow B 31 4 (.slice (some ⟨g, 0, none⟩) (ds.length + 1) cap) (ds ++ [((r, .slice a n c) : DocV)]).length ((ds ++ [((r, .slice a n c) : DocV)]).flatMap docCells) := by
  rw [List.length_append, List.flatMap_append]
  simpa [docCells] using hown
 have hst := (Below.refl B W2).setCell (p := ⟨b, 2, none⟩) hB (Value.slice (some ⟨g, 0, none⟩) (ds.length + 1) cap)
 refine ⟨_, ds ++ [(r, .slice a n c)], by simp, ⟨hB, ⟨v, p, heap_put h1' 2 _, h2, row_set h3' (row_ne h3' h1' (by decide)) 2 _⟩, row_set hown' (row_ne hown' h1' (by decide)) 2 _, fun x hx => ?_, by rw [List.length_append]; exact hz⟩, hf.trans ⟨hb2.trans hst, fun k o ho hb hd hu => ?_, fun k hk => ?_⟩⟩
 · rcases List.mem_append.1 hx with hx | hx
   · obtain ⟨d', hd'⟩ := h5 x hx
     exact ⟨d', hd'.keep fun _ _ _ _ hs => hs.below (hb2.trans hst)⟩
   · simp at hx
     subst hx
     exact ⟨d, hr.keep fun _ _ _ _ hs => hs.below (hb2.trans hst)⟩
 · rw [Below.heap_setCell _ _ _ _ hb, hg.block k (Array.getElem?_eq_some_iff.1 ho).1 (fun e => hd e.symm)]
   exact ho
 · simp [Value.ownBlock] at hk
   subst hk
   exact hl

theorem Wr.grown_docs {W W2 : World} {B b : Nat} {dv : Value} {out : List UInt8} {ds : List DocV} (h : Wr W B b dv out ds) (hg : W.grownBy W2 dv.ownBlock) : W2.cell? ⟨b, 2, none⟩ = some dv ∧ W2.frozen? ⟨b, 2, none⟩ = false := by
 obtain ⟨v, p, h1⟩ := h.block
 have h2 : W2.heap[b]? = some (.cells #[p, v, dv] 84 (0, 0)) := (hg.block b h.lt (fun e => h.ne e.symm)).trans h1
 exact ⟨by rw [Lib.cell_of_heap h2]; rfl, Lib.frozen_of_heap h2 2⟩
theorem litr_spell (b : Bool) : (bif b then true else false) = b := by cases b <;> rfl

set_option maxHeartbeats 4000000 in
set_option maxRecDepth 100000 in
theorem wredirs_any {d : Nat} {wd : St → List Pt → St} {fw : List Pt → Bool} (hwd : WordW d wd fw) (hg : Grow2 wd) {W : World} {B b : Nat} {dv : Value} {out : List UInt8} {ds : List DocV} (h : Wr W B b dv out ds) (hH : Hd W B) {l : List Rd} {v : Value} (hl : RdsIn W B d l v) (hf : l.all (redirF fw) = true) (bl : Bool) (hlen : (redirsS wd (stOf out ds) l bl).1.length ≤ lim) :
 Calls Tryz.prog 80 #[.pointer (some ⟨b, 0, none⟩), v, .bool bl] W fun e w' => e = .returned (.tuple #[]) ∧ Shown W B b dv (redirsS wd (stOf out ds) l bl) w' := by
 obtain ⟨a, cap, rfl, hz⟩ := hl.len
 obtain ⟨n, hn⟩ : ∃ n, l.length = n := ⟨_, rfl⟩
 rw [hn] at hl hz ⊢
 have HL := Lib.hid hl
 have HN := Lib.hid hn
 have HH := Lib.hid hH
 have HWD := Lib.hid hwd
 have HG := Lib.hid hg
 have HW := Lib.hid h
 have HFA := Lib.hid (List.all_eq_true.1 hf)
 have HLEN : Hid (∀ k, (redirsS wd (stOf out ds) (l.take k) bl).1.length ≤ lim) := Lib.hid fun k => Nat.le_trans (redirs_take_le hg l _ bl k) hlen
 clear hl hn hH hwd hg h hf hlen
 go_enter Tryz.func80, Tryz.ntmps80
 go_wp2_with fail
 go_loopw [2, 10] (fun t i U => ∃ (k : Nat) (q : Bool), k ≤ n ∧ i = .int .i64 k ∧ t = .bool q ∧ q = (bl || decide (0 < k)) ∧ Shown W B b dv (redirsS wd (stOf out ds) (l.take k) bl) U) (fun _ i _ => n - (intOf i).toNat)
 case atStart => exact ⟨0, bl, Nat.zero_le _, rfl, rfl, by simp, Shown.start HW.out⟩
 case round =>
  obtain ⟨k, q, hk, rfl, rfl, hq, hsh⟩ := hrel
  have HQ := Lib.hid hq
  obtain ⟨s, hs⟩ : ∃ s, redirsS wd (stOf out ds) (l.take k) bl = s := ⟨_, rfl⟩
  rw [hs] at hsh
  obtain ⟨dv1, ds1, hw1, hst, hf1⟩ := shown_st hsh
  have HS := Lib.hid hs
  have HW1 := Lib.hid hw1
  have HST := Lib.hid hst
  have HF1 := Lib.hid hf1
  have hB := hf1.low
  have hBW := HW.out.le
  have hHw := HH.out.below hB
  have HHW := Lib.hid hHw
  clear hsh hw1 hst hf1 hq hs hHw
  by_cases hlt : k < n
  · obtain ⟨x, hx⟩ : ∃ x, l[k]? = .some x := ⟨_, List.getElem?_eq_getElem (by rw [HN.out]; exact hlt)⟩
    have hl1 := HL.out.imp (fun xs hs => hs.below hB) (F' := RdC wr B d) fun x _ c h => h.keep fun _ _ _ _ hs => hs.below hB
    obtain ⟨b1, o, c, hi, hbB, hce, hC, _⟩ := hl1.at 32 31 Tryz.underlying32 (by kernel_rfl) hx
    have hfx := HFA.out x (List.mem_of_getElem? hx)
    rw [redirF, Bool.and_eq_true, Bool.and_eq_true, decide_eq_true_eq, decide_eq_true_eq] at hfx
    obtain ⟨⟨hfd0, hfd9⟩, hfw⟩ := hfx
    have HFW := Lib.hid hfw
    have HX : Hid (redirsS wd (stOf out ds) (l.take (k + 1)) bl = redirS wd (nextS s q) x) := Lib.hid (by
     rw [take_snoc' hx, redirs_snoc, HS.out, HQ.out, take_empty (by rw [HN.out]; exact hlt)])
    have HLX : Hid ((redirS wd (nextS s q) x).1.length ≤ lim) := Lib.hid (by rw [← HX.out]; exact HLEN.out (k + 1))
    have HC := Lib.hid hC
    obtain ⟨a1, c1, rfl, ⟨hz1, hz2⟩, _, hzw, hxw⟩ := hC.open
    have e0 := hce 0 _ rfl
    have e1 := hce 1 _ rfl
    have e2 := hce 2 _ rfl
    have e3 := hce 3 _ rfl
    have hbB' := Nat.lt_of_lt_of_le hbB HW1.out.le
    rw [Nat.add_zero] at e0
    -- the round's own world, the box made
    obtain ⟨X, hX⟩ : ∃ X, X = wr.alloc (.cells #[.int .i64 x.fd, .string x.op, .string x.tag, .slice a1 x.word.length c1] 31) := ⟨_, rfl⟩
    have HBX : Hid (Below wr.heap.size wr X) := Lib.hid (by rw [hX]; exact (Below.refl _ _).alloc (Nat.le_refl _) _)
    have HKX : Hid (Blk X wr.heap.size 31 #[.int .i64 x.fd, .string x.op, .string x.tag, .slice a1 x.word.length c1]) := Lib.hid (by rw [hX]; exact Blk.new _ _ _)
    have HXE := Lib.hid hX
    have hgX : wr.heap.size < X.heap.size := by rw [hX]; simp
    have HSX : Hid (Shown X B b dv1 s X) := Lib.hid (by have := Shown.start (HW1.out.below HBX.out); rwa [HST.out] at this)
    have HFX : Hid (Fr W X B b dv dv1) := Lib.hid (HF1.out.later HBX.out HW1.out.le)
    have hgb : wr.heap.size ≠ b := by have := HW1.out.lt; omega
    have HGD : Hid (dv1.ownBlock ≠ some wr.heap.size) := Lib.hid fun e => by have := HW1.out.far _ e; omega
    have HHX : Hid (Hd X B) := Lib.hid (HHW.out.below (HBX.out.mono HW1.out.le))
    have HXW : Hid (PtsIn X B d x.word (.slice a1 x.word.length c1)) := Lib.hid (hxw.below (HBX.out.mono HW1.out.le))
    have HCX : Hid (RdC X B d x [.int .i64 x.fd, .string x.op, .string x.tag, .slice a1 x.word.length c1]) := Lib.hid (HC.out.keep fun _ _ _ _ hs => hs.below (HBX.out.mono HW1.out.le))
    clear hx hce hC hl1 hX hxw hfw
    -- the parts of what is written
    have HRX : Hid (redirS wd (nextS s q) x = bif L x.op == [60, 60] then ((putS (putS (nextS s q) (fdL x.fd ++ L x.op)) (bif litrB x.word then 39 :: (L x.tag ++ [39]) else L x.tag)).1, (nextS s q).2 ++ [x]) else wd (putS (nextS s q) (fdL x.fd ++ L x.op)) x.word) := Lib.hid rfl
    have HZ2 : Hid ((putS (nextS s q) (fdL x.fd ++ L x.op)).1.length ≤ lim) := Lib.hid (by
     have h1 := HLX.out
     rw [HRX.out] at h1
     cases hc : L x.op == [60, 60] with
     | true => rw [hc] at h1; exact Nat.le_trans (putS_grow _ _) h1
     | false => rw [hc] at h1; exact Nat.le_trans (HG.out _ _) h1)
    have HZ1 : Hid ((nextS s q).1.length ≤ lim) := Lib.hid (Nat.le_trans (putS_grow _ _) HZ2.out)
    -- the blank
    have CI : Hid (∀ U, Calls Tryz.prog 105 #[.int .i64 x.fd] U fun e w' => e = .returned (.string (S (fdL x.fd))) ∧ U = w') := Lib.hid fun U => by
     have h1 := Tryz.strconv_Itoa_small x.fd.toNat (by omega) U
     rw [Int.toNat_of_nonneg hfd0, fd_digits _ hfd0 hfd9] at h1
     exact h1.mono fun e w' h => ⟨h.1, h.2.symm⟩
    obtain ⟨fs, hfs⟩ : ∃ f, f = S (fdL x.fd) := ⟨_, rfl⟩
    have hfz : fs.size = 1 := by rw [hfs]; rfl
    have HFS : Hid (L fs = fdL x.fd) := Lib.hid (by rw [hfs, L_S])
    rw [← hfs] at CI
    have k1 : ∀ V : World, (Op.stringOp .add fs x.op).run Tryz.prog V = .ok (.string (fs ++ x.op)) V := fun V => run_string_add_sum V _ _ (by omega)
    clear hfs
    have HS2 : Hid (∀ q', putS (nextS s q') (L (fs ++ x.op)) = putS (nextS s q') (fdL x.fd ++ L x.op)) := Lib.hid fun q' => by rw [L_append, HFS.out]
    cases hop : (L x.op == [60, 60]) with
    | false =>
      have eo : (x.op.toList == [60, 60]) = false := by rw [toList_L]; exact hop
      have HRE : Hid (redirS wd (nextS s q) x = wd (putS (nextS s q) (fdL x.fd ++ L x.op)) x.word) := Lib.hid (by rw [HRX.out, hop]; rfl)
      clear hop HRX
      cases q with
      | false =>
        have hsa : Shown X B b dv1 (nextS s false) X := HSX.out
        go_wp2_with fail
        rw [← HXE.out]
        -- X: the world behind the blank, what has been shown there, its cells
        have HSA := Lib.hid hsa
        have HKA := Lib.hid (hsa.blk HKX.out hgb HGD.out (by decide))
        clear hsa
        obtain ⟨y0, y1, y2, y3, yl⟩ := HKA.out.box4
        have CW : Hid (∀ U u, Below (X).heap.size X U → (nextS s false).1.length + u.size ≤ lim → Calls Tryz.prog 78 #[.pointer (some ⟨b, 0, none⟩), .string u] U fun e w' => e = .returned (.tuple #[.int .i64 u.size, .nilIface]) ∧ Shown X B b dv1 (putS (nextS s false) (L u)) w' ∧ Blk w' wr.heap.size 31 #[.int .i64 x.fd, .string x.op, .string x.tag, .slice a1 x.word.length c1]) := Lib.hid fun U u hU hu =>
         (HSA.out.str hU u hu).mono fun e w' ⟨g1, g2⟩ => ⟨g1, g2, g2.blk HKX.out hgb HGD.out (by decide)⟩
        go_wp2_with fail
        go_region_held3 (fun w' => w'.cell? ⟨wr.heap.size, 0, none⟩ = some (.int .i64 x.fd) ∧ w'.cell? ⟨wr.heap.size, 1, none⟩ = some (.string x.op)) (go_keep)
         (first
          | (go_at_call 105; with_reducible refine (CI.out _).mono ?_; rintro e w2 ⟨rfl, rfl⟩)
          | (go_at_call 78; with_reducible refine (CW.out _ _ bg ?_).mono ?_; (have := HZ2.out; rw [putS] at this; simp [L_size] at this ⊢; have hq1 : (fdL x.fd).length = 1 := rfl; omega); rintro e w3 ⟨rfl, hs3, hk3⟩; have d0 := hk3.cell 0; have d1 := hk3.cell 1; simp at d0 d1))
        all_goals
         rw [HS2.out] at hs3
         have CWD := Lib.hid (hs3.word HWD.out (Below.refl _ _) HHX.out HXW.out HFW.out (by rw [← HRE.out]; exact HLX.out))
         have y1' := hk3.cell 1
         have y3' := hk3.cell 3
         simp at y1' y3'
         clear hs3 hk3
         go_wp2_with fail
         refine CWD.out.mono ?_
         rintro e w4 ⟨rfl, hs4⟩
         have HSE : Hid (Shown X B b dv1 (redirS wd (nextS s false) x) w4) := Lib.hid (by rw [HRE.out]; exact hs4)
         clear hs4
         go_wp2_with fail
         go_roundw
         case rel => exact ⟨k + 1, true, by omega, by go_num, rfl, by simp, by rw [HX.out]; exact Shown.after HFX.out HSE.out⟩
         case measure => simp [intOf]; omega
      | true =>
        have CB := Lib.hid (HSX.out.byte (Below.refl _ _) 32 (by have := HZ1.out; simpa [nextS, putS] using this))
        go_wp2_with fail
        rw [← HXE.out]
        refine CB.out.mono ?_
        rintro e w2 ⟨rfl, hsa⟩
        -- w2: the world behind the blank, what has been shown there, its cells
        have HSA := Lib.hid hsa
        have HKA := Lib.hid (hsa.blk HKX.out hgb HGD.out (by decide))
        clear hsa
        obtain ⟨y0, y1, y2, y3, yl⟩ := HKA.out.box4
        have CW : Hid (∀ U u, Below (w2).heap.size w2 U → (nextS s true).1.length + u.size ≤ lim → Calls Tryz.prog 78 #[.pointer (some ⟨b, 0, none⟩), .string u] U fun e w' => e = .returned (.tuple #[.int .i64 u.size, .nilIface]) ∧ Shown X B b dv1 (putS (nextS s true) (L u)) w' ∧ Blk w' wr.heap.size 31 #[.int .i64 x.fd, .string x.op, .string x.tag, .slice a1 x.word.length c1]) := Lib.hid fun U u hU hu =>
         (HSA.out.str hU u hu).mono fun e w' ⟨g1, g2⟩ => ⟨g1, g2, g2.blk HKX.out hgb HGD.out (by decide)⟩
        go_wp2_with fail
        go_region_held3 (fun w' => w'.cell? ⟨wr.heap.size, 0, none⟩ = some (.int .i64 x.fd) ∧ w'.cell? ⟨wr.heap.size, 1, none⟩ = some (.string x.op)) (go_keep)
         (first
          | (go_at_call 105; with_reducible refine (CI.out _).mono ?_; rintro e w2 ⟨rfl, rfl⟩)
          | (go_at_call 78; with_reducible refine (CW.out _ _ bg ?_).mono ?_; (have := HZ2.out; rw [putS] at this; simp [L_size] at this ⊢; have hq1 : (fdL x.fd).length = 1 := rfl; omega); rintro e w3 ⟨rfl, hs3, hk3⟩; have d0 := hk3.cell 0; have d1 := hk3.cell 1; simp at d0 d1))
        all_goals
         rw [HS2.out] at hs3
         have CWD := Lib.hid (hs3.word HWD.out (Below.refl _ _) HHX.out HXW.out HFW.out (by rw [← HRE.out]; exact HLX.out))
         have y1' := hk3.cell 1
         have y3' := hk3.cell 3
         simp at y1' y3'
         clear hs3 hk3
         go_wp2_with fail
         refine CWD.out.mono ?_
         rintro e w4 ⟨rfl, hs4⟩
         have HSE : Hid (Shown X B b dv1 (redirS wd (nextS s true) x) w4) := Lib.hid (by rw [HRE.out]; exact hs4)
         clear hs4
         go_wp2_with fail
         go_roundw
         case rel => exact ⟨k + 1, true, by omega, by go_num, rfl, by simp, by rw [HX.out]; exact Shown.after HFX.out HSE.out⟩
         case measure => simp [intOf]; omega
    | true =>
      have eo : (x.op.toList == [60, 60]) = true := by rw [toList_L]; exact hop
      have HRE : Hid (redirS wd (nextS s q) x = ((putS (putS (nextS s q) (fdL x.fd ++ L x.op)) (bif litrB x.word then 39 :: (L x.tag ++ [39]) else L x.tag)).1, (nextS s q).2 ++ [x])) := Lib.hid (by rw [HRX.out, hop]; rfl)
      have hol : x.op.size = 2 := by rw [← L_size, eq_of_beq hop]; rfl
      clear hop HRX
      have HZ3 : Hid (∀ q', q' = q → (putS (putS (nextS s q') (fdL x.fd ++ L x.op)) (bif litrB x.word then 39 :: (L x.tag ++ [39]) else L x.tag)).1.length ≤ lim) := Lib.hid fun q' e => by
       have h1 := HLX.out
       rw [HRE.out] at h1
       rw [e]; exact h1
      have CLt : Hid (∀ U, Below B X U → B ≤ U.heap.size → Calls Tryz.prog 15 #[.agg #[.int .i64 x.fd, .string x.op, .string x.tag, .slice a1 x.word.length c1]] U fun e w' => e = .returned (.bool (litrB x.word)) ∧ Below U.heap.size U w') := Lib.hid fun U hU hB => literal_any x U d _ (HCX.out.keep fun _ _ _ _ hs => (hs.below hU).mono hB)
      obtain ⟨lt, hlt0⟩ : ∃ b, litrB x.word = b := ⟨_, rfl⟩
      rw [hlt0] at CLt HRE HZ3
      clear hlt0
      have k2 : ∀ V : World, (Op.stringOp .add (⟨#[39]⟩ : ByteArray) x.tag).run Tryz.prog V = .ok (.string ((⟨#[39]⟩ : ByteArray) ++ x.tag)) V := fun V => run_string_add_sum V _ _ (by simp; omega)
      have k3 : ∀ V : World, (Op.stringOp .add ((⟨#[39]⟩ : ByteArray) ++ x.tag) ⟨#[39]⟩).run Tryz.prog V = .ok (.string (((⟨#[39]⟩ : ByteArray) ++ x.tag) ++ ⟨#[39]⟩)) V := fun V => run_string_add_sum V _ _ (by simp; omega)
      have HSD : Hid (s.2.length ≤ s.1.length) := Lib.hid (by have h1 := HW1.out.2.2.2.2; have h2 := congrArg (fun z : St => z.2.length) HST.out; simp only [stOf, List.length_map] at h2; omega)
      cases q with
      | false =>
        have hsa : Shown X B b dv1 (nextS s false) X := HSX.out
        go_wp2_with fail
        rw [← HXE.out]
        -- X: the world behind the blank, what has been shown there, its cells
        have HSA := Lib.hid hsa
        have HKA := Lib.hid (hsa.blk HKX.out hgb HGD.out (by decide))
        clear hsa
        obtain ⟨y0, y1, y2, y3, yl⟩ := HKA.out.box4
        have CW : Hid (∀ U u, Below (X).heap.size X U → (nextS s false).1.length + u.size ≤ lim → Calls Tryz.prog 78 #[.pointer (some ⟨b, 0, none⟩), .string u] U fun e w' => e = .returned (.tuple #[.int .i64 u.size, .nilIface]) ∧ Shown X B b dv1 (putS (nextS s false) (L u)) w' ∧ Blk w' wr.heap.size 31 #[.int .i64 x.fd, .string x.op, .string x.tag, .slice a1 x.word.length c1]) := Lib.hid fun U u hU hu =>
         (HSA.out.str hU u hu).mono fun e w' ⟨g1, g2⟩ => ⟨g1, g2, g2.blk HKX.out hgb HGD.out (by decide)⟩
        go_wp2_with fail
        go_region_held3 (fun w' => w'.cell? ⟨wr.heap.size, 0, none⟩ = some (.int .i64 x.fd) ∧ w'.cell? ⟨wr.heap.size, 1, none⟩ = some (.string x.op)) (go_keep)
         (first
          | (go_at_call 105; with_reducible refine (CI.out _).mono ?_; rintro e w2 ⟨rfl, rfl⟩)
          | (go_at_call 78; with_reducible refine (CW.out _ _ bg ?_).mono ?_; (have := HZ2.out; rw [putS] at this; simp [L_size] at this ⊢; have hq1 : (fdL x.fd).length = 1 := rfl; omega); rintro e w3 ⟨rfl, hs3, hk3⟩; have d0 := hk3.cell 0; have d1 := hk3.cell 1; simp at d0 d1))
        all_goals
         rw [HS2.out] at hs3
         have CL3 := Lib.hid (CLt.out w3 hs3.low hs3.le)
         have HS3 := Lib.hid hs3
         have HK3 := Lib.hid hk3
         clear d0 d1 hs3 hk3 y0 y1 y2 y3 yl
         obtain ⟨z0, z1, z2, z3, zl⟩ := HK3.out.box4
         go_wp2_with fail
         refine CL3.out.mono ?_
         rintro e w4 ⟨rfl, hb4⟩
         have HS4 := Lib.hid (HS3.out.later hb4)
         have HK4 := Lib.hid (HK3.out.below hb4 HK3.out.lt)
         clear hb4 z0 z1 z2 z3 zl CL3
         obtain ⟨z0, z1, z2, z3, zl⟩ := HK4.out.box4
         cases lt with
         | true =>
           go_wp2_with fail
           go_still_tail 7, (by kernel_rfl)
           go_wp2_with fail
           refine (HS4.out.str bg _ (by have := HZ3.out false rfl; simp [putS, L_size] at this ⊢; have hq1 : (fdL x.fd).length = 1 := rfl; omega)).mono ?_
           rintro e w5 ⟨rfl, hs5⟩
           have hs5 : Shown X B b dv1 (putS (putS (nextS s false) (fdL x.fd ++ L x.op)) (39 :: (L x.tag ++ [39]))) w5 := by simpa [L_append] using hs5
           clear z0 z1 z2 z3 zl
           -- behind the tag: w5, hs5
           have HK5 := Lib.hid (hs5.blk HKX.out hgb HGD.out (by decide))
           obtain ⟨dv2, ds2, hw5, hst5, hf5⟩ := shown_st hs5
           have hlow5 := hs5.low
           obtain ⟨da, dc, rfl⟩ := hw5.shape
           obtain ⟨n2, hn2⟩ : ∃ n, ds2.length = n := ⟨_, rfl⟩
           obtain ⟨o5, ho5⟩ : ∃ o, (putS (putS (nextS s false) (fdL x.fd ++ L x.op)) (39 :: (L x.tag ++ [39]))).1 = o := ⟨_, rfl⟩
           have hn2o : n2 + 1 ≤ o5.length := by
            have h1 := hst5
            have h2 : n2 ≤ (nextS s false).1.length := by
             have e1 := congrArg (fun z : St => z.2.length) h1
             have e2 : (nextS s false).2 = s.2 := rfl
             have e3 := HSD.out
             have e4 := nextS_grow s false
             simp only [stOf, putS, List.length_map, e2] at e1
             omega
            have h3 : o5.length = (nextS s false).1.length + 3 + (39 :: (L x.tag ++ [39])).length := by rw [← ho5]; simp [putS, L_size, hol, fdL]; omega
            omega
           have hlim5 : o5.length ≤ lim := by rw [← ho5]; have := HZ3.out false rfl; simpa using this
           unfold lim at hlim5
           rw [ho5] at hw5 hst5
           have HST5 : Hid (ds2.map (·.1) = (nextS s false).2) := Lib.hid (by have := congrArg Prod.snd hst5; simpa [stOf, putS] using this)
           rw [hn2] at hw5 hf5
           have HN2 := Lib.hid hn2
           have HO5 := Lib.hid ho5
           obtain ⟨cdoc, fdoc⟩ := hw5.docs
           have hb5 := hw5.lt
           have hle5 := hw5.le
           have HOW := Lib.hid hw5.2.2.1
           rw [hn2] at HOW
           have HW5 := Lib.hid hw5
           have HF5 := Lib.hid hf5
           have HC5 : Hid (RdC w5 B d x [.int .i64 x.fd, .string x.op, .string x.tag, .slice a1 x.word.length c1]) := Lib.hid (HCX.out.keep fun _ _ _ _ hs => hs.below hlow5)
           have z0 := HK5.out.cell 0
           have z1 := HK5.out.cell 1
           have z2 := HK5.out.cell 2
           have z3 := HK5.out.cell 3
           have zl := HK5.out.lt
           simp at z0 z1 z2 z3
           clear hs5 hw5 hf5 hst5 hn2 ho5 hlow5
           go_wp2_with fail
           go_region_law (refine step_append_sl rfl _ _ 32 rfl B 31 Tryz.underlying32 infoRd rfl (by decide) (v := .slice da n2 dc) (n := n2) (xs := ds2.flatMap docCells) rfl (by first | exact (own_below HOW.out (Below.drew (Below.refl _ _))).alloc _ | exact own_below (HOW.out.alloc _) (Below.drew (Below.refl _ _))) (m := 1) (news := [.int .i64 x.fd, .string x.op, .string x.tag, .slice a1 x.word.length c1]) rfl (sl_made_at _ #[.int .i64 x.fd, .string x.op, .string x.tag, .slice a1 x.word.length c1] _ 1 4 rfl (by unfold maxLen; omega) (by simp)) (by omega) (by intro u hu; simp at hu; rcases hu with rfl | rfl | rfl | rfl <;> rfl) (by omega) (by simp; omega) ?_; intro g1 cap1 w6 hown hgrow hlie hglt; have hg6 : (w5.alloc (.cells #[.int .i64 x.fd, .string x.op, .string x.tag, .slice a1 x.word.length c1] 31)).grownBy w6 (Value.slice da n2 dc).ownBlock := ⟨hgrow.os, hgrow.tape, hgrow.output, hgrow.size, hgrow.block⟩; have HP6 := Lib.hid (Shown.push ((HF5.out.later ((Below.refl _ _).alloc (Nat.le_refl _) _) hle5)) (HW5.out.below ((Below.refl _ _).alloc (Nat.le_refl _) _)) (HC5.out.keep fun _ _ _ _ hs => hs.below ((Below.refl _ _).alloc hle5 _)) (by rw [HN2.out]; exact hn2o) (by rw [HN2.out]; exact hown) hg6 (hlie.imp id fun e => by rw [e]; simp)); have hcf6 := (HW5.out.below ((Below.refl _ _).alloc (Nat.le_refl _) _)).grown_docs hg6; have c6 := hcf6.1; have f6 := hcf6.2; clear hcf6 hown hgrow hlie hg6)
           all_goals
            have HSE : Hid (Shown X B b dv1 (redirS wd (nextS s false) x) _) := Lib.hid (by
             rw [HRE.out]
             have h1 := HP6.out
             rw [HN2.out, HST5.out, ← HO5.out] at h1
             exact h1)
            go_wp2_with fail
            go_roundw
            case rel => exact ⟨k + 1, true, by omega, by go_num, rfl, by simp, by rw [HX.out]; exact Shown.after HFX.out HSE.out⟩
            case measure => simp [intOf]; omega
         | false =>
           go_wp2_with fail
           go_still_tail 5, (by kernel_rfl)
           go_wp2_with fail
           refine (HS4.out.str bg _ (by have := HZ3.out false rfl; simp [putS, L_size] at this ⊢; have hq1 : (fdL x.fd).length = 1 := rfl; omega)).mono ?_
           rintro e w5 ⟨rfl, hs5⟩
           clear z0 z1 z2 z3 zl
           -- behind the tag: w5, hs5
           have HK5 := Lib.hid (hs5.blk HKX.out hgb HGD.out (by decide))
           obtain ⟨dv2, ds2, hw5, hst5, hf5⟩ := shown_st hs5
           have hlow5 := hs5.low
           obtain ⟨da, dc, rfl⟩ := hw5.shape
           obtain ⟨n2, hn2⟩ : ∃ n, ds2.length = n := ⟨_, rfl⟩
           obtain ⟨o5, ho5⟩ : ∃ o, (putS (putS (nextS s false) (fdL x.fd ++ L x.op)) (L x.tag)).1 = o := ⟨_, rfl⟩
           have hn2o : n2 + 1 ≤ o5.length := by
            have h1 := hst5
            have h2 : n2 ≤ (nextS s false).1.length := by
             have e1 := congrArg (fun z : St => z.2.length) h1
             have e2 : (nextS s false).2 = s.2 := rfl
             have e3 := HSD.out
             have e4 := nextS_grow s false
             simp only [stOf, putS, List.length_map, e2] at e1
             omega
            have h3 : o5.length = (nextS s false).1.length + 3 + (L x.tag).length := by rw [← ho5]; simp [putS, L_size, hol, fdL]; omega
            omega
           have hlim5 : o5.length ≤ lim := by rw [← ho5]; have := HZ3.out false rfl; simpa using this
           unfold lim at hlim5
           rw [ho5] at hw5 hst5
           have HST5 : Hid (ds2.map (·.1) = (nextS s false).2) := Lib.hid (by have := congrArg Prod.snd hst5; simpa [stOf, putS] using this)
           rw [hn2] at hw5 hf5
           have HN2 := Lib.hid hn2
           have HO5 := Lib.hid ho5
           obtain ⟨cdoc, fdoc⟩ := hw5.docs
           have hb5 := hw5.lt
           have hle5 := hw5.le
           have HOW := Lib.hid hw5.2.2.1
           rw [hn2] at HOW
           have HW5 := Lib.hid hw5
           have HF5 := Lib.hid hf5
           have HC5 : Hid (RdC w5 B d x [.int .i64 x.fd, .string x.op, .string x.tag, .slice a1 x.word.length c1]) := Lib.hid (HCX.out.keep fun _ _ _ _ hs => hs.below hlow5)
           have z0 := HK5.out.cell 0
           have z1 := HK5.out.cell 1
           have z2 := HK5.out.cell 2
           have z3 := HK5.out.cell 3
           have zl := HK5.out.lt
           simp at z0 z1 z2 z3
           clear hs5 hw5 hf5 hst5 hn2 ho5 hlow5
           go_wp2_with fail
           go_region_law (refine step_append_sl rfl _ _ 32 rfl B 31 Tryz.underlying32 infoRd rfl (by decide) (v := .slice da n2 dc) (n := n2) (xs := ds2.flatMap docCells) rfl (by first | exact (own_below HOW.out (Below.drew (Below.refl _ _))).alloc _ | exact own_below (HOW.out.alloc _) (Below.drew (Below.refl _ _))) (m := 1) (news := [.int .i64 x.fd, .string x.op, .string x.tag, .slice a1 x.word.length c1]) rfl (sl_made_at _ #[.int .i64 x.fd, .string x.op, .string x.tag, .slice a1 x.word.length c1] _ 1 4 rfl (by unfold maxLen; omega) (by simp)) (by omega) (by intro u hu; simp at hu; rcases hu with rfl | rfl | rfl | rfl <;> rfl) (by omega) (by simp; omega) ?_; intro g1 cap1 w6 hown hgrow hlie hglt; have hg6 : (w5.alloc (.cells #[.int .i64 x.fd, .string x.op, .string x.tag, .slice a1 x.word.length c1] 31)).grownBy w6 (Value.slice da n2 dc).ownBlock := ⟨hgrow.os, hgrow.tape, hgrow.output, hgrow.size, hgrow.block⟩; have HP6 := Lib.hid (Shown.push ((HF5.out.later ((Below.refl _ _).alloc (Nat.le_refl _) _) hle5)) (HW5.out.below ((Below.refl _ _).alloc (Nat.le_refl _) _)) (HC5.out.keep fun _ _ _ _ hs => hs.below ((Below.refl _ _).alloc hle5 _)) (by rw [HN2.out]; exact hn2o) (by rw [HN2.out]; exact hown) hg6 (hlie.imp id fun e => by rw [e]; simp)); have hcf6 := (HW5.out.below ((Below.refl _ _).alloc (Nat.le_refl _) _)).grown_docs hg6; have c6 := hcf6.1; have f6 := hcf6.2; clear hcf6 hown hgrow hlie hg6)
           all_goals
            have HSE : Hid (Shown X B b dv1 (redirS wd (nextS s false) x) _) := Lib.hid (by
             rw [HRE.out]
             have h1 := HP6.out
             rw [HN2.out, HST5.out, ← HO5.out] at h1
             exact h1)
            go_wp2_with fail
            go_roundw
            case rel => exact ⟨k + 1, true, by omega, by go_num, rfl, by simp, by rw [HX.out]; exact Shown.after HFX.out HSE.out⟩
            case measure => simp [intOf]; omega
      | true =>
        have CB := Lib.hid (HSX.out.byte (Below.refl _ _) 32 (by have := HZ1.out; simpa [nextS, putS] using this))
        go_wp2_with fail
        rw [← HXE.out]
        refine CB.out.mono ?_
        rintro e w2 ⟨rfl, hsa⟩
        -- w2: the world behind the blank, what has been shown there, its cells
        have HSA := Lib.hid hsa
        have HKA := Lib.hid (hsa.blk HKX.out hgb HGD.out (by decide))
        clear hsa
        obtain ⟨y0, y1, y2, y3, yl⟩ := HKA.out.box4
        have CW : Hid (∀ U u, Below (w2).heap.size w2 U → (nextS s true).1.length + u.size ≤ lim → Calls Tryz.prog 78 #[.pointer (some ⟨b, 0, none⟩), .string u] U fun e w' => e = .returned (.tuple #[.int .i64 u.size, .nilIface]) ∧ Shown X B b dv1 (putS (nextS s true) (L u)) w' ∧ Blk w' wr.heap.size 31 #[.int .i64 x.fd, .string x.op, .string x.tag, .slice a1 x.word.length c1]) := Lib.hid fun U u hU hu =>
         (HSA.out.str hU u hu).mono fun e w' ⟨g1, g2⟩ => ⟨g1, g2, g2.blk HKX.out hgb HGD.out (by decide)⟩
        go_wp2_with fail
        go_region_held3 (fun w' => w'.cell? ⟨wr.heap.size, 0, none⟩ = some (.int .i64 x.fd) ∧ w'.cell? ⟨wr.heap.size, 1, none⟩ = some (.string x.op)) (go_keep)
         (first
          | (go_at_call 105; with_reducible refine (CI.out _).mono ?_; rintro e w2 ⟨rfl, rfl⟩)
          | (go_at_call 78; with_reducible refine (CW.out _ _ bg ?_).mono ?_; (have := HZ2.out; rw [putS] at this; simp [L_size] at this ⊢; have hq1 : (fdL x.fd).length = 1 := rfl; omega); rintro e w3 ⟨rfl, hs3, hk3⟩; have d0 := hk3.cell 0; have d1 := hk3.cell 1; simp at d0 d1))
        all_goals
         rw [HS2.out] at hs3
         have CL3 := Lib.hid (CLt.out w3 hs3.low hs3.le)
         have HS3 := Lib.hid hs3
         have HK3 := Lib.hid hk3
         clear d0 d1 hs3 hk3 y0 y1 y2 y3 yl
         obtain ⟨z0, z1, z2, z3, zl⟩ := HK3.out.box4
         go_wp2_with fail
         refine CL3.out.mono ?_
         rintro e w4 ⟨rfl, hb4⟩
         have HS4 := Lib.hid (HS3.out.later hb4)
         have HK4 := Lib.hid (HK3.out.below hb4 HK3.out.lt)
         clear hb4 z0 z1 z2 z3 zl CL3
         obtain ⟨z0, z1, z2, z3, zl⟩ := HK4.out.box4
         cases lt with
         | true =>
           go_wp2_with fail
           go_still_tail 7, (by kernel_rfl)
           go_wp2_with fail
           refine (HS4.out.str bg _ (by have := HZ3.out true rfl; simp [putS, L_size] at this ⊢; have hq1 : (fdL x.fd).length = 1 := rfl; omega)).mono ?_
           rintro e w5 ⟨rfl, hs5⟩
           have hs5 : Shown X B b dv1 (putS (putS (nextS s true) (fdL x.fd ++ L x.op)) (39 :: (L x.tag ++ [39]))) w5 := by simpa [L_append] using hs5
           clear z0 z1 z2 z3 zl
           -- behind the tag: w5, hs5
           have HK5 := Lib.hid (hs5.blk HKX.out hgb HGD.out (by decide))
           obtain ⟨dv2, ds2, hw5, hst5, hf5⟩ := shown_st hs5
           have hlow5 := hs5.low
           obtain ⟨da, dc, rfl⟩ := hw5.shape
           obtain ⟨n2, hn2⟩ : ∃ n, ds2.length = n := ⟨_, rfl⟩
           obtain ⟨o5, ho5⟩ : ∃ o, (putS (putS (nextS s true) (fdL x.fd ++ L x.op)) (39 :: (L x.tag ++ [39]))).1 = o := ⟨_, rfl⟩
           have hn2o : n2 + 1 ≤ o5.length := by
            have h1 := hst5
            have h2 : n2 ≤ (nextS s true).1.length := by
             have e1 := congrArg (fun z : St => z.2.length) h1
             have e2 : (nextS s true).2 = s.2 := rfl
             have e3 := HSD.out
             have e4 := nextS_grow s true
             simp only [stOf, putS, List.length_map, e2] at e1
             omega
            have h3 : o5.length = (nextS s true).1.length + 3 + (39 :: (L x.tag ++ [39])).length := by rw [← ho5]; simp [putS, L_size, hol, fdL]; omega
            omega
           have hlim5 : o5.length ≤ lim := by rw [← ho5]; have := HZ3.out true rfl; simpa using this
           unfold lim at hlim5
           rw [ho5] at hw5 hst5
           have HST5 : Hid (ds2.map (·.1) = (nextS s true).2) := Lib.hid (by have := congrArg Prod.snd hst5; simpa [stOf, putS] using this)
           rw [hn2] at hw5 hf5
           have HN2 := Lib.hid hn2
           have HO5 := Lib.hid ho5
           obtain ⟨cdoc, fdoc⟩ := hw5.docs
           have hb5 := hw5.lt
           have hle5 := hw5.le
           have HOW := Lib.hid hw5.2.2.1
           rw [hn2] at HOW
           have HW5 := Lib.hid hw5
           have HF5 := Lib.hid hf5
           have HC5 : Hid (RdC w5 B d x [.int .i64 x.fd, .string x.op, .string x.tag, .slice a1 x.word.length c1]) := Lib.hid (HCX.out.keep fun _ _ _ _ hs => hs.below hlow5)
           have z0 := HK5.out.cell 0
           have z1 := HK5.out.cell 1
           have z2 := HK5.out.cell 2
           have z3 := HK5.out.cell 3
           have zl := HK5.out.lt
           simp at z0 z1 z2 z3
           clear hs5 hw5 hf5 hst5 hn2 ho5 hlow5
           go_wp2_with fail
           go_region_law (refine step_append_sl rfl _ _ 32 rfl B 31 Tryz.underlying32 infoRd rfl (by decide) (v := .slice da n2 dc) (n := n2) (xs := ds2.flatMap docCells) rfl (by first | exact (own_below HOW.out (Below.drew (Below.refl _ _))).alloc _ | exact own_below (HOW.out.alloc _) (Below.drew (Below.refl _ _))) (m := 1) (news := [.int .i64 x.fd, .string x.op, .string x.tag, .slice a1 x.word.length c1]) rfl (sl_made_at _ #[.int .i64 x.fd, .string x.op, .string x.tag, .slice a1 x.word.length c1] _ 1 4 rfl (by unfold maxLen; omega) (by simp)) (by omega) (by intro u hu; simp at hu; rcases hu with rfl | rfl | rfl | rfl <;> rfl) (by omega) (by simp; omega) ?_; intro g1 cap1 w6 hown hgrow hlie hglt; have hg6 : (w5.alloc (.cells #[.int .i64 x.fd, .string x.op, .string x.tag, .slice a1 x.word.length c1] 31)).grownBy w6 (Value.slice da n2 dc).ownBlock := ⟨hgrow.os, hgrow.tape, hgrow.output, hgrow.size, hgrow.block⟩; have HP6 := Lib.hid (Shown.push ((HF5.out.later ((Below.refl _ _).alloc (Nat.le_refl _) _) hle5)) (HW5.out.below ((Below.refl _ _).alloc (Nat.le_refl _) _)) (HC5.out.keep fun _ _ _ _ hs => hs.below ((Below.refl _ _).alloc hle5 _)) (by rw [HN2.out]; exact hn2o) (by rw [HN2.out]; exact hown) hg6 (hlie.imp id fun e => by rw [e]; simp)); have hcf6 := (HW5.out.below ((Below.refl _ _).alloc (Nat.le_refl _) _)).grown_docs hg6; have c6 := hcf6.1; have f6 := hcf6.2; clear hcf6 hown hgrow hlie hg6)
           all_goals
            have HSE : Hid (Shown X B b dv1 (redirS wd (nextS s true) x) _) := Lib.hid (by
             rw [HRE.out]
             have h1 := HP6.out
             rw [HN2.out, HST5.out, ← HO5.out] at h1
             exact h1)
            go_wp2_with fail
            go_roundw
            case rel => exact ⟨k + 1, true, by omega, by go_num, rfl, by simp, by rw [HX.out]; exact Shown.after HFX.out HSE.out⟩
            case measure => simp [intOf]; omega
         | false =>
           go_wp2_with fail
           go_still_tail 5, (by kernel_rfl)
           go_wp2_with fail
           refine (HS4.out.str bg _ (by have := HZ3.out true rfl; simp [putS, L_size] at this ⊢; have hq1 : (fdL x.fd).length = 1 := rfl; omega)).mono ?_
           rintro e w5 ⟨rfl, hs5⟩
           clear z0 z1 z2 z3 zl
           -- behind the tag: w5, hs5
           have HK5 := Lib.hid (hs5.blk HKX.out hgb HGD.out (by decide))
           obtain ⟨dv2, ds2, hw5, hst5, hf5⟩ := shown_st hs5
           have hlow5 := hs5.low
           obtain ⟨da, dc, rfl⟩ := hw5.shape
           obtain ⟨n2, hn2⟩ : ∃ n, ds2.length = n := ⟨_, rfl⟩
           obtain ⟨o5, ho5⟩ : ∃ o, (putS (putS (nextS s true) (fdL x.fd ++ L x.op)) (L x.tag)).1 = o := ⟨_, rfl⟩
           have hn2o : n2 + 1 ≤ o5.length := by
            have h1 := hst5
            have h2 : n2 ≤ (nextS s true).1.length := by
             have e1 := congrArg (fun z : St => z.2.length) h1
             have e2 : (nextS s true).2 = s.2 := rfl
             have e3 := HSD.out
             have e4 := nextS_grow s true
             simp only [stOf, putS, List.length_map, e2] at e1
             omega
            have h3 : o5.length = (nextS s true).1.length + 3 + (L x.tag).length := by rw [← ho5]; simp [putS, L_size, hol, fdL]; omega
            omega
           have hlim5 : o5.length ≤ lim := by rw [← ho5]; have := HZ3.out true rfl; simpa using this
           unfold lim at hlim5
           rw [ho5] at hw5 hst5
           have HST5 : Hid (ds2.map (·.1) = (nextS s true).2) := Lib.hid (by have := congrArg Prod.snd hst5; simpa [stOf, putS] using this)
           rw [hn2] at hw5 hf5
           have HN2 := Lib.hid hn2
           have HO5 := Lib.hid ho5
           obtain ⟨cdoc, fdoc⟩ := hw5.docs
           have hb5 := hw5.lt
           have hle5 := hw5.le
           have HOW := Lib.hid hw5.2.2.1
           rw [hn2] at HOW
           have HW5 := Lib.hid hw5
           have HF5 := Lib.hid hf5
           have HC5 : Hid (RdC w5 B d x [.int .i64 x.fd, .string x.op, .string x.tag, .slice a1 x.word.length c1]) := Lib.hid (HCX.out.keep fun _ _ _ _ hs => hs.below hlow5)
           have z0 := HK5.out.cell 0
           have z1 := HK5.out.cell 1
           have z2 := HK5.out.cell 2
           have z3 := HK5.out.cell 3
           have zl := HK5.out.lt
           simp at z0 z1 z2 z3
           clear hs5 hw5 hf5 hst5 hn2 ho5 hlow5
           go_wp2_with fail
           go_region_law (refine step_append_sl rfl _ _ 32 rfl B 31 Tryz.underlying32 infoRd rfl (by decide) (v := .slice da n2 dc) (n := n2) (xs := ds2.flatMap docCells) rfl (by first | exact (own_below HOW.out (Below.drew (Below.refl _ _))).alloc _ | exact own_below (HOW.out.alloc _) (Below.drew (Below.refl _ _))) (m := 1) (news := [.int .i64 x.fd, .string x.op, .string x.tag, .slice a1 x.word.length c1]) rfl (sl_made_at _ #[.int .i64 x.fd, .string x.op, .string x.tag, .slice a1 x.word.length c1] _ 1 4 rfl (by unfold maxLen; omega) (by simp)) (by omega) (by intro u hu; simp at hu; rcases hu with rfl | rfl | rfl | rfl <;> rfl) (by omega) (by simp; omega) ?_; intro g1 cap1 w6 hown hgrow hlie hglt; have hg6 : (w5.alloc (.cells #[.int .i64 x.fd, .string x.op, .string x.tag, .slice a1 x.word.length c1] 31)).grownBy w6 (Value.slice da n2 dc).ownBlock := ⟨hgrow.os, hgrow.tape, hgrow.output, hgrow.size, hgrow.block⟩; have HP6 := Lib.hid (Shown.push ((HF5.out.later ((Below.refl _ _).alloc (Nat.le_refl _) _) hle5)) (HW5.out.below ((Below.refl _ _).alloc (Nat.le_refl _) _)) (HC5.out.keep fun _ _ _ _ hs => hs.below ((Below.refl _ _).alloc hle5 _)) (by rw [HN2.out]; exact hn2o) (by rw [HN2.out]; exact hown) hg6 (hlie.imp id fun e => by rw [e]; simp)); have hcf6 := (HW5.out.below ((Below.refl _ _).alloc (Nat.le_refl _) _)).grown_docs hg6; have c6 := hcf6.1; have f6 := hcf6.2; clear hcf6 hown hgrow hlie hg6)
           all_goals
            have HSE : Hid (Shown X B b dv1 (redirS wd (nextS s true) x) _) := Lib.hid (by
             rw [HRE.out]
             have h1 := HP6.out
             rw [HN2.out, HST5.out, ← HO5.out] at h1
             exact h1)
            go_wp2_with fail
            go_roundw
            case rel => exact ⟨k + 1, true, by omega, by go_num, rfl, by simp, by rw [HX.out]; exact Shown.after HFX.out HSE.out⟩
            case measure => simp [intOf]; omega
  · have HTK : Hid (l.take k = l) := Lib.hid (List.take_of_length_le (by rw [HN.out]; omega))
    rw [HTK.out] at HS
    go_wp2_with fail
    go_end0
    refine ⟨rfl, ?_⟩
    rw [HS.out]
    have := Shown.of HW1.out HF1.out
    rwa [HST.out] at this
end Go.Proofs.YtnackmnoldkihaaGreatDoor
