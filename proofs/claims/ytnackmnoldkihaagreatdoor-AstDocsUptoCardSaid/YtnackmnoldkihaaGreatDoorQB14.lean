/-
  The document's side: a simple command; a command that joins others.
-/
import Derived.Test.YtnackmnoldkihaaGreatDoorQB13
import Derived.Test.YtnackmnoldkihaaGreatDoorQB5
set_option linter.unusedVariables false
set_option linter.unusedSimpArgs false
/-
  The document's side: a redirection; a simple command.
-/
namespace Go.Proofs.YtnackmnoldkihaaGreatDoor
open Go.RowKit

def redWs16 : List (List UInt8) := [[60], [62], [62, 62], [60, 62], [62, 124], [60, 38], [62, 38], [], [], [], [], [], [], [], [], []]
theorem redWs_eq (l : List UInt8) : oneB redWs16 l = oneB redWs l := by
  cases l with
  | nil => rfl
  | cons c r =>
    have e : redWs16 = redWs ++ List.replicate 9 [] := rfl
    have h : (redWs ++ List.replicate 9 []).contains (c :: r) = redWs.contains (c :: r) := by
      rw [Bool.eq_iff_iff, List.contains_iff_mem, List.contains_iff_mem, List.mem_append]
      exact ⟨fun h => h.resolve_right (fun h2 => absurd (List.eq_of_mem_replicate h2) (by simp)), Or.inl⟩
    rw [oneB, oneB, e, h]
theorem suffix_nil : List.isSuffixOf [10] ([] : List UInt8) = false := rfl
theorem suffix_last {l : List UInt8} (h : 0 < l.length) : List.isSuffixOf [10] l = (l.getD (l.length - 1) 0 == 10) := by
  obtain ⟨r, c, rfl⟩ : ∃ r c, l = r ++ [c] := ⟨l.dropLast, l.getLast (by intro e; subst e; simp at h), (List.dropLast_concat_getLast _).symm⟩
  rw [Bool.eq_iff_iff, List.isSuffixOf_iff_suffix]
  have e : (r ++ [c]).getD ((r ++ [c]).length - 1) 0 = c := by simp [List.getD]
  rw [e, beq_iff_eq]
  constructor
  · rintro ⟨t, ht⟩
    exact (List.append_inj' ht rfl).2 |> fun h => by simp at h; exact h.symm
  · rintro rfl
    exact ⟨r, rfl⟩

set_option maxHeartbeats 4000000 in
set_option maxRecDepth 100000 in
theorem rredir_any (wd : List Pt → Bool) (level deep : Int) (hwd : RWordAt level deep wd) (r : Rd) (w : World) (d : Nat) (c : List Value) (hp : RdC w w.heap.size d r c) :
    Calls Tryz.prog 56 #[.agg c.toArray, .int .i64 level, .int .i64 deep] w fun e w' => e = .returned (.bool (redirB wd r)) ∧ Below w.heap.size w w' := by
  obtain ⟨a1, c1, rfl, ⟨h1, h2⟩, hsum, hlw, hw⟩ := hp.open
  obtain ⟨lw, hlw0⟩ : ∃ n, r.word.length = n := ⟨_, rfl⟩
  rw [hlw0] at hlw hw ⊢
  have CWt := Lib.hid (hwd.reads hw true)
  have CWf := Lib.hid (hwd.reads hw false)
  have CNm : Hid (∀ W, Below w.heap.size w W → Calls Tryz.prog 22 #[.string r.tag] W fun e w' => e = .returned (.bool (nameL (L r.tag))) ∧ Below W.heap.size W w') := Lib.hid fun W _ => (rname_any r.tag W (by unfold maxLen; omega)).mono fun e w' h => ⟨h.1, by first | exact h.2 | (rw [h.2]; exact Below.refl _ _) | (rw [← h.2]; exact Below.refl _ _)⟩
  have COn : Hid (∀ W, Below w.heap.size w W → Calls Tryz.prog 47 #[.string r.op, .agg #[.string ⟨#[60]⟩, .string ⟨#[62]⟩, .string ⟨#[62, 62]⟩, .string ⟨#[60, 62]⟩, .string ⟨#[62, 124]⟩, .string ⟨#[60, 38]⟩, .string ⟨#[62, 38]⟩, .string ⟨#[]⟩, .string ⟨#[]⟩, .string ⟨#[]⟩, .string ⟨#[]⟩, .string ⟨#[]⟩, .string ⟨#[]⟩, .string ⟨#[]⟩, .string ⟨#[]⟩, .string ⟨#[]⟩]] W fun e w' => e = .returned (.bool (oneB redWs (L r.op))) ∧ Below W.heap.size W w') :=
    Lib.hid fun W _ => by
      have := one_any r.op redWs16 rfl W
      rw [redWs_eq] at this
      exact this
  have CDc : Hid (∀ W, Below w.heap.size w W → Calls Tryz.prog 13 #[.slice a1 lw c1] W fun e w' => e = .returned (.string (S (docL r.word))) ∧ Below W.heap.size W w') := Lib.hid fun W hW => (rdoc_any r.word _ W d (hw.later hW) hsum).mono fun e w' h => ⟨h.1, by rw [← h.2]; exact Below.refl _ _⟩
  have hdz : (docL r.word).length ≤ 8388608 := by
    have := flat_docP (litrB r.word) r.word
    rw [show (docL r.word) = r.word.flatMap (docP (litrB r.word)) from rfl]
    omega
  have HST : Hid (nameL (L r.tag) = true → Lib.contains (10 :: docL r.word) (10 :: (L r.tag ++ [10])) = standsL (L r.tag) [] (docL r.word)) := Lib.hid fun h => stands_contains (name_no10 h)
  obtain ⟨dt, hdt⟩ : ∃ t : ByteArray, t = S (docL r.word) := ⟨_, rfl⟩
  have HDL : Hid (docL r.word = L dt) := Lib.hid (by rw [hdt, L_S])
  have hdz2 : dt.size ≤ 8388608 := by rw [hdt, S_size]; exact hdz
  rw [← hdt] at CDc
  rw [HDL.out] at HST
  have CSt : Hid (∀ W, Below w.heap.size w W → Calls Tryz.prog 72 #[.string dt, .string r.tag] W fun e w' => e = .returned (.bool (standsL (L r.tag) [] (L dt))) ∧ Below W.heap.size W w') := Lib.hid fun W _ => (stands_any dt r.tag W (by unfold maxLen; omega)).mono fun e w' h => ⟨h.1, by rw [← h.2]; exact Below.refl _ _⟩
  obtain ⟨res, hres⟩ : ∃ b, redirB wd r = b := ⟨_, rfl⟩
  rw [hres]
  have HRES : Hid (res = ((decide (0 ≤ r.fd) && decide (r.fd ≤ 9)) && (bif L r.op == [60, 60] then (nameL (L r.tag) && (wd r.word && (r.word.all docPartB && (r.word.isEmpty || (List.isSuffixOf [10] (L dt) && !Lib.contains (10 :: L dt) (10 :: (L r.tag ++ [10]))))))) else (oneB redWs (L r.op) && ((L r.tag).isEmpty && (wd r.word && !r.word.isEmpty)))))) := Lib.hid (by rw [← hres, redirB, docB, HDL.out])
  obtain ⟨d, hws⟩ := hw.up
  have HWS := Lib.hid hws
  have HLW := Lib.hid hlw0
  have EW := Lib.hid (nil_beq hlw0)
  have BK := Lib.hid (Bk.start w 100 #[.int .i64 r.fd, .string r.op, .string r.tag, .slice a1 lw c1])
  clear hp hres hw hws hlw0 hwd hdt hdz hsum
  obtain ⟨fd, hfd⟩ : ∃ v, r.fd = v := ⟨_, rfl⟩
  rw [hfd] at HRES BK ⊢
  clear hfd
  by_cases hf0 : fd < 0
  · have g0 : decide (fd < 0) = true := by simp [hf0]
    have HE : Hid (res = false) := Lib.hid (by rw [HRES.out, show decide (0 ≤ fd) = false by simp; omega]; rfl)
    go_enter Tryz.func56, Tryz.ntmps56
    go_wp2_with fail
    go_ret
    exact ⟨ret_bool HE.out.symm, (by repeat' (first | (with_reducible assumption) | (with_reducible exact Below.refl _ _) | (with_reducible refine below_drewN ?_ _) | (with_reducible refine below_bytes ?_ ?_ _) | (with_reducible refine Below.alloc ?_ ?_ _) | (with_reducible refine Below.drew ?_) | (with_reducible refine Below.setCell ?_ ?_ _) | go_size))⟩
  · have g0 : decide (fd < 0) = false := by simp [hf0]
    by_cases hf9 : 9 < fd
    · have g1 : decide (9 < fd) = true := by simp [hf9]
      have HE : Hid (res = false) := Lib.hid (by rw [HRES.out, show decide (fd ≤ 9) = false by simp; omega, Bool.and_false]; rfl)
      go_enter Tryz.func56, Tryz.ntmps56
      go_wp2_with fail
      go_ret
      exact ⟨ret_bool HE.out.symm, (by repeat' (first | (with_reducible assumption) | (with_reducible exact Below.refl _ _) | (with_reducible refine below_drewN ?_ _) | (with_reducible refine below_bytes ?_ ?_ _) | (with_reducible refine Below.alloc ?_ ?_ _) | (with_reducible refine Below.drew ?_) | (with_reducible refine Below.setCell ?_ ?_ _) | go_size))⟩
    · have g1 : decide (9 < fd) = false := by simp [hf9]
      have HRES2 := HRES.out
      rw [show decide (0 ≤ fd) = true by simp; omega, show decide (fd ≤ 9) = true by simp; omega, Bool.true_and, Bool.true_and] at HRES2
      have HRES3 := Lib.hid HRES2
      clear HRES2 HRES
      cases hop : (L r.op == [60, 60]) with
      | false =>
        have g2 : (r.op.toList == [60, 60]) = false := by rw [toList_L]; exact hop
        have HE : Hid (res = (oneB redWs (L r.op) && ((L r.tag).isEmpty && (wd r.word && !r.word.isEmpty)))) := Lib.hid (by rw [HRES3.out, hop]; rfl)
        obtain ⟨ob, hob⟩ : ∃ b, oneB redWs (L r.op) = b := ⟨_, rfl⟩
        obtain ⟨wr, hwr⟩ : ∃ b, (wd r.word && (!true || !r.word.isEmpty)) = b := ⟨_, rfl⟩
        rw [hwr] at CWt
        rw [Bool.not_true, Bool.false_or] at hwr
        rw [hob, hwr] at HE
        rw [hob] at COn
        clear hob hwr hop CDc CSt CNm CWf
        go_enter Tryz.func56, Tryz.ntmps56
        go_wp2_with fail
        refine (COn.out _ (by repeat' (first | (with_reducible assumption) | (with_reducible exact Below.refl _ _) | (with_reducible refine below_drewN ?_ _) | (with_reducible refine below_bytes ?_ ?_ _) | (with_reducible refine Below.alloc ?_ ?_ _) | (with_reducible refine Below.drew ?_) | (with_reducible refine Below.setCell ?_ ?_ _) | go_size))).mono ?_
        rintro e w1 ⟨rfl, hb0⟩
        have hBw1 : Below w.heap.size w w1 := since hb0 (by repeat' (first | (with_reducible assumption) | (with_reducible exact Below.refl _ _) | (with_reducible refine below_drewN ?_ _) | (with_reducible refine below_bytes ?_ ?_ _) | (with_reducible refine Below.alloc ?_ ?_ _) | (with_reducible refine Below.drew ?_) | (with_reducible refine Below.setCell ?_ ?_ _) | go_size))
        have BKw1 := Lib.hid (Bk.later BK.out (since hb0 (by repeat' (first | (with_reducible assumption) | (with_reducible exact Below.refl _ _) | (with_reducible refine below_drewN ?_ _) | (with_reducible refine below_bytes ?_ ?_ _) | (with_reducible refine Below.alloc ?_ ?_ _) | (with_reducible refine Below.drew ?_) | (with_reducible refine Below.setCell ?_ ?_ _) | go_size))))
        clear hb0
        have K1BKw1 := Lib.hid BKw1.out.b
        have hBBKw1 := BKw1.out.hb
        have p0 := K1BKw1.out.cell 0
        have p1 := K1BKw1.out.cell 1
        have p2 := K1BKw1.out.cell 2
        have p3 := K1BKw1.out.cell 3
        have pl := K1BKw1.out.lt
        simp at p0 p1 p2 p3
        cases ob with
        | false =>
          go_wp2_with fail
          go_ret
          exact ⟨ret_bool HE.out.symm, (by repeat' (first | (with_reducible assumption) | (with_reducible exact Below.refl _ _) | (with_reducible refine below_drewN ?_ _) | (with_reducible refine below_bytes ?_ ?_ _) | (with_reducible refine Below.alloc ?_ ?_ _) | (with_reducible refine Below.drew ?_) | (with_reducible refine Below.setCell ?_ ?_ _) | go_size))⟩
        | true =>
          cases hte : (L r.tag).isEmpty with
          | false =>
            have e1 : r.tag.toList.isEmpty = false := by rw [isEmpty_L]; exact hte
            rw [hte] at HE
            clear hte
            go_wp2_with fail
            go_ret
            exact ⟨ret_bool HE.out.symm, (by repeat' (first | (with_reducible assumption) | (with_reducible exact Below.refl _ _) | (with_reducible refine below_drewN ?_ _) | (with_reducible refine below_bytes ?_ ?_ _) | (with_reducible refine Below.alloc ?_ ?_ _) | (with_reducible refine Below.drew ?_) | (with_reducible refine Below.setCell ?_ ?_ _) | go_size))⟩
          | true =>
            have e1 : r.tag.toList.isEmpty = true := by rw [isEmpty_L]; exact hte
            rw [hte] at HE
            clear hte
            go_wp2_with fail
            refine (CWt.out _ (by repeat' (first | (with_reducible assumption) | (with_reducible exact Below.refl _ _) | (with_reducible refine below_drewN ?_ _) | (with_reducible refine below_bytes ?_ ?_ _) | (with_reducible refine Below.alloc ?_ ?_ _) | (with_reducible refine Below.drew ?_) | (with_reducible refine Below.setCell ?_ ?_ _) | go_size))).mono ?_
            rintro e w2 ⟨rfl, hb0⟩
            have hBw2 : Below w.heap.size w w2 := since hb0 (by repeat' (first | (with_reducible assumption) | (with_reducible exact Below.refl _ _) | (with_reducible refine below_drewN ?_ _) | (with_reducible refine below_bytes ?_ ?_ _) | (with_reducible refine Below.alloc ?_ ?_ _) | (with_reducible refine Below.drew ?_) | (with_reducible refine Below.setCell ?_ ?_ _) | go_size))
            have BKw2 := Lib.hid (Bk.later BKw1.out (since hb0 (by repeat' (first | (with_reducible assumption) | (with_reducible exact Below.refl _ _) | (with_reducible refine below_drewN ?_ _) | (with_reducible refine below_bytes ?_ ?_ _) | (with_reducible refine Below.alloc ?_ ?_ _) | (with_reducible refine Below.drew ?_) | (with_reducible refine Below.setCell ?_ ?_ _) | go_size))))
            clear hb0
            go_wp2_with fail
            go_ret
            exact ⟨ret_bool HE.out.symm, (by repeat' (first | (with_reducible assumption) | (with_reducible exact Below.refl _ _) | (with_reducible refine below_drewN ?_ _) | (with_reducible refine below_bytes ?_ ?_ _) | (with_reducible refine Below.alloc ?_ ?_ _) | (with_reducible refine Below.drew ?_) | (with_reducible refine Below.setCell ?_ ?_ _) | go_size))⟩
      | true =>
        have g2 : (r.op.toList == [60, 60]) = true := by rw [toList_L]; exact hop
        have HE : Hid (res = (nameL (L r.tag) && (wd r.word && (r.word.all docPartB && (r.word.isEmpty || (List.isSuffixOf [10] (L dt) && !Lib.contains (10 :: L dt) (10 :: (L r.tag ++ [10])))))))) := Lib.hid (by rw [HRES3.out, hop]; rfl)
        clear HRES3 COn CWt hop
        obtain ⟨wr, hwr⟩ : ∃ b, (wd r.word && (!false || !r.word.isEmpty)) = b := ⟨_, rfl⟩
        rw [hwr] at CWf
        rw [Bool.not_false, Bool.true_or, Bool.and_true] at hwr
        rw [hwr] at HE
        clear hwr
        obtain ⟨nm, hnm⟩ : ∃ b, nameL (L r.tag) = b := ⟨_, rfl⟩
        rw [hnm] at CNm HE HST
        clear hnm
        go_enter Tryz.func56, Tryz.ntmps56
        go_wp2_with fail
        refine (CNm.out _ (by repeat' (first | (with_reducible assumption) | (with_reducible exact Below.refl _ _) | (with_reducible refine below_drewN ?_ _) | (with_reducible refine below_bytes ?_ ?_ _) | (with_reducible refine Below.alloc ?_ ?_ _) | (with_reducible refine Below.drew ?_) | (with_reducible refine Below.setCell ?_ ?_ _) | go_size))).mono ?_
        rintro e w1 ⟨rfl, hb0⟩
        have hBw1 : Below w.heap.size w w1 := since hb0 (by repeat' (first | (with_reducible assumption) | (with_reducible exact Below.refl _ _) | (with_reducible refine below_drewN ?_ _) | (with_reducible refine below_bytes ?_ ?_ _) | (with_reducible refine Below.alloc ?_ ?_ _) | (with_reducible refine Below.drew ?_) | (with_reducible refine Below.setCell ?_ ?_ _) | go_size))
        have BKw1 := Lib.hid (Bk.later BK.out (since hb0 (by repeat' (first | (with_reducible assumption) | (with_reducible exact Below.refl _ _) | (with_reducible refine below_drewN ?_ _) | (with_reducible refine below_bytes ?_ ?_ _) | (with_reducible refine Below.alloc ?_ ?_ _) | (with_reducible refine Below.drew ?_) | (with_reducible refine Below.setCell ?_ ?_ _) | go_size))))
        clear hb0
        have K1BKw1 := Lib.hid BKw1.out.b
        have hBBKw1 := BKw1.out.hb
        have p0 := K1BKw1.out.cell 0
        have p1 := K1BKw1.out.cell 1
        have p2 := K1BKw1.out.cell 2
        have p3 := K1BKw1.out.cell 3
        have pl := K1BKw1.out.lt
        simp at p0 p1 p2 p3
        cases nm with
        | false =>
          go_wp2_with fail
          go_ret
          exact ⟨ret_bool HE.out.symm, (by repeat' (first | (with_reducible assumption) | (with_reducible exact Below.refl _ _) | (with_reducible refine below_drewN ?_ _) | (with_reducible refine below_bytes ?_ ?_ _) | (with_reducible refine Below.alloc ?_ ?_ _) | (with_reducible refine Below.drew ?_) | (with_reducible refine Below.setCell ?_ ?_ _) | go_size))⟩
        | true =>
          have HST1 := Lib.hid (HST.out rfl)
          go_wp2_with fail
          refine (CWf.out _ (by repeat' (first | (with_reducible assumption) | (with_reducible exact Below.refl _ _) | (with_reducible refine below_drewN ?_ _) | (with_reducible refine below_bytes ?_ ?_ _) | (with_reducible refine Below.alloc ?_ ?_ _) | (with_reducible refine Below.drew ?_) | (with_reducible refine Below.setCell ?_ ?_ _) | go_size))).mono ?_
          rintro e w2 ⟨rfl, hb0⟩
          have hBw2 : Below w.heap.size w w2 := since hb0 (by repeat' (first | (with_reducible assumption) | (with_reducible exact Below.refl _ _) | (with_reducible refine below_drewN ?_ _) | (with_reducible refine below_bytes ?_ ?_ _) | (with_reducible refine Below.alloc ?_ ?_ _) | (with_reducible refine Below.drew ?_) | (with_reducible refine Below.setCell ?_ ?_ _) | go_size))
          have BKw2 := Lib.hid (Bk.later BKw1.out (since hb0 (by repeat' (first | (with_reducible assumption) | (with_reducible exact Below.refl _ _) | (with_reducible refine below_drewN ?_ _) | (with_reducible refine below_bytes ?_ ?_ _) | (with_reducible refine Below.alloc ?_ ?_ _) | (with_reducible refine Below.drew ?_) | (with_reducible refine Below.setCell ?_ ?_ _) | go_size))))
          clear hb0
          clear p0 p1 p2 p3 pl
          have K1BKw2 := Lib.hid BKw2.out.b
          have hBBKw2 := BKw2.out.hb
          have p0 := K1BKw2.out.cell 0
          have p1 := K1BKw2.out.cell 1
          have p2 := K1BKw2.out.cell 2
          have p3 := K1BKw2.out.cell 3
          have pl := K1BKw2.out.lt
          simp at p0 p1 p2 p3
          cases wr with
          | false =>
            go_wp2_with fail
            go_ret
            exact ⟨ret_bool HE.out.symm, (by repeat' (first | (with_reducible assumption) | (with_reducible exact Below.refl _ _) | (with_reducible refine below_drewN ?_ _) | (with_reducible refine below_bytes ?_ ?_ _) | (with_reducible refine Below.alloc ?_ ?_ _) | (with_reducible refine Below.drew ?_) | (with_reducible refine Below.setCell ?_ ?_ _) | go_size))⟩
          | true =>
            go_wp2_with fail
            go_loopw [7] (fun i W => ∃ k : Nat, k ≤ lw ∧ i = .int .i64 k ∧ (r.word.take k).all docPartB = true ∧ Bk w W 100 #[.int .i64 fd, .string r.op, .string r.tag, .slice a1 lw c1]) (fun i _ => lw - (intOf i).toNat)
            case atStart => exact ⟨0, Nat.zero_le _, rfl, by simp, BKw2.out⟩
            case round =>
              clear p0 p1 p2 p3 pl
              obtain ⟨k, hk, rfl, hal, hbk⟩ := hrel
              have HAL := Lib.hid hal
              have BKr := Lib.hid hbk
              clear hal hbk
              have K1BKr := Lib.hid BKr.out.b
              have hBBKr := BKr.out.hb
              have p0 := K1BKr.out.cell 0
              have p1 := K1BKr.out.cell 1
              have p2 := K1BKr.out.cell 2
              have p3 := K1BKr.out.cell 3
              have pl := K1BKr.out.lt
              simp at p0 p1 p2 p3
              by_cases hlt : k < lw
              · obtain ⟨x, hx⟩ : ∃ x, r.word[k]? = .some x := ⟨_, List.getElem?_eq_getElem (by rw [HLW.out]; exact hlt)⟩
                obtain ⟨b, o, c, hi, hbB, hce, hC, _⟩ := HWS.out.at 41 72 Tryz.underlying41 (by kernel_rfl) hx
                have HX := Lib.hid hx
                obtain ⟨a3, c3, a4, c4, rfl, ⟨hC1, _⟩, _⟩ := hC.open
                have e0 := (hBBKr.cell hbB).trans (hce 0 _ rfl)
                have e1 := (hBBKr.cell hbB).trans (hce 1 _ rfl)
                have e2 := (hBBKr.cell hbB).trans (hce 2 _ rfl)
                have e3 := (hBBKr.cell hbB).trans (hce 3 _ rfl)
                have e4 := (hBBKr.cell hbB).trans (hce 4 _ rfl)
                have e5 := (hBBKr.cell hbB).trans (hce 5 _ rfl)
                have hbB' := Nat.lt_of_lt_of_le hbB hBBKr.size
                rw [Nat.add_zero] at e0
                have CI : Hid (∀ W, Calls Tryz.prog 43 #[.string x.text, .int .u8 10] W fun e w' => e = .returned (.bool (hasB (L x.text) 10)) ∧ W = w') := Lib.hid fun W => (In_any x.text 10 W (by unfold maxLen; omega)).mono fun e w' h => ⟨h.1, h.2.symm⟩
                have HDP : Hid (docPartB x = (x.quoted && ((L x.op).isEmpty && (!(x.kind == 3) && !(x.kind == 4 && hasB (L x.text) 10))))) := Lib.hid rfl
                clear hx hce hC
                obtain ⟨dp, hdp⟩ : ∃ b, docPartB x = b := ⟨_, rfl⟩
                rw [hdp] at HDP
                have HDV := Lib.hid hdp
                clear hdp
                obtain ⟨hh, hhh⟩ : ∃ b, hasB (L x.text) 10 = b := ⟨_, rfl⟩
                rw [hhh] at CI HDP
                clear hhh
                obtain ⟨xk, hxk⟩ : ∃ v, x.kind = v := ⟨_, rfl⟩
                obtain ⟨xq, hxq⟩ : ∃ v, x.quoted = v := ⟨_, rfl⟩
                rw [hxk] at e0 HDP
                rw [hxq] at e1 HDP
                clear hxk hxq
                cases xq with
                | false =>
                  have HE2 : Hid (res = false) := Lib.hid (by rw [HE.out, all_no HX.out (HDV.out.trans (by rw [HDP.out]; rfl))]; rfl)
                  go_wp2_with fail
                  go_ret
                  exact ⟨ret_bool HE2.out.symm, (by repeat' (first | (with_reducible assumption) | (with_reducible exact Below.refl _ _) | (with_reducible refine below_drewN ?_ _) | (with_reducible refine below_bytes ?_ ?_ _) | (with_reducible refine Below.alloc ?_ ?_ _) | (with_reducible refine Below.drew ?_) | (with_reducible refine Below.setCell ?_ ?_ _) | go_size))⟩
                | true =>
                  cases hoe : (L x.op).isEmpty with
                  | false =>
                    have f1 : x.op.toList.isEmpty = false := by rw [isEmpty_L]; exact hoe
                    have HE2 : Hid (res = false) := Lib.hid (by rw [HE.out, all_no HX.out (HDV.out.trans (by rw [HDP.out, hoe]; rfl))]; rfl)
                    clear hoe
                    go_wp2_with fail
                    go_ret
                    exact ⟨ret_bool HE2.out.symm, (by repeat' (first | (with_reducible assumption) | (with_reducible exact Below.refl _ _) | (with_reducible refine below_drewN ?_ _) | (with_reducible refine below_bytes ?_ ?_ _) | (with_reducible refine Below.alloc ?_ ?_ _) | (with_reducible refine Below.drew ?_) | (with_reducible refine Below.setCell ?_ ?_ _) | go_size))⟩
                  | true =>
                    have f1 : x.op.toList.isEmpty = true := by rw [isEmpty_L]; exact hoe
                    cases hk3 : (xk == 3) with
                    | true =>
                      have HE2 : Hid (res = false) := Lib.hid (by rw [HE.out, all_no HX.out (HDV.out.trans (by rw [HDP.out, hoe, hk3]; rfl))]; rfl)
                      clear hoe
                      go_wp2_with fail
                      go_ret
                      exact ⟨ret_bool HE2.out.symm, (by repeat' (first | (with_reducible assumption) | (with_reducible exact Below.refl _ _) | (with_reducible refine below_drewN ?_ _) | (with_reducible refine below_bytes ?_ ?_ _) | (with_reducible refine Below.alloc ?_ ?_ _) | (with_reducible refine Below.drew ?_) | (with_reducible refine Below.setCell ?_ ?_ _) | go_size))⟩
                    | false =>
                      cases hk4 : (xk == 4) with
                      | false =>
                        have HYES := Lib.hid (all_to HAL.out HX.out (HDV.out.trans (by rw [HDP.out, hoe, hk3, hk4]; rfl)))
                        clear hoe
                        go_wp2_with fail
                        go_roundw
                        case rel => exact ⟨k + 1, by omega, by go_num, HYES.out, BKr.out.later (by repeat' (first | (with_reducible assumption) | (with_reducible exact Below.refl _ _) | (with_reducible refine below_drewN ?_ _) | (with_reducible refine below_bytes ?_ ?_ _) | (with_reducible refine Below.alloc ?_ ?_ _) | (with_reducible refine Below.drew ?_) | (with_reducible refine Below.setCell ?_ ?_ _) | go_size))⟩
                        case measure => simp [intOf]; omega
                      | true =>
                        cases hh with
                        | true =>
                          have HE2 : Hid (res = false) := Lib.hid (by rw [HE.out, all_no HX.out (HDV.out.trans (by rw [HDP.out, hoe, hk3, hk4]; rfl))]; rfl)
                          clear hoe
                          go_wp2_with (go_at_call 43; with_reducible refine (CI.out _).mono ?_; rintro e w5 ⟨rfl, rfl⟩)
                          go_ret
                          exact ⟨ret_bool HE2.out.symm, (by repeat' (first | (with_reducible assumption) | (with_reducible exact Below.refl _ _) | (with_reducible refine below_drewN ?_ _) | (with_reducible refine below_bytes ?_ ?_ _) | (with_reducible refine Below.alloc ?_ ?_ _) | (with_reducible refine Below.drew ?_) | (with_reducible refine Below.setCell ?_ ?_ _) | go_size))⟩
                        | false =>
                          have HYES := Lib.hid (all_to HAL.out HX.out (HDV.out.trans (by rw [HDP.out, hoe, hk3, hk4]; rfl)))
                          clear hoe
                          go_wp2_with (go_at_call 43; with_reducible refine (CI.out _).mono ?_; rintro e w5 ⟨rfl, rfl⟩)
                          go_roundw
                          case rel => exact ⟨k + 1, by omega, by go_num, HYES.out, BKr.out.later (by repeat' (first | (with_reducible assumption) | (with_reducible exact Below.refl _ _) | (with_reducible refine below_drewN ?_ _) | (with_reducible refine below_bytes ?_ ?_ _) | (with_reducible refine Below.alloc ?_ ?_ _) | (with_reducible refine Below.drew ?_) | (with_reducible refine Below.setCell ?_ ?_ _) | go_size))⟩
                          case measure => simp [intOf]; omega
              · have HE1 : Hid (res = (r.word.isEmpty || (List.isSuffixOf [10] (L dt) && !standsL (L r.tag) [] (L dt)))) := Lib.hid (by rw [HE.out, all_end HAL.out (by rw [HLW.out]; omega), HST1.out]; rfl)
                obtain ⟨st, hst⟩ : ∃ b, standsL (L r.tag) [] (L dt) = b := ⟨_, rfl⟩
                rw [hst] at CSt HE1
                clear hst
                go_wp2_with fail
                refine (CDc.out _ (by repeat' (first | (with_reducible assumption) | (with_reducible exact Below.refl _ _) | (with_reducible refine below_drewN ?_ _) | (with_reducible refine below_bytes ?_ ?_ _) | (with_reducible refine Below.alloc ?_ ?_ _) | (with_reducible refine Below.drew ?_) | (with_reducible refine Below.setCell ?_ ?_ _) | go_size))).mono ?_
                rintro e w7 ⟨rfl, hb0⟩
                have hBw7 : Below w.heap.size w w7 := since hb0 (by repeat' (first | (with_reducible assumption) | (with_reducible exact Below.refl _ _) | (with_reducible refine below_drewN ?_ _) | (with_reducible refine below_bytes ?_ ?_ _) | (with_reducible refine Below.alloc ?_ ?_ _) | (with_reducible refine Below.drew ?_) | (with_reducible refine Below.setCell ?_ ?_ _) | go_size))
                have BKw7 := Lib.hid (Bk.later BKr.out (since hb0 (by repeat' (first | (with_reducible assumption) | (with_reducible exact Below.refl _ _) | (with_reducible refine below_drewN ?_ _) | (with_reducible refine below_bytes ?_ ?_ _) | (with_reducible refine Below.alloc ?_ ?_ _) | (with_reducible refine Below.drew ?_) | (with_reducible refine Below.setCell ?_ ?_ _) | go_size))))
                clear hb0
                clear p0 p1 p2 p3 pl
                have K1BKw7 := Lib.hid BKw7.out.b
                have hBBKw7 := BKw7.out.hb
                have p0 := K1BKw7.out.cell 0
                have p1 := K1BKw7.out.cell 1
                have p2 := K1BKw7.out.cell 2
                have p3 := K1BKw7.out.cell 3
                have pl := K1BKw7.out.lt
                simp at p0 p1 p2 p3
                have e2 := EW.out
                cases hwe : r.word.isEmpty with
                | true =>
                  rw [hwe] at e2 HE1
                  clear hwe
                  go_wp2_with fail
                  go_ret
                  exact ⟨ret_bool HE1.out.symm, (by repeat' (first | (with_reducible assumption) | (with_reducible exact Below.refl _ _) | (with_reducible refine below_drewN ?_ _) | (with_reducible refine below_bytes ?_ ?_ _) | (with_reducible refine Below.alloc ?_ ?_ _) | (with_reducible refine Below.drew ?_) | (with_reducible refine Below.setCell ?_ ?_ _) | go_size))⟩
                | false =>
                  rw [hwe] at e2 HE1
                  clear hwe
                  rcases Nat.eq_zero_or_pos dt.size with h0 | h0
                  · have hnil : L dt = [] := List.length_eq_zero_iff.1 (by rw [L_size]; exact h0)
                    have e3 : dt.toList.isEmpty = true := by rw [isEmpty_L, hnil]; rfl
                    have HE2 : Hid (res = false) := Lib.hid (by rw [HE1.out, hnil]; rfl)
                    clear hnil h0
                    go_wp2_with fail
                    go_ret
                    exact ⟨ret_bool HE2.out.symm, (by repeat' (first | (with_reducible assumption) | (with_reducible exact Below.refl _ _) | (with_reducible refine below_drewN ?_ _) | (with_reducible refine below_bytes ?_ ?_ _) | (with_reducible refine Below.alloc ?_ ?_ _) | (with_reducible refine Below.drew ?_) | (with_reducible refine Below.setCell ?_ ?_ _) | go_size))⟩
                  · have e3 : dt.toList.isEmpty = false := by rw [isEmpty_L]; exact not_nil_of_len (L_size dt) h0
                    have hidx := run_idx (P := Tryz.prog) Tryz.underlying9 dt (k := .i64) ((dt.size : Int) - 1) (dt.size - 1) (by omega) (by omega)
                    have HSF := Lib.hid (suffix_last (l := L dt) (by rw [L_size]; exact h0))
                    rw [L_size] at HSF
                    obtain ⟨lc, hlc⟩ : ∃ v, (L dt).getD (dt.size - 1) 0 = v := ⟨_, rfl⟩
                    rw [hlc] at hidx HSF
                    clear hlc
                    by_cases h10 : lc = 10
                    · have e10 : (((lc.toNat : Nat) : Int) == 10) = true := eq_byte h10
                      have HE2 : Hid (res = !st) := Lib.hid (by rw [HE1.out, HSF.out, h10]; rfl)
                      clear h10
                      go_wp2_with fail
                      refine (CSt.out _ (by repeat' (first | (with_reducible assumption) | (with_reducible exact Below.refl _ _) | (with_reducible refine below_drewN ?_ _) | (with_reducible refine below_bytes ?_ ?_ _) | (with_reducible refine Below.alloc ?_ ?_ _) | (with_reducible refine Below.drew ?_) | (with_reducible refine Below.setCell ?_ ?_ _) | go_size))).mono ?_
                      rintro e w8 ⟨rfl, hb0⟩
                      have hBw8 : Below w.heap.size w w8 := since hb0 (by repeat' (first | (with_reducible assumption) | (with_reducible exact Below.refl _ _) | (with_reducible refine below_drewN ?_ _) | (with_reducible refine below_bytes ?_ ?_ _) | (with_reducible refine Below.alloc ?_ ?_ _) | (with_reducible refine Below.drew ?_) | (with_reducible refine Below.setCell ?_ ?_ _) | go_size))
                      have BKw8 := Lib.hid (Bk.later BKw7.out (since hb0 (by repeat' (first | (with_reducible assumption) | (with_reducible exact Below.refl _ _) | (with_reducible refine below_drewN ?_ _) | (with_reducible refine below_bytes ?_ ?_ _) | (with_reducible refine Below.alloc ?_ ?_ _) | (with_reducible refine Below.drew ?_) | (with_reducible refine Below.setCell ?_ ?_ _) | go_size))))
                      clear hb0
                      go_wp2_with fail
                      go_ret
                      exact ⟨ret_bool HE2.out.symm, (by repeat' (first | (with_reducible assumption) | (with_reducible exact Below.refl _ _) | (with_reducible refine below_drewN ?_ _) | (with_reducible refine below_bytes ?_ ?_ _) | (with_reducible refine Below.alloc ?_ ?_ _) | (with_reducible refine Below.drew ?_) | (with_reducible refine Below.setCell ?_ ?_ _) | go_size))⟩
                    · have e10 : (((lc.toNat : Nat) : Int) == 10) = false := ne_byte h10
                      have HE2 : Hid (res = false) := Lib.hid (by rw [HE1.out, HSF.out, show (lc == 10) = false by simp [h10]]; rfl)
                      clear h10
                      go_wp2_with fail
                      go_ret
                      exact ⟨ret_bool HE2.out.symm, (by repeat' (first | (with_reducible assumption) | (with_reducible exact Below.refl _ _) | (with_reducible refine below_drewN ?_ _) | (with_reducible refine below_bytes ?_ ?_ _) | (with_reducible refine Below.alloc ?_ ?_ _) | (with_reducible refine Below.drew ?_) | (with_reducible refine Below.setCell ?_ ?_ _) | go_size))⟩
end Go.Proofs.YtnackmnoldkihaaGreatDoor
namespace Go.Proofs.YtnackmnoldkihaaGreatDoor
open Go.RowKit

theorem WdsIn.first14 {w : World} {B d : Nat} {l : List (List Pt)} {v : Value} (h : WdsIn w B d l v) (h0 : 0 < l.length) : ∃ y b o a c, (∃ r, l = y :: r) ∧ (∀ w' : World, (Instr.indexAt 59 v (.int .i64 0)).run Tryz.prog w' = .ok (.pointer (some ⟨b, o, none⟩)) w') ∧ b < B ∧
    w.cell? ⟨b, o, none⟩ = some (.slice a y.length c) ∧ PtsIn w B d y (.slice a y.length c) := by
  cases l with
  | nil => simp at h0
  | cons y r =>
    obtain ⟨b, o, c, hi, hb, hc, ⟨v, rfl, hp⟩, _⟩ := h.at 59 41 Tryz.underlying59 (by kernel_rfl) (k := 0) (x := y) rfl
    obtain ⟨a, cap, rfl, _⟩ := hp.shape
    exact ⟨y, b, o, a, cap, ⟨r, rfl⟩, fun w' => hi w', hb, hc 0 _ rfl, hp⟩
theorem sum3_pos {α β γ : Type} {l : List α} {m : List β} {k : List γ} {n1 n2 n3 : Nat} (h1 : l.length = n1) (h2 : m.length = n2) (h3 : k.length = n3) : decide ((0 : Int) < (n1 : Int) + (n2 : Int) + (n3 : Int)) = !(l.isEmpty && (m.isEmpty && k.isEmpty)) := by
  subst h1 h2 h3
  cases l <;> cases m <;> cases k <;> simp <;> omega
theorem sum4_pos {α β γ δ : Type} {l : List α} {m : List β} {k : List γ} {j : List δ} {n1 n2 n3 n4 : Nat} (h1 : l.length = n1) (h2 : m.length = n2) (h3 : k.length = n3) (h4 : j.length = n4) : decide ((0 : Int) < (n1 : Int) + (n2 : Int) + (n3 : Int) + (n4 : Int)) = !((l.isEmpty && (m.isEmpty && k.isEmpty)) && j.isEmpty) := by
  subst h1 h2 h3 h4
  cases l <;> cases m <;> cases k <;> cases j <;> simp <;> omega
theorem sum2_zero {α β : Type} {l : List α} {m : List β} {n1 n2 : Nat} (h1 : l.length = n1) (h2 : m.length = n2) : ((n1 : Int) + (n2 : Int) == 0) = (l.isEmpty && m.isEmpty) := by
  subst h1 h2
  cases l <;> cases m <;> simp <;> omega


set_option maxHeartbeats 4000000 in
set_option maxRecDepth 100000 in
theorem rsimple_any (wd : List Pt → Bool) (level deep : Int) (hl0 : 0 ≤ level) (hl1 : level ≤ 2000) (hwd : RWordAt (level + 1) deep wd) (x : Nd) (hne : ∀ y ∈ x.words, y ≠ []) (w : World) (d : Nat) (c : List Value) (hp : NdC w w.heap.size d x c) :
    Calls Tryz.prog 57 #[.agg c.toArray, .int .i64 level, .int .i64 deep] w fun e w' => e = .returned (.bool (simpleB wd x)) ∧ Below w.heap.size w w' := by
  obtain ⟨a1, c1, a2, c2, a3, c3, a4, c4, a5, c5, rfl, hxz, ⟨hn1, hn2, hn3, hn4, hn5⟩, hA, hW, hRd, hLs, hAr⟩ := hp.open
  obtain ⟨n1, hl1⟩ : ∃ n, x.assigns.length = n := ⟨_, rfl⟩
  obtain ⟨n2, hl2⟩ : ∃ n, x.words.length = n := ⟨_, rfl⟩
  obtain ⟨n3, hl3⟩ : ∃ n, x.redirs.length = n := ⟨_, rfl⟩
  obtain ⟨n4, hl4⟩ : ∃ n, x.lists.length = n := ⟨_, rfl⟩
  obtain ⟨n5, hl5⟩ : ∃ n, x.arms.length = n := ⟨_, rfl⟩
  rw [hl1] at hn1 hA ⊢
  rw [hl2] at hn2 hW ⊢
  rw [hl3] at hn3 hRd ⊢
  rw [hl4] at hn4 hLs ⊢
  rw [hl5] at hn5 hAr ⊢
  have HA := Lib.hid hA
  have HW := Lib.hid hW
  have HRD := Lib.hid hRd
  have HLS := Lib.hid hLs
  have HAR := Lib.hid hAr
  have N1 := Lib.hid hl1
  have N2 := Lib.hid hl2
  have N3 := Lib.hid hl3
  have N4 := Lib.hid hl4
  have N5 := Lib.hid hl5
  have BK := Lib.hid (Bk.start w 64 #[.int .i64 x.kind, .string x.name, .slice a1 n1 c1, .slice a2 n2 c2, .slice a3 n3 c3, .slice a4 n4 c4, .slice a5 n5 c5])
  have HWD := Lib.hid hwd
  have HNE := Lib.hid hne
  have E4 := Lib.hid (nil_beq hl4)
  have E5 := Lib.hid (nil_beq hl5)
  have ES := Lib.hid (sum3_pos hl1 hl2 hl3)
  obtain ⟨fa, hfa⟩ : ∃ f, (fun a : As => nameL (L a.name) && wd a.word) = f := ⟨_, rfl⟩
  obtain ⟨r, hr⟩ : ∃ r, simpleB wd x = r := ⟨_, rfl⟩
  rw [hr]
  rw [simpleB, hfa] at hr
  have HR := Lib.hid hr
  have HFA := Lib.hid hfa
  clear hl1 hl2 hl3 hl4 hl5 hA hW hRd hLs hAr hp hwd hr hfa hne
  go_enter Tryz.func57, Tryz.ntmps57
  go_wp2_with fail
  go_loopw [7] (fun i W => ∃ k : Nat, k ≤ n1 ∧ i = .int .i64 k ∧ (x.assigns.take k).all fa = true ∧ Bk w W 64 #[.int .i64 x.kind, .string x.name, .slice a1 n1 c1, .slice a2 n2 c2, .slice a3 n3 c3, .slice a4 n4 c4, .slice a5 n5 c5]) (fun i _ => n1 - (intOf i).toNat)
  case atStart => exact ⟨0, Nat.zero_le _, rfl, by simp, BK.out⟩
  case round =>
    obtain ⟨k, hk, rfl, hal, hbk⟩ := hrel
    have HAL := Lib.hid hal
    have BK1 := Lib.hid hbk
    clear hal hbk
    have K1BK1 := Lib.hid BK1.out.b
    have hBBK1 := BK1.out.hb
    have p0 := K1BK1.out.cell 0
    have p1 := K1BK1.out.cell 1
    have p2 := K1BK1.out.cell 2
    have p3 := K1BK1.out.cell 3
    have p4 := K1BK1.out.cell 4
    have p5 := K1BK1.out.cell 5
    have p6 := K1BK1.out.cell 6
    have pl := K1BK1.out.lt
    simp at p0 p1 p2 p3 p4 p5 p6
    by_cases hlt : k < n1
    · obtain ⟨y, hy⟩ : ∃ y, x.assigns[k]? = .some y := ⟨_, List.getElem?_eq_getElem (by rw [N1.out]; exact hlt)⟩
      obtain ⟨b, o, c, hi, hbB, hce, hC, _⟩ := HA.out.at 58 98 Tryz.underlying58 (by kernel_rfl) hy
      have HY := Lib.hid hy
      obtain ⟨a6, c6, rfl, hyz, hyl, hyw⟩ := hC.open
      have CW := Lib.hid (HWD.out.reads hyw false)
      have CN : Hid (∀ W, Below w.heap.size w W → Calls Tryz.prog 22 #[.string y.name] W fun e w' => e = .returned (.bool (nameL (L y.name))) ∧ Below W.heap.size W w') := Lib.hid fun W _ => (rname_any y.name W (by unfold maxLen; omega)).mono fun e w' h => ⟨h.1, by first | exact h.2 | (rw [h.2]; exact Below.refl _ _) | (rw [← h.2]; exact Below.refl _ _)⟩
      have HF : Hid (fa y = (nameL (L y.name) && wd y.word)) := Lib.hid (by rw [← HFA.out])
      have HCE := Lib.hid hce
      have e0 := (hBBK1.cell hbB).trans (hce 0 _ rfl)
      have e1 := (hBBK1.cell hbB).trans (hce 1 _ rfl)
      have hbB' := Nat.lt_of_lt_of_le hbB hBBK1.size
      rw [Nat.add_zero] at e0
      clear hy hce hC hyw
      obtain ⟨nm, hnm⟩ : ∃ r, nameL (L y.name) = r := ⟨_, rfl⟩
      obtain ⟨wv, hwr⟩ : ∃ r, (wd y.word && (!false || !y.word.isEmpty)) = r := ⟨_, rfl⟩
      have hwr2 : wd y.word = wv := by rw [← hwr]; simp
      rw [hnm] at CN HF
      rw [hwr] at CW
      rw [hwr2] at HF
      clear hnm hwr hwr2
      go_wp2_with fail
      refine (CN.out _ (by repeat' (first | (with_reducible assumption) | (with_reducible exact Below.refl _ _) | (with_reducible refine below_drewN ?_ _) | (with_reducible refine below_bytes ?_ ?_ _) | (with_reducible refine Below.alloc ?_ ?_ _) | (with_reducible refine Below.drew ?_) | (with_reducible refine Below.setCell ?_ ?_ _) | go_size))).mono ?_
      rintro e w1 ⟨rfl, hb0⟩
      have hBw1 : Below w.heap.size w w1 := since hb0 (by repeat' (first | (with_reducible assumption) | (with_reducible exact Below.refl _ _) | (with_reducible refine below_drewN ?_ _) | (with_reducible refine below_bytes ?_ ?_ _) | (with_reducible refine Below.alloc ?_ ?_ _) | (with_reducible refine Below.drew ?_) | (with_reducible refine Below.setCell ?_ ?_ _) | go_size))
      have BKw1 := Lib.hid (Bk.later BK1.out (since hb0 (by repeat' (first | (with_reducible assumption) | (with_reducible exact Below.refl _ _) | (with_reducible refine below_drewN ?_ _) | (with_reducible refine below_bytes ?_ ?_ _) | (with_reducible refine Below.alloc ?_ ?_ _) | (with_reducible refine Below.drew ?_) | (with_reducible refine Below.setCell ?_ ?_ _) | go_size))))
      clear hb0
      cases nm with
      | false =>
        have HE : Hid (r = false) := Lib.hid (by rw [← HR.out, all_no HY.out (show fa y = false by rw [HF.out]; rfl)]; rfl)
        go_wp2_with fail
        go_ret
        exact ⟨ret_bool HE.out.symm, (by repeat' (first | (with_reducible assumption) | (with_reducible exact Below.refl _ _) | (with_reducible refine below_drewN ?_ _) | (with_reducible refine below_bytes ?_ ?_ _) | (with_reducible refine Below.alloc ?_ ?_ _) | (with_reducible refine Below.drew ?_) | (with_reducible refine Below.setCell ?_ ?_ _) | go_size))⟩
      | true =>
        clear p0 p1 p2 p3 p4 p5 p6 pl
        clear e0 e1
        have K1BKw1 := Lib.hid BKw1.out.b
        have hBBKw1 := BKw1.out.hb
        have p0 := K1BKw1.out.cell 0
        have p1 := K1BKw1.out.cell 1
        have p2 := K1BKw1.out.cell 2
        have p3 := K1BKw1.out.cell 3
        have p4 := K1BKw1.out.cell 4
        have p5 := K1BKw1.out.cell 5
        have p6 := K1BKw1.out.cell 6
        have pl := K1BKw1.out.lt
        simp at p0 p1 p2 p3 p4 p5 p6
        have e1 := (hBBKw1.cell hbB).trans (HCE.out 1 _ rfl)
        have hbB2 := Nat.lt_of_lt_of_le hbB hBBKw1.size
        go_wp2_with fail
        refine (CW.out _ (by repeat' (first | (with_reducible assumption) | (with_reducible exact Below.refl _ _) | (with_reducible refine below_drewN ?_ _) | (with_reducible refine below_bytes ?_ ?_ _) | (with_reducible refine Below.alloc ?_ ?_ _) | (with_reducible refine Below.drew ?_) | (with_reducible refine Below.setCell ?_ ?_ _) | go_size))).mono ?_
        rintro e w2 ⟨rfl, hb0⟩
        have hBw2 : Below w.heap.size w w2 := since hb0 (by repeat' (first | (with_reducible assumption) | (with_reducible exact Below.refl _ _) | (with_reducible refine below_drewN ?_ _) | (with_reducible refine below_bytes ?_ ?_ _) | (with_reducible refine Below.alloc ?_ ?_ _) | (with_reducible refine Below.drew ?_) | (with_reducible refine Below.setCell ?_ ?_ _) | go_size))
        have BKw2 := Lib.hid (Bk.later BKw1.out (since hb0 (by repeat' (first | (with_reducible assumption) | (with_reducible exact Below.refl _ _) | (with_reducible refine below_drewN ?_ _) | (with_reducible refine below_bytes ?_ ?_ _) | (with_reducible refine Below.alloc ?_ ?_ _) | (with_reducible refine Below.drew ?_) | (with_reducible refine Below.setCell ?_ ?_ _) | go_size))))
        clear hb0
        cases wv with
        | false =>
          have HE : Hid (r = false) := Lib.hid (by rw [← HR.out, all_no HY.out (show fa y = false by rw [HF.out]; rfl)]; rfl)
          go_wp2_with fail
          go_ret
          exact ⟨ret_bool HE.out.symm, (by repeat' (first | (with_reducible assumption) | (with_reducible exact Below.refl _ _) | (with_reducible refine below_drewN ?_ _) | (with_reducible refine below_bytes ?_ ?_ _) | (with_reducible refine Below.alloc ?_ ?_ _) | (with_reducible refine Below.drew ?_) | (with_reducible refine Below.setCell ?_ ?_ _) | go_size))⟩
        | true =>
          have HF2 : Hid (fa y = true) := Lib.hid (by rw [HF.out]; rfl)
          go_wp2_with fail
          go_roundw
          case rel => exact ⟨k + 1, by omega, by go_num, all_to HAL.out HY.out HF2.out, BKw2.out⟩
          case measure => simp [intOf]; omega
    · have HALL : Hid (x.assigns.all fa = true) := Lib.hid (all_end HAL.out (by rw [N1.out]; omega))
      have HR2 : Hid (r = ((match x.words with | [] => true | y :: _ => firstB y) && ((L x.name).isEmpty && ((x.lists.isEmpty && x.arms.isEmpty) && !(x.assigns.isEmpty && (x.words.isEmpty && x.redirs.isEmpty)))))) := Lib.hid (by rw [← HR.out, HALL.out]; rfl)
      clear HALL HAL
      obtain ⟨sm, hsm⟩ : ∃ b, (!(x.assigns.isEmpty && (x.words.isEmpty && x.redirs.isEmpty))) = b := ⟨_, rfl⟩
      rw [hsm] at HR2 ES
      clear hsm
      obtain ⟨ne, hne⟩ : ∃ b, (L x.name).isEmpty = b := ⟨_, rfl⟩
      have ENE := Lib.hid ((isEmpty_L x.name).trans hne)
      obtain ⟨le, hle⟩ : ∃ b, x.lists.isEmpty = b := ⟨_, rfl⟩
      obtain ⟨ae, hae⟩ : ∃ b, x.arms.isEmpty = b := ⟨_, rfl⟩
      rw [hne, hle, hae] at HR2
      rw [hle] at E4
      rw [hae] at E5
      clear hne hle hae
      have f0 := ES.out
      have f1 := ENE.out
      have f2 := E4.out
      have f3 := E5.out
      rcases Nat.eq_zero_or_pos n2 with h0 | h0
      · subst h0
        have hwn : x.words = [] := List.length_eq_zero_iff.1 N2.out
        have HR3 : Hid (r = (ne && ((le && ae) && sm))) := Lib.hid (by rw [HR2.out, hwn]; rfl)
        have f4 : decide ((0 : Int) < (n1 : Int) + (n3 : Int)) = sm := by rw [← ES.out]; simp
        clear hwn f0 ES
        cases ne
        all_goals cases le
        all_goals cases ae
        all_goals cases sm
        all_goals
          go_wp2_with fail
          go_ret
          exact ⟨ret_bool (by rw [HR3.out]; rfl), (by repeat' (first | (with_reducible assumption) | (with_reducible exact Below.refl _ _) | (with_reducible refine below_drewN ?_ _) | (with_reducible refine below_bytes ?_ ?_ _) | (with_reducible refine Below.alloc ?_ ?_ _) | (with_reducible refine Below.drew ?_) | (with_reducible refine Below.setCell ?_ ?_ _) | go_size))⟩
      · obtain ⟨y, b, o, ay, cy, ⟨yr, hy⟩, hi, hbB, g0, hyp⟩ := WdsIn.first14 HW.out (by rw [N2.out]; exact h0)
        have CF : Hid (∀ W, Below w.heap.size w W → Calls Tryz.prog 73 #[.slice ay y.length cy] W fun e w' => e = .returned (.bool (firstB y)) ∧ Below W.heap.size W w') := Lib.hid fun W hW => rfirst_any y _ W d (hyp.later hW) (HNE.out y (by rw [hy]; simp))
        have hlt2 : decide ((0 : Int) < (n2 : Int)) = true := by simp; omega
        have e0 := (hBBK1.cell hbB).trans g0
        have hbB' := Nat.lt_of_lt_of_le hbB hBBK1.size
        obtain ⟨fb, hfb⟩ : ∃ r, firstB y = r := ⟨_, rfl⟩
        have HR3 : Hid (r = (fb && (ne && ((le && ae) && sm)))) := Lib.hid (by rw [HR2.out, hy, ← hfb])
        rw [hfb] at CF
        clear hy hyp g0 hfb
        go_wp2_with fail
        refine (CF.out _ (by repeat' (first | (with_reducible assumption) | (with_reducible exact Below.refl _ _) | (with_reducible refine below_drewN ?_ _) | (with_reducible refine below_bytes ?_ ?_ _) | (with_reducible refine Below.alloc ?_ ?_ _) | (with_reducible refine Below.drew ?_) | (with_reducible refine Below.setCell ?_ ?_ _) | go_size))).mono ?_
        rintro e w5 ⟨rfl, hb0⟩
        have hBw5 : Below w.heap.size w w5 := since hb0 (by repeat' (first | (with_reducible assumption) | (with_reducible exact Below.refl _ _) | (with_reducible refine below_drewN ?_ _) | (with_reducible refine below_bytes ?_ ?_ _) | (with_reducible refine Below.alloc ?_ ?_ _) | (with_reducible refine Below.drew ?_) | (with_reducible refine Below.setCell ?_ ?_ _) | go_size))
        have BKw5 := Lib.hid (Bk.later BK1.out (since hb0 (by repeat' (first | (with_reducible assumption) | (with_reducible exact Below.refl _ _) | (with_reducible refine below_drewN ?_ _) | (with_reducible refine below_bytes ?_ ?_ _) | (with_reducible refine Below.alloc ?_ ?_ _) | (with_reducible refine Below.drew ?_) | (with_reducible refine Below.setCell ?_ ?_ _) | go_size))))
        clear hb0
        clear p0 p1 p2 p3 p4 p5 p6 pl
        have K1BKw5 := Lib.hid BKw5.out.b
        have hBBKw5 := BKw5.out.hb
        have p0 := K1BKw5.out.cell 0
        have p1 := K1BKw5.out.cell 1
        have p2 := K1BKw5.out.cell 2
        have p3 := K1BKw5.out.cell 3
        have p4 := K1BKw5.out.cell 4
        have p5 := K1BKw5.out.cell 5
        have p6 := K1BKw5.out.cell 6
        have pl := K1BKw5.out.lt
        simp at p0 p1 p2 p3 p4 p5 p6
        cases fb with
        | false =>
          go_wp2_with fail
          go_ret
          exact ⟨ret_bool (by rw [HR3.out]; rfl), (by repeat' (first | (with_reducible assumption) | (with_reducible exact Below.refl _ _) | (with_reducible refine below_drewN ?_ _) | (with_reducible refine below_bytes ?_ ?_ _) | (with_reducible refine Below.alloc ?_ ?_ _) | (with_reducible refine Below.drew ?_) | (with_reducible refine Below.setCell ?_ ?_ _) | go_size))⟩
        | true =>
          cases ne
          all_goals cases le
          all_goals cases ae
          all_goals cases sm
          all_goals
            go_wp2_with fail
            go_ret
            exact ⟨ret_bool (by rw [HR3.out]; rfl), (by repeat' (first | (with_reducible assumption) | (with_reducible exact Below.refl _ _) | (with_reducible refine below_drewN ?_ _) | (with_reducible refine below_bytes ?_ ?_ _) | (with_reducible refine Below.alloc ?_ ?_ _) | (with_reducible refine Below.drew ?_) | (with_reducible refine Below.setCell ?_ ?_ _) | go_size))⟩

/-- What a command that joins others may not join. -/
def rjBad (k : Int) (i : Nat) (z : Int) : Bool := ((k == 2 && decide (2 ≤ z)) && decide (z ≤ 5)) || (((k == 5 && decide (3 ≤ z)) && decide (z ≤ 5)) || (((k == 3 || k == 4) && decide (i = 1)) && (z == 3 || z == 4)))
def rjoinedB (x : Nd) : Bool :=
  (bareN x && x.redirs.isEmpty) && (aloneL x && (soleB (fun i z => !rjBad x.kind i z) 0 x.lists && (bif x.kind == 2 then decide (2 ≤ x.lists.length) else bif x.kind == 5 then decide (x.lists.length = 1) else decide (x.lists.length = 2))))

set_option maxHeartbeats 4000000 in
set_option maxRecDepth 100000 in
theorem rjoined_any (x : Nd) (w : World) (d : Nat) (c : List Value) (hp : NdC w w.heap.size d x c) :
    Calls Tryz.prog 58 #[.agg c.toArray] w fun e w' => e = .returned (.bool (rjoinedB x)) ∧ Below w.heap.size w w' := by
  have CA : Hid (∀ W, Below w.heap.size w W → Calls Tryz.prog 74 #[.agg c.toArray] W fun e w' => e = .returned (.bool (aloneL x)) ∧ Below W.heap.size W w') := Lib.hid fun W hW => ralone_any x W d c (hp.later hW)
  obtain ⟨a1, c1, a2, c2, a3, c3, a4, c4, a5, c5, rfl, hxz, ⟨hn1, hn2, hn3, hn4, hn5⟩, hA, hW, hRd, hLs, hAr⟩ := hp.open
  obtain ⟨n1, hl1⟩ : ∃ n, x.assigns.length = n := ⟨_, rfl⟩
  obtain ⟨n2, hl2⟩ : ∃ n, x.words.length = n := ⟨_, rfl⟩
  obtain ⟨n3, hl3⟩ : ∃ n, x.redirs.length = n := ⟨_, rfl⟩
  obtain ⟨n4, hl4⟩ : ∃ n, x.lists.length = n := ⟨_, rfl⟩
  obtain ⟨n5, hl5⟩ : ∃ n, x.arms.length = n := ⟨_, rfl⟩
  rw [hl1] at hn1 CA ⊢
  rw [hl2] at hn2 CA ⊢
  rw [hl3] at hn3 CA ⊢
  rw [hl4] at hn4 hLs CA ⊢
  rw [hl5] at hn5 CA ⊢
  have HLS := Lib.hid hLs
  have N4 := Lib.hid hl4
  have ES : Hid (decide ((0 : Int) < (n1 : Int) + (n2 : Int) + (n5 : Int) + (n3 : Int)) = !((x.assigns.isEmpty && (x.words.isEmpty && x.arms.isEmpty)) && x.redirs.isEmpty)) := Lib.hid (sum4_pos hl1 hl2 hl5 hl3)
  have BK := Lib.hid (Bk.start w 64 #[.int .i64 x.kind, .string x.name, .slice a1 n1 c1, .slice a2 n2 c2, .slice a3 n3 c3, .slice a4 n4 c4, .slice a5 n5 c5])
  obtain ⟨r, hr⟩ : ∃ r, rjoinedB x = r := ⟨_, rfl⟩
  rw [hr]
  rw [rjoinedB, bareN] at hr
  obtain ⟨xk, hxk⟩ : ∃ v, x.kind = v := ⟨_, rfl⟩
  rw [hxk] at hr CA BK ⊢
  obtain ⟨ne, hne⟩ : ∃ b, (L x.name).isEmpty = b := ⟨_, rfl⟩
  have ENE := (isEmpty_L x.name).trans hne
  obtain ⟨sm, hsm⟩ : ∃ b, (!((x.assigns.isEmpty && (x.words.isEmpty && x.arms.isEmpty)) && x.redirs.isEmpty)) = b := ⟨_, rfl⟩
  rw [hsm] at ES
  obtain ⟨al, hal⟩ : ∃ b, aloneL x = b := ⟨_, rfl⟩
  have HAL := Lib.hid hal
  rw [hal] at hr CA
  have HR : Hid (r = ((ne && !sm) && (al && (soleB (fun i z => !rjBad xk i z) 0 x.lists && (bif xk == 2 then decide (2 ≤ n4) else bif xk == 5 then decide (n4 = 1) else decide (n4 = 2)))))) := Lib.hid (by
    rw [← hr, hne, ← hsm, hl4]
    cases ne <;> cases x.assigns.isEmpty <;> cases x.words.isEmpty <;> cases x.arms.isEmpty <;> cases x.redirs.isEmpty <;> rfl)
  have f0 := ES.out
  clear hp hr hA hW hRd hLs hAr hl1 hl2 hl3 hl4 hl5 hxk hne hsm hal ES
  cases ne with
  | false =>
    have f1 : (x.name.toList.isEmpty) = false := ENE
    go_enter Tryz.func58, Tryz.ntmps58
    go_wp2_with fail
    go_ret
    exact ⟨ret_bool (by rw [HR.out]; rfl), (by repeat' (first | (with_reducible assumption) | (with_reducible exact Below.refl _ _) | (with_reducible refine below_drewN ?_ _) | (with_reducible refine below_bytes ?_ ?_ _) | (with_reducible refine Below.alloc ?_ ?_ _) | (with_reducible refine Below.drew ?_) | (with_reducible refine Below.setCell ?_ ?_ _) | go_size))⟩
  | true =>
    have f1 : (x.name.toList.isEmpty) = true := ENE
    cases sm with
    | true =>
      go_enter Tryz.func58, Tryz.ntmps58
      go_wp2_with fail
      go_ret
      exact ⟨ret_bool (by rw [HR.out]; rfl), (by repeat' (first | (with_reducible assumption) | (with_reducible exact Below.refl _ _) | (with_reducible refine below_drewN ?_ _) | (with_reducible refine below_bytes ?_ ?_ _) | (with_reducible refine Below.alloc ?_ ?_ _) | (with_reducible refine Below.drew ?_) | (with_reducible refine Below.setCell ?_ ?_ _) | go_size))⟩
    | false =>
      go_enter Tryz.func58, Tryz.ntmps58
      go_wp2_with fail
      refine (CA.out _ (by repeat' (first | (with_reducible assumption) | (with_reducible exact Below.refl _ _) | (with_reducible refine below_drewN ?_ _) | (with_reducible refine below_bytes ?_ ?_ _) | (with_reducible refine Below.alloc ?_ ?_ _) | (with_reducible refine Below.drew ?_) | (with_reducible refine Below.setCell ?_ ?_ _) | go_size))).mono ?_
      rintro e w1 ⟨rfl, hb0⟩
      have hBw1 : Below w.heap.size w w1 := since hb0 (by repeat' (first | (with_reducible assumption) | (with_reducible exact Below.refl _ _) | (with_reducible refine below_drewN ?_ _) | (with_reducible refine below_bytes ?_ ?_ _) | (with_reducible refine Below.alloc ?_ ?_ _) | (with_reducible refine Below.drew ?_) | (with_reducible refine Below.setCell ?_ ?_ _) | go_size))
      have BKw1 := Lib.hid (Bk.later BK.out (since hb0 (by repeat' (first | (with_reducible assumption) | (with_reducible exact Below.refl _ _) | (with_reducible refine below_drewN ?_ _) | (with_reducible refine below_bytes ?_ ?_ _) | (with_reducible refine Below.alloc ?_ ?_ _) | (with_reducible refine Below.drew ?_) | (with_reducible refine Below.setCell ?_ ?_ _) | go_size))))
      clear hb0
      cases al with
      | false =>
        go_wp2_with fail
        go_ret
        exact ⟨ret_bool (by rw [HR.out]; rfl), (by repeat' (first | (with_reducible assumption) | (with_reducible exact Below.refl _ _) | (with_reducible refine below_drewN ?_ _) | (with_reducible refine below_bytes ?_ ?_ _) | (with_reducible refine Below.alloc ?_ ?_ _) | (with_reducible refine Below.drew ?_) | (with_reducible refine Below.setCell ?_ ?_ _) | go_size))⟩
      | true =>
        have HR1 : Hid (r = (soleB (fun i z => !rjBad xk i z) 0 x.lists && (bif xk == 2 then decide (2 ≤ n4) else bif xk == 5 then decide (n4 = 1) else decide (n4 = 2)))) := Lib.hid (by rw [HR.out]; rfl)
        clear HR
        have K1BKw1 := Lib.hid BKw1.out.b
        have hBBKw1 := BKw1.out.hb
        have p0 := K1BKw1.out.cell 0
        have p1 := K1BKw1.out.cell 1
        have p2 := K1BKw1.out.cell 2
        have p3 := K1BKw1.out.cell 3
        have p4 := K1BKw1.out.cell 4
        have p5 := K1BKw1.out.cell 5
        have p6 := K1BKw1.out.cell 6
        have pl := K1BKw1.out.lt
        simp at p0 p1 p2 p3 p4 p5 p6
        go_wp2_with fail
        go_loopw [3] (fun i W => ∃ k : Nat, k ≤ n4 ∧ i = .int .i64 k ∧ soleTo (fun i z => !rjBad xk i z) x.lists k ∧ Bk w W 64 #[.int .i64 xk, .string x.name, .slice a1 n1 c1, .slice a2 n2 c2, .slice a3 n3 c3, .slice a4 n4 c4, .slice a5 n5 c5]) (fun i _ => n4 - (intOf i).toNat)
        case atStart => exact ⟨0, Nat.zero_le _, rfl, rfl, BKw1.out⟩
        case round =>
          clear p0 p1 p2 p3 p4 p5 p6 pl
          obtain ⟨k, hk, rfl, hto, hbk⟩ := hrel
          have HTO := Lib.hid hto
          have BK2 := Lib.hid hbk
          clear hto hbk
          have K1BK2 := Lib.hid BK2.out.b
          have hBBK2 := BK2.out.hb
          have p0 := K1BK2.out.cell 0
          have p1 := K1BK2.out.cell 1
          have p2 := K1BK2.out.cell 2
          have p3 := K1BK2.out.cell 3
          have p4 := K1BK2.out.cell 4
          have p5 := K1BK2.out.cell 5
          have p6 := K1BK2.out.cell 6
          have pl := K1BK2.out.lt
          simp at p0 p1 p2 p3 p4 p5 p6
          by_cases hlt : k < n4
          · obtain ⟨y, hy⟩ : ∃ y, x.lists[k]? = .some y := ⟨_, List.getElem?_eq_getElem (by rw [N4.out]; exact hlt)⟩
            obtain ⟨b, o, c, hi, hbB, hce, ⟨yv, rfl, hyp⟩, _⟩ := HLS.out.at 61 25 Tryz.underlying61 (by kernel_rfl) hy
            have HY := Lib.hid hy
            have hy1 : y.length = 1 := by
              have := HAL.out
              rw [aloneL, List.all_eq_true] at this
              simpa using this y (List.mem_of_getElem? hy)
            obtain ⟨z, hz⟩ : ∃ z, y = [z] := List.length_eq_one_iff.1 hy1
            obtain ⟨d2, hyp2⟩ := hyp.up
            obtain ⟨a6, c6, rfl, _⟩ := hyp.shape
            rw [hy1] at hce hyp2
            obtain ⟨b2, o2, cz, hi2, hbB2, hce2, hCz, _⟩ := hyp2.at 25 64 Tryz.underlying25 (by kernel_rfl) (k := 0) (x := z) (by rw [hz]; rfl)
            have hi3 : ∀ w' : World, (Instr.indexAt 25 (.slice a6 1 c6) (.int .i64 0)).run Tryz.prog w' = .ok (.pointer (some ⟨b2, o2, none⟩)) w' := hi2
            obtain ⟨_, _, _, _, _, _, _, _, _, _, rfl, _⟩ := hCz.open
            have e0 := (hBBK2.cell hbB).trans (hce 0 _ rfl)
            have g0 := (hBBK2.cell hbB2).trans (hce2 0 _ rfl)
            have hbB' := Nat.lt_of_lt_of_le hbB hBBK2.size
            have hbB2' := Nat.lt_of_lt_of_le hbB2 hBBK2.size
            rw [Nat.add_zero] at e0 g0
            have HSO : Hid (soleOne (fun i z => !rjBad xk i z) k y = !rjBad xk k z.kind) := Lib.hid (by rw [hz]; rfl)
            clear hy hce hyp hy1 hz hyp2 hi2 hce2 hCz
            obtain ⟨zk, hzk⟩ : ∃ v, z.kind = v := ⟨_, rfl⟩
            rw [hzk] at g0 HSO
            clear hzk
            have HBD : Hid (rjBad xk k zk = (((xk == 2 && decide (2 ≤ zk)) && decide (zk ≤ 5)) || (((xk == 5 && decide (3 ≤ zk)) && decide (zk ≤ 5)) || (((xk == 3 || xk == 4) && decide (k = 1)) && (zk == 3 || zk == 4))))) := Lib.hid rfl
            by_cases h2 : xk = 2
            · have q2 : (xk == 2) = true := by simp [h2]
              have q5 : (xk == 5) = false := by simp [h2]
              have q3 : (xk == 3) = false := by simp [h2]
              have q4 : (xk == 4) = false := by simp [h2]
              cases p2 : decide (2 ≤ zk)
              all_goals cases p5 : decide (zk ≤ 5)
              all_goals
                first
                  | (have HBT : Hid (rjBad xk k zk = true) := Lib.hid (by rw [HBD.out]; simp [q2, q5, q3, q4, p2, p5]; done)
                     have HNO := Lib.hid (soleTo_no HTO.out HY.out (by rw [HSO.out, HBT.out]; rfl))
                     clear h2
                     go_wp2_with fail
                     go_ret
                     exact ⟨ret_bool (by rw [HR1.out, HNO.out]; rfl), BK2.out.hb⟩)
                  | (have HBT : Hid (rjBad xk k zk = false) := Lib.hid (by rw [HBD.out]; simp [q2, q5, q3, q4, p2, p5]; done)
                     have HYES := Lib.hid (soleTo_step HTO.out HY.out (by rw [HSO.out, HBT.out]; rfl))
                     clear h2
                     go_wp2_with fail
                     go_roundw
                     case rel => exact ⟨k + 1, by omega, by go_num, HYES.out, BK2.out⟩
                     case measure => simp [intOf]; omega)
            · have q2 : (xk == 2) = false := by simp [h2]
              by_cases h5 : xk = 5
              · have q5 : (xk == 5) = true := by simp [h5]
                have q3 : (xk == 3) = false := by simp [h5]
                have q4 : (xk == 4) = false := by simp [h5]
                cases p3 : decide (3 ≤ zk)
                all_goals cases p5 : decide (zk ≤ 5)
                all_goals
                  first
                    | (have HBT : Hid (rjBad xk k zk = true) := Lib.hid (by rw [HBD.out]; simp [q2, q5, q3, q4, p3, p5]; done)
                       have HNO := Lib.hid (soleTo_no HTO.out HY.out (by rw [HSO.out, HBT.out]; rfl))
                       clear h2 h5
                       go_wp2_with fail
                       go_ret
                       exact ⟨ret_bool (by rw [HR1.out, HNO.out]; rfl), BK2.out.hb⟩)
                    | (have HBT : Hid (rjBad xk k zk = false) := Lib.hid (by rw [HBD.out]; simp [q2, q5, q3, q4, p3, p5]; done)
                       have HYES := Lib.hid (soleTo_step HTO.out HY.out (by rw [HSO.out, HBT.out]; rfl))
                       clear h2 h5
                       go_wp2_with fail
                       go_roundw
                       case rel => exact ⟨k + 1, by omega, by go_num, HYES.out, BK2.out⟩
                       case measure => simp [intOf]; omega)
              · have q5 : (xk == 5) = false := by simp [h5]
                by_cases hk1 : k = 1
                · have i1 : ((k : Int) == 1) = true := by simp [hk1]
                  cases q3 : (xk == 3)
                  all_goals cases q4 : (xk == 4)
                  all_goals cases z3 : (zk == 3)
                  all_goals cases z4 : (zk == 4)
                  all_goals
                    first
                      | (have HBT : Hid (rjBad xk k zk = true) := Lib.hid (by rw [HBD.out]; simp [q2, q5, q3, q4, z3, z4, hk1]; done)
                         have HNO := Lib.hid (soleTo_no HTO.out HY.out (by rw [HSO.out, HBT.out]; rfl))
                         clear h2 h5 hk1
                         go_wp2_with fail
                         go_ret
                         exact ⟨ret_bool (by rw [HR1.out, HNO.out]; rfl), BK2.out.hb⟩)
                      | (have HBT : Hid (rjBad xk k zk = false) := Lib.hid (by rw [HBD.out]; simp [q2, q5, q3, q4, z3, z4, hk1]; done)
                         have HYES := Lib.hid (soleTo_step HTO.out HY.out (by rw [HSO.out, HBT.out]; rfl))
                         clear h2 h5 hk1
                         go_wp2_with fail
                         go_roundw
                         case rel => exact ⟨k + 1, by omega, by go_num, HYES.out, BK2.out⟩
                         case measure => simp [intOf]; omega)
                · have i1 : ((k : Int) == 1) = false := by simp; omega
                  cases q3 : (xk == 3)
                  all_goals cases q4 : (xk == 4)
                  all_goals
                    first
                      | (have HBT : Hid (rjBad xk k zk = true) := Lib.hid (by rw [HBD.out]; simp [q2, q5, q3, q4, hk1]; done)
                         have HNO := Lib.hid (soleTo_no HTO.out HY.out (by rw [HSO.out, HBT.out]; rfl))
                         clear h2 h5 hk1
                         go_wp2_with fail
                         go_ret
                         exact ⟨ret_bool (by rw [HR1.out, HNO.out]; rfl), BK2.out.hb⟩)
                      | (have HBT : Hid (rjBad xk k zk = false) := Lib.hid (by rw [HBD.out]; simp [q2, q5, q3, q4, hk1]; done)
                         have HYES := Lib.hid (soleTo_step HTO.out HY.out (by rw [HSO.out, HBT.out]; rfl))
                         clear h2 h5 hk1
                         go_wp2_with fail
                         go_roundw
                         case rel => exact ⟨k + 1, by omega, by go_num, HYES.out, BK2.out⟩
                         case measure => simp [intOf]; omega)
          · have HS : Hid (soleB (fun i z => !rjBad xk i z) 0 x.lists = true) := Lib.hid (soleTo_end HTO.out (by rw [N4.out]; omega))
            have HR2 : Hid (r = (bif xk == 2 then decide (2 ≤ n4) else bif xk == 5 then decide (n4 = 1) else decide (n4 = 2))) := Lib.hid (by rw [HR1.out, HS.out, Bool.true_and])
            cases hk2 : (xk == 2) with
            | true =>
              have HR3 : Hid (r = decide (2 ≤ n4)) := Lib.hid (by rw [HR2.out, hk2]; rfl)
              go_wp2_with fail
              go_ret
              exact ⟨ret_bool (by rw [HR3.out]; simp; try omega), BK2.out.hb⟩
            | false =>
              cases hk5 : (xk == 5) with
              | true =>
                have HR3 : Hid (r = decide (n4 = 1)) := Lib.hid (by rw [HR2.out, hk2, hk5]; rfl)
                go_wp2_with fail
                go_ret
                exact ⟨ret_bool (by rw [HR3.out, Bool.eq_iff_iff]; simp; try omega), BK2.out.hb⟩
              | false =>
                have HR3 : Hid (r = decide (n4 = 2)) := Lib.hid (by rw [HR2.out, hk2, hk5]; rfl)
                go_wp2_with fail
                go_ret
                exact ⟨ret_bool (by rw [HR3.out, Bool.eq_iff_iff]; simp; try omega), BK2.out.hb⟩
end Go.Proofs.YtnackmnoldkihaaGreatDoor
