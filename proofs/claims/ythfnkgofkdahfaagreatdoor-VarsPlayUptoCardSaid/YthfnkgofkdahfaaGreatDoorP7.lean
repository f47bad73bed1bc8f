/-
  The walk of is: all that is told is the document's.
-/
import Derived.Test.YthfnkgofkdahfaaGreatDoorP6
import Derived.Test.YthfnkgofkdahfaaGreatDoorB14a
import Derived.Deep.QuietTactic
namespace Go.Proofs.YthfnkgofkdahfaaGreatDoor
open Go.RowKit

/-- What isn't set has no text. -/
def Nul (l : List (Nm × Xd)) : Prop := ∀ p ∈ l, p.2.set = false → p.2.text = []
theorem Nul.find {l : List (Nm × Xd)} (h : Nul l) (k : Nm) (hs : (find l k).set = false) : (Go.Proofs.YthfnkgofkdahfaaGreatDoor.find l k).text = [] := by
  by_cases e : Go.Proofs.YthfnkgofkdahfaaGreatDoor.find l k = d0
  · rw [e]; rfl
  · exact h _ (find_mem e) hs
theorem Nul.put {l : List (Nm × Xd)} (h : Nul l) (k : Nm) {x : Xd} (hx : x.set = false → x.text = []) : Nul (putL l k x) := by
  intro p hp
  rw [putL, List.mem_append, List.mem_cons] at hp
  rcases hp with hp | rfl | hp
  · exact h p (List.mem_filter.1 hp).1
  · exact hx
  · exact h p (List.mem_filter.1 hp).1
theorem Nul.newL (es : List Nm) : Nul (newL es) := by
  have key : ∀ (es : List Nm) (l : List (Nm × Xd)), Nul l → Nul (es.foldl addE l) := by
    intro es
    induction es with
    | nil => exact fun l h => h
    | cons s es ih =>
      intro l h
      refine ih _ ?_
      rw [addE]
      split
      · exact h.put _ fun e => by cases e
      · exact h
  exact key es [] fun p hp => by cases hp
theorem Nul.doR {l : List (Nm × Xd)} (h : Nul l) (xs : List ByteArray) (st : Int) (o : Opd) : Nul (doR l xs st o).1 := by
  unfold Go.Proofs.YthfnkgofkdahfaaGreatDoor.doR
  repeat' split
  all_goals first
    | exact h
    | (simp only [setR, unsetR, expR, fixR]; (repeat' split) <;> first
        | exact h
        | exact h.put _ fun _ => rfl
        | exact h.put _ fun e => by cases e
        | exact h.put _ fun e => h.find _ e)
theorem param_nul {l : List (Nm × Xd)} (h : Nul l) (xs : List Nm) (st : Int) (s : Nm) (hs : (paramL l xs st s).2 = false) : (paramL l xs st s).1 = [] := by
  by_cases h1 : s = [48]
  · rw [paramL, if_pos h1] at hs; cases hs
  by_cases h2 : s = [35]
  · rw [paramL, if_neg h1, if_pos h2] at hs; cases hs
  by_cases h3 : s = [63]
  · rw [paramL, if_neg h1, if_neg h2, if_pos h3] at hs; cases hs
  by_cases h4 : s = [36]
  · rw [paramL, if_neg h1, if_neg h2, if_neg h3, if_pos h4] at hs; cases hs
  by_cases h5 : s = [45]
  · rw [paramL, if_neg h1, if_neg h2, if_neg h3, if_neg h4, if_pos h5] at hs; cases hs
  by_cases h6 : s = [33]
  · rw [paramL, if_neg h1, if_neg h2, if_neg h3, if_neg h4, if_neg h5, if_pos h6]
  by_cases h7 : s = [64] ∨ s = [42]
  · rw [paramL, if_neg h1, if_neg h2, if_neg h3, if_neg h4, if_neg h5, if_neg h6, if_pos h7] at hs ⊢
    simp only [decide_eq_false_iff_not, Nat.not_lt, Nat.le_zero_eq] at hs
    obtain rfl : xs = [] := List.length_eq_zero_iff.1 hs
    rfl
  rw [paramL, if_neg h1, if_neg h2, if_neg h3, if_neg h4, if_neg h5, if_neg h6, if_neg h7] at hs ⊢
  by_cases h8 : numB s = true
  · rw [if_pos h8] at hs ⊢
    by_cases h9 : valN s ≤ xs.length
    · rw [if_pos h9] at hs; cases hs
    · rw [if_neg h9]
  · rw [if_neg h8] at hs ⊢
    exact h.find s hs

section
variable {lo lo' g mb n B : Nat} {V : Value} {l : List (Nm × Xd)} {xs : List ByteArray} {st : Int}
set_option maxHeartbeats 4000000 in
set_option maxRecDepth 100000 in
theorem is_any (nm pm : ByteArray) (w : World) (m0 : Int) (hV : VSt w lo g mb n l xs st) (hR : RSt w lo' B V l xs st) (hB : B ≤ w.heap.size) (hlo : 0 < lo) (hn : n ≤ 900) (hl : l.length ≤ 900) (hx : xs.length ≤ 50) (hz : ∀ s ∈ xs, s.size ≤ 1048576) (hst : -9223372036854775808 ≤ st ∧ st ≤ 9223372036854775807)
    (hnm : nm.size ≤ 100) (hpm : pm.size ≤ 100) (htab : Tab w) (hm0 : w.cell? ⟨0, 0, none⟩ = some (.int .i64 m0)) (hnul : Nul l) :
    Calls Tryz.prog 10 #[.pointer (some ⟨g, 0, none⟩), V, .string nm, .string pm] w fun e w' => e = .returned (.bool true) ∧ Below w.heap.size w w' := by
  have hgood := hV.good
  have hlt := hV.lt
  obtain ⟨vL, a, c, rfl, hL, hE⟩ := hR
  obtain ⟨va, vc, rfl⟩ := own_shape hL
  obtain ⟨N, hN⟩ : ∃ n, n = xs.length := ⟨_, rfl⟩
  obtain ⟨M, hM⟩ : ∃ n, n = l.length := ⟨_, rfl⟩
  have HV := Lib.hid hV
  have HRW : Hid (∀ W, Below w.heap.size w W → RSt W lo' B (.agg #[.slice va M vc, .string ⟨#[115, 104]⟩, .slice a N c, .int .i64 st]) l xs st) := Lib.hid fun W hW => by
    rw [hN, hM]
    exact ⟨_, a, c, rfl, own_below hL hW, hE.below (hW.mono hB)⟩
  obtain ⟨⟨t0, s0, e0, f0⟩, hf⟩ : ∃ x, find l (L nm) = x := ⟨_, rfl⟩
  have HT0 : Hid (s0 = false → t0 = []) := Lib.hid (by have := hnul.find (L nm); rwa [hf] at this)
  have CG : Hid (∀ W, Below w.heap.size w W → Calls Tryz.prog 27 #[.pointer (some ⟨g, 0, none⟩), .string nm] W fun e w' => e = .returned (.tuple #[.string ⟨t0.toArray⟩, .bool s0]) ∧ Below W.heap.size W w') := Lib.hid fun W hW => by
    have := vget_any nm W (hV.below hW) (by unfold maxLen; omega)
    rwa [hf] at this
  have CF : Hid (∀ W, Below w.heap.size w W → Calls Tryz.prog 28 #[.agg #[.slice va M vc, .string ⟨#[115, 104]⟩, .slice a N c, .int .i64 st], .string nm] W fun e w' =>
      e = .returned (.agg #[.string nm, .string ⟨t0.toArray⟩, .bool s0, .bool e0, .bool f0]) ∧ Below W.heap.size W w') := Lib.hid fun W hW => by
    rw [hN, hM]
    exact rfind_any _ l a xs.length c st nm t0 s0 e0 f0 W lo' (own_below hL hW) (by omega) hf
  have CX : Hid (∀ W, Below w.heap.size w W → Calls Tryz.prog 29 #[.pointer (some ⟨g, 0, none⟩), .string nm] W fun e w' => e = .returned (.bool f0) ∧ w' = W) := Lib.hid fun W hW => by
    have := vfixed_any nm W (hV.below hW) (by unfold maxLen; omega)
    rw [hf] at this
    exact this.mono fun e w' h => ⟨h.1, h.2.symm⟩
  have CP1 : Hid (∀ W, Below w.heap.size w W → Calls Tryz.prog 11 #[.pointer (some ⟨g, 0, none⟩), .string pm] W fun e w' => e = .returned (.tuple #[.string ⟨(paramL l (xs.map L) st (L pm)).1.toArray⟩, .bool (paramL l (xs.map L) st (L pm)).2]) ∧ Below W.heap.size W w') := Lib.hid fun W hW => vparam_any pm W (hV.below hW) hx hz hst hpm (htab.on hW)
  have CP2 : Hid (∀ W, Below w.heap.size w W → OkP (L pm) → Calls Tryz.prog 32 #[.agg #[.slice va M vc, .string ⟨#[115, 104]⟩, .slice a N c, .int .i64 st], .string pm] W fun e w' => e = .returned (.tuple #[.string ⟨(paramL l (xs.map L) st (L pm)).1.toArray⟩, .bool (paramL l (xs.map L) st (L pm)).2]) ∧ Below W.heap.size W w') := Lib.hid fun W hW ho => rparam_any pm W (HRW.out W hW) (Nat.le_trans hB hW.size) (by omega) hgood.2 hx hz hst ho
  have HPN : Hid ((paramL l (xs.map L) st (L pm)).2 = false → (paramL l (xs.map L) st (L pm)).1 = []) := Lib.hid (param_nul hnul _ _ _)
  have hKl : ((envR l).map entS).length ≤ 1000 := by
    rw [List.length_map]
    have := envR_le l l.length
    rw [List.take_length] at this
    omega
  obtain ⟨K, hK⟩ : ∃ k, k = ((envR l).map entS).length := ⟨_, rfl⟩
  have CE1 : Hid (∀ W, Below w.heap.size w W → Calls Tryz.prog 34 #[.pointer (some ⟨g, 0, none⟩)] W fun e w' => ∃ a1 c1, e = .returned (.slice a1 K c1) ∧ Elems w' w'.heap.size a1 K (((envR l).map entS).map .string) ∧ Below W.heap.size W w') := Lib.hid fun W hW =>
    (venv_any W m0 (hV.below hW) hlo (by omega) ((hW.cell (p := ⟨0, 0, none⟩) (show 0 < w.heap.size by omega)).trans hm0)).mono fun e w' ⟨v', h1, h2, h3⟩ => by
      obtain ⟨a1, c1, rfl, h4⟩ := h2.elems (by unfold maxLen; omega)
      rw [← hK] at h1 h4
      exact ⟨a1, c1, h1, h4, h3⟩
  have CE2 : Hid (∀ W, Below w.heap.size w W → Calls Tryz.prog 35 #[.agg #[.slice va M vc, .string ⟨#[115, 104]⟩, .slice a N c, .int .i64 st]] W fun e w' => ∃ a1 c1, e = .returned (.slice a1 K c1) ∧ Elems w' w'.heap.size a1 K (((envR l).map entS).map .string) ∧ Below W.heap.size W w') := Lib.hid fun W hW =>
    (renv_any W (HRW.out W hW) (by omega) hgood.2).mono fun e w' ⟨v', h1, h2, h3⟩ => by
      obtain ⟨a1, c1, rfl, h4⟩ := h2.elems (by unfold maxLen; omega)
      rw [← hK] at h1 h4
      exact ⟨a1, c1, h1, h4, h3⟩
  have CAr : Hid (∀ W, Below w.heap.size w W → Calls Tryz.prog 36 #[.pointer (some ⟨g, 0, none⟩)] W fun e w' => ∃ a1 c1, e = .returned (.slice a1 N c1) ∧ Elems w' w'.heap.size a1 N (xs.map .string) ∧ Below W.heap.size W w') := Lib.hid fun W hW => by
    rw [hN]
    exact vargs_any W (hV.below hW) (by omega)
  have HXE : Hid (∀ W, Below w.heap.size w W → Elems W W.heap.size a N (xs.map .string)) := Lib.hid fun W hW => by
    rw [hN]
    exact (hE.1.below (hW.mono hB)).mono (Nat.le_trans hB hW.size)
  have CSt : Hid (∀ W, Below w.heap.size w W → Calls Tryz.prog 37 #[.pointer (some ⟨g, 0, none⟩)] W fun e w' => e = .returned (.int .i64 st) ∧ W = w') := Lib.hid fun W hW => vstatus_any W (hV.below hW)
  have CSp : Hid (∀ W, Below w.heap.size w W → Calls Tryz.prog 38 #[.pointer (some ⟨g, 0, none⟩)] W fun e w' => e = .returned (.string ⟨(splitL l).toArray⟩) ∧ Below W.heap.size W w') := Lib.hid fun W hW => vsplit_any W (hV.below hW)
  have CSr : Hid (∀ W, Below w.heap.size w W → Calls Tryz.prog 39 #[.agg #[.slice va M vc, .string ⟨#[115, 104]⟩, .slice a N c, .int .i64 st]] W fun e w' => e = .returned (.string ⟨(splitL l).toArray⟩) ∧ Below W.heap.size W w') := Lib.hid fun W hW => rsplit_any W (HRW.out W hW) (by omega)
  have CNm : Hid (∀ W, Calls Tryz.prog 15 #[.string pm] W fun e w' => e = .returned (.bool (nameL (L pm))) ∧ W = w') := Lib.hid fun W => rname_any pm W (by unfold maxLen; omega)
  have CNu : Hid (∀ W, Calls Tryz.prog 30 #[.string pm] W fun e w' => e = .returned (.bool (numB (L pm))) ∧ W = w') := Lib.hid fun W => rnumber_any pm W (by unfold maxLen; omega)
  have CSg : Hid (∀ W, Calls Tryz.prog 31 #[.string pm] W fun e w' => e = .returned (.bool (specB (L pm))) ∧ W = w') := Lib.hid fun W => rspecial_any pm W
  have HKK := Lib.hid hK
  obtain ⟨⟨p0, q0⟩, hpq⟩ : ∃ x, paramL l (xs.map L) st (L pm) = x := ⟨_, rfl⟩
  rw [hpq] at CP1 CP2 HPN
  simp only at CP1 CP2 HPN
  obtain ⟨sp, hsp⟩ : ∃ x, splitL l = x := ⟨_, rfl⟩
  rw [hsp] at CSp CSr
  obtain ⟨b1, hb1⟩ : ∃ x, nameL (L pm) = x := ⟨_, rfl⟩
  obtain ⟨b2, hb2⟩ : ∃ x, numB (L pm) = x := ⟨_, rfl⟩
  obtain ⟨b3, hb3⟩ : ∃ x, specB (L pm) = x := ⟨_, rfl⟩
  have HOK : Hid ((b1 || (b2 || b3)) = true → OkP (L pm)) := Lib.hid fun h => by
    rw [OkP, hb1, hb2, hb3]
    cases b1
    · cases b2
      · cases b3
        · cases h
        · exact .inr (.inr rfl)
      · exact .inr (.inl rfl)
    · exact .inl rfl
  rw [hb1] at CNm
  rw [hb2] at CNu
  rw [hb3] at CSg
  clear hpq hsp hb1 hb2 hb3 hK hKl
  have HGOOD := Lib.hid hgood
  have HNUL := Lib.hid hnul
  have HTB := Lib.hid htab
  have HM0 : Hid (∀ W, Below w.heap.size w W → W.cell? ⟨0, 0, none⟩ = some (.int .i64 m0)) := Lib.hid fun W hW => (hW.cell (p := ⟨0, 0, none⟩) (show 0 < w.heap.size by omega)).trans hm0
  have HN := Lib.hid hN
  have HM := Lib.hid hM
  have HZ := Lib.hid hz
  have HST := Lib.hid hst
  have HBD := Lib.hid (And.intro hlo (And.intro hn (And.intro hl (And.intro hx (And.intro hnm (And.intro hpm hB))))))
  rw [← hN, ← hM]
  clear hgood hlt hV hL hE hN hM hf hz hst hnm hpm htab hm0 hnul hlo hn hl hx hB
  go_enter Tryz.func10, Tryz.ntmps10
  go_wp2_with fail
  obtain ⟨w3, hw3⟩ : ∃ W, W = w.alloc (.cells #[.slice va M vc, .string ⟨#[115, 104]⟩, .slice a N c, .int .i64 st] 30) := ⟨_, rfl⟩
  have HB3 : Hid (Below w.heap.size w w3) := Lib.hid (by rw [hw3]; exact (Below.refl _ _).alloc (Nat.le_refl _) _)
  have X5 : Hid (Blk w3 w.heap.size 30 #[.slice va M vc, .string ⟨#[115, 104]⟩, .slice a N c, .int .i64 st]) := Lib.hid (by rw [hw3]; exact Blk.new w _ _)
  rw [← hw3]
  clear hw3
  refine (CG.out _ HB3.out).mono ?_
  rintro e w4 ⟨rfl, hb4⟩
  have HB4 : Hid (Below w3.heap.size w3 w4) := Lib.hid hb4
  have HBW4 : Hid (Below w.heap.size w w4) := Lib.hid (HB3.out.trans (hb4.mono HB3.out.size))
  have y50 := (X5.out.below hb4 X5.out.lt).cell 0
  have y51 := (X5.out.below hb4 X5.out.lt).cell 1
  have y52 := (X5.out.below hb4 X5.out.lt).cell 2
  have y53 := (X5.out.below hb4 X5.out.lt).cell 3
  simp at y50 y51 y52 y53
  clear hb4
  go_wp2_with fail
  refine (CF.out _ HBW4.out).mono ?_
  rintro e w5 ⟨rfl, hb5⟩
  have HB5 : Hid (Below w3.heap.size w3 w5) := Lib.hid (HB4.out.trans (hb5.mono HB4.out.size))
  have HBW5 : Hid (Below w.heap.size w w5) := Lib.hid (HB3.out.trans (HB5.out.mono HB3.out.size))
  have HS5 : Hid (w.heap.size < w5.heap.size) := Lib.hid (Nat.lt_of_lt_of_le X5.out.lt HB5.out.size)
  have hs5 := HS5.out
  clear hb5 y50 y51 y52 y53
  have y50 := (X5.out.below HB5.out X5.out.lt).cell 0
  have y51 := (X5.out.below HB5.out X5.out.lt).cell 1
  have y52 := (X5.out.below HB5.out X5.out.lt).cell 2
  have y53 := (X5.out.below HB5.out X5.out.lt).cell 3
  simp at y50 y51 y52 y53
  go_wp2_with fail
  obtain ⟨w6, hw6⟩ : ∃ W, W = w5.alloc (.cells #[.string nm, .string ⟨t0.toArray⟩, .bool s0, .bool e0, .bool f0] 52) := ⟨_, rfl⟩
  have HB6 : Hid (Below w3.heap.size w3 w6) := Lib.hid (by rw [hw6]; exact HB5.out.alloc HB5.out.size _)
  have HBW6 : Hid (Below w.heap.size w w6) := Lib.hid (HB3.out.trans (HB6.out.mono HB3.out.size))
  have X11 : Hid (Blk w6 w5.heap.size 52 #[.string nm, .string ⟨t0.toArray⟩, .bool s0, .bool e0, .bool f0]) := Lib.hid (by rw [hw6]; exact Blk.new w5 _ _)
  rw [← hw6]
  clear hw6 y50 y51 y52 y53
  have z1 := X11.out.cell 1
  have z2 := X11.out.cell 2
  have z4 := X11.out.cell 4
  simp at z1 z2 z4
  cases s0 with
  | false =>
    obtain rfl := HT0.out rfl
    go_wp2_with fail
    go_quiet ((go_at_call 29; exact Calls.quiet_of_same (CX.out _ (by first | exact HBW6.out | exact below_drewN HBW6.out _ | exact Below.drew HBW6.out))))
    obtain ⟨w7, hw7⟩ : ∃ W, W = w6.drewN nq := ⟨_, rfl⟩
    have HB7 : Hid (Below w3.heap.size w3 w7) := Lib.hid (by rw [hw7]; exact below_drewN HB6.out nq)
    have HBW7 : Hid (Below w.heap.size w w7) := Lib.hid (by rw [hw7]; exact below_drewN HBW6.out nq)
    rw [← hw7]
    clear hw7 z1 z2 z4
    go_wp2_with fail
    refine (CNm.out _).mono ?_
    rintro e w8 ⟨rfl, rfl⟩
    cases b1 with
    | true =>
      have HO := Lib.hid (HOK.out rfl)
      go_wp2_with fail
      have P1 := Lib.hid (CP1.out w7 HBW7.out)
      refine P1.out.mono ?_
      rintro e w8 ⟨rfl, hb8⟩
      have HB8 : Hid (Below w3.heap.size w3 w8) := Lib.hid (HB7.out.trans (hb8.mono HB7.out.size))
      have HBW8 : Hid (Below w.heap.size w w8) := Lib.hid (HB3.out.trans (HB8.out.mono HB3.out.size))
      clear hb8
      have y50 := (X5.out.below HB8.out X5.out.lt).cell 0
      have y51 := (X5.out.below HB8.out X5.out.lt).cell 1
      have y52 := (X5.out.below HB8.out X5.out.lt).cell 2
      have y53 := (X5.out.below HB8.out X5.out.lt).cell 3
      simp at y50 y51 y52 y53
      have P2 := Lib.hid (CP2.out w8 HBW8.out HO.out)
      go_wp2_with fail
      refine P2.out.mono ?_
      rintro e w9 ⟨rfl, hb9⟩
      have HB9 : Hid (Below w3.heap.size w3 w9) := Lib.hid (HB8.out.trans (hb9.mono HB8.out.size))
      have HBW9 : Hid (Below w.heap.size w w9) := Lib.hid (HB3.out.trans (HB9.out.mono HB3.out.size))
      clear hb9 y50 y51 y52 y53
      cases q0 with
      | false =>
        obtain rfl := HPN.out rfl
        go_wp2_with fail
        have hl9 : w.heap.size < w9.heap.size := Nat.lt_of_lt_of_le X5.out.lt HB9.out.size
        have y50 := (X5.out.below HB9.out X5.out.lt).cell 0
        have y51 := (X5.out.below HB9.out X5.out.lt).cell 1
        have y52 := (X5.out.below HB9.out X5.out.lt).cell 2
        have y53 := (X5.out.below HB9.out X5.out.lt).cell 3
        simp at y50 y51 y52 y53
        have CS1 : Hid (∀ (V W1 W2 : World) (a1 : Option Addr) (c1 : Nat) (a2 : Option Addr) (c2 : Nat), Elems W1 W1.heap.size a1 K (((envR l).map entS).map .string) → Elems W2 W2.heap.size a2 K (((envR l).map entS).map .string) → Below W1.heap.size W1 V → Below W2.heap.size W2 V → Below w9.heap.size w9 V →
            Calls Tryz.prog 33 #[.slice a1 K c1, .slice a2 K c2] V fun e w' => e = .returned (.bool true) ∧ Below w9.heap.size w9 w') := Lib.hid fun V W1 W2 a1 c1 a2 c2 h1 h2 k1 k2 h3 =>
          (same_any a1 a2 K c1 c2 _ V V.heap.size ((h1.below k1).mono k1.size) ((h2.below k2).mono k2.size)).mono fun e w' h => ⟨h.1, h3.trans (h.2.mono h3.size)⟩
        have CS2 : Hid (∀ (V W1 : World) (a1 : Option Addr) (c1 : Nat), Elems W1 W1.heap.size a1 N (xs.map .string) → Below W1.heap.size W1 V → Below w9.heap.size w9 V →
            Calls Tryz.prog 33 #[.slice a1 N c1, .slice a N c] V fun e w' => e = .returned (.bool true) ∧ Below w9.heap.size w9 w') := Lib.hid fun V W1 a1 c1 h1 k1 h3 =>
          (same_any a1 a N c1 c _ V V.heap.size ((h1.below k1).mono k1.size) (HXE.out V (HBW9.out.trans (h3.mono HBW9.out.size)))).mono fun e w' h => ⟨h.1, h3.trans (h.2.mono h3.size)⟩
        have E1 : Hid (∀ W, Below w9.heap.size w9 W → Calls Tryz.prog 34 #[.pointer (some ⟨g, 0, none⟩)] W fun e w' => ∃ a1 c1, e = .returned (.slice a1 K c1) ∧ Elems w' w'.heap.size a1 K (((envR l).map entS).map .string) ∧ Below W.heap.size W w' ∧ Below w9.heap.size w9 w') := Lib.hid fun W hW => (CE1.out W (HBW9.out.trans (hW.mono HBW9.out.size))).mono fun e w' ⟨a1, c1, h1, h2, h3⟩ => ⟨a1, c1, h1, h2, h3, hW.trans (h3.mono hW.size)⟩
        have E2 : Hid (∀ W, Below w9.heap.size w9 W → Calls Tryz.prog 35 #[.agg #[.slice va M vc, .string ⟨#[115, 104]⟩, .slice a N c, .int .i64 st]] W fun e w' => ∃ a1 c1, e = .returned (.slice a1 K c1) ∧ Elems w' w'.heap.size a1 K (((envR l).map entS).map .string) ∧ Below W.heap.size W w' ∧ Below w9.heap.size w9 w') := Lib.hid fun W hW => (CE2.out W (HBW9.out.trans (hW.mono HBW9.out.size))).mono fun e w' ⟨a1, c1, h1, h2, h3⟩ => ⟨a1, c1, h1, h2, h3, hW.trans (h3.mono hW.size)⟩
        have E3 : Hid (∀ W, Below w9.heap.size w9 W → Calls Tryz.prog 36 #[.pointer (some ⟨g, 0, none⟩)] W fun e w' => ∃ a1 c1, e = .returned (.slice a1 N c1) ∧ Elems w' w'.heap.size a1 N (xs.map .string) ∧ Below W.heap.size W w' ∧ Below w9.heap.size w9 w') := Lib.hid fun W hW => (CAr.out W (HBW9.out.trans (hW.mono HBW9.out.size))).mono fun e w' ⟨a1, c1, h1, h2, h3⟩ => ⟨a1, c1, h1, h2, h3, hW.trans (h3.mono hW.size)⟩
        have E4 : Hid (∀ W, Below w9.heap.size w9 W → Calls Tryz.prog 37 #[.pointer (some ⟨g, 0, none⟩)] W fun e w' => e = .returned (.int .i64 st) ∧ W = w') := Lib.hid fun W hW => CSt.out W (HBW9.out.trans (hW.mono HBW9.out.size))
        have E5 : Hid (∀ W, Below w9.heap.size w9 W → Calls Tryz.prog 38 #[.pointer (some ⟨g, 0, none⟩)] W fun e w' => e = .returned (.string ⟨sp.toArray⟩) ∧ Below w9.heap.size w9 w') := Lib.hid fun W hW => (CSp.out W (HBW9.out.trans (hW.mono HBW9.out.size))).mono fun e w' ⟨h1, h3⟩ => ⟨h1, hW.trans (h3.mono hW.size)⟩
        have E6 : Hid (∀ W, Below w9.heap.size w9 W → Calls Tryz.prog 39 #[.agg #[.slice va M vc, .string ⟨#[115, 104]⟩, .slice a N c, .int .i64 st]] W fun e w' => e = .returned (.string ⟨sp.toArray⟩) ∧ Below w9.heap.size w9 w') := Lib.hid fun W hW => (CSr.out W (HBW9.out.trans (hW.mono HBW9.out.size))).mono fun e w' ⟨h1, h3⟩ => ⟨h1, hW.trans (h3.mono hW.size)⟩
        go_region_held3 (fun W => W.cell? ⟨w.heap.size, 0, none⟩ = some (.slice va M vc) ∧ W.cell? ⟨w.heap.size, 1, none⟩ = some (.string ⟨#[115, 104]⟩) ∧ W.cell? ⟨w.heap.size, 2, none⟩ = some (.slice a N c) ∧ W.cell? ⟨w.heap.size, 3, none⟩ = some (.int .i64 st)) (first | exact ⟨d0, d1, d2, d3⟩ | exact ⟨y50, y51, y52, y53⟩ | go_keep) (first
          | (go_at_call 34; with_reducible refine (E1.out _ ?_).mono ?_; (first | exact Below.refl _ _ | exact Below.drew (Below.refl _ _) | exact k2); rintro e x1 ⟨a1, c1, rfl, g1, j1, k1⟩;
             (try clear d0 d1 d2 d3); have d0 := ((k1).cell (p := ⟨w.heap.size, 0, none⟩) hl9).trans y50; have d1 := ((k1).cell (p := ⟨w.heap.size, 1, none⟩) hl9).trans y51; have d2 := ((k1).cell (p := ⟨w.heap.size, 2, none⟩) hl9).trans y52; have d3 := ((k1).cell (p := ⟨w.heap.size, 3, none⟩) hl9).trans y53
             )
          | (go_at_call 35; with_reducible refine (E2.out _ ?_).mono ?_; (first | exact Below.refl _ _ | exact Below.drew (Below.refl _ _) | exact k1); rintro e x2 ⟨a2, c2, rfl, g2, j2, k2⟩;
             (try clear d0 d1 d2 d3); have d0 := ((k2).cell (p := ⟨w.heap.size, 0, none⟩) hl9).trans y50; have d1 := ((k2).cell (p := ⟨w.heap.size, 1, none⟩) hl9).trans y51; have d2 := ((k2).cell (p := ⟨w.heap.size, 2, none⟩) hl9).trans y52; have d3 := ((k2).cell (p := ⟨w.heap.size, 3, none⟩) hl9).trans y53
             )
          | (go_at_call 33; with_reducible refine (CS1.out _ x1 x2 a1 c1 a2 c2 g1 g2 ?_ ?_ ?_).mono ?_; (first | exact j2 | exact Below.refl _ _); (first | exact j1 | exact Below.refl _ _); (first | exact k2 | exact k1); rintro e x3 ⟨rfl, k3⟩;
             (try clear d0 d1 d2 d3); have d0 := ((k3).cell (p := ⟨w.heap.size, 0, none⟩) hl9).trans y50; have d1 := ((k3).cell (p := ⟨w.heap.size, 1, none⟩) hl9).trans y51; have d2 := ((k3).cell (p := ⟨w.heap.size, 2, none⟩) hl9).trans y52; have d3 := ((k3).cell (p := ⟨w.heap.size, 3, none⟩) hl9).trans y53
             )
          | (go_at_call 36; with_reducible refine (E3.out _ k3).mono ?_; rintro e x4 ⟨a4, c4, rfl, g4, j4, k4⟩;
             (try clear d0 d1 d2 d3); have d0 := ((k4).cell (p := ⟨w.heap.size, 0, none⟩) hl9).trans y50; have d1 := ((k4).cell (p := ⟨w.heap.size, 1, none⟩) hl9).trans y51; have d2 := ((k4).cell (p := ⟨w.heap.size, 2, none⟩) hl9).trans y52; have d3 := ((k4).cell (p := ⟨w.heap.size, 3, none⟩) hl9).trans y53
             )
          | (go_at_call 33; with_reducible refine (CS2.out _ x4 a4 c4 g4 (Below.refl _ _) k4).mono ?_; rintro e x5 ⟨rfl, k5⟩;
             (try clear d0 d1 d2 d3); have d0 := ((k5).cell (p := ⟨w.heap.size, 0, none⟩) hl9).trans y50; have d1 := ((k5).cell (p := ⟨w.heap.size, 1, none⟩) hl9).trans y51; have d2 := ((k5).cell (p := ⟨w.heap.size, 2, none⟩) hl9).trans y52; have d3 := ((k5).cell (p := ⟨w.heap.size, 3, none⟩) hl9).trans y53
             )
          | (go_at_call 37; with_reducible refine (E4.out _ k5).mono ?_; rintro e x5b ⟨rfl, rfl⟩)
          | (go_at_call 38; with_reducible refine (E5.out _ ?_).mono ?_; (first | exact k5 | exact k7); rintro e x6 ⟨rfl, k6⟩;
             (try clear d0 d1 d2 d3); have d0 := ((k6).cell (p := ⟨w.heap.size, 0, none⟩) hl9).trans y50; have d1 := ((k6).cell (p := ⟨w.heap.size, 1, none⟩) hl9).trans y51; have d2 := ((k6).cell (p := ⟨w.heap.size, 2, none⟩) hl9).trans y52; have d3 := ((k6).cell (p := ⟨w.heap.size, 3, none⟩) hl9).trans y53
             )
          | (go_at_call 39; with_reducible refine (E6.out _ ?_).mono ?_; (first | exact k5 | exact k6); rintro e x7 ⟨rfl, k7⟩;
             (try clear d0 d1 d2 d3); have d0 := ((k7).cell (p := ⟨w.heap.size, 0, none⟩) hl9).trans y50; have d1 := ((k7).cell (p := ⟨w.heap.size, 1, none⟩) hl9).trans y51; have d2 := ((k7).cell (p := ⟨w.heap.size, 2, none⟩) hl9).trans y52; have d3 := ((k7).cell (p := ⟨w.heap.size, 3, none⟩) hl9).trans y53
             ))
        all_goals
          go_wp2
          go_ret
          exact ⟨rfl, HBW9.out.trans ((by first | exact k7 | exact k6 | exact Below.drew k7 | exact Below.drew k6 : Below w9.heap.size w9 _).mono HBW9.out.size)⟩
      | true =>
        go_wp2_with fail
        have hl9 : w.heap.size < w9.heap.size := Nat.lt_of_lt_of_le X5.out.lt HB9.out.size
        have y50 := (X5.out.below HB9.out X5.out.lt).cell 0
        have y51 := (X5.out.below HB9.out X5.out.lt).cell 1
        have y52 := (X5.out.below HB9.out X5.out.lt).cell 2
        have y53 := (X5.out.below HB9.out X5.out.lt).cell 3
        simp at y50 y51 y52 y53
        have CS1 : Hid (∀ (V W1 W2 : World) (a1 : Option Addr) (c1 : Nat) (a2 : Option Addr) (c2 : Nat), Elems W1 W1.heap.size a1 K (((envR l).map entS).map .string) → Elems W2 W2.heap.size a2 K (((envR l).map entS).map .string) → Below W1.heap.size W1 V → Below W2.heap.size W2 V → Below w9.heap.size w9 V →
            Calls Tryz.prog 33 #[.slice a1 K c1, .slice a2 K c2] V fun e w' => e = .returned (.bool true) ∧ Below w9.heap.size w9 w') := Lib.hid fun V W1 W2 a1 c1 a2 c2 h1 h2 k1 k2 h3 =>
          (same_any a1 a2 K c1 c2 _ V V.heap.size ((h1.below k1).mono k1.size) ((h2.below k2).mono k2.size)).mono fun e w' h => ⟨h.1, h3.trans (h.2.mono h3.size)⟩
        have CS2 : Hid (∀ (V W1 : World) (a1 : Option Addr) (c1 : Nat), Elems W1 W1.heap.size a1 N (xs.map .string) → Below W1.heap.size W1 V → Below w9.heap.size w9 V →
            Calls Tryz.prog 33 #[.slice a1 N c1, .slice a N c] V fun e w' => e = .returned (.bool true) ∧ Below w9.heap.size w9 w') := Lib.hid fun V W1 a1 c1 h1 k1 h3 =>
          (same_any a1 a N c1 c _ V V.heap.size ((h1.below k1).mono k1.size) (HXE.out V (HBW9.out.trans (h3.mono HBW9.out.size)))).mono fun e w' h => ⟨h.1, h3.trans (h.2.mono h3.size)⟩
        have E1 : Hid (∀ W, Below w9.heap.size w9 W → Calls Tryz.prog 34 #[.pointer (some ⟨g, 0, none⟩)] W fun e w' => ∃ a1 c1, e = .returned (.slice a1 K c1) ∧ Elems w' w'.heap.size a1 K (((envR l).map entS).map .string) ∧ Below W.heap.size W w' ∧ Below w9.heap.size w9 w') := Lib.hid fun W hW => (CE1.out W (HBW9.out.trans (hW.mono HBW9.out.size))).mono fun e w' ⟨a1, c1, h1, h2, h3⟩ => ⟨a1, c1, h1, h2, h3, hW.trans (h3.mono hW.size)⟩
        have E2 : Hid (∀ W, Below w9.heap.size w9 W → Calls Tryz.prog 35 #[.agg #[.slice va M vc, .string ⟨#[115, 104]⟩, .slice a N c, .int .i64 st]] W fun e w' => ∃ a1 c1, e = .returned (.slice a1 K c1) ∧ Elems w' w'.heap.size a1 K (((envR l).map entS).map .string) ∧ Below W.heap.size W w' ∧ Below w9.heap.size w9 w') := Lib.hid fun W hW => (CE2.out W (HBW9.out.trans (hW.mono HBW9.out.size))).mono fun e w' ⟨a1, c1, h1, h2, h3⟩ => ⟨a1, c1, h1, h2, h3, hW.trans (h3.mono hW.size)⟩
        have E3 : Hid (∀ W, Below w9.heap.size w9 W → Calls Tryz.prog 36 #[.pointer (some ⟨g, 0, none⟩)] W fun e w' => ∃ a1 c1, e = .returned (.slice a1 N c1) ∧ Elems w' w'.heap.size a1 N (xs.map .string) ∧ Below W.heap.size W w' ∧ Below w9.heap.size w9 w') := Lib.hid fun W hW => (CAr.out W (HBW9.out.trans (hW.mono HBW9.out.size))).mono fun e w' ⟨a1, c1, h1, h2, h3⟩ => ⟨a1, c1, h1, h2, h3, hW.trans (h3.mono hW.size)⟩
        have E4 : Hid (∀ W, Below w9.heap.size w9 W → Calls Tryz.prog 37 #[.pointer (some ⟨g, 0, none⟩)] W fun e w' => e = .returned (.int .i64 st) ∧ W = w') := Lib.hid fun W hW => CSt.out W (HBW9.out.trans (hW.mono HBW9.out.size))
        have E5 : Hid (∀ W, Below w9.heap.size w9 W → Calls Tryz.prog 38 #[.pointer (some ⟨g, 0, none⟩)] W fun e w' => e = .returned (.string ⟨sp.toArray⟩) ∧ Below w9.heap.size w9 w') := Lib.hid fun W hW => (CSp.out W (HBW9.out.trans (hW.mono HBW9.out.size))).mono fun e w' ⟨h1, h3⟩ => ⟨h1, hW.trans (h3.mono hW.size)⟩
        have E6 : Hid (∀ W, Below w9.heap.size w9 W → Calls Tryz.prog 39 #[.agg #[.slice va M vc, .string ⟨#[115, 104]⟩, .slice a N c, .int .i64 st]] W fun e w' => e = .returned (.string ⟨sp.toArray⟩) ∧ Below w9.heap.size w9 w') := Lib.hid fun W hW => (CSr.out W (HBW9.out.trans (hW.mono HBW9.out.size))).mono fun e w' ⟨h1, h3⟩ => ⟨h1, hW.trans (h3.mono hW.size)⟩
        go_region_held3 (fun W => W.cell? ⟨w.heap.size, 0, none⟩ = some (.slice va M vc) ∧ W.cell? ⟨w.heap.size, 1, none⟩ = some (.string ⟨#[115, 104]⟩) ∧ W.cell? ⟨w.heap.size, 2, none⟩ = some (.slice a N c) ∧ W.cell? ⟨w.heap.size, 3, none⟩ = some (.int .i64 st)) (first | exact ⟨d0, d1, d2, d3⟩ | exact ⟨y50, y51, y52, y53⟩ | go_keep) (first
          | (go_at_call 34; with_reducible refine (E1.out _ ?_).mono ?_; (first | exact Below.refl _ _ | exact Below.drew (Below.refl _ _) | exact k2); rintro e x1 ⟨a1, c1, rfl, g1, j1, k1⟩;
             (try clear d0 d1 d2 d3); have d0 := ((k1).cell (p := ⟨w.heap.size, 0, none⟩) hl9).trans y50; have d1 := ((k1).cell (p := ⟨w.heap.size, 1, none⟩) hl9).trans y51; have d2 := ((k1).cell (p := ⟨w.heap.size, 2, none⟩) hl9).trans y52; have d3 := ((k1).cell (p := ⟨w.heap.size, 3, none⟩) hl9).trans y53
             )
          | (go_at_call 35; with_reducible refine (E2.out _ ?_).mono ?_; (first | exact Below.refl _ _ | exact Below.drew (Below.refl _ _) | exact k1); rintro e x2 ⟨a2, c2, rfl, g2, j2, k2⟩;
             (try clear d0 d1 d2 d3); have d0 := ((k2).cell (p := ⟨w.heap.size, 0, none⟩) hl9).trans y50; have d1 := ((k2).cell (p := ⟨w.heap.size, 1, none⟩) hl9).trans y51; have d2 := ((k2).cell (p := ⟨w.heap.size, 2, none⟩) hl9).trans y52; have d3 := ((k2).cell (p := ⟨w.heap.size, 3, none⟩) hl9).trans y53
             )
          | (go_at_call 33; with_reducible refine (CS1.out _ x1 x2 a1 c1 a2 c2 g1 g2 ?_ ?_ ?_).mono ?_; (first | exact j2 | exact Below.refl _ _); (first | exact j1 | exact Below.refl _ _); (first | exact k2 | exact k1); rintro e x3 ⟨rfl, k3⟩;
             (try clear d0 d1 d2 d3); have d0 := ((k3).cell (p := ⟨w.heap.size, 0, none⟩) hl9).trans y50; have d1 := ((k3).cell (p := ⟨w.heap.size, 1, none⟩) hl9).trans y51; have d2 := ((k3).cell (p := ⟨w.heap.size, 2, none⟩) hl9).trans y52; have d3 := ((k3).cell (p := ⟨w.heap.size, 3, none⟩) hl9).trans y53
             )
          | (go_at_call 36; with_reducible refine (E3.out _ k3).mono ?_; rintro e x4 ⟨a4, c4, rfl, g4, j4, k4⟩;
             (try clear d0 d1 d2 d3); have d0 := ((k4).cell (p := ⟨w.heap.size, 0, none⟩) hl9).trans y50; have d1 := ((k4).cell (p := ⟨w.heap.size, 1, none⟩) hl9).trans y51; have d2 := ((k4).cell (p := ⟨w.heap.size, 2, none⟩) hl9).trans y52; have d3 := ((k4).cell (p := ⟨w.heap.size, 3, none⟩) hl9).trans y53
             )
          | (go_at_call 33; with_reducible refine (CS2.out _ x4 a4 c4 g4 (Below.refl _ _) k4).mono ?_; rintro e x5 ⟨rfl, k5⟩;
             (try clear d0 d1 d2 d3); have d0 := ((k5).cell (p := ⟨w.heap.size, 0, none⟩) hl9).trans y50; have d1 := ((k5).cell (p := ⟨w.heap.size, 1, none⟩) hl9).trans y51; have d2 := ((k5).cell (p := ⟨w.heap.size, 2, none⟩) hl9).trans y52; have d3 := ((k5).cell (p := ⟨w.heap.size, 3, none⟩) hl9).trans y53
             )
          | (go_at_call 37; with_reducible refine (E4.out _ k5).mono ?_; rintro e x5b ⟨rfl, rfl⟩)
          | (go_at_call 38; with_reducible refine (E5.out _ ?_).mono ?_; (first | exact k5 | exact k7); rintro e x6 ⟨rfl, k6⟩;
             (try clear d0 d1 d2 d3); have d0 := ((k6).cell (p := ⟨w.heap.size, 0, none⟩) hl9).trans y50; have d1 := ((k6).cell (p := ⟨w.heap.size, 1, none⟩) hl9).trans y51; have d2 := ((k6).cell (p := ⟨w.heap.size, 2, none⟩) hl9).trans y52; have d3 := ((k6).cell (p := ⟨w.heap.size, 3, none⟩) hl9).trans y53
             )
          | (go_at_call 39; with_reducible refine (E6.out _ ?_).mono ?_; (first | exact k5 | exact k6); rintro e x7 ⟨rfl, k7⟩;
             (try clear d0 d1 d2 d3); have d0 := ((k7).cell (p := ⟨w.heap.size, 0, none⟩) hl9).trans y50; have d1 := ((k7).cell (p := ⟨w.heap.size, 1, none⟩) hl9).trans y51; have d2 := ((k7).cell (p := ⟨w.heap.size, 2, none⟩) hl9).trans y52; have d3 := ((k7).cell (p := ⟨w.heap.size, 3, none⟩) hl9).trans y53
             ))
        all_goals
          go_wp2
          go_ret
          exact ⟨rfl, HBW9.out.trans ((by first | exact k7 | exact k6 | exact Below.drew k7 | exact Below.drew k6 : Below w9.heap.size w9 _).mono HBW9.out.size)⟩
    | false =>
      go_wp2_with fail
      refine (CNu.out _).mono ?_
      rintro e w8 ⟨rfl, rfl⟩
      cases b2 with
      | true =>
        have HO := Lib.hid (HOK.out rfl)
        go_wp2_with fail
        have P1 := Lib.hid (CP1.out w7 HBW7.out)
        refine P1.out.mono ?_
        rintro e w8 ⟨rfl, hb8⟩
        have HB8 : Hid (Below w3.heap.size w3 w8) := Lib.hid (HB7.out.trans (hb8.mono HB7.out.size))
        have HBW8 : Hid (Below w.heap.size w w8) := Lib.hid (HB3.out.trans (HB8.out.mono HB3.out.size))
        clear hb8
        have y50 := (X5.out.below HB8.out X5.out.lt).cell 0
        have y51 := (X5.out.below HB8.out X5.out.lt).cell 1
        have y52 := (X5.out.below HB8.out X5.out.lt).cell 2
        have y53 := (X5.out.below HB8.out X5.out.lt).cell 3
        simp at y50 y51 y52 y53
        have P2 := Lib.hid (CP2.out w8 HBW8.out HO.out)
        go_wp2_with fail
        refine P2.out.mono ?_
        rintro e w9 ⟨rfl, hb9⟩
        have HB9 : Hid (Below w3.heap.size w3 w9) := Lib.hid (HB8.out.trans (hb9.mono HB8.out.size))
        have HBW9 : Hid (Below w.heap.size w w9) := Lib.hid (HB3.out.trans (HB9.out.mono HB3.out.size))
        clear hb9 y50 y51 y52 y53
        cases q0 with
        | false =>
          obtain rfl := HPN.out rfl
          go_wp2_with fail
          have hl9 : w.heap.size < w9.heap.size := Nat.lt_of_lt_of_le X5.out.lt HB9.out.size
          have y50 := (X5.out.below HB9.out X5.out.lt).cell 0
          have y51 := (X5.out.below HB9.out X5.out.lt).cell 1
          have y52 := (X5.out.below HB9.out X5.out.lt).cell 2
          have y53 := (X5.out.below HB9.out X5.out.lt).cell 3
          simp at y50 y51 y52 y53
          have CS1 : Hid (∀ (V W1 W2 : World) (a1 : Option Addr) (c1 : Nat) (a2 : Option Addr) (c2 : Nat), Elems W1 W1.heap.size a1 K (((envR l).map entS).map .string) → Elems W2 W2.heap.size a2 K (((envR l).map entS).map .string) → Below W1.heap.size W1 V → Below W2.heap.size W2 V → Below w9.heap.size w9 V →
              Calls Tryz.prog 33 #[.slice a1 K c1, .slice a2 K c2] V fun e w' => e = .returned (.bool true) ∧ Below w9.heap.size w9 w') := Lib.hid fun V W1 W2 a1 c1 a2 c2 h1 h2 k1 k2 h3 =>
            (same_any a1 a2 K c1 c2 _ V V.heap.size ((h1.below k1).mono k1.size) ((h2.below k2).mono k2.size)).mono fun e w' h => ⟨h.1, h3.trans (h.2.mono h3.size)⟩
          have CS2 : Hid (∀ (V W1 : World) (a1 : Option Addr) (c1 : Nat), Elems W1 W1.heap.size a1 N (xs.map .string) → Below W1.heap.size W1 V → Below w9.heap.size w9 V →
              Calls Tryz.prog 33 #[.slice a1 N c1, .slice a N c] V fun e w' => e = .returned (.bool true) ∧ Below w9.heap.size w9 w') := Lib.hid fun V W1 a1 c1 h1 k1 h3 =>
            (same_any a1 a N c1 c _ V V.heap.size ((h1.below k1).mono k1.size) (HXE.out V (HBW9.out.trans (h3.mono HBW9.out.size)))).mono fun e w' h => ⟨h.1, h3.trans (h.2.mono h3.size)⟩
          have E1 : Hid (∀ W, Below w9.heap.size w9 W → Calls Tryz.prog 34 #[.pointer (some ⟨g, 0, none⟩)] W fun e w' => ∃ a1 c1, e = .returned (.slice a1 K c1) ∧ Elems w' w'.heap.size a1 K (((envR l).map entS).map .string) ∧ Below W.heap.size W w' ∧ Below w9.heap.size w9 w') := Lib.hid fun W hW => (CE1.out W (HBW9.out.trans (hW.mono HBW9.out.size))).mono fun e w' ⟨a1, c1, h1, h2, h3⟩ => ⟨a1, c1, h1, h2, h3, hW.trans (h3.mono hW.size)⟩
          have E2 : Hid (∀ W, Below w9.heap.size w9 W → Calls Tryz.prog 35 #[.agg #[.slice va M vc, .string ⟨#[115, 104]⟩, .slice a N c, .int .i64 st]] W fun e w' => ∃ a1 c1, e = .returned (.slice a1 K c1) ∧ Elems w' w'.heap.size a1 K (((envR l).map entS).map .string) ∧ Below W.heap.size W w' ∧ Below w9.heap.size w9 w') := Lib.hid fun W hW => (CE2.out W (HBW9.out.trans (hW.mono HBW9.out.size))).mono fun e w' ⟨a1, c1, h1, h2, h3⟩ => ⟨a1, c1, h1, h2, h3, hW.trans (h3.mono hW.size)⟩
          have E3 : Hid (∀ W, Below w9.heap.size w9 W → Calls Tryz.prog 36 #[.pointer (some ⟨g, 0, none⟩)] W fun e w' => ∃ a1 c1, e = .returned (.slice a1 N c1) ∧ Elems w' w'.heap.size a1 N (xs.map .string) ∧ Below W.heap.size W w' ∧ Below w9.heap.size w9 w') := Lib.hid fun W hW => (CAr.out W (HBW9.out.trans (hW.mono HBW9.out.size))).mono fun e w' ⟨a1, c1, h1, h2, h3⟩ => ⟨a1, c1, h1, h2, h3, hW.trans (h3.mono hW.size)⟩
          have E4 : Hid (∀ W, Below w9.heap.size w9 W → Calls Tryz.prog 37 #[.pointer (some ⟨g, 0, none⟩)] W fun e w' => e = .returned (.int .i64 st) ∧ W = w') := Lib.hid fun W hW => CSt.out W (HBW9.out.trans (hW.mono HBW9.out.size))
          have E5 : Hid (∀ W, Below w9.heap.size w9 W → Calls Tryz.prog 38 #[.pointer (some ⟨g, 0, none⟩)] W fun e w' => e = .returned (.string ⟨sp.toArray⟩) ∧ Below w9.heap.size w9 w') := Lib.hid fun W hW => (CSp.out W (HBW9.out.trans (hW.mono HBW9.out.size))).mono fun e w' ⟨h1, h3⟩ => ⟨h1, hW.trans (h3.mono hW.size)⟩
          have E6 : Hid (∀ W, Below w9.heap.size w9 W → Calls Tryz.prog 39 #[.agg #[.slice va M vc, .string ⟨#[115, 104]⟩, .slice a N c, .int .i64 st]] W fun e w' => e = .returned (.string ⟨sp.toArray⟩) ∧ Below w9.heap.size w9 w') := Lib.hid fun W hW => (CSr.out W (HBW9.out.trans (hW.mono HBW9.out.size))).mono fun e w' ⟨h1, h3⟩ => ⟨h1, hW.trans (h3.mono hW.size)⟩
          go_region_held3 (fun W => W.cell? ⟨w.heap.size, 0, none⟩ = some (.slice va M vc) ∧ W.cell? ⟨w.heap.size, 1, none⟩ = some (.string ⟨#[115, 104]⟩) ∧ W.cell? ⟨w.heap.size, 2, none⟩ = some (.slice a N c) ∧ W.cell? ⟨w.heap.size, 3, none⟩ = some (.int .i64 st)) (first | exact ⟨d0, d1, d2, d3⟩ | exact ⟨y50, y51, y52, y53⟩ | go_keep) (first
            | (go_at_call 34; with_reducible refine (E1.out _ ?_).mono ?_; (first | exact Below.refl _ _ | exact Below.drew (Below.refl _ _) | exact k2); rintro e x1 ⟨a1, c1, rfl, g1, j1, k1⟩;
               (try clear d0 d1 d2 d3); have d0 := ((k1).cell (p := ⟨w.heap.size, 0, none⟩) hl9).trans y50; have d1 := ((k1).cell (p := ⟨w.heap.size, 1, none⟩) hl9).trans y51; have d2 := ((k1).cell (p := ⟨w.heap.size, 2, none⟩) hl9).trans y52; have d3 := ((k1).cell (p := ⟨w.heap.size, 3, none⟩) hl9).trans y53
               )
            | (go_at_call 35; with_reducible refine (E2.out _ ?_).mono ?_; (first | exact Below.refl _ _ | exact Below.drew (Below.refl _ _) | exact k1); rintro e x2 ⟨a2, c2, rfl, g2, j2, k2⟩;
               (try clear d0 d1 d2 d3); have d0 := ((k2).cell (p := ⟨w.heap.size, 0, none⟩) hl9).trans y50; have d1 := ((k2).cell (p := ⟨w.heap.size, 1, none⟩) hl9).trans y51; have d2 := ((k2).cell (p := ⟨w.heap.size, 2, none⟩) hl9).trans y52; have d3 := ((k2).cell (p := ⟨w.heap.size, 3, none⟩) hl9).trans y53
               )
            | (go_at_call 33; with_reducible refine (CS1.out _ x1 x2 a1 c1 a2 c2 g1 g2 ?_ ?_ ?_).mono ?_; (first | exact j2 | exact Below.refl _ _); (first | exact j1 | exact Below.refl _ _); (first | exact k2 | exact k1); rintro e x3 ⟨rfl, k3⟩;
               (try clear d0 d1 d2 d3); have d0 := ((k3).cell (p := ⟨w.heap.size, 0, none⟩) hl9).trans y50; have d1 := ((k3).cell (p := ⟨w.heap.size, 1, none⟩) hl9).trans y51; have d2 := ((k3).cell (p := ⟨w.heap.size, 2, none⟩) hl9).trans y52; have d3 := ((k3).cell (p := ⟨w.heap.size, 3, none⟩) hl9).trans y53
               )
            | (go_at_call 36; with_reducible refine (E3.out _ k3).mono ?_; rintro e x4 ⟨a4, c4, rfl, g4, j4, k4⟩;
               (try clear d0 d1 d2 d3); have d0 := ((k4).cell (p := ⟨w.heap.size, 0, none⟩) hl9).trans y50; have d1 := ((k4).cell (p := ⟨w.heap.size, 1, none⟩) hl9).trans y51; have d2 := ((k4).cell (p := ⟨w.heap.size, 2, none⟩) hl9).trans y52; have d3 := ((k4).cell (p := ⟨w.heap.size, 3, none⟩) hl9).trans y53
               )
            | (go_at_call 33; with_reducible refine (CS2.out _ x4 a4 c4 g4 (Below.refl _ _) k4).mono ?_; rintro e x5 ⟨rfl, k5⟩;
               (try clear d0 d1 d2 d3); have d0 := ((k5).cell (p := ⟨w.heap.size, 0, none⟩) hl9).trans y50; have d1 := ((k5).cell (p := ⟨w.heap.size, 1, none⟩) hl9).trans y51; have d2 := ((k5).cell (p := ⟨w.heap.size, 2, none⟩) hl9).trans y52; have d3 := ((k5).cell (p := ⟨w.heap.size, 3, none⟩) hl9).trans y53
               )
            | (go_at_call 37; with_reducible refine (E4.out _ k5).mono ?_; rintro e x5b ⟨rfl, rfl⟩)
            | (go_at_call 38; with_reducible refine (E5.out _ ?_).mono ?_; (first | exact k5 | exact k7); rintro e x6 ⟨rfl, k6⟩;
               (try clear d0 d1 d2 d3); have d0 := ((k6).cell (p := ⟨w.heap.size, 0, none⟩) hl9).trans y50; have d1 := ((k6).cell (p := ⟨w.heap.size, 1, none⟩) hl9).trans y51; have d2 := ((k6).cell (p := ⟨w.heap.size, 2, none⟩) hl9).trans y52; have d3 := ((k6).cell (p := ⟨w.heap.size, 3, none⟩) hl9).trans y53
               )
            | (go_at_call 39; with_reducible refine (E6.out _ ?_).mono ?_; (first | exact k5 | exact k6); rintro e x7 ⟨rfl, k7⟩;
               (try clear d0 d1 d2 d3); have d0 := ((k7).cell (p := ⟨w.heap.size, 0, none⟩) hl9).trans y50; have d1 := ((k7).cell (p := ⟨w.heap.size, 1, none⟩) hl9).trans y51; have d2 := ((k7).cell (p := ⟨w.heap.size, 2, none⟩) hl9).trans y52; have d3 := ((k7).cell (p := ⟨w.heap.size, 3, none⟩) hl9).trans y53
               ))
          all_goals
            go_wp2
            go_ret
            exact ⟨rfl, HBW9.out.trans ((by first | exact k7 | exact k6 | exact Below.drew k7 | exact Below.drew k6 : Below w9.heap.size w9 _).mono HBW9.out.size)⟩
        | true =>
          go_wp2_with fail
          have hl9 : w.heap.size < w9.heap.size := Nat.lt_of_lt_of_le X5.out.lt HB9.out.size
          have y50 := (X5.out.below HB9.out X5.out.lt).cell 0
          have y51 := (X5.out.below HB9.out X5.out.lt).cell 1
          have y52 := (X5.out.below HB9.out X5.out.lt).cell 2
          have y53 := (X5.out.below HB9.out X5.out.lt).cell 3
          simp at y50 y51 y52 y53
          have CS1 : Hid (∀ (V W1 W2 : World) (a1 : Option Addr) (c1 : Nat) (a2 : Option Addr) (c2 : Nat), Elems W1 W1.heap.size a1 K (((envR l).map entS).map .string) → Elems W2 W2.heap.size a2 K (((envR l).map entS).map .string) → Below W1.heap.size W1 V → Below W2.heap.size W2 V → Below w9.heap.size w9 V →
              Calls Tryz.prog 33 #[.slice a1 K c1, .slice a2 K c2] V fun e w' => e = .returned (.bool true) ∧ Below w9.heap.size w9 w') := Lib.hid fun V W1 W2 a1 c1 a2 c2 h1 h2 k1 k2 h3 =>
            (same_any a1 a2 K c1 c2 _ V V.heap.size ((h1.below k1).mono k1.size) ((h2.below k2).mono k2.size)).mono fun e w' h => ⟨h.1, h3.trans (h.2.mono h3.size)⟩
          have CS2 : Hid (∀ (V W1 : World) (a1 : Option Addr) (c1 : Nat), Elems W1 W1.heap.size a1 N (xs.map .string) → Below W1.heap.size W1 V → Below w9.heap.size w9 V →
              Calls Tryz.prog 33 #[.slice a1 N c1, .slice a N c] V fun e w' => e = .returned (.bool true) ∧ Below w9.heap.size w9 w') := Lib.hid fun V W1 a1 c1 h1 k1 h3 =>
            (same_any a1 a N c1 c _ V V.heap.size ((h1.below k1).mono k1.size) (HXE.out V (HBW9.out.trans (h3.mono HBW9.out.size)))).mono fun e w' h => ⟨h.1, h3.trans (h.2.mono h3.size)⟩
          have E1 : Hid (∀ W, Below w9.heap.size w9 W → Calls Tryz.prog 34 #[.pointer (some ⟨g, 0, none⟩)] W fun e w' => ∃ a1 c1, e = .returned (.slice a1 K c1) ∧ Elems w' w'.heap.size a1 K (((envR l).map entS).map .string) ∧ Below W.heap.size W w' ∧ Below w9.heap.size w9 w') := Lib.hid fun W hW => (CE1.out W (HBW9.out.trans (hW.mono HBW9.out.size))).mono fun e w' ⟨a1, c1, h1, h2, h3⟩ => ⟨a1, c1, h1, h2, h3, hW.trans (h3.mono hW.size)⟩
          have E2 : Hid (∀ W, Below w9.heap.size w9 W → Calls Tryz.prog 35 #[.agg #[.slice va M vc, .string ⟨#[115, 104]⟩, .slice a N c, .int .i64 st]] W fun e w' => ∃ a1 c1, e = .returned (.slice a1 K c1) ∧ Elems w' w'.heap.size a1 K (((envR l).map entS).map .string) ∧ Below W.heap.size W w' ∧ Below w9.heap.size w9 w') := Lib.hid fun W hW => (CE2.out W (HBW9.out.trans (hW.mono HBW9.out.size))).mono fun e w' ⟨a1, c1, h1, h2, h3⟩ => ⟨a1, c1, h1, h2, h3, hW.trans (h3.mono hW.size)⟩
          have E3 : Hid (∀ W, Below w9.heap.size w9 W → Calls Tryz.prog 36 #[.pointer (some ⟨g, 0, none⟩)] W fun e w' => ∃ a1 c1, e = .returned (.slice a1 N c1) ∧ Elems w' w'.heap.size a1 N (xs.map .string) ∧ Below W.heap.size W w' ∧ Below w9.heap.size w9 w') := Lib.hid fun W hW => (CAr.out W (HBW9.out.trans (hW.mono HBW9.out.size))).mono fun e w' ⟨a1, c1, h1, h2, h3⟩ => ⟨a1, c1, h1, h2, h3, hW.trans (h3.mono hW.size)⟩
          have E4 : Hid (∀ W, Below w9.heap.size w9 W → Calls Tryz.prog 37 #[.pointer (some ⟨g, 0, none⟩)] W fun e w' => e = .returned (.int .i64 st) ∧ W = w') := Lib.hid fun W hW => CSt.out W (HBW9.out.trans (hW.mono HBW9.out.size))
          have E5 : Hid (∀ W, Below w9.heap.size w9 W → Calls Tryz.prog 38 #[.pointer (some ⟨g, 0, none⟩)] W fun e w' => e = .returned (.string ⟨sp.toArray⟩) ∧ Below w9.heap.size w9 w') := Lib.hid fun W hW => (CSp.out W (HBW9.out.trans (hW.mono HBW9.out.size))).mono fun e w' ⟨h1, h3⟩ => ⟨h1, hW.trans (h3.mono hW.size)⟩
          have E6 : Hid (∀ W, Below w9.heap.size w9 W → Calls Tryz.prog 39 #[.agg #[.slice va M vc, .string ⟨#[115, 104]⟩, .slice a N c, .int .i64 st]] W fun e w' => e = .returned (.string ⟨sp.toArray⟩) ∧ Below w9.heap.size w9 w') := Lib.hid fun W hW => (CSr.out W (HBW9.out.trans (hW.mono HBW9.out.size))).mono fun e w' ⟨h1, h3⟩ => ⟨h1, hW.trans (h3.mono hW.size)⟩
          go_region_held3 (fun W => W.cell? ⟨w.heap.size, 0, none⟩ = some (.slice va M vc) ∧ W.cell? ⟨w.heap.size, 1, none⟩ = some (.string ⟨#[115, 104]⟩) ∧ W.cell? ⟨w.heap.size, 2, none⟩ = some (.slice a N c) ∧ W.cell? ⟨w.heap.size, 3, none⟩ = some (.int .i64 st)) (first | exact ⟨d0, d1, d2, d3⟩ | exact ⟨y50, y51, y52, y53⟩ | go_keep) (first
            | (go_at_call 34; with_reducible refine (E1.out _ ?_).mono ?_; (first | exact Below.refl _ _ | exact Below.drew (Below.refl _ _) | exact k2); rintro e x1 ⟨a1, c1, rfl, g1, j1, k1⟩;
               (try clear d0 d1 d2 d3); have d0 := ((k1).cell (p := ⟨w.heap.size, 0, none⟩) hl9).trans y50; have d1 := ((k1).cell (p := ⟨w.heap.size, 1, none⟩) hl9).trans y51; have d2 := ((k1).cell (p := ⟨w.heap.size, 2, none⟩) hl9).trans y52; have d3 := ((k1).cell (p := ⟨w.heap.size, 3, none⟩) hl9).trans y53
               )
            | (go_at_call 35; with_reducible refine (E2.out _ ?_).mono ?_; (first | exact Below.refl _ _ | exact Below.drew (Below.refl _ _) | exact k1); rintro e x2 ⟨a2, c2, rfl, g2, j2, k2⟩;
               (try clear d0 d1 d2 d3); have d0 := ((k2).cell (p := ⟨w.heap.size, 0, none⟩) hl9).trans y50; have d1 := ((k2).cell (p := ⟨w.heap.size, 1, none⟩) hl9).trans y51; have d2 := ((k2).cell (p := ⟨w.heap.size, 2, none⟩) hl9).trans y52; have d3 := ((k2).cell (p := ⟨w.heap.size, 3, none⟩) hl9).trans y53
               )
            | (go_at_call 33; with_reducible refine (CS1.out _ x1 x2 a1 c1 a2 c2 g1 g2 ?_ ?_ ?_).mono ?_; (first | exact j2 | exact Below.refl _ _); (first | exact j1 | exact Below.refl _ _); (first | exact k2 | exact k1); rintro e x3 ⟨rfl, k3⟩;
               (try clear d0 d1 d2 d3); have d0 := ((k3).cell (p := ⟨w.heap.size, 0, none⟩) hl9).trans y50; have d1 := ((k3).cell (p := ⟨w.heap.size, 1, none⟩) hl9).trans y51; have d2 := ((k3).cell (p := ⟨w.heap.size, 2, none⟩) hl9).trans y52; have d3 := ((k3).cell (p := ⟨w.heap.size, 3, none⟩) hl9).trans y53
               )
            | (go_at_call 36; with_reducible refine (E3.out _ k3).mono ?_; rintro e x4 ⟨a4, c4, rfl, g4, j4, k4⟩;
               (try clear d0 d1 d2 d3); have d0 := ((k4).cell (p := ⟨w.heap.size, 0, none⟩) hl9).trans y50; have d1 := ((k4).cell (p := ⟨w.heap.size, 1, none⟩) hl9).trans y51; have d2 := ((k4).cell (p := ⟨w.heap.size, 2, none⟩) hl9).trans y52; have d3 := ((k4).cell (p := ⟨w.heap.size, 3, none⟩) hl9).trans y53
               )
            | (go_at_call 33; with_reducible refine (CS2.out _ x4 a4 c4 g4 (Below.refl _ _) k4).mono ?_; rintro e x5 ⟨rfl, k5⟩;
               (try clear d0 d1 d2 d3); have d0 := ((k5).cell (p := ⟨w.heap.size, 0, none⟩) hl9).trans y50; have d1 := ((k5).cell (p := ⟨w.heap.size, 1, none⟩) hl9).trans y51; have d2 := ((k5).cell (p := ⟨w.heap.size, 2, none⟩) hl9).trans y52; have d3 := ((k5).cell (p := ⟨w.heap.size, 3, none⟩) hl9).trans y53
               )
            | (go_at_call 37; with_reducible refine (E4.out _ k5).mono ?_; rintro e x5b ⟨rfl, rfl⟩)
            | (go_at_call 38; with_reducible refine (E5.out _ ?_).mono ?_; (first | exact k5 | exact k7); rintro e x6 ⟨rfl, k6⟩;
               (try clear d0 d1 d2 d3); have d0 := ((k6).cell (p := ⟨w.heap.size, 0, none⟩) hl9).trans y50; have d1 := ((k6).cell (p := ⟨w.heap.size, 1, none⟩) hl9).trans y51; have d2 := ((k6).cell (p := ⟨w.heap.size, 2, none⟩) hl9).trans y52; have d3 := ((k6).cell (p := ⟨w.heap.size, 3, none⟩) hl9).trans y53
               )
            | (go_at_call 39; with_reducible refine (E6.out _ ?_).mono ?_; (first | exact k5 | exact k6); rintro e x7 ⟨rfl, k7⟩;
               (try clear d0 d1 d2 d3); have d0 := ((k7).cell (p := ⟨w.heap.size, 0, none⟩) hl9).trans y50; have d1 := ((k7).cell (p := ⟨w.heap.size, 1, none⟩) hl9).trans y51; have d2 := ((k7).cell (p := ⟨w.heap.size, 2, none⟩) hl9).trans y52; have d3 := ((k7).cell (p := ⟨w.heap.size, 3, none⟩) hl9).trans y53
               ))
          all_goals
            go_wp2
            go_ret
            exact ⟨rfl, HBW9.out.trans ((by first | exact k7 | exact k6 | exact Below.drew k7 | exact Below.drew k6 : Below w9.heap.size w9 _).mono HBW9.out.size)⟩
      | false =>
        go_wp2_with fail
        refine (CSg.out _).mono ?_
        rintro e w8 ⟨rfl, rfl⟩
        cases b3 with
        | true =>
          have HO := Lib.hid (HOK.out rfl)
          go_wp2_with fail
          have P1 := Lib.hid (CP1.out w7 HBW7.out)
          refine P1.out.mono ?_
          rintro e w8 ⟨rfl, hb8⟩
          have HB8 : Hid (Below w3.heap.size w3 w8) := Lib.hid (HB7.out.trans (hb8.mono HB7.out.size))
          have HBW8 : Hid (Below w.heap.size w w8) := Lib.hid (HB3.out.trans (HB8.out.mono HB3.out.size))
          clear hb8
          have y50 := (X5.out.below HB8.out X5.out.lt).cell 0
          have y51 := (X5.out.below HB8.out X5.out.lt).cell 1
          have y52 := (X5.out.below HB8.out X5.out.lt).cell 2
          have y53 := (X5.out.below HB8.out X5.out.lt).cell 3
          simp at y50 y51 y52 y53
          have P2 := Lib.hid (CP2.out w8 HBW8.out HO.out)
          go_wp2_with fail
          refine P2.out.mono ?_
          rintro e w9 ⟨rfl, hb9⟩
          have HB9 : Hid (Below w3.heap.size w3 w9) := Lib.hid (HB8.out.trans (hb9.mono HB8.out.size))
          have HBW9 : Hid (Below w.heap.size w w9) := Lib.hid (HB3.out.trans (HB9.out.mono HB3.out.size))
          clear hb9 y50 y51 y52 y53
          cases q0 with
          | false =>
            obtain rfl := HPN.out rfl
            go_wp2_with fail
            have hl9 : w.heap.size < w9.heap.size := Nat.lt_of_lt_of_le X5.out.lt HB9.out.size
            have y50 := (X5.out.below HB9.out X5.out.lt).cell 0
            have y51 := (X5.out.below HB9.out X5.out.lt).cell 1
            have y52 := (X5.out.below HB9.out X5.out.lt).cell 2
            have y53 := (X5.out.below HB9.out X5.out.lt).cell 3
            simp at y50 y51 y52 y53
            have CS1 : Hid (∀ (V W1 W2 : World) (a1 : Option Addr) (c1 : Nat) (a2 : Option Addr) (c2 : Nat), Elems W1 W1.heap.size a1 K (((envR l).map entS).map .string) → Elems W2 W2.heap.size a2 K (((envR l).map entS).map .string) → Below W1.heap.size W1 V → Below W2.heap.size W2 V → Below w9.heap.size w9 V →
                Calls Tryz.prog 33 #[.slice a1 K c1, .slice a2 K c2] V fun e w' => e = .returned (.bool true) ∧ Below w9.heap.size w9 w') := Lib.hid fun V W1 W2 a1 c1 a2 c2 h1 h2 k1 k2 h3 =>
              (same_any a1 a2 K c1 c2 _ V V.heap.size ((h1.below k1).mono k1.size) ((h2.below k2).mono k2.size)).mono fun e w' h => ⟨h.1, h3.trans (h.2.mono h3.size)⟩
            have CS2 : Hid (∀ (V W1 : World) (a1 : Option Addr) (c1 : Nat), Elems W1 W1.heap.size a1 N (xs.map .string) → Below W1.heap.size W1 V → Below w9.heap.size w9 V →
                Calls Tryz.prog 33 #[.slice a1 N c1, .slice a N c] V fun e w' => e = .returned (.bool true) ∧ Below w9.heap.size w9 w') := Lib.hid fun V W1 a1 c1 h1 k1 h3 =>
              (same_any a1 a N c1 c _ V V.heap.size ((h1.below k1).mono k1.size) (HXE.out V (HBW9.out.trans (h3.mono HBW9.out.size)))).mono fun e w' h => ⟨h.1, h3.trans (h.2.mono h3.size)⟩
            have E1 : Hid (∀ W, Below w9.heap.size w9 W → Calls Tryz.prog 34 #[.pointer (some ⟨g, 0, none⟩)] W fun e w' => ∃ a1 c1, e = .returned (.slice a1 K c1) ∧ Elems w' w'.heap.size a1 K (((envR l).map entS).map .string) ∧ Below W.heap.size W w' ∧ Below w9.heap.size w9 w') := Lib.hid fun W hW => (CE1.out W (HBW9.out.trans (hW.mono HBW9.out.size))).mono fun e w' ⟨a1, c1, h1, h2, h3⟩ => ⟨a1, c1, h1, h2, h3, hW.trans (h3.mono hW.size)⟩
            have E2 : Hid (∀ W, Below w9.heap.size w9 W → Calls Tryz.prog 35 #[.agg #[.slice va M vc, .string ⟨#[115, 104]⟩, .slice a N c, .int .i64 st]] W fun e w' => ∃ a1 c1, e = .returned (.slice a1 K c1) ∧ Elems w' w'.heap.size a1 K (((envR l).map entS).map .string) ∧ Below W.heap.size W w' ∧ Below w9.heap.size w9 w') := Lib.hid fun W hW => (CE2.out W (HBW9.out.trans (hW.mono HBW9.out.size))).mono fun e w' ⟨a1, c1, h1, h2, h3⟩ => ⟨a1, c1, h1, h2, h3, hW.trans (h3.mono hW.size)⟩
            have E3 : Hid (∀ W, Below w9.heap.size w9 W → Calls Tryz.prog 36 #[.pointer (some ⟨g, 0, none⟩)] W fun e w' => ∃ a1 c1, e = .returned (.slice a1 N c1) ∧ Elems w' w'.heap.size a1 N (xs.map .string) ∧ Below W.heap.size W w' ∧ Below w9.heap.size w9 w') := Lib.hid fun W hW => (CAr.out W (HBW9.out.trans (hW.mono HBW9.out.size))).mono fun e w' ⟨a1, c1, h1, h2, h3⟩ => ⟨a1, c1, h1, h2, h3, hW.trans (h3.mono hW.size)⟩
            have E4 : Hid (∀ W, Below w9.heap.size w9 W → Calls Tryz.prog 37 #[.pointer (some ⟨g, 0, none⟩)] W fun e w' => e = .returned (.int .i64 st) ∧ W = w') := Lib.hid fun W hW => CSt.out W (HBW9.out.trans (hW.mono HBW9.out.size))
            have E5 : Hid (∀ W, Below w9.heap.size w9 W → Calls Tryz.prog 38 #[.pointer (some ⟨g, 0, none⟩)] W fun e w' => e = .returned (.string ⟨sp.toArray⟩) ∧ Below w9.heap.size w9 w') := Lib.hid fun W hW => (CSp.out W (HBW9.out.trans (hW.mono HBW9.out.size))).mono fun e w' ⟨h1, h3⟩ => ⟨h1, hW.trans (h3.mono hW.size)⟩
            have E6 : Hid (∀ W, Below w9.heap.size w9 W → Calls Tryz.prog 39 #[.agg #[.slice va M vc, .string ⟨#[115, 104]⟩, .slice a N c, .int .i64 st]] W fun e w' => e = .returned (.string ⟨sp.toArray⟩) ∧ Below w9.heap.size w9 w') := Lib.hid fun W hW => (CSr.out W (HBW9.out.trans (hW.mono HBW9.out.size))).mono fun e w' ⟨h1, h3⟩ => ⟨h1, hW.trans (h3.mono hW.size)⟩
            go_region_held3 (fun W => W.cell? ⟨w.heap.size, 0, none⟩ = some (.slice va M vc) ∧ W.cell? ⟨w.heap.size, 1, none⟩ = some (.string ⟨#[115, 104]⟩) ∧ W.cell? ⟨w.heap.size, 2, none⟩ = some (.slice a N c) ∧ W.cell? ⟨w.heap.size, 3, none⟩ = some (.int .i64 st)) (first | exact ⟨d0, d1, d2, d3⟩ | exact ⟨y50, y51, y52, y53⟩ | go_keep) (first
              | (go_at_call 34; with_reducible refine (E1.out _ ?_).mono ?_; (first | exact Below.refl _ _ | exact Below.drew (Below.refl _ _) | exact k2); rintro e x1 ⟨a1, c1, rfl, g1, j1, k1⟩;
                 (try clear d0 d1 d2 d3); have d0 := ((k1).cell (p := ⟨w.heap.size, 0, none⟩) hl9).trans y50; have d1 := ((k1).cell (p := ⟨w.heap.size, 1, none⟩) hl9).trans y51; have d2 := ((k1).cell (p := ⟨w.heap.size, 2, none⟩) hl9).trans y52; have d3 := ((k1).cell (p := ⟨w.heap.size, 3, none⟩) hl9).trans y53
                 )
              | (go_at_call 35; with_reducible refine (E2.out _ ?_).mono ?_; (first | exact Below.refl _ _ | exact Below.drew (Below.refl _ _) | exact k1); rintro e x2 ⟨a2, c2, rfl, g2, j2, k2⟩;
                 (try clear d0 d1 d2 d3); have d0 := ((k2).cell (p := ⟨w.heap.size, 0, none⟩) hl9).trans y50; have d1 := ((k2).cell (p := ⟨w.heap.size, 1, none⟩) hl9).trans y51; have d2 := ((k2).cell (p := ⟨w.heap.size, 2, none⟩) hl9).trans y52; have d3 := ((k2).cell (p := ⟨w.heap.size, 3, none⟩) hl9).trans y53
                 )
              | (go_at_call 33; with_reducible refine (CS1.out _ x1 x2 a1 c1 a2 c2 g1 g2 ?_ ?_ ?_).mono ?_; (first | exact j2 | exact Below.refl _ _); (first | exact j1 | exact Below.refl _ _); (first | exact k2 | exact k1); rintro e x3 ⟨rfl, k3⟩;
                 (try clear d0 d1 d2 d3); have d0 := ((k3).cell (p := ⟨w.heap.size, 0, none⟩) hl9).trans y50; have d1 := ((k3).cell (p := ⟨w.heap.size, 1, none⟩) hl9).trans y51; have d2 := ((k3).cell (p := ⟨w.heap.size, 2, none⟩) hl9).trans y52; have d3 := ((k3).cell (p := ⟨w.heap.size, 3, none⟩) hl9).trans y53
                 )
              | (go_at_call 36; with_reducible refine (E3.out _ k3).mono ?_; rintro e x4 ⟨a4, c4, rfl, g4, j4, k4⟩;
                 (try clear d0 d1 d2 d3); have d0 := ((k4).cell (p := ⟨w.heap.size, 0, none⟩) hl9).trans y50; have d1 := ((k4).cell (p := ⟨w.heap.size, 1, none⟩) hl9).trans y51; have d2 := ((k4).cell (p := ⟨w.heap.size, 2, none⟩) hl9).trans y52; have d3 := ((k4).cell (p := ⟨w.heap.size, 3, none⟩) hl9).trans y53
                 )
              | (go_at_call 33; with_reducible refine (CS2.out _ x4 a4 c4 g4 (Below.refl _ _) k4).mono ?_; rintro e x5 ⟨rfl, k5⟩;
                 (try clear d0 d1 d2 d3); have d0 := ((k5).cell (p := ⟨w.heap.size, 0, none⟩) hl9).trans y50; have d1 := ((k5).cell (p := ⟨w.heap.size, 1, none⟩) hl9).trans y51; have d2 := ((k5).cell (p := ⟨w.heap.size, 2, none⟩) hl9).trans y52; have d3 := ((k5).cell (p := ⟨w.heap.size, 3, none⟩) hl9).trans y53
                 )
              | (go_at_call 37; with_reducible refine (E4.out _ k5).mono ?_; rintro e x5b ⟨rfl, rfl⟩)
              | (go_at_call 38; with_reducible refine (E5.out _ ?_).mono ?_; (first | exact k5 | exact k7); rintro e x6 ⟨rfl, k6⟩;
                 (try clear d0 d1 d2 d3); have d0 := ((k6).cell (p := ⟨w.heap.size, 0, none⟩) hl9).trans y50; have d1 := ((k6).cell (p := ⟨w.heap.size, 1, none⟩) hl9).trans y51; have d2 := ((k6).cell (p := ⟨w.heap.size, 2, none⟩) hl9).trans y52; have d3 := ((k6).cell (p := ⟨w.heap.size, 3, none⟩) hl9).trans y53
                 )
              | (go_at_call 39; with_reducible refine (E6.out _ ?_).mono ?_; (first | exact k5 | exact k6); rintro e x7 ⟨rfl, k7⟩;
                 (try clear d0 d1 d2 d3); have d0 := ((k7).cell (p := ⟨w.heap.size, 0, none⟩) hl9).trans y50; have d1 := ((k7).cell (p := ⟨w.heap.size, 1, none⟩) hl9).trans y51; have d2 := ((k7).cell (p := ⟨w.heap.size, 2, none⟩) hl9).trans y52; have d3 := ((k7).cell (p := ⟨w.heap.size, 3, none⟩) hl9).trans y53
                 ))
            all_goals
              go_wp2
              go_ret
              exact ⟨rfl, HBW9.out.trans ((by first | exact k7 | exact k6 | exact Below.drew k7 | exact Below.drew k6 : Below w9.heap.size w9 _).mono HBW9.out.size)⟩
          | true =>
            go_wp2_with fail
            have hl9 : w.heap.size < w9.heap.size := Nat.lt_of_lt_of_le X5.out.lt HB9.out.size
            have y50 := (X5.out.below HB9.out X5.out.lt).cell 0
            have y51 := (X5.out.below HB9.out X5.out.lt).cell 1
            have y52 := (X5.out.below HB9.out X5.out.lt).cell 2
            have y53 := (X5.out.below HB9.out X5.out.lt).cell 3
            simp at y50 y51 y52 y53
            have CS1 : Hid (∀ (V W1 W2 : World) (a1 : Option Addr) (c1 : Nat) (a2 : Option Addr) (c2 : Nat), Elems W1 W1.heap.size a1 K (((envR l).map entS).map .string) → Elems W2 W2.heap.size a2 K (((envR l).map entS).map .string) → Below W1.heap.size W1 V → Below W2.heap.size W2 V → Below w9.heap.size w9 V →
                Calls Tryz.prog 33 #[.slice a1 K c1, .slice a2 K c2] V fun e w' => e = .returned (.bool true) ∧ Below w9.heap.size w9 w') := Lib.hid fun V W1 W2 a1 c1 a2 c2 h1 h2 k1 k2 h3 =>
              (same_any a1 a2 K c1 c2 _ V V.heap.size ((h1.below k1).mono k1.size) ((h2.below k2).mono k2.size)).mono fun e w' h => ⟨h.1, h3.trans (h.2.mono h3.size)⟩
            have CS2 : Hid (∀ (V W1 : World) (a1 : Option Addr) (c1 : Nat), Elems W1 W1.heap.size a1 N (xs.map .string) → Below W1.heap.size W1 V → Below w9.heap.size w9 V →
                Calls Tryz.prog 33 #[.slice a1 N c1, .slice a N c] V fun e w' => e = .returned (.bool true) ∧ Below w9.heap.size w9 w') := Lib.hid fun V W1 a1 c1 h1 k1 h3 =>
              (same_any a1 a N c1 c _ V V.heap.size ((h1.below k1).mono k1.size) (HXE.out V (HBW9.out.trans (h3.mono HBW9.out.size)))).mono fun e w' h => ⟨h.1, h3.trans (h.2.mono h3.size)⟩
            have E1 : Hid (∀ W, Below w9.heap.size w9 W → Calls Tryz.prog 34 #[.pointer (some ⟨g, 0, none⟩)] W fun e w' => ∃ a1 c1, e = .returned (.slice a1 K c1) ∧ Elems w' w'.heap.size a1 K (((envR l).map entS).map .string) ∧ Below W.heap.size W w' ∧ Below w9.heap.size w9 w') := Lib.hid fun W hW => (CE1.out W (HBW9.out.trans (hW.mono HBW9.out.size))).mono fun e w' ⟨a1, c1, h1, h2, h3⟩ => ⟨a1, c1, h1, h2, h3, hW.trans (h3.mono hW.size)⟩
            have E2 : Hid (∀ W, Below w9.heap.size w9 W → Calls Tryz.prog 35 #[.agg #[.slice va M vc, .string ⟨#[115, 104]⟩, .slice a N c, .int .i64 st]] W fun e w' => ∃ a1 c1, e = .returned (.slice a1 K c1) ∧ Elems w' w'.heap.size a1 K (((envR l).map entS).map .string) ∧ Below W.heap.size W w' ∧ Below w9.heap.size w9 w') := Lib.hid fun W hW => (CE2.out W (HBW9.out.trans (hW.mono HBW9.out.size))).mono fun e w' ⟨a1, c1, h1, h2, h3⟩ => ⟨a1, c1, h1, h2, h3, hW.trans (h3.mono hW.size)⟩
            have E3 : Hid (∀ W, Below w9.heap.size w9 W → Calls Tryz.prog 36 #[.pointer (some ⟨g, 0, none⟩)] W fun e w' => ∃ a1 c1, e = .returned (.slice a1 N c1) ∧ Elems w' w'.heap.size a1 N (xs.map .string) ∧ Below W.heap.size W w' ∧ Below w9.heap.size w9 w') := Lib.hid fun W hW => (CAr.out W (HBW9.out.trans (hW.mono HBW9.out.size))).mono fun e w' ⟨a1, c1, h1, h2, h3⟩ => ⟨a1, c1, h1, h2, h3, hW.trans (h3.mono hW.size)⟩
            have E4 : Hid (∀ W, Below w9.heap.size w9 W → Calls Tryz.prog 37 #[.pointer (some ⟨g, 0, none⟩)] W fun e w' => e = .returned (.int .i64 st) ∧ W = w') := Lib.hid fun W hW => CSt.out W (HBW9.out.trans (hW.mono HBW9.out.size))
            have E5 : Hid (∀ W, Below w9.heap.size w9 W → Calls Tryz.prog 38 #[.pointer (some ⟨g, 0, none⟩)] W fun e w' => e = .returned (.string ⟨sp.toArray⟩) ∧ Below w9.heap.size w9 w') := Lib.hid fun W hW => (CSp.out W (HBW9.out.trans (hW.mono HBW9.out.size))).mono fun e w' ⟨h1, h3⟩ => ⟨h1, hW.trans (h3.mono hW.size)⟩
            have E6 : Hid (∀ W, Below w9.heap.size w9 W → Calls Tryz.prog 39 #[.agg #[.slice va M vc, .string ⟨#[115, 104]⟩, .slice a N c, .int .i64 st]] W fun e w' => e = .returned (.string ⟨sp.toArray⟩) ∧ Below w9.heap.size w9 w') := Lib.hid fun W hW => (CSr.out W (HBW9.out.trans (hW.mono HBW9.out.size))).mono fun e w' ⟨h1, h3⟩ => ⟨h1, hW.trans (h3.mono hW.size)⟩
            go_region_held3 (fun W => W.cell? ⟨w.heap.size, 0, none⟩ = some (.slice va M vc) ∧ W.cell? ⟨w.heap.size, 1, none⟩ = some (.string ⟨#[115, 104]⟩) ∧ W.cell? ⟨w.heap.size, 2, none⟩ = some (.slice a N c) ∧ W.cell? ⟨w.heap.size, 3, none⟩ = some (.int .i64 st)) (first | exact ⟨d0, d1, d2, d3⟩ | exact ⟨y50, y51, y52, y53⟩ | go_keep) (first
              | (go_at_call 34; with_reducible refine (E1.out _ ?_).mono ?_; (first | exact Below.refl _ _ | exact Below.drew (Below.refl _ _) | exact k2); rintro e x1 ⟨a1, c1, rfl, g1, j1, k1⟩;
                 (try clear d0 d1 d2 d3); have d0 := ((k1).cell (p := ⟨w.heap.size, 0, none⟩) hl9).trans y50; have d1 := ((k1).cell (p := ⟨w.heap.size, 1, none⟩) hl9).trans y51; have d2 := ((k1).cell (p := ⟨w.heap.size, 2, none⟩) hl9).trans y52; have d3 := ((k1).cell (p := ⟨w.heap.size, 3, none⟩) hl9).trans y53
                 )
              | (go_at_call 35; with_reducible refine (E2.out _ ?_).mono ?_; (first | exact Below.refl _ _ | exact Below.drew (Below.refl _ _) | exact k1); rintro e x2 ⟨a2, c2, rfl, g2, j2, k2⟩;
                 (try clear d0 d1 d2 d3); have d0 := ((k2).cell (p := ⟨w.heap.size, 0, none⟩) hl9).trans y50; have d1 := ((k2).cell (p := ⟨w.heap.size, 1, none⟩) hl9).trans y51; have d2 := ((k2).cell (p := ⟨w.heap.size, 2, none⟩) hl9).trans y52; have d3 := ((k2).cell (p := ⟨w.heap.size, 3, none⟩) hl9).trans y53
                 )
              | (go_at_call 33; with_reducible refine (CS1.out _ x1 x2 a1 c1 a2 c2 g1 g2 ?_ ?_ ?_).mono ?_; (first | exact j2 | exact Below.refl _ _); (first | exact j1 | exact Below.refl _ _); (first | exact k2 | exact k1); rintro e x3 ⟨rfl, k3⟩;
                 (try clear d0 d1 d2 d3); have d0 := ((k3).cell (p := ⟨w.heap.size, 0, none⟩) hl9).trans y50; have d1 := ((k3).cell (p := ⟨w.heap.size, 1, none⟩) hl9).trans y51; have d2 := ((k3).cell (p := ⟨w.heap.size, 2, none⟩) hl9).trans y52; have d3 := ((k3).cell (p := ⟨w.heap.size, 3, none⟩) hl9).trans y53
                 )
              | (go_at_call 36; with_reducible refine (E3.out _ k3).mono ?_; rintro e x4 ⟨a4, c4, rfl, g4, j4, k4⟩;
                 (try clear d0 d1 d2 d3); have d0 := ((k4).cell (p := ⟨w.heap.size, 0, none⟩) hl9).trans y50; have d1 := ((k4).cell (p := ⟨w.heap.size, 1, none⟩) hl9).trans y51; have d2 := ((k4).cell (p := ⟨w.heap.size, 2, none⟩) hl9).trans y52; have d3 := ((k4).cell (p := ⟨w.heap.size, 3, none⟩) hl9).trans y53
                 )
              | (go_at_call 33; with_reducible refine (CS2.out _ x4 a4 c4 g4 (Below.refl _ _) k4).mono ?_; rintro e x5 ⟨rfl, k5⟩;
                 (try clear d0 d1 d2 d3); have d0 := ((k5).cell (p := ⟨w.heap.size, 0, none⟩) hl9).trans y50; have d1 := ((k5).cell (p := ⟨w.heap.size, 1, none⟩) hl9).trans y51; have d2 := ((k5).cell (p := ⟨w.heap.size, 2, none⟩) hl9).trans y52; have d3 := ((k5).cell (p := ⟨w.heap.size, 3, none⟩) hl9).trans y53
                 )
              | (go_at_call 37; with_reducible refine (E4.out _ k5).mono ?_; rintro e x5b ⟨rfl, rfl⟩)
              | (go_at_call 38; with_reducible refine (E5.out _ ?_).mono ?_; (first | exact k5 | exact k7); rintro e x6 ⟨rfl, k6⟩;
                 (try clear d0 d1 d2 d3); have d0 := ((k6).cell (p := ⟨w.heap.size, 0, none⟩) hl9).trans y50; have d1 := ((k6).cell (p := ⟨w.heap.size, 1, none⟩) hl9).trans y51; have d2 := ((k6).cell (p := ⟨w.heap.size, 2, none⟩) hl9).trans y52; have d3 := ((k6).cell (p := ⟨w.heap.size, 3, none⟩) hl9).trans y53
                 )
              | (go_at_call 39; with_reducible refine (E6.out _ ?_).mono ?_; (first | exact k5 | exact k6); rintro e x7 ⟨rfl, k7⟩;
                 (try clear d0 d1 d2 d3); have d0 := ((k7).cell (p := ⟨w.heap.size, 0, none⟩) hl9).trans y50; have d1 := ((k7).cell (p := ⟨w.heap.size, 1, none⟩) hl9).trans y51; have d2 := ((k7).cell (p := ⟨w.heap.size, 2, none⟩) hl9).trans y52; have d3 := ((k7).cell (p := ⟨w.heap.size, 3, none⟩) hl9).trans y53
                 ))
            all_goals
              go_wp2
              go_ret
              exact ⟨rfl, HBW9.out.trans ((by first | exact k7 | exact k6 | exact Below.drew k7 | exact Below.drew k6 : Below w9.heap.size w9 _).mono HBW9.out.size)⟩
        | false =>
          go_wp2_with fail
          have HB9 := HB7
          have HBW9 := HBW7
          obtain ⟨w9, hw9⟩ : ∃ W, W = w7 := ⟨_, rfl⟩
          subst hw9
          have hl9 : w.heap.size < w9.heap.size := Nat.lt_of_lt_of_le X5.out.lt HB9.out.size
          have y50 := (X5.out.below HB9.out X5.out.lt).cell 0
          have y51 := (X5.out.below HB9.out X5.out.lt).cell 1
          have y52 := (X5.out.below HB9.out X5.out.lt).cell 2
          have y53 := (X5.out.below HB9.out X5.out.lt).cell 3
          simp at y50 y51 y52 y53
          have CS1 : Hid (∀ (V W1 W2 : World) (a1 : Option Addr) (c1 : Nat) (a2 : Option Addr) (c2 : Nat), Elems W1 W1.heap.size a1 K (((envR l).map entS).map .string) → Elems W2 W2.heap.size a2 K (((envR l).map entS).map .string) → Below W1.heap.size W1 V → Below W2.heap.size W2 V → Below w9.heap.size w9 V →
              Calls Tryz.prog 33 #[.slice a1 K c1, .slice a2 K c2] V fun e w' => e = .returned (.bool true) ∧ Below w9.heap.size w9 w') := Lib.hid fun V W1 W2 a1 c1 a2 c2 h1 h2 k1 k2 h3 =>
            (same_any a1 a2 K c1 c2 _ V V.heap.size ((h1.below k1).mono k1.size) ((h2.below k2).mono k2.size)).mono fun e w' h => ⟨h.1, h3.trans (h.2.mono h3.size)⟩
          have CS2 : Hid (∀ (V W1 : World) (a1 : Option Addr) (c1 : Nat), Elems W1 W1.heap.size a1 N (xs.map .string) → Below W1.heap.size W1 V → Below w9.heap.size w9 V →
              Calls Tryz.prog 33 #[.slice a1 N c1, .slice a N c] V fun e w' => e = .returned (.bool true) ∧ Below w9.heap.size w9 w') := Lib.hid fun V W1 a1 c1 h1 k1 h3 =>
            (same_any a1 a N c1 c _ V V.heap.size ((h1.below k1).mono k1.size) (HXE.out V (HBW9.out.trans (h3.mono HBW9.out.size)))).mono fun e w' h => ⟨h.1, h3.trans (h.2.mono h3.size)⟩
          have E1 : Hid (∀ W, Below w9.heap.size w9 W → Calls Tryz.prog 34 #[.pointer (some ⟨g, 0, none⟩)] W fun e w' => ∃ a1 c1, e = .returned (.slice a1 K c1) ∧ Elems w' w'.heap.size a1 K (((envR l).map entS).map .string) ∧ Below W.heap.size W w' ∧ Below w9.heap.size w9 w') := Lib.hid fun W hW => (CE1.out W (HBW9.out.trans (hW.mono HBW9.out.size))).mono fun e w' ⟨a1, c1, h1, h2, h3⟩ => ⟨a1, c1, h1, h2, h3, hW.trans (h3.mono hW.size)⟩
          have E2 : Hid (∀ W, Below w9.heap.size w9 W → Calls Tryz.prog 35 #[.agg #[.slice va M vc, .string ⟨#[115, 104]⟩, .slice a N c, .int .i64 st]] W fun e w' => ∃ a1 c1, e = .returned (.slice a1 K c1) ∧ Elems w' w'.heap.size a1 K (((envR l).map entS).map .string) ∧ Below W.heap.size W w' ∧ Below w9.heap.size w9 w') := Lib.hid fun W hW => (CE2.out W (HBW9.out.trans (hW.mono HBW9.out.size))).mono fun e w' ⟨a1, c1, h1, h2, h3⟩ => ⟨a1, c1, h1, h2, h3, hW.trans (h3.mono hW.size)⟩
          have E3 : Hid (∀ W, Below w9.heap.size w9 W → Calls Tryz.prog 36 #[.pointer (some ⟨g, 0, none⟩)] W fun e w' => ∃ a1 c1, e = .returned (.slice a1 N c1) ∧ Elems w' w'.heap.size a1 N (xs.map .string) ∧ Below W.heap.size W w' ∧ Below w9.heap.size w9 w') := Lib.hid fun W hW => (CAr.out W (HBW9.out.trans (hW.mono HBW9.out.size))).mono fun e w' ⟨a1, c1, h1, h2, h3⟩ => ⟨a1, c1, h1, h2, h3, hW.trans (h3.mono hW.size)⟩
          have E4 : Hid (∀ W, Below w9.heap.size w9 W → Calls Tryz.prog 37 #[.pointer (some ⟨g, 0, none⟩)] W fun e w' => e = .returned (.int .i64 st) ∧ W = w') := Lib.hid fun W hW => CSt.out W (HBW9.out.trans (hW.mono HBW9.out.size))
          have E5 : Hid (∀ W, Below w9.heap.size w9 W → Calls Tryz.prog 38 #[.pointer (some ⟨g, 0, none⟩)] W fun e w' => e = .returned (.string ⟨sp.toArray⟩) ∧ Below w9.heap.size w9 w') := Lib.hid fun W hW => (CSp.out W (HBW9.out.trans (hW.mono HBW9.out.size))).mono fun e w' ⟨h1, h3⟩ => ⟨h1, hW.trans (h3.mono hW.size)⟩
          have E6 : Hid (∀ W, Below w9.heap.size w9 W → Calls Tryz.prog 39 #[.agg #[.slice va M vc, .string ⟨#[115, 104]⟩, .slice a N c, .int .i64 st]] W fun e w' => e = .returned (.string ⟨sp.toArray⟩) ∧ Below w9.heap.size w9 w') := Lib.hid fun W hW => (CSr.out W (HBW9.out.trans (hW.mono HBW9.out.size))).mono fun e w' ⟨h1, h3⟩ => ⟨h1, hW.trans (h3.mono hW.size)⟩
          go_region_held3 (fun W => W.cell? ⟨w.heap.size, 0, none⟩ = some (.slice va M vc) ∧ W.cell? ⟨w.heap.size, 1, none⟩ = some (.string ⟨#[115, 104]⟩) ∧ W.cell? ⟨w.heap.size, 2, none⟩ = some (.slice a N c) ∧ W.cell? ⟨w.heap.size, 3, none⟩ = some (.int .i64 st)) (first | exact ⟨d0, d1, d2, d3⟩ | exact ⟨y50, y51, y52, y53⟩ | go_keep) (first
            | (go_at_call 34; with_reducible refine (E1.out _ ?_).mono ?_; (first | exact Below.refl _ _ | exact Below.drew (Below.refl _ _) | exact k2); rintro e x1 ⟨a1, c1, rfl, g1, j1, k1⟩;
               (try clear d0 d1 d2 d3); have d0 := ((k1).cell (p := ⟨w.heap.size, 0, none⟩) hl9).trans y50; have d1 := ((k1).cell (p := ⟨w.heap.size, 1, none⟩) hl9).trans y51; have d2 := ((k1).cell (p := ⟨w.heap.size, 2, none⟩) hl9).trans y52; have d3 := ((k1).cell (p := ⟨w.heap.size, 3, none⟩) hl9).trans y53
               )
            | (go_at_call 35; with_reducible refine (E2.out _ ?_).mono ?_; (first | exact Below.refl _ _ | exact Below.drew (Below.refl _ _) | exact k1); rintro e x2 ⟨a2, c2, rfl, g2, j2, k2⟩;
               (try clear d0 d1 d2 d3); have d0 := ((k2).cell (p := ⟨w.heap.size, 0, none⟩) hl9).trans y50; have d1 := ((k2).cell (p := ⟨w.heap.size, 1, none⟩) hl9).trans y51; have d2 := ((k2).cell (p := ⟨w.heap.size, 2, none⟩) hl9).trans y52; have d3 := ((k2).cell (p := ⟨w.heap.size, 3, none⟩) hl9).trans y53
               )
            | (go_at_call 33; with_reducible refine (CS1.out _ x1 x2 a1 c1 a2 c2 g1 g2 ?_ ?_ ?_).mono ?_; (first | exact j2 | exact Below.refl _ _); (first | exact j1 | exact Below.refl _ _); (first | exact k2 | exact k1); rintro e x3 ⟨rfl, k3⟩;
               (try clear d0 d1 d2 d3); have d0 := ((k3).cell (p := ⟨w.heap.size, 0, none⟩) hl9).trans y50; have d1 := ((k3).cell (p := ⟨w.heap.size, 1, none⟩) hl9).trans y51; have d2 := ((k3).cell (p := ⟨w.heap.size, 2, none⟩) hl9).trans y52; have d3 := ((k3).cell (p := ⟨w.heap.size, 3, none⟩) hl9).trans y53
               )
            | (go_at_call 36; with_reducible refine (E3.out _ k3).mono ?_; rintro e x4 ⟨a4, c4, rfl, g4, j4, k4⟩;
               (try clear d0 d1 d2 d3); have d0 := ((k4).cell (p := ⟨w.heap.size, 0, none⟩) hl9).trans y50; have d1 := ((k4).cell (p := ⟨w.heap.size, 1, none⟩) hl9).trans y51; have d2 := ((k4).cell (p := ⟨w.heap.size, 2, none⟩) hl9).trans y52; have d3 := ((k4).cell (p := ⟨w.heap.size, 3, none⟩) hl9).trans y53
               )
            | (go_at_call 33; with_reducible refine (CS2.out _ x4 a4 c4 g4 (Below.refl _ _) k4).mono ?_; rintro e x5 ⟨rfl, k5⟩;
               (try clear d0 d1 d2 d3); have d0 := ((k5).cell (p := ⟨w.heap.size, 0, none⟩) hl9).trans y50; have d1 := ((k5).cell (p := ⟨w.heap.size, 1, none⟩) hl9).trans y51; have d2 := ((k5).cell (p := ⟨w.heap.size, 2, none⟩) hl9).trans y52; have d3 := ((k5).cell (p := ⟨w.heap.size, 3, none⟩) hl9).trans y53
               )
            | (go_at_call 37; with_reducible refine (E4.out _ k5).mono ?_; rintro e x5b ⟨rfl, rfl⟩)
            | (go_at_call 38; with_reducible refine (E5.out _ ?_).mono ?_; (first | exact k5 | exact k7); rintro e x6 ⟨rfl, k6⟩;
               (try clear d0 d1 d2 d3); have d0 := ((k6).cell (p := ⟨w.heap.size, 0, none⟩) hl9).trans y50; have d1 := ((k6).cell (p := ⟨w.heap.size, 1, none⟩) hl9).trans y51; have d2 := ((k6).cell (p := ⟨w.heap.size, 2, none⟩) hl9).trans y52; have d3 := ((k6).cell (p := ⟨w.heap.size, 3, none⟩) hl9).trans y53
               )
            | (go_at_call 39; with_reducible refine (E6.out _ ?_).mono ?_; (first | exact k5 | exact k6); rintro e x7 ⟨rfl, k7⟩;
               (try clear d0 d1 d2 d3); have d0 := ((k7).cell (p := ⟨w.heap.size, 0, none⟩) hl9).trans y50; have d1 := ((k7).cell (p := ⟨w.heap.size, 1, none⟩) hl9).trans y51; have d2 := ((k7).cell (p := ⟨w.heap.size, 2, none⟩) hl9).trans y52; have d3 := ((k7).cell (p := ⟨w.heap.size, 3, none⟩) hl9).trans y53
               ))
          all_goals
            go_wp2
            go_ret
            exact ⟨rfl, HBW9.out.trans ((by first | exact k7 | exact k6 | exact Below.drew k7 | exact Below.drew k6 : Below w9.heap.size w9 _).mono HBW9.out.size)⟩
  | true =>
    go_wp2_with fail
    go_quiet ((go_at_call 29; exact Calls.quiet_of_same (CX.out _ (by first | exact HBW6.out | exact below_drewN HBW6.out _ | exact Below.drew HBW6.out))))
    obtain ⟨w7, hw7⟩ : ∃ W, W = w6.drewN nq := ⟨_, rfl⟩
    have HB7 : Hid (Below w3.heap.size w3 w7) := Lib.hid (by rw [hw7]; exact below_drewN HB6.out nq)
    have HBW7 : Hid (Below w.heap.size w w7) := Lib.hid (by rw [hw7]; exact below_drewN HBW6.out nq)
    rw [← hw7]
    clear hw7 z1 z2 z4
    go_wp2_with fail
    refine (CNm.out _).mono ?_
    rintro e w8 ⟨rfl, rfl⟩
    cases b1 with
    | true =>
      have HO := Lib.hid (HOK.out rfl)
      go_wp2_with fail
      have P1 := Lib.hid (CP1.out w7 HBW7.out)
      refine P1.out.mono ?_
      rintro e w8 ⟨rfl, hb8⟩
      have HB8 : Hid (Below w3.heap.size w3 w8) := Lib.hid (HB7.out.trans (hb8.mono HB7.out.size))
      have HBW8 : Hid (Below w.heap.size w w8) := Lib.hid (HB3.out.trans (HB8.out.mono HB3.out.size))
      clear hb8
      have y50 := (X5.out.below HB8.out X5.out.lt).cell 0
      have y51 := (X5.out.below HB8.out X5.out.lt).cell 1
      have y52 := (X5.out.below HB8.out X5.out.lt).cell 2
      have y53 := (X5.out.below HB8.out X5.out.lt).cell 3
      simp at y50 y51 y52 y53
      have P2 := Lib.hid (CP2.out w8 HBW8.out HO.out)
      go_wp2_with fail
      refine P2.out.mono ?_
      rintro e w9 ⟨rfl, hb9⟩
      have HB9 : Hid (Below w3.heap.size w3 w9) := Lib.hid (HB8.out.trans (hb9.mono HB8.out.size))
      have HBW9 : Hid (Below w.heap.size w w9) := Lib.hid (HB3.out.trans (HB9.out.mono HB3.out.size))
      clear hb9 y50 y51 y52 y53
      cases q0 with
      | false =>
        obtain rfl := HPN.out rfl
        go_wp2_with fail
        have hl9 : w.heap.size < w9.heap.size := Nat.lt_of_lt_of_le X5.out.lt HB9.out.size
        have y50 := (X5.out.below HB9.out X5.out.lt).cell 0
        have y51 := (X5.out.below HB9.out X5.out.lt).cell 1
        have y52 := (X5.out.below HB9.out X5.out.lt).cell 2
        have y53 := (X5.out.below HB9.out X5.out.lt).cell 3
        simp at y50 y51 y52 y53
        have CS1 : Hid (∀ (V W1 W2 : World) (a1 : Option Addr) (c1 : Nat) (a2 : Option Addr) (c2 : Nat), Elems W1 W1.heap.size a1 K (((envR l).map entS).map .string) → Elems W2 W2.heap.size a2 K (((envR l).map entS).map .string) → Below W1.heap.size W1 V → Below W2.heap.size W2 V → Below w9.heap.size w9 V →
            Calls Tryz.prog 33 #[.slice a1 K c1, .slice a2 K c2] V fun e w' => e = .returned (.bool true) ∧ Below w9.heap.size w9 w') := Lib.hid fun V W1 W2 a1 c1 a2 c2 h1 h2 k1 k2 h3 =>
          (same_any a1 a2 K c1 c2 _ V V.heap.size ((h1.below k1).mono k1.size) ((h2.below k2).mono k2.size)).mono fun e w' h => ⟨h.1, h3.trans (h.2.mono h3.size)⟩
        have CS2 : Hid (∀ (V W1 : World) (a1 : Option Addr) (c1 : Nat), Elems W1 W1.heap.size a1 N (xs.map .string) → Below W1.heap.size W1 V → Below w9.heap.size w9 V →
            Calls Tryz.prog 33 #[.slice a1 N c1, .slice a N c] V fun e w' => e = .returned (.bool true) ∧ Below w9.heap.size w9 w') := Lib.hid fun V W1 a1 c1 h1 k1 h3 =>
          (same_any a1 a N c1 c _ V V.heap.size ((h1.below k1).mono k1.size) (HXE.out V (HBW9.out.trans (h3.mono HBW9.out.size)))).mono fun e w' h => ⟨h.1, h3.trans (h.2.mono h3.size)⟩
        have E1 : Hid (∀ W, Below w9.heap.size w9 W → Calls Tryz.prog 34 #[.pointer (some ⟨g, 0, none⟩)] W fun e w' => ∃ a1 c1, e = .returned (.slice a1 K c1) ∧ Elems w' w'.heap.size a1 K (((envR l).map entS).map .string) ∧ Below W.heap.size W w' ∧ Below w9.heap.size w9 w') := Lib.hid fun W hW => (CE1.out W (HBW9.out.trans (hW.mono HBW9.out.size))).mono fun e w' ⟨a1, c1, h1, h2, h3⟩ => ⟨a1, c1, h1, h2, h3, hW.trans (h3.mono hW.size)⟩
        have E2 : Hid (∀ W, Below w9.heap.size w9 W → Calls Tryz.prog 35 #[.agg #[.slice va M vc, .string ⟨#[115, 104]⟩, .slice a N c, .int .i64 st]] W fun e w' => ∃ a1 c1, e = .returned (.slice a1 K c1) ∧ Elems w' w'.heap.size a1 K (((envR l).map entS).map .string) ∧ Below W.heap.size W w' ∧ Below w9.heap.size w9 w') := Lib.hid fun W hW => (CE2.out W (HBW9.out.trans (hW.mono HBW9.out.size))).mono fun e w' ⟨a1, c1, h1, h2, h3⟩ => ⟨a1, c1, h1, h2, h3, hW.trans (h3.mono hW.size)⟩
        have E3 : Hid (∀ W, Below w9.heap.size w9 W → Calls Tryz.prog 36 #[.pointer (some ⟨g, 0, none⟩)] W fun e w' => ∃ a1 c1, e = .returned (.slice a1 N c1) ∧ Elems w' w'.heap.size a1 N (xs.map .string) ∧ Below W.heap.size W w' ∧ Below w9.heap.size w9 w') := Lib.hid fun W hW => (CAr.out W (HBW9.out.trans (hW.mono HBW9.out.size))).mono fun e w' ⟨a1, c1, h1, h2, h3⟩ => ⟨a1, c1, h1, h2, h3, hW.trans (h3.mono hW.size)⟩
        have E4 : Hid (∀ W, Below w9.heap.size w9 W → Calls Tryz.prog 37 #[.pointer (some ⟨g, 0, none⟩)] W fun e w' => e = .returned (.int .i64 st) ∧ W = w') := Lib.hid fun W hW => CSt.out W (HBW9.out.trans (hW.mono HBW9.out.size))
        have E5 : Hid (∀ W, Below w9.heap.size w9 W → Calls Tryz.prog 38 #[.pointer (some ⟨g, 0, none⟩)] W fun e w' => e = .returned (.string ⟨sp.toArray⟩) ∧ Below w9.heap.size w9 w') := Lib.hid fun W hW => (CSp.out W (HBW9.out.trans (hW.mono HBW9.out.size))).mono fun e w' ⟨h1, h3⟩ => ⟨h1, hW.trans (h3.mono hW.size)⟩
        have E6 : Hid (∀ W, Below w9.heap.size w9 W → Calls Tryz.prog 39 #[.agg #[.slice va M vc, .string ⟨#[115, 104]⟩, .slice a N c, .int .i64 st]] W fun e w' => e = .returned (.string ⟨sp.toArray⟩) ∧ Below w9.heap.size w9 w') := Lib.hid fun W hW => (CSr.out W (HBW9.out.trans (hW.mono HBW9.out.size))).mono fun e w' ⟨h1, h3⟩ => ⟨h1, hW.trans (h3.mono hW.size)⟩
        go_region_held3 (fun W => W.cell? ⟨w.heap.size, 0, none⟩ = some (.slice va M vc) ∧ W.cell? ⟨w.heap.size, 1, none⟩ = some (.string ⟨#[115, 104]⟩) ∧ W.cell? ⟨w.heap.size, 2, none⟩ = some (.slice a N c) ∧ W.cell? ⟨w.heap.size, 3, none⟩ = some (.int .i64 st)) (first | exact ⟨d0, d1, d2, d3⟩ | exact ⟨y50, y51, y52, y53⟩ | go_keep) (first
          | (go_at_call 34; with_reducible refine (E1.out _ ?_).mono ?_; (first | exact Below.refl _ _ | exact Below.drew (Below.refl _ _) | exact k2); rintro e x1 ⟨a1, c1, rfl, g1, j1, k1⟩;
             (try clear d0 d1 d2 d3); have d0 := ((k1).cell (p := ⟨w.heap.size, 0, none⟩) hl9).trans y50; have d1 := ((k1).cell (p := ⟨w.heap.size, 1, none⟩) hl9).trans y51; have d2 := ((k1).cell (p := ⟨w.heap.size, 2, none⟩) hl9).trans y52; have d3 := ((k1).cell (p := ⟨w.heap.size, 3, none⟩) hl9).trans y53
             )
          | (go_at_call 35; with_reducible refine (E2.out _ ?_).mono ?_; (first | exact Below.refl _ _ | exact Below.drew (Below.refl _ _) | exact k1); rintro e x2 ⟨a2, c2, rfl, g2, j2, k2⟩;
             (try clear d0 d1 d2 d3); have d0 := ((k2).cell (p := ⟨w.heap.size, 0, none⟩) hl9).trans y50; have d1 := ((k2).cell (p := ⟨w.heap.size, 1, none⟩) hl9).trans y51; have d2 := ((k2).cell (p := ⟨w.heap.size, 2, none⟩) hl9).trans y52; have d3 := ((k2).cell (p := ⟨w.heap.size, 3, none⟩) hl9).trans y53
             )
          | (go_at_call 33; with_reducible refine (CS1.out _ x1 x2 a1 c1 a2 c2 g1 g2 ?_ ?_ ?_).mono ?_; (first | exact j2 | exact Below.refl _ _); (first | exact j1 | exact Below.refl _ _); (first | exact k2 | exact k1); rintro e x3 ⟨rfl, k3⟩;
             (try clear d0 d1 d2 d3); have d0 := ((k3).cell (p := ⟨w.heap.size, 0, none⟩) hl9).trans y50; have d1 := ((k3).cell (p := ⟨w.heap.size, 1, none⟩) hl9).trans y51; have d2 := ((k3).cell (p := ⟨w.heap.size, 2, none⟩) hl9).trans y52; have d3 := ((k3).cell (p := ⟨w.heap.size, 3, none⟩) hl9).trans y53
             )
          | (go_at_call 36; with_reducible refine (E3.out _ k3).mono ?_; rintro e x4 ⟨a4, c4, rfl, g4, j4, k4⟩;
             (try clear d0 d1 d2 d3); have d0 := ((k4).cell (p := ⟨w.heap.size, 0, none⟩) hl9).trans y50; have d1 := ((k4).cell (p := ⟨w.heap.size, 1, none⟩) hl9).trans y51; have d2 := ((k4).cell (p := ⟨w.heap.size, 2, none⟩) hl9).trans y52; have d3 := ((k4).cell (p := ⟨w.heap.size, 3, none⟩) hl9).trans y53
             )
          | (go_at_call 33; with_reducible refine (CS2.out _ x4 a4 c4 g4 (Below.refl _ _) k4).mono ?_; rintro e x5 ⟨rfl, k5⟩;
             (try clear d0 d1 d2 d3); have d0 := ((k5).cell (p := ⟨w.heap.size, 0, none⟩) hl9).trans y50; have d1 := ((k5).cell (p := ⟨w.heap.size, 1, none⟩) hl9).trans y51; have d2 := ((k5).cell (p := ⟨w.heap.size, 2, none⟩) hl9).trans y52; have d3 := ((k5).cell (p := ⟨w.heap.size, 3, none⟩) hl9).trans y53
             )
          | (go_at_call 37; with_reducible refine (E4.out _ k5).mono ?_; rintro e x5b ⟨rfl, rfl⟩)
          | (go_at_call 38; with_reducible refine (E5.out _ ?_).mono ?_; (first | exact k5 | exact k7); rintro e x6 ⟨rfl, k6⟩;
             (try clear d0 d1 d2 d3); have d0 := ((k6).cell (p := ⟨w.heap.size, 0, none⟩) hl9).trans y50; have d1 := ((k6).cell (p := ⟨w.heap.size, 1, none⟩) hl9).trans y51; have d2 := ((k6).cell (p := ⟨w.heap.size, 2, none⟩) hl9).trans y52; have d3 := ((k6).cell (p := ⟨w.heap.size, 3, none⟩) hl9).trans y53
             )
          | (go_at_call 39; with_reducible refine (E6.out _ ?_).mono ?_; (first | exact k5 | exact k6); rintro e x7 ⟨rfl, k7⟩;
             (try clear d0 d1 d2 d3); have d0 := ((k7).cell (p := ⟨w.heap.size, 0, none⟩) hl9).trans y50; have d1 := ((k7).cell (p := ⟨w.heap.size, 1, none⟩) hl9).trans y51; have d2 := ((k7).cell (p := ⟨w.heap.size, 2, none⟩) hl9).trans y52; have d3 := ((k7).cell (p := ⟨w.heap.size, 3, none⟩) hl9).trans y53
             ))
        all_goals
          go_wp2
          go_ret
          exact ⟨rfl, HBW9.out.trans ((by first | exact k7 | exact k6 | exact Below.drew k7 | exact Below.drew k6 : Below w9.heap.size w9 _).mono HBW9.out.size)⟩
      | true =>
        go_wp2_with fail
        have hl9 : w.heap.size < w9.heap.size := Nat.lt_of_lt_of_le X5.out.lt HB9.out.size
        have y50 := (X5.out.below HB9.out X5.out.lt).cell 0
        have y51 := (X5.out.below HB9.out X5.out.lt).cell 1
        have y52 := (X5.out.below HB9.out X5.out.lt).cell 2
        have y53 := (X5.out.below HB9.out X5.out.lt).cell 3
        simp at y50 y51 y52 y53
        have CS1 : Hid (∀ (V W1 W2 : World) (a1 : Option Addr) (c1 : Nat) (a2 : Option Addr) (c2 : Nat), Elems W1 W1.heap.size a1 K (((envR l).map entS).map .string) → Elems W2 W2.heap.size a2 K (((envR l).map entS).map .string) → Below W1.heap.size W1 V → Below W2.heap.size W2 V → Below w9.heap.size w9 V →
            Calls Tryz.prog 33 #[.slice a1 K c1, .slice a2 K c2] V fun e w' => e = .returned (.bool true) ∧ Below w9.heap.size w9 w') := Lib.hid fun V W1 W2 a1 c1 a2 c2 h1 h2 k1 k2 h3 =>
          (same_any a1 a2 K c1 c2 _ V V.heap.size ((h1.below k1).mono k1.size) ((h2.below k2).mono k2.size)).mono fun e w' h => ⟨h.1, h3.trans (h.2.mono h3.size)⟩
        have CS2 : Hid (∀ (V W1 : World) (a1 : Option Addr) (c1 : Nat), Elems W1 W1.heap.size a1 N (xs.map .string) → Below W1.heap.size W1 V → Below w9.heap.size w9 V →
            Calls Tryz.prog 33 #[.slice a1 N c1, .slice a N c] V fun e w' => e = .returned (.bool true) ∧ Below w9.heap.size w9 w') := Lib.hid fun V W1 a1 c1 h1 k1 h3 =>
          (same_any a1 a N c1 c _ V V.heap.size ((h1.below k1).mono k1.size) (HXE.out V (HBW9.out.trans (h3.mono HBW9.out.size)))).mono fun e w' h => ⟨h.1, h3.trans (h.2.mono h3.size)⟩
        have E1 : Hid (∀ W, Below w9.heap.size w9 W → Calls Tryz.prog 34 #[.pointer (some ⟨g, 0, none⟩)] W fun e w' => ∃ a1 c1, e = .returned (.slice a1 K c1) ∧ Elems w' w'.heap.size a1 K (((envR l).map entS).map .string) ∧ Below W.heap.size W w' ∧ Below w9.heap.size w9 w') := Lib.hid fun W hW => (CE1.out W (HBW9.out.trans (hW.mono HBW9.out.size))).mono fun e w' ⟨a1, c1, h1, h2, h3⟩ => ⟨a1, c1, h1, h2, h3, hW.trans (h3.mono hW.size)⟩
        have E2 : Hid (∀ W, Below w9.heap.size w9 W → Calls Tryz.prog 35 #[.agg #[.slice va M vc, .string ⟨#[115, 104]⟩, .slice a N c, .int .i64 st]] W fun e w' => ∃ a1 c1, e = .returned (.slice a1 K c1) ∧ Elems w' w'.heap.size a1 K (((envR l).map entS).map .string) ∧ Below W.heap.size W w' ∧ Below w9.heap.size w9 w') := Lib.hid fun W hW => (CE2.out W (HBW9.out.trans (hW.mono HBW9.out.size))).mono fun e w' ⟨a1, c1, h1, h2, h3⟩ => ⟨a1, c1, h1, h2, h3, hW.trans (h3.mono hW.size)⟩
        have E3 : Hid (∀ W, Below w9.heap.size w9 W → Calls Tryz.prog 36 #[.pointer (some ⟨g, 0, none⟩)] W fun e w' => ∃ a1 c1, e = .returned (.slice a1 N c1) ∧ Elems w' w'.heap.size a1 N (xs.map .string) ∧ Below W.heap.size W w' ∧ Below w9.heap.size w9 w') := Lib.hid fun W hW => (CAr.out W (HBW9.out.trans (hW.mono HBW9.out.size))).mono fun e w' ⟨a1, c1, h1, h2, h3⟩ => ⟨a1, c1, h1, h2, h3, hW.trans (h3.mono hW.size)⟩
        have E4 : Hid (∀ W, Below w9.heap.size w9 W → Calls Tryz.prog 37 #[.pointer (some ⟨g, 0, none⟩)] W fun e w' => e = .returned (.int .i64 st) ∧ W = w') := Lib.hid fun W hW => CSt.out W (HBW9.out.trans (hW.mono HBW9.out.size))
        have E5 : Hid (∀ W, Below w9.heap.size w9 W → Calls Tryz.prog 38 #[.pointer (some ⟨g, 0, none⟩)] W fun e w' => e = .returned (.string ⟨sp.toArray⟩) ∧ Below w9.heap.size w9 w') := Lib.hid fun W hW => (CSp.out W (HBW9.out.trans (hW.mono HBW9.out.size))).mono fun e w' ⟨h1, h3⟩ => ⟨h1, hW.trans (h3.mono hW.size)⟩
        have E6 : Hid (∀ W, Below w9.heap.size w9 W → Calls Tryz.prog 39 #[.agg #[.slice va M vc, .string ⟨#[115, 104]⟩, .slice a N c, .int .i64 st]] W fun e w' => e = .returned (.string ⟨sp.toArray⟩) ∧ Below w9.heap.size w9 w') := Lib.hid fun W hW => (CSr.out W (HBW9.out.trans (hW.mono HBW9.out.size))).mono fun e w' ⟨h1, h3⟩ => ⟨h1, hW.trans (h3.mono hW.size)⟩
        go_region_held3 (fun W => W.cell? ⟨w.heap.size, 0, none⟩ = some (.slice va M vc) ∧ W.cell? ⟨w.heap.size, 1, none⟩ = some (.string ⟨#[115, 104]⟩) ∧ W.cell? ⟨w.heap.size, 2, none⟩ = some (.slice a N c) ∧ W.cell? ⟨w.heap.size, 3, none⟩ = some (.int .i64 st)) (first | exact ⟨d0, d1, d2, d3⟩ | exact ⟨y50, y51, y52, y53⟩ | go_keep) (first
          | (go_at_call 34; with_reducible refine (E1.out _ ?_).mono ?_; (first | exact Below.refl _ _ | exact Below.drew (Below.refl _ _) | exact k2); rintro e x1 ⟨a1, c1, rfl, g1, j1, k1⟩;
             (try clear d0 d1 d2 d3); have d0 := ((k1).cell (p := ⟨w.heap.size, 0, none⟩) hl9).trans y50; have d1 := ((k1).cell (p := ⟨w.heap.size, 1, none⟩) hl9).trans y51; have d2 := ((k1).cell (p := ⟨w.heap.size, 2, none⟩) hl9).trans y52; have d3 := ((k1).cell (p := ⟨w.heap.size, 3, none⟩) hl9).trans y53
             )
          | (go_at_call 35; with_reducible refine (E2.out _ ?_).mono ?_; (first | exact Below.refl _ _ | exact Below.drew (Below.refl _ _) | exact k1); rintro e x2 ⟨a2, c2, rfl, g2, j2, k2⟩;
             (try clear d0 d1 d2 d3); have d0 := ((k2).cell (p := ⟨w.heap.size, 0, none⟩) hl9).trans y50; have d1 := ((k2).cell (p := ⟨w.heap.size, 1, none⟩) hl9).trans y51; have d2 := ((k2).cell (p := ⟨w.heap.size, 2, none⟩) hl9).trans y52; have d3 := ((k2).cell (p := ⟨w.heap.size, 3, none⟩) hl9).trans y53
             )
          | (go_at_call 33; with_reducible refine (CS1.out _ x1 x2 a1 c1 a2 c2 g1 g2 ?_ ?_ ?_).mono ?_; (first | exact j2 | exact Below.refl _ _); (first | exact j1 | exact Below.refl _ _); (first | exact k2 | exact k1); rintro e x3 ⟨rfl, k3⟩;
             (try clear d0 d1 d2 d3); have d0 := ((k3).cell (p := ⟨w.heap.size, 0, none⟩) hl9).trans y50; have d1 := ((k3).cell (p := ⟨w.heap.size, 1, none⟩) hl9).trans y51; have d2 := ((k3).cell (p := ⟨w.heap.size, 2, none⟩) hl9).trans y52; have d3 := ((k3).cell (p := ⟨w.heap.size, 3, none⟩) hl9).trans y53
             )
          | (go_at_call 36; with_reducible refine (E3.out _ k3).mono ?_; rintro e x4 ⟨a4, c4, rfl, g4, j4, k4⟩;
             (try clear d0 d1 d2 d3); have d0 := ((k4).cell (p := ⟨w.heap.size, 0, none⟩) hl9).trans y50; have d1 := ((k4).cell (p := ⟨w.heap.size, 1, none⟩) hl9).trans y51; have d2 := ((k4).cell (p := ⟨w.heap.size, 2, none⟩) hl9).trans y52; have d3 := ((k4).cell (p := ⟨w.heap.size, 3, none⟩) hl9).trans y53
             )
          | (go_at_call 33; with_reducible refine (CS2.out _ x4 a4 c4 g4 (Below.refl _ _) k4).mono ?_; rintro e x5 ⟨rfl, k5⟩;
             (try clear d0 d1 d2 d3); have d0 := ((k5).cell (p := ⟨w.heap.size, 0, none⟩) hl9).trans y50; have d1 := ((k5).cell (p := ⟨w.heap.size, 1, none⟩) hl9).trans y51; have d2 := ((k5).cell (p := ⟨w.heap.size, 2, none⟩) hl9).trans y52; have d3 := ((k5).cell (p := ⟨w.heap.size, 3, none⟩) hl9).trans y53
             )
          | (go_at_call 37; with_reducible refine (E4.out _ k5).mono ?_; rintro e x5b ⟨rfl, rfl⟩)
          | (go_at_call 38; with_reducible refine (E5.out _ ?_).mono ?_; (first | exact k5 | exact k7); rintro e x6 ⟨rfl, k6⟩;
             (try clear d0 d1 d2 d3); have d0 := ((k6).cell (p := ⟨w.heap.size, 0, none⟩) hl9).trans y50; have d1 := ((k6).cell (p := ⟨w.heap.size, 1, none⟩) hl9).trans y51; have d2 := ((k6).cell (p := ⟨w.heap.size, 2, none⟩) hl9).trans y52; have d3 := ((k6).cell (p := ⟨w.heap.size, 3, none⟩) hl9).trans y53
             )
          | (go_at_call 39; with_reducible refine (E6.out _ ?_).mono ?_; (first | exact k5 | exact k6); rintro e x7 ⟨rfl, k7⟩;
             (try clear d0 d1 d2 d3); have d0 := ((k7).cell (p := ⟨w.heap.size, 0, none⟩) hl9).trans y50; have d1 := ((k7).cell (p := ⟨w.heap.size, 1, none⟩) hl9).trans y51; have d2 := ((k7).cell (p := ⟨w.heap.size, 2, none⟩) hl9).trans y52; have d3 := ((k7).cell (p := ⟨w.heap.size, 3, none⟩) hl9).trans y53
             ))
        all_goals
          go_wp2
          go_ret
          exact ⟨rfl, HBW9.out.trans ((by first | exact k7 | exact k6 | exact Below.drew k7 | exact Below.drew k6 : Below w9.heap.size w9 _).mono HBW9.out.size)⟩
    | false =>
      go_wp2_with fail
      refine (CNu.out _).mono ?_
      rintro e w8 ⟨rfl, rfl⟩
      cases b2 with
      | true =>
        have HO := Lib.hid (HOK.out rfl)
        go_wp2_with fail
        have P1 := Lib.hid (CP1.out w7 HBW7.out)
        refine P1.out.mono ?_
        rintro e w8 ⟨rfl, hb8⟩
        have HB8 : Hid (Below w3.heap.size w3 w8) := Lib.hid (HB7.out.trans (hb8.mono HB7.out.size))
        have HBW8 : Hid (Below w.heap.size w w8) := Lib.hid (HB3.out.trans (HB8.out.mono HB3.out.size))
        clear hb8
        have y50 := (X5.out.below HB8.out X5.out.lt).cell 0
        have y51 := (X5.out.below HB8.out X5.out.lt).cell 1
        have y52 := (X5.out.below HB8.out X5.out.lt).cell 2
        have y53 := (X5.out.below HB8.out X5.out.lt).cell 3
        simp at y50 y51 y52 y53
        have P2 := Lib.hid (CP2.out w8 HBW8.out HO.out)
        go_wp2_with fail
        refine P2.out.mono ?_
        rintro e w9 ⟨rfl, hb9⟩
        have HB9 : Hid (Below w3.heap.size w3 w9) := Lib.hid (HB8.out.trans (hb9.mono HB8.out.size))
        have HBW9 : Hid (Below w.heap.size w w9) := Lib.hid (HB3.out.trans (HB9.out.mono HB3.out.size))
        clear hb9 y50 y51 y52 y53
        cases q0 with
        | false =>
          obtain rfl := HPN.out rfl
          go_wp2_with fail
          have hl9 : w.heap.size < w9.heap.size := Nat.lt_of_lt_of_le X5.out.lt HB9.out.size
          have y50 := (X5.out.below HB9.out X5.out.lt).cell 0
          have y51 := (X5.out.below HB9.out X5.out.lt).cell 1
          have y52 := (X5.out.below HB9.out X5.out.lt).cell 2
          have y53 := (X5.out.below HB9.out X5.out.lt).cell 3
          simp at y50 y51 y52 y53
          have CS1 : Hid (∀ (V W1 W2 : World) (a1 : Option Addr) (c1 : Nat) (a2 : Option Addr) (c2 : Nat), Elems W1 W1.heap.size a1 K (((envR l).map entS).map .string) → Elems W2 W2.heap.size a2 K (((envR l).map entS).map .string) → Below W1.heap.size W1 V → Below W2.heap.size W2 V → Below w9.heap.size w9 V →
              Calls Tryz.prog 33 #[.slice a1 K c1, .slice a2 K c2] V fun e w' => e = .returned (.bool true) ∧ Below w9.heap.size w9 w') := Lib.hid fun V W1 W2 a1 c1 a2 c2 h1 h2 k1 k2 h3 =>
            (same_any a1 a2 K c1 c2 _ V V.heap.size ((h1.below k1).mono k1.size) ((h2.below k2).mono k2.size)).mono fun e w' h => ⟨h.1, h3.trans (h.2.mono h3.size)⟩
          have CS2 : Hid (∀ (V W1 : World) (a1 : Option Addr) (c1 : Nat), Elems W1 W1.heap.size a1 N (xs.map .string) → Below W1.heap.size W1 V → Below w9.heap.size w9 V →
              Calls Tryz.prog 33 #[.slice a1 N c1, .slice a N c] V fun e w' => e = .returned (.bool true) ∧ Below w9.heap.size w9 w') := Lib.hid fun V W1 a1 c1 h1 k1 h3 =>
            (same_any a1 a N c1 c _ V V.heap.size ((h1.below k1).mono k1.size) (HXE.out V (HBW9.out.trans (h3.mono HBW9.out.size)))).mono fun e w' h => ⟨h.1, h3.trans (h.2.mono h3.size)⟩
          have E1 : Hid (∀ W, Below w9.heap.size w9 W → Calls Tryz.prog 34 #[.pointer (some ⟨g, 0, none⟩)] W fun e w' => ∃ a1 c1, e = .returned (.slice a1 K c1) ∧ Elems w' w'.heap.size a1 K (((envR l).map entS).map .string) ∧ Below W.heap.size W w' ∧ Below w9.heap.size w9 w') := Lib.hid fun W hW => (CE1.out W (HBW9.out.trans (hW.mono HBW9.out.size))).mono fun e w' ⟨a1, c1, h1, h2, h3⟩ => ⟨a1, c1, h1, h2, h3, hW.trans (h3.mono hW.size)⟩
          have E2 : Hid (∀ W, Below w9.heap.size w9 W → Calls Tryz.prog 35 #[.agg #[.slice va M vc, .string ⟨#[115, 104]⟩, .slice a N c, .int .i64 st]] W fun e w' => ∃ a1 c1, e = .returned (.slice a1 K c1) ∧ Elems w' w'.heap.size a1 K (((envR l).map entS).map .string) ∧ Below W.heap.size W w' ∧ Below w9.heap.size w9 w') := Lib.hid fun W hW => (CE2.out W (HBW9.out.trans (hW.mono HBW9.out.size))).mono fun e w' ⟨a1, c1, h1, h2, h3⟩ => ⟨a1, c1, h1, h2, h3, hW.trans (h3.mono hW.size)⟩
          have E3 : Hid (∀ W, Below w9.heap.size w9 W → Calls Tryz.prog 36 #[.pointer (some ⟨g, 0, none⟩)] W fun e w' => ∃ a1 c1, e = .returned (.slice a1 N c1) ∧ Elems w' w'.heap.size a1 N (xs.map .string) ∧ Below W.heap.size W w' ∧ Below w9.heap.size w9 w') := Lib.hid fun W hW => (CAr.out W (HBW9.out.trans (hW.mono HBW9.out.size))).mono fun e w' ⟨a1, c1, h1, h2, h3⟩ => ⟨a1, c1, h1, h2, h3, hW.trans (h3.mono hW.size)⟩
          have E4 : Hid (∀ W, Below w9.heap.size w9 W → Calls Tryz.prog 37 #[.pointer (some ⟨g, 0, none⟩)] W fun e w' => e = .returned (.int .i64 st) ∧ W = w') := Lib.hid fun W hW => CSt.out W (HBW9.out.trans (hW.mono HBW9.out.size))
          have E5 : Hid (∀ W, Below w9.heap.size w9 W → Calls Tryz.prog 38 #[.pointer (some ⟨g, 0, none⟩)] W fun e w' => e = .returned (.string ⟨sp.toArray⟩) ∧ Below w9.heap.size w9 w') := Lib.hid fun W hW => (CSp.out W (HBW9.out.trans (hW.mono HBW9.out.size))).mono fun e w' ⟨h1, h3⟩ => ⟨h1, hW.trans (h3.mono hW.size)⟩
          have E6 : Hid (∀ W, Below w9.heap.size w9 W → Calls Tryz.prog 39 #[.agg #[.slice va M vc, .string ⟨#[115, 104]⟩, .slice a N c, .int .i64 st]] W fun e w' => e = .returned (.string ⟨sp.toArray⟩) ∧ Below w9.heap.size w9 w') := Lib.hid fun W hW => (CSr.out W (HBW9.out.trans (hW.mono HBW9.out.size))).mono fun e w' ⟨h1, h3⟩ => ⟨h1, hW.trans (h3.mono hW.size)⟩
          go_region_held3 (fun W => W.cell? ⟨w.heap.size, 0, none⟩ = some (.slice va M vc) ∧ W.cell? ⟨w.heap.size, 1, none⟩ = some (.string ⟨#[115, 104]⟩) ∧ W.cell? ⟨w.heap.size, 2, none⟩ = some (.slice a N c) ∧ W.cell? ⟨w.heap.size, 3, none⟩ = some (.int .i64 st)) (first | exact ⟨d0, d1, d2, d3⟩ | exact ⟨y50, y51, y52, y53⟩ | go_keep) (first
            | (go_at_call 34; with_reducible refine (E1.out _ ?_).mono ?_; (first | exact Below.refl _ _ | exact Below.drew (Below.refl _ _) | exact k2); rintro e x1 ⟨a1, c1, rfl, g1, j1, k1⟩;
               (try clear d0 d1 d2 d3); have d0 := ((k1).cell (p := ⟨w.heap.size, 0, none⟩) hl9).trans y50; have d1 := ((k1).cell (p := ⟨w.heap.size, 1, none⟩) hl9).trans y51; have d2 := ((k1).cell (p := ⟨w.heap.size, 2, none⟩) hl9).trans y52; have d3 := ((k1).cell (p := ⟨w.heap.size, 3, none⟩) hl9).trans y53
               )
            | (go_at_call 35; with_reducible refine (E2.out _ ?_).mono ?_; (first | exact Below.refl _ _ | exact Below.drew (Below.refl _ _) | exact k1); rintro e x2 ⟨a2, c2, rfl, g2, j2, k2⟩;
               (try clear d0 d1 d2 d3); have d0 := ((k2).cell (p := ⟨w.heap.size, 0, none⟩) hl9).trans y50; have d1 := ((k2).cell (p := ⟨w.heap.size, 1, none⟩) hl9).trans y51; have d2 := ((k2).cell (p := ⟨w.heap.size, 2, none⟩) hl9).trans y52; have d3 := ((k2).cell (p := ⟨w.heap.size, 3, none⟩) hl9).trans y53
               )
            | (go_at_call 33; with_reducible refine (CS1.out _ x1 x2 a1 c1 a2 c2 g1 g2 ?_ ?_ ?_).mono ?_; (first | exact j2 | exact Below.refl _ _); (first | exact j1 | exact Below.refl _ _); (first | exact k2 | exact k1); rintro e x3 ⟨rfl, k3⟩;
               (try clear d0 d1 d2 d3); have d0 := ((k3).cell (p := ⟨w.heap.size, 0, none⟩) hl9).trans y50; have d1 := ((k3).cell (p := ⟨w.heap.size, 1, none⟩) hl9).trans y51; have d2 := ((k3).cell (p := ⟨w.heap.size, 2, none⟩) hl9).trans y52; have d3 := ((k3).cell (p := ⟨w.heap.size, 3, none⟩) hl9).trans y53
               )
            | (go_at_call 36; with_reducible refine (E3.out _ k3).mono ?_; rintro e x4 ⟨a4, c4, rfl, g4, j4, k4⟩;
               (try clear d0 d1 d2 d3); have d0 := ((k4).cell (p := ⟨w.heap.size, 0, none⟩) hl9).trans y50; have d1 := ((k4).cell (p := ⟨w.heap.size, 1, none⟩) hl9).trans y51; have d2 := ((k4).cell (p := ⟨w.heap.size, 2, none⟩) hl9).trans y52; have d3 := ((k4).cell (p := ⟨w.heap.size, 3, none⟩) hl9).trans y53
               )
            | (go_at_call 33; with_reducible refine (CS2.out _ x4 a4 c4 g4 (Below.refl _ _) k4).mono ?_; rintro e x5 ⟨rfl, k5⟩;
               (try clear d0 d1 d2 d3); have d0 := ((k5).cell (p := ⟨w.heap.size, 0, none⟩) hl9).trans y50; have d1 := ((k5).cell (p := ⟨w.heap.size, 1, none⟩) hl9).trans y51; have d2 := ((k5).cell (p := ⟨w.heap.size, 2, none⟩) hl9).trans y52; have d3 := ((k5).cell (p := ⟨w.heap.size, 3, none⟩) hl9).trans y53
               )
            | (go_at_call 37; with_reducible refine (E4.out _ k5).mono ?_; rintro e x5b ⟨rfl, rfl⟩)
            | (go_at_call 38; with_reducible refine (E5.out _ ?_).mono ?_; (first | exact k5 | exact k7); rintro e x6 ⟨rfl, k6⟩;
               (try clear d0 d1 d2 d3); have d0 := ((k6).cell (p := ⟨w.heap.size, 0, none⟩) hl9).trans y50; have d1 := ((k6).cell (p := ⟨w.heap.size, 1, none⟩) hl9).trans y51; have d2 := ((k6).cell (p := ⟨w.heap.size, 2, none⟩) hl9).trans y52; have d3 := ((k6).cell (p := ⟨w.heap.size, 3, none⟩) hl9).trans y53
               )
            | (go_at_call 39; with_reducible refine (E6.out _ ?_).mono ?_; (first | exact k5 | exact k6); rintro e x7 ⟨rfl, k7⟩;
               (try clear d0 d1 d2 d3); have d0 := ((k7).cell (p := ⟨w.heap.size, 0, none⟩) hl9).trans y50; have d1 := ((k7).cell (p := ⟨w.heap.size, 1, none⟩) hl9).trans y51; have d2 := ((k7).cell (p := ⟨w.heap.size, 2, none⟩) hl9).trans y52; have d3 := ((k7).cell (p := ⟨w.heap.size, 3, none⟩) hl9).trans y53
               ))
          all_goals
            go_wp2
            go_ret
            exact ⟨rfl, HBW9.out.trans ((by first | exact k7 | exact k6 | exact Below.drew k7 | exact Below.drew k6 : Below w9.heap.size w9 _).mono HBW9.out.size)⟩
        | true =>
          go_wp2_with fail
          have hl9 : w.heap.size < w9.heap.size := Nat.lt_of_lt_of_le X5.out.lt HB9.out.size
          have y50 := (X5.out.below HB9.out X5.out.lt).cell 0
          have y51 := (X5.out.below HB9.out X5.out.lt).cell 1
          have y52 := (X5.out.below HB9.out X5.out.lt).cell 2
          have y53 := (X5.out.below HB9.out X5.out.lt).cell 3
          simp at y50 y51 y52 y53
          have CS1 : Hid (∀ (V W1 W2 : World) (a1 : Option Addr) (c1 : Nat) (a2 : Option Addr) (c2 : Nat), Elems W1 W1.heap.size a1 K (((envR l).map entS).map .string) → Elems W2 W2.heap.size a2 K (((envR l).map entS).map .string) → Below W1.heap.size W1 V → Below W2.heap.size W2 V → Below w9.heap.size w9 V →
              Calls Tryz.prog 33 #[.slice a1 K c1, .slice a2 K c2] V fun e w' => e = .returned (.bool true) ∧ Below w9.heap.size w9 w') := Lib.hid fun V W1 W2 a1 c1 a2 c2 h1 h2 k1 k2 h3 =>
            (same_any a1 a2 K c1 c2 _ V V.heap.size ((h1.below k1).mono k1.size) ((h2.below k2).mono k2.size)).mono fun e w' h => ⟨h.1, h3.trans (h.2.mono h3.size)⟩
          have CS2 : Hid (∀ (V W1 : World) (a1 : Option Addr) (c1 : Nat), Elems W1 W1.heap.size a1 N (xs.map .string) → Below W1.heap.size W1 V → Below w9.heap.size w9 V →
              Calls Tryz.prog 33 #[.slice a1 N c1, .slice a N c] V fun e w' => e = .returned (.bool true) ∧ Below w9.heap.size w9 w') := Lib.hid fun V W1 a1 c1 h1 k1 h3 =>
            (same_any a1 a N c1 c _ V V.heap.size ((h1.below k1).mono k1.size) (HXE.out V (HBW9.out.trans (h3.mono HBW9.out.size)))).mono fun e w' h => ⟨h.1, h3.trans (h.2.mono h3.size)⟩
          have E1 : Hid (∀ W, Below w9.heap.size w9 W → Calls Tryz.prog 34 #[.pointer (some ⟨g, 0, none⟩)] W fun e w' => ∃ a1 c1, e = .returned (.slice a1 K c1) ∧ Elems w' w'.heap.size a1 K (((envR l).map entS).map .string) ∧ Below W.heap.size W w' ∧ Below w9.heap.size w9 w') := Lib.hid fun W hW => (CE1.out W (HBW9.out.trans (hW.mono HBW9.out.size))).mono fun e w' ⟨a1, c1, h1, h2, h3⟩ => ⟨a1, c1, h1, h2, h3, hW.trans (h3.mono hW.size)⟩
          have E2 : Hid (∀ W, Below w9.heap.size w9 W → Calls Tryz.prog 35 #[.agg #[.slice va M vc, .string ⟨#[115, 104]⟩, .slice a N c, .int .i64 st]] W fun e w' => ∃ a1 c1, e = .returned (.slice a1 K c1) ∧ Elems w' w'.heap.size a1 K (((envR l).map entS).map .string) ∧ Below W.heap.size W w' ∧ Below w9.heap.size w9 w') := Lib.hid fun W hW => (CE2.out W (HBW9.out.trans (hW.mono HBW9.out.size))).mono fun e w' ⟨a1, c1, h1, h2, h3⟩ => ⟨a1, c1, h1, h2, h3, hW.trans (h3.mono hW.size)⟩
          have E3 : Hid (∀ W, Below w9.heap.size w9 W → Calls Tryz.prog 36 #[.pointer (some ⟨g, 0, none⟩)] W fun e w' => ∃ a1 c1, e = .returned (.slice a1 N c1) ∧ Elems w' w'.heap.size a1 N (xs.map .string) ∧ Below W.heap.size W w' ∧ Below w9.heap.size w9 w') := Lib.hid fun W hW => (CAr.out W (HBW9.out.trans (hW.mono HBW9.out.size))).mono fun e w' ⟨a1, c1, h1, h2, h3⟩ => ⟨a1, c1, h1, h2, h3, hW.trans (h3.mono hW.size)⟩
          have E4 : Hid (∀ W, Below w9.heap.size w9 W → Calls Tryz.prog 37 #[.pointer (some ⟨g, 0, none⟩)] W fun e w' => e = .returned (.int .i64 st) ∧ W = w') := Lib.hid fun W hW => CSt.out W (HBW9.out.trans (hW.mono HBW9.out.size))
          have E5 : Hid (∀ W, Below w9.heap.size w9 W → Calls Tryz.prog 38 #[.pointer (some ⟨g, 0, none⟩)] W fun e w' => e = .returned (.string ⟨sp.toArray⟩) ∧ Below w9.heap.size w9 w') := Lib.hid fun W hW => (CSp.out W (HBW9.out.trans (hW.mono HBW9.out.size))).mono fun e w' ⟨h1, h3⟩ => ⟨h1, hW.trans (h3.mono hW.size)⟩
          have E6 : Hid (∀ W, Below w9.heap.size w9 W → Calls Tryz.prog 39 #[.agg #[.slice va M vc, .string ⟨#[115, 104]⟩, .slice a N c, .int .i64 st]] W fun e w' => e = .returned (.string ⟨sp.toArray⟩) ∧ Below w9.heap.size w9 w') := Lib.hid fun W hW => (CSr.out W (HBW9.out.trans (hW.mono HBW9.out.size))).mono fun e w' ⟨h1, h3⟩ => ⟨h1, hW.trans (h3.mono hW.size)⟩
          go_region_held3 (fun W => W.cell? ⟨w.heap.size, 0, none⟩ = some (.slice va M vc) ∧ W.cell? ⟨w.heap.size, 1, none⟩ = some (.string ⟨#[115, 104]⟩) ∧ W.cell? ⟨w.heap.size, 2, none⟩ = some (.slice a N c) ∧ W.cell? ⟨w.heap.size, 3, none⟩ = some (.int .i64 st)) (first | exact ⟨d0, d1, d2, d3⟩ | exact ⟨y50, y51, y52, y53⟩ | go_keep) (first
            | (go_at_call 34; with_reducible refine (E1.out _ ?_).mono ?_; (first | exact Below.refl _ _ | exact Below.drew (Below.refl _ _) | exact k2); rintro e x1 ⟨a1, c1, rfl, g1, j1, k1⟩;
               (try clear d0 d1 d2 d3); have d0 := ((k1).cell (p := ⟨w.heap.size, 0, none⟩) hl9).trans y50; have d1 := ((k1).cell (p := ⟨w.heap.size, 1, none⟩) hl9).trans y51; have d2 := ((k1).cell (p := ⟨w.heap.size, 2, none⟩) hl9).trans y52; have d3 := ((k1).cell (p := ⟨w.heap.size, 3, none⟩) hl9).trans y53
               )
            | (go_at_call 35; with_reducible refine (E2.out _ ?_).mono ?_; (first | exact Below.refl _ _ | exact Below.drew (Below.refl _ _) | exact k1); rintro e x2 ⟨a2, c2, rfl, g2, j2, k2⟩;
               (try clear d0 d1 d2 d3); have d0 := ((k2).cell (p := ⟨w.heap.size, 0, none⟩) hl9).trans y50; have d1 := ((k2).cell (p := ⟨w.heap.size, 1, none⟩) hl9).trans y51; have d2 := ((k2).cell (p := ⟨w.heap.size, 2, none⟩) hl9).trans y52; have d3 := ((k2).cell (p := ⟨w.heap.size, 3, none⟩) hl9).trans y53
               )
            | (go_at_call 33; with_reducible refine (CS1.out _ x1 x2 a1 c1 a2 c2 g1 g2 ?_ ?_ ?_).mono ?_; (first | exact j2 | exact Below.refl _ _); (first | exact j1 | exact Below.refl _ _); (first | exact k2 | exact k1); rintro e x3 ⟨rfl, k3⟩;
               (try clear d0 d1 d2 d3); have d0 := ((k3).cell (p := ⟨w.heap.size, 0, none⟩) hl9).trans y50; have d1 := ((k3).cell (p := ⟨w.heap.size, 1, none⟩) hl9).trans y51; have d2 := ((k3).cell (p := ⟨w.heap.size, 2, none⟩) hl9).trans y52; have d3 := ((k3).cell (p := ⟨w.heap.size, 3, none⟩) hl9).trans y53
               )
            | (go_at_call 36; with_reducible refine (E3.out _ k3).mono ?_; rintro e x4 ⟨a4, c4, rfl, g4, j4, k4⟩;
               (try clear d0 d1 d2 d3); have d0 := ((k4).cell (p := ⟨w.heap.size, 0, none⟩) hl9).trans y50; have d1 := ((k4).cell (p := ⟨w.heap.size, 1, none⟩) hl9).trans y51; have d2 := ((k4).cell (p := ⟨w.heap.size, 2, none⟩) hl9).trans y52; have d3 := ((k4).cell (p := ⟨w.heap.size, 3, none⟩) hl9).trans y53
               )
            | (go_at_call 33; with_reducible refine (CS2.out _ x4 a4 c4 g4 (Below.refl _ _) k4).mono ?_; rintro e x5 ⟨rfl, k5⟩;
               (try clear d0 d1 d2 d3); have d0 := ((k5).cell (p := ⟨w.heap.size, 0, none⟩) hl9).trans y50; have d1 := ((k5).cell (p := ⟨w.heap.size, 1, none⟩) hl9).trans y51; have d2 := ((k5).cell (p := ⟨w.heap.size, 2, none⟩) hl9).trans y52; have d3 := ((k5).cell (p := ⟨w.heap.size, 3, none⟩) hl9).trans y53
               )
            | (go_at_call 37; with_reducible refine (E4.out _ k5).mono ?_; rintro e x5b ⟨rfl, rfl⟩)
            | (go_at_call 38; with_reducible refine (E5.out _ ?_).mono ?_; (first | exact k5 | exact k7); rintro e x6 ⟨rfl, k6⟩;
               (try clear d0 d1 d2 d3); have d0 := ((k6).cell (p := ⟨w.heap.size, 0, none⟩) hl9).trans y50; have d1 := ((k6).cell (p := ⟨w.heap.size, 1, none⟩) hl9).trans y51; have d2 := ((k6).cell (p := ⟨w.heap.size, 2, none⟩) hl9).trans y52; have d3 := ((k6).cell (p := ⟨w.heap.size, 3, none⟩) hl9).trans y53
               )
            | (go_at_call 39; with_reducible refine (E6.out _ ?_).mono ?_; (first | exact k5 | exact k6); rintro e x7 ⟨rfl, k7⟩;
               (try clear d0 d1 d2 d3); have d0 := ((k7).cell (p := ⟨w.heap.size, 0, none⟩) hl9).trans y50; have d1 := ((k7).cell (p := ⟨w.heap.size, 1, none⟩) hl9).trans y51; have d2 := ((k7).cell (p := ⟨w.heap.size, 2, none⟩) hl9).trans y52; have d3 := ((k7).cell (p := ⟨w.heap.size, 3, none⟩) hl9).trans y53
               ))
          all_goals
            go_wp2
            go_ret
            exact ⟨rfl, HBW9.out.trans ((by first | exact k7 | exact k6 | exact Below.drew k7 | exact Below.drew k6 : Below w9.heap.size w9 _).mono HBW9.out.size)⟩
      | false =>
        go_wp2_with fail
        refine (CSg.out _).mono ?_
        rintro e w8 ⟨rfl, rfl⟩
        cases b3 with
        | true =>
          have HO := Lib.hid (HOK.out rfl)
          go_wp2_with fail
          have P1 := Lib.hid (CP1.out w7 HBW7.out)
          refine P1.out.mono ?_
          rintro e w8 ⟨rfl, hb8⟩
          have HB8 : Hid (Below w3.heap.size w3 w8) := Lib.hid (HB7.out.trans (hb8.mono HB7.out.size))
          have HBW8 : Hid (Below w.heap.size w w8) := Lib.hid (HB3.out.trans (HB8.out.mono HB3.out.size))
          clear hb8
          have y50 := (X5.out.below HB8.out X5.out.lt).cell 0
          have y51 := (X5.out.below HB8.out X5.out.lt).cell 1
          have y52 := (X5.out.below HB8.out X5.out.lt).cell 2
          have y53 := (X5.out.below HB8.out X5.out.lt).cell 3
          simp at y50 y51 y52 y53
          have P2 := Lib.hid (CP2.out w8 HBW8.out HO.out)
          go_wp2_with fail
          refine P2.out.mono ?_
          rintro e w9 ⟨rfl, hb9⟩
          have HB9 : Hid (Below w3.heap.size w3 w9) := Lib.hid (HB8.out.trans (hb9.mono HB8.out.size))
          have HBW9 : Hid (Below w.heap.size w w9) := Lib.hid (HB3.out.trans (HB9.out.mono HB3.out.size))
          clear hb9 y50 y51 y52 y53
          cases q0 with
          | false =>
            obtain rfl := HPN.out rfl
            go_wp2_with fail
            have hl9 : w.heap.size < w9.heap.size := Nat.lt_of_lt_of_le X5.out.lt HB9.out.size
            have y50 := (X5.out.below HB9.out X5.out.lt).cell 0
            have y51 := (X5.out.below HB9.out X5.out.lt).cell 1
            have y52 := (X5.out.below HB9.out X5.out.lt).cell 2
            have y53 := (X5.out.below HB9.out X5.out.lt).cell 3
            simp at y50 y51 y52 y53
            have CS1 : Hid (∀ (V W1 W2 : World) (a1 : Option Addr) (c1 : Nat) (a2 : Option Addr) (c2 : Nat), Elems W1 W1.heap.size a1 K (((envR l).map entS).map .string) → Elems W2 W2.heap.size a2 K (((envR l).map entS).map .string) → Below W1.heap.size W1 V → Below W2.heap.size W2 V → Below w9.heap.size w9 V →
                Calls Tryz.prog 33 #[.slice a1 K c1, .slice a2 K c2] V fun e w' => e = .returned (.bool true) ∧ Below w9.heap.size w9 w') := Lib.hid fun V W1 W2 a1 c1 a2 c2 h1 h2 k1 k2 h3 =>
              (same_any a1 a2 K c1 c2 _ V V.heap.size ((h1.below k1).mono k1.size) ((h2.below k2).mono k2.size)).mono fun e w' h => ⟨h.1, h3.trans (h.2.mono h3.size)⟩
            have CS2 : Hid (∀ (V W1 : World) (a1 : Option Addr) (c1 : Nat), Elems W1 W1.heap.size a1 N (xs.map .string) → Below W1.heap.size W1 V → Below w9.heap.size w9 V →
                Calls Tryz.prog 33 #[.slice a1 N c1, .slice a N c] V fun e w' => e = .returned (.bool true) ∧ Below w9.heap.size w9 w') := Lib.hid fun V W1 a1 c1 h1 k1 h3 =>
              (same_any a1 a N c1 c _ V V.heap.size ((h1.below k1).mono k1.size) (HXE.out V (HBW9.out.trans (h3.mono HBW9.out.size)))).mono fun e w' h => ⟨h.1, h3.trans (h.2.mono h3.size)⟩
            have E1 : Hid (∀ W, Below w9.heap.size w9 W → Calls Tryz.prog 34 #[.pointer (some ⟨g, 0, none⟩)] W fun e w' => ∃ a1 c1, e = .returned (.slice a1 K c1) ∧ Elems w' w'.heap.size a1 K (((envR l).map entS).map .string) ∧ Below W.heap.size W w' ∧ Below w9.heap.size w9 w') := Lib.hid fun W hW => (CE1.out W (HBW9.out.trans (hW.mono HBW9.out.size))).mono fun e w' ⟨a1, c1, h1, h2, h3⟩ => ⟨a1, c1, h1, h2, h3, hW.trans (h3.mono hW.size)⟩
            have E2 : Hid (∀ W, Below w9.heap.size w9 W → Calls Tryz.prog 35 #[.agg #[.slice va M vc, .string ⟨#[115, 104]⟩, .slice a N c, .int .i64 st]] W fun e w' => ∃ a1 c1, e = .returned (.slice a1 K c1) ∧ Elems w' w'.heap.size a1 K (((envR l).map entS).map .string) ∧ Below W.heap.size W w' ∧ Below w9.heap.size w9 w') := Lib.hid fun W hW => (CE2.out W (HBW9.out.trans (hW.mono HBW9.out.size))).mono fun e w' ⟨a1, c1, h1, h2, h3⟩ => ⟨a1, c1, h1, h2, h3, hW.trans (h3.mono hW.size)⟩
            have E3 : Hid (∀ W, Below w9.heap.size w9 W → Calls Tryz.prog 36 #[.pointer (some ⟨g, 0, none⟩)] W fun e w' => ∃ a1 c1, e = .returned (.slice a1 N c1) ∧ Elems w' w'.heap.size a1 N (xs.map .string) ∧ Below W.heap.size W w' ∧ Below w9.heap.size w9 w') := Lib.hid fun W hW => (CAr.out W (HBW9.out.trans (hW.mono HBW9.out.size))).mono fun e w' ⟨a1, c1, h1, h2, h3⟩ => ⟨a1, c1, h1, h2, h3, hW.trans (h3.mono hW.size)⟩
            have E4 : Hid (∀ W, Below w9.heap.size w9 W → Calls Tryz.prog 37 #[.pointer (some ⟨g, 0, none⟩)] W fun e w' => e = .returned (.int .i64 st) ∧ W = w') := Lib.hid fun W hW => CSt.out W (HBW9.out.trans (hW.mono HBW9.out.size))
            have E5 : Hid (∀ W, Below w9.heap.size w9 W → Calls Tryz.prog 38 #[.pointer (some ⟨g, 0, none⟩)] W fun e w' => e = .returned (.string ⟨sp.toArray⟩) ∧ Below w9.heap.size w9 w') := Lib.hid fun W hW => (CSp.out W (HBW9.out.trans (hW.mono HBW9.out.size))).mono fun e w' ⟨h1, h3⟩ => ⟨h1, hW.trans (h3.mono hW.size)⟩
            have E6 : Hid (∀ W, Below w9.heap.size w9 W → Calls Tryz.prog 39 #[.agg #[.slice va M vc, .string ⟨#[115, 104]⟩, .slice a N c, .int .i64 st]] W fun e w' => e = .returned (.string ⟨sp.toArray⟩) ∧ Below w9.heap.size w9 w') := Lib.hid fun W hW => (CSr.out W (HBW9.out.trans (hW.mono HBW9.out.size))).mono fun e w' ⟨h1, h3⟩ => ⟨h1, hW.trans (h3.mono hW.size)⟩
            go_region_held3 (fun W => W.cell? ⟨w.heap.size, 0, none⟩ = some (.slice va M vc) ∧ W.cell? ⟨w.heap.size, 1, none⟩ = some (.string ⟨#[115, 104]⟩) ∧ W.cell? ⟨w.heap.size, 2, none⟩ = some (.slice a N c) ∧ W.cell? ⟨w.heap.size, 3, none⟩ = some (.int .i64 st)) (first | exact ⟨d0, d1, d2, d3⟩ | exact ⟨y50, y51, y52, y53⟩ | go_keep) (first
              | (go_at_call 34; with_reducible refine (E1.out _ ?_).mono ?_; (first | exact Below.refl _ _ | exact Below.drew (Below.refl _ _) | exact k2); rintro e x1 ⟨a1, c1, rfl, g1, j1, k1⟩;
                 (try clear d0 d1 d2 d3); have d0 := ((k1).cell (p := ⟨w.heap.size, 0, none⟩) hl9).trans y50; have d1 := ((k1).cell (p := ⟨w.heap.size, 1, none⟩) hl9).trans y51; have d2 := ((k1).cell (p := ⟨w.heap.size, 2, none⟩) hl9).trans y52; have d3 := ((k1).cell (p := ⟨w.heap.size, 3, none⟩) hl9).trans y53
                 )
              | (go_at_call 35; with_reducible refine (E2.out _ ?_).mono ?_; (first | exact Below.refl _ _ | exact Below.drew (Below.refl _ _) | exact k1); rintro e x2 ⟨a2, c2, rfl, g2, j2, k2⟩;
                 (try clear d0 d1 d2 d3); have d0 := ((k2).cell (p := ⟨w.heap.size, 0, none⟩) hl9).trans y50; have d1 := ((k2).cell (p := ⟨w.heap.size, 1, none⟩) hl9).trans y51; have d2 := ((k2).cell (p := ⟨w.heap.size, 2, none⟩) hl9).trans y52; have d3 := ((k2).cell (p := ⟨w.heap.size, 3, none⟩) hl9).trans y53
                 )
              | (go_at_call 33; with_reducible refine (CS1.out _ x1 x2 a1 c1 a2 c2 g1 g2 ?_ ?_ ?_).mono ?_; (first | exact j2 | exact Below.refl _ _); (first | exact j1 | exact Below.refl _ _); (first | exact k2 | exact k1); rintro e x3 ⟨rfl, k3⟩;
                 (try clear d0 d1 d2 d3); have d0 := ((k3).cell (p := ⟨w.heap.size, 0, none⟩) hl9).trans y50; have d1 := ((k3).cell (p := ⟨w.heap.size, 1, none⟩) hl9).trans y51; have d2 := ((k3).cell (p := ⟨w.heap.size, 2, none⟩) hl9).trans y52; have d3 := ((k3).cell (p := ⟨w.heap.size, 3, none⟩) hl9).trans y53
                 )
              | (go_at_call 36; with_reducible refine (E3.out _ k3).mono ?_; rintro e x4 ⟨a4, c4, rfl, g4, j4, k4⟩;
                 (try clear d0 d1 d2 d3); have d0 := ((k4).cell (p := ⟨w.heap.size, 0, none⟩) hl9).trans y50; have d1 := ((k4).cell (p := ⟨w.heap.size, 1, none⟩) hl9).trans y51; have d2 := ((k4).cell (p := ⟨w.heap.size, 2, none⟩) hl9).trans y52; have d3 := ((k4).cell (p := ⟨w.heap.size, 3, none⟩) hl9).trans y53
                 )
              | (go_at_call 33; with_reducible refine (CS2.out _ x4 a4 c4 g4 (Below.refl _ _) k4).mono ?_; rintro e x5 ⟨rfl, k5⟩;
                 (try clear d0 d1 d2 d3); have d0 := ((k5).cell (p := ⟨w.heap.size, 0, none⟩) hl9).trans y50; have d1 := ((k5).cell (p := ⟨w.heap.size, 1, none⟩) hl9).trans y51; have d2 := ((k5).cell (p := ⟨w.heap.size, 2, none⟩) hl9).trans y52; have d3 := ((k5).cell (p := ⟨w.heap.size, 3, none⟩) hl9).trans y53
                 )
              | (go_at_call 37; with_reducible refine (E4.out _ k5).mono ?_; rintro e x5b ⟨rfl, rfl⟩)
              | (go_at_call 38; with_reducible refine (E5.out _ ?_).mono ?_; (first | exact k5 | exact k7); rintro e x6 ⟨rfl, k6⟩;
                 (try clear d0 d1 d2 d3); have d0 := ((k6).cell (p := ⟨w.heap.size, 0, none⟩) hl9).trans y50; have d1 := ((k6).cell (p := ⟨w.heap.size, 1, none⟩) hl9).trans y51; have d2 := ((k6).cell (p := ⟨w.heap.size, 2, none⟩) hl9).trans y52; have d3 := ((k6).cell (p := ⟨w.heap.size, 3, none⟩) hl9).trans y53
                 )
              | (go_at_call 39; with_reducible refine (E6.out _ ?_).mono ?_; (first | exact k5 | exact k6); rintro e x7 ⟨rfl, k7⟩;
                 (try clear d0 d1 d2 d3); have d0 := ((k7).cell (p := ⟨w.heap.size, 0, none⟩) hl9).trans y50; have d1 := ((k7).cell (p := ⟨w.heap.size, 1, none⟩) hl9).trans y51; have d2 := ((k7).cell (p := ⟨w.heap.size, 2, none⟩) hl9).trans y52; have d3 := ((k7).cell (p := ⟨w.heap.size, 3, none⟩) hl9).trans y53
                 ))
            all_goals
              go_wp2
              go_ret
              exact ⟨rfl, HBW9.out.trans ((by first | exact k7 | exact k6 | exact Below.drew k7 | exact Below.drew k6 : Below w9.heap.size w9 _).mono HBW9.out.size)⟩
          | true =>
            go_wp2_with fail
            have hl9 : w.heap.size < w9.heap.size := Nat.lt_of_lt_of_le X5.out.lt HB9.out.size
            have y50 := (X5.out.below HB9.out X5.out.lt).cell 0
            have y51 := (X5.out.below HB9.out X5.out.lt).cell 1
            have y52 := (X5.out.below HB9.out X5.out.lt).cell 2
            have y53 := (X5.out.below HB9.out X5.out.lt).cell 3
            simp at y50 y51 y52 y53
            have CS1 : Hid (∀ (V W1 W2 : World) (a1 : Option Addr) (c1 : Nat) (a2 : Option Addr) (c2 : Nat), Elems W1 W1.heap.size a1 K (((envR l).map entS).map .string) → Elems W2 W2.heap.size a2 K (((envR l).map entS).map .string) → Below W1.heap.size W1 V → Below W2.heap.size W2 V → Below w9.heap.size w9 V →
                Calls Tryz.prog 33 #[.slice a1 K c1, .slice a2 K c2] V fun e w' => e = .returned (.bool true) ∧ Below w9.heap.size w9 w') := Lib.hid fun V W1 W2 a1 c1 a2 c2 h1 h2 k1 k2 h3 =>
              (same_any a1 a2 K c1 c2 _ V V.heap.size ((h1.below k1).mono k1.size) ((h2.below k2).mono k2.size)).mono fun e w' h => ⟨h.1, h3.trans (h.2.mono h3.size)⟩
            have CS2 : Hid (∀ (V W1 : World) (a1 : Option Addr) (c1 : Nat), Elems W1 W1.heap.size a1 N (xs.map .string) → Below W1.heap.size W1 V → Below w9.heap.size w9 V →
                Calls Tryz.prog 33 #[.slice a1 N c1, .slice a N c] V fun e w' => e = .returned (.bool true) ∧ Below w9.heap.size w9 w') := Lib.hid fun V W1 a1 c1 h1 k1 h3 =>
              (same_any a1 a N c1 c _ V V.heap.size ((h1.below k1).mono k1.size) (HXE.out V (HBW9.out.trans (h3.mono HBW9.out.size)))).mono fun e w' h => ⟨h.1, h3.trans (h.2.mono h3.size)⟩
            have E1 : Hid (∀ W, Below w9.heap.size w9 W → Calls Tryz.prog 34 #[.pointer (some ⟨g, 0, none⟩)] W fun e w' => ∃ a1 c1, e = .returned (.slice a1 K c1) ∧ Elems w' w'.heap.size a1 K (((envR l).map entS).map .string) ∧ Below W.heap.size W w' ∧ Below w9.heap.size w9 w') := Lib.hid fun W hW => (CE1.out W (HBW9.out.trans (hW.mono HBW9.out.size))).mono fun e w' ⟨a1, c1, h1, h2, h3⟩ => ⟨a1, c1, h1, h2, h3, hW.trans (h3.mono hW.size)⟩
            have E2 : Hid (∀ W, Below w9.heap.size w9 W → Calls Tryz.prog 35 #[.agg #[.slice va M vc, .string ⟨#[115, 104]⟩, .slice a N c, .int .i64 st]] W fun e w' => ∃ a1 c1, e = .returned (.slice a1 K c1) ∧ Elems w' w'.heap.size a1 K (((envR l).map entS).map .string) ∧ Below W.heap.size W w' ∧ Below w9.heap.size w9 w') := Lib.hid fun W hW => (CE2.out W (HBW9.out.trans (hW.mono HBW9.out.size))).mono fun e w' ⟨a1, c1, h1, h2, h3⟩ => ⟨a1, c1, h1, h2, h3, hW.trans (h3.mono hW.size)⟩
            have E3 : Hid (∀ W, Below w9.heap.size w9 W → Calls Tryz.prog 36 #[.pointer (some ⟨g, 0, none⟩)] W fun e w' => ∃ a1 c1, e = .returned (.slice a1 N c1) ∧ Elems w' w'.heap.size a1 N (xs.map .string) ∧ Below W.heap.size W w' ∧ Below w9.heap.size w9 w') := Lib.hid fun W hW => (CAr.out W (HBW9.out.trans (hW.mono HBW9.out.size))).mono fun e w' ⟨a1, c1, h1, h2, h3⟩ => ⟨a1, c1, h1, h2, h3, hW.trans (h3.mono hW.size)⟩
            have E4 : Hid (∀ W, Below w9.heap.size w9 W → Calls Tryz.prog 37 #[.pointer (some ⟨g, 0, none⟩)] W fun e w' => e = .returned (.int .i64 st) ∧ W = w') := Lib.hid fun W hW => CSt.out W (HBW9.out.trans (hW.mono HBW9.out.size))
            have E5 : Hid (∀ W, Below w9.heap.size w9 W → Calls Tryz.prog 38 #[.pointer (some ⟨g, 0, none⟩)] W fun e w' => e = .returned (.string ⟨sp.toArray⟩) ∧ Below w9.heap.size w9 w') := Lib.hid fun W hW => (CSp.out W (HBW9.out.trans (hW.mono HBW9.out.size))).mono fun e w' ⟨h1, h3⟩ => ⟨h1, hW.trans (h3.mono hW.size)⟩
            have E6 : Hid (∀ W, Below w9.heap.size w9 W → Calls Tryz.prog 39 #[.agg #[.slice va M vc, .string ⟨#[115, 104]⟩, .slice a N c, .int .i64 st]] W fun e w' => e = .returned (.string ⟨sp.toArray⟩) ∧ Below w9.heap.size w9 w') := Lib.hid fun W hW => (CSr.out W (HBW9.out.trans (hW.mono HBW9.out.size))).mono fun e w' ⟨h1, h3⟩ => ⟨h1, hW.trans (h3.mono hW.size)⟩
            go_region_held3 (fun W => W.cell? ⟨w.heap.size, 0, none⟩ = some (.slice va M vc) ∧ W.cell? ⟨w.heap.size, 1, none⟩ = some (.string ⟨#[115, 104]⟩) ∧ W.cell? ⟨w.heap.size, 2, none⟩ = some (.slice a N c) ∧ W.cell? ⟨w.heap.size, 3, none⟩ = some (.int .i64 st)) (first | exact ⟨d0, d1, d2, d3⟩ | exact ⟨y50, y51, y52, y53⟩ | go_keep) (first
              | (go_at_call 34; with_reducible refine (E1.out _ ?_).mono ?_; (first | exact Below.refl _ _ | exact Below.drew (Below.refl _ _) | exact k2); rintro e x1 ⟨a1, c1, rfl, g1, j1, k1⟩;
                 (try clear d0 d1 d2 d3); have d0 := ((k1).cell (p := ⟨w.heap.size, 0, none⟩) hl9).trans y50; have d1 := ((k1).cell (p := ⟨w.heap.size, 1, none⟩) hl9).trans y51; have d2 := ((k1).cell (p := ⟨w.heap.size, 2, none⟩) hl9).trans y52; have d3 := ((k1).cell (p := ⟨w.heap.size, 3, none⟩) hl9).trans y53
                 )
              | (go_at_call 35; with_reducible refine (E2.out _ ?_).mono ?_; (first | exact Below.refl _ _ | exact Below.drew (Below.refl _ _) | exact k1); rintro e x2 ⟨a2, c2, rfl, g2, j2, k2⟩;
                 (try clear d0 d1 d2 d3); have d0 := ((k2).cell (p := ⟨w.heap.size, 0, none⟩) hl9).trans y50; have d1 := ((k2).cell (p := ⟨w.heap.size, 1, none⟩) hl9).trans y51; have d2 := ((k2).cell (p := ⟨w.heap.size, 2, none⟩) hl9).trans y52; have d3 := ((k2).cell (p := ⟨w.heap.size, 3, none⟩) hl9).trans y53
                 )
              | (go_at_call 33; with_reducible refine (CS1.out _ x1 x2 a1 c1 a2 c2 g1 g2 ?_ ?_ ?_).mono ?_; (first | exact j2 | exact Below.refl _ _); (first | exact j1 | exact Below.refl _ _); (first | exact k2 | exact k1); rintro e x3 ⟨rfl, k3⟩;
                 (try clear d0 d1 d2 d3); have d0 := ((k3).cell (p := ⟨w.heap.size, 0, none⟩) hl9).trans y50; have d1 := ((k3).cell (p := ⟨w.heap.size, 1, none⟩) hl9).trans y51; have d2 := ((k3).cell (p := ⟨w.heap.size, 2, none⟩) hl9).trans y52; have d3 := ((k3).cell (p := ⟨w.heap.size, 3, none⟩) hl9).trans y53
                 )
              | (go_at_call 36; with_reducible refine (E3.out _ k3).mono ?_; rintro e x4 ⟨a4, c4, rfl, g4, j4, k4⟩;
                 (try clear d0 d1 d2 d3); have d0 := ((k4).cell (p := ⟨w.heap.size, 0, none⟩) hl9).trans y50; have d1 := ((k4).cell (p := ⟨w.heap.size, 1, none⟩) hl9).trans y51; have d2 := ((k4).cell (p := ⟨w.heap.size, 2, none⟩) hl9).trans y52; have d3 := ((k4).cell (p := ⟨w.heap.size, 3, none⟩) hl9).trans y53
                 )
              | (go_at_call 33; with_reducible refine (CS2.out _ x4 a4 c4 g4 (Below.refl _ _) k4).mono ?_; rintro e x5 ⟨rfl, k5⟩;
                 (try clear d0 d1 d2 d3); have d0 := ((k5).cell (p := ⟨w.heap.size, 0, none⟩) hl9).trans y50; have d1 := ((k5).cell (p := ⟨w.heap.size, 1, none⟩) hl9).trans y51; have d2 := ((k5).cell (p := ⟨w.heap.size, 2, none⟩) hl9).trans y52; have d3 := ((k5).cell (p := ⟨w.heap.size, 3, none⟩) hl9).trans y53
                 )
              | (go_at_call 37; with_reducible refine (E4.out _ k5).mono ?_; rintro e x5b ⟨rfl, rfl⟩)
              | (go_at_call 38; with_reducible refine (E5.out _ ?_).mono ?_; (first | exact k5 | exact k7); rintro e x6 ⟨rfl, k6⟩;
                 (try clear d0 d1 d2 d3); have d0 := ((k6).cell (p := ⟨w.heap.size, 0, none⟩) hl9).trans y50; have d1 := ((k6).cell (p := ⟨w.heap.size, 1, none⟩) hl9).trans y51; have d2 := ((k6).cell (p := ⟨w.heap.size, 2, none⟩) hl9).trans y52; have d3 := ((k6).cell (p := ⟨w.heap.size, 3, none⟩) hl9).trans y53
                 )
              | (go_at_call 39; with_reducible refine (E6.out _ ?_).mono ?_; (first | exact k5 | exact k6); rintro e x7 ⟨rfl, k7⟩;
                 (try clear d0 d1 d2 d3); have d0 := ((k7).cell (p := ⟨w.heap.size, 0, none⟩) hl9).trans y50; have d1 := ((k7).cell (p := ⟨w.heap.size, 1, none⟩) hl9).trans y51; have d2 := ((k7).cell (p := ⟨w.heap.size, 2, none⟩) hl9).trans y52; have d3 := ((k7).cell (p := ⟨w.heap.size, 3, none⟩) hl9).trans y53
                 ))
            all_goals
              go_wp2
              go_ret
              exact ⟨rfl, HBW9.out.trans ((by first | exact k7 | exact k6 | exact Below.drew k7 | exact Below.drew k6 : Below w9.heap.size w9 _).mono HBW9.out.size)⟩
        | false =>
          go_wp2_with fail
          have HB9 := HB7
          have HBW9 := HBW7
          obtain ⟨w9, hw9⟩ : ∃ W, W = w7 := ⟨_, rfl⟩
          subst hw9
          have hl9 : w.heap.size < w9.heap.size := Nat.lt_of_lt_of_le X5.out.lt HB9.out.size
          have y50 := (X5.out.below HB9.out X5.out.lt).cell 0
          have y51 := (X5.out.below HB9.out X5.out.lt).cell 1
          have y52 := (X5.out.below HB9.out X5.out.lt).cell 2
          have y53 := (X5.out.below HB9.out X5.out.lt).cell 3
          simp at y50 y51 y52 y53
          have CS1 : Hid (∀ (V W1 W2 : World) (a1 : Option Addr) (c1 : Nat) (a2 : Option Addr) (c2 : Nat), Elems W1 W1.heap.size a1 K (((envR l).map entS).map .string) → Elems W2 W2.heap.size a2 K (((envR l).map entS).map .string) → Below W1.heap.size W1 V → Below W2.heap.size W2 V → Below w9.heap.size w9 V →
              Calls Tryz.prog 33 #[.slice a1 K c1, .slice a2 K c2] V fun e w' => e = .returned (.bool true) ∧ Below w9.heap.size w9 w') := Lib.hid fun V W1 W2 a1 c1 a2 c2 h1 h2 k1 k2 h3 =>
            (same_any a1 a2 K c1 c2 _ V V.heap.size ((h1.below k1).mono k1.size) ((h2.below k2).mono k2.size)).mono fun e w' h => ⟨h.1, h3.trans (h.2.mono h3.size)⟩
          have CS2 : Hid (∀ (V W1 : World) (a1 : Option Addr) (c1 : Nat), Elems W1 W1.heap.size a1 N (xs.map .string) → Below W1.heap.size W1 V → Below w9.heap.size w9 V →
              Calls Tryz.prog 33 #[.slice a1 N c1, .slice a N c] V fun e w' => e = .returned (.bool true) ∧ Below w9.heap.size w9 w') := Lib.hid fun V W1 a1 c1 h1 k1 h3 =>
            (same_any a1 a N c1 c _ V V.heap.size ((h1.below k1).mono k1.size) (HXE.out V (HBW9.out.trans (h3.mono HBW9.out.size)))).mono fun e w' h => ⟨h.1, h3.trans (h.2.mono h3.size)⟩
          have E1 : Hid (∀ W, Below w9.heap.size w9 W → Calls Tryz.prog 34 #[.pointer (some ⟨g, 0, none⟩)] W fun e w' => ∃ a1 c1, e = .returned (.slice a1 K c1) ∧ Elems w' w'.heap.size a1 K (((envR l).map entS).map .string) ∧ Below W.heap.size W w' ∧ Below w9.heap.size w9 w') := Lib.hid fun W hW => (CE1.out W (HBW9.out.trans (hW.mono HBW9.out.size))).mono fun e w' ⟨a1, c1, h1, h2, h3⟩ => ⟨a1, c1, h1, h2, h3, hW.trans (h3.mono hW.size)⟩
          have E2 : Hid (∀ W, Below w9.heap.size w9 W → Calls Tryz.prog 35 #[.agg #[.slice va M vc, .string ⟨#[115, 104]⟩, .slice a N c, .int .i64 st]] W fun e w' => ∃ a1 c1, e = .returned (.slice a1 K c1) ∧ Elems w' w'.heap.size a1 K (((envR l).map entS).map .string) ∧ Below W.heap.size W w' ∧ Below w9.heap.size w9 w') := Lib.hid fun W hW => (CE2.out W (HBW9.out.trans (hW.mono HBW9.out.size))).mono fun e w' ⟨a1, c1, h1, h2, h3⟩ => ⟨a1, c1, h1, h2, h3, hW.trans (h3.mono hW.size)⟩
          have E3 : Hid (∀ W, Below w9.heap.size w9 W → Calls Tryz.prog 36 #[.pointer (some ⟨g, 0, none⟩)] W fun e w' => ∃ a1 c1, e = .returned (.slice a1 N c1) ∧ Elems w' w'.heap.size a1 N (xs.map .string) ∧ Below W.heap.size W w' ∧ Below w9.heap.size w9 w') := Lib.hid fun W hW => (CAr.out W (HBW9.out.trans (hW.mono HBW9.out.size))).mono fun e w' ⟨a1, c1, h1, h2, h3⟩ => ⟨a1, c1, h1, h2, h3, hW.trans (h3.mono hW.size)⟩
          have E4 : Hid (∀ W, Below w9.heap.size w9 W → Calls Tryz.prog 37 #[.pointer (some ⟨g, 0, none⟩)] W fun e w' => e = .returned (.int .i64 st) ∧ W = w') := Lib.hid fun W hW => CSt.out W (HBW9.out.trans (hW.mono HBW9.out.size))
          have E5 : Hid (∀ W, Below w9.heap.size w9 W → Calls Tryz.prog 38 #[.pointer (some ⟨g, 0, none⟩)] W fun e w' => e = .returned (.string ⟨sp.toArray⟩) ∧ Below w9.heap.size w9 w') := Lib.hid fun W hW => (CSp.out W (HBW9.out.trans (hW.mono HBW9.out.size))).mono fun e w' ⟨h1, h3⟩ => ⟨h1, hW.trans (h3.mono hW.size)⟩
          have E6 : Hid (∀ W, Below w9.heap.size w9 W → Calls Tryz.prog 39 #[.agg #[.slice va M vc, .string ⟨#[115, 104]⟩, .slice a N c, .int .i64 st]] W fun e w' => e = .returned (.string ⟨sp.toArray⟩) ∧ Below w9.heap.size w9 w') := Lib.hid fun W hW => (CSr.out W (HBW9.out.trans (hW.mono HBW9.out.size))).mono fun e w' ⟨h1, h3⟩ => ⟨h1, hW.trans (h3.mono hW.size)⟩
          go_region_held3 (fun W => W.cell? ⟨w.heap.size, 0, none⟩ = some (.slice va M vc) ∧ W.cell? ⟨w.heap.size, 1, none⟩ = some (.string ⟨#[115, 104]⟩) ∧ W.cell? ⟨w.heap.size, 2, none⟩ = some (.slice a N c) ∧ W.cell? ⟨w.heap.size, 3, none⟩ = some (.int .i64 st)) (first | exact ⟨d0, d1, d2, d3⟩ | exact ⟨y50, y51, y52, y53⟩ | go_keep) (first
            | (go_at_call 34; with_reducible refine (E1.out _ ?_).mono ?_; (first | exact Below.refl _ _ | exact Below.drew (Below.refl _ _) | exact k2); rintro e x1 ⟨a1, c1, rfl, g1, j1, k1⟩;
               (try clear d0 d1 d2 d3); have d0 := ((k1).cell (p := ⟨w.heap.size, 0, none⟩) hl9).trans y50; have d1 := ((k1).cell (p := ⟨w.heap.size, 1, none⟩) hl9).trans y51; have d2 := ((k1).cell (p := ⟨w.heap.size, 2, none⟩) hl9).trans y52; have d3 := ((k1).cell (p := ⟨w.heap.size, 3, none⟩) hl9).trans y53
               )
            | (go_at_call 35; with_reducible refine (E2.out _ ?_).mono ?_; (first | exact Below.refl _ _ | exact Below.drew (Below.refl _ _) | exact k1); rintro e x2 ⟨a2, c2, rfl, g2, j2, k2⟩;
               (try clear d0 d1 d2 d3); have d0 := ((k2).cell (p := ⟨w.heap.size, 0, none⟩) hl9).trans y50; have d1 := ((k2).cell (p := ⟨w.heap.size, 1, none⟩) hl9).trans y51; have d2 := ((k2).cell (p := ⟨w.heap.size, 2, none⟩) hl9).trans y52; have d3 := ((k2).cell (p := ⟨w.heap.size, 3, none⟩) hl9).trans y53
               )
            | (go_at_call 33; with_reducible refine (CS1.out _ x1 x2 a1 c1 a2 c2 g1 g2 ?_ ?_ ?_).mono ?_; (first | exact j2 | exact Below.refl _ _); (first | exact j1 | exact Below.refl _ _); (first | exact k2 | exact k1); rintro e x3 ⟨rfl, k3⟩;
               (try clear d0 d1 d2 d3); have d0 := ((k3).cell (p := ⟨w.heap.size, 0, none⟩) hl9).trans y50; have d1 := ((k3).cell (p := ⟨w.heap.size, 1, none⟩) hl9).trans y51; have d2 := ((k3).cell (p := ⟨w.heap.size, 2, none⟩) hl9).trans y52; have d3 := ((k3).cell (p := ⟨w.heap.size, 3, none⟩) hl9).trans y53
               )
            | (go_at_call 36; with_reducible refine (E3.out _ k3).mono ?_; rintro e x4 ⟨a4, c4, rfl, g4, j4, k4⟩;
               (try clear d0 d1 d2 d3); have d0 := ((k4).cell (p := ⟨w.heap.size, 0, none⟩) hl9).trans y50; have d1 := ((k4).cell (p := ⟨w.heap.size, 1, none⟩) hl9).trans y51; have d2 := ((k4).cell (p := ⟨w.heap.size, 2, none⟩) hl9).trans y52; have d3 := ((k4).cell (p := ⟨w.heap.size, 3, none⟩) hl9).trans y53
               )
            | (go_at_call 33; with_reducible refine (CS2.out _ x4 a4 c4 g4 (Below.refl _ _) k4).mono ?_; rintro e x5 ⟨rfl, k5⟩;
               (try clear d0 d1 d2 d3); have d0 := ((k5).cell (p := ⟨w.heap.size, 0, none⟩) hl9).trans y50; have d1 := ((k5).cell (p := ⟨w.heap.size, 1, none⟩) hl9).trans y51; have d2 := ((k5).cell (p := ⟨w.heap.size, 2, none⟩) hl9).trans y52; have d3 := ((k5).cell (p := ⟨w.heap.size, 3, none⟩) hl9).trans y53
               )
            | (go_at_call 37; with_reducible refine (E4.out _ k5).mono ?_; rintro e x5b ⟨rfl, rfl⟩)
            | (go_at_call 38; with_reducible refine (E5.out _ ?_).mono ?_; (first | exact k5 | exact k7); rintro e x6 ⟨rfl, k6⟩;
               (try clear d0 d1 d2 d3); have d0 := ((k6).cell (p := ⟨w.heap.size, 0, none⟩) hl9).trans y50; have d1 := ((k6).cell (p := ⟨w.heap.size, 1, none⟩) hl9).trans y51; have d2 := ((k6).cell (p := ⟨w.heap.size, 2, none⟩) hl9).trans y52; have d3 := ((k6).cell (p := ⟨w.heap.size, 3, none⟩) hl9).trans y53
               )
            | (go_at_call 39; with_reducible refine (E6.out _ ?_).mono ?_; (first | exact k5 | exact k6); rintro e x7 ⟨rfl, k7⟩;
               (try clear d0 d1 d2 d3); have d0 := ((k7).cell (p := ⟨w.heap.size, 0, none⟩) hl9).trans y50; have d1 := ((k7).cell (p := ⟨w.heap.size, 1, none⟩) hl9).trans y51; have d2 := ((k7).cell (p := ⟨w.heap.size, 2, none⟩) hl9).trans y52; have d3 := ((k7).cell (p := ⟨w.heap.size, 3, none⟩) hl9).trans y53
               ))
          all_goals
            go_wp2
            go_ret
            exact ⟨rfl, HBW9.out.trans ((by first | exact k7 | exact k6 | exact Below.drew k7 | exact Below.drew k6 : Below w9.heap.size w9 _).mono HBW9.out.size)⟩
end
end Go.Proofs.YthfnkgofkdahfaaGreatDoor
