/-
  AstShows returns true for every list of commands, where the input is of bulk at most 1048576: Show and Count are the document's. The card ties the listed variables to the program's text.
-/
import Derived.Test.YtnackmnoldkihaaGreatDoorW22
import Derived.Test.YtnackmnoldkihaaGreatDoorW26
import Derived.Test.YtnackmnoldkihaaGreatDoorW21
import Derived.Test.YtnackmnoldkihaaGreatDoorW31
import Derived.Test.YtnackmnoldkihaaGreatDoorW43
import Derived.Test.YtnackmnoldkihaaGreatDoorW45
import Derived.Test.YtnackmnoldkihaaGreatDoorW44
import Derived.Test.YtnackmnoldkihaaGreatDoorW4
import Derived.HandedShaped
import Derived.Shelf.Vars
import Derived.OpenShut
import Derived.LaidMore
import Derived.Lay
import Derived.SevenTiedAt
import Derived.Stop.Joined
import Derived.Deep.DeepHandedRow
import Derived.Test.YtnackmnoldkihaaGreatDoorCards
import Derived.Test.YtnackmnoldkihaaGreatDoorTie
set_option linter.unusedVariables false
set_option linter.unusedSimpArgs false
/-
  The walk of the law on what is written.
-/
namespace Go.Proofs.YtnackmnoldkihaaGreatDoor
open Go.RowKit

set_option maxHeartbeats 2000000 in
set_option maxRecDepth 100000 in
theorem shows_law (l : List Nd) (v : Value) (w : World) (d : Nat) (hv : Held w) (hl : NdsIn w w.heap.size d l v) (hw : wtL d l ≤ bigN) :
 Calls Tryz.prog 6 #[v] w fun e w' => e = .returned (.bool true) ∧ Below w.heap.size w w' := by
 obtain ⟨a, cap, rfl, hz⟩ := hl.shape
 have hcz : cntL d l ≤ 1048576 := Nat.le_trans (cnt_le d l) hw
 have hlen := show_len hl hw
 have CA := Lib.hid (anchor_any w hv hv)
 have CS : Hid (∀ W, Below w.heap.size w W → Calls Tryz.prog 8 #[.slice a l.length cap] W fun e w' => (∃ b, e = .returned (.bool b)) ∧ Below W.heap.size W w') :=
  Lib.hid fun W hW => small_any l _ W d (hl.later hW)
 have CN : Hid (∀ W, Below w.heap.size w W → Calls Tryz.prog 9 #[.slice a l.length cap] W fun e w' => (∃ a c, e = .returned (.slice a l.length c) ∧ NdsIn w' w'.heap.size d l (.slice a l.length c)) ∧ Below W.heap.size W w') :=
  Lib.hid fun W hW => nodes_any l _ W d (hl.later hW)
 have CL : Hid (∀ (W : World) (v : Value), NdsIn W W.heap.size d l v → Calls Tryz.prog 11 #[v, .int .i64 1, .int .i64 200, .bool true] W fun e w' => e = .returned (.bool (okL 200 l)) ∧ Below W.heap.size W w') :=
  Lib.hid fun W v hv => by
   have := (rlevels 200 (by omega) 200 1 (by omega) (by omega) rfl).2 W l v d true hv
   rw [Bool.true_or, Bool.and_true] at this
   exact this
 have CW : Hid (okL 200 l = true → ∀ W, Below w.heap.size w W → Calls Tryz.prog 33 #[.slice a l.length cap] W fun e w' => e = .returned (.string (S (showL d l))) ∧ Below W.heap.size W w') :=
  Lib.hid fun hok W hW => show_right d 200 l _ W (hv.below hv.2 hW) (hl.later hW) hok hlen
 have CR : Hid (okL 200 l = true → ∀ (W : World) (v : Value), NdsIn W W.heap.size d l v → ∀ W', Below W.heap.size W W' → Calls Tryz.prog 34 #[v] W' fun e w' => e = .returned (.string (S (showL d l))) ∧ Below W'.heap.size W' w') :=
  Lib.hid fun hok W v hv W' hW => rshow_any (rlevS W'.heap.size d).2.1 W' l v (Nat.le_refl _) (hv.later hW) ((right_levG d 200).2.1 l hok) hlen
 have CC : Hid (∀ W, Below w.heap.size w W → Calls Tryz.prog 35 #[.slice a l.length cap] W fun e w' => e = .returned (.int .i64 (cntL d l : Nat)) ∧ Below W.heap.size W w') :=
  Lib.hid fun W hW => wcount_any d W l _ (hl.later hW) hcz
 have CD : Hid (∀ (W : World) (v : Value), NdsIn W W.heap.size d l v → ∀ W', Below W.heap.size W W' → Calls Tryz.prog 36 #[v] W' fun e w' => e = .returned (.int .i64 (cntL d l : Nat)) ∧ W' = w') :=
  Lib.hid fun W v hv W' hW => rcount_any d W' l v (hv.later hW) hcz
 obtain ⟨n, hn⟩ : ∃ n, l.length = n := ⟨_, rfl⟩
 obtain ⟨ok, hok⟩ : ∃ b, okL 200 l = b := ⟨_, rfl⟩
 obtain ⟨t, ht⟩ : ∃ t, S (showL d l) = t := ⟨_, rfl⟩
 obtain ⟨c, hc⟩ : ∃ c, cntL d l = c := ⟨_, rfl⟩
 rw [hn] at CS CN CW CC hz ⊢
 rw [hok] at CL CW CR
 rw [ht] at CW CR
 rw [hc] at CC CD
 clear hv hl hn hok ht hc hcz hlen hw
 go_enter Tryz.func6, Tryz.ntmps6
 go_wp2_with fail
 refine CA.out.mono ?_
 rintro e w1 ⟨rfl, hB1⟩
 go_wp2_with fail
 refine (CS.out _ hB1).mono ?_
 rintro e w2 ⟨⟨b, rfl⟩, hb0⟩
 have hB2 : Below w.heap.size w w2 := since hb0 hB1
 clear hb0
 cases b with
 | false =>
   go_wp2_with fail
   go_ret
   exact ⟨rfl, hB2⟩
 | true =>
   go_wp2_with fail
   refine (CN.out _ hB2).mono ?_
   rintro e w3 ⟨⟨a3, c3, rfl, hx⟩, hb0⟩
   have hB3 : Below w.heap.size w w3 := since hb0 hB2
   have HX := Lib.hid hx
   clear hb0 hx
   go_wp2_with fail
   refine (CL.out w3 _ HX.out).mono ?_
   rintro e w4 ⟨rfl, hb0⟩
   have hB4 : Below w.heap.size w w4 := since hb0 hB3
   have hc4 : Below w3.heap.size w3 w4 := hb0
   clear hb0
   cases ok with
   | false =>
     go_wp2_with fail
     go_ret
     exact ⟨rfl, hB4⟩
   | true =>
     have CW1 := Lib.hid (CW.out rfl)
     have CR1 := Lib.hid (CR.out rfl w3 _ HX.out)
     have CD1 := Lib.hid (CD.out w3 _ HX.out)
     clear CW CR CD
     go_wp2_with fail
     refine (CW1.out _ hB4).mono ?_
     rintro e w5 ⟨rfl, hb0⟩
     have hB5 : Below w.heap.size w w5 := since hb0 hB4
     have hc5 : Below w3.heap.size w3 w5 := since hb0 hc4
     clear hb0
     go_wp2_with fail
     refine (CR1.out _ hc5).mono ?_
     rintro e w6 ⟨rfl, hb0⟩
     have hB6 : Below w.heap.size w w6 := since hb0 hB5
     have hc6 : Below w3.heap.size w3 w6 := since hb0 hc5
     clear hb0
     have ge : (t.data.toList == t.data.toList) = true := by simp
     have ge1 : (t.toList == t.toList) = true := by simp
     have ge2 : ((c : Int) == (c : Int)) = true := by simp
     go_wp2_with fail
     refine (CC.out _ hB6).mono ?_
     rintro e w7 ⟨rfl, hb0⟩
     have hB7 : Below w.heap.size w w7 := since hb0 hB6
     have hc7 : Below w3.heap.size w3 w7 := since hb0 hc6
     clear hb0
     go_wp2_with fail
     refine (CD1.out _ hc7).mono ?_
     rintro e w8 ⟨rfl, rfl⟩
     go_wp2_with fail
     go_ret
     exact ⟨rfl, hB7⟩
end Go.Proofs.YtnackmnoldkihaaGreatDoor
/-
  Scripts that came in, at every depth.
-/
namespace Go.Proofs.YtnackmnoldkihaaGreatDoor
open Go.ChangeShapes Go.WideShapes Go.ChangeAt Go.RowKit Go.Deep

section
variable {H : Type} (enc : TypeId × Value → H) (W : World) (B : Nat)

def PtsRead (n : Nat) : Prop := ∀ (fuel : Nat) (cs : List Value) (x : DataW H × List MemPlace), DataW.trod enc Tryz.prog W 0 (fun _ => true) true fuel 29 cs = some x → (∀ p ∈ x.2, p.block < B) → Rows.uptoBulk x.1 ≤ n →
 ∃ v l, cs = [v] ∧ PtsIn W B n l v ∧ wtW n l + 1 ≤ Rows.uptoBulk x.1
def NdsRead (n : Nat) : Prop := ∀ (fuel : Nat) (cs : List Value) (x : DataW H × List MemPlace), DataW.trod enc Tryz.prog W 0 (fun _ => true) true fuel 22 cs = some x → (∀ p ∈ x.2, p.block < B) → Rows.uptoBulk x.1 ≤ n →
 ∃ v l, cs = [v] ∧ NdsIn W B n l v ∧ wtL n l + 1 ≤ Rows.uptoBulk x.1
variable {enc W B}

theorem text_sum (k : Nat) (l : List Pt) : (l.map fun p => p.text.size).sum ≤ wtW (k + 1) l := by
 rw [wtW]
 induction l with
 | nil => exact Nat.le_refl _
 | cons p l ih =>
   simp only [List.map_cons, List.sum_cons, wtP]
   omega
theorem words_in {N n fuel : Nat} {cs : List Value} {x : DataW H × List MemPlace} (hP : PtsRead enc W B n) (h : DataW.trod enc Tryz.prog W 0 (fun _ => true) true fuel 34 cs = some x) (hlt : ∀ p ∈ x.2, p.block < B) (hN : Rows.uptoBulk x.1 ≤ N + 1) (hn : N ≤ n) (hbig : N ≤ bigN) :
 ∃ v l, cs = [v] ∧ WdsIn W B n l v ∧ (l.map (wtY (wtW n))).sum + 1 ≤ Rows.uptoBulk x.1 :=
 slof_in Tryz.underlying34 (by kernel_rfl) (by decide) _ (wtY (wtW n)) h hlt hN hbig fun fuel cs y _ ht hl hb => by
  obtain ⟨v, l, e, h1, h2⟩ := hP fuel cs y ht hl (by omega)
  exact ⟨l, ⟨v, e, h1⟩, by rw [wtY]; omega⟩
theorem lists_in {N n fuel : Nat} {cs : List Value} {x : DataW H × List MemPlace} (hP : NdsRead enc W B n) (h : DataW.trod enc Tryz.prog W 0 (fun _ => true) true fuel 35 cs = some x) (hlt : ∀ p ∈ x.2, p.block < B) (hN : Rows.uptoBulk x.1 ≤ N + 1) (hn : N ≤ n) (hbig : N ≤ bigN) :
 ∃ v l, cs = [v] ∧ LssIn W B n l v ∧ (l.map (wtS (wtL n))).sum + 1 ≤ Rows.uptoBulk x.1 :=
 slof_in Tryz.underlying35 (by kernel_rfl) (by decide) _ (wtS (wtL n)) h hlt hN hbig fun fuel cs y _ ht hl hb => by
  obtain ⟨v, l, e, h1, h2⟩ := hP fuel cs y ht hl (by omega)
  exact ⟨l, ⟨v, e, h1⟩, by rw [wtS]; omega⟩
theorem assigns_in {N n fuel : Nat} {cs : List Value} {x : DataW H × List MemPlace} (hP : PtsRead enc W B n) (h : DataW.trod enc Tryz.prog W 0 (fun _ => true) true fuel 33 cs = some x) (hlt : ∀ p ∈ x.2, p.block < B) (hN : Rows.uptoBulk x.1 ≤ N + 1) (hn : N ≤ n) (hbig : N ≤ bigN) :
 ∃ v l, cs = [v] ∧ AssIn W B n l v ∧ (l.map (wtA (wtW n))).sum + 1 ≤ Rows.uptoBulk x.1 :=
 slof_in Tryz.underlying33 (by kernel_rfl) (by decide) _ (wtA (wtW n)) h hlt hN hbig fun fuel cs y hcl ht hl hb => by
  obtain ⟨ys, k, rfl, hyl, hf⟩ := struct_cells Tryz.underlying94 (by kernel_rfl) ht hcl
  obtain ⟨u0, y0, hu0, hy0, t0⟩ := hf 0 _ rfl
  obtain ⟨u1, y1, hu1, hy1, t1⟩ := hf 1 _ rfl
  match cs, hcl, ys, hyl with
  | [_, _], _, [_, _], _ =>
    cases hu0; cases hu1; cases hy0; cases hy1
    obtain ⟨s0, e0, e0', _⟩ := DataW.trod_string Tryz.underlying9 t0
    subst e0'
    simp only [List.cons.injEq, and_true] at e0
    subst e0
    simp only [Rows.uptoBulk, bulk_all, List.map_cons, List.map_nil, List.sum_cons, List.sum_nil] at hb ⊢
    obtain ⟨v, l, e, h1, h2⟩ := hP _ _ y1 t1 (fun p hp => hl p (by simp [hp])) (by omega)
    cases e
    rw [show s0.data.toList.length = s0.size from rfl] at hb ⊢
    refine ⟨⟨s0, l⟩, ⟨by show s0.size ≤ bigN; omega, _, rfl, h1⟩, by rw [wtA]; show 1 + s0.size + wtW n l ≤ _; omega⟩
theorem redirs_in {N n fuel : Nat} {cs : List Value} {x : DataW H × List MemPlace} (hP : PtsRead enc W B n) (h : DataW.trod enc Tryz.prog W 0 (fun _ => true) true fuel 32 cs = some x) (hlt : ∀ p ∈ x.2, p.block < B) (hN : Rows.uptoBulk x.1 ≤ N + 1) (hn : N ≤ n) (hbig : N ≤ bigN) :
 ∃ v l, cs = [v] ∧ RdsIn W B n l v ∧ (l.map (wtR (wtW n))).sum + 1 ≤ Rows.uptoBulk x.1 :=
 slof_in Tryz.underlying32 (by kernel_rfl) (by decide) _ (wtR (wtW n)) h hlt hN hbig fun fuel cs y hcl ht hl hb => by
  obtain ⟨ys, k, rfl, hyl, hf⟩ := struct_cells Tryz.underlying31 (by kernel_rfl) ht hcl
  obtain ⟨u0, y0, hu0, hy0, t0⟩ := hf 0 _ rfl
  obtain ⟨u1, y1, hu1, hy1, t1⟩ := hf 1 _ rfl
  obtain ⟨u2, y2, hu2, hy2, t2⟩ := hf 2 _ rfl
  obtain ⟨u3, y3, hu3, hy3, t3⟩ := hf 3 _ rfl
  match cs, hcl, ys, hyl with
  | [_, _, _, _], _, [_, _, _, _], _ =>
    cases hu0; cases hu1; cases hu2; cases hu3; cases hy0; cases hy1; cases hy2; cases hy3
    obtain ⟨i0, e0, _⟩ := DataW.trod_int Tryz.underlying3 t0
    obtain ⟨s1, e1, e1', _⟩ := DataW.trod_string Tryz.underlying9 t1
    obtain ⟨s2, e2, e2', _⟩ := DataW.trod_string Tryz.underlying9 t2
    subst e1' e2'
    simp only [List.cons.injEq, and_true] at e0 e1 e2
    subst e0 e1 e2
    have b0 := bulk_one y0.1
    simp only [Rows.uptoBulk, bulk_all, List.map_cons, List.map_nil, List.sum_cons, List.sum_nil] at hb ⊢
    obtain ⟨v, l, e, h1, h2⟩ := hP _ _ y3 t3 (fun p hp => hl p (by simp [hp])) (by omega)
    cases e
    rw [show s1.data.toList.length = s1.size from rfl, show s2.data.toList.length = s2.size from rfl] at hb ⊢
    have hs : (l.map fun p => p.text.size).sum ≤ bigN := by
     cases n with
     | zero => omega
     | succ n => have := text_sum n l; omega
    refine ⟨⟨i0, s1, s2, l⟩, ⟨by show s1.size ≤ bigN; omega, by show s2.size ≤ bigN; omega, hs, _, rfl, h1⟩, by rw [wtR]; show 1 + s1.size + s2.size + wtW n l ≤ _; omega⟩
theorem arms_in {N n fuel : Nat} {cs : List Value} {x : DataW H × List MemPlace} (hP : PtsRead enc W B n) (hL : NdsRead enc W B n) (h : DataW.trod enc Tryz.prog W 0 (fun _ => true) true fuel 36 cs = some x) (hlt : ∀ p ∈ x.2, p.block < B) (hN : Rows.uptoBulk x.1 ≤ N + 1) (hn : N ≤ n) (hbig : N ≤ bigN) :
 ∃ v l, cs = [v] ∧ ArsIn W B n l v ∧ (l.map (wtM (wtW n) (wtL n))).sum + 1 ≤ Rows.uptoBulk x.1 :=
 slof_in Tryz.underlying36 (by kernel_rfl) (by decide) _ (wtM (wtW n) (wtL n)) h hlt hN hbig fun fuel cs y hcl ht hl hb => by
  obtain ⟨ys, k, rfl, hyl, hf⟩ := struct_cells Tryz.underlying90 (by kernel_rfl) ht hcl
  obtain ⟨u0, y0, hu0, hy0, t0⟩ := hf 0 _ rfl
  obtain ⟨u1, y1, hu1, hy1, t1⟩ := hf 1 _ rfl
  match cs, hcl, ys, hyl with
  | [_, _], _, [_, _], _ =>
    cases hu0; cases hu1; cases hy0; cases hy1
    have b0 := bulk_one y0.1
    have b1 := bulk_one y1.1
    simp only [Rows.uptoBulk, bulk_all, List.map_cons, List.map_nil, List.sum_cons, List.sum_nil] at hb ⊢
    obtain ⟨v, l, e, h1, h2⟩ := hL _ _ y1 t1 (fun p hp => hl p (by simp [hp])) (by omega)
    obtain ⟨v', l', e', h1', h2'⟩ := words_in (N := N - 1) hP t0 (fun p hp => hl p (by simp [hp])) (by omega) (by omega) (by omega)
    cases e
    cases e'
    refine ⟨⟨l', l⟩, ⟨_, _, rfl, h1', h1⟩, by rw [wtM]; show 1 + (l'.map (wtY (wtW n))).sum + wtL n l ≤ _; omega⟩

theorem scripts_in (n : Nat) (hbn : n ≤ bigN) : PtsRead enc W B n ∧ NdsRead enc W B n := by
 induction n with
 | zero => exact ⟨fun _ _ x _ _ hb => by have := bulk_one x.1; omega, fun _ _ x _ _ hb => by have := bulk_one x.1; omega⟩
 | succ n ih =>
   obtain ⟨hP, hL⟩ := ih (by omega)
   constructor
   · intro fuel cs x h hlt hb
     obtain ⟨v, l, e, h1, h2⟩ := slof_in (N := n) (size := 6) Tryz.underlying29 (by kernel_rfl) (by decide) (PtC W B n) (wtP (wtW n) (wtL n)) h hlt hb (by omega) fun fuel cs y hcl ht hl hb => by
      obtain ⟨ys, k, rfl, hyl, hf⟩ := struct_cells Tryz.underlying44 (by kernel_rfl) ht hcl
      obtain ⟨u0, y0, hu0, hy0, t0⟩ := hf 0 _ rfl
      obtain ⟨u1, y1, hu1, hy1, t1⟩ := hf 1 _ rfl
      obtain ⟨u2, y2, hu2, hy2, t2⟩ := hf 2 _ rfl
      obtain ⟨u3, y3, hu3, hy3, t3⟩ := hf 3 _ rfl
      obtain ⟨u4, y4, hu4, hy4, t4⟩ := hf 4 _ rfl
      obtain ⟨u5, y5, hu5, hy5, t5⟩ := hf 5 _ rfl
      match cs, hcl, ys, hyl with
      | [_, _, _, _, _, _], _, [_, _, _, _, _, _], _ =>
        cases hu0; cases hu1; cases hu2; cases hu3; cases hu4; cases hu5; cases hy0; cases hy1; cases hy2; cases hy3; cases hy4; cases hy5
        obtain ⟨i0, e0, _⟩ := DataW.trod_int Tryz.underlying3 t0
        obtain ⟨q1, e1, _⟩ := DataW.trod_bool Tryz.underlying4 t1
        obtain ⟨s2, e2, e2', _⟩ := DataW.trod_string Tryz.underlying9 t2
        obtain ⟨s3, e3, e3', _⟩ := DataW.trod_string Tryz.underlying9 t3
        subst e2' e3'
        simp only [List.cons.injEq, and_true] at e0 e1 e2 e3
        subst e0 e1 e2 e3
        have b0 := bulk_one y0.1
        have b1 := bulk_one y1.1
        have b4 := bulk_one y4.1
        have b5 := bulk_one y5.1
        simp only [Rows.uptoBulk, bulk_all, List.map_cons, List.map_nil, List.sum_cons, List.sum_nil] at hb ⊢
        obtain ⟨v, l, e, h1, h2⟩ := hP _ _ y4 t4 (fun p hp => hl p (by simp [hp])) (by omega)
        obtain ⟨v', l', e', h1', h2'⟩ := hL _ _ y5 t5 (fun p hp => hl p (by simp [hp])) (by omega)
        cases e
        cases e'
        rw [show s2.data.toList.length = s2.size from rfl, show s3.data.toList.length = s3.size from rfl] at hb ⊢
        refine ⟨.mk i0 q1 s2 s3 l l', ⟨by show s2.size ≤ bigN; omega, by show s3.size ≤ bigN; omega, _, _, rfl, h1, h1'⟩, by rw [wtP]; show 1 + s2.size + s3.size + wtW n l + wtL n l' ≤ _; omega⟩
     exact ⟨v, l, e, by rw [PtsIn.succ]; exact h1, by rw [wtW]; exact h2⟩
   · intro fuel cs x h hlt hb
     obtain ⟨v, l, e, h1, h2⟩ := slof_in (N := n) (size := 7) Tryz.underlying22 (by kernel_rfl) (by decide) (NdC W B n) (wtN (wtW n) (wtL n)) h hlt hb (by omega) fun fuel cs y hcl ht hl hb => by
      obtain ⟨ys, k, rfl, hyl, hf⟩ := struct_cells Tryz.underlying38 (by kernel_rfl) ht hcl
      obtain ⟨u0, y0, hu0, hy0, t0⟩ := hf 0 _ rfl
      obtain ⟨u1, y1, hu1, hy1, t1⟩ := hf 1 _ rfl
      obtain ⟨u2, y2, hu2, hy2, t2⟩ := hf 2 _ rfl
      obtain ⟨u3, y3, hu3, hy3, t3⟩ := hf 3 _ rfl
      obtain ⟨u4, y4, hu4, hy4, t4⟩ := hf 4 _ rfl
      obtain ⟨u5, y5, hu5, hy5, t5⟩ := hf 5 _ rfl
      obtain ⟨u6, y6, hu6, hy6, t6⟩ := hf 6 _ rfl
      match cs, hcl, ys, hyl with
      | [_, _, _, _, _, _, _], _, [_, _, _, _, _, _, _], _ =>
        cases hu0; cases hu1; cases hu2; cases hu3; cases hu4; cases hu5; cases hu6; cases hy0; cases hy1; cases hy2; cases hy3; cases hy4; cases hy5; cases hy6
        obtain ⟨i0, e0, _⟩ := DataW.trod_int Tryz.underlying3 t0
        obtain ⟨s1, e1, e1', _⟩ := DataW.trod_string Tryz.underlying9 t1
        subst e1'
        simp only [List.cons.injEq, and_true] at e0 e1
        subst e0 e1
        have b0 := bulk_one y0.1
        have b2 := bulk_one y2.1
        have b3 := bulk_one y3.1
        have b4 := bulk_one y4.1
        have b5 := bulk_one y5.1
        have b6 := bulk_one y6.1
        simp only [Rows.uptoBulk, bulk_all, List.map_cons, List.map_nil, List.sum_cons, List.sum_nil] at hb ⊢
        obtain ⟨v2, l2, g2, h2, k2⟩ := assigns_in (N := n - 1) hP t2 (fun p hp => hl p (by simp [hp])) (by omega) (by omega) (by omega)
        obtain ⟨v3, l3, g3, h3, k3⟩ := words_in (N := n - 1) hP t3 (fun p hp => hl p (by simp [hp])) (by omega) (by omega) (by omega)
        obtain ⟨v4, l4, g4, h4, k4⟩ := redirs_in (N := n - 1) hP t4 (fun p hp => hl p (by simp [hp])) (by omega) (by omega) (by omega)
        obtain ⟨v5, l5, g5, h5, k5⟩ := lists_in (N := n - 1) hL t5 (fun p hp => hl p (by simp [hp])) (by omega) (by omega) (by omega)
        obtain ⟨v6, l6, g6, h6, k6⟩ := arms_in (N := n - 1) hP hL t6 (fun p hp => hl p (by simp [hp])) (by omega) (by omega) (by omega)
        cases g2; cases g3; cases g4; cases g5; cases g6
        rw [show s1.data.toList.length = s1.size from rfl] at hb ⊢
        refine ⟨.mk i0 s1 l2 l3 l4 l5 l6, ⟨by show s1.size ≤ bigN; omega, _, _, _, _, _, rfl, h2, h3, h4, h5, h6⟩, ?_⟩
        rw [wtN]
        show 1 + s1.size + (l2.map (wtA (wtW n))).sum + (l3.map (wtY (wtW n))).sum + (l4.map (wtR (wtW n))).sum + (l5.map (wtS (wtL n))).sum + (l6.map (wtM (wtW n) (wtL n))).sum ≤ _
        omega
     exact ⟨v, l, e, by rw [NdsIn.succ]; exact h1, by rw [wtL]; exact h2⟩
end

set_option maxRecDepth 100000 in
theorem open_nodes {H : Type} {enc : TypeId × Value → H} {W : World} {v : Value} {d : DataW H} {p : List MemPlace} {r : Reach} {base : Nat} (hok : Value.okWide Tryz.prog W r base 22 v) (h : DataW.Trod enc Tryz.prog W 0 (fun _ => true) true 22 v d p) (hlt : ∀ x ∈ p, x.block < W.heap.size) (hb : Rows.uptoBulk d ≤ bigN) :
 ∃ n l, NdsIn W W.heap.size n l v ∧ wtL n l ≤ bigN := by
 obtain ⟨a0, len, cap, rfl⟩ := okWide_slice Tryz.underlying22 hok
 obtain ⟨fuel, hf⟩ := h
 obtain ⟨v, l, e, h1, h2⟩ := (scripts_in (Rows.uptoBulk d) hb).2 fuel _ _ hf hlt (Nat.le_refl _)
 simp [Value.cells] at e
 subst e
 exact ⟨_, l, h1, Nat.le_trans (Nat.le_of_succ_le h2) hb⟩
set_option maxRecDepth 100000 in
theorem open_parts {H : Type} {enc : TypeId × Value → H} {W : World} {v : Value} {d : DataW H} {p : List MemPlace} {r : Reach} {base : Nat} (hok : Value.okWide Tryz.prog W r base 29 v) (h : DataW.Trod enc Tryz.prog W 0 (fun _ => true) true 29 v d p) (hlt : ∀ x ∈ p, x.block < W.heap.size) (hb : Rows.uptoBulk d ≤ bigN) :
 ∃ n l, PtsIn W W.heap.size n l v ∧ wtW n l ≤ bigN := by
 obtain ⟨a0, len, cap, rfl⟩ := okWide_slice Tryz.underlying29 hok
 obtain ⟨fuel, hf⟩ := h
 obtain ⟨v, l, e, h1, h2⟩ := (scripts_in (Rows.uptoBulk d) hb).1 fuel _ _ hf hlt (Nat.le_refl _)
 simp [Value.cells] at e
 subst e
 exact ⟨_, l, h1, Nat.le_trans (Nat.le_of_succ_le h2) hb⟩
end Go.Proofs.YtnackmnoldkihaaGreatDoor
/-
  The wrap for a row that lists variables, the world's shape kept; strings.Split's cell out of the shape.
-/
namespace Go.Proofs.YtnackmnoldkihaaGreatDoor
open Go.ChangeShapes Go.WideShapes Go.ChangeAt Go.RowKit

theorem held_of_shape {W : World} (h : W.ShapedOpen Tryz.prog) : Held W := by
 obtain ⟨c, hc⟩ := Go.Proofs.cell_of_shapedOpen_int (g := 0) (zero := #[.int .i64 0]) (t := 3) h (of_decide_eq_true (by kernel_rfl)) (by kernel_rfl) rfl (by kernel_rfl) (by kernel_rfl) Tryz.underlying3
 exact ⟨⟨c, hc⟩, Nat.lt_of_le_of_lt (Nat.zero_le _) (World.block_lt_of_cell? W _ hc)⟩

theorem returns_laid {H : Type} {enc : TypeId × Value → H} {a : Assume} {C : Checked} {os : Os} {f : FuncId} {fn : Func} {s : ChangeSpec} {conds : List PathCond} {apart fresh handsOn again : Bool} {X : World → Array Value → Prop}
 (hX : ∀ (w w' : World) (args : Array Value), w.heap = w'.heap → X w args → X w' args)
 (own : ownKnob C.prog.godebug = none) (started : os.Started) (noInit : C.prog.inits.idxOf? f = none) (hfn : C.prog.funcs[f]? = some fn)
 (witness : ∃ (w : World) (tape : Tape) (i : Input), w.os = os ∧ (w.forCall tape i).Shaped C.prog ∧ i.vars = [] ∧ Input.okWide C.prog (w.forCall tape i) .any w.heap.size f i ∧
  ((s.pre enc C.prog fn conds apart (w.forCall tape i).memory i.args ∧ X (w.forCall tape i).memory i.args) ∧ sizedMet enc C.prog fn (OpenSpec.ofChange s) apart (w.forCall tape i).memory i.args) ∧ a.holds C.prog (lone (Frame.enter C.prog f i.args .normal) [] (w.forCall tape i)))
 (contract : ∀ (W : World) (base : Nat) (args : Array Value) (ds gs : List (DataW H)) (before : List MemPlace),
  (∀ (j : Nat) t v, fn.params[j]? = some t → args[j]? = some v → Value.okWide C.prog W .any base t v) →
  DataW.Whole enc C.prog fn.params.toList s.vars apart W args.toList ds gs before →
  (DataW.weightsEach C.prog (fn.params.toList ++ s.plain.varTypes C.prog) (ds ++ gs)).all (· ≤ reachBytes) = true → X W args → W.ShapedOpen C.prog →
  Calls C.prog f args W fun e W' => ∃ v, e = .returned v ∧ s.post enc C.prog fn apart fresh handsOn again W args v W') :
 ReturnsInHanded a C os f .any (fun w args => (s.pre enc C.prog fn conds apart w args ∧ X w args) ∧ sizedMet enc C.prog fn (OpenSpec.ofChange s) apart w args) (s.post enc C.prog fn apart fresh handsOn again) := by
 refine returnsInHanded_of_calls own started noInit witness ?_
 intro w tape i _ hsh _ hok hpre _
 obtain ⟨_, _, _, fn', hfn', _, _, _, _, hval⟩ := hok
 obtain rfl : fn' = fn := Option.some.inj (hfn'.symm.trans hfn)
 obtain ⟨⟨⟨ds, gs, before, hw, _⟩, hx⟩, hz⟩ := hpre
 have hw' := DataW.Whole.of_heap (w' := w.forCall tape i) (by rfl) hw
 refine (contract (w.forCall tape i) w.heap.size i.args ds gs before hval hw' (hz.weights hw) (hX _ _ _ (by rfl) hx) hsh).mono fun e W' ⟨v, he, hp⟩ => ?_
 subst he
 exact ChangeSpec.post_blind hp
end Go.Proofs.YtnackmnoldkihaaGreatDoor
/-
  A row with a bound on its input's bulk, and listed variables: its witness, the world's shape kept.
-/
namespace Go.Proofs.YtnackmnoldkihaaGreatDoor
open Go.ChangeShapes Go.WideShapes Go.ChangeAt Go.RowKit

theorem witness_row_shaped {H : Type} {enc : TypeId × Value → H} {C : Checked} {os : Os} {f : FuncId} {fn : Func} {s : OpenSpec} {conds : List PathCond} {apart : Bool} {laid : List (String × DataW Unit)} (modest : Bool) (w0 : World) (args : Array Value) (hos : w0.os = os)
 (hsh : (w0.forCall (fun _ _ => 0) ⟨#[], args, []⟩).Shaped C.prog)
 (hok : Input.okWideB C.prog (w0.forCall (fun _ _ => 0) ⟨#[], args, []⟩) f ⟨#[], args, []⟩ = true)
 (hrow : s.preRow enc C.prog fn conds apart laid (w0.forCall (fun _ _ => 0) ⟨#[], args, []⟩).memory args) :
 ∃ (w : World) (tape : Tape) (i : Input), w.os = os ∧ (w.forCall tape i).Shaped C.prog ∧ i.vars = [] ∧ Input.okWide C.prog (w.forCall tape i) .any w.heap.size f i ∧
   s.preRow enc C.prog fn conds apart laid (w.forCall tape i).memory i.args ∧ ({ modest := modest } : Assume).holds C.prog (lone (Frame.enter C.prog f i.args .normal) [] (w.forCall tape i)) :=
 ⟨w0, fun _ _ => 0, ⟨#[], args, []⟩, hos, hsh, (Input.okWide_of_okWideB (base := 0) hok).1, (Input.okWide_of_okWideB hok).2, hrow, by
  simp only [Assume.holds]
  exact ⟨by simp, by simp, fun _ => Modest.zero, by simp, by simp⟩⟩
end Go.Proofs.YtnackmnoldkihaaGreatDoor
namespace Go.Proofs.YtnackmnoldkihaaGreatDoor
open Go.ChangeShapes Go.WideShapes Go.ChangeAt Go.RowKit

set_option maxRecDepth 100000 in
theorem astShows_reads (os : Os) {H : Type} (enc : TypeId × Value → H) : ∃ places, DataW.whole enc Tryz.prog ((World.laidAll Tryz.prog os Rows.astShowsUptoRow.laid).forCall (fun _ _ => 0) ⟨#[], #[.slice none 0 0], []⟩).memory Tryz.f6.params.toList Rows.astShowsSpec.vars false (#[.slice none 0 0] : Array Value).toList 8 = some ([.nil], [], places) :=
 ⟨[], by kernel_rfl⟩
set_option maxRecDepth 100000 in
theorem astShows_lifted (os : Os) (started : os.Started) (H : Type) (enc : TypeId × Value → H) (F : Stop.Interp) :
 ReturnsInHanded {} Tryz.checked os 6 .any ((Rows.OpenSpec.upto Rows.astShowsSpec).preRow enc Tryz.prog Tryz.f6 Rows.astShowsUptoRow.domain false Rows.astShowsUptoRow.laid) (((Rows.OpenSpec.upto Rows.astShowsSpec).at F).post enc Tryz.prog Tryz.f6 false true false false) := by
 obtain ⟨places, hx⟩ := astShows_reads os enc
 refine returnsInHanded_of_row (C := Tryz.checked) (s := Rows.OpenSpec.upto Rows.astShowsSpec) Tryz.own started (by kernel_rfl) Tryz.func6
  (witness_row_shaped (enc := enc) (C := Tryz.checked) (os := os) false (World.laidAll Tryz.prog os Rows.astShowsUptoRow.laid) #[.slice none 0 0] (World.laidAll_os _ _ _) (World.shaped_of_ZipB (by kernel_rfl) (by kernel_rfl)) (by kernel_rfl)
   (OpenSpec.preRow_of_cond 8 hx (by kernel_rfl) (fun k hk => by cases hk; kernel_rfl) (by kernel_rfl) (by rw [MakeChecks.laidMetH_plain _ _ _ (by kernel_rfl)]; exact laidMet_laidAll _ (by kernel_rfl) (by kernel_rfl)))) ?_
 intro W base args ds gs before hval0 hW _ hcond _ hL hsh _
 have hval : ∀ (j : Nat) t v, Tryz.f6.params[j]? = some t → args[j]? = some v → Value.okWide Tryz.prog W .any base t v := hval0
 have hW' := hW
 obtain ⟨p, q, hA0, hV, rfl, _, _⟩ := hW
 have hA : DataW.TrodAll enc Tryz.prog W 0 (fun _ => true) true Tryz.f6.params.toList args.toList ds p := hA0
 have hAk := hA
 obtain ⟨rfl, rfl⟩ := trodVars_none hV
 simp only [List.append_nil] at hW'
 have hlt : ∀ x ∈ p, x.block < W.heap.size := fun x hx => by simpa using hW'.lt x hx
 rw [Tryz.params6] at hA hval
 obtain ⟨v0, vs0, d0, ds0, p0, q0, hargs, rfl, rfl, h0, r0⟩ := trodAll_cons hA
 obtain ⟨rfl, rfl, rfl⟩ := trodAll_nil r0
 obtain rfl : args = #[v0] := by cases args; simp_all
 have hbk := of_decide_eq_true (hcond _ rfl)
 simp only [Rows.uptoBulkAll, List.append_nil, List.nil_append, List.cons_append, Nat.add_zero] at hbk
 obtain ⟨dp0, l0, hN0, wN0⟩ := open_nodes (hval 0 22 v0 rfl rfl) h0 (fun x hx => hlt x (by simp [hx])) (by unfold bigN; omega)
 clear hA0 hval0
 refine (shows_law l0 v0 W dp0 (held_of_shape hsh) hN0 wN0).mono fun e W' ⟨he, hb⟩ => ?_
 subst he
 exact ⟨_, rfl, law_post rfl rfl rfl (by kernel_rfl) hW' hAk hb⟩

theorem astShows_row : Rows.AstShowsUptoSaid :=
 OpenClaim.holds_of_cond 6 Tryz.f6 rfl rfl rfl rfl rfl rfl rfl ⟨rfl, rfl, rfl, rfl, rfl⟩ rfl rfl rfl rfl rfl (by kernel_rfl) Tryz.func6 (by kernel_rfl)
  (of_decide_eq_true (by kernel_rfl)) (by unfold Func.isWrapper; first | (rw [if_pos (by decide +kernel)]; kernel_rfl) | (rw [if_neg (by decide +kernel)]; exact ⟨rfl, rfl⟩))
  (fun os started H enc _ F => by rw [OpenClaim.pre_eq_preRow]; exact astShows_lifted os started H enc F)

theorem astShows_holds : Rows.AstShowsUptoCardSaid :=
 Claim7.holds_tied_plain_at .later [] _ _ _ _ astShows_row (fun _ h => by cases h) (by kernel_rfl) (fun _ h => by cases h) astShowsUpto_row_tie rfl ⟨rfl, rfl⟩ (by kernel_rfl) rfl
  (fun f fn hf hfn => by
   obtain rfl : f = 6 := Option.some.inj ((show Tryz.prog.funcNamed "seabag/seabaglaw14.AstShows" = some 6 by kernel_rfl).symm.trans hf) |>.symm
   obtain rfl : fn = Tryz.f6 := (Option.some.inj (Tryz.func6.symm.trans hfn)).symm
   exact ⟨by kernel_rfl, fun j t ht => by
    rw [Tryz.params6] at ht
    have hm : t ∈ [22] := by simpa using Array.mem_of_getElem? ht
    have hall : ([22].all fun u => !Tryz.prog.wantsStandIn u) = true := by kernel_rfl
    exact (show Tryz.prog.wantsStandIn t = false by simpa using List.all_eq_true.1 hall t hm)⟩)
  (by kernel_rfl)

#print axioms astShows_holds
end Go.Proofs.YtnackmnoldkihaaGreatDoor
