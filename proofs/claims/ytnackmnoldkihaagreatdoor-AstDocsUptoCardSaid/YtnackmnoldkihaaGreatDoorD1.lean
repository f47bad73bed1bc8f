/-
  AstDocs returns true for every redirection, where the input is of bulk at most 1048576: Doc and Literal say what the document says. The card ties the listed variables to the program's text.
-/
import Derived.Test.YtnackmnoldkihaaGreatDoorQB1
import Derived.Deep.RegionHeld3
import Derived.Test.YtnackmnoldkihaaGreatDoorQB11
import Derived.Test.YtnackmnoldkihaaGreatDoorQB12
import Derived.Test.YtnackmnoldkihaaGreatDoorQB16
import Derived.Test.YtnackmnoldkihaaGreatDoorCards
import Derived.Test.YtnackmnoldkihaaGreatDoorTie
set_option linter.unusedVariables false
set_option linter.unusedSimpArgs false
/-
  A region's step by hand: an operation is taken first.
-/
namespace Go.Proofs.YtnackmnoldkihaaGreatDoor
open Go.RowKit

section
variable {P : Program} {md : Region.Mode} {ops : Array Oper} {Q : Exit → Act → World → Prop} {S : World → Prop} {oi : Oper} {fuel : Nat} {listed : Array Bool} {a : Act} {w : World}
theorem tkH (i : Nat) (v : Value) (hi : ops[i]? = some oi) (hk : (Region.noSelect ops && (Region.free md ops listed i && ((Region.ready md ops listed).contains i && Region.wanted oi (yielded ops a.tmps)))) = true) (hS : S w) (hQ : ∀ c a w, Q (.panic c) (a.put oi.dst v) w → Q (.panic c) a w) (hy : ∀ w, S w → (execOp a.eval oi).run P w = .ok (.value v) w)
 (h : wpAnyH P md ops Q S fuel (listed.setIfInBounds i true) (a.put oi.dst v) w) : wpAnyH P md ops Q S (fuel + 1) listed a w := by
 simp only [Bool.and_eq_true] at hk
 exact wpAnyH_take hi hk.1 hk.2.1 hk.2.2.1 hQ (Or.inl ⟨hk.2.2.2, hy⟩) hS h
theorem skH (i : Nat) (hi : ops[i]? = some oi) (hk : (Region.noSelect ops && (Region.free md ops listed i && ((Region.ready md ops listed).contains i && !Region.wanted oi (yielded ops a.tmps)))) = true) (hS : S w) (hQ : ∀ c a w, Q (.panic c) (a.put oi.dst undef) w → Q (.panic c) a w)
 (h : wpAnyH P md ops Q S fuel (listed.setIfInBounds i true) (a.put oi.dst undef) w) : wpAnyH P md ops Q S (fuel + 1) listed a w := by
 simp only [Bool.and_eq_true, Bool.not_eq_true'] at hk
 exact wpAnyH_take hi hk.1 hk.2.1 hk.2.2.1 hQ (Or.inr ⟨hk.2.2.2, rfl⟩) hS h
end
end Go.Proofs.YtnackmnoldkihaaGreatDoor
/-
  The walk of the law on here-documents.
-/
namespace Go.Proofs.YtnackmnoldkihaaGreatDoor
open Go.RowKit

/-- A command that is one redirection. -/
def rdN (r : Rd) : Nd := .mk 1 ByteArray.empty [] [] [r] [] []
theorem rdN_in {w : World} {B d g1 g2 : Nat} {r : Rd} {c : List Value} (hp : RdC w B d r c) (hc : c.length = 4) (h1 : Blk w g1 31 c.toArray) (h2 : Blk w g2 38 #[.int .i64 1, .string ByteArray.empty, .slice none 0 0, .slice none 0 0, .slice (some ⟨g1, 0, none⟩) 1 1, .slice none 0 0, .slice none 0 0]) (b1 : g1 < B) (b2 : g2 < B) :
 NdsIn w B (d + 1) [rdN r] (.slice (some ⟨g2, 0, none⟩) 1 1) := by
 rw [NdsIn.succ]
 exact SlOf.one h2 rfl b2 ⟨(Nat.zero_le _ : ByteArray.empty.size ≤ bigN), _, _, _, _, _, rfl, SlOf.nil, SlOf.nil, SlOf.one h1 (by simp [hc]) b1 (by simpa using hp), SlOf.nil, SlOf.nil⟩

set_option maxHeartbeats 4000000 in
set_option maxRecDepth 100000 in
theorem docs_law (r : Rd) (w : World) (d : Nat) (c : List Value) (hv : Held w) (hp : RdC w w.heap.size d r c) :
 Calls Tryz.prog 4 #[.agg c.toArray] w fun e w' => e = .returned (.bool true) ∧ Below w.heap.size w w' := by
 have HP := Lib.hid hp
 have CDo : Hid (∀ W, Below w.heap.size w W → Calls Tryz.prog 12 #[.agg c.toArray] W fun e w' => e = .returned (.string (S (docL r.word))) ∧ Below W.heap.size W w') := Lib.hid fun W hW => doc_any r W d c (hp.later hW)
 have CLi : Hid (∀ W, Below w.heap.size w W → Calls Tryz.prog 15 #[.agg c.toArray] W fun e w' => e = .returned (.bool (litrB r.word)) ∧ Below W.heap.size W w') := Lib.hid fun W hW => literal_any r W d c (hp.later hW)
 obtain ⟨a1, c1, rfl, ⟨h1, h2⟩, hsum, hlw, hw⟩ := hp.open
 obtain ⟨n, hn⟩ : ∃ n, r.word.length = n := ⟨_, rfl⟩
 have CW : Hid (∀ W, Below w.heap.size w W → Calls Tryz.prog 14 #[.slice a1 r.word.length c1] W fun e w' => (∃ a c, e = .returned (.slice a r.word.length c) ∧ PtsIn w' w'.heap.size d r.word (.slice a r.word.length c)) ∧ Below W.heap.size W w') := Lib.hid fun W hW => wordm_any r.word _ W d (hw.later hW)
 have CRd : Hid (∀ (W : World) (v : Value), PtsIn W W.heap.size d r.word v → ∀ W', Below W.heap.size W W' → Calls Tryz.prog 13 #[v] W' fun e w' => e = .returned (.string (S (docL r.word))) ∧ W' = w') := Lib.hid fun W v hv W' hW => rdoc_any r.word v W' d (hv.later hW) hsum
 have CA : Hid (∀ W, Below w.heap.size w W → Calls Tryz.prog 7 #[] W fun e w' => e = .returned (.bool true) ∧ Below W.heap.size W w') := Lib.hid fun W hW => anchor_any W (hv.below hv.2 hW) (hv.below hv.2 hW)
 have CS : Hid (∀ (W : World) (v : Value), NdsIn W W.heap.size (d + 1) [rdN r] v → Calls Tryz.prog 8 #[v] W fun e w' => (∃ b, e = .returned (.bool b)) ∧ Below W.heap.size W w') := Lib.hid fun W v h => small_any _ v W _ h
 have CN : Hid (∀ (W : World) (v : Value), NdsIn W W.heap.size (d + 1) [rdN r] v → ∀ W', Below W.heap.size W W' → Calls Tryz.prog 9 #[v] W' fun e w' => (∃ a c, e = .returned (.slice a 1 c) ∧ NdsIn w' w'.heap.size (d + 1) [rdN r] (.slice a 1 c)) ∧ Below W'.heap.size W' w') := Lib.hid fun W v h W' hW => nodes_any _ v W' _ (h.later hW)
 have CL : Hid (∀ (W : World) (v : Value), NdsIn W W.heap.size (d + 1) [rdN r] v → Calls Tryz.prog 11 #[v, .int .i64 1, .int .i64 200, .bool true] W fun e w' => (∃ b, e = .returned (.bool b)) ∧ Below W.heap.size W w') := Lib.hid fun W v h =>
  ((rlevels 200 (by omega) 200 1 (by omega) (by omega) rfl).2 W _ v _ true h).mono fun e w' hh => ⟨⟨_, hh.1⟩, hh.2⟩
 obtain ⟨d1, hws⟩ := hw.up
 have HWS := Lib.hid hws
 have HN := Lib.hid hn
 rw [hn] at CDo CLi CW HP HWS hlw ⊢
 have BK := Lib.hid (Bk.start w 31 #[.int .i64 r.fd, .string r.op, .string r.tag, .slice a1 n c1])
 obtain ⟨dt, hdt⟩ : ∃ t, S (docL r.word) = t := ⟨_, rfl⟩
 rw [hdt] at CDo CRd
 obtain ⟨lt, hlt⟩ : ∃ b, litrB r.word = b := ⟨_, rfl⟩
 have HLT := Lib.hid hlt
 rw [hlt] at CLi
 clear hp hw hws hn hdt hlt hsum
 go_enter Tryz.func4, Tryz.ntmps4
 go_wp2_with fail
 refine (CA.out _ (by repeat' (first | (with_reducible assumption) | (with_reducible exact Below.refl _ _) | (with_reducible refine below_drewN ?_ _) | (with_reducible refine below_bytes ?_ ?_ _) | (with_reducible refine Below.alloc ?_ ?_ _) | (with_reducible refine Below.drew ?_) | (with_reducible refine Below.setCell ?_ ?_ _) | go_size))).mono ?_
 rintro e w1 ⟨rfl, hb0⟩
 have hBw1 : Below w.heap.size w w1 := since hb0 (by repeat' (first | (with_reducible assumption) | (with_reducible exact Below.refl _ _) | (with_reducible refine below_drewN ?_ _) | (with_reducible refine below_bytes ?_ ?_ _) | (with_reducible refine Below.alloc ?_ ?_ _) | (with_reducible refine Below.drew ?_) | (with_reducible refine Below.setCell ?_ ?_ _) | go_size))
 have BKw1 := Lib.hid (Bk.later BK.out (since hb0 (by repeat' (first | (with_reducible assumption) | (with_reducible exact Below.refl _ _) | (with_reducible refine below_drewN ?_ _) | (with_reducible refine below_bytes ?_ ?_ _) | (with_reducible refine Below.alloc ?_ ?_ _) | (with_reducible refine Below.drew ?_) | (with_reducible refine Below.setCell ?_ ?_ _) | go_size))))
 clear hb0
 have K1BKw1 := Lib.hid BKw1.out.b
 have hBBKw1 := BKw1.out.hb
 have p0 := K1BKw1.out.cell 0
 have p1 := K1BKw1.out.cell 1
 have p2 := K1BKw1.out.cell 2
 have p3 := K1BKw1.out.cell 3
 have pl := K1BKw1.out.lt
 simp at p0 p1 p2 p3
 go_wp2_with fail
 obtain ⟨X, hX⟩ : ∃ X, X = (w1.alloc (.cells #[.int .i64 r.fd, .string r.op, .string r.tag, .slice a1 n c1] 31)).alloc (.cells #[.int .i64 1, .string ⟨#[]⟩, .slice none 0 0, .slice none 0 0, .slice (some ⟨w1.heap.size, 0, none⟩) 1 1, .slice none 0 0, .slice none 0 0] 38) := ⟨_, rfl⟩
 have HBX : Hid (Below w1.heap.size w1 X) := Lib.hid (by rw [hX]; exact (by repeat' (first | (with_reducible assumption) | (with_reducible exact Below.refl _ _) | (with_reducible refine below_drewN ?_ _) | (with_reducible refine below_bytes ?_ ?_ _) | (with_reducible refine Below.alloc ?_ ?_ _) | (with_reducible refine Below.drew ?_) | (with_reducible refine Below.setCell ?_ ?_ _) | go_size)))
 have hBX : Below w.heap.size w X := since HBX.out hBw1
 have BKX := Lib.hid (BKw1.out.later HBX.out)
 have HIN : Hid (NdsIn X X.heap.size (d + 1) [rdN r] (.slice (some ⟨w1.heap.size + 1, 0, none⟩) 1 1)) := Lib.hid (rdN_in (HP.out.later hBX) rfl (by rw [hX]; exact (Blk.at rfl).alloc _) (by rw [hX]; exact Blk.at (by simp)) (by rw [hX]; simp; omega) (by rw [hX]; simp))
 rw [← hX]
 clear hX
 clear p0 p1 p2 p3 pl
 refine (CS.out _ _ HIN.out).mono ?_
 rintro e w2 ⟨⟨b, rfl⟩, hb0⟩
 have hB2 : Below w.heap.size w w2 := since hb0 hBX
 have hx2 : Below X.heap.size X w2 := hb0
 have BKw2 := Lib.hid (Bk.later BKX.out hb0)
 clear hb0
 have K1BKw2 := Lib.hid BKw2.out.b
 have hBBKw2 := BKw2.out.hb
 have p0 := K1BKw2.out.cell 0
 have p1 := K1BKw2.out.cell 1
 have p2 := K1BKw2.out.cell 2
 have p3 := K1BKw2.out.cell 3
 have pl := K1BKw2.out.lt
 simp at p0 p1 p2 p3
 cases b with
 | false =>
  go_wp2_with fail
  go_ret
  exact ⟨ret_bool rfl, (by repeat' (first | (with_reducible assumption) | (with_reducible exact Below.refl _ _) | (with_reducible refine below_drewN ?_ _) | (with_reducible refine below_bytes ?_ ?_ _) | (with_reducible refine Below.alloc ?_ ?_ _) | (with_reducible refine Below.drew ?_) | (with_reducible refine Below.setCell ?_ ?_ _) | go_size))⟩
 | true =>
  cases hop : (L r.op == [60, 60]) with
  | false =>
   have g2 : (r.op.toList == [60, 60]) = false := by rw [toList_L]; exact hop
   clear hop
   go_wp2_with fail
   go_ret
   exact ⟨ret_bool rfl, (by repeat' (first | (with_reducible assumption) | (with_reducible exact Below.refl _ _) | (with_reducible refine below_drewN ?_ _) | (with_reducible refine below_bytes ?_ ?_ _) | (with_reducible refine Below.alloc ?_ ?_ _) | (with_reducible refine Below.drew ?_) | (with_reducible refine Below.setCell ?_ ?_ _) | go_size))⟩
  | true =>
   have g2 : (r.op.toList == [60, 60]) = true := by rw [toList_L]; exact hop
   clear hop
   go_wp2_with fail
   refine (CN.out _ _ HIN.out _ hx2).mono ?_
   rintro e w3 ⟨⟨a3, c3, rfl, hx⟩, hb0⟩
   have HX3 := Lib.hid hx
   have hB3 : Below w.heap.size w w3 := since hb0 hB2
   have BKw3 := Lib.hid (Bk.later BKw2.out hb0)
   clear hb0 hx
   clear p0 p1 p2 p3 pl
   go_wp2_with fail
   refine (CL.out _ _ HX3.out).mono ?_
   rintro e w4 ⟨⟨b, rfl⟩, hb0⟩
   have hB4 : Below w.heap.size w w4 := since hb0 hB3
   have BKw4 := Lib.hid (Bk.later BKw3.out hb0)
   clear hb0
   have K1BKw4 := Lib.hid BKw4.out.b
   have hBBKw4 := BKw4.out.hb
   have p0 := K1BKw4.out.cell 0
   have p1 := K1BKw4.out.cell 1
   have p2 := K1BKw4.out.cell 2
   have p3 := K1BKw4.out.cell 3
   have pl := K1BKw4.out.lt
   simp at p0 p1 p2 p3
   cases b with
   | false =>
    go_wp2_with fail
    go_ret
    exact ⟨ret_bool rfl, (by repeat' (first | (with_reducible assumption) | (with_reducible exact Below.refl _ _) | (with_reducible refine below_drewN ?_ _) | (with_reducible refine below_bytes ?_ ?_ _) | (with_reducible refine Below.alloc ?_ ?_ _) | (with_reducible refine Below.drew ?_) | (with_reducible refine Below.setCell ?_ ?_ _) | go_size))⟩
   | true =>
    have CD6 : Hid (∀ W, Below w4.heap.size w4 W → Calls Tryz.prog 12 #[.agg #[.int .i64 r.fd, .string r.op, .string r.tag, .slice a1 n c1]] W fun e w' => e = .returned (.string dt) ∧ Below w4.heap.size w4 w') := Lib.hid fun W hW => (CDo.out W (since hW hB4)).mono fun e w' h => ⟨h.1, hW.trans (h.2.mono hW.size)⟩
    have CL6 : Hid (∀ W, Below w4.heap.size w4 W → Calls Tryz.prog 15 #[.agg #[.int .i64 r.fd, .string r.op, .string r.tag, .slice a1 n c1]] W fun e w' => e = .returned (.bool lt) ∧ Below w4.heap.size w4 w') := Lib.hid fun W hW => (CLi.out W (since hW hB4)).mono fun e w' h => ⟨h.1, hW.trans (h.2.mono hW.size)⟩
    have CW6 : Hid (∀ W, Below w4.heap.size w4 W → Calls Tryz.prog 14 #[.slice a1 n c1] W fun e w' => (∃ a c, e = .returned (.slice a n c) ∧ PtsIn w' w'.heap.size d r.word (.slice a n c)) ∧ Below w4.heap.size w4 w') := Lib.hid fun W hW => (CW.out W (since hW hB4)).mono fun e w' h => ⟨h.1, hW.trans (h.2.mono hW.size)⟩
    have gdt : (dt.toList == dt.toList) = true := by simp
    clear CDo CLi CW CA CS CN CL
    have hB4z := hB4.size
    by_cases h0 : n = 0
    · have e0 : ((n : Int) == 0) = true := by simp [h0]
      have hlt : lt = true := by rw [← HLT.out, List.length_eq_zero_iff.1 (HN.out.trans h0)]; rfl
      subst hlt
      clear h0
      go_upto_region 6 with fail
      refine wp_region_held_drew (S := fun w' => w'.cell? ⟨w.heap.size, 0, none⟩ = some (.int .i64 r.fd) ∧ w'.cell? ⟨w.heap.size, 1, none⟩ = some (.string r.op) ∧ w'.cell? ⟨w.heap.size, 2, none⟩ = some (.string r.tag) ∧ w'.cell? ⟨w.heap.size, 3, none⟩ = some (.slice a1 n c1)) (by kernel_rfl) ?_ (fun hHeld => ?_)
      · exact ⟨p0, p1, p2, p3⟩
      refine tkH 0 ?_ rfl (by kernel_rfl) (by assumption) (fun _ _ _ h => h) ?_ ?_
      rotate_left
      · (intro w g; (try dsimp only at g); go_simp; try with_reducible rfl)
      refine tkH 2 ?_ rfl (by kernel_rfl) (by assumption) (fun _ _ _ h => h) ?_ ?_
      rotate_left
      · (intro w g; (try dsimp only at g); go_simp; try with_reducible rfl)
      refine tkH 3 ?_ rfl (by kernel_rfl) (by assumption) (fun _ _ _ h => h) ?_ ?_
      rotate_left
      · (intro w g; (try dsimp only at g); go_simp; try with_reducible rfl)
      try simp only [Act.put, List.getElem_toArray, List.getElem_cons_zero, List.getElem_cons_succ, List.setIfInBounds_toArray, List.set_cons_zero, List.set_cons_succ]
      refine wpAnyH_ready (rs := [1]) (by kernel_rfl) (by simp) ?_
      refine AllReadyH.cons rfl (fun K hK => ?_) AllReadyH.nil
      go_simp
      go_at_call 12
      refine (CD6.out _ (by repeat' (first | (with_reducible assumption) | (with_reducible exact Below.refl _ _) | (with_reducible refine below_drewN ?_ _) | (with_reducible refine below_bytes ?_ ?_ _) | (with_reducible refine Below.alloc ?_ ?_ _) | (with_reducible refine Below.drew ?_) | (with_reducible refine Below.setCell ?_ ?_ _) | go_size))).mono ?_
      rintro e w5 ⟨rfl, hb5⟩
      go_wp2_with fail
      refine hK.out _ _ ?_ (fun hHeld => ?_)
      · exact ⟨(hb5.cell pl).trans p0, (hb5.cell pl).trans p1, (hb5.cell pl).trans p2, (hb5.cell pl).trans p3⟩
      clear hK K
      try simp only [Act.put, List.getElem_toArray, List.getElem_cons_zero, List.getElem_cons_succ, List.setIfInBounds_toArray, List.set_cons_zero, List.set_cons_succ]
      refine wpAnyH_ready (rs := [4]) (by kernel_rfl) (by simp) ?_
      refine AllReadyH.cons rfl (fun K hK => ?_) AllReadyH.nil
      go_simp
      go_at_call 14
      refine (CW6.out _ hb5).mono ?_
      rintro e w6 ⟨⟨a6, c6, rfl, hx6⟩, hb6⟩
      have HX6 := Lib.hid hx6
      clear hx6
      go_wp2_with fail
      refine hK.out _ _ ?_ (fun hHeld => ?_)
      · exact ⟨(hb6.cell pl).trans p0, (hb6.cell pl).trans p1, (hb6.cell pl).trans p2, (hb6.cell pl).trans p3⟩
      clear hK K
      try simp only [Act.put, List.getElem_toArray, List.getElem_cons_zero, List.getElem_cons_succ, List.setIfInBounds_toArray, List.set_cons_zero, List.set_cons_succ]
      refine wpAnyH_ready (rs := [5]) (by kernel_rfl) (by simp) ?_
      refine AllReadyH.cons rfl (fun K hK => ?_) AllReadyH.nil
      go_simp
      go_at_call 13
      refine (CRd.out _ _ HX6.out _ (Below.refl _ _)).mono ?_
      rintro e w7 ⟨rfl, rfl⟩
      go_wp2_with fail
      refine hK.out _ _ ?_ (fun hHeld => ?_)
      · exact ⟨(hb6.cell pl).trans p0, (hb6.cell pl).trans p1, (hb6.cell pl).trans p2, (hb6.cell pl).trans p3⟩
      clear hK K
      try simp only [Act.put, List.getElem_toArray, List.getElem_cons_zero, List.getElem_cons_succ, List.setIfInBounds_toArray, List.set_cons_zero, List.set_cons_succ]
      refine tkH 6 ?_ rfl (by kernel_rfl) (by assumption) (fun _ _ _ h => h) ?_ ?_
      rotate_left
      · (intro w g; (try dsimp only at g); go_simp; try with_reducible rfl)
      refine tkH 7 ?_ rfl (by kernel_rfl) (by assumption) (fun _ _ _ h => h) ?_ ?_
      rotate_left
      · (intro w g; (try dsimp only at g); go_simp; try with_reducible rfl)
      refine tkH 8 ?_ rfl (by kernel_rfl) (by assumption) (fun _ _ _ h => h) ?_ ?_
      rotate_left
      · (intro w g; (try dsimp only at g); go_simp; try with_reducible rfl)
      refine tkH 10 ?_ rfl (by kernel_rfl) (by assumption) (fun _ _ _ h => h) ?_ ?_
      rotate_left
      · (intro w g; (try dsimp only at g); go_simp; try with_reducible rfl)
      refine tkH 11 ?_ rfl (by kernel_rfl) (by assumption) (fun _ _ _ h => h) ?_ ?_
      rotate_left
      · (intro w g; (try dsimp only at g); go_simp; try with_reducible rfl)
      refine tkH 12 ?_ rfl (by kernel_rfl) (by assumption) (fun _ _ _ h => h) ?_ ?_
      rotate_left
      · (intro w g; (try dsimp only at g); go_simp; try with_reducible rfl)
      refine tkH 13 ?_ rfl (by kernel_rfl) (by assumption) (fun _ _ _ h => h) ?_ ?_
      rotate_left
      · (intro w g; (try dsimp only at g); go_simp; try with_reducible rfl)
      try simp only [Act.put, List.getElem_toArray, List.getElem_cons_zero, List.getElem_cons_succ, List.setIfInBounds_toArray, List.set_cons_zero, List.set_cons_succ]
      refine wpAnyH_ready (rs := [9]) (by kernel_rfl) (by simp) ?_
      refine AllReadyH.cons rfl (fun K hK => ?_) AllReadyH.nil
      go_simp
      go_at_call 15
      refine (CL6.out _ hb6).mono ?_
      rintro e w8 ⟨rfl, hb8⟩
      go_wp2_with fail
      refine hK.out _ _ ?_ (fun hHeld => ?_)
      · exact ⟨(hb8.cell pl).trans p0, (hb8.cell pl).trans p1, (hb8.cell pl).trans p2, (hb8.cell pl).trans p3⟩
      clear hK K
      try simp only [Act.put, List.getElem_toArray, List.getElem_cons_zero, List.getElem_cons_succ, List.setIfInBounds_toArray, List.set_cons_zero, List.set_cons_succ]
      refine tkH 14 ?_ rfl (by kernel_rfl) (by assumption) (fun _ _ _ h => h) ?_ ?_
      rotate_left
      · (intro w g; (try dsimp only at g); go_simp; try with_reducible rfl)
      try simp only [Act.put, List.getElem_toArray, List.getElem_cons_zero, List.getElem_cons_succ, List.setIfInBounds_toArray, List.set_cons_zero, List.set_cons_succ]
      refine skH 15 rfl (by kernel_rfl) (by assumption) (fun _ _ _ h => h) ?_
      refine skH 16 rfl (by kernel_rfl) (by assumption) (fun _ _ _ h => h) ?_
      refine skH 17 rfl (by kernel_rfl) (by assumption) (fun _ _ _ h => h) ?_
      refine skH 18 rfl (by kernel_rfl) (by assumption) (fun _ _ _ h => h) ?_
      refine skH 19 rfl (by kernel_rfl) (by assumption) (fun _ _ _ h => h) ?_
      refine skH 20 rfl (by kernel_rfl) (by assumption) (fun _ _ _ h => h) ?_
      refine skH 21 rfl (by kernel_rfl) (by assumption) (fun _ _ _ h => h) ?_
      refine skH 22 rfl (by kernel_rfl) (by assumption) (fun _ _ _ h => h) ?_
      try simp only [Act.put, List.getElem_toArray, List.getElem_cons_zero, List.getElem_cons_succ, List.setIfInBounds_toArray, List.set_cons_zero, List.set_cons_succ]
      refine skH 23 rfl (by kernel_rfl) (by assumption) (fun _ _ _ h => h) ?_
      refine skH 24 rfl (by kernel_rfl) (by assumption) (fun _ _ _ h => h) ?_
      refine skH 25 rfl (by kernel_rfl) (by assumption) (fun _ _ _ h => h) ?_
      refine skH 26 rfl (by kernel_rfl) (by assumption) (fun _ _ _ h => h) ?_
      try simp only [Act.put, List.getElem_toArray, List.getElem_cons_zero, List.getElem_cons_succ, List.setIfInBounds_toArray, List.set_cons_zero, List.set_cons_succ]
      refine tkH 27 ?_ rfl (by kernel_rfl) (by assumption) (fun _ _ _ h => h) ?_ ?_
      rotate_left
      · (intro w g; (try dsimp only at g); go_simp; try with_reducible rfl)
      refine tkH 28 ?_ rfl (by kernel_rfl) (by assumption) (fun _ _ _ h => h) ?_ ?_
      rotate_left
      · (intro w g; (try dsimp only at g); go_simp; try with_reducible rfl)
      refine tkH 29 ?_ rfl (by kernel_rfl) (by assumption) (fun _ _ _ h => h) ?_ ?_
      rotate_left
      · (intro w g; (try dsimp only at g); go_simp; try with_reducible rfl)
      refine tkH 30 ?_ rfl (by kernel_rfl) (by assumption) (fun _ _ _ h => h) ?_ ?_
      rotate_left
      · (intro w g; (try dsimp only at g); go_simp; try with_reducible rfl)
      try simp only [Act.put, List.getElem_toArray, List.getElem_cons_zero, List.getElem_cons_succ, List.setIfInBounds_toArray, List.set_cons_zero, List.set_cons_succ]
      refine wpAnyH_done (by kernel_rfl) ?_ _
      have hBE : Below w.heap.size w w8 := hB4.trans (hb8.mono hB4z)
      clear hHeld
      go_wp2_with fail
      go_ret
      exact ⟨ret_bool rfl, (by repeat' (first | (with_reducible assumption) | (with_reducible exact Below.refl _ _) | (with_reducible refine below_drewN ?_ _) | (with_reducible refine below_bytes ?_ ?_ _) | (with_reducible refine Below.alloc ?_ ?_ _) | (with_reducible refine Below.drew ?_) | (with_reducible refine Below.setCell ?_ ?_ _) | go_size))⟩
    · have e0 : ((n : Int) == 0) = false := by simp; omega
      by_cases h1 : n = 1
      · subst h1
        obtain ⟨x, hx⟩ : ∃ x, r.word = [x] := List.length_eq_one_iff.1 HN.out
        obtain ⟨b, o, c, hi, hbB, hce, hC, _⟩ := HWS.out.at 29 44 Tryz.underlying29 (by kernel_rfl) (show r.word[0]? = some x by rw [hx]; rfl)
        obtain ⟨a3, c3, a4, c4, rfl, _⟩ := hC.open
        have x0 := (hB4.cell hbB).trans (hce 0 _ rfl)
        rw [Nat.add_zero] at x0
        have hbB4 := Nat.lt_of_lt_of_le hbB hB4z
        have hlt : lt = (x.kind == 1) := by rw [← HLT.out, hx]; rfl
        have hi0 : ∀ w' : World, (Instr.indexAt 29 (.slice a1 1 c1) (.int .i64 0)).run Tryz.prog w' = .ok (.pointer (some ⟨b, o, none⟩)) w' := hi
        obtain ⟨xk, hxk⟩ : ∃ k, x.kind = k := ⟨_, rfl⟩
        rw [hxk] at x0 hlt
        have HKK := Lib.hid hlt
        clear hx hi hce hC hxk hlt h0 e0
        have e0 : (((1 : Nat) : Int) == 0) = false := by simp
        have e1 : (((1 : Nat) : Int) == 1) = true := by simp
        cases hk1 : (xk == 1)
        all_goals
         have hlt2 := HKK.out.trans hk1
         subst hlt2
         go_upto_region 6 with fail
         refine wp_region_held_drew (S := fun w' => w'.cell? ⟨w.heap.size, 0, none⟩ = some (.int .i64 r.fd) ∧ w'.cell? ⟨w.heap.size, 1, none⟩ = some (.string r.op) ∧ w'.cell? ⟨w.heap.size, 2, none⟩ = some (.string r.tag) ∧ w'.cell? ⟨w.heap.size, 3, none⟩ = some (.slice a1 1 c1) ∧ w'.cell? ⟨b, o, none⟩ = some (.int .i64 xk)) (by kernel_rfl) ?_ (fun hHeld => ?_)
         · exact ⟨p0, p1, p2, p3, x0⟩
         refine tkH 0 ?_ rfl (by kernel_rfl) (by assumption) (fun _ _ _ h => h) ?_ ?_
         rotate_left
         · (intro w g; (try dsimp only at g); go_simp; try with_reducible rfl)
         refine tkH 2 ?_ rfl (by kernel_rfl) (by assumption) (fun _ _ _ h => h) ?_ ?_
         rotate_left
         · (intro w g; (try dsimp only at g); go_simp; try with_reducible rfl)
         refine tkH 3 ?_ rfl (by kernel_rfl) (by assumption) (fun _ _ _ h => h) ?_ ?_
         rotate_left
         · (intro w g; (try dsimp only at g); go_simp; try with_reducible rfl)
         try simp only [Act.put, List.getElem_toArray, List.getElem_cons_zero, List.getElem_cons_succ, List.setIfInBounds_toArray, List.set_cons_zero, List.set_cons_succ]
         refine wpAnyH_ready (rs := [1]) (by kernel_rfl) (by simp) ?_
         refine AllReadyH.cons rfl (fun K hK => ?_) AllReadyH.nil
         go_simp
         go_at_call 12
         refine (CD6.out _ (by repeat' (first | (with_reducible assumption) | (with_reducible exact Below.refl _ _) | (with_reducible refine below_drewN ?_ _) | (with_reducible refine below_bytes ?_ ?_ _) | (with_reducible refine Below.alloc ?_ ?_ _) | (with_reducible refine Below.drew ?_) | (with_reducible refine Below.setCell ?_ ?_ _) | go_size))).mono ?_
         rintro e w5 ⟨rfl, hb5⟩
         go_wp2_with fail
         refine hK.out _ _ ?_ (fun hHeld => ?_)
         · exact ⟨(hb5.cell pl).trans p0, (hb5.cell pl).trans p1, (hb5.cell pl).trans p2, (hb5.cell pl).trans p3, (hb5.cell hbB4).trans x0⟩
         clear hK K
         try simp only [Act.put, List.getElem_toArray, List.getElem_cons_zero, List.getElem_cons_succ, List.setIfInBounds_toArray, List.set_cons_zero, List.set_cons_succ]
         refine wpAnyH_ready (rs := [4]) (by kernel_rfl) (by simp) ?_
         refine AllReadyH.cons rfl (fun K hK => ?_) AllReadyH.nil
         go_simp
         go_at_call 14
         refine (CW6.out _ hb5).mono ?_
         rintro e w6 ⟨⟨a6, c6, rfl, hx6⟩, hb6⟩
         have HX6 := Lib.hid hx6
         clear hx6
         go_wp2_with fail
         refine hK.out _ _ ?_ (fun hHeld => ?_)
         · exact ⟨(hb6.cell pl).trans p0, (hb6.cell pl).trans p1, (hb6.cell pl).trans p2, (hb6.cell pl).trans p3, (hb6.cell hbB4).trans x0⟩
         clear hK K
         try simp only [Act.put, List.getElem_toArray, List.getElem_cons_zero, List.getElem_cons_succ, List.setIfInBounds_toArray, List.set_cons_zero, List.set_cons_succ]
         refine wpAnyH_ready (rs := [5]) (by kernel_rfl) (by simp) ?_
         refine AllReadyH.cons rfl (fun K hK => ?_) AllReadyH.nil
         go_simp
         go_at_call 13
         refine (CRd.out _ _ HX6.out _ (Below.refl _ _)).mono ?_
         rintro e w7 ⟨rfl, rfl⟩
         go_wp2_with fail
         refine hK.out _ _ ?_ (fun hHeld => ?_)
         · exact ⟨(hb6.cell pl).trans p0, (hb6.cell pl).trans p1, (hb6.cell pl).trans p2, (hb6.cell pl).trans p3, (hb6.cell hbB4).trans x0⟩
         clear hK K
         try simp only [Act.put, List.getElem_toArray, List.getElem_cons_zero, List.getElem_cons_succ, List.setIfInBounds_toArray, List.set_cons_zero, List.set_cons_succ]
         refine tkH 6 ?_ rfl (by kernel_rfl) (by assumption) (fun _ _ _ h => h) ?_ ?_
         rotate_left
         · (intro w g; (try dsimp only at g); go_simp; try with_reducible rfl)
         refine tkH 7 ?_ rfl (by kernel_rfl) (by assumption) (fun _ _ _ h => h) ?_ ?_
         rotate_left
         · (intro w g; (try dsimp only at g); go_simp; try with_reducible rfl)
         refine tkH 8 ?_ rfl (by kernel_rfl) (by assumption) (fun _ _ _ h => h) ?_ ?_
         rotate_left
         · (intro w g; (try dsimp only at g); go_simp; try with_reducible rfl)
         refine tkH 10 ?_ rfl (by kernel_rfl) (by assumption) (fun _ _ _ h => h) ?_ ?_
         rotate_left
         · (intro w g; (try dsimp only at g); go_simp; try with_reducible rfl)
         refine tkH 11 ?_ rfl (by kernel_rfl) (by assumption) (fun _ _ _ h => h) ?_ ?_
         rotate_left
         · (intro w g; (try dsimp only at g); go_simp; try with_reducible rfl)
         refine tkH 12 ?_ rfl (by kernel_rfl) (by assumption) (fun _ _ _ h => h) ?_ ?_
         rotate_left
         · (intro w g; (try dsimp only at g); go_simp; try with_reducible rfl)
         refine tkH 13 ?_ rfl (by kernel_rfl) (by assumption) (fun _ _ _ h => h) ?_ ?_
         rotate_left
         · (intro w g; (try dsimp only at g); go_simp; try with_reducible rfl)
         try simp only [Act.put, List.getElem_toArray, List.getElem_cons_zero, List.getElem_cons_succ, List.setIfInBounds_toArray, List.set_cons_zero, List.set_cons_succ]
         refine wpAnyH_ready (rs := [9]) (by kernel_rfl) (by simp) ?_
         refine AllReadyH.cons rfl (fun K hK => ?_) AllReadyH.nil
         go_simp
         go_at_call 15
         refine (CL6.out _ hb6).mono ?_
         rintro e w8 ⟨rfl, hb8⟩
         go_wp2_with fail
         refine hK.out _ _ ?_ (fun hHeld => ?_)
         · exact ⟨(hb8.cell pl).trans p0, (hb8.cell pl).trans p1, (hb8.cell pl).trans p2, (hb8.cell pl).trans p3, (hb8.cell hbB4).trans x0⟩
         clear hK K
         try simp only [Act.put, List.getElem_toArray, List.getElem_cons_zero, List.getElem_cons_succ, List.setIfInBounds_toArray, List.set_cons_zero, List.set_cons_succ]
         refine tkH 14 ?_ rfl (by kernel_rfl) (by assumption) (fun _ _ _ h => h) ?_ ?_
         rotate_left
         · (intro w g; (try dsimp only at g); go_simp; try with_reducible rfl)
         refine tkH 15 ?_ rfl (by kernel_rfl) (by assumption) (fun _ _ _ h => h) ?_ ?_
         rotate_left
         · (intro w g; (try dsimp only at g); go_simp; try with_reducible rfl)
         refine tkH 16 ?_ rfl (by kernel_rfl) (by assumption) (fun _ _ _ h => h) ?_ ?_
         rotate_left
         · (intro w g; (try dsimp only at g); go_simp; try with_reducible rfl)
         refine tkH 17 ?_ rfl (by kernel_rfl) (by assumption) (fun _ _ _ h => h) ?_ ?_
         rotate_left
         · (intro w g; (try dsimp only at g); go_simp; try with_reducible rfl)
         refine tkH 18 ?_ rfl (by kernel_rfl) (by assumption) (fun _ _ _ h => h) ?_ ?_
         rotate_left
         · (intro w g; (try dsimp only at g); go_simp; try with_reducible rfl)
         refine tkH 19 ?_ rfl (by kernel_rfl) (by assumption) (fun _ _ _ h => h) ?_ ?_
         rotate_left
         · (intro w g; (try dsimp only at g); go_simp; try with_reducible rfl)
         refine tkH 20 ?_ rfl (by kernel_rfl) (by assumption) (fun _ _ _ h => h) ?_ ?_
         rotate_left
         · (intro w g; (try dsimp only at g); go_simp; try with_reducible rfl)
         refine tkH 21 ?_ rfl (by kernel_rfl) (by assumption) (fun _ _ _ h => h) ?_ ?_
         rotate_left
         · (intro w g; (try dsimp only at g); go_simp; try with_reducible rfl)
         try simp only [Act.put, List.getElem_toArray, List.getElem_cons_zero, List.getElem_cons_succ, List.setIfInBounds_toArray, List.set_cons_zero, List.set_cons_succ]
         refine tkH 22 ?_ rfl (by kernel_rfl) (by assumption) (fun _ _ _ h => h) ?_ ?_
         rotate_left
         · (intro w g; (try dsimp only at g); go_simp; try with_reducible rfl)
         refine tkH 23 ?_ rfl (by kernel_rfl) (by assumption) (fun _ _ _ h => h) ?_ ?_
         rotate_left
         · (intro w g; (try dsimp only at g); go_simp; try with_reducible rfl)
         refine tkH 24 ?_ rfl (by kernel_rfl) (by assumption) (fun _ _ _ h => h) ?_ ?_
         rotate_left
         · (intro w g; (try dsimp only at g); go_simp; try with_reducible rfl)
         refine tkH 25 ?_ rfl (by kernel_rfl) (by assumption) (fun _ _ _ h => h) ?_ ?_
         rotate_left
         · (intro w g; (try dsimp only at g); go_simp; try with_reducible rfl)
         refine tkH 26 ?_ rfl (by kernel_rfl) (by assumption) (fun _ _ _ h => h) ?_ ?_
         rotate_left
         · (intro w g; (try dsimp only at g); go_simp; try with_reducible rfl)
         refine tkH 27 ?_ rfl (by kernel_rfl) (by assumption) (fun _ _ _ h => h) ?_ ?_
         rotate_left
         · (intro w g; (try dsimp only at g); go_simp; try with_reducible rfl)
         refine tkH 28 ?_ rfl (by kernel_rfl) (by assumption) (fun _ _ _ h => h) ?_ ?_
         rotate_left
         · (intro w g; (try dsimp only at g); go_simp; try with_reducible rfl)
         refine tkH 29 ?_ rfl (by kernel_rfl) (by assumption) (fun _ _ _ h => h) ?_ ?_
         rotate_left
         · (intro w g; (try dsimp only at g); go_simp; try with_reducible rfl)
         try simp only [Act.put, List.getElem_toArray, List.getElem_cons_zero, List.getElem_cons_succ, List.setIfInBounds_toArray, List.set_cons_zero, List.set_cons_succ]
         refine tkH 30 ?_ rfl (by kernel_rfl) (by assumption) (fun _ _ _ h => h) ?_ ?_
         rotate_left
         · (intro w g; (try dsimp only at g); go_simp; try with_reducible rfl)
         try simp only [Act.put, List.getElem_toArray, List.getElem_cons_zero, List.getElem_cons_succ, List.setIfInBounds_toArray, List.set_cons_zero, List.set_cons_succ]
         refine wpAnyH_done (by kernel_rfl) ?_ _
         have hBE : Below w.heap.size w w8 := hB4.trans (hb8.mono hB4z)
         clear hHeld
         go_wp2_with fail
         go_ret
         exact ⟨ret_bool rfl, (by repeat' (first | (with_reducible assumption) | (with_reducible exact Below.refl _ _) | (with_reducible refine below_drewN ?_ _) | (with_reducible refine below_bytes ?_ ?_ _) | (with_reducible refine Below.alloc ?_ ?_ _) | (with_reducible refine Below.drew ?_) | (with_reducible refine Below.setCell ?_ ?_ _) | go_size))⟩
      · have e1 : ((n : Int) == 1) = false := by simp; omega
        have hlt : lt = false := by rw [← HLT.out]; exact litr_two (by rw [HN.out]; omega)
        have e0n : (n == 0) = false := by simp [h0]
        have e1n : (n == 1) = false := by simp [h1]
        subst hlt
        go_upto_region 6 with fail
        refine wp_region_held_drew (S := fun w' => w'.cell? ⟨w.heap.size, 0, none⟩ = some (.int .i64 r.fd) ∧ w'.cell? ⟨w.heap.size, 1, none⟩ = some (.string r.op) ∧ w'.cell? ⟨w.heap.size, 2, none⟩ = some (.string r.tag) ∧ w'.cell? ⟨w.heap.size, 3, none⟩ = some (.slice a1 n c1)) (by kernel_rfl) ?_ (fun hHeld => ?_)
        · exact ⟨p0, p1, p2, p3⟩
        refine tkH 0 ?_ rfl (by kernel_rfl) (by assumption) (fun _ _ _ h => h) ?_ ?_
        rotate_left
        · (intro w g; (try dsimp only at g); go_simp; try with_reducible rfl)
        refine tkH 2 ?_ rfl (by kernel_rfl) (by assumption) (fun _ _ _ h => h) ?_ ?_
        rotate_left
        · (intro w g; (try dsimp only at g); go_simp; try with_reducible rfl)
        refine tkH 3 ?_ rfl (by kernel_rfl) (by assumption) (fun _ _ _ h => h) ?_ ?_
        rotate_left
        · (intro w g; (try dsimp only at g); go_simp; try with_reducible rfl)
        try simp only [Act.put, List.getElem_toArray, List.getElem_cons_zero, List.getElem_cons_succ, List.setIfInBounds_toArray, List.set_cons_zero, List.set_cons_succ]
        refine wpAnyH_ready (rs := [1]) (by kernel_rfl) (by simp) ?_
        refine AllReadyH.cons rfl (fun K hK => ?_) AllReadyH.nil
        go_simp
        go_at_call 12
        refine (CD6.out _ (by repeat' (first | (with_reducible assumption) | (with_reducible exact Below.refl _ _) | (with_reducible refine below_drewN ?_ _) | (with_reducible refine below_bytes ?_ ?_ _) | (with_reducible refine Below.alloc ?_ ?_ _) | (with_reducible refine Below.drew ?_) | (with_reducible refine Below.setCell ?_ ?_ _) | go_size))).mono ?_
        rintro e w5 ⟨rfl, hb5⟩
        go_wp2_with fail
        refine hK.out _ _ ?_ (fun hHeld => ?_)
        · exact ⟨(hb5.cell pl).trans p0, (hb5.cell pl).trans p1, (hb5.cell pl).trans p2, (hb5.cell pl).trans p3⟩
        clear hK K
        try simp only [Act.put, List.getElem_toArray, List.getElem_cons_zero, List.getElem_cons_succ, List.setIfInBounds_toArray, List.set_cons_zero, List.set_cons_succ]
        refine wpAnyH_ready (rs := [4]) (by kernel_rfl) (by simp) ?_
        refine AllReadyH.cons rfl (fun K hK => ?_) AllReadyH.nil
        go_simp
        go_at_call 14
        refine (CW6.out _ hb5).mono ?_
        rintro e w6 ⟨⟨a6, c6, rfl, hx6⟩, hb6⟩
        have HX6 := Lib.hid hx6
        clear hx6
        go_wp2_with fail
        refine hK.out _ _ ?_ (fun hHeld => ?_)
        · exact ⟨(hb6.cell pl).trans p0, (hb6.cell pl).trans p1, (hb6.cell pl).trans p2, (hb6.cell pl).trans p3⟩
        clear hK K
        try simp only [Act.put, List.getElem_toArray, List.getElem_cons_zero, List.getElem_cons_succ, List.setIfInBounds_toArray, List.set_cons_zero, List.set_cons_succ]
        refine wpAnyH_ready (rs := [5]) (by kernel_rfl) (by simp) ?_
        refine AllReadyH.cons rfl (fun K hK => ?_) AllReadyH.nil
        go_simp
        go_at_call 13
        refine (CRd.out _ _ HX6.out _ (Below.refl _ _)).mono ?_
        rintro e w7 ⟨rfl, rfl⟩
        go_wp2_with fail
        refine hK.out _ _ ?_ (fun hHeld => ?_)
        · exact ⟨(hb6.cell pl).trans p0, (hb6.cell pl).trans p1, (hb6.cell pl).trans p2, (hb6.cell pl).trans p3⟩
        clear hK K
        try simp only [Act.put, List.getElem_toArray, List.getElem_cons_zero, List.getElem_cons_succ, List.setIfInBounds_toArray, List.set_cons_zero, List.set_cons_succ]
        refine tkH 6 ?_ rfl (by kernel_rfl) (by assumption) (fun _ _ _ h => h) ?_ ?_
        rotate_left
        · (intro w g; (try dsimp only at g); go_simp; try with_reducible rfl)
        refine tkH 7 ?_ rfl (by kernel_rfl) (by assumption) (fun _ _ _ h => h) ?_ ?_
        rotate_left
        · (intro w g; (try dsimp only at g); go_simp; try with_reducible rfl)
        refine tkH 8 ?_ rfl (by kernel_rfl) (by assumption) (fun _ _ _ h => h) ?_ ?_
        rotate_left
        · (intro w g; (try dsimp only at g); go_simp; try with_reducible rfl)
        refine tkH 10 ?_ rfl (by kernel_rfl) (by assumption) (fun _ _ _ h => h) ?_ ?_
        rotate_left
        · (intro w g; (try dsimp only at g); go_simp; try with_reducible rfl)
        refine tkH 11 ?_ rfl (by kernel_rfl) (by assumption) (fun _ _ _ h => h) ?_ ?_
        rotate_left
        · (intro w g; (try dsimp only at g); go_simp; try with_reducible rfl)
        refine tkH 12 ?_ rfl (by kernel_rfl) (by assumption) (fun _ _ _ h => h) ?_ ?_
        rotate_left
        · (intro w g; (try dsimp only at g); go_simp; try with_reducible rfl)
        refine tkH 13 ?_ rfl (by kernel_rfl) (by assumption) (fun _ _ _ h => h) ?_ ?_
        rotate_left
        · (intro w g; (try dsimp only at g); go_simp; try with_reducible rfl)
        try simp only [Act.put, List.getElem_toArray, List.getElem_cons_zero, List.getElem_cons_succ, List.setIfInBounds_toArray, List.set_cons_zero, List.set_cons_succ]
        refine wpAnyH_ready (rs := [9]) (by kernel_rfl) (by simp) ?_
        refine AllReadyH.cons rfl (fun K hK => ?_) AllReadyH.nil
        go_simp
        go_at_call 15
        refine (CL6.out _ hb6).mono ?_
        rintro e w8 ⟨rfl, hb8⟩
        go_wp2_with fail
        refine hK.out _ _ ?_ (fun hHeld => ?_)
        · exact ⟨(hb8.cell pl).trans p0, (hb8.cell pl).trans p1, (hb8.cell pl).trans p2, (hb8.cell pl).trans p3⟩
        clear hK K
        try simp only [Act.put, List.getElem_toArray, List.getElem_cons_zero, List.getElem_cons_succ, List.setIfInBounds_toArray, List.set_cons_zero, List.set_cons_succ]
        refine tkH 14 ?_ rfl (by kernel_rfl) (by assumption) (fun _ _ _ h => h) ?_ ?_
        rotate_left
        · (intro w g; (try dsimp only at g); go_simp; try with_reducible rfl)
        refine tkH 15 ?_ rfl (by kernel_rfl) (by assumption) (fun _ _ _ h => h) ?_ ?_
        rotate_left
        · (intro w g; (try dsimp only at g); go_simp; try with_reducible rfl)
        refine tkH 16 ?_ rfl (by kernel_rfl) (by assumption) (fun _ _ _ h => h) ?_ ?_
        rotate_left
        · (intro w g; (try dsimp only at g); go_simp; try with_reducible rfl)
        refine tkH 17 ?_ rfl (by kernel_rfl) (by assumption) (fun _ _ _ h => h) ?_ ?_
        rotate_left
        · (intro w g; (try dsimp only at g); go_simp; try with_reducible rfl)
        refine tkH 18 ?_ rfl (by kernel_rfl) (by assumption) (fun _ _ _ h => h) ?_ ?_
        rotate_left
        · (intro w g; (try dsimp only at g); go_simp; try with_reducible rfl)
        refine tkH 19 ?_ rfl (by kernel_rfl) (by assumption) (fun _ _ _ h => h) ?_ ?_
        rotate_left
        · (intro w g; (try dsimp only at g); go_simp; try with_reducible rfl)
        try simp only [Act.put, List.getElem_toArray, List.getElem_cons_zero, List.getElem_cons_succ, List.setIfInBounds_toArray, List.set_cons_zero, List.set_cons_succ]
        refine skH 20 rfl (by kernel_rfl) (by assumption) (fun _ _ _ h => h) ?_
        refine skH 21 rfl (by kernel_rfl) (by assumption) (fun _ _ _ h => h) ?_
        refine skH 22 rfl (by kernel_rfl) (by assumption) (fun _ _ _ h => h) ?_
        refine skH 23 rfl (by kernel_rfl) (by assumption) (fun _ _ _ h => h) ?_
        refine skH 24 rfl (by kernel_rfl) (by assumption) (fun _ _ _ h => h) ?_
        refine skH 25 rfl (by kernel_rfl) (by assumption) (fun _ _ _ h => h) ?_
        try simp only [Act.put, List.getElem_toArray, List.getElem_cons_zero, List.getElem_cons_succ, List.setIfInBounds_toArray, List.set_cons_zero, List.set_cons_succ]
        refine tkH 26 ?_ rfl (by kernel_rfl) (by assumption) (fun _ _ _ h => h) ?_ ?_
        rotate_left
        · (intro w g; (try dsimp only at g); go_simp; try with_reducible rfl)
        refine tkH 27 ?_ rfl (by kernel_rfl) (by assumption) (fun _ _ _ h => h) ?_ ?_
        rotate_left
        · (intro w g; (try dsimp only at g); go_simp; try with_reducible rfl)
        refine tkH 28 ?_ rfl (by kernel_rfl) (by assumption) (fun _ _ _ h => h) ?_ ?_
        rotate_left
        · (intro w g; (try dsimp only at g); go_simp; try with_reducible rfl)
        refine tkH 29 ?_ rfl (by kernel_rfl) (by assumption) (fun _ _ _ h => h) ?_ ?_
        rotate_left
        · (intro w g; (try dsimp only at g); go_simp; try with_reducible rfl)
        refine tkH 30 ?_ rfl (by kernel_rfl) (by assumption) (fun _ _ _ h => h) ?_ ?_
        rotate_left
        · (intro w g; (try dsimp only at g); go_simp; try with_reducible rfl)
        try simp only [Act.put, List.getElem_toArray, List.getElem_cons_zero, List.getElem_cons_succ, List.setIfInBounds_toArray, List.set_cons_zero, List.set_cons_succ]
        refine wpAnyH_done (by kernel_rfl) ?_ _
        have hBE : Below w.heap.size w w8 := hB4.trans (hb8.mono hB4z)
        clear hHeld
        go_wp2_with fail
        go_ret
        exact ⟨ret_bool rfl, (by repeat' (first | (with_reducible assumption) | (with_reducible exact Below.refl _ _) | (with_reducible refine below_drewN ?_ _) | (with_reducible refine below_bytes ?_ ?_ _) | (with_reducible refine Below.alloc ?_ ?_ _) | (with_reducible refine Below.drew ?_) | (with_reducible refine Below.setCell ?_ ?_ _) | go_size))⟩
end Go.Proofs.YtnackmnoldkihaaGreatDoor
/-
  A redirection that came in, by value.
-/
namespace Go.Proofs.YtnackmnoldkihaaGreatDoor
open Go.ChangeShapes Go.WideShapes Go.ChangeAt Go.RowKit Go.Deep

set_option maxRecDepth 100000 in
theorem open_redir {H : Type} {enc : TypeId × Value → H} {W : World} {v : Value} {d : DataW H} {p : List MemPlace} {r : Reach} {base : Nat} (hok : Value.okWide Tryz.prog W r base 31 v) (h : DataW.Trod enc Tryz.prog W 0 (fun _ => true) true 31 v d p) (hlt : ∀ x ∈ p, x.block < W.heap.size) (hb : Rows.uptoBulk d ≤ bigN) :
 ∃ n c r, v = .agg (List.toArray c) ∧ RdC W W.heap.size n r c := by
 obtain ⟨cs, rfl, hsz⟩ := okWide_struct Tryz.underlying31 hok
 obtain ⟨fuel, hf⟩ := h
 have hcs : (Value.agg cs).cells.toList = cs.toList := by simp [Value.cells]
 rw [hcs] at hf
 have hcl : cs.toList.length = 4 := by
  rw [Array.length_toList, hsz]; kernel_rfl
 obtain ⟨n, hn⟩ : ∃ n, Rows.uptoBulk d = n := ⟨_, rfl⟩
 have hP := (scripts_in (enc := enc) (W := W) (B := W.heap.size) n (by omega)).1
 obtain ⟨l, hl⟩ : ∃ l, cs.toList = l := ⟨_, rfl⟩
 rw [hl] at hf hcl
 obtain ⟨ys, k, hx, hyl, hf⟩ := struct_cells Tryz.underlying31 (by kernel_rfl) hf hcl
 obtain ⟨u0, y0, hu0, hy0, t0⟩ := hf 0 _ rfl
 obtain ⟨u1, y1, hu1, hy1, t1⟩ := hf 1 _ rfl
 obtain ⟨u2, y2, hu2, hy2, t2⟩ := hf 2 _ rfl
 obtain ⟨u3, y3, hu3, hy3, t3⟩ := hf 3 _ rfl
 match l, hcl, ys, hyl with
 | [_, _, _, _], _, [_, _, _, _], _ =>
  cases hu0; cases hu1; cases hu2; cases hu3; cases hy0; cases hy1; cases hy2; cases hy3
  obtain ⟨i0, e0, _⟩ := DataW.trod_int Tryz.underlying3 t0
  obtain ⟨s1, e1, e1', _⟩ := DataW.trod_string Tryz.underlying9 t1
  obtain ⟨s2, e2, e2', _⟩ := DataW.trod_string Tryz.underlying9 t2
  subst e1' e2'
  simp only [List.cons.injEq, and_true] at e0 e1 e2
  subst e0 e1 e2
  have b0 := bulk_one y0.1
  simp only [Prod.mk.injEq] at hx
  obtain ⟨rfl, rfl⟩ := hx
  simp only [Rows.uptoBulk, bulk_all, List.map_cons, List.map_nil, List.sum_cons, List.sum_nil] at hb hn
  obtain ⟨v, l, e, h1, h2⟩ := hP _ _ y3 t3 (fun p hp => hlt p (by simp [hp])) (by omega)
  cases e
  rw [show s1.data.toList.length = s1.size from rfl, show s2.data.toList.length = s2.size from rfl] at hb
  have hs : (l.map fun p => p.text.size).sum ≤ bigN := by
   cases n with
   | zero => omega
   | succ n => have := text_sum n l; omega
  exact ⟨n, _, ⟨i0, s1, s2, l⟩, by rw [← hl], by show s1.size ≤ bigN; omega, by show s2.size ≤ bigN; omega, hs, _, rfl, h1⟩
end Go.Proofs.YtnackmnoldkihaaGreatDoor
namespace Go.Proofs.YtnackmnoldkihaaGreatDoor
open Go.ChangeShapes Go.WideShapes Go.ChangeAt Go.RowKit

set_option maxRecDepth 100000 in
theorem astDocs_reads (os : Os) {H : Type} (enc : TypeId × Value → H) : ∃ places, DataW.whole enc Tryz.prog ((World.laidAll Tryz.prog os Rows.astDocsUptoRow.laid).forCall (fun _ _ => 0) ⟨#[], #[.agg #[.int .i64 0, .string ⟨#[]⟩, .string ⟨#[]⟩, .slice none 0 0]], []⟩).memory Tryz.f4.params.toList Rows.astDocsSpec.vars false (#[.agg #[.int .i64 0, .string ⟨#[]⟩, .string ⟨#[]⟩, .slice none 0 0]] : Array Value).toList 8 = some ([.agg [.lit (.int .i64 0), .lit (.string []), .lit (.string []), .nil]], [], places) :=
 ⟨[], by kernel_rfl⟩
set_option maxRecDepth 100000 in
theorem astDocs_lifted (os : Os) (started : os.Started) (H : Type) (enc : TypeId × Value → H) (F : Stop.Interp) :
 ReturnsInHanded {} Tryz.checked os 4 .any ((Rows.OpenSpec.upto Rows.astDocsSpec).preRow enc Tryz.prog Tryz.f4 Rows.astDocsUptoRow.domain false Rows.astDocsUptoRow.laid) (((Rows.OpenSpec.upto Rows.astDocsSpec).at F).post enc Tryz.prog Tryz.f4 false true false false) := by
 obtain ⟨places, hx⟩ := astDocs_reads os enc
 refine returnsInHanded_of_row (C := Tryz.checked) (s := Rows.OpenSpec.upto Rows.astDocsSpec) Tryz.own started (by kernel_rfl) Tryz.func4
  (witness_row_shaped (enc := enc) (C := Tryz.checked) (os := os) false (World.laidAll Tryz.prog os Rows.astDocsUptoRow.laid) #[.agg #[.int .i64 0, .string ⟨#[]⟩, .string ⟨#[]⟩, .slice none 0 0]] (World.laidAll_os _ _ _) (World.shaped_of_ZipB (by kernel_rfl) (by kernel_rfl)) (by kernel_rfl)
   (OpenSpec.preRow_of_cond 8 hx (by kernel_rfl) (fun k hk => by cases hk; kernel_rfl) (by kernel_rfl) (by rw [MakeChecks.laidMetH_plain _ _ _ (by kernel_rfl)]; exact laidMet_laidAll _ (by kernel_rfl) (by kernel_rfl)))) ?_
 intro W base args ds gs before hval0 hW _ hcond _ hL hsh _
 have hval : ∀ (j : Nat) t v, Tryz.f4.params[j]? = some t → args[j]? = some v → Value.okWide Tryz.prog W .any base t v := hval0
 have hW' := hW
 obtain ⟨p, q, hA0, hV, rfl, _, _⟩ := hW
 have hA : DataW.TrodAll enc Tryz.prog W 0 (fun _ => true) true Tryz.f4.params.toList args.toList ds p := hA0
 have hAk := hA
 obtain ⟨rfl, rfl⟩ := trodVars_none hV
 simp only [List.append_nil] at hW'
 have hlt : ∀ x ∈ p, x.block < W.heap.size := fun x hx => by simpa using hW'.lt x hx
 rw [Tryz.params4] at hA hval
 obtain ⟨v0, vs0, d0, ds0, p0, q0, hargs, rfl, rfl, h0, r0⟩ := trodAll_cons hA
 obtain ⟨rfl, rfl, rfl⟩ := trodAll_nil r0
 obtain rfl : args = #[v0] := by cases args; simp_all
 have hbk := of_decide_eq_true (hcond _ rfl)
 simp only [Rows.uptoBulkAll, List.append_nil, List.nil_append, List.cons_append, Nat.add_zero] at hbk
 obtain ⟨dp0, c0, r0', rfl, hR0⟩ := open_redir (hval 0 31 v0 rfl rfl) h0 (fun x hx => hlt x (by simp [hx])) (by unfold bigN; omega)
 clear hA0 hval0
 refine (docs_law r0' W dp0 c0 (held_of_shape hsh) hR0).mono fun e W' ⟨he, hb⟩ => ?_
 subst he
 exact ⟨_, rfl, law_post rfl rfl rfl (by kernel_rfl) hW' hAk hb⟩

theorem astDocs_row : Rows.AstDocsUptoSaid :=
 OpenClaim.holds_of_cond 4 Tryz.f4 rfl rfl rfl rfl rfl rfl rfl ⟨rfl, rfl, rfl, rfl, rfl⟩ rfl rfl rfl rfl rfl (by kernel_rfl) Tryz.func4 (by kernel_rfl)
  (of_decide_eq_true (by kernel_rfl)) (by unfold Func.isWrapper; first | (rw [if_pos (by decide +kernel)]; kernel_rfl) | (rw [if_neg (by decide +kernel)]; exact ⟨rfl, rfl⟩))
  (fun os started H enc _ F => by rw [OpenClaim.pre_eq_preRow]; exact astDocs_lifted os started H enc F)

theorem astDocs_holds : Rows.AstDocsUptoCardSaid :=
 Claim7.holds_tied_plain_at .later [] _ _ _ _ astDocs_row (fun _ h => by cases h) (by kernel_rfl) (fun _ h => by cases h) astDocsUpto_row_tie rfl ⟨rfl, rfl⟩ (by kernel_rfl) rfl
  (fun f fn hf hfn => by
   obtain rfl : f = 4 := Option.some.inj ((show Tryz.prog.funcNamed "seabag/seabaglaw14.AstDocs" = some 4 by kernel_rfl).symm.trans hf) |>.symm
   obtain rfl : fn = Tryz.f4 := (Option.some.inj (Tryz.func4.symm.trans hfn)).symm
   exact ⟨by kernel_rfl, fun j t ht => by
    rw [Tryz.params4] at ht
    have hm : t ∈ [31] := by simpa using Array.mem_of_getElem? ht
    have hall : ([31].all fun u => !Tryz.prog.wantsStandIn u) = true := by kernel_rfl
    exact (show Tryz.prog.wantsStandIn t = false by simpa using List.all_eq_true.1 hall t hm)⟩)
  (by kernel_rfl)

#print axioms astDocs_holds
end Go.Proofs.YtnackmnoldkihaaGreatDoor
