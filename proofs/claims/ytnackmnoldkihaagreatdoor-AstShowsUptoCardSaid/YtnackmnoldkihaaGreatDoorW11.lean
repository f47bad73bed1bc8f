/-
  The walk of arms.
-/
import Derived.Test.YtnackmnoldkihaaGreatDoorW10
import Derived.Test.YtnackmnoldkihaaGreatDoorW8
set_option linter.unusedVariables false
set_option linter.unusedSimpArgs false
/-
  The walks of alone and joined.
-/
namespace Go.Proofs.YtnackmnoldkihaaGreatDoor
open Go.RowKit

/-- So far each list is one command that may be there. -/
def soleTo (may : Nat → Int → Bool) (l : List (List Nd)) (k : Nat) : Prop := soleB may 0 l = soleB may k (l.drop k)
def soleOne (may : Nat → Int → Bool) (k : Nat) (y : List Nd) : Bool := match y with | [x] => may k x.kind | _ => false
theorem soleB_cons (may : Nat → Int → Bool) (i : Nat) (y : List Nd) (r : List (List Nd)) : soleB may i (y :: r) = (soleOne may i y && soleB may (i + 1) r) := rfl
theorem soleTo_step {may : Nat → Int → Bool} {l : List (List Nd)} {k : Nat} {y : List Nd} (h : soleTo may l k) (hy : l[k]? = some y) (hf : soleOne may k y = true) : soleTo may l (k + 1) := by
 obtain ⟨hk, hy'⟩ := List.getElem?_eq_some_iff.1 hy
 rw [soleTo, h, List.drop_eq_getElem_cons hk, hy', soleB_cons, hf, Bool.true_and]
theorem soleTo_no {may : Nat → Int → Bool} {l : List (List Nd)} {k : Nat} {y : List Nd} (h : soleTo may l k) (hy : l[k]? = some y) (hf : soleOne may k y = false) : soleB may 0 l = false := by
 obtain ⟨hk, hy'⟩ := List.getElem?_eq_some_iff.1 hy
 rw [h, List.drop_eq_getElem_cons hk, hy', soleB_cons, hf, Bool.false_and]
theorem soleTo_end {may : Nat → Int → Bool} {l : List (List Nd)} {k : Nat} (h : soleTo may l k) (hk : l.length ≤ k) : soleB may 0 l = true := by
 rw [h, List.drop_of_length_le hk]; rfl
theorem soleOne_len {may : Nat → Int → Bool} {k : Nat} {y : List Nd} (h : y.length ≠ 1) : soleOne may k y = false := by
 match y, h with
 | [], _ => rfl
 | [_], h => exact absurd rfl h
 | _ :: _ :: _, _ => rfl
/-- The first command. -/
theorem NdsIn.first {w : World} {B d : Nat} {l : List Nd} {v : Value} (h : NdsIn w B d l v) (h0 : 0 < l.length) : ∃ x b o, (∃ r, l = x :: r) ∧ (∀ w' : World, (Instr.indexAt 22 v (.int .i64 0)).run Tryz.prog w' = .ok (.pointer (some ⟨b, o, none⟩)) w') ∧ b < B ∧
 w.cell? ⟨b, o, none⟩ = some (.int .i64 x.kind) := by
 obtain ⟨d, h⟩ := h.up
 cases l with
 | nil => simp at h0
 | cons x r =>
   obtain ⟨b, o, c, hi, hb, hc, hC, _⟩ := h.at 22 38 Tryz.underlying22 (by kernel_rfl) (k := 0) (x := x) rfl
   obtain ⟨h1, av, wv, rv, lv, mv, rfl, _⟩ := hC
   exact ⟨x, b, o, ⟨r, rfl⟩, fun w' => hi w', hb, hc 0 _ rfl⟩

set_option maxHeartbeats 1000000 in
set_option maxRecDepth 100000 in
theorem alone_any (F : Nat) (hen : ∀ (args : Array Value) (W : World), (callFunc F args).run Tryz.prog W = .ok (Next.enter F args) W) (may : Nat → Int → Bool) (hmay : ∀ (i : Nat) (k : Int) (W : World), Calls Tryz.prog F #[.int .i64 (i : Int), .int .i64 k] W fun e w' => e = .returned (.bool (may i k)) ∧ W = w')
 (ls : List Nd → Bool) (m : Int) (hls : ListAt m ls) (x : Nd) (count : Nat) (hct : count ≤ 2000000) (w : World) (d : Nat) (c : List Value) (hv : Held w) (hp : NdC w w.heap.size d x c) :
 Calls Tryz.prog 92 #[.agg #[.int .i64 m], .agg c.toArray, .int .i64 (count : Int), .func (.func F) #[] #[]] w fun e w' => e = .returned (.bool (aloneB ls x count may)) ∧ Below w.heap.size w w' := by
 have HP := Lib.hid hp
 obtain ⟨a1, c1, a2, c2, a3, c3, a4, c4, a5, c5, rfl, hxz, ⟨hn1, hn2, hn3, hn4, hn5⟩, _, _, _, hLs, _⟩ := hp.open
 clear hp
 obtain ⟨n1, hl1⟩ : ∃ n, x.assigns.length = n := ⟨_, rfl⟩
 obtain ⟨n2, hl2⟩ : ∃ n, x.words.length = n := ⟨_, rfl⟩
 obtain ⟨n3, hl3⟩ : ∃ n, x.redirs.length = n := ⟨_, rfl⟩
 obtain ⟨n, hl4⟩ : ∃ n, x.lists.length = n := ⟨_, rfl⟩
 obtain ⟨n5, hl5⟩ : ∃ n, x.arms.length = n := ⟨_, rfl⟩
 rw [hl4] at hn4 hLs
 rw [hl1, hl2, hl3, hl4, hl5] at HP ⊢
 have HL := Lib.hid hLs
 have HN := Lib.hid hl4
 have HV := Lib.hid hv
 have HMAY := Lib.hid hmay
 have CL : Hid (∀ W, Below w.heap.size w W → Calls Tryz.prog 96 #[.agg #[.int .i64 m], .agg #[.int .i64 x.kind, .string x.name, .slice a1 n1 c1, .slice a2 n2 c2, .slice a3 n3 c3, .slice a4 n c4, .slice a5 n5 c5], .int .i64 (n : Int)] W fun e w' => e = .returned (.bool (listsB ls x n)) ∧ Below W.heap.size W w') :=
  Lib.hid fun W hW => lists_any ls m hls x n (by omega) W d _ (HV.out.below HV.out.2 hW) (HP.out.later hW)
 have HR : Hid (aloneB ls x count may = (decide (count ≤ n) && (listsB ls x n && soleB may 0 x.lists))) := Lib.hid (by rw [aloneB, listsB, hl4, decide_eq_true rfl, Bool.true_and])
 obtain ⟨r, hr⟩ : ∃ r, aloneB ls x count may = r := ⟨_, rfl⟩
 obtain ⟨lb, hlb⟩ : ∃ r, listsB ls x n = r := ⟨_, rfl⟩
 rw [hr] at HR ⊢
 rw [hlb] at HR CL
 have BX := Lib.hid (Bx.start w 67 #[.int .i64 m] 38 #[.int .i64 x.kind, .string x.name, .slice a1 n1 c1, .slice a2 n2 c2, .slice a3 n3 c3, .slice a4 n c4, .slice a5 n5 c5])
 clear hl1 hl2 hl3 hl4 hl5 hLs hv hls hr hlb hmay
 by_cases hnc : n < count
 · have HE : Hid (r = false) := Lib.hid (by rw [HR.out, decide_eq_false (by omega)]; rfl)
   have e1 : decide (n < count) = true := by simp; omega
   go_enter Tryz.func92, Tryz.ntmps92
   go_wp2_with fail
   go_ret
   exact ⟨ret_bool HE.out.symm, bg⟩
 · have e1 : decide (n < count) = false := by simp; omega
   rw [decide_eq_true (by omega), Bool.true_and] at HR
   clear hnc
   go_enter Tryz.func92, Tryz.ntmps92
   go_wp2_with fail
   refine (CL.out _ bg).mono ?_
   rintro e w1 ⟨rfl, hb0⟩
   obtain ⟨hcw1, hfw1⟩ := bcell hb0
   have hzw1 := hb0.size
   try simp only [World.size_alloc, World.size_setCell, World.size_drew, size_drewN] at hzw1
   have hBw1 : Below w.heap.size w w1 := since hb0 bg
   have BXw1 := Lib.hid (Bx.later BX.out (since hb0 bg))
   clear hb0
   have K0BXw1 := Lib.hid BXw1.out.b0
   have K1BXw1 := Lib.hid BXw1.out.b1
   have hBBXw1 := BXw1.out.hb
   obtain ⟨b0, bf, bl⟩ := K0BXw1.out.box1
   obtain ⟨p0, p1, p2, p3, p4, p5, p6, pl⟩ := K1BXw1.out.box7
   cases lb with
   | false =>
     have HE : Hid (r = false) := Lib.hid (by rw [HR.out]; rfl)
     go_wp2_with fail
     go_ret
     exact ⟨ret_bool HE.out.symm, bg⟩
   | true =>
     rw [Bool.true_and] at HR
     go_wp2_with fail
     go_loopw [28] (fun i W => ∃ k : Nat, k ≤ n ∧ i = .int .i64 k ∧ soleTo may x.lists k ∧ Below w.heap.size w W) (fun i _ => n - (intOf i).toNat)
     case atStart => exact ⟨0, Nat.zero_le _, rfl, rfl, hBBXw1⟩
     case round =>
      obtain ⟨k, hk, rfl, hto, hB⟩ := hrel
      have HTO := Lib.hid hto
      clear hto b0 bf bl p0 p1 p2 p3 p4 p5 p6 pl
      by_cases hlt : k < n
      · obtain ⟨y, hy⟩ : ∃ y, x.lists[k]? = .some y := ⟨_, List.getElem?_eq_getElem (by rw [HN.out]; exact hlt)⟩
        obtain ⟨b, o, c, hi, hbB, hce, ⟨yv, rfl, hyp⟩, _⟩ := HL.out.at 35 22 Tryz.underlying35 (by kernel_rfl) hy
        have HY := Lib.hid hy
        obtain ⟨a6, c6, rfl, hyz⟩ := hyp.shape
        unfold bigN at hyz
        obtain ⟨ny, hny⟩ : ∃ n, y.length = n := ⟨_, rfl⟩
        have e0 := (hB.cell hbB).trans (hce 0 _ rfl)
        have hbB' := Nat.lt_of_lt_of_le hbB hB.size
        rw [Nat.add_zero] at e0
        rw [hny] at e0 hyz hyp
        by_cases h1 : ny = 1
        · subst h1
          obtain ⟨z, b2, o2, ⟨zr, hz⟩, hi2, hbB2, g0⟩ := hyp.first (by rw [hny]; omega)
          have hz2 : y = [z] := by rw [hz] at hny ⊢; simp at hny; rw [hny]
          have CM := Lib.hid (HMAY.out k z.kind)
          have HS : Hid (soleOne may k y = may k z.kind) := Lib.hid (by rw [hz2]; rfl)
          have g0' := (hB.cell (p := ⟨b2, o2, none⟩) hbB2).trans g0
          have hbB2' := Nat.lt_of_lt_of_le hbB2 hB.size
          obtain ⟨zk, hzk⟩ : ∃ k, z.kind = k := ⟨_, rfl⟩
          rw [hzk] at CM HS g0'
          obtain ⟨rr, hrr⟩ : ∃ r, may k zk = r := ⟨_, rfl⟩
          rw [hrr] at CM HS
          clear hy hce hyp hny hz hz2 g0 hzk hrr
          cases rr with
          | false =>
            have HE : Hid (r = false) := Lib.hid (by rw [HR.out, soleTo_no HTO.out HY.out HS.out])
            go_wp2_with fail
            refine (CM.out _).mono ?_
            rintro e w2 ⟨rfl, rfl⟩
            go_wp2_with fail
            go_ret
            exact ⟨ret_bool HE.out.symm, bg⟩
          | true =>
            go_wp2_with fail
            refine (CM.out _).mono ?_
            rintro e w2 ⟨rfl, rfl⟩
            go_wp2_with fail
            go_roundw
            case rel => exact ⟨k + 1, by omega, by go_num, soleTo_step HTO.out HY.out HS.out, hB⟩
            case measure => simp [intOf]; omega
        · have HE : Hid (r = false) := Lib.hid (by rw [HR.out, soleTo_no HTO.out HY.out (soleOne_len (by rw [hny]; exact h1))])
          have e2 : ((ny : Int) != 1) = true := by rw [bne_iff_ne]; omega
          clear hy hce hyp hny
          go_wp2_with fail
          go_ret
          exact ⟨ret_bool HE.out.symm, bg⟩
      · have HE : Hid (r = true) := Lib.hid (by rw [HR.out, soleTo_end HTO.out (by rw [HN.out]; omega)])
        go_wp2_with fail
        go_ret
        exact ⟨ret_bool HE.out.symm, bg⟩

theorem and_eq (i : Nat) (k : Int) : mayAnd i k = ((i : Int) == 0 || (k != 3 && k != 4)) := by
 rw [mayAnd]; congr 1; rw [Bool.eq_iff_iff]; simp

set_option maxHeartbeats 1000000 in
set_option maxRecDepth 100000 in
theorem joined_any (ls : List Nd → Bool) (m : Int) (hls : ListAt m ls) (x : Nd) (w : World) (d : Nat) (c : List Value) (hv : Held w) (hp : NdC w w.heap.size d x c) :
 Calls Tryz.prog 69 #[.agg #[.int .i64 m], .agg c.toArray] w fun e w' => e = .returned (.bool (joinedB ls x)) ∧ Below w.heap.size w w' := by
 have HP := Lib.hid hp
 obtain ⟨a1, c1, a2, c2, a3, c3, a4, c4, a5, c5, rfl, hxz, ⟨hn1, hn2, hn3, hn4, hn5⟩, _⟩ := hp.open
 obtain ⟨n1, hl1⟩ : ∃ n, x.assigns.length = n := ⟨_, rfl⟩
 obtain ⟨n2, hl2⟩ : ∃ n, x.words.length = n := ⟨_, rfl⟩
 obtain ⟨n3, hl3⟩ : ∃ n, x.redirs.length = n := ⟨_, rfl⟩
 obtain ⟨n, hl4⟩ : ∃ n, x.lists.length = n := ⟨_, rfl⟩
 obtain ⟨n5, hl5⟩ : ∃ n, x.arms.length = n := ⟨_, rfl⟩
 rw [hl4] at hn4
 rw [hl3] at hn3
 rw [hl1, hl2, hl3, hl4, hl5] at HP ⊢
 have CB := Lib.hid fun W hW => bare_nd x W d _ (HP.out.later (w' := W) hW)
 have C1 : Hid (∀ W, Below w.heap.size w W → Calls Tryz.prog 92 #[.agg #[.int .i64 m], .agg #[.int .i64 x.kind, .string x.name, .slice a1 n1 c1, .slice a2 n2 c2, .slice a3 n3 c3, .slice a4 n c4, .slice a5 n5 c5], .int .i64 2, .func (.func 93) #[] #[]] W fun e w' => e = .returned (.bool (aloneB ls x 2 mayPipe)) ∧ Below W.heap.size W w') :=
  Lib.hid fun W hW => alone_any _ (fun _ _ => by kernel_rfl) mayPipe (fun i k W => may_pipe i k W) ls m hls x 2 (by omega) W d _ (hv.below hv.2 hW) (HP.out.later hW)
 have C2 : Hid (∀ W, Below w.heap.size w W → Calls Tryz.prog 92 #[.agg #[.int .i64 m], .agg #[.int .i64 x.kind, .string x.name, .slice a1 n1 c1, .slice a2 n2 c2, .slice a3 n3 c3, .slice a4 n c4, .slice a5 n5 c5], .int .i64 1, .func (.func 94) #[] #[]] W fun e w' => e = .returned (.bool (aloneB ls x 1 mayNot)) ∧ Below W.heap.size W w') :=
  Lib.hid fun W hW => alone_any _ (fun _ _ => by kernel_rfl) mayNot (fun i k W => may_not i k W) ls m hls x 1 (by omega) W d _ (hv.below hv.2 hW) (HP.out.later hW)
 have C3 : Hid (∀ W, Below w.heap.size w W → Calls Tryz.prog 92 #[.agg #[.int .i64 m], .agg #[.int .i64 x.kind, .string x.name, .slice a1 n1 c1, .slice a2 n2 c2, .slice a3 n3 c3, .slice a4 n c4, .slice a5 n5 c5], .int .i64 2, .func (.func 95) #[] #[]] W fun e w' => e = .returned (.bool (aloneB ls x 2 mayAnd)) ∧ Below W.heap.size W w') :=
  Lib.hid fun W hW => alone_any _ (fun _ _ => by kernel_rfl) mayAnd (fun i k W => by rw [and_eq]; exact may_and i k W) ls m hls x 2 (by omega) W d _ (hv.below hv.2 hW) (HP.out.later hW)
 have BX := Lib.hid (Bx.start w 67 #[.int .i64 m] 38 #[.int .i64 x.kind, .string x.name, .slice a1 n1 c1, .slice a2 n2 c2, .slice a3 n3 c3, .slice a4 n c4, .slice a5 n5 c5])
 have HR : Hid (joinedB ls x = ((bareN x && decide (n3 = 0)) && (bif x.kind == 2 then aloneB ls x 2 mayPipe else bif x.kind == 5 then (decide (n = 1) && aloneB ls x 1 mayNot) else (decide (n = 2) && aloneB ls x 2 mayAnd)))) := Lib.hid (by rw [joinedB, nil_of hl3, hl4])
 obtain ⟨r, hr⟩ : ∃ r, joinedB ls x = r := ⟨_, rfl⟩
 obtain ⟨bb, hbb⟩ : ∃ b, bareN x = b := ⟨_, rfl⟩
 obtain ⟨r1, h1⟩ : ∃ r, aloneB ls x 2 mayPipe = r := ⟨_, rfl⟩
 obtain ⟨r2, h2⟩ : ∃ r, aloneB ls x 1 mayNot = r := ⟨_, rfl⟩
 obtain ⟨r3, h3⟩ : ∃ r, aloneB ls x 2 mayAnd = r := ⟨_, rfl⟩
 rw [hr] at HR ⊢
 rw [hbb] at CB HR
 rw [h1] at C1 HR
 rw [h2] at C2 HR
 rw [h3] at C3 HR
 clear hp hbb hr h1 h2 h3 hl1 hl2 hl3 hl4 hl5
 go_enter Tryz.func69, Tryz.ntmps69
 go_wp2_with fail
 refine (CB.out _ bg).mono ?_
 rintro e w1 ⟨rfl, hb0⟩
 obtain ⟨hcw1, hfw1⟩ := bcell hb0
 have hzw1 := hb0.size
 try simp only [World.size_alloc, World.size_setCell, World.size_drew, size_drewN] at hzw1
 have hBw1 : Below w.heap.size w w1 := since hb0 bg
 have BXw1 := Lib.hid (Bx.later BX.out (since hb0 bg))
 clear hb0
 have K0BXw1 := Lib.hid BXw1.out.b0
 have K1BXw1 := Lib.hid BXw1.out.b1
 have hBBXw1 := BXw1.out.hb
 obtain ⟨b0, bf, bl⟩ := K0BXw1.out.box1
 obtain ⟨p0, p1, p2, p3, p4, p5, p6, pl⟩ := K1BXw1.out.box7
 cases bb with
 | false =>
   have HE : Hid (r = false) := Lib.hid (by rw [HR.out]; rfl)
   go_wp2_with fail
   go_ret
   exact ⟨ret_bool HE.out.symm, bg⟩
 | true =>
   rw [Bool.true_and] at HR
   rcases Nat.eq_zero_or_pos n3 with h0 | h0
   · subst h0
     rw [decide_eq_true rfl, Bool.true_and] at HR
     cases hk2 : (x.kind == 2) with
     | true =>
       have HE : Hid (r = r1) := Lib.hid (by rw [HR.out, hk2]; rfl)
       go_wp2_with fail
       refine (C1.out _ bg).mono ?_
       rintro e w2 ⟨rfl, hb0⟩
       obtain ⟨hcw2, hfw2⟩ := bcell hb0
       have hzw2 := hb0.size
       try simp only [World.size_alloc, World.size_setCell, World.size_drew, size_drewN] at hzw2
       have hBw2 : Below w.heap.size w w2 := since hb0 bg
       have BXw2 := Lib.hid (Bx.later BXw1.out (since hb0 bg))
       clear hb0
       go_wp2_with fail
       go_ret
       exact ⟨ret_bool HE.out.symm, bg⟩
     | false =>
       cases hk5 : (x.kind == 5) with
       | true =>
         have HE : Hid (r = (decide (n = 1) && r2)) := Lib.hid (by rw [HR.out, hk2, hk5]; rfl)
         by_cases h1 : n = 1
         · subst h1
           rw [decide_eq_true rfl, Bool.true_and] at HE
           go_wp2_with fail
           refine (C2.out _ bg).mono ?_
           rintro e w2 ⟨rfl, hb0⟩
           obtain ⟨hcw2, hfw2⟩ := bcell hb0
           have hzw2 := hb0.size
           try simp only [World.size_alloc, World.size_setCell, World.size_drew, size_drewN] at hzw2
           have hBw2 : Below w.heap.size w w2 := since hb0 bg
           have BXw2 := Lib.hid (Bx.later BXw1.out (since hb0 bg))
           clear hb0
           go_wp2_with fail
           go_ret
           exact ⟨ret_bool HE.out.symm, bg⟩
         · rw [decide_eq_false h1, Bool.false_and] at HE
           have e1 : ((n : Int) == 1) = false := by rw [beq_eq_false_iff_ne]; omega
           go_wp2_with fail
           go_ret
           exact ⟨ret_bool HE.out.symm, bg⟩
       | false =>
         have HE : Hid (r = (decide (n = 2) && r3)) := Lib.hid (by rw [HR.out, hk2, hk5]; rfl)
         by_cases h1 : n = 2
         · subst h1
           rw [decide_eq_true rfl, Bool.true_and] at HE
           go_wp2_with fail
           refine (C3.out _ bg).mono ?_
           rintro e w2 ⟨rfl, hb0⟩
           obtain ⟨hcw2, hfw2⟩ := bcell hb0
           have hzw2 := hb0.size
           try simp only [World.size_alloc, World.size_setCell, World.size_drew, size_drewN] at hzw2
           have hBw2 : Below w.heap.size w w2 := since hb0 bg
           have BXw2 := Lib.hid (Bx.later BXw1.out (since hb0 bg))
           clear hb0
           go_wp2_with fail
           go_ret
           exact ⟨ret_bool HE.out.symm, bg⟩
         · rw [decide_eq_false h1, Bool.false_and] at HE
           have e1 : ((n : Int) == 2) = false := by rw [beq_eq_false_iff_ne]; omega
           go_wp2_with fail
           go_ret
           exact ⟨ret_bool HE.out.symm, bg⟩
   · have HE : Hid (r = false) := Lib.hid (by rw [HR.out, decide_eq_false (by omega)]; rfl)
     have e1 : decide ((0 : Int) < (n3 : Int)) = true := by simp; omega
     go_wp2_with fail
     go_ret
     exact ⟨ret_bool HE.out.symm, bg⟩
end Go.Proofs.YtnackmnoldkihaaGreatDoor
namespace Go.Proofs.YtnackmnoldkihaaGreatDoor
open Go.RowKit

set_option maxHeartbeats 1000000 in
set_option maxRecDepth 100000 in
theorem arms_any (wd : List Pt → Bool) (ls : List Nd → Bool) (m : Int) (hwd : WordAt m wd) (hls : ListAt m ls) (x : Nd) (w : World) (d : Nat) (c : List Value) (hv : Held w) (hp : NdC w w.heap.size d x c) :
 Calls Tryz.prog 97 #[.agg #[.int .i64 m], .agg c.toArray] w fun e w' => e = .returned (.bool (x.arms.all (armB wd ls))) ∧ Below w.heap.size w w' := by
 obtain ⟨a1, c1, a2, c2, a3, c3, a4, c4, a5, c5, rfl, hxz, ⟨hn1, hn2, hn3, hn4, hn5⟩, _, _, _, _, hAr⟩ := hp.open
 clear hp
 obtain ⟨n1, hl1⟩ : ∃ n, x.assigns.length = n := ⟨_, rfl⟩
 obtain ⟨n2, hl2⟩ : ∃ n, x.words.length = n := ⟨_, rfl⟩
 obtain ⟨n3, hl3⟩ : ∃ n, x.redirs.length = n := ⟨_, rfl⟩
 obtain ⟨n4, hl4⟩ : ∃ n, x.lists.length = n := ⟨_, rfl⟩
 obtain ⟨n, hl5⟩ : ∃ n, x.arms.length = n := ⟨_, rfl⟩
 rw [hl5] at hn5 hAr
 rw [hl1, hl2, hl3, hl4, hl5]
 have HA := Lib.hid hAr
 have HN := Lib.hid hl5
 have HV := Lib.hid hv
 have HWD := Lib.hid hwd
 have HLS := Lib.hid hls
 obtain ⟨r, hr⟩ : ∃ r, x.arms.all (armB wd ls) = r := ⟨_, rfl⟩
 rw [hr]
 have HR := Lib.hid hr
 have BX := Lib.hid (Bx.start w 67 #[.int .i64 m] 38 #[.int .i64 x.kind, .string x.name, .slice a1 n1 c1, .slice a2 n2 c2, .slice a3 n3 c3, .slice a4 n4 c4, .slice a5 n c5])
 clear hl1 hl2 hl3 hl4 hl5 hAr hv hls hwd hr
 go_enter Tryz.func97, Tryz.ntmps97
 go_wp2_with fail
 go_loopw [12] (fun i W => ∃ k : Nat, k ≤ n ∧ i = .int .i64 k ∧ (x.arms.take k).all (armB wd ls) = true ∧ Bx w W 67 #[.int .i64 m] 38 #[.int .i64 x.kind, .string x.name, .slice a1 n1 c1, .slice a2 n2 c2, .slice a3 n3 c3, .slice a4 n4 c4, .slice a5 n c5]) (fun i _ => n - (intOf i).toNat)
 case atStart => exact ⟨0, Nat.zero_le _, rfl, by simp, BX.out⟩
 case round =>
  obtain ⟨k, hk, rfl, hal, hbx⟩ := hrel
  have HAL := Lib.hid hal
  have BX1 := Lib.hid hbx
  clear hal hbx
  obtain ⟨wo, rfl⟩ : ∃ wo : World, wo = wr := ⟨_, rfl⟩
  have K0BX1 := Lib.hid BX1.out.b0
  have K1BX1 := Lib.hid BX1.out.b1
  have hBBX1 := BX1.out.hb
  obtain ⟨b0, bf, bl⟩ := K0BX1.out.box1
  obtain ⟨p0, p1, p2, p3, p4, p5, p6, pl⟩ := K1BX1.out.box7
  by_cases hlt : k < n
  · obtain ⟨y, hy⟩ : ∃ y, x.arms[k]? = .some y := ⟨_, List.getElem?_eq_getElem (by rw [HN.out]; exact hlt)⟩
    obtain ⟨b, o, c, hi, hbB, hce, hC, _⟩ := HA.out.at 36 90 Tryz.underlying36 (by kernel_rfl) hy
    have HY := Lib.hid hy
    obtain ⟨a6, c6, a7, c7, rfl, ⟨hz6, hz7⟩, hyw, hyb⟩ := hC.open
    have CL := Lib.hid (HLS.out.reads HV.out hyb true)
    have HYW := Lib.hid hyw
    have HF : Hid (armB wd ls y = (!y.words.isEmpty && (ls y.body && y.words.all (someB wd)))) := Lib.hid rfl
    have e0 := (hBBX1.cell hbB).trans (hce 0 _ rfl)
    have e1 := (hBBX1.cell hbB).trans (hce 1 _ rfl)
    have hbB' := Nat.lt_of_lt_of_le hbB hBBX1.size
    rw [Nat.add_zero] at e0
    obtain ⟨n6, hn6⟩ : ∃ n, y.words.length = n := ⟨_, rfl⟩
    have N6 := Lib.hid hn6
    rw [hn6] at e0 HYW hz6
    obtain ⟨lr, hlr⟩ : ∃ r, (ls y.body && (true || !y.body.isEmpty)) = r := ⟨_, rfl⟩
    rw [hlr] at CL
    rw [show (ls y.body && (true || !y.body.isEmpty)) = ls y.body by simp] at hlr
    rw [hlr] at HF
    clear hy hce hC hyw hyb hn6 hlr
    rcases Nat.eq_zero_or_pos n6 with h0 | h0
    · subst h0
      have HE : Hid (r = false) := Lib.hid (by rw [← HR.out, all_no HY.out (show armB wd ls y = false by rw [HF.out, nil_of_len N6.out rfl]; rfl)])
      go_wp2_with fail
      go_ret
      exact ⟨ret_bool HE.out.symm, bg⟩
    · rw [not_nil_of_len N6.out h0] at HF
      have e2 : ((n6 : Int) == 0) = false := by rw [beq_eq_false_iff_ne]; omega
      go_wp2_with fail
      refine (CL.out _ bg).mono ?_
      rintro e w1 ⟨rfl, hb0⟩
      obtain ⟨hcw1, hfw1⟩ := bcell hb0
      have hzw1 := hb0.size
      try simp only [World.size_alloc, World.size_setCell, World.size_drew, size_drewN] at hzw1
      have hBw1 : Below w.heap.size w w1 := since hb0 bg
      have BXw1 := Lib.hid (Bx.later BX1.out (since hb0 bg))
      clear hb0
      have q0 : w1.cell? ⟨wo.heap.size, 0, none⟩ = some (.slice a6 n6 c6) := (hcw1 _ _ (by simp)).trans (by simp)
      clear b0 bf bl p0 p1 p2 p3 p4 p5 p6 pl
      have K0BXw1 := Lib.hid BXw1.out.b0
      have K1BXw1 := Lib.hid BXw1.out.b1
      have hBBXw1 := BXw1.out.hb
      obtain ⟨b0, bf, bl⟩ := K0BXw1.out.box1
      obtain ⟨p0, p1, p2, p3, p4, p5, p6, pl⟩ := K1BXw1.out.box7
      cases lr with
      | false =>
        have HE : Hid (r = false) := Lib.hid (by rw [← HR.out, all_no HY.out (show armB wd ls y = false by rw [HF.out]; rfl)])
        go_wp2_with fail
        go_ret
        exact ⟨ret_bool HE.out.symm, bg⟩
      | true =>
        go_wp2_with fail
        go_loopw [30] (fun i W => ∃ j : Nat, j ≤ n6 ∧ i = .int .i64 j ∧ (y.words.take j).all (someB wd) = true ∧ Bx w W 67 #[.int .i64 m] 38 #[.int .i64 x.kind, .string x.name, .slice a1 n1 c1, .slice a2 n2 c2, .slice a3 n3 c3, .slice a4 n4 c4, .slice a5 n c5]) (fun i _ => n6 - (intOf i).toNat)
        case atStart => exact ⟨0, Nat.zero_le _, rfl, by simp, BXw1.out⟩
        case round =>
         obtain ⟨j, hj, rfl, hal2, hbx2⟩ := hrel
         have HAL2 := Lib.hid hal2
         have BX3 := Lib.hid hbx2
         clear hal2 hbx2 b0 bf bl p0 p1 p2 p3 p4 p5 p6 pl
         have K0BX3 := Lib.hid BX3.out.b0
         have K1BX3 := Lib.hid BX3.out.b1
         have hBBX3 := BX3.out.hb
         obtain ⟨b0, bf, bl⟩ := K0BX3.out.box1
         obtain ⟨p0, p1, p2, p3, p4, p5, p6, pl⟩ := K1BX3.out.box7
         by_cases hlt2 : j < n6
         · obtain ⟨z, hz⟩ : ∃ z, y.words[j]? = .some z := ⟨_, List.getElem?_eq_getElem (by rw [N6.out]; exact hlt2)⟩
           obtain ⟨b2, o2, c, hi2, hbB2, hce2, ⟨zv, rfl, hzp⟩, _⟩ := HYW.out.at 34 29 Tryz.underlying34 (by kernel_rfl) hz
           have HZ := Lib.hid hz
           obtain ⟨a8, c8, rfl, _⟩ := hzp.shape
           have CW := Lib.hid (HWD.out.reads HV.out hzp true)
           have g0 := (hBBX3.cell hbB2).trans (hce2 0 _ rfl)
           have hbB2' := Nat.lt_of_lt_of_le hbB2 hBBX3.size
           rw [Nat.add_zero] at g0
           obtain ⟨rr, hrr⟩ : ∃ r, (wd z && (!true || !z.isEmpty)) = r := ⟨_, rfl⟩
           rw [hrr] at CW
           have HS : Hid (someB wd z = rr) := Lib.hid (by rw [← hrr, someB]; simp)
           clear hz hce2 hzp hrr
           go_wp2_with fail
           refine (CW.out _ bg).mono ?_
           rintro e w4 ⟨rfl, hb0⟩
           obtain ⟨hcw4, hfw4⟩ := bcell hb0
           have hzw4 := hb0.size
           try simp only [World.size_alloc, World.size_setCell, World.size_drew, size_drewN] at hzw4
           have hBw4 : Below w.heap.size w w4 := since hb0 bg
           have BXw4 := Lib.hid (Bx.later BX3.out (since hb0 bg))
           clear hb0
           cases rr with
           | false =>
             have HE : Hid (r = false) := Lib.hid (by rw [← HR.out, all_no HY.out (show armB wd ls y = false by rw [HF.out, all_no HZ.out HS.out]; rfl)])
             go_wp2_with fail
             go_ret
             exact ⟨ret_bool HE.out.symm, bg⟩
           | true =>
             go_wp2_with fail
             go_roundw
             case rel => exact ⟨j + 1, by omega, by go_num, all_to HAL2.out HZ.out HS.out, BXw4.out⟩
             case measure => simp [intOf]; omega
         · have HF2 : Hid (armB wd ls y = true) := Lib.hid (by rw [HF.out, all_end HAL2.out (by rw [N6.out]; omega)]; rfl)
           go_wp2_with fail
           go_roundw
           case rel => exact ⟨k + 1, by omega, by go_num, all_to HAL.out HY.out HF2.out, BX3.out⟩
           case measure => simp [intOf]; omega
  · have HE : Hid (r = true) := Lib.hid (by rw [← HR.out, all_end HAL.out (by rw [HN.out]; omega)])
    go_wp2_with fail
    go_ret
    exact ⟨ret_bool HE.out.symm, bg⟩
end Go.Proofs.YtnackmnoldkihaaGreatDoor
