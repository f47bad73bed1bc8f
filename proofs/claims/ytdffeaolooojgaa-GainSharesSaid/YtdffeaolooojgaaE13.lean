/-
  GainCosts: the walk.
-/
import Derived.Test.YtdffeaolooojgaaE12
import Derived.Laws.AppendOwnNone
namespace Go.Proofs.Ytdffeaolooojgaa
open Go.RowKit

/-- The slice value v, in blocks from B on, owns the whole numbers ws. -/
def OwnI (w : World) (B : Nat) (v : Value) (ws : List Int) : Prop := w.ownsRow B 3 1 v ws.length (ws.map intv)
theorem OwnI.elems {w : World} {B : Nat} {v : Value} {ws : List Int} (h : OwnI w B v ws) (hl : ws.length ≤ maxLen) :
    ∃ a cap, v = .slice a ws.length cap ∧ Elems w w.heap.size a ws.length (ws.map intv) := by
  obtain ⟨h1, h2⟩ := h
  rcases h2 with ⟨rfl, h3⟩ | ⟨g, cap, cur, rfl, hB, hg, hn, hc, hs, hx⟩
  · rw [h3]; exact ⟨none, 0, rfl, by simpa using h3, Nat.zero_le _, .inl rfl⟩
  · have hg' := (Array.getElem?_eq_some_iff.1 hg).1
    refine ⟨some ⟨g, 0, none⟩, cap, rfl, by simp, hl, .inr ⟨g, 0, rfl, hg', fun i hi => ?_⟩⟩
    have h5 : (cur.toList.take (ws.length * 1))[i]? = cur[i]? := by rw [List.getElem?_take_of_lt (by omega)]; simp
    rw [← hx, h5]
    have : i < cur.size := by omega
    simp [World.cell?, hg, this]
theorem OwnI.elemsN {w : World} {B N : Nat} {v : Value} {ws : List Int} (h : OwnI w B v ws) (hN : N = ws.length) (hl : N ≤ maxLen) :
    ∃ a cap, v = .slice a N cap ∧ Elems w w.heap.size a N (ws.map intv) := by
  subst hN; exact h.elems hl
theorem OwnI.made {w : World} {B : Nat} (ws : List Int) (hB : B ≤ w.heap.size) (hl : ws.length ≤ maxLen) {n : Nat} (hn : n = ws.length) {c : Array Value} (hc : c = (ws.map intv).toArray) :
    OwnI (w.alloc (.cells c 3)) B (.slice (some ⟨w.heap.size, 0, none⟩) n n) ws := by
  subst hn hc
  refine ⟨by simp, .inr ⟨w.heap.size, ws.length, _, rfl, hB, heap_alloc_new w _, Nat.le_refl _, hl, by simp, ?_⟩⟩
  rw [List.take_of_length_le (by simp)]
theorem infoI : (Try.prog.info? 3).map (fun i => (i.zero, i.size, i.bytes)) = some (some (.int .i64 0), 1, 8) := by kernel_rfl
/-- append(out, x...), x whatever came in. -/
theorem append_ints {w : World} {ops : Array Oper} {rest : List Oper} {o : Oper} {a : Act} {Q : Exit → Act → World → Prop} (hgd : o.guard = none) (s x : Operand)
    (ho : o.op = .call { callee := .builtin .append, args := #[s, x], argTypes := #[29, 29] }) {B : Nat} {v : Value} {ws : List Int} (hs : a.eval s = v) (hown : OwnI w B v ws)
    {ad : Option Addr} {n cap B' : Nat} (us : List Int) (hx : a.eval x = .slice ad n cap) (hE : Elems w B' ad n (us.map intv)) (hnone : ad = none → cap = 0) (hlen : ws.length + n ≤ 1000000000000) {w0 : World} (hb : Below B w0 w) (hB : B ≤ w.heap.size)
    (h : ∀ v' w', OwnI w' B v' (ws ++ us) → Below B w0 w' → B ≤ w'.heap.size → wpList Try.prog ops Q rest (a.put o.dst v') w') : wpList Try.prog ops Q (o :: rest) a w := by
  obtain ⟨i0, hi, hz0, hz1, hz2⟩ := info_parts infoI
  obtain ⟨e1, e2, e3⟩ := hE
  cases ad with
  | none =>
    have hn0 : n = 0 := by
      rcases e3 with e3 | ⟨b, off, e, _⟩
      · exact e3
      · cases e
    subst hn0
    obtain rfl : us = [] := by simpa using e1
    rw [hnone rfl] at hx
    refine wpList_append_own_none hgd s x 29 ho B 3 i0 1 Try.underlying29 hi v ws.length _ hs hown hx (h v w ?_ hb hB)
    rw [List.append_nil]; exact hown
  | some p =>
    refine wpList_append_own w hgd s x 29 ho B 3 i0 (.int .i64 0) 1 8 Try.underlying29 hi hz0 hz1 hz2 rfl (by omega) v ws.length _ hs hown p n cap (us.map intv) hx (by rw [e1, Nat.mul_one])
      ?_ (by intro u hu; simp [intv] at hu; obtain ⟨y, _, rfl⟩ := hu; rfl) (by unfold maxLen; omega) (by omega) hB ?_
    · intro j u hj
      have hjn : j < n := by rw [← e1]; exact (List.getElem?_eq_some_iff.1 hj).1
      rcases e3 with e3 | ⟨b, off, e, _, hc⟩
      · omega
      · injection e with e
        subst e
        rw [addr_add, hc j hjn, hj]
    · intro v' w' h2 h3 _
      refine h v' w' ?_ (hb.grown h3 hB fun k hk => (World.ownsRow.lt hown k hk).1) (Nat.le_trans hB h3.size)
      have e : us.length = n := by simpa using e1
      unfold OwnI
      rw [List.length_append, List.map_append, e]
      exact h2
/-- A Best's answer has two parts. -/
theorem BestR.two {ws : List Int} {l : List UInt8} {v : Value} (h : BestR ws l v) : ∃ p q, v = .tuple #[.int .i64 p, .int .i64 q] := by
  obtain ⟨rs, i, _, _, rfl⟩ := h
  unfold bestV
  (repeat' split) <;> exact ⟨_, _, rfl⟩

set_option maxHeartbeats 3200000 in
theorem costs_any (s : ByteArray) (a : Option Addr) (n cap : Nat) (ws : List Int) (w : World) (h : Elems w w.heap.size a n (ws.map intv)) (hnone : a = none → cap = 0) (hs : s.size ≤ 140737488355328) (hnl : n ≤ maxLen) :
    Calls Try.prog 4 #[.string s, .slice a n cap] w fun e w' => e = .returned (.bool true) ∧ Below w.heap.size w w' := by
  unfold maxLen at hnl
  have CA := Lib.hid (anchor_any w)
  by_cases h2 : s.size ≤ 2000
  · by_cases h20 : n ≤ 20
    · have hn : ws.length = n := by have := h.1; simpa using this
      have HN := Lib.hid hn
      have HE := Lib.hid h
      have HNO := Lib.hid hnone
      have CT := Lib.hid (fun W => text_any s W (by unfold maxLen; omega))
      have CT2 := Lib.hid (fun W => rtext_any s W (by unfold maxLen; omega))
      obtain ⟨t, ht⟩ : ∃ t, txtB (L s) = t := ⟨_, rfl⟩
      rw [ht] at CT CT2
      have CC := Lib.hid (fun way W => cost_any way s W h2)
      have CC2 := Lib.hid (fun way W => rcost_any way s W h2)
      have CB := Lib.hid (fun W hb => best_any s a n cap ws W ((h.below (w' := W) hb).mono hb.size) h2 (by omega))
      have CB2 := Lib.hid (fun W hb => rbest_any s a n cap ws W ((h.below (w' := W) hb).mono hb.size) h2 (by omega))
      clear hn h hnone ht
      go_enter Try.func4, Try.ntmps4
      go_wp2_with fail
      refine CA.out.mono ?_
      rintro e w1 ⟨rfl, hb1⟩
      have HB1 := Lib.hid hb1
      clear hb1
      obtain ⟨N, hNN⟩ : ∃ N, N = ([1, 2, 3] ++ ws).length := ⟨_, rfl⟩
      have hN23 : N ≤ 30 := by rw [hNN]; have := HN.out; simp; omega
      have HNN := Lib.hid hNN
      have hNm := Lib.hid (show N ≤ maxLen by unfold maxLen; omega)
      clear hNN
      go_wp2_with (at_builtin; go_must (refine append_ints rfl _ _ rfl rfl (OwnI.made [1, 2, 3] (Nat.le_refl _) (by decide) rfl rfl) ws rfl (HE.out.below (HB1.out.trans ((Below.refl _ _).alloc HB1.out.size _))) HNO.out (by simp; omega) (w0 := w1) ((Below.refl _ _).alloc (Nat.le_refl _) _) (by simp) ?_); intro v1 w2 hown hb2 hs2; obtain ⟨a', cap', rfl, hel⟩ := hown.elemsN HNN.out hNm.out)
      obtain ⟨b', off', hix', hB', hc'⟩ := hel.open (P := Try.prog) 29 3 Try.underlying29 (by kernel_rfl)
      have HC2 := Lib.hid hc'
      have HB2 := Lib.hid (HB1.out.trans (hb2.mono HB1.out.size))
      clear hown hel hc' hb2
      go_loopw [25] (fun i wr => ∃ k : Nat, k ≤ N ∧ i = .int .i64 k ∧ Below w2.heap.size w2 wr) (fun i _ => N - (intOf i).toNat)
      case atStart => exact ⟨0, by omega, rfl, Below.refl _ _⟩
      case round =>
        obtain ⟨k, hk, rfl, hb⟩ := hrel
        obtain ⟨wo, rfl⟩ : ∃ wo : World, wo = wr := ⟨_, rfl⟩
        have HB := Lib.hid hb
        by_cases hlt : k < N
        · obtain ⟨way, hway⟩ : ∃ x, ([1, 2, 3] ++ ws : List Int)[k]? = some x := ⟨_, List.getElem?_eq_getElem (by rw [← HNN.out]; exact hlt)⟩
          have hbl := hB'.resolve_left (by omega)
          have hck : wo.cell? ⟨b', off' + k, none⟩ = some (.int .i64 way) := (hb.cell (p := ⟨b', off' + k, none⟩) hbl).trans ((HC2.out k hlt).trans (intGet hway))
          have hbi : b' < wo.heap.size := Nat.lt_of_lt_of_le hbl hb.size
          have ixk := fun w' => hix' k cap' w' hlt
          clear hway hb
          go_wp2_with fail
          refine (CC.out way _).mono ?_
          rintro e w3 ⟨⟨r, rfl, hr⟩, hb3⟩
          have HR := Lib.hid hr
          have HB3 := Lib.hid (HB.out.trans (hb3.mono HB.out.size))
          clear hr hb3
          go_wp2_with fail
          refine (CC2.out way _).mono ?_
          rintro e w4 ⟨⟨r2, rfl, hr2⟩, hb4⟩
          have CS := Lib.hid (same_any r r2 HR.out.1 hr2.1 (HR.out.rank hr2))
          have HB4 := Lib.hid (HB3.out.trans (hb4.mono HB3.out.size))
          clear hr2 hb4
          go_wp2_with fail
          refine (CS.out _).mono ?_
          rintro e w5 ⟨rfl, rfl⟩
          go_wp2_with fail
          go_roundw
          case rel => exact ⟨k + 1, by omega, by go_num, HB4.out⟩
          case measure => simp [intOf]; omega
        · have HB5 := Lib.hid (HB2.out.trans (hb.mono HB2.out.size))
          clear hb
          go_wp2_with fail
          refine (CB.out _ HB5.out).mono ?_
          rintro e w3 ⟨⟨v, rfl, hv⟩, hb3⟩
          obtain ⟨p, q, rfl⟩ := hv.two
          have HV := Lib.hid hv
          have HB3 := Lib.hid (HB5.out.trans (hb3.mono HB5.out.size))
          clear hv hb3
          go_wp2_with fail
          refine (CB2.out _ HB3.out).mono ?_
          rintro e w4 ⟨⟨v2, rfl, hv2⟩, hb4⟩
          obtain rfl := HV.out.unique hv2
          have HB4 := Lib.hid (HB3.out.trans (hb4.mono HB3.out.size))
          clear hv2 hb4
          go_wp2_with fail
          refine (CT.out _).mono ?_
          rintro e w5 ⟨rfl, hb5⟩
          have HB6 := Lib.hid (HB4.out.trans (hb5.mono HB4.out.size))
          clear hb5
          go_wp2_with fail
          refine (CT2.out _).mono ?_
          rintro e w6 ⟨rfl, rfl⟩
          go_wp2_with fail
          go_ret
          exact ⟨ret_bool (by simp), HB6.out⟩
    · clear h
      go_enter Try.func4, Try.ntmps4
      go_wp2_with fail
      refine CA.out.mono ?_
      rintro e w1 ⟨rfl, hb1⟩
      have HB1 := Lib.hid hb1
      clear hb1
      go_wp2_with fail
      go_ret
      exact ⟨rfl, HB1.out⟩
  · clear h
    go_enter Try.func4, Try.ntmps4
    go_wp2_with fail
    refine CA.out.mono ?_
    rintro e w1 ⟨rfl, hb1⟩
    have HB1 := Lib.hid hb1
    clear hb1
    go_wp2_with fail
    go_ret
    exact ⟨rfl, HB1.out⟩
end Go.Proofs.Ytdffeaolooojgaa
