/-
  The walks of doc and redir.
-/
import Derived.Test.YtnackmnoldkihaaGreatDoorW8
set_option linter.unusedVariables false
set_option linter.unusedSimpArgs false
/-
  The walks of Doc, doc, redir.
-/
namespace Go.Proofs.YtnackmnoldkihaaGreatDoor
open Go.RowKit

theorem docP_len (lit : Bool) (p : Pt) : (docP lit p).length ≤ 2 * p.text.size + 5 := by
 have h := escL_len (L p.text)
 rw [L_size] at h
 rw [docP]
 cases p.kind == 2
 · cases p.kind == 4
   · cases lit
     · simp only [cond_false]; omega
     · simp only [cond_false, cond_true, L_size]; omega
   · simp [L_size]; omega
 · simp [L_size]; omega
theorem flat_docP (lit : Bool) (l : List Pt) : (l.flatMap (docP lit)).length ≤ 2 * (l.map fun p => p.text.size).sum + 5 * l.length := by
 induction l with
 | nil => simp
 | cons p l ih =>
   have := docP_len lit p
   rw [List.flatMap_cons, List.length_append, List.map_cons, List.sum_cons, List.length_cons]; omega
theorem nsum_take {l : List Nat} (k : Nat) : (l.take k).sum ≤ l.sum := by
 induction l generalizing k with
 | nil => simp
 | cons a l ih => cases k with
   | zero => simp
   | succ k => have := ih k; simp; omega
theorem flat_docP_take (lit : Bool) (l : List Pt) (k : Nat) : ((l.take k).flatMap (docP lit)).length ≤ 2 * (l.map fun p => p.text.size).sum + 5 * l.length := by
 have h1 := flat_docP lit (l.take k)
 have h2 : ((l.take k).map fun p => p.text.size).sum ≤ (l.map fun p => p.text.size).sum := by rw [List.map_take]; exact nsum_take k
 have h3 : (l.take k).length ≤ l.length := by rw [List.length_take]; omega
 omega
theorem flat_snoc {α β : Type} {f : α → List β} {l : List α} {k : Nat} {x : α} (h : l[k]? = some x) : (l.take (k + 1)).flatMap f = (l.take k).flatMap f ++ f x := by
 rw [List.take_add_one, h, List.flatMap_append]; simp

set_option maxHeartbeats 1000000 in
set_option maxRecDepth 100000 in
theorem doc_any (r : Rd) (w : World) (d : Nat) (c : List Value) (hp : RdC w w.heap.size d r c) :
 Calls Tryz.prog 12 #[.agg c.toArray] w fun e w' => e = .returned (.string (S (docL r.word))) ∧ Below w.heap.size w w' := by
 have HP := Lib.hid hp
 obtain ⟨a1, c1, rfl, ⟨h1, h2⟩, hsum, hlw, hw⟩ := hp.open
 obtain ⟨d, hl⟩ := hw.up
 obtain ⟨n, hn⟩ : ∃ n, r.word.length = n := ⟨_, rfl⟩
 rw [hn] at hlw hl HP ⊢
 have HSZ : Hid (∀ k, ((r.word.take k).flatMap (docP (litrB r.word))).length ≤ 8388608) := Lib.hid fun k => by have := flat_docP_take (litrB r.word) r.word k; omega
 have CLt : Hid (∀ W, Below w.heap.size w W → Calls Tryz.prog 15 #[.agg #[.int .i64 r.fd, .string r.op, .string r.tag, .slice a1 n c1]] W fun e w' => e = .returned (.bool (litrB r.word)) ∧ Below W.heap.size W w') := Lib.hid fun W hW => literal_any r W _ _ (HP.out.later hW)
 have HL := Lib.hid hl
 have HN := Lib.hid hn
 have HDL : Hid (docL r.word = r.word.flatMap (docP (litrB r.word))) := Lib.hid rfl
 obtain ⟨lt, hlt⟩ : ∃ b, litrB r.word = b := ⟨_, rfl⟩
 rw [hlt] at CLt HSZ HDL
 clear hw hl hn hp hlt hsum
 go_enter Tryz.func12, Tryz.ntmps12
 go_wp2_with fail
 go_loopw [3, 9] (fun s i W => ∃ (k : Nat) (t : ByteArray), k ≤ n ∧ i = .int .i64 k ∧ s = .string t ∧ L t = (r.word.take k).flatMap (docP lt) ∧ Blk W w.heap.size 31 #[.int .i64 r.fd, .string r.op, .string r.tag, .slice a1 n c1] ∧ Below w.heap.size w W) (fun _ i _ => n - (intOf i).toNat)
 case atStart => exact ⟨0, ⟨#[]⟩, Nat.zero_le _, rfl, rfl, rfl, Blk.new _ _ _, bg⟩
 case round =>
  obtain ⟨k, t, hk, rfl, rfl, ht, hbk, hB⟩ := hrel
  have HT := Lib.hid ht
  have HBK := Lib.hid hbk
  obtain ⟨r0, r1, r2, r3, rl⟩ := HBK.out.box4
  have htz : t.size ≤ 8388608 := by have h := HSZ.out k; rw [← ht, L_size] at h; exact h
  clear ht hbk
  by_cases hlt : k < n
  · obtain ⟨x, hx⟩ : ∃ x, r.word[k]? = .some x := ⟨_, List.getElem?_eq_getElem (by rw [HN.out]; exact hlt)⟩
    obtain ⟨b, o, c, hi, hbB, hce, hC, _⟩ := HL.out.at 29 44 Tryz.underlying29 (by kernel_rfl) hx
    have HX := Lib.hid (flat_snoc (f := docP lt) hx)
    obtain ⟨a3, c3, a4, c4, rfl, ⟨hC1, _⟩, _⟩ := hC.open
    have e0 := (hB.cell hbB).trans (hce 0 _ rfl)
    have e1 := (hB.cell hbB).trans (hce 1 _ rfl)
    have e2 := (hB.cell hbB).trans (hce 2 _ rfl)
    have e3 := (hB.cell hbB).trans (hce 3 _ rfl)
    have e4 := (hB.cell hbB).trans (hce 4 _ rfl)
    have e5 := (hB.cell hbB).trans (hce 5 _ rfl)
    have hbB' := Nat.lt_of_lt_of_le hbB hB.size
    rw [Nat.add_zero] at e0
    clear hx hce hC
    have HD : Hid (docP lt x = bif x.kind == 2 then [36, 123] ++ L x.text ++ [125] else bif x.kind == 4 then [36, 40, 40] ++ L x.text ++ [41, 41] else bif lt then L x.text else escL (L x.text)) := Lib.hid rfl
    obtain ⟨dx, hdx⟩ : ∃ dx, docP lt x = dx := ⟨_, rfl⟩
    rw [hdx] at HD HX
    clear hdx
    obtain ⟨xk, hxk⟩ : ∃ k, x.kind = k := ⟨_, rfl⟩
    obtain ⟨xt, hxt⟩ : ∃ k, x.text = k := ⟨_, rfl⟩
    rw [hxk] at HD e0
    rw [hxt] at HD e2 hC1
    clear hxk hxt
    have CE : Hid (∀ W, Calls Tryz.prog 41 #[.string xt] W fun e w' => e = .returned (.string (S (escL (L xt)))) ∧ Below W.heap.size W w') := Lib.hid fun W => escaped_any xt W hC1
    have hez : (S (escL (L xt))).size ≤ 2097152 := by have := escL_len (L xt); rw [L_size] at this; rw [S_size]; omega
    obtain ⟨es, hes⟩ : ∃ s, s = S (escL (L xt)) := ⟨_, rfl⟩
    rw [← hes] at CE hez
    have HES : Hid (L es = escL (L xt)) := Lib.hid (by rw [hes, L_S])
    clear hes
    cases hk2 : (xk == 2) with
    | true =>
      have HE : Hid (dx = [36, 123] ++ L xt ++ [125]) := Lib.hid (by rw [HD.out, hk2]; rfl)
      go_wp2_with fail
      go_roundw
      case rel => exact ⟨k + 1, _, by omega, by go_num, rfl, by rw [HX.out, HE.out, ← HT.out]; simp [L_append], HBK.out.alloc _, bg⟩
      case measure => simp [intOf]; omega
    | false =>
      cases hk4 : (xk == 4) with
      | true =>
        have HE : Hid (dx = [36, 40, 40] ++ L xt ++ [41, 41]) := Lib.hid (by rw [HD.out, hk2, hk4]; rfl)
        go_wp2_with fail
        go_roundw
        case rel => exact ⟨k + 1, _, by omega, by go_num, rfl, by rw [HX.out, HE.out, ← HT.out]; simp [L_append], HBK.out.alloc _, bg⟩
        case measure => simp [intOf]; omega
      | false =>
        go_wp2_with fail
        refine (CLt.out _ bg).mono ?_
        rintro e w1 ⟨rfl, hb0⟩
        have hB1 : Below w.heap.size w w1 := since hb0 bg
        have HBK1 := Lib.hid ((HBK.out.alloc (.cells #[.int .i64 xk, .bool x.quoted, .string xt, .string x.op, .slice a3 x.word.length c3, .slice a4 x.body.length c4] 44)).below hb0 (by simp; omega))
        have q2 : w1.cell? ⟨wr.heap.size, 2, none⟩ = some (.string xt) := (hb0.cell (by simp)).trans (by simp)
        have hz1 := hb0.size
        simp at hz1
        clear hb0
        cases lt with
        | true =>
          have HE : Hid (dx = L xt) := Lib.hid (by rw [HD.out, hk2, hk4]; rfl)
          go_wp2_with fail
          go_roundw
          case rel => exact ⟨k + 1, _, by omega, by go_num, rfl, by rw [HX.out, HE.out, ← HT.out]; simp [L_append], HBK1.out, hB1⟩
          case measure => simp [intOf]; omega
        | false =>
          have HE : Hid (dx = L es) := Lib.hid (by rw [HD.out, hk2, hk4, HES.out]; rfl)
          go_wp2_with fail
          refine (CE.out _).mono ?_
          rintro e w2 ⟨rfl, hb0⟩
          have hB2 : Below w.heap.size w w2 := since hb0 bg
          have HBK2 := Lib.hid (HBK1.out.below hb0 HBK1.out.lt)
          clear hb0
          go_wp2_with fail
          go_roundw
          case rel => exact ⟨k + 1, _, by omega, by go_num, rfl, by rw [HX.out, HE.out, ← HT.out]; simp [L_append], HBK2.out, hB2⟩
          case measure => simp [intOf]; omega
  · have HR : Hid (S (docL r.word) = t) := Lib.hid (by
     have h := HT.out
     rw [List.take_of_length_le (by rw [HN.out]; omega), ← HDL.out] at h
     rw [← h, S_L])
    go_wp2
    go_ret
    exact ⟨by rw [HR.out]; rfl, hB⟩
end Go.Proofs.YtnackmnoldkihaaGreatDoor
namespace Go.Proofs.YtnackmnoldkihaaGreatDoor
open Go.RowKit

theorem Held.at {w : World} (h : Held w) : ∃ c, Hid (∀ W, Below w.heap.size w W → W.cell? ⟨0, 0, none⟩ = some (.int .i64 c)) := by
 obtain ⟨⟨c, hc⟩, h0⟩ := h
 exact ⟨c, Lib.hid fun W hW => (hW.cell (p := ⟨0, 0, none⟩) h0).trans hc⟩

set_option maxHeartbeats 1000000 in
set_option maxRecDepth 100000 in
theorem cdoc_any (wd : List Pt → Bool) (m : Int) (hwd : WordAt m wd) (r : Rd) (w : World) (d : Nat) (c : List Value) (hv : Held w) (hp : RdC w w.heap.size d r c) :
 Calls Tryz.prog 89 #[.agg #[.int .i64 m], .agg c.toArray] w fun e w' => e = .returned (.bool (docB wd r)) ∧ Below w.heap.size w w' := by
 have HP := Lib.hid hp
 obtain ⟨a1, c1, rfl, ⟨h1, h2⟩, hsum, hlw, hw⟩ := hp.open
 obtain ⟨d', hl⟩ := hw.up
 obtain ⟨n, hn⟩ : ∃ n, r.word.length = n := ⟨_, rfl⟩
 rw [hn] at hlw hl hw HP ⊢
 obtain ⟨cm, HM⟩ := hv.at
 have CN : Hid (∀ W, Below w.heap.size w W → Calls Tryz.prog 21 #[.string r.tag] W fun e w' => e = .returned (.bool (nameL (L r.tag))) ∧ Below W.heap.size W w') := Lib.hid fun W _ => name_any r.tag W (by unfold maxLen; omega)
 have CW := Lib.hid (hwd.reads hv hw false)
 have CD : Hid (∀ W, Below w.heap.size w W → Calls Tryz.prog 12 #[.agg #[.int .i64 r.fd, .string r.op, .string r.tag, .slice a1 n c1]] W fun e w' => e = .returned (.string (S (docL r.word))) ∧ Below W.heap.size W w') := Lib.hid fun W hW => doc_any r W _ _ (HP.out.later hW)
 have hdz : (S (docL r.word)).size ≤ 8388608 := by have := flat_docP (litrB r.word) r.word; rw [S_size, docL]; omega
 obtain ⟨s, hs⟩ : ∃ s, S (docL r.word) = s := ⟨_, rfl⟩
 rw [hs] at CD hdz
 have HS : Hid (docL r.word = L s) := Lib.hid (by rw [← hs, L_S])
 have CSf : Hid (∀ W, Calls Tryz.prog 110 #[.string s, .string ⟨#[10]⟩] W fun e w' => e = .returned (.bool (List.isSuffixOf [10] (L s))) ∧ W = w') := Lib.hid fun W => (Tryz.strings_HasSuffix s ⟨#[10]⟩ W (by omega)).mono fun e w' h => ⟨h.1, h.2.symm⟩
 have CCt : Hid (∀ (W : World) (t u : ByteArray), t.size < 4294967281 → W.cell? ⟨0, 0, none⟩ = some (.int .i64 cm) → Calls Tryz.prog 111 #[.string t, .string u] W fun e w' => e = .returned (.bool (Lib.contains (L t) (L u))) ∧ W = w') := Lib.hid fun W t u ht hW => (Tryz.strings_Contains t u cm W ht hW).mono fun e w' h => ⟨h.1, h.2.symm⟩
 have HL := Lib.hid hl
 have HN := Lib.hid hn
 obtain ⟨res, hr⟩ : ∃ r', docB wd r = r' := ⟨_, rfl⟩
 rw [hr]
 rw [docB] at hr
 obtain ⟨nm, hnm⟩ : ∃ b, nameL (L r.tag) = b := ⟨_, rfl⟩
 obtain ⟨wv, hwv⟩ : ∃ b, (wd r.word && (!false || !r.word.isEmpty)) = b := ⟨_, rfl⟩
 obtain ⟨sf, hsf⟩ : ∃ b, List.isSuffixOf [10] (L s) = b := ⟨_, rfl⟩
 rw [hnm] at CN hr
 rw [hwv] at CW
 rw [show (wd r.word && (!false || !r.word.isEmpty)) = wd r.word by simp] at hwv
 rw [hwv, HS.out, hsf] at hr
 rw [hsf] at CSf
 have HR := Lib.hid hr
 have BX := Lib.hid (Bx.start w 67 #[.int .i64 m] 31 #[.int .i64 r.fd, .string r.op, .string r.tag, .slice a1 n c1])
 clear hw hl hn hp hsum hs hnm hwv hsf hr
 go_enter Tryz.func89, Tryz.ntmps89
 go_wp2_with fail
 refine (CN.out _ bg).mono ?_
 rintro e w1 ⟨rfl, hb0⟩
 obtain ⟨hcw1, hfw1⟩ := bcell hb0
 have hzw1 := hb0.size
 try simp only [World.size_alloc, World.size_setCell, World.size_drew, size_drewN] at hzw1
 have hBw1 : Below w.heap.size w w1 := since hb0 bg
 have BXw1 := Lib.hid (Bx.later BX.out (since hb0 bg))
 clear hb0
 have K0BXw1 := Lib.hid BXw1.out.b0
 have K1BXw1 := Lib.hid BXw1.out.b1
 have hBBXw1 := BXw1.out.hb
 obtain ⟨b0, bf, bl⟩ := K0BXw1.out.box1
 obtain ⟨p0, p1, p2, p3, pl⟩ := K1BXw1.out.box4
 cases nm with
 | false =>
   have HE : Hid (res = false) := Lib.hid (by rw [← HR.out]; rfl)
   go_wp2_with fail
   go_ret
   exact ⟨ret_bool HE.out.symm, bg⟩
 | true =>
   go_wp2_with fail
   refine (CW.out _ bg).mono ?_
   rintro e w2 ⟨rfl, hb0⟩
   obtain ⟨hcw2, hfw2⟩ := bcell hb0
   have hzw2 := hb0.size
   try simp only [World.size_alloc, World.size_setCell, World.size_drew, size_drewN] at hzw2
   have hBw2 : Below w.heap.size w w2 := since hb0 bg
   have BXw2 := Lib.hid (Bx.later BXw1.out (since hb0 bg))
   clear hb0
   clear b0 bf bl p0 p1 p2 p3 pl
   have K0BXw2 := Lib.hid BXw2.out.b0
   have K1BXw2 := Lib.hid BXw2.out.b1
   have hBBXw2 := BXw2.out.hb
   obtain ⟨b0, bf, bl⟩ := K0BXw2.out.box1
   obtain ⟨p0, p1, p2, p3, pl⟩ := K1BXw2.out.box4
   cases wv with
   | false =>
     have HE : Hid (res = false) := Lib.hid (by rw [← HR.out]; rfl)
     go_wp2_with fail
     go_ret
     exact ⟨ret_bool HE.out.symm, bg⟩
   | true =>
     go_wp2_with fail
     go_loopw [22] (fun i W => ∃ k : Nat, k ≤ n ∧ i = .int .i64 k ∧ (r.word.take k).all docPartB = true ∧ Bx w W 67 #[.int .i64 m] 31 #[.int .i64 r.fd, .string r.op, .string r.tag, .slice a1 n c1]) (fun i _ => n - (intOf i).toNat)
     case atStart => exact ⟨0, Nat.zero_le _, rfl, by simp, BXw2.out⟩
     case round =>
      obtain ⟨k, hk, rfl, hal, hbx⟩ := hrel
      have HAL := Lib.hid hal
      have BX3 := Lib.hid hbx
      clear hal hbx b0 bf bl p0 p1 p2 p3 pl
      have K0BX3 := Lib.hid BX3.out.b0
      have K1BX3 := Lib.hid BX3.out.b1
      have hBBX3 := BX3.out.hb
      obtain ⟨b0, bf, bl⟩ := K0BX3.out.box1
      obtain ⟨p0, p1, p2, p3, pl⟩ := K1BX3.out.box4
      by_cases hlt : k < n
      · obtain ⟨x, hx⟩ : ∃ x, r.word[k]? = .some x := ⟨_, List.getElem?_eq_getElem (by rw [HN.out]; exact hlt)⟩
        obtain ⟨b, o, c, hi, hbB, hce, hC, _⟩ := HL.out.at 29 44 Tryz.underlying29 (by kernel_rfl) hx
        have HX := Lib.hid hx
        obtain ⟨a3, c3, a4, c4, rfl, ⟨hC1, _⟩, _⟩ := hC.open
        have e0 := (hBBX3.cell hbB).trans (hce 0 _ rfl)
        have e1 := (hBBX3.cell hbB).trans (hce 1 _ rfl)
        have e2 := (hBBX3.cell hbB).trans (hce 2 _ rfl)
        have e3 := (hBBX3.cell hbB).trans (hce 3 _ rfl)
        have e4 := (hBBX3.cell hbB).trans (hce 4 _ rfl)
        have e5 := (hBBX3.cell hbB).trans (hce 5 _ rfl)
        have hbB' := Nat.lt_of_lt_of_le hbB hBBX3.size
        rw [Nat.add_zero] at e0
        clear hx hce hC
        have HD : Hid (docPartB x = (x.quoted && ((L x.op).isEmpty && (!(x.kind == 3) && !(x.kind == 4 && hasB (L x.text) 10))))) := Lib.hid rfl
        obtain ⟨xk, hxk⟩ : ∃ k, x.kind = k := ⟨_, rfl⟩
        obtain ⟨xq, hxq⟩ : ∃ k, x.quoted = k := ⟨_, rfl⟩
        obtain ⟨xt, hxt⟩ : ∃ k, x.text = k := ⟨_, rfl⟩
        obtain ⟨xo, hxo⟩ : ∃ k, x.op = k := ⟨_, rfl⟩
        rw [hxk, hxq, hxt, hxo] at HD
        rw [hxk] at e0
        rw [hxq] at e1
        rw [hxt] at e2 hC1
        rw [hxo] at e3
        clear hxk hxq hxt hxo
        have CI : Hid (∀ W, Calls Tryz.prog 44 #[.string xt, .int .u8 10] W fun e w' => (∃ n : Int, e = .returned (.int .i64 n) ∧ decide (0 ≤ n) = hasB (L xt) 10) ∧ W = w') := Lib.hid (fun W => index_any xt 10 W)
        cases xq with
        | false =>
          have HD2 : Hid (docPartB x = false) := Lib.hid (by rw [HD.out]; rfl)
          have HE : Hid (res = false) := Lib.hid (by rw [← HR.out, all_no HX.out HD2.out]; simp)
          go_wp2_with fail
          skip
          go_ret
          exact ⟨ret_bool HE.out.symm, bg⟩
        | true =>
          cases hoe : (L xo).isEmpty with
          | false =>
            have q1 : xo.toList.isEmpty = false := by rw [isEmpty_L]; exact hoe
            have HD2 : Hid (docPartB x = false) := Lib.hid (by rw [HD.out, hoe]; rfl)
            clear hoe
            have HE : Hid (res = false) := Lib.hid (by rw [← HR.out, all_no HX.out HD2.out]; simp)
            go_wp2_with fail
            skip
            go_ret
            exact ⟨ret_bool HE.out.symm, bg⟩
          | true =>
            have q1 : xo.toList.isEmpty = true := by rw [isEmpty_L]; exact hoe
            rw [hoe] at HD
            clear hoe
            cases hk3 : (xk == 3) with
            | true =>
              have HD2 : Hid (docPartB x = false) := Lib.hid (by rw [HD.out, hk3]; rfl)
              have HE : Hid (res = false) := Lib.hid (by rw [← HR.out, all_no HX.out HD2.out]; simp)
              go_wp2_with fail
              skip
              go_ret
              exact ⟨ret_bool HE.out.symm, bg⟩
            | false =>
              cases hk4 : (xk == 4) with
              | false =>
                have HD2 : Hid (docPartB x = true) := Lib.hid (by rw [HD.out, hk3, hk4]; rfl)
                go_wp2_with fail
                skip
                go_roundw
                case rel => exact ⟨k + 1, by omega, by go_num, all_to HAL.out HX.out HD2.out, BX3.out.later bg⟩
                case measure => simp [intOf]; omega
              | true =>
                have HD3 : Hid (docPartB x = !hasB (L xt) 10) := Lib.hid (by rw [HD.out, hk3, hk4]; rfl)
                cases hh : hasB (L xt) 10 with
                | true =>
                  rw [hh] at HD3 CI
                  have HD2 : Hid (docPartB x = false) := Lib.hid (by rw [HD3.out]; rfl)
                  clear hh
                  have HE : Hid (res = false) := Lib.hid (by rw [← HR.out, all_no HX.out HD2.out]; simp)
                  go_wp2_with fail
                  (refine (CI.out _).mono ?_; rintro e w3 ⟨⟨nn, rfl, hnn⟩, rfl⟩; go_wp2_with fail)
                  go_ret
                  exact ⟨ret_bool HE.out.symm, bg⟩
                | false =>
                  rw [hh] at HD3 CI
                  have HD2 : Hid (docPartB x = true) := Lib.hid (by rw [HD3.out]; rfl)
                  clear hh
                  go_wp2_with fail
                  (refine (CI.out _).mono ?_; rintro e w3 ⟨⟨nn, rfl, hnn⟩, rfl⟩; go_wp2_with fail)
                  go_roundw
                  case rel => exact ⟨k + 1, by omega, by go_num, all_to HAL.out HX.out HD2.out, BX3.out.later bg⟩
                  case measure => simp [intOf]; omega
      · have HALL : Hid (r.word.all docPartB = true) := Lib.hid (all_end HAL.out (by rw [HN.out]; omega))
        have HR2 : Hid (res = (r.word.isEmpty || (sf && !Lib.contains (10 :: L s) (10 :: (L r.tag ++ [10]))))) := Lib.hid (by rw [← HR.out, HALL.out]; rfl)
        rcases Nat.eq_zero_or_pos n with h0 | h0
        · subst h0
          have HE : Hid (res = true) := Lib.hid (by rw [HR2.out, nil_of_len HN.out rfl]; rfl)
          go_wp2_with fail
          go_ret
          exact ⟨ret_bool HE.out.symm, bg⟩
        · have e1 : ((n : Int) == 0) = false := by rw [beq_eq_false_iff_ne]; omega
          have HR3 : Hid (res = (sf && !Lib.contains (10 :: L s) (10 :: (L r.tag ++ [10])))) := Lib.hid (by rw [HR2.out, not_nil_of_len HN.out h0]; rfl)
          clear h0
          go_wp2_with fail
          refine (CD.out _ bg).mono ?_
          rintro e w4 ⟨rfl, hb0⟩
          obtain ⟨hcw4, hfw4⟩ := bcell hb0
          have hzw4 := hb0.size
          try simp only [World.size_alloc, World.size_setCell, World.size_drew, size_drewN] at hzw4
          have hBw4 : Below w.heap.size w w4 := since hb0 bg
          have BXw4 := Lib.hid (Bx.later BX3.out (since hb0 bg))
          clear hb0
          clear b0 bf bl p0 p1 p2 p3 pl
          have K0BXw4 := Lib.hid BXw4.out.b0
          have K1BXw4 := Lib.hid BXw4.out.b1
          have hBBXw4 := BXw4.out.hb
          obtain ⟨b0, bf, bl⟩ := K0BXw4.out.box1
          obtain ⟨p0, p1, p2, p3, pl⟩ := K1BXw4.out.box4
          go_wp2_with fail
          refine (CSf.out _).mono ?_
          rintro e w5 ⟨rfl, rfl⟩
          cases sf with
          | false =>
            have HE : Hid (res = false) := Lib.hid (by rw [HR3.out]; rfl)
            go_wp2_with fail
            go_ret
            exact ⟨ret_bool HE.out.symm, bg⟩
          | true =>
            go_wp2_with fail
            refine (CCt.out _ _ _ (by simp; omega) (HM.out _ bg)).mono ?_
            rintro e w5 ⟨rfl, rfl⟩
            go_wp2_with fail
            go_ret
            exact ⟨ret_bool (by rw [HR3.out]; simp [L_append]), bg⟩

set_option maxHeartbeats 1000000 in
set_option maxRecDepth 100000 in
theorem redir_any (wd : List Pt → Bool) (m : Int) (hwd : WordAt m wd) (r : Rd) (w : World) (d : Nat) (c : List Value) (hv : Held w) (hp : RdC w w.heap.size d r c) :
 Calls Tryz.prog 67 #[.agg #[.int .i64 m], .agg c.toArray] w fun e w' => e = .returned (.bool (redirB wd r)) ∧ Below w.heap.size w w' := by
 have HP := Lib.hid hp
 obtain ⟨a1, c1, rfl, ⟨h1, h2⟩, hsum, hlw, hw⟩ := hp.open
 obtain ⟨n, hn⟩ : ∃ n, r.word.length = n := ⟨_, rfl⟩
 rw [hn] at hlw hw HP ⊢
 have CD : Hid (∀ W, Below w.heap.size w W → Calls Tryz.prog 89 #[.agg #[.int .i64 m], .agg #[.int .i64 r.fd, .string r.op, .string r.tag, .slice a1 n c1]] W fun e w' => e = .returned (.bool (docB wd r)) ∧ Below W.heap.size W w') := Lib.hid fun W hW => cdoc_any wd m hwd r W _ _ (hv.below hv.2 hW) (HP.out.later hW)
 have CW := Lib.hid (hwd.reads hv hw true)
 obtain ⟨res, hr⟩ : ∃ r', redirB wd r = r' := ⟨_, rfl⟩
 rw [hr]
 rw [redirB] at hr
 obtain ⟨db, hdb⟩ : ∃ b, docB wd r = b := ⟨_, rfl⟩
 obtain ⟨wv, hwv⟩ : ∃ b, (wd r.word && (!true || !r.word.isEmpty)) = b := ⟨_, rfl⟩
 rw [hdb] at CD hr
 rw [hwv] at CW
 rw [show (wd r.word && (!true || !r.word.isEmpty)) = (wd r.word && !r.word.isEmpty) by simp] at hwv
 rw [hwv] at hr
 have HR := Lib.hid hr
 have BX := Lib.hid (Bx.start w 67 #[.int .i64 m] 31 #[.int .i64 r.fd, .string r.op, .string r.tag, .slice a1 n c1])
 obtain ⟨fd, hfd⟩ : ∃ b, r.fd = b := ⟨_, rfl⟩
 rw [hfd] at HR BX HP CD ⊢
 clear hw hn hp hsum hdb hwv hr hfd
 by_cases h0 : fd < 0
 · have HE : Hid (res = false) := Lib.hid (by rw [← HR.out, decide_eq_false (show ¬ 0 ≤ fd by omega)]; rfl)
   go_enter Tryz.func67, Tryz.ntmps67
   go_wp2_with fail
   go_ret
   exact ⟨ret_bool HE.out.symm, bg⟩
 · by_cases h9 : 9 < fd
   · have HE : Hid (res = false) := Lib.hid (by rw [← HR.out, decide_eq_false (show ¬ fd ≤ 9 by omega)]; simp)
     have e0 : decide (fd < 0) = false := by simp; omega
     go_enter Tryz.func67, Tryz.ntmps67
     go_wp2_with fail
     go_ret
     exact ⟨ret_bool HE.out.symm, bg⟩
   · have e0 : decide (fd < 0) = false := by simp; omega
     have e9 : decide (9 < fd) = false := by simp; omega
     have HR2 : Hid (res = bif L r.op == [60, 60] then db else (oneB redWs (L r.op) && ((L r.tag).isEmpty && wv))) := Lib.hid (by rw [← HR.out, decide_eq_true (show 0 ≤ fd by omega), decide_eq_true (show fd ≤ 9 by omega)]; rfl)
     clear h0 h9 HR
     cases hd : (L r.op == [60, 60]) with
     | true =>
       have e1 : (r.op.toList == [60, 60]) = true := by rw [toList_L]; exact hd
       have HE : Hid (res = db) := Lib.hid (by rw [HR2.out, hd]; rfl)
       clear hd
       go_enter Tryz.func67, Tryz.ntmps67
       go_wp2_with fail
       refine (CD.out _ bg).mono ?_
       rintro e w1 ⟨rfl, hb0⟩
       obtain ⟨hcw1, hfw1⟩ := bcell hb0
       have hzw1 := hb0.size
       try simp only [World.size_alloc, World.size_setCell, World.size_drew, size_drewN] at hzw1
       have hBw1 : Below w.heap.size w w1 := since hb0 bg
       have BXw1 := Lib.hid (Bx.later BX.out (since hb0 bg))
       clear hb0
       go_wp2_with fail
       go_ret
       exact ⟨ret_bool HE.out.symm, bg⟩
     | false =>
       have e1 : (r.op.toList == [60, 60]) = false := by rw [toList_L]; exact hd
       have HR3 : Hid (res = (oneB redWs (L r.op) && ((L r.tag).isEmpty && wv))) := Lib.hid (by rw [HR2.out, hd]; rfl)
       clear hd
       cases k1 : (L r.op == [60]) with
       | true =>
         have HR4 : Hid (res = ((L r.tag).isEmpty && wv)) := Lib.hid (by rw [HR3.out, eq_of_beq k1]; rfl)
         have e3 : (r.op.toList == [60]) = true := by rw [toList_L]; exact k1
         clear k1
         cases hte : (L r.tag).isEmpty with
         | false =>
           have e2 : r.tag.toList.isEmpty = false := by rw [isEmpty_L]; exact hte
           have HE : Hid (res = false) := Lib.hid (by rw [HR4.out, hte]; rfl)
           clear hte
           go_enter Tryz.func67, Tryz.ntmps67
           go_wp2_with fail
           go_ret
           exact ⟨ret_bool HE.out.symm, bg⟩
         | true =>
           have e2 : r.tag.toList.isEmpty = true := by rw [isEmpty_L]; exact hte
           have HE : Hid (res = wv) := Lib.hid (by rw [HR4.out, hte]; rfl)
           clear hte
           go_enter Tryz.func67, Tryz.ntmps67
           go_wp2_with fail
           refine (CW.out _ bg).mono ?_
           rintro e w1 ⟨rfl, hb0⟩
           obtain ⟨hcw1, hfw1⟩ := bcell hb0
           have hzw1 := hb0.size
           try simp only [World.size_alloc, World.size_setCell, World.size_drew, size_drewN] at hzw1
           have hBw1 : Below w.heap.size w w1 := since hb0 bg
           have BXw1 := Lib.hid (Bx.later BX.out (since hb0 bg))
           clear hb0
           go_wp2_with fail
           go_ret
           exact ⟨ret_bool HE.out.symm, bg⟩
       | false =>
       have f1 : (r.op.toList == [60]) = false := by rw [toList_L]; exact k1
       cases k2 : (L r.op == [62]) with
       | true =>
         clear k1
         have HR4 : Hid (res = ((L r.tag).isEmpty && wv)) := Lib.hid (by rw [HR3.out, eq_of_beq k2]; rfl)
         have e3 : (r.op.toList == [62]) = true := by rw [toList_L]; exact k2
         clear k2
         cases hte : (L r.tag).isEmpty with
         | false =>
           have e2 : r.tag.toList.isEmpty = false := by rw [isEmpty_L]; exact hte
           have HE : Hid (res = false) := Lib.hid (by rw [HR4.out, hte]; rfl)
           clear hte
           go_enter Tryz.func67, Tryz.ntmps67
           go_wp2_with fail
           go_ret
           exact ⟨ret_bool HE.out.symm, bg⟩
         | true =>
           have e2 : r.tag.toList.isEmpty = true := by rw [isEmpty_L]; exact hte
           have HE : Hid (res = wv) := Lib.hid (by rw [HR4.out, hte]; rfl)
           clear hte
           go_enter Tryz.func67, Tryz.ntmps67
           go_wp2_with fail
           refine (CW.out _ bg).mono ?_
           rintro e w1 ⟨rfl, hb0⟩
           obtain ⟨hcw1, hfw1⟩ := bcell hb0
           have hzw1 := hb0.size
           try simp only [World.size_alloc, World.size_setCell, World.size_drew, size_drewN] at hzw1
           have hBw1 : Below w.heap.size w w1 := since hb0 bg
           have BXw1 := Lib.hid (Bx.later BX.out (since hb0 bg))
           clear hb0
           go_wp2_with fail
           go_ret
           exact ⟨ret_bool HE.out.symm, bg⟩
       | false =>
       have f2 : (r.op.toList == [62]) = false := by rw [toList_L]; exact k2
       cases k3 : (L r.op == [62, 62]) with
       | true =>
         clear k1 k2
         have HR4 : Hid (res = ((L r.tag).isEmpty && wv)) := Lib.hid (by rw [HR3.out, eq_of_beq k3]; rfl)
         have e3 : (r.op.toList == [62, 62]) = true := by rw [toList_L]; exact k3
         clear k3
         cases hte : (L r.tag).isEmpty with
         | false =>
           have e2 : r.tag.toList.isEmpty = false := by rw [isEmpty_L]; exact hte
           have HE : Hid (res = false) := Lib.hid (by rw [HR4.out, hte]; rfl)
           clear hte
           go_enter Tryz.func67, Tryz.ntmps67
           go_wp2_with fail
           go_ret
           exact ⟨ret_bool HE.out.symm, bg⟩
         | true =>
           have e2 : r.tag.toList.isEmpty = true := by rw [isEmpty_L]; exact hte
           have HE : Hid (res = wv) := Lib.hid (by rw [HR4.out, hte]; rfl)
           clear hte
           go_enter Tryz.func67, Tryz.ntmps67
           go_wp2_with fail
           refine (CW.out _ bg).mono ?_
           rintro e w1 ⟨rfl, hb0⟩
           obtain ⟨hcw1, hfw1⟩ := bcell hb0
           have hzw1 := hb0.size
           try simp only [World.size_alloc, World.size_setCell, World.size_drew, size_drewN] at hzw1
           have hBw1 : Below w.heap.size w w1 := since hb0 bg
           have BXw1 := Lib.hid (Bx.later BX.out (since hb0 bg))
           clear hb0
           go_wp2_with fail
           go_ret
           exact ⟨ret_bool HE.out.symm, bg⟩
       | false =>
       have f3 : (r.op.toList == [62, 62]) = false := by rw [toList_L]; exact k3
       cases k4 : (L r.op == [60, 62]) with
       | true =>
         clear k1 k2 k3
         have HR4 : Hid (res = ((L r.tag).isEmpty && wv)) := Lib.hid (by rw [HR3.out, eq_of_beq k4]; rfl)
         have e3 : (r.op.toList == [60, 62]) = true := by rw [toList_L]; exact k4
         clear k4
         cases hte : (L r.tag).isEmpty with
         | false =>
           have e2 : r.tag.toList.isEmpty = false := by rw [isEmpty_L]; exact hte
           have HE : Hid (res = false) := Lib.hid (by rw [HR4.out, hte]; rfl)
           clear hte
           go_enter Tryz.func67, Tryz.ntmps67
           go_wp2_with fail
           go_ret
           exact ⟨ret_bool HE.out.symm, bg⟩
         | true =>
           have e2 : r.tag.toList.isEmpty = true := by rw [isEmpty_L]; exact hte
           have HE : Hid (res = wv) := Lib.hid (by rw [HR4.out, hte]; rfl)
           clear hte
           go_enter Tryz.func67, Tryz.ntmps67
           go_wp2_with fail
           refine (CW.out _ bg).mono ?_
           rintro e w1 ⟨rfl, hb0⟩
           obtain ⟨hcw1, hfw1⟩ := bcell hb0
           have hzw1 := hb0.size
           try simp only [World.size_alloc, World.size_setCell, World.size_drew, size_drewN] at hzw1
           have hBw1 : Below w.heap.size w w1 := since hb0 bg
           have BXw1 := Lib.hid (Bx.later BX.out (since hb0 bg))
           clear hb0
           go_wp2_with fail
           go_ret
           exact ⟨ret_bool HE.out.symm, bg⟩
       | false =>
       have f4 : (r.op.toList == [60, 62]) = false := by rw [toList_L]; exact k4
       cases k5 : (L r.op == [62, 124]) with
       | true =>
         clear k1 k2 k3 k4
         have HR4 : Hid (res = ((L r.tag).isEmpty && wv)) := Lib.hid (by rw [HR3.out, eq_of_beq k5]; rfl)
         have e3 : (r.op.toList == [62, 124]) = true := by rw [toList_L]; exact k5
         clear k5
         cases hte : (L r.tag).isEmpty with
         | false =>
           have e2 : r.tag.toList.isEmpty = false := by rw [isEmpty_L]; exact hte
           have HE : Hid (res = false) := Lib.hid (by rw [HR4.out, hte]; rfl)
           clear hte
           go_enter Tryz.func67, Tryz.ntmps67
           go_wp2_with fail
           go_ret
           exact ⟨ret_bool HE.out.symm, bg⟩
         | true =>
           have e2 : r.tag.toList.isEmpty = true := by rw [isEmpty_L]; exact hte
           have HE : Hid (res = wv) := Lib.hid (by rw [HR4.out, hte]; rfl)
           clear hte
           go_enter Tryz.func67, Tryz.ntmps67
           go_wp2_with fail
           refine (CW.out _ bg).mono ?_
           rintro e w1 ⟨rfl, hb0⟩
           obtain ⟨hcw1, hfw1⟩ := bcell hb0
           have hzw1 := hb0.size
           try simp only [World.size_alloc, World.size_setCell, World.size_drew, size_drewN] at hzw1
           have hBw1 : Below w.heap.size w w1 := since hb0 bg
           have BXw1 := Lib.hid (Bx.later BX.out (since hb0 bg))
           clear hb0
           go_wp2_with fail
           go_ret
           exact ⟨ret_bool HE.out.symm, bg⟩
       | false =>
       have f5 : (r.op.toList == [62, 124]) = false := by rw [toList_L]; exact k5
       cases k6 : (L r.op == [60, 38]) with
       | true =>
         clear k1 k2 k3 k4 k5
         have HR4 : Hid (res = ((L r.tag).isEmpty && wv)) := Lib.hid (by rw [HR3.out, eq_of_beq k6]; rfl)
         have e3 : (r.op.toList == [60, 38]) = true := by rw [toList_L]; exact k6
         clear k6
         cases hte : (L r.tag).isEmpty with
         | false =>
           have e2 : r.tag.toList.isEmpty = false := by rw [isEmpty_L]; exact hte
           have HE : Hid (res = false) := Lib.hid (by rw [HR4.out, hte]; rfl)
           clear hte
           go_enter Tryz.func67, Tryz.ntmps67
           go_wp2_with fail
           go_ret
           exact ⟨ret_bool HE.out.symm, bg⟩
         | true =>
           have e2 : r.tag.toList.isEmpty = true := by rw [isEmpty_L]; exact hte
           have HE : Hid (res = wv) := Lib.hid (by rw [HR4.out, hte]; rfl)
           clear hte
           go_enter Tryz.func67, Tryz.ntmps67
           go_wp2_with fail
           refine (CW.out _ bg).mono ?_
           rintro e w1 ⟨rfl, hb0⟩
           obtain ⟨hcw1, hfw1⟩ := bcell hb0
           have hzw1 := hb0.size
           try simp only [World.size_alloc, World.size_setCell, World.size_drew, size_drewN] at hzw1
           have hBw1 : Below w.heap.size w w1 := since hb0 bg
           have BXw1 := Lib.hid (Bx.later BX.out (since hb0 bg))
           clear hb0
           go_wp2_with fail
           go_ret
           exact ⟨ret_bool HE.out.symm, bg⟩
       | false =>
       have f6 : (r.op.toList == [60, 38]) = false := by rw [toList_L]; exact k6
       cases k7 : (L r.op == [62, 38]) with
       | true =>
         clear k1 k2 k3 k4 k5 k6
         have HR4 : Hid (res = ((L r.tag).isEmpty && wv)) := Lib.hid (by rw [HR3.out, eq_of_beq k7]; rfl)
         have e3 : (r.op.toList == [62, 38]) = true := by rw [toList_L]; exact k7
         clear k7
         cases hte : (L r.tag).isEmpty with
         | false =>
           have e2 : r.tag.toList.isEmpty = false := by rw [isEmpty_L]; exact hte
           have HE : Hid (res = false) := Lib.hid (by rw [HR4.out, hte]; rfl)
           clear hte
           go_enter Tryz.func67, Tryz.ntmps67
           go_wp2_with fail
           go_ret
           exact ⟨ret_bool HE.out.symm, bg⟩
         | true =>
           have e2 : r.tag.toList.isEmpty = true := by rw [isEmpty_L]; exact hte
           have HE : Hid (res = wv) := Lib.hid (by rw [HR4.out, hte]; rfl)
           clear hte
           go_enter Tryz.func67, Tryz.ntmps67
           go_wp2_with fail
           refine (CW.out _ bg).mono ?_
           rintro e w1 ⟨rfl, hb0⟩
           obtain ⟨hcw1, hfw1⟩ := bcell hb0
           have hzw1 := hb0.size
           try simp only [World.size_alloc, World.size_setCell, World.size_drew, size_drewN] at hzw1
           have hBw1 : Below w.heap.size w w1 := since hb0 bg
           have BXw1 := Lib.hid (Bx.later BX.out (since hb0 bg))
           clear hb0
           go_wp2_with fail
           go_ret
           exact ⟨ret_bool HE.out.symm, bg⟩
       | false =>
       have f7 : (r.op.toList == [62, 38]) = false := by rw [toList_L]; exact k7
       have HE : Hid (res = false) := Lib.hid (by
        rw [HR3.out, oneB, redWs]
        simp only [List.contains_cons, k1, k2, k3, k4, k5, k6, k7]
        simp)
       clear k1 k2 k3 k4 k5 k6 k7
       go_enter Tryz.func67, Tryz.ntmps67
       go_wp2_with fail
       go_ret
       exact ⟨ret_bool HE.out.symm, bg⟩
end Go.Proofs.YtnackmnoldkihaaGreatDoor
