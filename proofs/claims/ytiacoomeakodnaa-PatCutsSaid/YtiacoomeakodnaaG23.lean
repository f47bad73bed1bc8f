/-
  The document's Means and Cut: the walks.
-/
import Derived.Test.YtiacoomeakodnaaG21
namespace Go.Proofs.Ytiacoomeakodnaa
open Go.RowKit

theorem means_sign {x : Sg} {t : List Sg} (h : (isb x 42 || isb x 63) = true) : meansP (comp (x :: t)) = true := by
  rw [comp_sign (by rw [Bool.or_comm]; exact h)]
  have : x.b ≠ 98 := by
    intro e
    simp [isb, e] at h
  simp [meansP, this]
theorem means_set {x : Sg} {t : List Sg} (h : isb x 91 = true) {p : Pt} {m : Nat} (hs : setP t = some (p, m)) : meansP (comp (x :: t)) = true := by
  rw [comp_set h hs]
  simp [meansP, setP_kind hs]
theorem means_byte {x : Sg} {t : List Sg} (h : (isb x 42 || isb x 63) = false) (h2 : isb x 91 = true → setP t = none) : meansP (comp (x :: t)) = meansP (comp t) := by
  rw [comp_byte (by rw [Bool.or_comm]; exact h) h2]
  simp [meansP]

set_option maxHeartbeats 2000000 in
theorem rmeans_any (l : List Sg) (v : Value) (hn : l.length ≤ 100000) (w : World) (hl : Sl w w.heap.size 2 v l.length (l.flatMap sgC)) :
    Calls Try.prog 15 #[v] w fun e w' => e = .returned (.bool (meansP (comp l))) ∧ Below w.heap.size w w' := by
  have CI : Hid (∀ W, Below w.heap.size w W → ∀ (k : Nat) (b : UInt8) (c : Int) (r : Bool), c = ((b.toNat : Nat) : Int) → k ≤ 100010 → isAtL l k b = r → Calls Try.prog 24 #[v, .int .i64 (k : Int), .int .u8 c] W fun e w' => e = .returned (.bool r) ∧ W = w') := Lib.hid fun W hW k b c r hc hk hr => by
    rw [← hr, hc]; exact ris_any l v k b W ((hl.below hW).mono hW.size) (by omega)
  have CS : Hid (∀ W, Below w.heap.size w W → ∀ (k : Nat), k ≤ l.length → Calls Try.prog 25 #[v, .int .i64 (k : Int), .int .u8 0] W (SetAt ((setP (l.drop k)).map fun x => (fitsP x.1 0, x.2)) k W)) := Lib.hid fun W hW k hk => rset_any l v k 0 W ((hl.below hW).mono hW.size) hn hk
  obtain ⟨R, hR⟩ : ∃ R, R = meansP (comp l) := ⟨_, rfl⟩
  rw [← hR]
  obtain ⟨n, hnl⟩ : ∃ n, n = l.length := ⟨_, rfl⟩
  rw [← hnl] at hn CS hl
  obtain ⟨a, cap, rfl⟩ : ∃ a cap, v = .slice a n cap := by
    obtain ⟨_, a, cap, h, _⟩ := hl
    exact ⟨a, cap, h⟩
  have HN := Lib.hid hnl
  have HR := Lib.hid hR
  clear hl hnl hR
  go_enter Try.func15, Try.ntmps15
  go_wp2_with fail
  go_loopw [3] (fun i wr => ∃ k : Nat, k ≤ n ∧ i = .int .i64 k ∧ R = meansP (comp (l.drop k)) ∧ Below w.heap.size w wr) (fun i _ => n - (intOf i).toNat)
  case atStart => exact ⟨0, Nat.zero_le _, rfl, HR.out, Below.refl _ _⟩
  case round =>
    obtain ⟨k, hk, rfl, hr, hb⟩ := hrel
    have HB := Lib.hid hb
    have HRR := Lib.hid hr
    have hsz := hb.size
    clear hr hb HR
    by_cases hlt : k < n
    · obtain ⟨x, hx⟩ : ∃ x, l[k]? = some x := ⟨_, List.getElem?_eq_getElem (by rw [← HN.out]; omega)⟩
      obtain ⟨T, hT⟩ : ∃ T, T = l.drop (k + 1) := ⟨_, rfl⟩
      have hdr := drop_cons hx
      rw [← hT] at hdr
      rw [hdr] at HRR
      obtain ⟨q1, hq1⟩ : ∃ r, isb x 42 = r := ⟨_, rfl⟩
      obtain ⟨q2, hq2⟩ : ∃ r, isb x 63 = r := ⟨_, rfl⟩
      obtain ⟨q3, hq3⟩ : ∃ r, isb x 91 = r := ⟨_, rfl⟩
      have D1 := Lib.hid (CI.out wr HB.out k 42 42 q1 rfl (by omega) ((isAtL_some hx _).trans hq1))
      have D2 := Lib.hid (CI.out wr HB.out k 63 63 q2 rfl (by omega) ((isAtL_some hx _).trans hq2))
      have D3 := Lib.hid (CI.out wr HB.out k 91 91 q3 rfl (by omega) ((isAtL_some hx _).trans hq3))
      have D4 := Lib.hid (CS.out wr HB.out (k + 1) (by omega))
      rw [← hT, show (((k + 1 : Nat)) : Int) = (k : Int) + 1 by omega] at D4
      have HT := Lib.hid hT
      clear hx hdr hT
      cases q1 with
      | true =>
        have hR : R = true := by rw [HRR.out, means_sign (by rw [hq1]; rfl)]
        clear hq1 hq2 hq3
        subst hR
        clear HRR
        go_wp2_with (go_at_call 24; with_reducible first | (refine D1.out.mono ?_; rintro e w' ⟨rfl, rfl⟩) | (refine D2.out.mono ?_; rintro e w' ⟨rfl, rfl⟩) | (refine D3.out.mono ?_; rintro e w' ⟨rfl, rfl⟩))
        go_ret
        exact ⟨rfl, HB.out⟩
      | false =>
        cases q2 with
        | true =>
          have hR : R = true := by rw [HRR.out, means_sign (by rw [hq1, hq2]; rfl)]
          clear hq1 hq2 hq3
          subst hR
          clear HRR
          go_wp2_with (go_at_call 24; with_reducible first | (refine D1.out.mono ?_; rintro e w' ⟨rfl, rfl⟩) | (refine D2.out.mono ?_; rintro e w' ⟨rfl, rfl⟩) | (refine D3.out.mono ?_; rintro e w' ⟨rfl, rfl⟩))
          go_ret
          exact ⟨rfl, HB.out⟩
        | false =>
          cases q3 with
          | false =>
            have HR2 : Hid (R = meansP (comp (l.drop (k + 1)))) := Lib.hid (by rw [HRR.out, means_byte (by rw [hq1, hq2]; rfl) (fun h => by rw [hq3] at h; cases h), HT.out])
            clear hq1 hq2 hq3 HRR D4
            go_wp2_with (go_at_call 24; with_reducible first | (refine D1.out.mono ?_; rintro e w' ⟨rfl, rfl⟩) | (refine D2.out.mono ?_; rintro e w' ⟨rfl, rfl⟩) | (refine D3.out.mono ?_; rintro e w' ⟨rfl, rfl⟩))
            go_roundw
            case rel => exact ⟨k + 1, by omega, by go_num, HR2.out, HB.out⟩
            case measure => simp [intOf]; omega
          | true =>
            obtain ⟨o, ho⟩ : ∃ o, setP T = o := ⟨_, rfl⟩
            rw [ho] at D4
            cases o with
            | none =>
              have E4 : Hid (Calls Try.prog 25 #[.slice a n cap, .int .i64 ((k : Int) + 1), .int .u8 0] wr fun e w' => e = .returned (.tuple #[.bool false, .int .i64 (-1)]) ∧ Below wr.heap.size wr w') := Lib.hid D4.out
              have HR2 : Hid (R = meansP (comp (l.drop (k + 1)))) := Lib.hid (by rw [HRR.out, means_byte (by rw [hq1, hq2]; rfl) (fun _ => ho), HT.out])
              clear hq1 hq2 hq3 HRR D4 ho
              go_wp2_with (go_at_call 24; with_reducible first | (refine D1.out.mono ?_; rintro e w' ⟨rfl, rfl⟩) | (refine D2.out.mono ?_; rintro e w' ⟨rfl, rfl⟩) | (refine D3.out.mono ?_; rintro e w' ⟨rfl, rfl⟩))
              refine E4.out.mono ?_
              rintro e w1 ⟨rfl, hb1⟩
              have HB1 := Lib.hid (HB.out.trans (hb1.mono hsz))
              clear hb1
              go_wp2
              go_roundw
              case rel => exact ⟨k + 1, by omega, by go_num, HR2.out, HB1.out⟩
              case measure => simp [intOf]; omega
            | some pm =>
              obtain ⟨p, m⟩ := pm
              have hR : R = true := by rw [HRR.out, means_set hq3 ho]
              subst hR
              obtain ⟨f, hf⟩ : ∃ f, fitsP p 0 = f := ⟨_, rfl⟩
              have hm := setP_gt ho
              rw [HT.out, List.length_drop, ← HN.out] at hm
              have hkm : k + 1 + m ≤ n := by omega
              have E4 : Hid (Calls Try.prog 25 #[.slice a n cap, .int .i64 ((k : Int) + 1), .int .u8 0] wr fun e w' => e = .returned (.tuple #[.bool f, .int .i64 (((k + 1 + m : Nat)) : Int)]) ∧ Below wr.heap.size wr w') := Lib.hid (by
                rw [← hf]; exact D4.out)
              clear hq1 hq2 hq3 HRR D4 ho hf hm
              go_wp2_with (go_at_call 24; with_reducible first | (refine D1.out.mono ?_; rintro e w' ⟨rfl, rfl⟩) | (refine D2.out.mono ?_; rintro e w' ⟨rfl, rfl⟩) | (refine D3.out.mono ?_; rintro e w' ⟨rfl, rfl⟩))
              refine E4.out.mono ?_
              rintro e w1 ⟨rfl, hb1⟩
              have HB1 := Lib.hid (HB.out.trans (hb1.mono hsz))
              clear hb1
              go_wp2
              go_ret
              exact ⟨rfl, HB1.out⟩
    · have hR : R = false := by rw [HRR.out, List.drop_of_length_le (by rw [← HN.out]; omega), comp_nil]; rfl
      subst hR
      clear HRR
      go_wp2
      go_ret
      exact ⟨rfl, HB.out⟩

/-- As far as it has been looked: the best of the numbers below k. -/
def BestTo (m : Nat → Bool) (k : Nat) (long : Bool) : Option Nat → Prop
  | none => ∀ n, n < k → m n = false
  | some b => b < k ∧ m b = true ∧ ∀ n, n < k → m n = true → if long then n ≤ b else b ≤ n
def bestV : Option Nat → Value
  | none => .int .i64 (-1)
  | some b => .int .i64 (b : Int)
attribute [go_sem] bestV
theorem BestTo.next {m : Nat → Bool} {k : Nat} {long : Bool} {o : Option Nat} (h : BestTo m k long o) : BestTo m (k + 1) long (if m k && (o.isNone || long) then some k else o) := by
  cases hm : m k with
  | false =>
    simp
    cases o with
    | none =>
      intro n hn
      by_cases e : n = k
      · rw [e]; exact hm
      · exact h n (by omega)
    | some b =>
      refine ⟨by have := h.1; omega, h.2.1, fun n hn hmn => ?_⟩
      by_cases e : n = k
      · rw [e, hm] at hmn; cases hmn
      · exact h.2.2 n (by omega) hmn
  | true =>
    cases o with
    | none =>
      simp
      refine ⟨by omega, hm, fun n hn hmn => ?_⟩
      by_cases e : n = k
      · rw [e]; cases long <;> simp
      · rw [h n (by omega)] at hmn; cases hmn
    | some b =>
      cases long with
      | true =>
        simp
        exact ⟨by omega, hm, fun n hn _ => by simp; omega⟩
      | false =>
        simp
        refine ⟨by have := h.1; omega, h.2.1, fun n hn hmn => ?_⟩
        by_cases e : n = k
        · have := h.1; simp; omega
        · exact h.2.2 n (by omega) hmn
theorem BestTo.best {m : Nat → Bool} {len : Nat} {long : Bool} {o o' : Option Nat} (h : BestTo m (len + 1) long o) (h' : IsBest m len long o') : o' = o := by
  cases o with
  | none => exact best_uniq_none h' fun n hn => h n (by omega)
  | some b => exact best_uniq_some h' (by have := h.1; omega) h.2.1 fun n hn hm => h.2.2 n (by omega) hm

set_option maxHeartbeats 4000000 in
theorem rcut_any (l : List Sg) (v : Value) (hn : l.length ≤ 100000) (s : ByteArray) (en lg : Bool) (w : World) (hl : Sl w w.heap.size 2 v l.length (l.flatMap sgC)) (hs : s.size ≤ 1000) (o : Option Nat) (ho : IsBest (fun n => matchP (comp l) (cutPart (L s) en n)) s.size lg o) :
    Calls Try.prog 19 #[v, .string s, .bool en, .bool lg] w fun e w' => e = .returned (.string (cutLeft s en o)) ∧ Below w.heap.size w w' := by
  obtain ⟨m, hm⟩ : ∃ m : Nat → Bool, m = fun n => matchP (comp l) (cutPart (L s) en n) := ⟨_, rfl⟩
  rw [← hm] at ho
  have CM : Hid (∀ W, Below w.heap.size w W → ∀ (s' : ByteArray) (r : Bool), s'.size ≤ 100000 → matchP (comp l) (L s') = r → Calls Try.prog 13 #[v, .int .i64 0, .string s'] W fun e w' => e = .returned (.bool r) ∧ Below W.heap.size W w') := Lib.hid fun W hW s' r h1 h2 => by
    rw [← h2]; exact rmatch_any l v hn l.length 0 s' W (by omega) (by omega) h1 ((hl.below hW).mono hW.size)
  have HO := Lib.hid ho
  have HM := Lib.hid hm
  clear hl ho hm
  cases en with
  | false =>
    go_enter Try.func19, Try.ntmps19
    go_wp2_with fail
    go_loopw [9, 10] (fun bv i wr => ∃ (k : Nat) (ob : Option Nat), k ≤ s.size + 1 ∧ i = .int .i64 k ∧ bv = bestV ob ∧ BestTo m k lg ob ∧ Below w.heap.size w wr) (fun _ i _ => s.size + 1 - (intOf i).toNat)
    case atStart => exact ⟨0, none, Nat.zero_le _, rfl, rfl, fun n hn => by omega, Below.refl _ _⟩
    case round =>
      obtain ⟨k, ob, hk, rfl, rfl, hbt, hb⟩ := hrel
      have HB := Lib.hid hb
      have HBT := Lib.hid hbt
      have hsz := hb.size
      clear hb hbt
      by_cases hlt : k ≤ s.size
      · obtain ⟨r, hr⟩ : ∃ r, m k = r := ⟨_, rfl⟩
        have HNX := Lib.hid HBT.out.next
        rw [hr] at HNX
        have HPART : Hid (matchP (comp l) (cutPart (L s) false k) = r) := Lib.hid (by rw [← hr, HM.out])
        clear hr
        have HLEN : Hid ((s.extract 0 k).size ≤ 100000) := Lib.hid (by have := extract_len s 0 k; omega)
        have HP2 : Hid (matchP (comp l) (L (s.extract 0 k)) = r) := Lib.hid (by rw [S_extract_to, L_S]; exact HPART.out)
        cases r with
        | false =>
          simp at HNX
          cases ob
          all_goals
            go_wp2_with fail
            refine ((CM.out _ HB.out _ _ HLEN.out HP2.out)).mono ?_
            rintro e w1 ⟨rfl, hb1⟩
            have HB1 := Lib.hid (HB.out.trans (hb1.mono hsz))
            clear hb1
            go_wp2
            go_roundw
            case rel => exact ⟨k + 1, _, by omega, by go_num, by first | exact rfl | trivial, HNX.out, HB1.out⟩
            case measure => simp [intOf]; omega
        | true =>
          cases ob with
          | none =>
            simp at HNX
            go_wp2_with fail
            refine ((CM.out _ HB.out _ _ HLEN.out HP2.out)).mono ?_
            rintro e w1 ⟨rfl, hb1⟩
            have HB1 := Lib.hid (HB.out.trans (hb1.mono hsz))
            clear hb1
            go_wp2
            go_roundw
            case rel => exact ⟨k + 1, some k, by omega, by go_num, rfl, HNX.out, HB1.out⟩
            case measure => simp [intOf]; omega
          | some b =>
            have hb0 : 0 ≤ (b : Int) := by omega
            cases lg with
            | true =>
              simp at HNX
              go_wp2_with fail
              refine ((CM.out _ HB.out _ _ HLEN.out HP2.out)).mono ?_
              rintro e w1 ⟨rfl, hb1⟩
              have HB1 := Lib.hid (HB.out.trans (hb1.mono hsz))
              clear hb1
              go_wp2
              go_roundw
              case rel => exact ⟨k + 1, some k, by omega, by go_num, rfl, HNX.out, HB1.out⟩
              case measure => simp [intOf]; omega
            | false =>
              simp at HNX
              go_wp2_with fail
              refine ((CM.out _ HB.out _ _ HLEN.out HP2.out)).mono ?_
              rintro e w1 ⟨rfl, hb1⟩
              have HB1 := Lib.hid (HB.out.trans (hb1.mono hsz))
              clear hb1
              go_wp2
              go_roundw
              case rel => exact ⟨k + 1, some b, by omega, by go_num, rfl, HNX.out, HB1.out⟩
              case measure => simp [intOf]; omega
      · have hR : o = ob := BestTo.best (by have e : k = s.size + 1 := by omega
                                            rw [← e]; exact HBT.out) HO.out
        subst hR
        cases o with
        | none =>
          clear HBT HO
          go_wp2
          go_ret
          exact ⟨rfl, HB.out⟩
        | some b =>
          have hbs : b ≤ s.size := HO.out.1
          have hv : ((s.size : Nat) : Int) - (b : Int) = ((s.size - b : Nat) : Int) := by omega
          have hb0 : 0 ≤ (b : Int) := by omega
          clear HBT HO
          go_wp2
          go_ret
          exact ⟨rfl, HB.out⟩
  | true =>
    go_enter Try.func19, Try.ntmps19
    go_wp2_with fail
    go_loopw [9, 10] (fun bv i wr => ∃ (k : Nat) (ob : Option Nat), k ≤ s.size + 1 ∧ i = .int .i64 k ∧ bv = bestV ob ∧ BestTo m k lg ob ∧ Below w.heap.size w wr) (fun _ i _ => s.size + 1 - (intOf i).toNat)
    case atStart => exact ⟨0, none, Nat.zero_le _, rfl, rfl, fun n hn => by omega, Below.refl _ _⟩
    case round =>
      obtain ⟨k, ob, hk, rfl, rfl, hbt, hb⟩ := hrel
      have HB := Lib.hid hb
      have HBT := Lib.hid hbt
      have hsz := hb.size
      clear hb hbt
      by_cases hlt : k ≤ s.size
      · obtain ⟨r, hr⟩ : ∃ r, m k = r := ⟨_, rfl⟩
        have HNX := Lib.hid HBT.out.next
        rw [hr] at HNX
        have HPART : Hid (matchP (comp l) (cutPart (L s) true k) = r) := Lib.hid (by rw [← hr, HM.out])
        clear hr
        have hv : ((s.size : Nat) : Int) - (k : Int) = ((s.size - k : Nat) : Int) := by omega
        have HLEN : Hid ((s.extract (s.size - k) s.size).size ≤ 100000) := Lib.hid (by have := extract_len s (s.size - k) s.size; omega)
        have HP2 : Hid (matchP (comp l) (L (s.extract (s.size - k) s.size)) = r) := Lib.hid (by rw [S_extract_from, L_S]; exact HPART.out)
        cases r with
        | false =>
          simp at HNX
          cases ob
          all_goals
            go_wp2_with fail
            refine ((CM.out _ HB.out _ _ HLEN.out HP2.out)).mono ?_
            rintro e w1 ⟨rfl, hb1⟩
            have HB1 := Lib.hid (HB.out.trans (hb1.mono hsz))
            clear hb1
            go_wp2
            go_roundw
            case rel => exact ⟨k + 1, _, by omega, by go_num, by first | exact rfl | trivial, HNX.out, HB1.out⟩
            case measure => simp [intOf]; omega
        | true =>
          cases ob with
          | none =>
            simp at HNX
            go_wp2_with fail
            refine ((CM.out _ HB.out _ _ HLEN.out HP2.out)).mono ?_
            rintro e w1 ⟨rfl, hb1⟩
            have HB1 := Lib.hid (HB.out.trans (hb1.mono hsz))
            clear hb1
            go_wp2
            go_roundw
            case rel => exact ⟨k + 1, some k, by omega, by go_num, rfl, HNX.out, HB1.out⟩
            case measure => simp [intOf]; omega
          | some b =>
            have hb0 : 0 ≤ (b : Int) := by omega
            cases lg with
            | true =>
              simp at HNX
              go_wp2_with fail
              refine ((CM.out _ HB.out _ _ HLEN.out HP2.out)).mono ?_
              rintro e w1 ⟨rfl, hb1⟩
              have HB1 := Lib.hid (HB.out.trans (hb1.mono hsz))
              clear hb1
              go_wp2
              go_roundw
              case rel => exact ⟨k + 1, some k, by omega, by go_num, rfl, HNX.out, HB1.out⟩
              case measure => simp [intOf]; omega
            | false =>
              simp at HNX
              go_wp2_with fail
              refine ((CM.out _ HB.out _ _ HLEN.out HP2.out)).mono ?_
              rintro e w1 ⟨rfl, hb1⟩
              have HB1 := Lib.hid (HB.out.trans (hb1.mono hsz))
              clear hb1
              go_wp2
              go_roundw
              case rel => exact ⟨k + 1, some b, by omega, by go_num, rfl, HNX.out, HB1.out⟩
              case measure => simp [intOf]; omega
      · have hR : o = ob := BestTo.best (by have e : k = s.size + 1 := by omega
                                            rw [← e]; exact HBT.out) HO.out
        subst hR
        cases o with
        | none =>
          clear HBT HO
          go_wp2
          go_ret
          exact ⟨rfl, HB.out⟩
        | some b =>
          have hbs : b ≤ s.size := HO.out.1
          have hv : ((s.size : Nat) : Int) - (b : Int) = ((s.size - b : Nat) : Int) := by omega
          have hb0 : 0 ≤ (b : Int) := by omega
          clear HBT HO
          go_wp2
          go_ret
          exact ⟨rfl, HB.out⟩
end Go.Proofs.Ytiacoomeakodnaa
