/-
  The document's In, named: the walks.
-/
import Derived.Test.YtiacoomeakodnaaG17
namespace Go.Proofs.Ytiacoomeakodnaa
open Go.RowKit

def inHas (o : Option (List Span)) (c : UInt8) : Bool := match o with
  | some sp => sp.any (inSpan c)
  | none => false
theorem rin_no (n : ByteArray) (c : UInt8) (w : World) (h : classL (L n) = none) : Calls Try.prog 29 #[.string n, .int .u8 ((c.toNat : Nat) : Int)] w fun e w' => e = .returned (.tuple #[.bool false, .bool false]) ∧ w = w' := by
  obtain ⟨h1, h2, h3, h4, h5, h6, h7, h8, h9, h10, h11, h12⟩ := classL_none h
  have e1 : (n.toList == [97, 108, 112, 104, 97]) = false := ne_toList h1
  have e2 : (n.toList == [100, 105, 103, 105, 116]) = false := ne_toList h2
  have e3 : (n.toList == [97, 108, 110, 117, 109]) = false := ne_toList h3
  have e4 : (n.toList == [117, 112, 112, 101, 114]) = false := ne_toList h4
  have e5 : (n.toList == [108, 111, 119, 101, 114]) = false := ne_toList h5
  have e6 : (n.toList == [115, 112, 97, 99, 101]) = false := ne_toList h6
  have e7 : (n.toList == [98, 108, 97, 110, 107]) = false := ne_toList h7
  have e8 : (n.toList == [112, 117, 110, 99, 116]) = false := ne_toList h8
  have e9 : (n.toList == [120, 100, 105, 103, 105, 116]) = false := ne_toList h9
  have e10 : (n.toList == [99, 110, 116, 114, 108]) = false := ne_toList h10
  have e11 : (n.toList == [112, 114, 105, 110, 116]) = false := ne_toList h11
  have e12 : (n.toList == [103, 114, 97, 112, 104]) = false := ne_toList h12
  clear h h1 h2 h3 h4 h5 h6 h7 h8 h9 h10 h11 h12
  go_enter Try.func29, Try.ntmps29
  go_wp2
  all_goals
    go_ret2
    exact ⟨rfl, rfl⟩

theorem rin_any (n : ByteArray) (c : UInt8) (w : World) : Calls Try.prog 29 #[.string n, .int .u8 ((c.toNat : Nat) : Int)] w fun e w' => e = .returned (.tuple #[.bool (inHas (classL (L n)) c), .bool (classL (L n)).isSome]) ∧ w = w' := by
  by_cases h0 : L n = nmAlpha
  · have e : n = ⟨#[97, 108, 112, 104, 97]⟩ := L_inj h0
    have ec : classL (L n) = some [(97, 122), (65, 90)] := by rw [h0]; decide
    rw [ec, e]
    exact rin_Alpha c w
  by_cases h1 : L n = nmDigit
  · have e : n = ⟨#[100, 105, 103, 105, 116]⟩ := L_inj h1
    have ec : classL (L n) = some [(48, 57)] := by rw [h1]; decide
    rw [ec, e]
    exact rin_Digit c w
  by_cases h2 : L n = nmAlnum
  · have e : n = ⟨#[97, 108, 110, 117, 109]⟩ := L_inj h2
    have ec : classL (L n) = some [(97, 122), (65, 90), (48, 57)] := by rw [h2]; decide
    rw [ec, e]
    exact rin_Alnum c w
  by_cases h3 : L n = nmUpper
  · have e : n = ⟨#[117, 112, 112, 101, 114]⟩ := L_inj h3
    have ec : classL (L n) = some [(65, 90)] := by rw [h3]; decide
    rw [ec, e]
    exact rin_Upper c w
  by_cases h4 : L n = nmLower
  · have e : n = ⟨#[108, 111, 119, 101, 114]⟩ := L_inj h4
    have ec : classL (L n) = some [(97, 122)] := by rw [h4]; decide
    rw [ec, e]
    exact rin_Lower c w
  by_cases h5 : L n = nmSpace
  · have e : n = ⟨#[115, 112, 97, 99, 101]⟩ := L_inj h5
    have ec : classL (L n) = some [(9, 13), (32, 32)] := by rw [h5]; decide
    rw [ec, e]
    exact rin_Space c w
  by_cases h6 : L n = nmBlank
  · have e : n = ⟨#[98, 108, 97, 110, 107]⟩ := L_inj h6
    have ec : classL (L n) = some [(9, 9), (32, 32)] := by rw [h6]; decide
    rw [ec, e]
    exact rin_Blank c w
  by_cases h7 : L n = nmPunct
  · have e : n = ⟨#[112, 117, 110, 99, 116]⟩ := L_inj h7
    have ec : classL (L n) = some [(33, 47), (58, 64), (91, 96), (123, 126)] := by rw [h7]; decide
    rw [ec, e]
    exact rin_Punct c w
  by_cases h8 : L n = nmXdigit
  · have e : n = ⟨#[120, 100, 105, 103, 105, 116]⟩ := L_inj h8
    have ec : classL (L n) = some [(48, 57), (97, 102), (65, 70)] := by rw [h8]; decide
    rw [ec, e]
    exact rin_Xdigit c w
  by_cases h9 : L n = nmCntrl
  · have e : n = ⟨#[99, 110, 116, 114, 108]⟩ := L_inj h9
    have ec : classL (L n) = some [(0, 31), (127, 127)] := by rw [h9]; decide
    rw [ec, e]
    exact rin_Cntrl c w
  by_cases h10 : L n = nmPrint
  · have e : n = ⟨#[112, 114, 105, 110, 116]⟩ := L_inj h10
    have ec : classL (L n) = some [(32, 126)] := by rw [h10]; decide
    rw [ec, e]
    exact rin_Print c w
  by_cases h11 : L n = nmGraph
  · have e : n = ⟨#[103, 114, 97, 112, 104]⟩ := L_inj h11
    have ec : classL (L n) = some [(33, 126)] := by rw [h11]; decide
    rw [ec, e]
    exact rin_Graph c w
  have hn : classL (L n) = none := by
    unfold classL
    rw [if_neg h0, if_neg h1, if_neg h2, if_neg h3, if_neg h4, if_neg h5, if_neg h6, if_neg h7, if_neg h8, if_neg h9, if_neg h10, if_neg h11]
  rw [hn]
  exact rin_no n c w hn

/-- A name, and how many signs it takes. -/
def namedN : List Sg → Option (List UInt8 × Nat)
  | a :: b :: l => if isb a 91 && isb b 58 then match nameS [] 2 l with
    | some (n, k) => if (classL n).isSome then some (n, k) else none
    | none => none else none
  | _ => none
theorem namedN_yes {x y : Sg} {l : List Sg} (h : (isb x 91 && isb y 58) = true) : namedN (x :: y :: l) = match nameS [] 2 l with
    | some (n, k) => if (classL n).isSome then some (n, k) else none
    | none => none := by
  rw [namedN, if_pos h]
theorem namedN_no {x y : Sg} {l : List Sg} (h : (isb x 91 && isb y 58) = false) : namedN (x :: y :: l) = none := by rw [namedN, if_neg (by rw [h]; decide)]
theorem named_of (l : List Sg) : namedS l = (namedN l).bind fun x => (classL x.1).map (·, x.2) := by
  match l with
  | [] => rfl
  | [_] => rfl
  | a :: b :: l =>
    cases h : (isb a 91 && isb b 58) with
    | false => rw [namedS_no h, namedN_no h]; rfl
    | true =>
      rw [namedS_yes h, namedN_yes h]
      cases nameS [] 2 l with
      | none => rfl
      | some x =>
        obtain ⟨n, k⟩ := x
        show (classL n).map (·, k) = (if (classL n).isSome then some (n, k) else none).bind _
        cases hc : classL n with
        | none => rfl
        | some sp =>
          rw [if_pos (by rfl)]
          show _ = (classL n).map (·, k)
          rw [hc]

/-- What named answers. -/
def namedAns (o : Option (List UInt8 × Nat)) (at_ : Nat) : Value := match o with
  | some (n, k) => .tuple #[.string (S n), .int .i64 ((at_ : Int) + (k : Nat))]
  | none => .tuple #[.string ⟨#[]⟩, .int .i64 (-1)]
def NamedAt (o : Option (List UInt8 × Nat)) (at_ : Nat) (w : World) (e : Ending) (w' : World) : Prop := e = .returned (namedAns o at_) ∧ Below w.heap.size w w'

set_option maxHeartbeats 2000000 in
theorem rnamed_any (l : List Sg) (v : Value) (k0 : Nat) (w : World) (hl : Sl w w.heap.size 2 v l.length (l.flatMap sgC)) (hn : l.length ≤ 100000) (hk0 : k0 ≤ l.length) :
    Calls Try.prog 28 #[v, .int .i64 (k0 : Int)] w (NamedAt (namedN (l.drop k0)) k0 w) := by
  obtain ⟨R, hR⟩ : ∃ R, R = namedN (l.drop k0) := ⟨_, rfl⟩
  rw [← hR]
  have CI : Hid (∀ W, Below w.heap.size w W → ∀ (k : Nat) (b : UInt8) (c : Int) (r : Bool), c = ((b.toNat : Nat) : Int) → k ≤ 100010 → isAtL l k b = r → Calls Try.prog 24 #[v, .int .i64 (k : Int), .int .u8 c] W fun e w' => e = .returned (.bool r) ∧ W = w') := Lib.hid fun W hW k b c r hc hk hr => by
    rw [← hr, hc]; exact ris_any l v k b W ((hl.below hW).mono hW.size) (by omega)
  obtain ⟨n, hnl⟩ : ∃ n, n = l.length := ⟨_, rfl⟩
  rw [← hnl] at hn hk0
  have HL := Lib.hid hl
  rw [← hnl] at hl
  obtain ⟨a, cap, rfl⟩ : ∃ a cap, v = .slice a n cap := by
    obtain ⟨_, a, cap, h, _⟩ := hl
    exact ⟨a, cap, h⟩
  have HN := Lib.hid hnl
  obtain ⟨m, hm⟩ : ∃ m, m = l.drop k0 := ⟨_, rfl⟩
  rw [← hm] at hR
  have hml : m.length = n - k0 := by rw [hm, List.length_drop, hnl]
  have hat : ∀ (j : Nat) (x : Sg), m[j]? = some x → l[k0 + j]? = some x := fun j x h => by rw [hm, List.getElem?_drop] at h; exact h
  have HAT := Lib.hid hat
  have HML := Lib.hid hml
  have HR0 := Lib.hid hR
  clear hR hnl hl hm hat hml
  by_cases hk2 : k0 + 1 < n
  · obtain ⟨x, y, t, rfl⟩ : ∃ x y t, m = x :: y :: t := by
      have := HML.out
      match m, this with
      | [], h => simp at h; omega
      | [_], h => simp at h; omega
      | x :: y :: t, _ => exact ⟨x, y, t, rfl⟩
    obtain ⟨q1, hq1⟩ : ∃ r, isb x 91 = r := ⟨_, rfl⟩
    obtain ⟨q2, hq2⟩ : ∃ r, isb y 58 = r := ⟨_, rfl⟩
    have C1 : Hid (∀ W, Below w.heap.size w W → _) := Lib.hid (fun W hW => CI.out W hW k0 91 91 q1 rfl (by omega) ((isAtL_some (HAT.out 0 x rfl) _).trans hq1))
    have C2 : Hid (∀ W, Below w.heap.size w W → _) := Lib.hid (fun W hW => CI.out W hW (k0 + 1) 58 58 q2 rfl (by omega) ((isAtL_some (HAT.out 1 y rfl) _).trans hq2))
    have e1 : (((k0 + 1 : Nat)) : Int) = (k0 : Int) + 1 := by omega
    rw [e1] at C2
    clear e1
    cases q1 with
    | false =>
      have hR : R = none := by rw [HR0.out, namedN_no (by rw [hq1]; rfl)]
      subst hR
      clear hq1 hq2
      go_enter Try.func28, Try.ntmps28
      go_wp2_with fail
      refine (C1.out _ (Below.refl _ _)).mono ?_
      rintro e w' ⟨rfl, rfl⟩
      go_wp2_with fail
      go_ret2
      exact ⟨rfl, Below.refl _ _⟩
    | true =>
      cases q2 with
      | false =>
        have hR : R = none := by rw [HR0.out, namedN_no (by rw [hq1, hq2]; rfl)]
        subst hR
        clear hq1 hq2
        go_enter Try.func28, Try.ntmps28
        go_wp2_with fail
        refine (C1.out _ (Below.refl _ _)).mono ?_
        rintro e w' ⟨rfl, rfl⟩
        go_wp2_with fail
        refine (C2.out _ (Below.refl _ _)).mono ?_
        rintro e w' ⟨rfl, rfl⟩
        go_wp2_with fail
        go_ret2
        exact ⟨rfl, Below.refl _ _⟩
      | true =>
        obtain ⟨Q, hQ⟩ : ∃ Q, Q = nameS [] 2 t := ⟨_, rfl⟩
        have hR := HR0.out
        rw [namedN_yes (by rw [hq1, hq2]; rfl), ← hQ] at hR
        have HQ := Lib.hid hQ
        have HR := Lib.hid hR
        clear hq1 hq2 hQ hR HR0
        go_enter Try.func28, Try.ntmps28
        go_wp2_with fail
        refine (C1.out _ (Below.refl _ _)).mono ?_
        rintro e w' ⟨rfl, rfl⟩
        go_wp2_with fail
        refine (C2.out _ (Below.refl _ _)).mono ?_
        rintro e w' ⟨rfl, rfl⟩
        go_wp2_with fail
        clear C1 C2
        go_loopw [6, 7] (fun nm i wr => ∃ (k : Nat) (s : List UInt8), (S s).size ≤ k ∧ k0 + k ≤ n ∧ i = .int .i64 ((k0 : Int) + (k : Nat)) ∧ nm = .string (S s) ∧ Q = nameS s k ((x :: y :: t).drop k) ∧ Below w.heap.size w wr) (fun _ i _ => n - (intOf i).toNat)
        case atStart => exact ⟨2, [], by simp [S_size], by omega, rfl, rfl, HQ.out, Below.refl _ _⟩
        case round =>
          obtain ⟨k, s, hss, hk, rfl, rfl, hr, hb⟩ := hrel
          have hsz := hb.size
          have HB := Lib.hid hb
          by_cases hlt : k0 + k + 1 < n
          · obtain ⟨p, hp⟩ : ∃ p, (x :: y :: t)[k]? = some p := ⟨_, List.getElem?_eq_getElem (by rw [HML.out]; omega)⟩
            obtain ⟨q, hq⟩ : ∃ q, (x :: y :: t)[k + 1]? = some q := ⟨_, List.getElem?_eq_getElem (by rw [HML.out]; omega)⟩
            obtain ⟨b1, o1, i1, hb1, c1, d1⟩ := rsg_at (HL.out.below hb) (HAT.out k p hp) ((k0 : Int) + (k : Int)) (by omega)
            have hb1' : b1 < wr.heap.size := by omega
            have hdr := drop_cons hq
            rw [drop_cons hp, hdr, nameS, ← hdr] at hr
            obtain ⟨r1, hr1⟩ : ∃ r, isb p 58 = r := ⟨_, rfl⟩
            obtain ⟨r2, hr2⟩ : ∃ r, isb q 93 = r := ⟨_, rfl⟩
            rw [hr1, hr2] at hr
            have C1 := Lib.hid (CI.out wr hb (k0 + k) 58 58 r1 rfl (by omega) ((isAtL_some (HAT.out k p hp) _).trans hr1))
            have C2 := Lib.hid (CI.out wr hb (k0 + (k + 1)) 93 93 r2 rfl (by omega) ((isAtL_some (HAT.out (k + 1) q hq) _).trans hr2))
            rw [show (((k0 + k : Nat)) : Int) = (k0 : Int) + (k : Int) by omega] at C1
            rw [show (((k0 + (k + 1) : Nat)) : Int) = (k0 : Int) + (k : Int) + 1 by omega] at C2
            clear hp hq hdr hr1 hr2 hb hb1
            cases r1 with
            | false =>
              rw [if_neg (by simp)] at hr
              have HRR := Lib.hid hr
              clear hr
              go_wp2_with (go_at_call 24; with_reducible first | (refine C1.out.mono ?_; rintro e w' ⟨rfl, rfl⟩) | (refine C2.out.mono ?_; rintro e w' ⟨rfl, rfl⟩))
              go_roundw
              case rel => exact ⟨k + 1, s ++ [p.b], by simp [S_size] at hss ⊢; omega, by omega, congrArg (Value.int .i64) (by omega), congrArg Value.string (S_append s [p.b]), HRR.out, Below.alloc HB.out hsz _⟩
              case measure => simp [intOf]; omega
            | true =>
              cases r2 with
              | false =>
                rw [if_neg (by simp)] at hr
                have HRR := Lib.hid hr
                clear hr
                go_wp2_with (go_at_call 24; with_reducible first | (refine C1.out.mono ?_; rintro e w' ⟨rfl, rfl⟩) | (refine C2.out.mono ?_; rintro e w' ⟨rfl, rfl⟩))
                go_roundw
                case rel => exact ⟨k + 1, s ++ [p.b], by simp [S_size] at hss ⊢; omega, by omega, congrArg (Value.int .i64) (by omega), congrArg Value.string (S_append s [p.b]), HRR.out, Below.alloc HB.out hsz _⟩
                case measure => simp [intOf]; omega
              | true =>
                rw [if_pos (by rfl)] at hr
                subst hr
                have CL : Calls Try.prog 29 #[.string (S s), .int .u8 0] wr _ := rin_any (S s) 0 wr
                rw [L_S] at CL
                have hR := HR.out
                change R = (if (classL s).isSome then some (s, k + 2) else none) at hR
                obtain ⟨o, ho⟩ : ∃ o, (classL s).isSome = o := ⟨_, rfl⟩
                rw [ho] at CL hR
                have CL2 := Lib.hid CL
                cases o with
                | false =>
                  rw [if_neg (by simp)] at hR
                  subst hR
                  clear CL ho HR
                  go_wp2_with (first | (go_at_call 24; with_reducible first | (refine C1.out.mono ?_; rintro e w' ⟨rfl, rfl⟩) | (refine C2.out.mono ?_; rintro e w' ⟨rfl, rfl⟩)) | (go_at_call 29; refine CL2.out.mono ?_; rintro e w' ⟨rfl, rfl⟩))
                  go_ret2
                  exact ⟨rfl, HB.out⟩
                | true =>
                  rw [if_pos (by rfl)] at hR
                  subst hR
                  clear CL ho HR
                  go_wp2_with (first | (go_at_call 24; with_reducible first | (refine C1.out.mono ?_; rintro e w' ⟨rfl, rfl⟩) | (refine C2.out.mono ?_; rintro e w' ⟨rfl, rfl⟩)) | (go_at_call 29; refine CL2.out.mono ?_; rintro e w' ⟨rfl, rfl⟩))
                  go_ret2
                  exact ⟨congrArg Ending.returned (congrArg Value.tuple (by simp; omega)), HB.out⟩
          · have hQ0 : Q = none := by
              rw [hr]
              match hd : (x :: y :: t).drop k with
              | [] => rfl
              | [z] => rfl
              | z :: z' :: u =>
                have := congrArg List.length hd
                rw [List.length_drop, HML.out] at this
                simp at this; omega
            have hR : R = none := by rw [HR.out, hQ0]
            subst hR
            clear hr hQ0 HR
            go_wp2
            go_ret2
            exact ⟨rfl, HB.out⟩
  · have hR : R = none := by
      rw [HR0.out]
      have := HML.out
      match m, this with
      | [], _ => rfl
      | [_], _ => rfl
      | x :: y :: t, h => simp at h; omega
    subst hR
    obtain ⟨q1, hq1⟩ : ∃ r, isAtL l k0 91 = r := ⟨_, rfl⟩
    have C1 : Hid (∀ W, Below w.heap.size w W → _) := Lib.hid (fun W hW => CI.out W hW k0 91 91 q1 rfl (by omega) hq1)
    have C2 : Hid (∀ W, Below w.heap.size w W → _) := Lib.hid (fun W hW => CI.out W hW (k0 + 1) 58 58 false rfl (by omega) (isAtL_none (by rw [← HN.out]; omega) _))
    have e1 : (((k0 + 1 : Nat)) : Int) = (k0 : Int) + 1 := by omega
    rw [e1] at C2
    clear e1 hq1 HR0
    cases q1 with
    | false =>
      go_enter Try.func28, Try.ntmps28
      go_wp2_with fail
      refine (C1.out _ (Below.refl _ _)).mono ?_
      rintro e w' ⟨rfl, rfl⟩
      go_wp2_with fail
      go_ret2
      exact ⟨rfl, Below.refl _ _⟩
    | true =>
      go_enter Try.func28, Try.ntmps28
      go_wp2_with fail
      refine (C1.out _ (Below.refl _ _)).mono ?_
      rintro e w' ⟨rfl, rfl⟩
      go_wp2_with fail
      refine (C2.out _ (Below.refl _ _)).mono ?_
      rintro e w' ⟨rfl, rfl⟩
      go_wp2_with fail
      go_ret2
      exact ⟨rfl, Below.refl _ _⟩
end Go.Proofs.Ytiacoomeakodnaa
