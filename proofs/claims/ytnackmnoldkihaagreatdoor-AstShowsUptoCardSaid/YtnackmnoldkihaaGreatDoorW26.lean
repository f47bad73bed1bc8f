/-
  The document's side: stands and lit.
-/
import Derived.Test.YtnackmnoldkihaaGreatDoorW25
import Derived.Test.YtnackmnoldkihaaGreatDoorW22
import Derived.Test.YtnackmnoldkihaaGreatDoorW9
import Derived.Test.YtnackmnoldkihaaGreatDoorW6
import Derived.Lib.IndexMore
set_option linter.unusedVariables false
set_option linter.unusedSimpArgs false
/-
  Copies, at every depth.
-/
namespace Go.Proofs.YtnackmnoldkihaaGreatDoor
open Go.RowKit

theorem copies : ∀ d, WordC d ∧ NodesC d
 | 0 => by
   have hP : WordC 0 := fun W l v h => by
    rw [PtsIn] at h
    obtain rfl := h.zero
    obtain ⟨a, cap, rfl, _⟩ := h.len
    clear h
    have hn : ([] : List Pt).length = 0 := rfl
    rw [hn]
    go_enter Tryz.func14, Tryz.ntmps14
    go_wp2_with fail
    go_rounds 1
    go_ret
    exact ⟨_, _, rfl, pts_nil _ _ _, Below.refl _ _⟩
   have hS : NodesC 0 := fun W l v h => by
    rw [NdsIn] at h
    obtain rfl := h.zero
    obtain ⟨a, cap, rfl, _⟩ := h.len
    clear h
    have hn : ([] : List Nd).length = 0 := rfl
    rw [hn]
    go_enter Tryz.func9, Tryz.ntmps9
    go_wp2_with fail
    go_rounds 1
    go_ret
    exact ⟨_, _, rfl, nds_nil _ _ _, Below.refl _ _⟩
   exact ⟨hP, hS⟩
 | d + 1 => by
   obtain ⟨h1, h2⟩ := copies d
   refine ⟨fun W l v h => ?_, fun W l v h => ?_⟩
   · rw [PtsIn.succ] at h
     exact (word_copy d h1 h2 l v W h).mono fun e W' ⟨a, c, k1, k2, k3⟩ => ⟨a, c, k1, by rw [PtsIn.succ]; exact k2, k3⟩
   · rw [NdsIn.succ] at h
     exact (nodes_copy d (node_copy d h1 h2) l v W h).mono fun e W' ⟨a, c, k1, k2, k3⟩ => ⟨a, c, k1, by rw [NdsIn.succ]; exact k2, k3⟩
/-- Nodes: a copy that lies like what was copied. -/
theorem nodes_any (l : List Nd) (v : Value) (w : World) (d : Nat) (hl : NdsIn w w.heap.size d l v) :
 Calls Tryz.prog 9 #[v] w fun e w' => (∃ a c, e = .returned (.slice a l.length c) ∧ NdsIn w' w'.heap.size d l (.slice a l.length c)) ∧ Below w.heap.size w w' :=
 ((copies d).2 w l v hl).mono fun _ _ ⟨a, c, h1, h2, h3⟩ => ⟨⟨a, c, h1, h2.off⟩, h3⟩
theorem wordm_any (l : List Pt) (v : Value) (w : World) (d : Nat) (hl : PtsIn w w.heap.size d l v) :
 Calls Tryz.prog 14 #[v] w fun e w' => (∃ a c, e = .returned (.slice a l.length c) ∧ PtsIn w' w'.heap.size d l (.slice a l.length c)) ∧ Below w.heap.size w w' :=
 ((copies d).1 w l v hl).mono fun _ _ ⟨a, c, h1, h2, h3⟩ => ⟨⟨a, c, h1, h2.off⟩, h3⟩
end Go.Proofs.YtnackmnoldkihaaGreatDoor
/-
  The document's side: literal and Doc.
-/
namespace Go.Proofs.YtnackmnoldkihaaGreatDoor
open Go.RowKit

set_option maxHeartbeats 1000000 in
set_option maxRecDepth 100000 in
theorem rliteral_any (l : List Pt) (v : Value) (w : World) (d : Nat) (hl : SlOf w w.heap.size 6 (PtC w w.heap.size d) l v) :
 Calls Tryz.prog 42 #[v] w fun e w' => e = .returned (.bool (litrB l)) ∧ w = w' := by
 obtain ⟨a, cap, rfl, hz⟩ := hl.len
 obtain ⟨n, hn⟩ : ∃ n, l.length = n := ⟨_, rfl⟩
 rw [hn] at hl hz ⊢
 have HL := Lib.hid hl
 have HN := Lib.hid hn
 obtain ⟨r, hr⟩ : ∃ r, litrB l = r := ⟨_, rfl⟩
 rw [hr]
 have HR := Lib.hid hr
 clear hl hn hr
 by_cases h0 : n = 0
 · have e0 : ((n : Int) == 0) = true := by simp [h0]
   have e1 : ((n : Int) == 1) = false := by simp; omega
   have HE : Hid (r = true) := Lib.hid (by rw [← HR.out, List.length_eq_zero_iff.1 (HN.out.trans h0)]; rfl)
   go_enter Tryz.func42, Tryz.ntmps42
   go_wp2_with fail
   go_ret
   exact ⟨ret_bool HE.out.symm, rfl⟩
 · have e0 : ((n : Int) == 0) = false := by simp; omega
   by_cases h1 : n = 1
   · subst h1
     clear e0
     obtain ⟨x, hx⟩ : ∃ x, l = [x] := List.length_eq_one_iff.1 HN.out
     obtain ⟨b, o, c, hi, hbB, hce, hC, _⟩ := HL.out.at 41 72 Tryz.underlying41 (by kernel_rfl) (show l[0]? = some x by rw [hx]; rfl)
     obtain ⟨a3, c3, a4, c4, rfl, _⟩ := hC.open
     have e2 := hce 0 _ rfl
     rw [Nat.add_zero] at e2
     have HE : Hid (r = (x.kind == 1)) := Lib.hid (by rw [← HR.out, hx]; rfl)
     have hi0 : ∀ w' : World, (Instr.indexAt 41 (.slice a 1 cap) (.int .i64 0)).run Tryz.prog w' = .ok (.pointer (some ⟨b, o, none⟩)) w' := hi
     clear hx hce hC hi
     go_enter Tryz.func42, Tryz.ntmps42
     go_wp2_with fail
     go_ret
     exact ⟨ret_bool HE.out.symm, rfl⟩
   · have e1 : ((n : Int) == 1) = false := by simp; omega
     have HE : Hid (r = false) := Lib.hid (by rw [← HR.out]; exact litr_two (by rw [HN.out]; omega))
     go_enter Tryz.func42, Tryz.ntmps42
     go_wp2_with fail
     go_ret
     exact ⟨ret_bool HE.out.symm, rfl⟩

def escSigns : ByteArray := ⟨#[92, 36, 96]⟩
theorem escSigns_iff (c : UInt8) : hasB (L escSigns) c = decide (c = 92 ∨ c = 36 ∨ c = 96) := by
 have h : L escSigns = [92, 36, 96] := rfl
 rw [h, hasB]
 simp [List.contains, List.elem]
 cases h1 : c == 92 <;> cases h2 : c == 36 <;> cases h3 : c == 96 <;> simp_all
/-- So many bytes of a part's text, written. -/
def bodyL (lit : Bool) (l : List UInt8) : List UInt8 := bif lit then l else escL l
theorem bodyL_snoc (lit : Bool) (l : List UInt8) (k : Nat) (c : UInt8) (h : l[k]? = some c) : bodyL lit (l.take (k + 1)) = bodyL lit (l.take k) ++ (bif !lit && hasB (L escSigns) c then [92, c] else [c]) := by
 cases lit with
 | true =>
   show l.take (k + 1) = l.take k ++ [c]
   rw [List.take_add_one, h]; rfl
 | false =>
   show escL (l.take (k + 1)) = escL (l.take k) ++ _
   rw [escL_snoc l k c h, escSigns_iff]
   by_cases hc : c = 92 ∨ c = 36 ∨ c = 96
   · rw [if_pos hc, decide_eq_true hc]; rfl
   · rw [if_neg hc, decide_eq_false hc]; rfl
theorem bodyL_len (lit : Bool) (l : List UInt8) : (bodyL lit l).length ≤ 2 * l.length := by
 cases lit with
 | true => show l.length ≤ _; omega
 | false => exact escL_len l

set_option maxHeartbeats 2000000 in
set_option maxRecDepth 100000 in
theorem rdoc_any (l : List Pt) (v : Value) (w : World) (d0 : Nat) (hl : PtsIn w w.heap.size d0 l v) (hsum : (l.map fun p => p.text.size).sum ≤ 1048576) :
 Calls Tryz.prog 13 #[v] w fun e w' => e = .returned (.string (S (docL l))) ∧ w = w' := by
 obtain ⟨d, hl⟩ := hl.up
 obtain ⟨a, cap, rfl, hz⟩ := hl.len
 obtain ⟨n, hn⟩ : ∃ n, l.length = n := ⟨_, rfl⟩
 have HSZ : Hid (∀ k, ((l.take k).flatMap (docP (litrB l))).length ≤ 8388608) := Lib.hid fun k => by have := flat_docP_take (litrB l) l k; omega
 have CL := Lib.hid (rliteral_any l _ w d hl)
 have CI : Hid (∀ (c : UInt8), Calls Tryz.prog 43 #[.string ⟨#[92, 36, 96]⟩, .int .u8 ((c.toNat : Nat) : Int)] w fun e w' => e = .returned (.bool (hasB (L escSigns) c)) ∧ w = w') := Lib.hid fun c => (In_any escSigns c w (by decide)).mono fun _ _ h => ⟨h.1, h.2.symm⟩
 rw [hn] at hl hz CL ⊢
 have HL := Lib.hid hl
 have HN := Lib.hid hn
 have HDL : Hid (docL l = l.flatMap (docP (litrB l))) := Lib.hid rfl
 obtain ⟨lt, hlt⟩ : ∃ b, litrB l = b := ⟨_, rfl⟩
 rw [hlt] at CL HSZ HDL
 clear hl hn hlt hsum
 go_enter Tryz.func13, Tryz.ntmps13
 go_wp2_with fail
 go_loop [3, 4] (fun s i => ∃ (k : Nat) (t : ByteArray), k ≤ n ∧ i = .int .i64 k ∧ s = .string t ∧ L t = (l.take k).flatMap (docP lt)) (fun _ i => n - (intOf i).toNat)
 case atStart => exact ⟨0, ⟨#[]⟩, Nat.zero_le _, rfl, rfl, rfl⟩
 case round =>
  obtain ⟨k, t, hk, rfl, rfl, ht⟩ := hrel
  have HT := Lib.hid ht
  have htz : t.size ≤ 8388608 := by have h := HSZ.out k; rw [← ht, L_size] at h; exact h
  clear ht
  by_cases hlt : k < n
  · obtain ⟨x, hx⟩ : ∃ x, l[k]? = .some x := ⟨_, List.getElem?_eq_getElem (by rw [HN.out]; exact hlt)⟩
    obtain ⟨b, o, c, hi, hbB, hce, hC, _⟩ := HL.out.at 41 72 Tryz.underlying41 (by kernel_rfl) hx
    have HX := Lib.hid (flat_snoc (f := docP lt) hx)
    have HSK : Hid ((t.size + (docP lt x).length) ≤ 8388608) := Lib.hid (by have h := HSZ.out (k + 1); rw [HX.out, List.length_append, ← HT.out, L_size] at h; exact h)
    obtain ⟨a3, c3, a4, c4, rfl, ⟨hC1, _⟩, _⟩ := hC.open
    have e0 := hce 0 _ rfl
    have e2 := hce 2 _ rfl
    rw [Nat.add_zero] at e0
    clear hx hce hC
    have HD : Hid (docP lt x = bif x.kind == 2 then [36, 123] ++ L x.text ++ [125] else bif x.kind == 4 then [36, 40, 40] ++ L x.text ++ [41, 41] else bodyL lt (L x.text)) := Lib.hid rfl
    obtain ⟨dx, hdx⟩ : ∃ dx, docP lt x = dx := ⟨_, rfl⟩
    rw [hdx] at HD HX HSK
    clear hdx
    obtain ⟨xk, hxk⟩ : ∃ k, x.kind = k := ⟨_, rfl⟩
    obtain ⟨xt, hxt⟩ : ∃ k, x.text = k := ⟨_, rfl⟩
    rw [hxk] at HD e0
    rw [hxt] at HD e2 hC1
    clear hxk hxt
    cases hk2 : (xk == 2) with
    | true =>
      have HE : Hid (dx = [36, 123] ++ L xt ++ [125]) := Lib.hid (by rw [HD.out, hk2]; rfl)
      go_wp2_with fail
      go_round
      case rel => exact ⟨k + 1, _, by omega, by go_num, rfl, by rw [HX.out, HE.out, ← HT.out]; simp [L_append]⟩
      case measure => simp [intOf]; omega
    | false =>
      cases hk4 : (xk == 4) with
      | true =>
        have HE : Hid (dx = [36, 40, 40] ++ L xt ++ [41, 41]) := Lib.hid (by rw [HD.out, hk2, hk4]; rfl)
        go_wp2_with fail
        go_round
        case rel => exact ⟨k + 1, _, by omega, by go_num, rfl, by rw [HX.out, HE.out, ← HT.out]; simp [L_append]⟩
        case measure => simp [intOf]; omega
      | false =>
        have HE : Hid (dx = bodyL lt (L xt)) := Lib.hid (by rw [HD.out, hk2, hk4]; rfl)
        go_wp2_with fail
        go_loop [3, 5] (fun s j => ∃ (m : Nat) (u : ByteArray), m ≤ xt.size ∧ j = .int .i64 m ∧ s = .string u ∧ L u = L t ++ bodyL lt ((L xt).take m)) (fun _ j => xt.size - (intOf j).toNat)
        case atStart => exact ⟨0, t, Nat.zero_le _, rfl, rfl, by cases lt <;> simp [bodyL, escL]⟩
        case round =>
         obtain ⟨m, u, hm, rfl, rfl, hu⟩ := hrel
         have HU := Lib.hid hu
         have huz : u.size ≤ 16777216 := by
          have h1 := bodyL_len lt ((L xt).take m)
          have h2 : (L u).length = u.size := L_size u
          rw [hu, List.length_append, L_size] at h2
          have h3 : ((L xt).take m).length ≤ xt.size := by rw [List.length_take, L_size]; omega
          omega
         clear hu
         by_cases hm2 : m < xt.size
         · have hidx := run_idx (P := Tryz.prog) Tryz.underlying9 xt (k := .i64) (m : Int) m rfl hm2
           have hget := getD_get (show m < (L xt).length from hm2)
           obtain ⟨cc, hcc⟩ : ∃ cc, cc = (L xt).getD m 0 := ⟨_, rfl⟩
           rw [← hcc] at hidx hget
           have HSN := Lib.hid (bodyL_snoc lt (L xt) m cc hget)
           have HEX : Hid (L (xt.extract m (m + 1)) = [cc]) := Lib.hid (by rw [L_extract, show m + 1 - m = 1 by omega, drop_getD (L xt) hm2, ← hcc]; rfl)
           have hexz : (xt.extract m (m + 1)).size = 1 := by rw [← L_size, HEX.out]; rfl
           have CI1 := Lib.hid (CI.out cc)
           obtain ⟨hb, hhb⟩ : ∃ hb, hasB (L escSigns) cc = hb := ⟨_, rfl⟩
           rw [hhb] at HSN CI1
           clear hcc hget hhb
           cases lt with
           | true =>
             go_wp2_with (go_at_call 42; with_reducible refine (CL.out).mono ?_; rintro e w1 ⟨rfl, rfl⟩)
             go_round
             case rel => exact ⟨m + 1, _, by omega, by go_num, rfl, by rw [HSN.out, ← List.append_assoc, ← HU.out]; simp [L_append, HEX.out]⟩
             case measure => simp [intOf]; omega
           | false =>
             cases hb with
             | true =>
               go_wp2_with (first | (go_at_call 42; with_reducible refine (CL.out).mono ?_; rintro e w1 ⟨rfl, rfl⟩) | (go_at_call 43; with_reducible refine (CI1.out).mono ?_; rintro e w1 ⟨rfl, rfl⟩))
               go_round
               case rel => exact ⟨m + 1, _, by omega, by go_num, rfl, by rw [HSN.out, ← List.append_assoc, ← HU.out]; simp [L_append, HEX.out]⟩
               case measure => simp [intOf]; omega
             | false =>
               go_wp2_with (first | (go_at_call 42; with_reducible refine (CL.out).mono ?_; rintro e w1 ⟨rfl, rfl⟩) | (go_at_call 43; with_reducible refine (CI1.out).mono ?_; rintro e w1 ⟨rfl, rfl⟩))
               go_round
               case rel => exact ⟨m + 1, _, by omega, by go_num, rfl, by rw [HSN.out, ← List.append_assoc, ← HU.out]; simp [L_append, HEX.out]⟩
               case measure => simp [intOf]; omega
         · go_wp2_with fail
           go_round
           case rel => exact ⟨k + 1, _, by omega, by go_num, rfl, by rw [HX.out, HE.out, ← HT.out, HU.out, List.take_of_length_le (by rw [L_size]; omega)]⟩
           case measure => simp [intOf]; omega
  · have HR : Hid (S (docL l) = t) := Lib.hid (by
     have h := HT.out
     rw [List.take_of_length_le (by rw [HN.out]; omega), ← HDL.out] at h
     rw [← h, S_L])
    go_wp2
    go_ret
    exact ⟨by rw [HR.out]; rfl, rfl⟩
end Go.Proofs.YtnackmnoldkihaaGreatDoor
/-
  The document's tests against the program's: plain laws.
-/
namespace Go.Proofs.YtnackmnoldkihaaGreatDoor
open Go.RowKit

/-! ### a text that is in another one; a line of a text -/
theorem contains_iff (s t : List UInt8) : Lib.contains s t = true ↔ ∃ a b, s = a ++ (t ++ b) := by
 rw [Lib.contains, decide_eq_true_iff]
 rcases Lib.index_spec s t with ⟨h1, h2⟩ | ⟨i, h1, h2, h3, _⟩
 · rw [h1]
   refine ⟨fun h => by omega, fun ⟨a, b, h⟩ => ?_⟩
   have := h2 a.length (by rw [h]; simp)
   rw [Lib.occAt, h, List.drop_left] at this
   rw [Bool.eq_false_iff] at this
   exact absurd (List.isPrefixOf_iff_prefix.2 ⟨b, rfl⟩) this
 · rw [h1]
   refine ⟨fun _ => ?_, fun _ => by omega⟩
   rw [Lib.occAt] at h3
   obtain ⟨b, hb⟩ := List.isPrefixOf_iff_prefix.1 h3
   exact ⟨s.take i, b, by rw [hb, List.take_append_drop]⟩
/-- A line of the text, of which cur has been read, is the tag. -/
def standsL (tag : List UInt8) : List UInt8 → List UInt8 → Bool
 | _, [] => false
 | cur, c :: r => bif c == 10 then (cur == tag || standsL tag [] r) else standsL tag (cur ++ [c]) r
theorem no_split {a b c d : List UInt8} (ha : (10 : UInt8) ∉ a) (hb : (10 : UInt8) ∉ b) (h : a ++ 10 :: c = b ++ 10 :: d) : a = b ∧ c = d := by
 induction a generalizing b with
 | nil =>
   cases b with
   | nil => simp at h; exact ⟨rfl, h⟩
   | cons x b => simp at h; exact absurd (by simp [← h.1]) hb
 | cons x a ih =>
   cases b with
   | nil => simp at h; exact absurd (by simp [h.1]) ha
   | cons y b =>
     simp at h
     obtain ⟨rfl, h⟩ := h
     obtain ⟨rfl, h2⟩ := ih (fun e => ha (by simp [e])) (fun e => hb (by simp [e])) h
     exact ⟨rfl, h2⟩
theorem first_split {a : List UInt8} (h : (10 : UInt8) ∈ a) : ∃ a1 a2, a = a1 ++ 10 :: a2 ∧ (10 : UInt8) ∉ a1 := by
 induction a with
 | nil => simp at h
 | cons y a ih =>
   by_cases hy : y = 10
   · exact ⟨[], a, by rw [hy]; rfl, by simp⟩
   · obtain ⟨p, q, e, hp⟩ := ih (by simp at h; exact h.resolve_left fun e => hy e.symm)
     exact ⟨y :: p, q, by rw [e]; rfl, by simp [hp]; exact fun e => hy e.symm⟩
theorem stands_iff (tag : List UInt8) (ht : (10 : UInt8) ∉ tag) : ∀ (l cur : List UInt8), (10 : UInt8) ∉ cur →
 (standsL tag cur l = true ↔ ∃ a b, 10 :: (cur ++ l) = a ++ ((10 :: (tag ++ [10])) ++ b))
 | [], cur, hc => by
   refine ⟨fun h => (by simp [standsL] at h), fun ⟨a, b, h⟩ => ?_⟩
   rw [List.append_nil] at h
   cases a with
   | nil =>
     simp at h
     exact absurd (by rw [h]; simp) hc
   | cons x a =>
     simp at h
     exact absurd (by rw [h.2]; simp) hc
 | c :: r, cur, hc => by
   rw [standsL]
   by_cases h10 : c = 10
   · subst h10
     have ih := stands_iff tag ht r [] (by simp)
     simp only [beq_self_eq_true, cond_true, Bool.or_eq_true, beq_iff_eq]
     rw [ih]
     constructor
     · rintro (rfl | ⟨a, b, h⟩)
       · exact ⟨[], r, by simp⟩
       · exact ⟨10 :: cur ++ a, b, by simp at h ⊢; exact h⟩
     · rintro ⟨a, b, h⟩
       cases a with
       | nil =>
         simp at h
         have h' : cur ++ 10 :: r = tag ++ 10 :: b := by simpa using h
         exact .inl (no_split hc ht h').1
       | cons x a =>
         simp at h
         obtain ⟨rfl, h⟩ := h
         right
         -- where the rest of a ends
         by_cases hm : (10 : UInt8) ∈ a
         · obtain ⟨a1, a2, rfl, hn⟩ := first_split hm
           have h' : cur ++ 10 :: r = a1 ++ 10 :: (a2 ++ 10 :: (tag ++ 10 :: b)) := by simpa using h
           obtain ⟨_, e⟩ := no_split hc hn h'
           exact ⟨10 :: a2, b, by rw [e]; simp⟩
         · have h' : cur ++ 10 :: r = a ++ 10 :: (tag ++ 10 :: b) := by simpa using h
           obtain ⟨_, e⟩ := no_split hc hm h'
           exact ⟨[], b, by rw [e]; simp⟩
   · have hb : (c == 10) = false := by simp [h10]
     rw [hb, cond_false, stands_iff tag ht r (cur ++ [c]) (by simp [hc]; exact fun e => h10 e.symm)]
     simp
theorem stands_contains {tag l : List UInt8} (ht : (10 : UInt8) ∉ tag) : Lib.contains (10 :: l) (10 :: (tag ++ [10])) = standsL tag [] l := by
 rw [Bool.eq_iff_iff, contains_iff, stands_iff tag ht l [] (by simp)]
 simp
theorem name_mem {l : List UInt8} (h : nameL l = true) {c : UInt8} (hc : c ∈ l) : nmB false c = true := by
 rw [nameL, Bool.and_eq_true, List.all_eq_true] at h
 obtain ⟨i, hi, e⟩ := List.mem_iff_getElem.1 hc
 have := h.2 i (List.mem_range.2 hi)
 rw [List.getD_eq_getElem?_getD, List.getElem?_eq_getElem hi, Option.getD_some, e] at this
 rw [nmB_iff] at this ⊢
 rcases this with h | h | h
 · exact .inl h
 · exact .inr (.inl h)
 · exact .inr (.inr ⟨rfl, h.2⟩)
theorem name_no10 {l : List UInt8} (h : nameL l = true) : (10 : UInt8) ∉ l := fun hc => by
 have := name_mem h hc
 revert this
 decide +kernel
theorem name_no61 {l : List UInt8} (h : nameL l = true) : (61 : UInt8) ∉ l := fun hc => by
 have := name_mem h hc
 revert this
 decide +kernel

/-! ### a word that may be a command's first one -/
def eqB (s : List UInt8) : Bool := (List.range s.length).any fun i => s.getD i 0 == 61 && nameL (s.take i)
theorem eqB_cut (s : List UInt8) : ((Lib.cut s [61]).2.2 && nameL (Lib.cut s [61]).1) = eqB s := by
 rw [Bool.eq_iff_iff, eqB, List.any_eq_true]
 constructor
 · intro h
   rw [Bool.and_eq_true] at h
   rw [Lib.cut] at h
   split at h
   · rename_i hi
     rcases Lib.index_spec s [61] with ⟨h1, _⟩ | ⟨i, h1, h2, h3, _⟩
     · omega
     · rw [h1] at h
       simp only [Int.toNat_natCast] at h
       rw [Lib.occAt] at h3
       obtain ⟨b, hb⟩ := List.isPrefixOf_iff_prefix.1 h3
       have hlt : i < s.length := by
        have := congrArg List.length hb
        simp at this
        omega
       have hget : s.getD i 0 = 61 := by
        have e : (s.drop i)[0]? = some 61 := by rw [← hb]; rfl
        rw [List.getElem?_drop, Nat.add_zero] at e
        rw [List.getD_eq_getElem?_getD, e]; rfl
       exact ⟨i, List.mem_range.2 hlt, by rw [hget, h.2]; rfl⟩
   · simp at h
 · rintro ⟨i, hi, h⟩
   rw [Bool.and_eq_true, beq_iff_eq] at h
   have hlt := List.mem_range.1 hi
   have hidx : Lib.index s [61] = i := Lib.index_first (Nat.le_of_lt hlt) (by
    rw [Lib.occAt, List.isPrefixOf_iff_prefix, drop_getD s hlt, h.1]
    exact ⟨_, rfl⟩) fun j hj => by
    rw [Lib.occAt, Bool.eq_false_iff, ne_eq, List.isPrefixOf_iff_prefix]
    rintro ⟨b, hb⟩
    have e : (s.drop j)[0]? = some 61 := by rw [← hb]; rfl
    rw [List.getElem?_drop, Nat.add_zero] at e
    refine name_no61 h.2 (List.mem_of_getElem? (i := j) ?_)
    rw [List.getElem?_take_of_lt hj, e]
   rw [Lib.cut, hidx, if_pos (by omega)]
   simp only [Int.toNat_natCast]
   rw [h.2]; rfl
def rfirstB (w : List Pt) : Bool := match w with
 | [] => true
 | p :: l => bif p.kind == 1 && !p.quoted then (!eqB (L p.text) && !(l.isEmpty && oneB reservedWs (L p.text))) else true
theorem rfirst_eq (w : List Pt) : rfirstB w = firstB w := by
 cases w with
 | nil => rfl
 | cons p l => rw [rfirstB, firstB, eqB_cut]

/-! ### a part behind another one -/
def confB (q : Option Pt) (p : Pt) : Bool := match q with
 | none => false
 | some x => x.kind == 1 && ((p.kind == 1 && x.quoted == p.quoted) || ((x.quoted && (L x.text).isEmpty) && p.quoted))
theorem part_conf (wd : List Pt → Bool) (ls : List Nd → Bool) (q : Option Pt) (p : Pt) : partB wd ls q p = (partB wd ls none p && !confB q p) := by
 cases q with
 | none => simp [confB]
 | some x =>
   simp only [partB, litB, hollowB, besideB, confB]
   generalize (x.kind == 1) = a
   generalize (L x.text).isEmpty = b
   generalize (L p.op).isEmpty = c
   generalize (p.word.isEmpty && p.body.isEmpty) = d
   generalize (bif p.quoted then !hasB (L p.text) 0 else (L p.text).all bareB && !(L p.text).isEmpty) = e
   generalize paramB wd p = f
   cases p.kind == 1
   · cases a <;> cases b <;> cases x.quoted <;> cases p.quoted <;> simp
   · cases a <;> cases b <;> cases x.quoted <;> cases p.quoted <;> cases c <;> cases d <;> cases e <;> rfl
end Go.Proofs.YtnackmnoldkihaaGreatDoor
namespace Go.Proofs.YtnackmnoldkihaaGreatDoor
open Go.RowKit

theorem standsL_take (tag l : List UInt8) (f m : Nat) (c : UInt8) (hf : f ≤ m) (h : l[m]? = some c) (h10 : c ≠ 10) : standsL tag ((l.drop f).take (m - f)) (l.drop m) = standsL tag ((l.drop f).take (m + 1 - f)) (l.drop (m + 1)) := by
 have hlt := (List.getElem?_eq_some_iff.1 h).1
 have e1 : l.drop m = c :: l.drop (m + 1) := by rw [List.drop_eq_getElem_cons hlt, (List.getElem?_eq_some_iff.1 h).2]
 have e2 : (l.drop f).take (m + 1 - f) = (l.drop f).take (m - f) ++ [c] := by
  rw [show m + 1 - f = (m - f) + 1 by omega, List.take_add_one, List.getElem?_drop, show f + (m - f) = m by omega, h]; rfl
 rw [e1, e2, standsL, show (c == 10) = false by simp [h10]]
 rfl
theorem standsL_line (tag l : List UInt8) (f m : Nat) (h : l[m]? = some 10) : standsL tag ((l.drop f).take (m - f)) (l.drop m) = ((l.drop f).take (m - f) == tag || standsL tag ((l.drop (m + 1)).take (m + 1 - (m + 1))) (l.drop (m + 1))) := by
 have hlt := (List.getElem?_eq_some_iff.1 h).1
 have e1 : l.drop m = 10 :: l.drop (m + 1) := by rw [List.drop_eq_getElem_cons hlt, (List.getElem?_eq_some_iff.1 h).2]
 rw [e1, standsL, Nat.sub_self, List.take_zero]
 rfl

set_option maxHeartbeats 1000000 in
set_option maxRecDepth 100000 in
theorem stands_any (s tag : ByteArray) (w : World) (hs : s.size ≤ maxLen) :
 Calls Tryz.prog 72 #[.string s, .string tag] w fun e w' => e = .returned (.bool (standsL (L tag) [] (L s))) ∧ w = w' := by
 unfold maxLen at hs
 obtain ⟨r, hr⟩ : ∃ r, standsL (L tag) [] (L s) = r := ⟨_, rfl⟩
 rw [hr]
 have HR := Lib.hid hr
 clear hr
 go_enter Tryz.func72, Tryz.ntmps72
 go_wp2_with fail
 go_loop [5, 6] (fun f i => ∃ (j k : Nat), j ≤ k ∧ k ≤ s.size ∧ f = .int .i64 j ∧ i = .int .i64 k ∧ standsL (L tag) (((L s).drop j).take (k - j)) ((L s).drop k) = r) (fun _ i => s.size - (intOf i).toNat)
 case atStart => exact ⟨0, 0, Nat.le_refl _, Nat.zero_le _, rfl, rfl, by simpa using HR.out⟩
 case round =>
  obtain ⟨j, k, hjk, hk, rfl, rfl, hst⟩ := hrel
  have HST := Lib.hid hst
  clear hst
  by_cases hlt : k < s.size
  · have hidx := run_idx (P := Tryz.prog) Tryz.underlying9 s (k := .i64) (k : Int) k rfl hlt
    have hget := getD_get (show k < (L s).length from hlt)
    obtain ⟨c, hc⟩ : ∃ c, c = (L s).getD k 0 := ⟨_, rfl⟩
    rw [← hc] at hidx hget
    by_cases h10 : c = 10
    · have e10 : (((c.toNat : Nat) : Int) == 10) = true := eq_byte h10
      rw [h10] at hget
      have HEX : Hid (L (s.extract j k) = ((L s).drop j).take (k - j)) := Lib.hid (L_extract _ _ _)
      have HL := Lib.hid (standsL_line (L tag) (L s) j k hget)
      clear hc hget h10
      cases hq : (((L s).drop j).take (k - j) == L tag) with
      | true =>
        have HE : Hid (r = true) := Lib.hid (by rw [← HST.out, HL.out, hq]; rfl)
        have hq2 : ((s.extract j k).toList == tag.toList) = true := by rw [toList_L, toList_L, HEX.out]; exact hq
        clear hq
        go_wp2_with fail
        go_ret
        exact ⟨ret_bool HE.out.symm, rfl⟩
      | false =>
        have HE := Lib.hid (HST.out.symm.trans (HL.out.trans (by rw [hq, Bool.false_or])))
        have hq2 : ((s.extract j k).toList == tag.toList) = false := by rw [toList_L, toList_L, HEX.out]; exact hq
        clear hq
        go_wp2_with fail
        go_round
        case rel => exact ⟨k + 1, k + 1, Nat.le_refl _, by omega, by go_num, by go_num, HE.out.symm⟩
        case measure => simp [intOf]; omega
    · have e10 : (((c.toNat : Nat) : Int) == 10) = false := ne_byte h10
      have HE := Lib.hid ((standsL_take (L tag) (L s) j k c hjk hget h10).symm.trans HST.out)
      clear hc hget h10
      go_wp2_with fail
      go_round
      case rel => exact ⟨j, k + 1, by omega, by omega, rfl, by go_num, HE.out⟩
      case measure => simp [intOf]; omega
  · have HE : Hid (r = false) := Lib.hid (by rw [← HST.out, show (L s).drop k = [] from List.drop_of_length_le (by rw [L_size]; omega)]; rfl)
    go_wp2_with fail
    go_ret
    exact ⟨ret_bool HE.out.symm, rfl⟩

def okcB (qd : Bool) (c : UInt8) : Bool := bif qd then c != 0 else bareB c
theorem okc_all (p : Pt) : (L p.text).all (okcB p.quoted) = (bif p.quoted then !hasB (L p.text) 0 else (L p.text).all bareB) := by
 cases p.quoted with
 | true =>
   show (L p.text).all (fun c => okcB true c) = !hasB (L p.text) 0
   rw [Bool.eq_iff_iff, List.all_eq_true, Bool.not_eq_true', Bool.eq_false_iff, ne_eq, hasB_mem]
   simp only [okcB, cond_true, bne_iff_ne, ne_eq]
   exact ⟨fun h hm => h 0 hm rfl, fun h x hx e => h (by rw [← e]; exact hx)⟩
 | false => rfl

set_option maxHeartbeats 2000000 in
set_option maxRecDepth 100000 in
theorem rlit_any (p : Pt) (w : World) (d : Nat) (c : List Value) (hp : PtC w w.heap.size d p c) :
 Calls Tryz.prog 99 #[.agg c.toArray] w fun e w' => e = .returned (.bool (litB none p)) ∧ Below w.heap.size w w' := by
 obtain ⟨a1, c1, a2, c2, rfl, ⟨h1, h2⟩, ⟨h3, h4⟩, _⟩ := hp.open
 have HOK := Lib.hid (okc_all p)
 have HL : Hid (litB none p = ((L p.op).isEmpty && (p.word.isEmpty && p.body.isEmpty) && !false && (bif p.quoted then !hasB (L p.text) 0 else ((L p.text).all bareB && !(L p.text).isEmpty)))) := Lib.hid rfl
 obtain ⟨r, hr⟩ : ∃ r, litB none p = r := ⟨_, rfl⟩
 rw [hr] at HL ⊢
 obtain ⟨n1, hn1⟩ : ∃ n, p.word.length = n := ⟨_, rfl⟩
 obtain ⟨n2, hn2⟩ : ∃ n, p.body.length = n := ⟨_, rfl⟩
 have E1 := Lib.hid (nil_beq hn1)
 have E2 := Lib.hid (nil_beq hn2)
 rw [hn1] at h3 ⊢
 rw [hn2] at h4 ⊢
 obtain ⟨xk, hxk⟩ : ∃ k, p.kind = k := ⟨_, rfl⟩
 obtain ⟨xt, hxt⟩ : ∃ k, p.text = k := ⟨_, rfl⟩
 obtain ⟨xo, hxo⟩ : ∃ k, p.op = k := ⟨_, rfl⟩
 obtain ⟨qd, hqd⟩ : ∃ k, p.quoted = k := ⟨_, rfl⟩
 rw [hxk, hqd, hxt, hxo]
 rw [hqd, hxt] at HOK
 rw [hqd, hxt, hxo] at HL
 rw [hxt] at h1
 have HBK := Lib.hid (Blk.new w 72 #[.int .i64 xk, .bool qd, .string xt, .string xo, .slice a1 n1 c1, .slice a2 n2 c2])
 have CB : Hid (∀ (c : UInt8) W, Calls Tryz.prog 20 #[.int .u8 ((c.toNat : Nat) : Int)] W fun e w' => e = .returned (.bool (bareB c)) ∧ W = w') := Lib.hid fun c W => rbare_any c W
 clear hp hr hn1 hn2 hxk hxt hxo hqd
 go_enter Tryz.func99, Tryz.ntmps99
 go_wp2_with fail
 go_loop [3] (fun i => ∃ k : Nat, k ≤ xt.size ∧ i = .int .i64 k ∧ ((L xt).take k).all (okcB qd) = true) (fun i => xt.size - (intOf i).toNat)
 case atStart => exact ⟨0, Nat.zero_le _, rfl, by simp⟩
 case round =>
  obtain ⟨k, hk, rfl, hal⟩ := hrel
  have HAL := Lib.hid hal
  clear hal
  by_cases hlt : k < xt.size
  · have hidx := run_idx (P := Tryz.prog) Tryz.underlying9 xt (k := .i64) (k : Int) k rfl hlt
    have hget := getD_get (show k < (L xt).length from hlt)
    obtain ⟨c, hc⟩ : ∃ c, c = (L xt).getD k 0 := ⟨_, rfl⟩
    rw [← hc] at hidx hget
    have HG := Lib.hid hget
    clear hc hget
    cases qd with
    | true =>
      by_cases h0 : c = 0
      · have e0 : (((c.toNat : Nat) : Int) == 0) = true := eq_byte h0
        have HE : Hid (r = false) := Lib.hid (by
         have : (L xt).all (okcB true) = false := all_no HG.out (by rw [okcB, h0]; rfl)
         rw [HL.out, cond_true]
         rw [HOK.out, cond_true] at this
         rw [this, Bool.and_false])
        clear h0
        go_wp2_with fail
        go_ret
        exact ⟨ret_bool HE.out.symm, bg⟩
      · have e0 : (((c.toNat : Nat) : Int) == 0) = false := ne_byte h0
        have HE : Hid (((L xt).take (k + 1)).all (okcB true) = true) := Lib.hid (all_to HAL.out HG.out (by simp [okcB, h0]))
        clear h0
        go_wp2_with fail
        go_round
        case rel => exact ⟨k + 1, by omega, by go_num, HE.out⟩
        case measure => simp [intOf]; omega
    | false =>
      have CB1 := Lib.hid (CB.out c)
      obtain ⟨rb, hrb⟩ : ∃ b, bareB c = b := ⟨_, rfl⟩
      rw [hrb] at CB1
      cases rb with
      | false =>
        have HE : Hid (r = false) := Lib.hid (by
         have : (L xt).all (okcB false) = false := all_no HG.out hrb
         rw [HL.out, cond_false]
         rw [HOK.out, cond_false] at this
         rw [this, Bool.false_and, Bool.and_false])
        clear hrb
        go_wp2_with (go_at_call 20; with_reducible refine (CB1.out _).mono ?_; rintro e w1 ⟨rfl, rfl⟩)
        go_ret
        exact ⟨ret_bool HE.out.symm, bg⟩
      | true =>
        have HE : Hid (((L xt).take (k + 1)).all (okcB false) = true) := Lib.hid (all_to HAL.out HG.out hrb)
        clear hrb
        go_wp2_with (go_at_call 20; with_reducible refine (CB1.out _).mono ?_; rintro e w1 ⟨rfl, rfl⟩)
        go_round
        case rel => exact ⟨k + 1, by omega, by go_num, HE.out⟩
        case measure => simp [intOf]; omega
  · have HE0 : Hid (r = ((L xo).isEmpty && (p.word.isEmpty && p.body.isEmpty) && (bif qd then true else !(L xt).isEmpty))) := Lib.hid (by
     have h := all_end HAL.out (by rw [L_size]; omega)
     rw [HOK.out] at h
     rw [HL.out]
     cases qd with
     | true => rw [cond_true] at h; rw [cond_true, cond_true, h]; simp
     | false => rw [cond_false] at h; rw [cond_false, cond_false, h]; simp)
    cases ho : (L xo).isEmpty with
    | false =>
      have g0 : xo.toList.isEmpty = false := by rw [isEmpty_L]; exact ho
      have HE : Hid (r = false) := Lib.hid (by rw [HE0.out, ho]; rfl)
      go_wp2_with fail
      go_ret
      exact ⟨ret_bool HE.out.symm, bg⟩
    | true =>
      have g0 : xo.toList.isEmpty = true := by rw [isEmpty_L]; exact ho
      cases hw1 : p.word.isEmpty with
      | false =>
        have g1 : ((n1 : Int) == 0) = false := E1.out.trans hw1
        have HE : Hid (r = false) := Lib.hid (by rw [HE0.out, ho, hw1]; rfl)
        go_wp2_with fail
        go_ret
        exact ⟨ret_bool HE.out.symm, bg⟩
      | true =>
        have g1 : ((n1 : Int) == 0) = true := E1.out.trans hw1
        cases hw2 : p.body.isEmpty with
        | false =>
          have g2 : ((n2 : Int) == 0) = false := E2.out.trans hw2
          have HE : Hid (r = false) := Lib.hid (by rw [HE0.out, ho, hw1, hw2]; rfl)
          go_wp2_with fail
          go_ret
          exact ⟨ret_bool HE.out.symm, bg⟩
        | true =>
          have g2 : ((n2 : Int) == 0) = true := E2.out.trans hw2
          have HE : Hid (r = (bif qd then true else !(L xt).isEmpty)) := Lib.hid (by rw [HE0.out, ho, hw1, hw2]; rfl)
          cases qd with
          | true =>
            go_wp2_with fail
            go_ret
            exact ⟨ret_bool HE.out.symm, bg⟩
          | false =>
            cases ht : (L xt).isEmpty with
            | false =>
              have g3 : xt.toList.isEmpty = false := by rw [isEmpty_L]; exact ht
              have HE2 : Hid (r = true) := Lib.hid (by rw [HE.out, ht]; rfl)
              go_wp2_with fail
              go_ret
              exact ⟨ret_bool HE2.out.symm, bg⟩
            | true =>
              have g3 : xt.toList.isEmpty = true := by rw [isEmpty_L]; exact ht
              have HE2 : Hid (r = false) := Lib.hid (by rw [HE.out, ht]; rfl)
              go_wp2_with fail
              go_ret
              exact ⟨ret_bool HE2.out.symm, bg⟩
end Go.Proofs.YtnackmnoldkihaaGreatDoor
