/-
  A sign that means something; a name between brackets: the walks.
-/
import Derived.Test.YtiacoomeakodnaaG2
namespace Go.Proofs.Ytiacoomeakodnaa
open Go.RowKit

@[go_sem] theorem Try.convK (w : World) (b off l c : Nat) : (convert 23 9 (.slice (some ⟨b, off, none⟩) l c)).run Try.prog w = convK (cellBytes w b off l) w (convFb Try.prog w 23 9 b off l c) :=
  run_convK 23 9 5 Try.underlying23 Try.underlying5 Try.underlying9 w b off l c
theorem beq_byte (b c : UInt8) : (((b.toNat : Nat) : Int) == ((c.toNat : Nat) : Int)) = (b == c) := by
  rw [Bool.eq_iff_iff, beq_iff_eq, beq_iff_eq]
  constructor
  · intro h; exact UInt8.toNat_inj.1 (by omega)
  · intro h; rw [h]

/-- An element of a slice of signs. -/
theorem sg_at {w : World} {B : Nat} {v : Value} {l : List Sg} (h : Sl w B 2 v l.length (l.flatMap sgC)) {k : Nat} {x : Sg} (hx : l[k]? = some x) (i : Int) (hi : i = k) :
    ∃ b o, (∀ w' : World, (Instr.indexAt 51 v (.int .i64 i)).run Try.prog w' = .ok (.pointer (some ⟨b, o, none⟩)) w') ∧ b < B ∧ w.cell? ⟨b, o, none⟩ = some (.int .u8 ((x.b.toNat : Nat) : Int)) ∧ w.cell? ⟨b, o + 1, none⟩ = some (.bool x.q) := by
  subst hi
  have hk := (List.getElem?_eq_some_iff.1 hx).1
  obtain ⟨a, cap, b, off, rfl, _, _, h1, h2, h3⟩ := h.open (P := Try.prog) 51 54 Try.underlying51 (by kernel_rfl)
  have g := flat_get sgC 2 sgC_len l k x hx
  refine ⟨b, off + k * 2, fun w' => h1 k w' hk, by omega, ?_, ?_⟩
  · rw [show off + k * 2 = off + (k * 2 + 0) by omega, h3 _ (by omega), g 0 (by omega)]; rfl
  · rw [show off + k * 2 + 1 = off + (k * 2 + 1) by omega, h3 _ (by omega), g 1 (by omega)]; rfl

theorem is_any (s : Sg) (c : UInt8) (r : Bool) (hr : isb s c = r) (w : World) : Calls Try.prog 22 #[.agg #[.int .u8 ((s.b.toNat : Nat) : Int), .bool s.q], .int .u8 ((c.toNat : Nat) : Int)] w
    fun e w' => e = .returned (.bool r) ∧ w.alloc (.cells #[.int .u8 ((s.b.toNat : Nat) : Int), .bool s.q] 54) = w' := by
  obtain ⟨b, q⟩ := s
  have HR := Lib.hid hr
  clear hr
  cases q
  all_goals
    go_enter Try.func22, Try.ntmps22
    go_wp2
    go_ret
    exact ⟨ret_bool (by rw [← HR.out]; first | rfl | (unfold isb; simp [beq_byte])), rfl⟩

/-- A test of a sign, as a contract. -/
abbrev IsAt (s : Sg) (n : Int) (r : Bool) : Prop := ∀ w : World, Calls Try.prog 22 #[.agg #[.int .u8 ((s.b.toNat : Nat) : Int), .bool s.q], .int .u8 n] w
    fun e w' => e = .returned (.bool r) ∧ w.alloc (.cells #[.int .u8 ((s.b.toNat : Nat) : Int), .bool s.q] 54) = w'
theorem is_at (s : Sg) (c : UInt8) (r : Bool) (hr : isb s c = r) (n : Int) (hn : n = (c.toNat : Nat)) : Hid (IsAt s n r) := by
  subst hn
  exact Lib.hid (fun w => is_any s c r hr w)

def NamedPost (o : Option (List Span × Nat)) (w : World) (e : Ending) (w' : World) : Prop := Below w.heap.size w w' ∧ match o with
  | some (sp, n) => ∃ v, e = .returned (.tuple #[v, .int .i64 (n : Nat), .bool true]) ∧ Sl w' w'.heap.size 2 v sp.length (sp.flatMap spanC)
  | none => ∃ v x, e = .returned (.tuple #[v, x, .bool false])

theorem namedS_short {l : List Sg} (h : l.length < 2) : namedS l = none := by
  match l, h with
  | [], _ => rfl
  | [x], _ => rfl
theorem namedS_no {x y : Sg} {l : List Sg} (h : (isb x 91 && isb y 58) = false) : namedS (x :: y :: l) = none := by rw [namedS, if_neg (by rw [h]; decide)]
theorem namedS_yes {x y : Sg} {l : List Sg} (h : (isb x 91 && isb y 58) = true) : namedS (x :: y :: l) = match nameS [] 2 l with
    | some (n, k) => (classL n).map (·, k)
    | none => none := by
  rw [namedS, if_pos h]
  cases nameS [] 2 l <;> rfl

set_option maxHeartbeats 1000000 in
theorem named_any (l : List Sg) (v : Value) (w : World) (hl : Sl w w.heap.size 2 v l.length (l.flatMap sgC)) (hn : l.length ≤ 100000) :
    Calls Try.prog 27 #[v] w (NamedPost (namedS l) w) := by
  by_cases h2 : l.length < 2
  · rw [namedS_short h2]
    obtain ⟨a, cap, rfl⟩ : ∃ a cap, v = .slice a l.length cap := by
      obtain ⟨_, a, cap, h, _⟩ := hl
      exact ⟨a, cap, h⟩
    have ht : decide ((l.length : Int) < 2) = true := by simp; omega
    go_enter Try.func27, Try.ntmps27
    go_wp2
    go_ret3
    exact ⟨Below.refl _ _, _, _, rfl⟩
  · obtain ⟨x, y, t, rfl⟩ : ∃ x y t, l = x :: y :: t := by
      match l, h2 with
      | x :: y :: t, _ => exact ⟨x, y, t, rfl⟩
      | [], h => simp at h
      | [x], h => simp at h
    have hlen : (x :: y :: t).length = t.length + 2 := rfl
    obtain ⟨b1, o1, i1, hb1, c1, d1⟩ := sg_at hl (k := 0) (x := x) rfl 0 rfl
    obtain ⟨b2, o2, i2, hb2, c2, d2⟩ := sg_at hl (k := 1) (x := y) rfl 1 rfl
    obtain ⟨a, cap, hv⟩ : ∃ a cap, v = .slice a (t.length + 2) cap := by
      obtain ⟨_, a, cap, h, _⟩ := hl
      exact ⟨a, cap, h⟩
    obtain ⟨r1, hr1⟩ : ∃ r, isb x 91 = r := ⟨_, rfl⟩
    obtain ⟨r2, hr2⟩ : ∃ r, isb y 58 = r := ⟨_, rfl⟩
    have ht : decide ((t.length : Int) + 2 < 2) = false := by simp; omega
    have C1 := is_at x 91 r1 hr1 91 rfl
    have C2 := is_at y 58 r2 hr2 58 rfl
    have HL := Lib.hid hl
    subst hv
    cases r1 with
    | false =>
      rw [namedS_no (by rw [hr1, Bool.false_and])]
      clear h2 hlen hl hr1 hr2
      go_enter Try.func27, Try.ntmps27
      go_wp2_with (go_at_call 22; refine (C1.out _).mono ?_; rintro e w' ⟨rfl, rfl⟩)
      go_ret3
      exact ⟨Below.alloc (Below.refl _ _) (Nat.le_refl _) _, _, _, rfl⟩
    | true =>
      cases r2 with
      | false =>
        rw [namedS_no (by rw [hr2, Bool.and_false])]
        clear h2 hlen hl hr1 hr2
        go_enter Try.func27, Try.ntmps27
        go_wp2_with (go_at_call 22; with_reducible first | (refine (C1.out _).mono ?_; rintro e w' ⟨rfl, rfl⟩) | (refine (C2.out _).mono ?_; rintro e w' ⟨rfl, rfl⟩))
        go_ret3
        exact ⟨Below.alloc (Below.alloc (Below.refl _ _) (Nat.le_refl _) _) (by simp) _, _, _, rfl⟩
      | true =>
        rw [namedS_yes (by rw [hr1, hr2]; rfl)]
        obtain ⟨R, hR⟩ : ∃ R, R = nameS [] 2 t := ⟨_, rfl⟩
        rw [← hR]
        have HR0 := Lib.hid hR
        obtain ⟨R2, hR2⟩ : ∃ R2, R2 = (match R with
          | some (n, k) => (classL n).map (·, k)
          | none => none : Option (List Span × Nat)) := ⟨_, rfl⟩
        rw [← hR2]
        have HR2 := Lib.hid hR2
        clear hR2
        have HN := Lib.hid hlen
        have hn' : t.length ≤ 99998 := by simp at hn; omega
        clear hn
        clear h2 hlen hl hr1 hr2 hR
        go_enter Try.func27, Try.ntmps27
        go_wp2_with (go_at_call 22; with_reducible first | (refine (C1.out _).mono ?_; rintro e w' ⟨rfl, rfl⟩) | (refine (C2.out _).mono ?_; rintro e w' ⟨rfl, rfl⟩))
        go_loopw [5, 6] (fun nm i wr => ∃ (k : Nat) (s : List UInt8), (S s).size ≤ k ∧ k ≤ t.length + 2 ∧ i = .int .i64 k ∧ nm = .string (S s) ∧ R = nameS s k ((x :: y :: t).drop k) ∧ Below w.heap.size w wr) (fun _ i _ => t.length + 2 - (intOf i).toNat)
        case atStart => exact ⟨2, [], by simp [S_size], by omega, rfl, rfl, HR0.out, Below.alloc (Below.alloc (Below.refl _ _) (Nat.le_refl _) _) (by simp) _⟩
        case round =>
          obtain ⟨k, s, hss, hk, rfl, rfl, hr, hb⟩ := hrel
          have hsz := hb.size
          clear c1 d1 c2 d2 C1 C2 i1 i2 hb1 hb2
          by_cases hlt : k + 1 < t.length + 2
          · obtain ⟨p, hp⟩ : ∃ p, (x :: y :: t)[k]? = some p := ⟨_, List.getElem?_eq_getElem (by rw [HN.out]; omega)⟩
            obtain ⟨q, hq⟩ : ∃ q, (x :: y :: t)[k + 1]? = some q := ⟨_, List.getElem?_eq_getElem (by rw [HN.out]; omega)⟩
            obtain ⟨b1, o1, i1, hb1, c1, d1⟩ := sg_at (HL.out.below hb) hp (k : Int) rfl
            obtain ⟨b2, o2, i2, hb2, c2, d2⟩ := sg_at (HL.out.below hb) hq ((k : Int) + 1) (by omega)
            have hb1' : b1 < wr.heap.size := by omega
            have hb2' : b2 < wr.heap.size := by omega
            have hdr := drop_cons hq
            rw [drop_cons hp, hdr, nameS, ← hdr] at hr
            obtain ⟨r1, hr1⟩ : ∃ r, isb p 58 = r := ⟨_, rfl⟩
            obtain ⟨r2, hr2⟩ : ∃ r, isb q 93 = r := ⟨_, rfl⟩
            rw [hr1, hr2] at hr
            have C1 := is_at p 58 r1 hr1 58 rfl
            have C2 := is_at q 93 r2 hr2 93 rfl
            have HB := Lib.hid hb
            clear hp hq hdr hr1 hr2 hb hb1 hb2
            cases r1 with
            | false =>
              rw [if_neg (by simp)] at hr
              have HRR := Lib.hid hr
              clear hr
              go_wp2_with (go_at_call 22; with_reducible first | (refine (C1.out _).mono ?_; rintro e w' ⟨rfl, rfl⟩) | (refine (C2.out _).mono ?_; rintro e w' ⟨rfl, rfl⟩))
              go_roundw
              case rel => exact ⟨k + 1, s ++ [p.b], by simp [S_size] at hss ⊢; omega, by omega, by go_num, congrArg Value.string (S_append s [p.b]), HRR.out, Below.alloc (Below.alloc HB.out (by omega) _) (by simp; omega) _⟩
              case measure => simp [intOf]; omega
            | true =>
              cases r2 with
              | false =>
                rw [if_neg (by simp)] at hr
                have HRR := Lib.hid hr
                clear hr
                go_wp2_with (go_at_call 22; with_reducible first | (refine (C1.out _).mono ?_; rintro e w' ⟨rfl, rfl⟩) | (refine (C2.out _).mono ?_; rintro e w' ⟨rfl, rfl⟩))
                go_roundw
                case rel => exact ⟨k + 1, s ++ [p.b], by simp [S_size] at hss ⊢; omega, by omega, by go_num, congrArg Value.string (S_append s [p.b]), HRR.out, Below.alloc (Below.alloc (Below.alloc HB.out (by omega) _) (by simp; omega) _) (by simp; omega) _⟩
                case measure => simp [intOf]; omega
              | true =>
                rw [if_pos (by rfl)] at hr
                subst hr
                have CL := class_any (S s)
                rw [L_S] at CL
                cases hc : classL s with
                | none =>
                  rw [hc] at CL
                  have C3 := Lib.hid CL
                  have h2 : R2 = none := by rw [HR2.out]; show (classL s).map _ = none; rw [hc]; rfl
                  subst h2
                  clear CL hc
                  go_wp2_with (first | (go_at_call 22; with_reducible first | (refine (C1.out _).mono ?_; rintro e w' ⟨rfl, rfl⟩) | (refine (C2.out _).mono ?_; rintro e w' ⟨rfl, rfl⟩)) | (go_at_call 31; refine (C3.out _).mono ?_; rintro e w' ⟨hb3, rfl⟩))
                  go_ret3
                  exact ⟨(Below.alloc (Below.alloc HB.out (by omega) _) (by simp; omega) _).trans (hb3.mono (by simp; omega)), _, _, rfl⟩
                | some sp =>
                  rw [hc] at CL
                  have C3 := Lib.hid CL
                  have h2 : R2 = some (sp, k + 2) := by rw [HR2.out]; show (classL s).map _ = some (sp, k + 2); rw [hc]; rfl
                  subst h2
                  clear CL hc
                  go_wp2_with (first | (go_at_call 22; with_reducible first | (refine (C1.out _).mono ?_; rintro e w' ⟨rfl, rfl⟩) | (refine (C2.out _).mono ?_; rintro e w' ⟨rfl, rfl⟩)) | (go_at_call 31; refine (C3.out _).mono ?_; rintro e w' ⟨hb3, v3, rfl, hs3⟩))
                  go_ret3
                  exact ⟨(Below.alloc (Below.alloc HB.out (by omega) _) (by simp; omega) _).trans (hb3.mono (by simp; omega)), v3, rfl, hs3⟩
          · have hr0 : R = none := by
              rw [hr]
              match hd : (x :: y :: t).drop k with
              | [] => rfl
              | [z] => rfl
              | z :: z' :: u =>
                have := congrArg List.length hd
                rw [List.length_drop, HN.out] at this
                simp at this; omega
            have h2 : R2 = none := by rw [HR2.out, hr0]
            subst h2
            clear hr hr0
            go_wp2
            go_ret3
            exact ⟨hb, _, _, rfl⟩
end Go.Proofs.Ytiacoomeakodnaa
