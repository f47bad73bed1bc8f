/-
  The walks of blanks and take.
-/
import Derived.Test.YtpgneaekflhgnaaDoorA1
import Derived.Test.YtpgneaekflhgnaaDoorStr
import Derived.Deep.LoopGhost
import Derived.BigQuiet
import Derived.Deep.Quiet
namespace Go.Proofs.YtpgneaekflhgnaaDoor
open Go.RowKit

theorem blank_at {c : UInt8} (h : blankB c = true) : ∃ v : Int, Lib.indexByte (L ⟨#[32, 9, 10]⟩) c = v ∧ 0 ≤ v := by
  simp only [blankB, Bool.or_eq_true, beq_iff_eq] at h
  rcases h with (h | h) | h <;> subst h
  · exact ⟨0, rfl, by omega⟩
  · exact ⟨1, rfl, by omega⟩
  · exact ⟨2, rfl, by omega⟩
theorem blank_not {c : UInt8} (h : blankB c = false) : Lib.indexByte (L ⟨#[32, 9, 10]⟩) c = -1 := by
  simp only [blankB, Bool.or_eq_false_iff, beq_eq_false_iff_ne, ne_eq] at h
  obtain ⟨⟨h1, h2⟩, h3⟩ := h
  simp [L, Lib.indexByte, Ne.symm h1, Ne.symm h2, Ne.symm h3]
theorem skip_blank {c : UInt8} (h : blankB c = true) (r : List UInt8) : skipB (c :: r) = skipB r := by
  rw [skipB, List.dropWhile_cons, if_pos h]; rfl
theorem skip_nil : skipB [] = [] := rfl
set_option maxHeartbeats 1000000 in
set_option maxRecDepth 100000 in
theorem blanks_any {w : World} {g : Nat} {s : ByteArray} {p : Nat} {lf : Int} {vv : Value} {q : Int} (k : SB w g s p lf vv q) (hp : p ≤ s.size) (hs : s.size ≤ 1000000) :
    Calls Tryd.prog 17 #[.pointer (some ⟨g, 0, none⟩)] w fun e w' => e = .returned (.tuple #[]) ∧ ∃ p', p' ≤ s.size ∧ (L s).drop p' = skipB ((L s).drop p) ∧ SB w' g s p' lf vv q ∧ But g g w w' := by
  obtain ⟨r, hr⟩ : ∃ r, skipB ((L s).drop p) = r := ⟨_, rfl⟩
  have hk := k
  rw [hr]
  have HS := Lib.hid hs
  have C1 : Hid (∀ (c : UInt8) (v : Int) (W : World), Lib.indexByte (L ⟨#[32, 9, 10]⟩) c = v → Calls Tryd.prog 30 #[.string ⟨#[32, 9, 10]⟩, .int .u8 ((c.toNat : Nat) : Int)] W fun e w' => e = .returned (.int .i64 v) ∧ w' = W) := Lib.hid fun c v W hv => indexAt_any ⟨#[32, 9, 10]⟩ c v W hv
  go_enter Tryd.func17, Tryd.ntmps17
  go_wp2_with fail
  go_loopg [24] (s.size - p) (fun n _ wr => ∃ p', p' ≤ s.size ∧ n = s.size - p' ∧ skipB ((L s).drop p') = r ∧ SB wr g s p' lf vv q ∧ But g g w wr)
  case atStart => exact ⟨p, hp, rfl, hr, hk, But.refl g g w⟩
  case round =>
    obtain ⟨p', hp', hn, hrest, hsb, hbut⟩ := hrel
    have y0 := hsb.c0
    have y1 := hsb.c1
    have z1 := hsb.z1
    have HSB := Lib.hid hsb
    have HB := Lib.hid hbut
    have HN := Lib.hid hn
    clear hsb hbut hn hk k hr hp
    by_cases hlt : p' < s.size
    · have ix := fun W => run_idx (P := Tryd.prog) Tryd.underlying9 s (k := .i64) (p' : Int) p' rfl hlt W
      have hd := drop_getD (L s) (k := p') hlt
      rw [hd] at hrest
      have hwr : IntKind.i64.wrap ((p' : Int) + 1) = ((p' + 1 : Nat) : Int) := by
        have := HS.out
        rw [IntWalk.i64_in _ ⟨by omega, by omega⟩]; omega
      generalize (L s).getD p' 0 = c at ix hrest hd
      cases hb : blankB c with
      | true =>
        obtain ⟨v, hv, hv0⟩ := blank_at hb
        have C2 := Lib.hid (fun W => C1.out c v W hv)
        rw [skip_blank hb] at hrest
        have HR := Lib.hid hrest
        clear hb hd hrest hv
        go_wp2_with fail
        go_quiet ((go_at_call 30; exact Calls.quiet_of_same (C2.out _)))
        go_wp2_with fail
        go_roundg (s.size - (p' + 1))
        case measure => have := HN.out; omega
        case rel =>
          exact ⟨p' + 1, hlt, rfl, HR.out, (HSB.out.drewN nq).put1 (p' + 1), (HB.out.drewN nq).setG 1 _⟩
      | false =>
        have hv := blank_not hb
        have C2 := Lib.hid (fun W => C1.out c (-1) W hv)
        rw [skip_cons hb] at hrest
        have HR := Lib.hid (hd.trans hrest)
        clear hb hd hrest hv
        go_wp2_with fail
        go_quiet ((go_at_call 30; exact Calls.quiet_of_same (C2.out _)))
        go_wp2_with fail
        go_end0
        exact ⟨rfl, p', hp', HR.out, HSB.out.drewN nq, HB.out.drewN nq⟩
    · have he : p' = s.size := by omega
      have HR : Hid ((L s).drop p' = r) := Lib.hid (by
        rw [← hrest, List.drop_eq_nil_of_le (by rw [L_size]; omega)]; rfl)
      clear hrest
      subst he
      go_wp2_with fail
      go_quiet (fail)
      go_wp2_with fail
      go_end0
      exact ⟨rfl, _, hp', HR.out, HSB.out.drewN nq, HB.out.drewN nq⟩

/-- Where the sum stands: behind it comes l. -/
def SR (w : World) (g : Nat) (s : ByteArray) (l : List UInt8) (lf : Int) (vv : Value) (q : Int) : Prop := ∃ p, p ≤ s.size ∧ (L s).drop p = l ∧ SB w g s p lf vv q
theorem SR.len {w : World} {g : Nat} {s : ByteArray} {l : List UInt8} {lf : Int} {vv : Value} {q : Int} (h : SR w g s l lf vv q) : l.length ≤ s.size := by
  obtain ⟨p, h1, h2, _⟩ := h
  rw [← h2, List.length_drop, L_size]; omega
theorem SR.lt {w : World} {g : Nat} {s : ByteArray} {l : List UInt8} {lf : Int} {vv : Value} {q : Int} (h : SR w g s l lf vv q) : g < w.heap.size := by
  obtain ⟨p, _, _, h3⟩ := h
  exact h3.lt
theorem SR.below {w w' : World} {g : Nat} {s : ByteArray} {l : List UInt8} {lf : Int} {vv : Value} {q : Int} (h : SR w g s l lf vv q) (hb : Below w.heap.size w w') : SR w' g s l lf vv q := by
  obtain ⟨p, h1, h2, h3⟩ := h
  exact ⟨p, h1, h2, h3.below hb⟩
theorem SR.put2 {w : World} {g : Nat} {s : ByteArray} {l : List UInt8} {lf : Int} {vv : Value} {q : Int} (h : SR w g s l lf vv q) (x : Int) : SR (w.setCell ⟨g, 2, none⟩ (.int .i64 x)) g s l x vv q := by
  obtain ⟨p, h1, h2, h3⟩ := h
  exact ⟨p, h1, h2, h3.put2 x⟩
theorem SR.put4 {w : World} {g : Nat} {s : ByteArray} {l : List UInt8} {lf : Int} {vv : Value} {q : Int} (h : SR w g s l lf vv q) (x : Int) : SR (w.setCell ⟨g, 4, none⟩ (.int .i64 x)) g s l lf vv x := by
  obtain ⟨p, h1, h2, h3⟩ := h
  exact ⟨p, h1, h2, h3.put4 x⟩
theorem any_take {bs : List ByteArray} {l : List UInt8} {k : Nat} (h : ∀ j, j < k → (L (bs.getD j ByteArray.empty)).isPrefixOf l = false) (hk : k = bs.length) : (bs.map L).any (fun b => b.isPrefixOf l) = false := by
  rw [List.any_eq_false]
  intro b hb
  obtain ⟨x, hx, rfl⟩ := List.mem_map.1 hb
  obtain ⟨i, hi, e⟩ := List.getElem_of_mem hx
  have := h i (by omega)
  rw [List.getD_eq_getElem?_getD, List.getElem?_eq_getElem hi, Option.getD_some, e] at this
  rw [this]; exact Bool.false_ne_true
theorem any_hit {bs : List ByteArray} {l : List UInt8} {x : ByteArray} (hx : x ∈ bs) (h : (L x).isPrefixOf l = true) : (bs.map L).any (fun b => b.isPrefixOf l) = true :=
  List.any_eq_true.2 ⟨L x, List.mem_map.2 ⟨x, hx, rfl⟩, h⟩
set_option maxHeartbeats 1000000 in
set_option maxRecDepth 100000 in
theorem take_any {w : World} {g : Nat} {s : ByteArray} {l : List UInt8} {lf : Int} {vv : Value} {q : Int} (k : SR w g s l lf vv q) (hs : s.size ≤ 1000000) (t : ByteArray) (a : Option Addr) (c B : Nat) (but : List ByteArray) (hE : Elems w B a but.length (but.map .string)) (hN2 : but.length ≤ 2) :
    Calls Tryd.prog 32 #[.pointer (some ⟨g, 0, none⟩), .string t, .slice a but.length c] w fun e w' => e = .returned (.bool (takeL (L t) (but.map L) l)) ∧ SR w' g s (if takeL (L t) (but.map L) l then skipB (l.drop t.size) else l) lf vv q ∧ But g g w w' := by
  obtain ⟨r, hr⟩ : ∃ r, takeL (L t) (but.map L) l = r := ⟨_, rfl⟩
  obtain ⟨l', hl'⟩ : ∃ l', (if r then skipB (l.drop t.size) else l) = l' := ⟨_, rfl⟩
  rw [hr, hl']
  have HRR := Lib.hid hr
  have HLL := Lib.hid hl'
  clear hr hl'
  obtain ⟨p, hp, hl, hsb⟩ := k
  have y0 := hsb.c0
  have y1 := hsb.c1
  have z1 := hsb.z1
  obtain ⟨N, hN⟩ : ∃ N, N = but.length := ⟨_, rfl⟩
  obtain ⟨be, oe, re, _, ce⟩ := hE.open (P := Tryd.prog) 23 9 Tryd.underlying23 (by kernel_rfl)
  rw [← hN] at re ce hN2 ⊢
  have HN := Lib.hid hN
  have RE := Lib.hid re
  have CE := Lib.hid ce
  have HSB := Lib.hid hsb
  have hsl := fun (W : World) => run_sl_from (P := Tryd.prog) Tryd.underlying9 s (p : Int) p rfl hp W
  have hxl : L (s.extract p s.size) = l := by
    rw [L_extract, List.take_of_length_le (by simp [L_size]), hl]
  obtain ⟨xt, hxt⟩ : ∃ xt, xt = s.extract p s.size := ⟨_, rfl⟩
  rw [← hxt] at hsl hxl
  have CP : Hid (∀ (t : ByteArray) (r : Bool), (L t).isPrefixOf l = r → ∀ W, Calls Tryd.prog 40 #[.string xt, .string t] W fun e w' => e = .returned (.bool r) ∧ w' = W) := Lib.hid fun t r hr W => by
    subst hr
    rw [← hxl]
    exact Tryd.strings_HasPrefix xt t W
  have HLN : Hid (l.length = s.size - p) := Lib.hid (by rw [← hl, List.length_drop, L_size])
  have HL := Lib.hid hl
  have HS := Lib.hid hs
  clear hN re ce hE hsb hxl hxt hl hs
  cases hb0 : (L t).isPrefixOf l with
  | false =>
    have HT : Hid (r = false ∧ l' = l) := Lib.hid (by
      have h : r = false := by rw [← HRR.out, takeL, hb0]; rfl
      exact ⟨h, by rw [← HLL.out, h]; rfl⟩)
    have C1 := Lib.hid (CP.out t false hb0)
    clear hb0
    go_enter Tryd.func32, Tryd.ntmps32
    go_wp2_with fail
    go_quiet ((go_at_call 40; exact Calls.quiet_of_same (C1.out _)))
    go_wp2_with fail
    go_ret
    exact ⟨by rw [HT.out.1]; rfl, ⟨p, hp, by rw [HT.out.2]; exact HL.out, HSB.out.drewN nq⟩, (But.refl g g w).drewN nq⟩
  | true =>
    have C1 := Lib.hid (CP.out t true hb0)
    have hpt : p + t.size ≤ s.size := by
      have h1 := List.isPrefixOf_iff_prefix.1 hb0
      have h2 := h1.length_le
      have := HLN.out
      rw [L_size] at h2
      omega
    have HB0 := Lib.hid hb0
    clear hb0
    go_enter Tryd.func32, Tryd.ntmps32
    go_wp2_with fail
    go_quiet ((go_at_call 40; exact Calls.quiet_of_same (C1.out _)))
    go_wp2_with fail
    go_loopw [23] (fun i wr => ∃ k n : Nat, i = .int .i64 k ∧ k ≤ N ∧ wr = w.drewN n ∧ Hid (∀ j, j < k → (L (but.getD j ByteArray.empty)).isPrefixOf l = false)) (fun i _ => N - (intOf i).toNat)
    case atStart => exact ⟨0, nq, rfl, Nat.zero_le _, rfl, Lib.hid fun j hj => absurd hj (by omega)⟩
    case round =>
      obtain ⟨k, n, rfl, hk, hwr, hno⟩ := hrel
      have x0 : wr.cell? ⟨g, 0, none⟩ = some (.string s) := by rw [hwr]; exact y0
      have x1 : wr.cell? ⟨g, 1, none⟩ = some (.int .i64 (p : Int)) := by rw [hwr]; exact y1
      have x2 : wr.frozen? ⟨g, 1, none⟩ = false := by rw [hwr]; exact z1
      have HSB2 : Hid (SB wr g s p lf vv q ∧ But g g w wr ∧ ∀ m, ∃ n, wr.drewN m = w.drewN n) := Lib.hid ⟨by rw [hwr]; exact HSB.out.drewN n, by rw [hwr]; exact (But.refl g g w).drewN n, fun m => by rw [hwr]; exact ⟨n + m, by simp [World.drewN, Nat.add_assoc]⟩⟩
      have HWR := Lib.hid hwr
      clear hwr y0 y1 z1
      by_cases hlt : k < N
      · have hkl : k < but.length := by rw [← HN.out]; exact hlt
        obtain ⟨x, hx⟩ : ∃ x, but[k]? = some x := ⟨_, List.getElem?_eq_getElem hkl⟩
        have j1 := fun w' => RE.out k c w' hlt
        have d1 : wr.cell? ⟨be, oe + k, none⟩ = some (.string x) := by
          rw [HWR.out]
          exact (CE.out k hlt).trans (by rw [List.getElem?_map, hx]; rfl)
        cases hb : (L x).isPrefixOf l with
        | true =>
          have HT : Hid (r = false ∧ l' = l) := Lib.hid (by
            have h : r = false := by rw [← HRR.out, takeL, HB0.out, any_hit (List.mem_of_getElem? hx) hb]; rfl
            exact ⟨h, by rw [← HLL.out, h]; rfl⟩)
          have C2 := Lib.hid (CP.out x true hb)
          clear hb hx hkl
          go_wp2_with fail
          go_quiet ((go_at_call 40; exact Calls.quiet_of_same (C2.out _)))
          go_wp2_with fail
          go_ret
          exact ⟨by rw [HT.out.1]; rfl, ⟨p, hp, by rw [HT.out.2]; exact HL.out, HSB2.out.1.drewN _⟩, HSB2.out.2.1.drewN _⟩
        | false =>
          have C2 := Lib.hid (CP.out x false hb)
          have HNX : Hid (∀ j, j < k + 1 → (L (but.getD j ByteArray.empty)).isPrefixOf l = false) := Lib.hid fun j hj => by
            by_cases hjk : j < k
            · exact hno.out j hjk
            · obtain rfl : j = k := by omega
              rw [List.getD_eq_getElem?_getD, hx]; exact hb
          clear hb hx hkl
          go_wp2_with fail
          go_quiet ((go_at_call 40; exact Calls.quiet_of_same (C2.out _)))
          go_wp2_with fail
          go_roundw
          case rel =>
            obtain ⟨n2, hn2⟩ := HSB2.out.2.2 nq
            exact ⟨k + 1, n2, by go_num, by omega, hn2, HNX⟩
          case measure => simp [intOf]; omega
      · have hkN : k = N := by omega
        have HT : Hid (r = true ∧ l' = skipB (l.drop t.size)) := Lib.hid (by
          have h : r = true := by rw [← HRR.out, takeL, HB0.out, any_take hno.out (by rw [← HN.out]; exact hkN)]; rfl
          exact ⟨h, by rw [← HLL.out, h]; rfl⟩)
        have hw2 : IntKind.i64.wrap ((p : Int) + (t.size : Int)) = ((p + t.size : Nat) : Int) := by
          have := HS.out
          rw [IntWalk.i64_in _ ⟨by omega, by omega⟩]; omega
        have HP : Hid (SB (wr.setCell ⟨g, 1, none⟩ (.int .i64 ((p + t.size : Nat) : Int))) g s (p + t.size) lf vv q ∧ But g g w (wr.setCell ⟨g, 1, none⟩ (.int .i64 ((p + t.size : Nat) : Int)))) := Lib.hid ⟨HSB2.out.1.put1 _, HSB2.out.2.1.setG 1 _⟩
        subst hkN
        clear hno
        go_wp2_with fail
        refine (blanks_any HP.out.1 hpt HS.out).mono ?_
        rintro e w2 ⟨rfl, p', hp', hd', hsb', hb'⟩
        have HQ : Hid (SR w2 g s (skipB (l.drop t.size)) lf vv q ∧ But g g w w2) := Lib.hid ⟨⟨p', hp', by rw [hd', ← HL.out, List.drop_drop], hsb'⟩, HP.out.2.trans hb'⟩
        clear hd' hsb' hb'
        go_wp2_with fail
        go_ret
        exact ⟨by rw [HT.out.1]; rfl, by rw [HT.out.2]; exact HQ.out.1, HQ.out.2⟩
end Go.Proofs.YtpgneaekflhgnaaDoor
