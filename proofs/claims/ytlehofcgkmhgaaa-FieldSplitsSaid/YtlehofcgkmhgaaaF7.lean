/-
  Split, Text: the walks.
-/
import Derived.Test.YtlehofcgkmhgaaaF6
import Derived.Test.YtlehofcgkmhgaaaBld
namespace Go.Proofs.Ytlehofcgkmhgaaa
open Go.RowKit

/-- A slice of fields of the call's own. -/
def OutAt (w : World) (B : Nat) (v : Value) (fs : List (List Pc)) : Prop := ∃ fv : List Fv, w.ownsRow B 30 1 v fv.length (fv.map (·.2)) ∧ FieldsAt w B fv ∧ fv.map (·.1) = fs
theorem OutAt.below {w w' : World} {B : Nat} {v : Value} {fs : List (List Pc)} (h : OutAt w B v fs) (hb : Below w.heap.size w w') : OutAt w' B v fs := by
  obtain ⟨fv, h1, h2, h3⟩ := h
  exact ⟨fv, own_below h1 hb, fun x hx => own_below (h2 x hx) hb, h3⟩
theorem OutAt.mono {w : World} {B B' : Nat} {v : Value} {fs : List (List Pc)} (h : OutAt w B v fs) (hB : B' ≤ B) : OutAt w B' v fs := by
  obtain ⟨fv, h1, h2, h3⟩ := h
  exact ⟨fv, own_from h1 hB, fun x hx => own_from (h2 x hx) hB, h3⟩
/-- A field of the slice. -/
theorem OutAt.field {w : World} {B : Nat} {v : Value} {fs : List (List Pc)} (h : OutAt w B v fs) {k : Nat} {f : List Pc} (hf : fs[k]? = some f) (i : Int) (hi : i = k) :
    ∃ b o x, (∀ w' : World, (Instr.indexAt 27 v (.int .i64 i)).run Try.prog w' = .ok (.pointer (some ⟨b, o, none⟩)) w') ∧ b < w.heap.size ∧ w.cell? ⟨b, o, none⟩ = some x ∧ w.ownsRow B 45 2 x f.length (f.flatMap pcC) := by
  obtain ⟨fv, h1, h2, h3⟩ := h
  have hk : k < fv.length := by
    have := (List.getElem?_eq_some_iff.1 hf).1
    rw [← h3, List.length_map] at this; exact this
  obtain ⟨g, cap, rfl, hB, hg, i0, hc⟩ := own_at (P := Try.prog) h1 27 Try.underlying27 (by kernel_rfl) hk i hi
  rw [Nat.mul_one] at i0
  have hx : fv[k]? = some fv[k] := List.getElem?_eq_getElem hk
  have hf2 : fv[k].1 = f := by
    rw [← h3, List.getElem?_map, hx] at hf
    simpa using hf
  refine ⟨g, k, fv[k].2, i0, hg, ?_, ?_⟩
  · rw [(hc k (by omega)).1, List.getElem?_map, hx]; rfl
  · have := h2 fv[k] (List.getElem_mem hk)
    rw [hf2] at this
    exact this
theorem OutAt.shape {w : World} {B : Nat} {v : Value} {fs : List (List Pc)} (h : OutAt w B v fs) : ∃ a c, v = .slice a fs.length c := by
  obtain ⟨fv, h1, h2, h3⟩ := h
  obtain ⟨a, c, e⟩ := own_shape h1
  exact ⟨a, c, by rw [e, ← h3, List.length_map]⟩

/-- A piece that came in. -/
theorem in_at {w : World} {B : Nat} {v : Value} {l : List In} (h : Sl w B 4 v l.length (l.flatMap inC)) {k : Nat} {x : In} (hx : l[k]? = some x) (i : Int) (hi : i = k) :
    ∃ b o, (∀ w' : World, (Instr.indexAt 24 v (.int .i64 i)).run Try.prog w' = .ok (.pointer (some ⟨b, o, none⟩)) w') ∧ b < B ∧ w.cell? ⟨b, o, none⟩ = some (.string x.t) ∧ w.cell? ⟨b, o + 1, none⟩ = some (.bool x.q) ∧ w.cell? ⟨b, o + 2, none⟩ = some (.bool x.s) ∧ w.cell? ⟨b, o + 3, none⟩ = some (.bool x.b) := by
  subst hi
  have hk := (List.getElem?_eq_some_iff.1 hx).1
  obtain ⟨a, cap, b, off, rfl, _, _, h1, h2, h3⟩ := h.open (P := Try.prog) 24 26 Try.underlying24 (by kernel_rfl)
  have g := flat_get inC 4 inC_len l k x hx
  refine ⟨b, off + k * 4, fun w' => h1 k w' hk, by omega, ?_, ?_, ?_, ?_⟩
  · rw [show off + k * 4 = off + (k * 4 + 0) by omega, h3 _ (by omega), g 0 (by omega)]; rfl
  · rw [show off + k * 4 + 1 = off + (k * 4 + 1) by omega, h3 _ (by omega), g 1 (by omega)]; rfl
  · rw [show off + k * 4 + 2 = off + (k * 4 + 2) by omega, h3 _ (by omega), g 2 (by omega)]; rfl
  · rw [show off + k * 4 + 3 = off + (k * 4 + 3) by omega, h3 _ (by omega), g 3 (by omega)]; rfl

/-- The state behind k pieces; what a size asks. -/
def stK (ifs : List UInt8) (l : List In) (k : Nat) : St := (l.take k).foldl (stepP ifs) St0
theorem stK_succ {ifs : List UInt8} {l : List In} {k : Nat} {x : In} (h : l[k]? = some x) : stK ifs l (k + 1) = stepP ifs (stK ifs l k) x := by
  obtain ⟨hk, rfl⟩ := List.getElem?_eq_some_iff.1 h
  unfold stK
  rw [List.take_succ_eq_append_getElem hk, List.foldl_append]; rfl
def FitL (ifs : List UInt8) (l : List In) : Prop := (∀ k x, l[k]? = some x → x.b = false → ∀ p ∈ (stK ifs l k).now, p.t.size + x.t.size ≤ 9223372036854775807) ∧ (l.map wt).sum ≤ 900000
theorem sum_take (f : In → Nat) : ∀ (l : List In) (k : Nat), ((l.take k).map f).sum ≤ (l.map f).sum
  | [], k => by simp
  | x :: l, 0 => by simp
  | x :: l, k + 1 => by
    have := sum_take f l k
    simp only [List.take_succ_cons, List.map_cons, List.sum_cons]
    omega
theorem cnt_fold2 (ifs : List UInt8) : ∀ (l : List In) (s : St), cnt (l.foldl (stepP ifs) s) ≤ cnt s + (l.map wt).sum
  | [], _ => by simp
  | x :: l, s => by
    have h1 := cnt_fold2 ifs l (stepP ifs s x)
    have h2 := cnt_piece ifs s x
    simp; omega
theorem FitL.cnt {ifs : List UInt8} {l : List In} (h : FitL ifs l) (k : Nat) : Go.Proofs.Ytlehofcgkmhgaaa.cnt (stK ifs l k) ≤ 900000 := by
  have h1 := cnt_fold2 ifs (l.take k) St0
  have h2 := sum_take wt l k
  have h3 := h.2
  have h4 : Go.Proofs.Ytlehofcgkmhgaaa.cnt St0 = 0 := rfl
  unfold stK
  omega
theorem FitL.sp {ifs : List UInt8} {l : List In} (h : FitL ifs l) {k : Nat} {x : In} (hx : l[k]? = some x) (hb : x.b = false) (hq : x.q = false) (hs : x.s = true) : FitS (stK ifs l k) x.t.size := by
  have h1 := stK_succ (ifs := ifs) hx
  have h4 : ((l.take (k + 1)).map wt).sum ≤ (l.map wt).sum := sum_take wt l (k + 1)
  have h5 := cnt_fold2 ifs (l.take k) St0
  have h6 : Go.Proofs.Ytlehofcgkmhgaaa.cnt St0 = 0 := rfl
  obtain ⟨hk, e⟩ := List.getElem?_eq_some_iff.1 hx
  rw [List.take_succ_eq_append_getElem hk, List.map_append, List.sum_append, e] at h4
  have h7 : wt x = 1 + x.t.size := by rw [wt, hs, hq, hb]; rfl
  have h8 := h.2
  simp only [List.map_cons, List.map_nil, List.sum_cons, List.sum_nil, h7] at h4
  refine ⟨h.1 k x hx hb, by omega, ?_⟩
  unfold stK
  omega

def SplitPost (fs : List (List Pc)) (w : World) (e : Ending) (w' : World) : Prop := Below w.heap.size w w' ∧ ∃ v, e = .returned v ∧ OutAt w' w.heap.size v fs

set_option maxHeartbeats 2000000 in
theorem Split_any (ifs : ByteArray) (l : List In) (v : Value) (w : World) (hl : Sl w w.heap.size 4 v l.length (l.flatMap inC)) (hi : ifs.size ≤ 9223372036854775807) (hf : FitL (L ifs) l) :
    Calls Try.prog 7 #[v, .string ifs] w (SplitPost (splitF (L ifs) l) w) := by
  obtain ⟨n, hnl⟩ : ∃ n, n = l.length := ⟨_, rfl⟩
  rw [← hnl] at hl
  have hnm := hl.len
  unfold maxLen at hnm
  obtain ⟨a, cap, rfl⟩ : ∃ a cap, v = .slice a n cap := by
    obtain ⟨_, a, cap, h, _⟩ := hl
    exact ⟨a, cap, h⟩
  have HL := Lib.hid hl
  have HN := Lib.hid hnl
  have HF := Lib.hid hf
  have CW := Lib.hid (fun W => whites_any ifs W hi)
  clear hl hnl hf
  go_enter Try.func7, Try.ntmps7
  go_wp2_with fail
  refine (CW.out _).mono ?_
  rintro e w1 ⟨rfl, hb1⟩
  have hB := (Blk.new w 51 (spC ⟨#[]⟩ ⟨#[]⟩ (.slice none 0 0) (.slice none 0 0) false false)).below hb1 (by simp)
  have hw1 : w.heap.size < w1.heap.size := by have := hb1.size; simp at this; omega
  have HSP0 : Hid (SpAt ((w1.setCell ⟨w.heap.size, 0, none⟩ (.string (S (whL (L ifs))))).setCell ⟨w.heap.size, 1, none⟩ (.string (S (otL (L ifs))))) w.heap.size (S (whL (L ifs))) (S (otL (L ifs))) St0) := Lib.hid
    ⟨_, _, [], ⟨(hB.put 0 _).put 1 _, World.ownsRow_nil _ _ _ _, World.ownsRow_nil _ _ _ _, fun x hx => by simp at hx, fun x hx => by simp at hx⟩, rfl⟩
  have HB0 : Hid (Below w.heap.size w ((w1.setCell ⟨w.heap.size, 0, none⟩ (.string (S (whL (L ifs))))).setCell ⟨w.heap.size, 1, none⟩ (.string (S (otL (L ifs)))))) := Lib.hid
    (((((Below.alloc (Below.refl _ _) (Nat.le_refl _) _).trans (hb1.mono (by simp)))).setCell (Nat.le_refl _) _).setCell (Nat.le_refl _) _)
  have z0 := hB.cell 0
  have z1 := hB.cell 1
  have y0 := hB.free 0
  have y1 := hB.free 1
  simp [spC] at z0 z1
  clear hb1 hB
  go_wp2_with fail
  go_loopw [23] (fun i wr => ∃ k : Nat, k ≤ n ∧ i = .int .i64 k ∧ SpAt wr w.heap.size (S (whL (L ifs))) (S (otL (L ifs))) (stK (L ifs) l k) ∧ Below w.heap.size w wr) (fun i _ => n - (intOf i).toNat)
  case atStart => exact ⟨0, Nat.zero_le _, rfl, HSP0.out, HB0.out⟩
  case round =>
    obtain ⟨k, hk, rfl, hsp, hb⟩ := hrel
    obtain ⟨wo, rfl⟩ : ∃ wo : World, wo = wr := ⟨_, rfl⟩
    clear z0 z1 y0 y1
    by_cases hlt : k < n
    · obtain ⟨x, hx⟩ : ∃ x, l[k]? = some x := ⟨_, List.getElem?_eq_getElem (by rw [← HN.out]; omega)⟩
      have hl1 := HL.out.below hb
      rw [HN.out] at hl1
      obtain ⟨b1, o1, i1, hb1, c1, c2, c3, c4⟩ := in_at hl1 hx (k : Int) rfl
      rw [← HN.out] at i1
      have hb1' : b1 < wo.heap.size := by have := hb.size; omega
      have hst := stK_succ (ifs := L ifs) hx
      have HFS := Lib.hid (fun h1 h2 h3 => HF.out.sp hx h1 h2 h3)
      have HFP := Lib.hid (HF.out.1 k x hx)
      have hcn := HF.out.cnt k
      have HX := Lib.hid hx
      obtain ⟨t, q, sp, bk⟩ := x
      obtain ⟨cur, hcur⟩ : ∃ cur, cur = stK (L ifs) l k := ⟨_, rfl⟩
      rw [← hcur] at hsp hst HFS HFP hcn
      have HST := Lib.hid hst
      have HSP := Lib.hid hsp
      have HB := Lib.hid hb
      have HCN := Lib.hid hcn
      clear hsp hst hb hcn hx hl1 hcur
      cases bk with
      | true =>
        have C : Hid (∀ W, SpAt W w.heap.size (S (whL (L ifs))) (S (otL (L ifs))) cur → Calls Try.prog 15 #[.pointer (some ⟨w.heap.size, 0, none⟩), .bool false] W fun e w' => e = .returned (.tuple #[]) ∧ SpAt w' w.heap.size (S (whL (L ifs))) (S (otL (L ifs))) (endS cur false) ∧ Below w.heap.size W w') := Lib.hid fun W hW => end_any cur false _ _ _ W hW (by have := HCN.out; unfold cnt at this; omega)
        go_wp2_with fail
        refine (C.out _ (HSP.out.below (Below.alloc (Below.refl _ _) (Nat.le_refl _) _))).mono ?_
        rintro e w2 ⟨rfl, hsp2, hb2⟩
        have HB2 := Lib.hid ((HB.out.alloc HB.out.size _).trans hb2)
        have HSP2 := Lib.hid hsp2
        clear hb2
        obtain ⟨hg3, g4, g5, g6⟩ := hsp2.facts
        clear hsp2
        go_wp2
        go_roundw
        case rel => exact ⟨k + 1, by omega, by go_num, by rw [HST.out]; exact HSP2.out.due false, HB2.out.setCell (Nat.le_refl _) _⟩
        case measure => simp [intOf]; omega
      | false =>
        cases q with
        | true =>
          have C : Hid (∀ W, SpAt W w.heap.size (S (whL (L ifs))) (S (otL (L ifs))) cur → Calls Try.prog 16 #[.pointer (some ⟨w.heap.size, 0, none⟩), .string t, .bool true] W fun e w' => e = .returned (.tuple #[]) ∧ SpAt w' w.heap.size (S (whL (L ifs))) (S (otL (L ifs))) (putS cur t true) ∧ Below w.heap.size W w') := Lib.hid fun W hW => put_any cur t true _ _ _ W hW (by have := HCN.out; unfold cnt at this; omega) (HFP.out rfl)
          go_wp2_with fail
          refine (C.out _ (HSP.out.below (Below.alloc (Below.refl _ _) (Nat.le_refl _) _))).mono ?_
          rintro e w2 ⟨rfl, hsp2, hb2⟩
          have HB2 := Lib.hid ((HB.out.alloc HB.out.size _).trans hb2)
          have HSP2 := Lib.hid hsp2
          clear hb2
          skip
          clear hsp2
          go_wp2
          go_roundw
          case rel => exact ⟨k + 1, by omega, by go_num, by rw [HST.out]; exact HSP2.out, HB2.out⟩
          case measure => simp [intOf]; omega
        | false =>
          cases sp with
          | true =>
            have C : Hid (∀ W, SpAt W w.heap.size (S (whL (L ifs))) (S (otL (L ifs))) cur → Calls Try.prog 17 #[.pointer (some ⟨w.heap.size, 0, none⟩), .string t] W fun e w' => e = .returned (.tuple #[]) ∧ SpAt w' w.heap.size (S (whL (L ifs))) (S (otL (L ifs))) ((L t).foldl (stepB (L ifs)) cur) ∧ Below w.heap.size W w') := Lib.hid fun W hW => split_any (L ifs) cur t _ W hW (HFS.out rfl rfl rfl)
            go_wp2_with fail
            refine (C.out _ (HSP.out.below (Below.alloc (Below.refl _ _) (Nat.le_refl _) _))).mono ?_
            rintro e w2 ⟨rfl, hsp2, hb2⟩
            have HB2 := Lib.hid ((HB.out.alloc HB.out.size _).trans hb2)
            have HSP2 := Lib.hid hsp2
            clear hb2
            skip
            clear hsp2
            go_wp2
            go_roundw
            case rel => exact ⟨k + 1, by omega, by go_num, by rw [HST.out]; exact HSP2.out, HB2.out⟩
            case measure => simp [intOf]; omega
          | false =>
            cases e0 : t.toList.isEmpty with
            | true =>
              have HST2 : Hid (stepP (L ifs) cur ⟨t, false, false, false⟩ = cur) := Lib.hid (by rw [isEmpty_L] at e0; simp [stepP, e0])
              go_wp2
              go_roundw
              case rel => exact ⟨k + 1, by omega, by go_num, by rw [HST.out, HST2.out]; exact HSP.out.below (Below.alloc (Below.refl _ _) (Nat.le_refl _) _), HB.out.alloc HB.out.size _⟩
              case measure => simp [intOf]; omega
            | false =>
              have HST2 : Hid (stepP (L ifs) cur ⟨t, false, false, false⟩ = putS cur t false) := Lib.hid (by rw [isEmpty_L] at e0; simp only [stepP, e0]; rfl)
              have C : Hid (∀ W, SpAt W w.heap.size (S (whL (L ifs))) (S (otL (L ifs))) cur → Calls Try.prog 16 #[.pointer (some ⟨w.heap.size, 0, none⟩), .string t, .bool false] W fun e w' => e = .returned (.tuple #[]) ∧ SpAt w' w.heap.size (S (whL (L ifs))) (S (otL (L ifs))) (putS cur t false) ∧ Below w.heap.size W w') := Lib.hid fun W hW => put_any cur t false _ _ _ W hW (by have := HCN.out; unfold cnt at this; omega) (HFP.out rfl)
              go_wp2_with fail
              refine (C.out _ (HSP.out.below (Below.alloc (Below.refl _ _) (Nat.le_refl _) _))).mono ?_
              rintro e w2 ⟨rfl, hsp2, hb2⟩
              have HB2 := Lib.hid ((HB.out.alloc HB.out.size _).trans hb2)
              have HSP2 := Lib.hid hsp2
              clear hb2
              rw [← HST2.out] at HSP2
              clear hsp2
              go_wp2
              go_roundw
              case rel => exact ⟨k + 1, by omega, by go_num, by rw [HST.out]; exact HSP2.out, HB2.out⟩
              case measure => simp [intOf]; omega
    · obtain rfl : k = n := by omega
      have hcn := HF.out.cnt k
      obtain ⟨cur, hcur⟩ : ∃ cur, cur = stK (L ifs) l k := ⟨_, rfl⟩
      rw [← hcur] at hsp hcn
      have HRES : Hid (splitF (L ifs) l = (endS cur false).out) := Lib.hid (by rw [hcur, stK, List.take_of_length_le (by rw [← HN.out]; omega)]; rfl)
      have HSP := Lib.hid hsp
      have HB := Lib.hid hb
      have HCN := Lib.hid hcn
      clear hsp hb hcn hcur
      have C : Hid (∀ W, SpAt W w.heap.size (S (whL (L ifs))) (S (otL (L ifs))) cur → Calls Try.prog 15 #[.pointer (some ⟨w.heap.size, 0, none⟩), .bool false] W fun e w' => e = .returned (.tuple #[]) ∧ SpAt w' w.heap.size (S (whL (L ifs))) (S (otL (L ifs))) (endS cur false) ∧ Below w.heap.size W w') := Lib.hid fun W hW => end_any cur false _ _ _ W hW (by have := HCN.out; unfold cnt at this; omega)
      go_wp2_with fail
      refine (C.out _ HSP.out).mono ?_
      rintro e w2 ⟨rfl, hsp2, hb2⟩
      have HB2 := Lib.hid (HB.out.trans hb2)
      obtain ⟨vo, vn, fv, hsp3, hout⟩ := hsp2
      have hc2 := hsp3.cells.1.2.2.1
      have HP : Hid (OutAt w2 w.heap.size vo (splitF (L ifs) l)) := Lib.hid (by
        rw [HRES.out]
        exact ⟨fv, own_from hsp3.out (by omega), fun x hx => own_from (hsp3.fields x hx) (by omega), hout⟩)
      clear hsp3 hout hb2
      go_wp2
      go_ret
      exact ⟨HB2.out, _, rfl, HP.out⟩
end Go.Proofs.Ytlehofcgkmhgaaa
