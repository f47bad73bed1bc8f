/-
  is: the walk.
-/
import Derived.Test.YtlehofcgkmhgaaaF14
namespace Go.Proofs.Ytlehofcgkmhgaaa
open Go.RowKit

theorem flat_len2 (f : List Pc) : (flat f).length = (textL f).length := by
  induction f with
  | nil => rfl
  | cons p f ih =>
    have e1 : flat (p :: f) = ((L p.t).map fun b => (⟨b, p.q⟩ : Sg)) ++ flat f := rfl
    have e2 : textL (p :: f) = L p.t ++ textL f := rfl
    rw [e1, e2, List.length_append, List.length_append, List.length_map, ih]
theorem flat_snoc {l : List Pc} {k : Nat} {x : Pc} (h : l[k]? = some x) : flat (l.take (k + 1)) = flat (l.take k) ++ (L x.t).map fun b => ⟨b, x.q⟩ := by
  obtain ⟨hk, rfl⟩ := List.getElem?_eq_some_iff.1 h
  unfold flat
  rw [List.take_succ_eq_append_getElem hk, List.flatMap_append]
  simp
/-- The byte j of piece k, in all. -/
theorem flat_at {l : List Pc} {k : Nat} {x : Pc} (h : l[k]? = some x) {j : Nat} (hj : j < x.t.size) : (flat l)[(flat (l.take k)).length + j]? = some ⟨(L x.t).getD j 0, x.q⟩ := by
  have hs := flat_snoc h
  have e : flat l = flat (l.take (k + 1)) ++ flat (l.drop (k + 1)) := by
    unfold flat
    rw [← List.flatMap_append, List.take_append_drop]
  have hl : j < (L x.t).length := hj
  rw [e, hs, List.append_assoc, List.getElem?_append_right (by omega), Nat.add_sub_cancel_left, List.getElem?_append_left (by simpa using hl)]
  simp [List.getD, hl]
theorem s_at {w : World} {B : Nat} {v : Value} {l : List Sg} (h : Sl w B 2 v l.length (l.flatMap sC)) {k : Nat} {x : Sg} (hx : l[k]? = some x) (i : Int) (hi : i = k) :
    ∃ b o, (∀ w' : World, (Instr.indexAt 41 v (.int .i64 i)).run Try.prog w' = .ok (.pointer (some ⟨b, o, none⟩)) w') ∧ b < B ∧ w.cell? ⟨b, o, none⟩ = some (.int .u8 ((x.b.toNat : Nat) : Int)) ∧ w.cell? ⟨b, o + 1, none⟩ = some (.bool x.q) := by
  subst hi
  have hk := (List.getElem?_eq_some_iff.1 hx).1
  obtain ⟨a, cap, b, off, rfl, _, _, h1, h2, h3⟩ := h.open (P := Try.prog) 41 68 Try.underlying41 (by kernel_rfl)
  have g := flat_get sC 2 sC_len l k x hx
  refine ⟨b, off + k * 2, fun w' => h1 k w' hk, by omega, ?_, ?_⟩
  · rw [show off + k * 2 = off + (k * 2 + 0) by omega, h3 _ (by omega), g 0 (by omega)]; rfl
  · rw [show off + k * 2 + 1 = off + (k * 2 + 1) by omega, h3 _ (by omega), g 1 (by omega)]; rfl

set_option maxHeartbeats 4000000 in
set_option maxRecDepth 100000 in
theorem is_any (f : List Pc) (v u : Value) (w : World) (hl : Sl w w.heap.size 2 v f.length (f.flatMap pcC)) (hu : Sl w w.heap.size 2 u (flat f).length ((flat f).flatMap sC)) (hz : (textL f).length ≤ 100000) :
    Calls Try.prog 11 #[v, .agg #[u]] w fun e w' => e = .returned (.bool true) ∧ Below w.heap.size w w' := by
  obtain ⟨n, hnl⟩ : ∃ n, n = f.length := ⟨_, rfl⟩
  obtain ⟨X, hX⟩ : ∃ X, X = (flat f).length := ⟨_, rfl⟩
  have hXz : X ≤ 100000 := by rw [hX, flat_len2]; exact hz
  have CT := Lib.hid (fun W (hW : Below w.heap.size w W) => text_any f v W ((hl.below hW).mono hW.size) (by omega))
  rw [← hnl] at hl
  rw [← hX] at hu
  have hnm := hl.len
  unfold maxLen at hnm
  obtain ⟨a, cap, rfl⟩ : ∃ a cap, v = .slice a n cap := by
    obtain ⟨_, a, cap, h, _⟩ := hl
    exact ⟨a, cap, h⟩
  obtain ⟨ua, ucap, rfl⟩ : ∃ a cap, u = .slice a X cap := by
    obtain ⟨_, a, cap, h, _⟩ := hu
    exact ⟨a, cap, h⟩
  have HL := Lib.hid hl
  have HU := Lib.hid hu
  have HN := Lib.hid hnl
  have HX := Lib.hid hX
  have HZ := Lib.hid hz
  have HW0 := Lib.hid (Below.alloc (Below.refl w.heap.size w) (Nat.le_refl _) (.cells #[.slice ua X ucap] 43))
  have HC0 : Hid ((w.alloc (.cells #[.slice ua X ucap] 43)).cell? ⟨w.heap.size, 0, none⟩ = some (.slice ua X ucap)) := Lib.hid (by simp)
  clear hl hu hnl hX hz
  go_enter Try.func11, Try.ntmps11
  go_wp2_with fail
  go_loopw [5, 6, 12] (fun c s i wr => ∃ k : Nat, k ≤ n ∧ i = .int .i64 k ∧ c = .int .i64 ((flat (f.take k)).length : Nat) ∧ s = .string (S (textL (f.take k))) ∧ Below w.heap.size w wr ∧ w.heap.size < wr.heap.size ∧ wr.cell? ⟨w.heap.size, 0, none⟩ = some (.slice ua X ucap)) (fun _ _ i _ => n - (intOf i).toNat)
  case atStart => exact ⟨0, Nat.zero_le _, rfl, rfl, rfl, HW0.out, by simp, HC0.out⟩
  case round =>
    obtain ⟨k, hk, rfl, rfl, rfl, hb, hsz, hcell⟩ := hrel
    obtain ⟨wo, rfl⟩ : ∃ wo : World, wo = wr := ⟨_, rfl⟩
    have hfl := flat_len2 (f.take k)
    have htl := textL_le f k
    obtain ⟨c0, hc0⟩ : ∃ c, c = (flat (f.take k)).length := ⟨_, rfl⟩
    have hcz : c0 ≤ 100000 := by have := HZ.out; omega
    rw [← hc0] at hfl ⊢
    have hsz2 : (S (textL (f.take k))).size ≤ 100000 := by rw [S_size]; omega
    by_cases hlt : k < n
    · obtain ⟨x, hx⟩ : ∃ x, f[k]? = some x := ⟨_, List.getElem?_eq_getElem (by rw [← HN.out]; omega)⟩
      have hl1 := HL.out.below hb
      rw [HN.out] at hl1
      obtain ⟨b1, o1, i1, hb1, c1, c2⟩ := pc_at hl1 hx (k : Int) rfl
      rw [← HN.out] at i1
      have hb1' : b1 < wo.heap.size := by omega
      have hsn := textL_snoc hx
      have hfs := flat_snoc hx
      have htl2 := textL_le f (k + 1)
      rw [hsn, List.length_append, L_size] at htl2
      have hxz : (textL (f.take k)).length + x.t.size ≤ 100000 := Nat.le_trans htl2 HZ.out
      have hcX : c0 + x.t.size ≤ X := by rw [HX.out, flat_len2, hfl]; exact htl2
      have HAT := Lib.hid (fun j (hj : j < x.t.size) => flat_at hx hj)
      rw [← hc0] at HAT
      obtain ⟨t, q⟩ := x
      simp only at hxz hcX c1 c2
      have HSN : Hid (S (textL (f.take k)) ++ t = S (textL (f.take (k + 1)))) := Lib.hid (by
        rw [hsn]
        have := S_append (textL (f.take k)) (L t)
        rw [S_L] at this
        exact this)
      have HFS : Hid ((flat (f.take (k + 1))).length = c0 + t.size) := Lib.hid (by rw [hfs, List.length_append, ← hc0, List.length_map, L_size])
      obtain ⟨U, hU⟩ : ∃ U, U = S (textL (f.take k)) := ⟨_, rfl⟩
      rw [← hU] at hsz2 HSN ⊢
      have hUt : U.size + t.size ≤ 100000 := by rw [hU, S_size]; exact hxz
      have HB := Lib.hid hb
      have HCE := Lib.hid hcell
      clear hl1 hx hsn hfs htl2 hfl htl hc0 hU hb hcell hxz
      go_wp2_with fail
      go_loopw [5, 19] (fun c i wi => ∃ j : Nat, j ≤ t.size ∧ i = .int .i64 j ∧ c = .int .i64 ((c0 + j : Nat) : Int) ∧ Below w.heap.size w wi ∧ w.heap.size < wi.heap.size ∧ wi.cell? ⟨w.heap.size, 0, none⟩ = some (.slice ua X ucap) ∧ wo.heap.size < wi.heap.size ∧ wi.cell? ⟨wo.heap.size, 0, none⟩ = some (.string t) ∧ wi.cell? ⟨wo.heap.size, 1, none⟩ = some (.bool q)) (fun _ i _ => t.size - (intOf i).toNat)
      case atStart =>
        exact ⟨0, Nat.zero_le _, rfl, rfl, HB.out.alloc HB.out.size _, by simp; omega, ((Below.alloc (Below.refl wo.heap.size wo) (Nat.le_refl _) _).cell (p := ⟨w.heap.size, 0, none⟩) hsz).trans HCE.out, by simp, by simp, by simp⟩
      case round =>
        obtain ⟨j, hj, rfl, rfl, hb2, hz2, hce2, hz3, x0, x1⟩ := hrel
        obtain ⟨wi, rfl⟩ : ∃ wi : World, wi = wr := ⟨_, rfl⟩
        by_cases hjt : j < t.size
        · have hat := HAT.out j hjt
          have hu2 := HU.out.below hb2
          rw [HX.out] at hu2
          obtain ⟨b2, o2, i2, hb3, d1, d2⟩ := s_at hu2 hat ((c0 : Int) + (j : Int)) (by omega)
          rw [← HX.out] at i2
          simp only at d1 d2
          have hb3' : b2 < wi.heap.size := by have := hb2.size; omega
          have hidx := run_idx (P := Try.prog) Try.underlying9 t (k := .i64) (j : Int) j rfl hjt
          obtain ⟨c, hcc⟩ : ∃ c, c = (L t).getD j 0 := ⟨_, rfl⟩
          rw [← hcc] at hidx d1
          have HB2 := Lib.hid hb2
          have hg : decide ((X : Int) ≤ (c0 : Int) + (j : Int)) = false := decide_eq_false (by omega)
          clear hat hu2 hcc hb2
          go_wp2_with fail
          go_quiet (fail)
          go_wp2
          go_roundw
          case rel => exact ⟨j + 1, by omega, by go_num, by go_num, below_drewN HB2.out nq, hz2, hce2, hz3, x0, x1⟩
          case measure => simp [intOf]; omega
        · have hjt2 : j = t.size := by omega
          have HJ := Lib.hid hjt2
          have HB2 := Lib.hid hb2
          clear hjt2 hb2
          go_wp2_with fail
          go_roundw
          case rel => exact ⟨k + 1, by omega, by go_num, by rw [HFS.out, HJ.out], congrArg Value.string HSN.out, HB2.out, hz2, hce2⟩
          case measure => simp [intOf]; omega
    · obtain rfl : k = n := by omega
      have e : f.take k = f := List.take_of_length_le (by rw [← HN.out]; omega)
      rw [e] at hc0 hsz2 ⊢
      have hcx : c0 = X := by rw [hc0, HX.out]
      subst hcx
      have CT2 := Lib.hid (CT.out wo hb)
      obtain ⟨U, hU⟩ : ∃ U, U = S (textL f) := ⟨_, rfl⟩
      rw [← hU] at CT2 ⊢
      have HB := Lib.hid hb
      clear e hc0 hU hb hfl htl
      go_wp2_with fail
      refine CT2.out.mono ?_
      rintro e w2 ⟨rfl, hb2⟩
      go_wp2
      go_ret
      exact ⟨rfl, HB.out.trans (hb2.mono HB.out.size)⟩
end Go.Proofs.Ytlehofcgkmhgaaa
