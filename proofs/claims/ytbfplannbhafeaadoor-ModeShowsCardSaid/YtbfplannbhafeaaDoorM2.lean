/-
  The walks of Fresh, of the digits, and of who is meant.
-/
import Derived.Test.YtbfplannbhafeaaDoorM1
import Derived.Test.YtbfplannbhafeaaDoorStr
import Derived.Test.YtbfplannbhafeaaDoorBytes
import Derived.Lib.Bytealg
import Derived.Lib.IndexAny
import Derived.Deep.QuietTactic
import Derived.BigQuiet
import Derived.Deep.RegionHeld3
namespace Go.Proofs.YtbfplannbhafeaaDoor
open Go.RowKit

theorem fresh_any (m k : Nat) (w : World) (hm : m < 4096) (hk : k < 4096) :
    Calls Tryd.prog 17 #[.int .i64 m, .int .i64 k] w fun e w' => e = .returned (.int .i64 ((andN m (k &&& 511) : Nat))) ∧ w' = w := by
  have h1 := bits_and64 k 511 (by omega) (by omega)
  have h2 := bits_not64 m (k &&& 511) (by omega)
  have H : Hid (bits BinOp.andNot .i64 (m : Int) (bits BinOp.and .i64 (k : Int) 511) = ((andN m (k &&& 511) : Nat) : Int)) := Lib.hid (by
    rw [show (511 : Int) = ((511 : Nat) : Int) from rfl, h1, h2])
  obtain ⟨r, hr⟩ : ∃ r, r = andN m (k &&& 511) := ⟨_, rfl⟩
  rw [← hr] at H
  rw [← hr]
  clear h1 h2 hr
  go_enter Tryd.func17, Tryd.ntmps17
  go_wp2_with fail
  go_ret
  exact ⟨ret_int H.out, rfl⟩

/-- A clause's cells. -/
def ClauseAt (w : World) (p : Nat) (c : Who) (named : Bool) : Prop :=
  w.cell? ⟨p, 0, none⟩ = some (.int .i64 (c.own : Nat)) ∧ w.cell? ⟨p, 1, none⟩ = some (.int .i64 (c.bes : Nat)) ∧ w.cell? ⟨p, 2, none⟩ = some (.bool named) ∧
  w.frozen? ⟨p, 0, none⟩ = false ∧ w.frozen? ⟨p, 1, none⟩ = false ∧ w.frozen? ⟨p, 2, none⟩ = false
theorem ClauseAt.below {w w' : World} {p B : Nat} {c : Who} {n : Bool} (h : ClauseAt w p c n) (hb : Below B w w') (hp : p < B) : ClauseAt w' p c n := by
  obtain ⟨h1, h2, h3, h4, h5, h6⟩ := h
  exact ⟨by rw [hb.cell (p := ⟨p, 0, none⟩) hp]; exact h1, by rw [hb.cell (p := ⟨p, 1, none⟩) hp]; exact h2, by rw [hb.cell (p := ⟨p, 2, none⟩) hp]; exact h3,
    by rw [hb.frozen (p := ⟨p, 0, none⟩) hp]; exact h4, by rw [hb.frozen (p := ⟨p, 1, none⟩) hp]; exact h5, by rw [hb.frozen (p := ⟨p, 2, none⟩) hp]; exact h6⟩
theorem ClauseAt.set0 {w : World} {p : Nat} {c d : Who} {n : Bool} (h : ClauseAt w p c n) (hd : d.bes = c.bes) {x : Int} (hx : x = (d.own : Nat)) : ClauseAt (w.setCell ⟨p, 0, none⟩ (.int .i64 x)) p d n := by
  subst hx
  obtain ⟨h1, h2, h3, h4, h5, h6⟩ := h
  exact ⟨World.cell?_setCell_same _ _ _ h1, by rw [World.cell?_setCell_other _ _ _ _ (by simp), hd]; exact h2, by rw [World.cell?_setCell_other _ _ _ _ (by simp)]; exact h3, by simpa using h4, by simpa using h5, by simpa using h6⟩
theorem ClauseAt.set01 {w : World} {p : Nat} {c d : Who} {n : Bool} (h : ClauseAt w p c n) {x y : Int} (hx : x = (d.own : Nat)) (hy : y = (d.bes : Nat)) : ClauseAt ((w.setCell ⟨p, 0, none⟩ (.int .i64 x)).setCell ⟨p, 1, none⟩ (.int .i64 y)) p d n := by
  subst hx hy
  obtain ⟨h1, h2, h3, h4, h5, h6⟩ := h
  exact ⟨by rw [World.cell?_setCell_other _ _ _ _ (by simp)]; exact World.cell?_setCell_same _ _ _ h1, World.cell?_setCell_same _ _ _ (by rw [World.cell?_setCell_other _ _ _ _ (by simp)]; exact h2), by rw [World.cell?_setCell_other _ _ _ _ (by simp), World.cell?_setCell_other _ _ _ _ (by simp)]; exact h3, by simpa using h4, by simpa using h5, by simpa using h6⟩
theorem ClauseAt.set2 {w : World} {p : Nat} {c : Who} {n : Bool} (h : ClauseAt w p c n) (b : Bool) : ClauseAt (w.setCell ⟨p, 2, none⟩ (.bool b)) p c b := by
  obtain ⟨h1, h2, h3, h4, h5, h6⟩ := h
  exact ⟨by rw [World.cell?_setCell_other _ _ _ _ (by simp)]; exact h1, by rw [World.cell?_setCell_other _ _ _ _ (by simp)]; exact h2, World.cell?_setCell_same _ _ _ h3, by simpa using h4, by simpa using h5, by simpa using h6⟩

theorem ClauseAt.other {w : World} {p : Nat} {c : Who} {n : Bool} (h : ClauseAt w p c n) {q : Nat} (hq : q ≠ p) (o : Nat) (v : Value) : ClauseAt (w.setCell ⟨q, o, none⟩ v) p c n := by
  obtain ⟨h1, h2, h3, h4, h5, h6⟩ := h
  have hne : ∀ i, (⟨q, o, none⟩ : Addr) ≠ ⟨p, i, none⟩ := fun i e => hq (Addr.mk.inj e).1
  exact ⟨by rw [World.cell?_setCell_other _ _ _ _ (hne 0)]; exact h1, by rw [World.cell?_setCell_other _ _ _ _ (hne 1)]; exact h2, by rw [World.cell?_setCell_other _ _ _ _ (hne 2)]; exact h3, by simpa using h4, by simpa using h5, by simpa using h6⟩

theorem own_u (c : Who) : bits BinOp.or .i64 ((c.own : Nat) : Int) 448 = (((c.add 117).own : Nat) : Int) := by
  have := own_le c
  rw [show (448 : Int) = ((448 : Nat) : Int) from rfl, bits_or64 _ _ (by omega) (by omega)]
  obtain ⟨u, g, o⟩ := c; cases u <;> cases g <;> cases o <;> rfl
theorem bes_u (c : Who) : bits BinOp.or .i64 ((c.bes : Nat) : Int) 2048 = (((c.add 117).bes : Nat) : Int) := by
  have := bes_le c
  rw [show (2048 : Int) = ((2048 : Nat) : Int) from rfl, bits_or64 _ _ (by omega) (by omega)]
  obtain ⟨u, g, o⟩ := c; cases u <;> cases g <;> cases o <;> rfl
theorem own_g (c : Who) : bits BinOp.or .i64 ((c.own : Nat) : Int) 56 = (((c.add 103).own : Nat) : Int) := by
  have := own_le c
  rw [show (56 : Int) = ((56 : Nat) : Int) from rfl, bits_or64 _ _ (by omega) (by omega)]
  obtain ⟨u, g, o⟩ := c; cases u <;> cases g <;> cases o <;> rfl
theorem bes_g (c : Who) : bits BinOp.or .i64 ((c.bes : Nat) : Int) 1024 = (((c.add 103).bes : Nat) : Int) := by
  have := bes_le c
  rw [show (1024 : Int) = ((1024 : Nat) : Int) from rfl, bits_or64 _ _ (by omega) (by omega)]
  obtain ⟨u, g, o⟩ := c; cases u <;> cases g <;> cases o <;> rfl
theorem own_o (c : Who) : bits BinOp.or .i64 ((c.own : Nat) : Int) 7 = (((c.add 111).own : Nat) : Int) ∧ (c.add 111).bes = c.bes := by
  have := own_le c
  rw [show (7 : Int) = ((7 : Nat) : Int) from rfl, bits_or64 _ _ (by omega) (by omega)]
  obtain ⟨u, g, o⟩ := c; cases u <;> cases g <;> cases o <;> exact ⟨rfl, rfl⟩

theorem indexOf_mem (c : UInt8) (l : List UInt8) (b : Bool) (h : l.contains c = b) : ∃ v, Lib.indexByte l c = v ∧ decide (0 ≤ v) = b := by
  refine ⟨_, rfl, ?_⟩
  rw [← h, Lib.contains_iff_indexByte]

theorem isWho_eq (c : UInt8) : ([117, 103, 111, 97] : List UInt8).contains c = isWho c := by
  rw [Bool.eq_iff_iff]; simp [isWho, or_assoc]
theorem isLet_eq (c : UInt8) : ([114, 119, 120, 88, 115, 116] : List UInt8).contains c = isLet c := by
  rw [Bool.eq_iff_iff]; simp [isLet, or_assoc]
theorem isSign_eq (c : UInt8) : ([43, 45, 61] : List UInt8).contains c = isSign c := by
  rw [Bool.eq_iff_iff]; simp [isSign, or_assoc]

theorem while_at {p : UInt8 → Bool} : ∀ {l : List UInt8} {k : Nat}, k ≤ l.length → (∀ x ∈ l.take k, p x = true) → (k < l.length → p (l.getD k 0) = false) → l.takeWhile p = l.take k ∧ l.dropWhile p = l.drop k
  | [], k, hk, _, _ => by simp at hk; subst hk; exact ⟨rfl, rfl⟩
  | c :: l, 0, _, _, h2 => by
    have h3 : p c = false := h2 (by simp)
    rw [List.takeWhile_cons, List.dropWhile_cons, h3]; exact ⟨rfl, rfl⟩
  | c :: l, k + 1, hk, h1, h2 => by
    have h3 : p c = true := h1 c (by simp)
    obtain ⟨i1, i2⟩ := while_at (l := l) (k := k) (by simpa using hk) (fun x hx => h1 x (by simp [hx])) (fun h => h2 (by simpa using h))
    rw [List.takeWhile_cons, List.dropWhile_cons, h3, if_pos rfl, i1]
    exact ⟨rfl, i2⟩

theorem take_all_succ {p : UInt8 → Bool} {l : List UInt8} {k : Nat} (hk : k < l.length) (h : ∀ x ∈ l.take k, p x = true) (h2 : p (l.getD k 0) = true) : ∀ x ∈ l.take (k + 1), p x = true := fun x hx => by
  rw [List.take_add_one] at hx
  rcases List.mem_append.1 hx with hx | hx
  · exact h x hx
  · rw [List.getElem?_eq_getElem hk] at hx
    simp at hx
    subst hx
    simpa [List.getD, List.getElem?_eq_getElem hk] using h2
theorem take_fold_succ {l : List UInt8} {k : Nat} (hk : k < l.length) (c : Who) : (l.take (k + 1)).foldl Who.add c = ((l.take k).foldl Who.add c).add (l.getD k 0) := by
  rw [List.take_add_one, List.foldl_append]
  simp [List.getD, List.getElem?_eq_getElem hk]

set_option maxHeartbeats 2000000 in
set_option maxRecDepth 100000 in
theorem who_any (s : ByteArray) (w : World) (hs : s.size ≤ 100000) :
    Calls Tryd.prog 21 #[.string s] w fun e w' => e = .returned (.tuple #[.agg #[.int .i64 ((whoOf (L s)).own : Nat), .int .i64 ((whoOf (L s)).bes : Nat), .bool (namedOf (L s))], .string (S ((L s).dropWhile isWho))]) ∧ Below w.heap.size w w' := by
  obtain ⟨w2, hw2⟩ : ∃ w2, w2 = (w.alloc (.cells #[.int .i64 0, .int .i64 0, .bool false] 41)).alloc (.cells #[.int .i64 0, .int .i64 0, .bool false] 41) := ⟨_, rfl⟩
  have hb2 : Below w.heap.size w w2 := by rw [hw2]; exact Below.alloc (Below.alloc (Below.refl _ _) (Nat.le_refl _) _) (by simp) _
  have hsz2 : w2.heap.size = w.heap.size + 2 := by rw [hw2]; simp
  have hc1 : ClauseAt w2 (w.heap.size + 1) Who.none false := by
    rw [hw2]
    have e : w.heap.size + 1 = (w.alloc (.cells #[.int .i64 0, .int .i64 0, .bool false] 41)).heap.size := by simp
    rw [e]
    exact ⟨by simp [Who.own, Who.none], by simp [Who.bes, Who.none], by simp, by simp, by simp, by simp⟩
  have hc0 : ClauseAt w2 w.heap.size Who.none false := by
    rw [hw2]
    exact ⟨by simp [Who.own, Who.none], by simp [Who.bes, Who.none], by simp, by simp, by simp, by simp⟩
  have HW2 := Lib.hid hw2
  have HC1 := Lib.hid hc1
  have HC0 := Lib.hid hc0
  have HB2 := Lib.hid hb2
  clear hw2 hc1 hc0 hb2
  go_enter Tryd.func21, Tryd.ntmps21
  go_wp2_with fail
  refine wp_scope_again 0 (fun a' w' => ∃ (k : Nat) (c : Who), k ≤ s.size ∧ ∃ (u1 u6 u7 u8 u9 u10 u11 u12 u13 u14 u15 u16 u17 u18 u19 u20 u21 u22 u23 u24 u25 u26 u27 u28 u29 u30 u31 u32 u33 u34 u35 u36 u37 u38 u39 u40 u41 u42 u43 u44 u45 u46 u47 u48 u49 u50 u51 u52 u53 u54 u55 u56 u57 u58 u59 u60 u61 : Value), a' = { tmps := #[.string s, u1, .pointer (some ⟨w.heap.size, 0, none⟩), .string ⟨#[]⟩, .pointer (some ⟨w.heap.size + 1, 0, none⟩), .int .i64 k, u6, u7, u8, u9, u10, u11, u12, u13, u14, u15, u16, u17, u18, u19, u20, u21, u22, u23, u24, u25, u26, u27, u28, u29, u30, u31, u32, u33, u34, u35, u36, u37, u38, u39, u40, u41, u42, u43, u44, u45, u46, u47, u48, u49, u50, u51, u52, u53, u54, u55, u56, u57, u58, u59, u60, u61], defers := [] } ∧ ClauseAt w' (w.heap.size + 1) c false ∧ ClauseAt w' w.heap.size Who.none false ∧ (∀ x ∈ (L s).take k, isWho x = true) ∧ c = ((L s).take k).foldl Who.add Who.none ∧ Below w.heap.size w w' ∧ w.heap.size + 2 ≤ w'.heap.size)
    (fun a' _ => s.size - (intOf (a'.tmps.getD 5 undef)).toNat) rfl ?_ ?_
  · rintro a' wr ⟨k, c, hk, u1, u6, u7, u8, u9, u10, u11, u12, u13, u14, u15, u16, u17, u18, u19, u20, u21, u22, u23, u24, u25, u26, u27, u28, u29, u30, u31, u32, u33, u34, u35, u36, u37, u38, u39, u40, u41, u42, u43, u44, u45, u46, u47, u48, u49, u50, u51, u52, u53, u54, u55, u56, u57, u58, u59, u60, u61, rfl, hC1, hC0, hall, hc, hb, hz⟩
    have HALL := Lib.hid hall
    have HC := Lib.hid hc
    have HCC1 := Lib.hid hC1
    have HCC0 := Lib.hid hC0
    obtain ⟨x1, x2, x3, x4, x5, x6⟩ := hC1
    obtain ⟨y1, y2, y3, y4, y5, y6⟩ := hC0
    clear hall hc
    by_cases hlt : k < s.size
    · have i0 := run_idx (P := Tryd.prog) (k := .i64) Tryd.underlying9 s (k : Int) k rfl hlt
      obtain ⟨d, hd⟩ : ∃ d, d = (L s).getD k 0 := ⟨_, rfl⟩
      rw [← hd] at i0
      obtain ⟨v, hv, hv0⟩ := indexOf_mem d [117, 103, 111, 97] _ (isWho_eq d)
      have C := Lib.hid (fun w => indexAt_any (S [117, 103, 111, 97]) d v w hv)
      cases hw : isWho d with
      | true =>
        rw [hw] at hv0
        replace hv0 := of_decide_eq_true hv0
        have HALL2 := Lib.hid (take_all_succ (show k < (L s).length from hlt) HALL.out (by rw [← hd]; exact hw))
        have HF : Hid (c.add d = ((L s).take (k + 1)).foldl Who.add Who.none) := Lib.hid (by rw [take_fold_succ (show k < (L s).length from hlt), ← HC.out, hd])
        clear hd hv
        by_cases h1 : d = 117
        · subst h1
          clear hw
          go_wp2_with fail
          refine (C.out _).mono ?_
          rintro e w1 ⟨rfl, rfl⟩
          go_wp2_with fail
          go_step3
          refine ⟨rfl, ⟨k + 1, _, by omega, _, _, _, _, _, _, _, _, _, _, _, _, _, _, _, _, _, _, _, _, _, _, _, _, _, _, _, _, _, _, _, _, _, _, _, _, _, _, _, _, _, _, _, _, _, _, _, _, _, _, _, _, _, _, _, _, _, rfl, HCC1.out.set01 (own_u c) (bes_u c), (HCC0.out.other (by omega) _ _).other (by omega) _ _, HALL2.out, HF.out, (hb.setCell (p := ⟨w.heap.size + 1, 0, none⟩) (Nat.le_succ _) _).setCell (p := ⟨w.heap.size + 1, 1, none⟩) (Nat.le_succ _) _, by simpa using hz⟩, ?_⟩
          simp [intOf]; omega
        · by_cases h2 : d = 103
          · subst h2
            clear hw h1
            go_wp2_with fail
            refine (C.out _).mono ?_
            rintro e w1 ⟨rfl, rfl⟩
            go_wp2_with fail
            go_step3
            refine ⟨rfl, ⟨k + 1, _, by omega, _, _, _, _, _, _, _, _, _, _, _, _, _, _, _, _, _, _, _, _, _, _, _, _, _, _, _, _, _, _, _, _, _, _, _, _, _, _, _, _, _, _, _, _, _, _, _, _, _, _, _, _, _, _, _, _, _, rfl, HCC1.out.set01 (own_g c) (bes_g c), (HCC0.out.other (by omega) _ _).other (by omega) _ _, HALL2.out, HF.out, (hb.setCell (p := ⟨w.heap.size + 1, 0, none⟩) (Nat.le_succ _) _).setCell (p := ⟨w.heap.size + 1, 1, none⟩) (Nat.le_succ _) _, by simpa using hz⟩, ?_⟩
            simp [intOf]; omega
          · by_cases h3 : d = 111
            · subst h3
              clear hw h1 h2
              go_wp2_with fail
              refine (C.out _).mono ?_
              rintro e w1 ⟨rfl, rfl⟩
              go_wp2_with fail
              go_step3
              refine ⟨rfl, ⟨k + 1, _, by omega, _, _, _, _, _, _, _, _, _, _, _, _, _, _, _, _, _, _, _, _, _, _, _, _, _, _, _, _, _, _, _, _, _, _, _, _, _, _, _, _, _, _, _, _, _, _, _, _, _, _, _, _, _, _, _, _, _, rfl, HCC1.out.set0 (own_o c).2 (own_o c).1, HCC0.out.other (by omega) _ _, HALL2.out, HF.out, hb.setCell (p := ⟨w.heap.size + 1, 0, none⟩) (Nat.le_succ _) _, by simpa using hz⟩, ?_⟩
              simp [intOf]; omega
            · have h4 : d = 97 := by simpa [isWho, h1, h2, h3] using hw
              subst h4
              clear hw h1 h2 h3
              go_wp2_with fail
              refine (C.out _).mono ?_
              rintro e w1 ⟨rfl, rfl⟩
              go_wp2_with fail
              go_step3
              refine ⟨rfl, ⟨k + 1, _, by omega, _, _, _, _, _, _, _, _, _, _, _, _, _, _, _, _, _, _, _, _, _, _, _, _, _, _, _, _, _, _, _, _, _, _, _, _, _, _, _, _, _, _, _, _, _, _, _, _, _, _, _, _, _, _, _, _, _, rfl, HCC1.out.set01 (d := Who.all) rfl rfl, (HCC0.out.other (by omega) _ _).other (by omega) _ _, HALL2.out, HF.out, (hb.setCell (p := ⟨w.heap.size + 1, 0, none⟩) (Nat.le_succ _) _).setCell (p := ⟨w.heap.size + 1, 1, none⟩) (Nat.le_succ _) _, by simpa using hz⟩, ?_⟩
              simp [intOf]; omega
      | false =>
        rw [hw] at hv0
        replace hv0 := of_decide_eq_false hv0
        have hend := while_at (p := isWho) (l := L s) (k := k) (by rw [L_size]; omega) HALL.out (fun _ => by rw [← hd]; exact hw)
        have HEND := Lib.hid hend
        clear hd hv hw hend
        go_wp2_with fail
        refine (C.out _).mono ?_
        rintro e w1 ⟨rfl, rfl⟩
        have sl := run_sl_from (P := Tryd.prog) Tryd.underlying9 s (k : Int) k rfl (by omega)
        by_cases hk0 : 0 < k
        · go_wp2_with fail
          have HZ := HCC1.out.set2 true
          have HZ0 := HCC0.out.other (q := w.heap.size + 1) (by omega) 2 (.bool true)
          have hbz := hb.setCell (p := ⟨w.heap.size + 1, 2, none⟩) (Nat.le_succ _) (.bool true)
          generalize w1.setCell ⟨w.heap.size + 1, 2, none⟩ (.bool true) = wz at HZ HZ0 hbz ⊢
          have HZ00 := HZ0
          obtain ⟨z1, z2, z3, z4, z5, z6⟩ := HZ
          obtain ⟨u1, u2, u3, u4, u5, u6⟩ := HZ0
          clear x1 x2 x3 x4 x5 x6 y1 y2 y3 y4 y5 y6
          go_region_held3 (fun w' => w'.cell? ⟨w.heap.size + 1, 0, none⟩ = some (.int .i64 (c.own : Nat)) ∧ w'.cell? ⟨w.heap.size + 1, 1, none⟩ = some (.int .i64 (c.bes : Nat)) ∧ w'.cell? ⟨w.heap.size + 1, 2, none⟩ = some (.bool true)) (go_keep) (fail)
          have hfin := (HZ00.set01 (d := c) rfl rfl).set2 true
          obtain ⟨f1, f2, f3, _, _, _⟩ := hfin
          have hbf := ((hbz.setCell (p := ⟨w.heap.size, 0, none⟩) (Nat.le_refl _) (.int .i64 (c.own : Nat))).setCell (p := ⟨w.heap.size, 1, none⟩) (Nat.le_refl _) (.int .i64 (c.bes : Nat))).setCell (p := ⟨w.heap.size, 2, none⟩) (Nat.le_refl _) (.bool true)
          go_wp2_with fail
          simp only [Exit.jump]
          refine bodyPost_ret (v := .tuple #[.agg #[.int .i64 (c.own : Nat), .int .i64 (c.bes : Nat), .bool true], .string (s.extract k s.size)]) ?_ rfl ⟨?_, below_drewN hbf 1⟩
          · simp [results, Tryd.results21, go_sem, f1, f2, f3]
          · have hne : (L s).take k ≠ [] := fun e => by
              have := congrArg List.length e
              rw [List.length_take, L_size, List.length_nil] at this
              omega
            have e1 : whoOf (L s) = c := by rw [whoOf, HEND.out.1, if_neg hne, HC.out]
            have e2 : namedOf (L s) = true := by rw [namedOf, HEND.out.1]; simpa using hne
            rw [e1, e2, HEND.out.2, S_extract_from]
        · go_wp2_with fail
          have HZ := (HCC1.out.set2 false).set01 (d := Who.all) (x := 511) (y := 3072) rfl rfl
          have HZ0 := ((HCC0.out.other (q := w.heap.size + 1) (by omega) 2 (.bool false)).other (q := w.heap.size + 1) (by omega) 0 (.int .i64 511)).other (q := w.heap.size + 1) (by omega) 1 (.int .i64 3072)
          have hbz := ((hb.setCell (p := ⟨w.heap.size + 1, 2, none⟩) (Nat.le_succ _) (.bool false)).setCell (p := ⟨w.heap.size + 1, 0, none⟩) (Nat.le_succ _) (.int .i64 511)).setCell (p := ⟨w.heap.size + 1, 1, none⟩) (Nat.le_succ _) (.int .i64 3072)
          generalize ((w1.setCell ⟨w.heap.size + 1, 2, none⟩ (.bool false)).setCell ⟨w.heap.size + 1, 0, none⟩ (.int .i64 511)).setCell ⟨w.heap.size + 1, 1, none⟩ (.int .i64 3072) = wz at HZ HZ0 hbz ⊢
          have HZ00 := HZ0
          obtain ⟨z1, z2, z3, z4, z5, z6⟩ := HZ
          obtain ⟨u1, u2, u3, u4, u5, u6⟩ := HZ0
          clear x1 x2 x3 x4 x5 x6 y1 y2 y3 y4 y5 y6
          go_region_held3 (fun w' => w'.cell? ⟨w.heap.size + 1, 0, none⟩ = some (.int .i64 (Who.all.own : Nat)) ∧ w'.cell? ⟨w.heap.size + 1, 1, none⟩ = some (.int .i64 (Who.all.bes : Nat)) ∧ w'.cell? ⟨w.heap.size + 1, 2, none⟩ = some (.bool false)) (go_keep) (fail)
          have hfin := (HZ00.set01 (d := Who.all) rfl rfl).set2 false
          obtain ⟨f1, f2, f3, _, _, _⟩ := hfin
          have hbf := ((hbz.setCell (p := ⟨w.heap.size, 0, none⟩) (Nat.le_refl _) (.int .i64 (Who.all.own : Nat))).setCell (p := ⟨w.heap.size, 1, none⟩) (Nat.le_refl _) (.int .i64 (Who.all.bes : Nat))).setCell (p := ⟨w.heap.size, 2, none⟩) (Nat.le_refl _) (.bool false)
          go_wp2_with fail
          simp only [Exit.jump]
          refine bodyPost_ret (v := .tuple #[.agg #[.int .i64 (Who.all.own : Nat), .int .i64 (Who.all.bes : Nat), .bool false], .string (s.extract k s.size)]) ?_ rfl ⟨?_, below_drewN hbf 1⟩
          · simp [results, Tryd.results21, go_sem, f1, f2, f3]
          · obtain rfl : k = 0 := by omega
            have e1 : whoOf (L s) = Who.all := by rw [whoOf, HEND.out.1, if_pos (by simp)]
            have e2 : namedOf (L s) = false := by rw [namedOf, HEND.out.1]; rfl
            rw [e1, e2, HEND.out.2, S_extract_from]
    · have hend := while_at (p := isWho) (l := L s) (k := k) (by rw [L_size]; omega) HALL.out (fun h => by rw [L_size] at h; omega)
      have HEND := Lib.hid hend
      clear hend
      have sl := run_sl_from (P := Tryd.prog) Tryd.underlying9 s (k : Int) k rfl (by omega)
      by_cases hk0 : 0 < k
      · go_wp2_with fail
        have HZ := HCC1.out.set2 true
        have HZ0 := HCC0.out.other (q := w.heap.size + 1) (by omega) 2 (.bool true)
        have hbz := hb.setCell (p := ⟨w.heap.size + 1, 2, none⟩) (Nat.le_succ _) (.bool true)
        generalize wr.setCell ⟨w.heap.size + 1, 2, none⟩ (.bool true) = wz at HZ HZ0 hbz ⊢
        have HZ00 := HZ0
        obtain ⟨z1, z2, z3, z4, z5, z6⟩ := HZ
        obtain ⟨u1, u2, u3, u4, u5, u6⟩ := HZ0
        clear x1 x2 x3 x4 x5 x6 y1 y2 y3 y4 y5 y6
        go_region_held3 (fun w' => w'.cell? ⟨w.heap.size + 1, 0, none⟩ = some (.int .i64 (c.own : Nat)) ∧ w'.cell? ⟨w.heap.size + 1, 1, none⟩ = some (.int .i64 (c.bes : Nat)) ∧ w'.cell? ⟨w.heap.size + 1, 2, none⟩ = some (.bool true)) (go_keep) (fail)
        have hfin := (HZ00.set01 (d := c) rfl rfl).set2 true
        obtain ⟨f1, f2, f3, _, _, _⟩ := hfin
        have hbf := ((hbz.setCell (p := ⟨w.heap.size, 0, none⟩) (Nat.le_refl _) (.int .i64 (c.own : Nat))).setCell (p := ⟨w.heap.size, 1, none⟩) (Nat.le_refl _) (.int .i64 (c.bes : Nat))).setCell (p := ⟨w.heap.size, 2, none⟩) (Nat.le_refl _) (.bool true)
        go_wp2_with fail
        simp only [Exit.jump]
        refine bodyPost_ret (v := .tuple #[.agg #[.int .i64 (c.own : Nat), .int .i64 (c.bes : Nat), .bool true], .string (s.extract k s.size)]) ?_ rfl ⟨?_, below_drewN hbf 1⟩
        · simp [results, Tryd.results21, go_sem, f1, f2, f3]
        · have hne : (L s).take k ≠ [] := fun e => by
            have := congrArg List.length e
            rw [List.length_take, L_size, List.length_nil] at this
            omega
          have e1 : whoOf (L s) = c := by rw [whoOf, HEND.out.1, if_neg hne, HC.out]
          have e2 : namedOf (L s) = true := by rw [namedOf, HEND.out.1]; simpa using hne
          rw [e1, e2, HEND.out.2, S_extract_from]
      · go_wp2_with fail
        have HZ := (HCC1.out.set2 false).set01 (d := Who.all) (x := 511) (y := 3072) rfl rfl
        have HZ0 := ((HCC0.out.other (q := w.heap.size + 1) (by omega) 2 (.bool false)).other (q := w.heap.size + 1) (by omega) 0 (.int .i64 511)).other (q := w.heap.size + 1) (by omega) 1 (.int .i64 3072)
        have hbz := ((hb.setCell (p := ⟨w.heap.size + 1, 2, none⟩) (Nat.le_succ _) (.bool false)).setCell (p := ⟨w.heap.size + 1, 0, none⟩) (Nat.le_succ _) (.int .i64 511)).setCell (p := ⟨w.heap.size + 1, 1, none⟩) (Nat.le_succ _) (.int .i64 3072)
        generalize ((wr.setCell ⟨w.heap.size + 1, 2, none⟩ (.bool false)).setCell ⟨w.heap.size + 1, 0, none⟩ (.int .i64 511)).setCell ⟨w.heap.size + 1, 1, none⟩ (.int .i64 3072) = wz at HZ HZ0 hbz ⊢
        have HZ00 := HZ0
        obtain ⟨z1, z2, z3, z4, z5, z6⟩ := HZ
        obtain ⟨u1, u2, u3, u4, u5, u6⟩ := HZ0
        clear x1 x2 x3 x4 x5 x6 y1 y2 y3 y4 y5 y6
        go_region_held3 (fun w' => w'.cell? ⟨w.heap.size + 1, 0, none⟩ = some (.int .i64 (Who.all.own : Nat)) ∧ w'.cell? ⟨w.heap.size + 1, 1, none⟩ = some (.int .i64 (Who.all.bes : Nat)) ∧ w'.cell? ⟨w.heap.size + 1, 2, none⟩ = some (.bool false)) (go_keep) (fail)
        have hfin := (HZ00.set01 (d := Who.all) rfl rfl).set2 false
        obtain ⟨f1, f2, f3, _, _, _⟩ := hfin
        have hbf := ((hbz.setCell (p := ⟨w.heap.size, 0, none⟩) (Nat.le_refl _) (.int .i64 (Who.all.own : Nat))).setCell (p := ⟨w.heap.size, 1, none⟩) (Nat.le_refl _) (.int .i64 (Who.all.bes : Nat))).setCell (p := ⟨w.heap.size, 2, none⟩) (Nat.le_refl _) (.bool false)
        go_wp2_with fail
        simp only [Exit.jump]
        refine bodyPost_ret (v := .tuple #[.agg #[.int .i64 (Who.all.own : Nat), .int .i64 (Who.all.bes : Nat), .bool false], .string (s.extract k s.size)]) ?_ rfl ⟨?_, below_drewN hbf 1⟩
        · simp [results, Tryd.results21, go_sem, f1, f2, f3]
        · obtain rfl : k = 0 := by omega
          have e1 : whoOf (L s) = Who.all := by rw [whoOf, HEND.out.1, if_pos (by simp)]
          have e2 : namedOf (L s) = false := by rw [namedOf, HEND.out.1]; rfl
          rw [e1, e2, HEND.out.2, S_extract_from]
  · intro hR
    go_wp2_with fail
    rw [← HW2.out]
    go_step3
    go_step
    go_step
    exact hR.out _ _ ⟨0, Who.none, Nat.zero_le _, _, _, _, _, _, _, _, _, _, _, _, _, _, _, _, _, _, _, _, _, _, _, _, _, _, _, _, _, _, _, _, _, _, _, _, _, _, _, _, _, _, _, _, _, _, _, _, _, _, _, _, _, _, _, _, _, _, rfl, HC1.out, HC0.out, fun x hx => by simp at hx, rfl, HB2.out, by omega⟩
end Go.Proofs.YtbfplannbhafeaaDoor
