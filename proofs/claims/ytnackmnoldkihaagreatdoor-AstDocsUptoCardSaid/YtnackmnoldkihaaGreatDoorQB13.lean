/-
  The document's side: a list; whether each list is one command; a command's first word.
-/
import Derived.Test.YtnackmnoldkihaaGreatDoorQB12
import Derived.Test.YtnackmnoldkihaaGreatDoorQB5
import Derived.Test.YtnackmnoldkihaaGreatDoorQB7
set_option linter.unusedVariables false
set_option linter.unusedSimpArgs false
/-
  The document's side: stands and lit.
-/
namespace Go.Proofs.YtnackmnoldkihaaGreatDoor
open Go.RowKit

theorem standsL_take (tag l : List UInt8) (f m : Nat) (c : UInt8) (hf : f ≤ m) (h : l[m]? = some c) (h10 : c ≠ 10) : standsL tag ((l.drop f).take (m - f)) (l.drop m) = standsL tag ((l.drop f).take (m + 1 - f)) (l.drop (m + 1)) := by
  have hlt := (List.getElem?_eq_some_iff.1 h).1
  have e1 : l.drop m = c :: l.drop (m + 1) := by rw [List.drop_eq_getElem_cons hlt, (List.getElem?_eq_some_iff.1 h).2]
  have e2 : (l.drop f).take (m + 1 - f) = (l.drop f).take (m - f) ++ [c] := by
    rw [show m + 1 - f = (m - f) + 1 by omega, List.take_add_one, List.getElem?_drop, show f + (m - f) = m by omega, h]; rfl
  rw [e1, e2, standsL, show (c == 10) = false by simp [h10]]
  rfl
theorem standsL_line (tag l : List UInt8) (f m : Nat) (h : l[m]? = some 10) : standsL tag ((l.drop f).take (m - f)) (l.drop m) = ((l.drop f).take (m - f) == tag || standsL tag ((l.drop (m + 1)).take (m + 1 - (m + 1))) (l.drop (m + 1))) := by
  have hlt := (List.getElem?_eq_some_iff.1 h).1
  have e1 : l.drop m = 10 :: l.drop (m + 1) := by rw [List.drop_eq_getElem_cons hlt, (List.getElem?_eq_some_iff.1 h).2]
  rw [e1, standsL, Nat.sub_self, List.take_zero]
  rfl

set_option maxHeartbeats 1000000 in
set_option maxRecDepth 100000 in
theorem stands_any (s tag : ByteArray) (w : World) (hs : s.size ≤ maxLen) :
    Calls Tryz.prog 72 #[.string s, .string tag] w fun e w' => e = .returned (.bool (standsL (L tag) [] (L s))) ∧ w = w' := by
  unfold maxLen at hs
  obtain ⟨r, hr⟩ : ∃ r, standsL (L tag) [] (L s) = r := ⟨_, rfl⟩
  rw [hr]
  have HR := Lib.hid hr
  clear hr
  go_enter Tryz.func72, Tryz.ntmps72
  go_wp2_with fail
  go_loop [5, 6] (fun f i => ∃ (j k : Nat), j ≤ k ∧ k ≤ s.size ∧ f = .int .i64 j ∧ i = .int .i64 k ∧ standsL (L tag) (((L s).drop j).take (k - j)) ((L s).drop k) = r) (fun _ i => s.size - (intOf i).toNat)
  case atStart => exact ⟨0, 0, Nat.le_refl _, Nat.zero_le _, rfl, rfl, by simpa using HR.out⟩
  case round =>
    obtain ⟨j, k, hjk, hk, rfl, rfl, hst⟩ := hrel
    have HST := Lib.hid hst
    clear hst
    by_cases hlt : k < s.size
    · have hidx := run_idx (P := Tryz.prog) Tryz.underlying9 s (k := .i64) (k : Int) k rfl hlt
      have hget := getD_get (show k < (L s).length from hlt)
      obtain ⟨c, hc⟩ : ∃ c, c = (L s).getD k 0 := ⟨_, rfl⟩
      rw [← hc] at hidx hget
      by_cases h10 : c = 10
      · have e10 : (((c.toNat : Nat) : Int) == 10) = true := eq_byte h10
        rw [h10] at hget
        have HEX : Hid (L (s.extract j k) = ((L s).drop j).take (k - j)) := Lib.hid (L_extract _ _ _)
        have HL := Lib.hid (standsL_line (L tag) (L s) j k hget)
        clear hc hget h10
        cases hq : (((L s).drop j).take (k - j) == L tag) with
        | true =>
          have HE : Hid (r = true) := Lib.hid (by rw [← HST.out, HL.out, hq]; rfl)
          have hq2 : ((s.extract j k).toList == tag.toList) = true := by rw [toList_L, toList_L, HEX.out]; exact hq
          clear hq
          go_wp2_with fail
          go_ret
          exact ⟨ret_bool HE.out.symm, rfl⟩
        | false =>
          have HE := Lib.hid (HST.out.symm.trans (HL.out.trans (by rw [hq, Bool.false_or])))
          have hq2 : ((s.extract j k).toList == tag.toList) = false := by rw [toList_L, toList_L, HEX.out]; exact hq
          clear hq
          go_wp2_with fail
          go_round
          case rel => exact ⟨k + 1, k + 1, Nat.le_refl _, by omega, by go_num, by go_num, HE.out.symm⟩
          case measure => simp [intOf]; omega
      · have e10 : (((c.toNat : Nat) : Int) == 10) = false := ne_byte h10
        have HE := Lib.hid ((standsL_take (L tag) (L s) j k c hjk hget h10).symm.trans HST.out)
        clear hc hget h10
        go_wp2_with fail
        go_round
        case rel => exact ⟨j, k + 1, by omega, by omega, rfl, by go_num, HE.out⟩
        case measure => simp [intOf]; omega
    · have HE : Hid (r = false) := Lib.hid (by rw [← HST.out, show (L s).drop k = [] from List.drop_of_length_le (by rw [L_size]; omega)]; rfl)
      go_wp2_with fail
      go_ret
      exact ⟨ret_bool HE.out.symm, rfl⟩

def okcB (qd : Bool) (c : UInt8) : Bool := bif qd then c != 0 else bareB c
theorem okc_all (p : Pt) : (L p.text).all (okcB p.quoted) = (bif p.quoted then !hasB (L p.text) 0 else (L p.text).all bareB) := by
  cases p.quoted with
  | true =>
    show (L p.text).all (fun c => okcB true c) = !hasB (L p.text) 0
    rw [Bool.eq_iff_iff, List.all_eq_true, Bool.not_eq_true', Bool.eq_false_iff, ne_eq, hasB_mem]
    simp only [okcB, cond_true, bne_iff_ne, ne_eq]
    exact ⟨fun h hm => h 0 hm rfl, fun h x hx e => h (by rw [← e]; exact hx)⟩
  | false => rfl

set_option maxHeartbeats 2000000 in
set_option maxRecDepth 100000 in
theorem rlit_any (p : Pt) (w : World) (d : Nat) (c : List Value) (hp : PtC w w.heap.size d p c) :
    Calls Tryz.prog 99 #[.agg c.toArray] w fun e w' => e = .returned (.bool (litB none p)) ∧ Below w.heap.size w w' := by
  obtain ⟨a1, c1, a2, c2, rfl, ⟨h1, h2⟩, ⟨h3, h4⟩, _⟩ := hp.open
  have HOK := Lib.hid (okc_all p)
  have HL : Hid (litB none p = ((L p.op).isEmpty && (p.word.isEmpty && p.body.isEmpty) && !false && (bif p.quoted then !hasB (L p.text) 0 else ((L p.text).all bareB && !(L p.text).isEmpty)))) := Lib.hid rfl
  obtain ⟨r, hr⟩ : ∃ r, litB none p = r := ⟨_, rfl⟩
  rw [hr] at HL ⊢
  obtain ⟨n1, hn1⟩ : ∃ n, p.word.length = n := ⟨_, rfl⟩
  obtain ⟨n2, hn2⟩ : ∃ n, p.body.length = n := ⟨_, rfl⟩
  have E1 := Lib.hid (nil_beq hn1)
  have E2 := Lib.hid (nil_beq hn2)
  rw [hn1] at h3 ⊢
  rw [hn2] at h4 ⊢
  obtain ⟨xk, hxk⟩ : ∃ k, p.kind = k := ⟨_, rfl⟩
  obtain ⟨xt, hxt⟩ : ∃ k, p.text = k := ⟨_, rfl⟩
  obtain ⟨xo, hxo⟩ : ∃ k, p.op = k := ⟨_, rfl⟩
  obtain ⟨qd, hqd⟩ : ∃ k, p.quoted = k := ⟨_, rfl⟩
  rw [hxk, hqd, hxt, hxo]
  rw [hqd, hxt] at HOK
  rw [hqd, hxt, hxo] at HL
  rw [hxt] at h1
  have HBK := Lib.hid (Blk.new w 72 #[.int .i64 xk, .bool qd, .string xt, .string xo, .slice a1 n1 c1, .slice a2 n2 c2])
  have CB : Hid (∀ (c : UInt8) W, Calls Tryz.prog 20 #[.int .u8 ((c.toNat : Nat) : Int)] W fun e w' => e = .returned (.bool (bareB c)) ∧ W = w') := Lib.hid fun c W => rbare_any c W
  clear hp hr hn1 hn2 hxk hxt hxo hqd
  go_enter Tryz.func99, Tryz.ntmps99
  go_wp2_with fail
  go_loop [3] (fun i => ∃ k : Nat, k ≤ xt.size ∧ i = .int .i64 k ∧ ((L xt).take k).all (okcB qd) = true) (fun i => xt.size - (intOf i).toNat)
  case atStart => exact ⟨0, Nat.zero_le _, rfl, by simp⟩
  case round =>
    obtain ⟨k, hk, rfl, hal⟩ := hrel
    have HAL := Lib.hid hal
    clear hal
    by_cases hlt : k < xt.size
    · have hidx := run_idx (P := Tryz.prog) Tryz.underlying9 xt (k := .i64) (k : Int) k rfl hlt
      have hget := getD_get (show k < (L xt).length from hlt)
      obtain ⟨c, hc⟩ : ∃ c, c = (L xt).getD k 0 := ⟨_, rfl⟩
      rw [← hc] at hidx hget
      have HG := Lib.hid hget
      clear hc hget
      cases qd with
      | true =>
        by_cases h0 : c = 0
        · have e0 : (((c.toNat : Nat) : Int) == 0) = true := eq_byte h0
          have HE : Hid (r = false) := Lib.hid (by
            have : (L xt).all (okcB true) = false := all_no HG.out (by rw [okcB, h0]; rfl)
            rw [HL.out, cond_true]
            rw [HOK.out, cond_true] at this
            rw [this, Bool.and_false])
          clear h0
          go_wp2_with fail
          go_ret
          exact ⟨ret_bool HE.out.symm, (by repeat' (first | (with_reducible assumption) | (with_reducible exact Below.refl _ _) | (with_reducible refine below_drewN ?_ _) | (with_reducible refine below_bytes ?_ ?_ _) | (with_reducible refine Below.alloc ?_ ?_ _) | (with_reducible refine Below.drew ?_) | (with_reducible refine Below.setCell ?_ ?_ _) | go_size))⟩
        · have e0 : (((c.toNat : Nat) : Int) == 0) = false := ne_byte h0
          have HE : Hid (((L xt).take (k + 1)).all (okcB true) = true) := Lib.hid (all_to HAL.out HG.out (by simp [okcB, h0]))
          clear h0
          go_wp2_with fail
          go_round
          case rel => exact ⟨k + 1, by omega, by go_num, HE.out⟩
          case measure => simp [intOf]; omega
      | false =>
        have CB1 := Lib.hid (CB.out c)
        obtain ⟨rb, hrb⟩ : ∃ b, bareB c = b := ⟨_, rfl⟩
        rw [hrb] at CB1
        cases rb with
        | false =>
          have HE : Hid (r = false) := Lib.hid (by
            have : (L xt).all (okcB false) = false := all_no HG.out hrb
            rw [HL.out, cond_false]
            rw [HOK.out, cond_false] at this
            rw [this, Bool.false_and, Bool.and_false])
          clear hrb
          go_wp2_with (go_at_call 20; with_reducible refine (CB1.out _).mono ?_; rintro e w1 ⟨rfl, rfl⟩)
          go_ret
          exact ⟨ret_bool HE.out.symm, (by repeat' (first | (with_reducible assumption) | (with_reducible exact Below.refl _ _) | (with_reducible refine below_drewN ?_ _) | (with_reducible refine below_bytes ?_ ?_ _) | (with_reducible refine Below.alloc ?_ ?_ _) | (with_reducible refine Below.drew ?_) | (with_reducible refine Below.setCell ?_ ?_ _) | go_size))⟩
        | true =>
          have HE : Hid (((L xt).take (k + 1)).all (okcB false) = true) := Lib.hid (all_to HAL.out HG.out hrb)
          clear hrb
          go_wp2_with (go_at_call 20; with_reducible refine (CB1.out _).mono ?_; rintro e w1 ⟨rfl, rfl⟩)
          go_round
          case rel => exact ⟨k + 1, by omega, by go_num, HE.out⟩
          case measure => simp [intOf]; omega
    · have HE0 : Hid (r = ((L xo).isEmpty && (p.word.isEmpty && p.body.isEmpty) && (bif qd then true else !(L xt).isEmpty))) := Lib.hid (by
        have h := all_end HAL.out (by rw [L_size]; omega)
        rw [HOK.out] at h
        rw [HL.out]
        cases qd with
        | true => rw [cond_true] at h; rw [cond_true, cond_true, h]; simp
        | false => rw [cond_false] at h; rw [cond_false, cond_false, h]; simp)
      cases ho : (L xo).isEmpty with
      | false =>
        have g0 : xo.toList.isEmpty = false := by rw [isEmpty_L]; exact ho
        have HE : Hid (r = false) := Lib.hid (by rw [HE0.out, ho]; rfl)
        go_wp2_with fail
        go_ret
        exact ⟨ret_bool HE.out.symm, (by repeat' (first | (with_reducible assumption) | (with_reducible exact Below.refl _ _) | (with_reducible refine below_drewN ?_ _) | (with_reducible refine below_bytes ?_ ?_ _) | (with_reducible refine Below.alloc ?_ ?_ _) | (with_reducible refine Below.drew ?_) | (with_reducible refine Below.setCell ?_ ?_ _) | go_size))⟩
      | true =>
        have g0 : xo.toList.isEmpty = true := by rw [isEmpty_L]; exact ho
        cases hw1 : p.word.isEmpty with
        | false =>
          have g1 : ((n1 : Int) == 0) = false := E1.out.trans hw1
          have HE : Hid (r = false) := Lib.hid (by rw [HE0.out, ho, hw1]; rfl)
          go_wp2_with fail
          go_ret
          exact ⟨ret_bool HE.out.symm, (by repeat' (first | (with_reducible assumption) | (with_reducible exact Below.refl _ _) | (with_reducible refine below_drewN ?_ _) | (with_reducible refine below_bytes ?_ ?_ _) | (with_reducible refine Below.alloc ?_ ?_ _) | (with_reducible refine Below.drew ?_) | (with_reducible refine Below.setCell ?_ ?_ _) | go_size))⟩
        | true =>
          have g1 : ((n1 : Int) == 0) = true := E1.out.trans hw1
          cases hw2 : p.body.isEmpty with
          | false =>
            have g2 : ((n2 : Int) == 0) = false := E2.out.trans hw2
            have HE : Hid (r = false) := Lib.hid (by rw [HE0.out, ho, hw1, hw2]; rfl)
            go_wp2_with fail
            go_ret
            exact ⟨ret_bool HE.out.symm, (by repeat' (first | (with_reducible assumption) | (with_reducible exact Below.refl _ _) | (with_reducible refine below_drewN ?_ _) | (with_reducible refine below_bytes ?_ ?_ _) | (with_reducible refine Below.alloc ?_ ?_ _) | (with_reducible refine Below.drew ?_) | (with_reducible refine Below.setCell ?_ ?_ _) | go_size))⟩
          | true =>
            have g2 : ((n2 : Int) == 0) = true := E2.out.trans hw2
            have HE : Hid (r = (bif qd then true else !(L xt).isEmpty)) := Lib.hid (by rw [HE0.out, ho, hw1, hw2]; rfl)
            cases qd with
            | true =>
              go_wp2_with fail
              go_ret
              exact ⟨ret_bool HE.out.symm, (by repeat' (first | (with_reducible assumption) | (with_reducible exact Below.refl _ _) | (with_reducible refine below_drewN ?_ _) | (with_reducible refine below_bytes ?_ ?_ _) | (with_reducible refine Below.alloc ?_ ?_ _) | (with_reducible refine Below.drew ?_) | (with_reducible refine Below.setCell ?_ ?_ _) | go_size))⟩
            | false =>
              cases ht : (L xt).isEmpty with
              | false =>
                have g3 : xt.toList.isEmpty = false := by rw [isEmpty_L]; exact ht
                have HE2 : Hid (r = true) := Lib.hid (by rw [HE.out, ht]; rfl)
                go_wp2_with fail
                go_ret
                exact ⟨ret_bool HE2.out.symm, (by repeat' (first | (with_reducible assumption) | (with_reducible exact Below.refl _ _) | (with_reducible refine below_drewN ?_ _) | (with_reducible refine below_bytes ?_ ?_ _) | (with_reducible refine Below.alloc ?_ ?_ _) | (with_reducible refine Below.drew ?_) | (with_reducible refine Below.setCell ?_ ?_ _) | go_size))⟩
              | true =>
                have g3 : xt.toList.isEmpty = true := by rw [isEmpty_L]; exact ht
                have HE2 : Hid (r = false) := Lib.hid (by rw [HE.out, ht]; rfl)
                go_wp2_with fail
                go_ret
                exact ⟨ret_bool HE2.out.symm, (by repeat' (first | (with_reducible assumption) | (with_reducible exact Below.refl _ _) | (with_reducible refine below_drewN ?_ _) | (with_reducible refine below_bytes ?_ ?_ _) | (with_reducible refine Below.alloc ?_ ?_ _) | (with_reducible refine Below.drew ?_) | (with_reducible refine Below.setCell ?_ ?_ _) | go_size))⟩
end Go.Proofs.YtnackmnoldkihaaGreatDoor
/-
  The document's side: a part.
-/
namespace Go.Proofs.YtnackmnoldkihaaGreatDoor
open Go.RowKit

/-- A call's one box. -/
structure Bk (w W : World) (t : TypeId) (c : Array Value) : Prop where
  b : Blk W w.heap.size t c
  hb : Below w.heap.size w W
theorem Bk.start (w : World) (t : TypeId) (c : Array Value) : Bk w (w.alloc (.cells c t)) t c := ⟨Blk.new _ _ _, (by repeat' (first | (with_reducible assumption) | (with_reducible exact Below.refl _ _) | (with_reducible refine below_drewN ?_ _) | (with_reducible refine below_bytes ?_ ?_ _) | (with_reducible refine Below.alloc ?_ ?_ _) | (with_reducible refine Below.drew ?_) | (with_reducible refine Below.setCell ?_ ?_ _) | go_size))⟩
theorem Bk.later {w W W' : World} {t : TypeId} {c : Array Value} (h : Bk w W t c) (hb : Below W.heap.size W W') : Bk w W' t c := ⟨h.b.below hb h.b.lt, h.hb.trans (hb.mono h.hb.size)⟩
theorem Bk.from {w W W' : World} {t : TypeId} {c : Array Value} (h : Bk w W t c) (hb : Below w.heap.size w W') (hk : ∀ o, W'.heap[w.heap.size]? = o ↔ W.heap[w.heap.size]? = o) : Bk w W' t c := ⟨(hk _).2 h.b, hb⟩

/-- Word and List of the document, at a level. -/
def RWordAt (level deep : Int) (wd : List Pt → Bool) : Prop := ∀ (W : World) (l : List Pt) (v : Value) (d : Nat) (some : Bool), PtsIn W W.heap.size d l v →
  Calls Tryz.prog 55 #[v, .int .i64 level, .int .i64 deep, .bool some] W fun e w' => e = .returned (.bool (wd l && (!some || !l.isEmpty))) ∧ Below W.heap.size W w'
def RListAt (level deep : Int) (ls : List Nd → Bool) : Prop := ∀ (W : World) (l : List Nd) (v : Value) (d : Nat) (none : Bool), NdsIn W W.heap.size d l v →
  Calls Tryz.prog 11 #[v, .int .i64 level, .int .i64 deep, .bool none] W fun e w' => e = .returned (.bool (ls l && (none || !l.isEmpty))) ∧ Below W.heap.size W w'
theorem RWordAt.reads {level deep : Int} {wd : List Pt → Bool} (h : RWordAt level deep wd) {w : World} {l : List Pt} {v : Value} {d : Nat} (hl : PtsIn w w.heap.size d l v) (some : Bool) : Reads w 55 #[v, .int .i64 level, .int .i64 deep, .bool some] (.bool (wd l && (!some || !l.isEmpty))) :=
  fun W hb => h W l v d some (hl.later hb)
theorem RListAt.reads {level deep : Int} {ls : List Nd → Bool} (h : RListAt level deep ls) {w : World} {l : List Nd} {v : Value} {d : Nat} (hl : NdsIn w w.heap.size d l v) (none : Bool) : Reads w 11 #[v, .int .i64 level, .int .i64 deep, .bool none] (.bool (ls l && (none || !l.isEmpty))) :=
  fun W hb => h W l v d none (hl.later hb)
theorem PtsIn.first14 {w : World} {B d : Nat} {l : List Pt} {v : Value} (h : PtsIn w B d l v) (h0 : 0 < l.length) : ∃ x b o, (∃ r, l = x :: r) ∧ x.text.size ≤ 1048576 ∧ (∀ w' : World, (Instr.indexAt 41 v (.int .i64 0)).run Tryz.prog w' = .ok (.pointer (some ⟨b, o, none⟩)) w') ∧ b < B ∧
    w.cell? ⟨b, o, none⟩ = some (.int .i64 x.kind) ∧ w.cell? ⟨b, o + 1, none⟩ = some (.bool x.quoted) ∧ w.cell? ⟨b, o + 2, none⟩ = some (.string x.text) := by
  obtain ⟨d, h⟩ := h.up
  cases l with
  | nil => simp at h0
  | cons x r =>
    obtain ⟨b, o, c, hi, hb, hc, hC, _⟩ := h.at 41 72 Tryz.underlying41 (by kernel_rfl) (k := 0) (x := x) rfl
    obtain ⟨h1, h2, wv, bv, rfl, _⟩ := hC
    exact ⟨x, b, o, ⟨r, rfl⟩, h1, fun w' => hi w', hb, hc 0 _ rfl, hc 1 _ rfl, hc 2 _ rfl⟩

set_option maxHeartbeats 1000000 in
set_option maxRecDepth 100000 in
theorem rpart_no (level deep : Int) (h : deep < level) (p : Pt) (w : World) (d : Nat) (c : List Value) (hp : PtC w w.heap.size d p c) :
    Calls Tryz.prog 71 #[.agg c.toArray, .int .i64 level, .int .i64 deep] w fun e w' => e = .returned (.bool false) ∧ Below w.heap.size w w' := by
  obtain ⟨a1, c1, a2, c2, rfl, _⟩ := hp.open
  have hg : decide (deep < level) = true := by simp [h]
  clear hp h
  go_enter Tryz.func71, Tryz.ntmps71
  go_wp2_with fail
  go_ret
  exact ⟨ret_bool rfl, (by repeat' (first | (with_reducible assumption) | (with_reducible exact Below.refl _ _) | (with_reducible refine below_drewN ?_ _) | (with_reducible refine below_bytes ?_ ?_ _) | (with_reducible refine Below.alloc ?_ ?_ _) | (with_reducible refine Below.drew ?_) | (with_reducible refine Below.setCell ?_ ?_ _) | go_size))⟩

set_option maxHeartbeats 4000000 in
set_option maxRecDepth 100000 in
theorem rpart_yes (wd : List Pt → Bool) (ls : List Nd → Bool) (level deep : Int) (hlv : level ≤ deep) (hl0 : 0 ≤ level) (hl1 : level ≤ 2000) (hwd : RWordAt (level + 1) deep wd) (hls : RListAt (level + 1) deep ls) (p : Pt) (w : World) (d : Nat) (c : List Value) (hp : PtC w w.heap.size d p c) :
    Calls Tryz.prog 71 #[.agg c.toArray, .int .i64 level, .int .i64 deep] w fun e w' => e = .returned (.bool (partB wd ls none p)) ∧ Below w.heap.size w w' := by
  have CLit : Hid (∀ W, Below w.heap.size w W → Calls Tryz.prog 99 #[.agg c.toArray] W fun e w' => e = .returned (.bool (litB none p)) ∧ Below W.heap.size W w') := Lib.hid fun W hW => rlit_any p W d c (hp.later hW)
  obtain ⟨a1, c1, a2, c2, rfl, ⟨h1, h2⟩, ⟨hlw, hlb⟩, hw, hb⟩ := hp.open
  obtain ⟨lw, hlw0⟩ : ∃ n, p.word.length = n := ⟨_, rfl⟩
  obtain ⟨lb, hlb0⟩ : ∃ n, p.body.length = n := ⟨_, rfl⟩
  rw [hlw0] at hlw hw CLit ⊢
  rw [hlb0] at hlb hb CLit ⊢
  have CW := Lib.hid (hwd.reads hw false)
  have CLs := Lib.hid (hls.reads hb true)
  have HW := Lib.hid hw
  have CNm : Hid (∀ W, Below w.heap.size w W → Calls Tryz.prog 22 #[.string p.text] W fun e w' => e = .returned (.bool (nameL (L p.text))) ∧ Below W.heap.size W w') := Lib.hid fun W _ => (rname_any p.text W (by unfold maxLen; omega)).mono fun e w' h => ⟨h.1, by first | exact h.2 | (rw [h.2]; exact Below.refl _ _) | (rw [← h.2]; exact Below.refl _ _)⟩
  have CNu : Hid (∀ W, Below w.heap.size w W → Calls Tryz.prog 24 #[.string p.text] W fun e w' => e = .returned (.bool (numB (L p.text))) ∧ Below W.heap.size W w') := Lib.hid fun W _ => (rnumber_any p.text W (by unfold maxLen; omega)).mono fun e w' h => ⟨h.1, by first | exact h.2 | (rw [h.2]; exact Below.refl _ _) | (rw [← h.2]; exact Below.refl _ _)⟩
  have CSp : Hid (∀ W, Below w.heap.size w W → Calls Tryz.prog 26 #[.string p.text] W fun e w' => e = .returned (.bool (specB (L p.text))) ∧ Below W.heap.size W w') := Lib.hid fun W _ => (rspecial_any p.text W).mono fun e w' h => ⟨h.1, by first | exact h.2 | (rw [h.2]; exact Below.refl _ _) | (rw [← h.2]; exact Below.refl _ _)⟩
  have CSm : Hid (∀ W, Below w.heap.size w W → Calls Tryz.prog 32 #[.string p.text] W fun e w' => e = .returned (.bool (sumB (L p.text))) ∧ Below W.heap.size W w') := Lib.hid fun W _ => (rsum_any p.text W (by unfold maxLen; omega)).mono fun e w' h => ⟨h.1, by first | exact h.2 | (rw [h.2]; exact Below.refl _ _) | (rw [← h.2]; exact Below.refl _ _)⟩
  have COp : Hid (∀ W, Below w.heap.size w W → Calls Tryz.prog 30 #[.string p.op] W fun e w' => e = .returned (.bool (oneB opWs (L p.op))) ∧ Below W.heap.size W w') := Lib.hid fun W _ => rop_any p.op W
  obtain ⟨r, hr⟩ : ∃ r, partB wd ls none p = r := ⟨_, rfl⟩
  rw [hr]
  have HR0 : Hid (r = bif p.kind == 1 then litB none p else bif p.kind == 2 then paramB wd p else bif p.kind == 3 then ((L p.text).isEmpty && ((L p.op).isEmpty && (p.word.isEmpty && ls p.body))) else bif p.kind == 4 then (sumB (L p.text) && ((L p.op).isEmpty && (p.word.isEmpty && p.body.isEmpty))) else false) := Lib.hid (by rw [← hr, partB, hollowB, Bool.and_false, Bool.not_false, Bool.true_and])
  have HRP : Hid (paramB wd p = (!(!p.body.isEmpty || (!(nameL (L p.text) || numB (L p.text)) && !specB (L p.text))) && (bif (L p.op).isEmpty then p.word.isEmpty else bif L p.op == [108, 101, 110] then ((nameL (L p.text) || numB (L p.text)) && p.word.isEmpty) else (!pctB p && (oneB opWs (L p.op) && (!(L p.text == [35]) && wd p.word)))))) := Lib.hid rfl
  have hg : decide (deep < level) = false := by simp [hlv]
  have HLW := Lib.hid hlw0
  have HLB := Lib.hid hlb0
  have EW := Lib.hid (nil_beq hlw0)
  have EB := Lib.hid (nil_beq hlb0)
  have EB2 := Lib.hid (nil_lt hlb0)
  have BK := Lib.hid (Bk.start w 72 #[.int .i64 p.kind, .bool p.quoted, .string p.text, .string p.op, .slice a1 lw c1, .slice a2 lb c2])
  clear hp hr hw hb hlw0 hlb0 hwd hls hlv
  obtain ⟨xk, hxk⟩ : ∃ k, p.kind = k := ⟨_, rfl⟩
  rw [hxk] at HR0 BK CLit ⊢
  clear hxk
  cases hk1 : (xk == 1) with
  | true =>
    have HE : Hid (r = litB none p) := Lib.hid (by rw [HR0.out, hk1]; rfl)
    go_enter Tryz.func71, Tryz.ntmps71
    go_wp2_with fail
    refine (CLit.out _ (by repeat' (first | (with_reducible assumption) | (with_reducible exact Below.refl _ _) | (with_reducible refine below_drewN ?_ _) | (with_reducible refine below_bytes ?_ ?_ _) | (with_reducible refine Below.alloc ?_ ?_ _) | (with_reducible refine Below.drew ?_) | (with_reducible refine Below.setCell ?_ ?_ _) | go_size))).mono ?_
    rintro e w1 ⟨rfl, hb0⟩
    have hBw1 : Below w.heap.size w w1 := since hb0 (by repeat' (first | (with_reducible assumption) | (with_reducible exact Below.refl _ _) | (with_reducible refine below_drewN ?_ _) | (with_reducible refine below_bytes ?_ ?_ _) | (with_reducible refine Below.alloc ?_ ?_ _) | (with_reducible refine Below.drew ?_) | (with_reducible refine Below.setCell ?_ ?_ _) | go_size))
    have BKw1 := Lib.hid (Bk.later BK.out (since hb0 (by repeat' (first | (with_reducible assumption) | (with_reducible exact Below.refl _ _) | (with_reducible refine below_drewN ?_ _) | (with_reducible refine below_bytes ?_ ?_ _) | (with_reducible refine Below.alloc ?_ ?_ _) | (with_reducible refine Below.drew ?_) | (with_reducible refine Below.setCell ?_ ?_ _) | go_size))))
    clear hb0
    go_wp2_with fail
    go_ret
    exact ⟨ret_bool HE.out.symm, (by repeat' (first | (with_reducible assumption) | (with_reducible exact Below.refl _ _) | (with_reducible refine below_drewN ?_ _) | (with_reducible refine below_bytes ?_ ?_ _) | (with_reducible refine Below.alloc ?_ ?_ _) | (with_reducible refine Below.drew ?_) | (with_reducible refine Below.setCell ?_ ?_ _) | go_size))⟩
  | false =>
    cases hk2 : (xk == 2) with
    | false =>
      cases hk3 : (xk == 3) with
      | true =>
        have HE : Hid (r = ((L p.text).isEmpty && ((L p.op).isEmpty && (p.word.isEmpty && ls p.body)))) := Lib.hid (by rw [HR0.out, hk1, hk2, hk3]; rfl)
        obtain ⟨lr, hlr⟩ : ∃ b, (ls p.body && (true || !p.body.isEmpty)) = b := ⟨_, rfl⟩
        rw [hlr] at CLs
        rw [Bool.true_or, Bool.and_true] at hlr
        rw [hlr] at HE
        clear hlr
        cases ht : (L p.text).isEmpty with
        | false =>
          have htt : p.text.toList.isEmpty = false := by rw [isEmpty_L]; exact ht
          rw [ht] at HE
          clear ht
          go_enter Tryz.func71, Tryz.ntmps71
          go_wp2_with fail
          go_ret
          exact ⟨ret_bool (by rw [HE.out]; rfl), (by repeat' (first | (with_reducible assumption) | (with_reducible exact Below.refl _ _) | (with_reducible refine below_drewN ?_ _) | (with_reducible refine below_bytes ?_ ?_ _) | (with_reducible refine Below.alloc ?_ ?_ _) | (with_reducible refine Below.drew ?_) | (with_reducible refine Below.setCell ?_ ?_ _) | go_size))⟩
        | true =>
          have htt : p.text.toList.isEmpty = true := by rw [isEmpty_L]; exact ht
          rw [ht] at HE
          clear ht
          cases ho : (L p.op).isEmpty with
          | false =>
            have hot : p.op.toList.isEmpty = false := by rw [isEmpty_L]; exact ho
            rw [ho] at HE
            clear ho
            go_enter Tryz.func71, Tryz.ntmps71
            go_wp2_with fail
            go_ret
            exact ⟨ret_bool (by rw [HE.out]; rfl), (by repeat' (first | (with_reducible assumption) | (with_reducible exact Below.refl _ _) | (with_reducible refine below_drewN ?_ _) | (with_reducible refine below_bytes ?_ ?_ _) | (with_reducible refine Below.alloc ?_ ?_ _) | (with_reducible refine Below.drew ?_) | (with_reducible refine Below.setCell ?_ ?_ _) | go_size))⟩
          | true =>
            have hot : p.op.toList.isEmpty = true := by rw [isEmpty_L]; exact ho
            rw [ho] at HE
            clear ho
            have e2 := EW.out
            cases hwe : p.word.isEmpty with
            | false =>
              rw [hwe] at e2 HE
              clear hwe
              go_enter Tryz.func71, Tryz.ntmps71
              go_wp2_with fail
              go_ret
              exact ⟨ret_bool (by rw [HE.out]; rfl), (by repeat' (first | (with_reducible assumption) | (with_reducible exact Below.refl _ _) | (with_reducible refine below_drewN ?_ _) | (with_reducible refine below_bytes ?_ ?_ _) | (with_reducible refine Below.alloc ?_ ?_ _) | (with_reducible refine Below.drew ?_) | (with_reducible refine Below.setCell ?_ ?_ _) | go_size))⟩
            | true =>
              rw [hwe] at e2 HE
              clear hwe
              go_enter Tryz.func71, Tryz.ntmps71
              go_wp2_with fail
              refine (CLs.out _ (by repeat' (first | (with_reducible assumption) | (with_reducible exact Below.refl _ _) | (with_reducible refine below_drewN ?_ _) | (with_reducible refine below_bytes ?_ ?_ _) | (with_reducible refine Below.alloc ?_ ?_ _) | (with_reducible refine Below.drew ?_) | (with_reducible refine Below.setCell ?_ ?_ _) | go_size))).mono ?_
              rintro e w1 ⟨rfl, hb0⟩
              have hBw1 : Below w.heap.size w w1 := since hb0 (by repeat' (first | (with_reducible assumption) | (with_reducible exact Below.refl _ _) | (with_reducible refine below_drewN ?_ _) | (with_reducible refine below_bytes ?_ ?_ _) | (with_reducible refine Below.alloc ?_ ?_ _) | (with_reducible refine Below.drew ?_) | (with_reducible refine Below.setCell ?_ ?_ _) | go_size))
              have BKw1 := Lib.hid (Bk.later BK.out (since hb0 (by repeat' (first | (with_reducible assumption) | (with_reducible exact Below.refl _ _) | (with_reducible refine below_drewN ?_ _) | (with_reducible refine below_bytes ?_ ?_ _) | (with_reducible refine Below.alloc ?_ ?_ _) | (with_reducible refine Below.drew ?_) | (with_reducible refine Below.setCell ?_ ?_ _) | go_size))))
              clear hb0
              go_wp2_with fail
              go_ret
              exact ⟨ret_bool (by rw [HE.out]; rfl), (by repeat' (first | (with_reducible assumption) | (with_reducible exact Below.refl _ _) | (with_reducible refine below_drewN ?_ _) | (with_reducible refine below_bytes ?_ ?_ _) | (with_reducible refine Below.alloc ?_ ?_ _) | (with_reducible refine Below.drew ?_) | (with_reducible refine Below.setCell ?_ ?_ _) | go_size))⟩
      | false =>
        cases hk4 : (xk == 4) with
        | true =>
          have HE : Hid (r = (sumB (L p.text) && ((L p.op).isEmpty && (p.word.isEmpty && p.body.isEmpty)))) := Lib.hid (by rw [HR0.out, hk1, hk2, hk3, hk4]; rfl)
          obtain ⟨sm, hsm⟩ : ∃ b, sumB (L p.text) = b := ⟨_, rfl⟩
          rw [hsm] at CSm HE
          clear hsm
          have e2 := EW.out
          have e3 := EB.out
          cases ho : (L p.op).isEmpty
          all_goals cases hwe : p.word.isEmpty
          all_goals cases hbe : p.body.isEmpty
          all_goals
            have hot := (isEmpty_L p.op).trans ho
            rw [ho, hwe, hbe] at HE
            rw [hwe] at e2
            rw [hbe] at e3
            clear ho hwe hbe
            cases sm
            all_goals
              go_enter Tryz.func71, Tryz.ntmps71
              go_wp2_with fail
              refine (CSm.out _ (by repeat' (first | (with_reducible assumption) | (with_reducible exact Below.refl _ _) | (with_reducible refine below_drewN ?_ _) | (with_reducible refine below_bytes ?_ ?_ _) | (with_reducible refine Below.alloc ?_ ?_ _) | (with_reducible refine Below.drew ?_) | (with_reducible refine Below.setCell ?_ ?_ _) | go_size))).mono ?_
              rintro e w1 ⟨rfl, hb0⟩
              have hBw1 : Below w.heap.size w w1 := since hb0 (by repeat' (first | (with_reducible assumption) | (with_reducible exact Below.refl _ _) | (with_reducible refine below_drewN ?_ _) | (with_reducible refine below_bytes ?_ ?_ _) | (with_reducible refine Below.alloc ?_ ?_ _) | (with_reducible refine Below.drew ?_) | (with_reducible refine Below.setCell ?_ ?_ _) | go_size))
              have BKw1 := Lib.hid (Bk.later BK.out (since hb0 (by repeat' (first | (with_reducible assumption) | (with_reducible exact Below.refl _ _) | (with_reducible refine below_drewN ?_ _) | (with_reducible refine below_bytes ?_ ?_ _) | (with_reducible refine Below.alloc ?_ ?_ _) | (with_reducible refine Below.drew ?_) | (with_reducible refine Below.setCell ?_ ?_ _) | go_size))))
              clear hb0
              have K1BKw1 := Lib.hid BKw1.out.b
              have hBBKw1 := BKw1.out.hb
              have p0 := K1BKw1.out.cell 0
              have p1 := K1BKw1.out.cell 1
              have p2 := K1BKw1.out.cell 2
              have p3 := K1BKw1.out.cell 3
              have p4 := K1BKw1.out.cell 4
              have p5 := K1BKw1.out.cell 5
              have pl := K1BKw1.out.lt
              simp at p0 p1 p2 p3 p4 p5
              go_wp2_with fail
              go_ret
              exact ⟨ret_bool (by rw [HE.out]; rfl), (by repeat' (first | (with_reducible assumption) | (with_reducible exact Below.refl _ _) | (with_reducible refine below_drewN ?_ _) | (with_reducible refine below_bytes ?_ ?_ _) | (with_reducible refine Below.alloc ?_ ?_ _) | (with_reducible refine Below.drew ?_) | (with_reducible refine Below.setCell ?_ ?_ _) | go_size))⟩
        | false =>
          have HE : Hid (r = false) := Lib.hid (by rw [HR0.out, hk1, hk2, hk3, hk4]; rfl)
          go_enter Tryz.func71, Tryz.ntmps71
          go_wp2_with fail
          go_ret
          exact ⟨ret_bool HE.out.symm, (by repeat' (first | (with_reducible assumption) | (with_reducible exact Below.refl _ _) | (with_reducible refine below_drewN ?_ _) | (with_reducible refine below_bytes ?_ ?_ _) | (with_reducible refine Below.alloc ?_ ?_ _) | (with_reducible refine Below.drew ?_) | (with_reducible refine Below.setCell ?_ ?_ _) | go_size))⟩
    | true =>
      have HE0 : Hid (r = paramB wd p) := Lib.hid (by rw [HR0.out, hk1, hk2]; rfl)
      have hr := HE0.out.trans HRP.out
      clear HE0 HRP HR0 CLit CLs CSm
      obtain ⟨lg, hlg⟩ : ∃ b, (nameL (L p.text) || numB (L p.text)) = b := ⟨_, rfl⟩
      obtain ⟨nm, hnm⟩ : ∃ b, nameL (L p.text) = b := ⟨_, rfl⟩
      obtain ⟨nu, hnu⟩ : ∃ b, numB (L p.text) = b := ⟨_, rfl⟩
      obtain ⟨sp, hsp⟩ : ∃ b, specB (L p.text) = b := ⟨_, rfl⟩
      obtain ⟨ob, hob⟩ : ∃ b, oneB opWs (L p.op) = b := ⟨_, rfl⟩
      obtain ⟨wr, hwr⟩ : ∃ b, (wd p.word && (!false || !p.word.isEmpty)) = b := ⟨_, rfl⟩
      obtain ⟨pc, hpc⟩ : ∃ b, pctB p = b := ⟨_, rfl⟩
      rw [hwr] at CW
      rw [show (wd p.word && (!false || !p.word.isEmpty)) = wd p.word by simp] at hwr
      rw [hlg, hsp, hob, hpc, hwr] at hr
      rw [hnm, hnu] at hlg
      rw [hnm] at CNm
      rw [hnu] at CNu
      rw [hsp] at CSp
      rw [hob] at COp
      obtain ⟨bd, hbd⟩ : ∃ b, (!p.body.isEmpty || (!lg && !sp)) = b := ⟨_, rfl⟩
      rw [hbd] at hr
      have HR := Lib.hid hr
      have HLG := Lib.hid hlg
      have HBD := Lib.hid hbd
      have HPC := Lib.hid hpc
      clear hnm hnu hsp hob hr hlg hwr hpc hbd EB
      go_enter Tryz.func71, Tryz.ntmps71
      go_upto_region 7 with fail
      go_cut [7] (fun s7 W => s7 = .bool lg ∧ Bk w W 72 #[.int .i64 xk, .bool p.quoted, .string p.text, .string p.op, .slice a1 lw c1, .slice a2 lb c2])
      case first =>
        go_wp2_with fail
        refine (CNm.out _ (by repeat' (first | (with_reducible assumption) | (with_reducible exact Below.refl _ _) | (with_reducible refine below_drewN ?_ _) | (with_reducible refine below_bytes ?_ ?_ _) | (with_reducible refine Below.alloc ?_ ?_ _) | (with_reducible refine Below.drew ?_) | (with_reducible refine Below.setCell ?_ ?_ _) | go_size))).mono ?_
        rintro e w1 ⟨rfl, hb0⟩
        have hBw1 : Below w.heap.size w w1 := since hb0 (by repeat' (first | (with_reducible assumption) | (with_reducible exact Below.refl _ _) | (with_reducible refine below_drewN ?_ _) | (with_reducible refine below_bytes ?_ ?_ _) | (with_reducible refine Below.alloc ?_ ?_ _) | (with_reducible refine Below.drew ?_) | (with_reducible refine Below.setCell ?_ ?_ _) | go_size))
        have BKw1 := Lib.hid (Bk.later BK.out (since hb0 (by repeat' (first | (with_reducible assumption) | (with_reducible exact Below.refl _ _) | (with_reducible refine below_drewN ?_ _) | (with_reducible refine below_bytes ?_ ?_ _) | (with_reducible refine Below.alloc ?_ ?_ _) | (with_reducible refine Below.drew ?_) | (with_reducible refine Below.setCell ?_ ?_ _) | go_size))))
        clear hb0
        have K1BKw1 := Lib.hid BKw1.out.b
        have hBBKw1 := BKw1.out.hb
        have p0 := K1BKw1.out.cell 0
        have p1 := K1BKw1.out.cell 1
        have p2 := K1BKw1.out.cell 2
        have p3 := K1BKw1.out.cell 3
        have p4 := K1BKw1.out.cell 4
        have p5 := K1BKw1.out.cell 5
        have pl := K1BKw1.out.lt
        simp at p0 p1 p2 p3 p4 p5
        cases nm with
        | true =>
          go_wp2_with fail
          go_meet
          exact ⟨by rw [← HLG.out]; rfl, BKw1.out⟩
        | false =>
          go_wp2_with fail
          refine (CNu.out _ (by repeat' (first | (with_reducible assumption) | (with_reducible exact Below.refl _ _) | (with_reducible refine below_drewN ?_ _) | (with_reducible refine below_bytes ?_ ?_ _) | (with_reducible refine Below.alloc ?_ ?_ _) | (with_reducible refine Below.drew ?_) | (with_reducible refine Below.setCell ?_ ?_ _) | go_size))).mono ?_
          rintro e w2 ⟨rfl, hb0⟩
          have hBw2 : Below w.heap.size w w2 := since hb0 (by repeat' (first | (with_reducible assumption) | (with_reducible exact Below.refl _ _) | (with_reducible refine below_drewN ?_ _) | (with_reducible refine below_bytes ?_ ?_ _) | (with_reducible refine Below.alloc ?_ ?_ _) | (with_reducible refine Below.drew ?_) | (with_reducible refine Below.setCell ?_ ?_ _) | go_size))
          have BKw2 := Lib.hid (Bk.later BKw1.out (since hb0 (by repeat' (first | (with_reducible assumption) | (with_reducible exact Below.refl _ _) | (with_reducible refine below_drewN ?_ _) | (with_reducible refine below_bytes ?_ ?_ _) | (with_reducible refine Below.alloc ?_ ?_ _) | (with_reducible refine Below.drew ?_) | (with_reducible refine Below.setCell ?_ ?_ _) | go_size))))
          clear hb0
          go_wp2_with fail
          go_meet
          exact ⟨by rw [← HLG.out]; rfl, BKw2.out⟩
      case rest =>
        obtain ⟨rfl, bk1⟩ := hcut
        have BK1 := Lib.hid bk1
        clear bk1
        have K1BK1 := Lib.hid BK1.out.b
        have hBBK1 := BK1.out.hb
        have p0 := K1BK1.out.cell 0
        have p1 := K1BK1.out.cell 1
        have p2 := K1BK1.out.cell 2
        have p3 := K1BK1.out.cell 3
        have p4 := K1BK1.out.cell 4
        have p5 := K1BK1.out.cell 5
        have pl := K1BK1.out.lt
        simp at p0 p1 p2 p3 p4 p5
        go_upto_region 8 with fail
        go_cut [40] (fun s40 W => s40 = .bool bd ∧ Bk w W 72 #[.int .i64 xk, .bool p.quoted, .string p.text, .string p.op, .slice a1 lw c1, .slice a2 lb c2])
        case first =>
          rcases Nat.eq_zero_or_pos lb with h0 | h0
          · subst h0
            have HBE : Hid (bd = (!lg && !sp)) := Lib.hid (by rw [← HBD.out, show p.body.isEmpty = true from nil_of_len HLB.out rfl]; rfl)
            clear EB2
            cases lg with
            | true =>
              have HE : Hid (bd = false) := Lib.hid (by rw [HBE.out]; rfl)
              go_wp2_with fail
              go_meet
              exact ⟨by rw [HE.out], BK1.out⟩
            | false =>
              have HE : Hid (bd = !sp) := Lib.hid (by rw [HBE.out]; rfl)
              go_wp2_with fail
              refine (CSp.out _ (by repeat' (first | (with_reducible assumption) | (with_reducible exact Below.refl _ _) | (with_reducible refine below_drewN ?_ _) | (with_reducible refine below_bytes ?_ ?_ _) | (with_reducible refine Below.alloc ?_ ?_ _) | (with_reducible refine Below.drew ?_) | (with_reducible refine Below.setCell ?_ ?_ _) | go_size))).mono ?_
              rintro e w3 ⟨rfl, hb0⟩
              have hBw3 : Below w.heap.size w w3 := since hb0 (by repeat' (first | (with_reducible assumption) | (with_reducible exact Below.refl _ _) | (with_reducible refine below_drewN ?_ _) | (with_reducible refine below_bytes ?_ ?_ _) | (with_reducible refine Below.alloc ?_ ?_ _) | (with_reducible refine Below.drew ?_) | (with_reducible refine Below.setCell ?_ ?_ _) | go_size))
              have BKw3 := Lib.hid (Bk.later BK1.out (since hb0 (by repeat' (first | (with_reducible assumption) | (with_reducible exact Below.refl _ _) | (with_reducible refine below_drewN ?_ _) | (with_reducible refine below_bytes ?_ ?_ _) | (with_reducible refine Below.alloc ?_ ?_ _) | (with_reducible refine Below.drew ?_) | (with_reducible refine Below.setCell ?_ ?_ _) | go_size))))
              clear hb0
              go_wp2_with fail
              go_meet
              exact ⟨by rw [HE.out], BKw3.out⟩
          · have HE : Hid (bd = true) := Lib.hid (by rw [← HBD.out, show p.body.isEmpty = false from not_nil_of_len HLB.out h0]; rfl)
            have e3 : decide ((0 : Int) < (lb : Int)) = true := by simp; omega
            go_wp2_with fail
            go_meet
            exact ⟨by rw [HE.out], BK1.out⟩
        case rest =>
          obtain ⟨rfl, bk2⟩ := hcut
          clear p0 p1 p2 p3 p4 p5 pl
          have BK2 := Lib.hid bk2
          clear bk2 BK1
          have K1BK2 := Lib.hid BK2.out.b
          have hBBK2 := BK2.out.hb
          have p0 := K1BK2.out.cell 0
          have p1 := K1BK2.out.cell 1
          have p2 := K1BK2.out.cell 2
          have p3 := K1BK2.out.cell 3
          have p4 := K1BK2.out.cell 4
          have p5 := K1BK2.out.cell 5
          have pl := K1BK2.out.lt
          simp at p0 p1 p2 p3 p4 p5
          cases bd with
          | true =>
            have HE : Hid (r = false) := Lib.hid (by rw [HR.out]; rfl)
            go_wp2_with fail
            go_ret
            exact ⟨ret_bool HE.out.symm, (by repeat' (first | (with_reducible assumption) | (with_reducible exact Below.refl _ _) | (with_reducible refine below_drewN ?_ _) | (with_reducible refine below_bytes ?_ ?_ _) | (with_reducible refine Below.alloc ?_ ?_ _) | (with_reducible refine Below.drew ?_) | (with_reducible refine Below.setCell ?_ ?_ _) | go_size))⟩
          | false =>
            cases hoe : (L p.op).isEmpty with
            | true =>
              have e1 : p.op.toList.isEmpty = true := by rw [isEmpty_L]; exact hoe
              have HE : Hid (r = p.word.isEmpty) := Lib.hid (by rw [HR.out, hoe]; rfl)
              have e2 := EW.out
              cases hwe : p.word.isEmpty with
              | true =>
                rw [hwe] at e2 HE
                clear hoe hwe
                go_wp2_with fail
                go_ret
                exact ⟨ret_bool HE.out.symm, (by repeat' (first | (with_reducible assumption) | (with_reducible exact Below.refl _ _) | (with_reducible refine below_drewN ?_ _) | (with_reducible refine below_bytes ?_ ?_ _) | (with_reducible refine Below.alloc ?_ ?_ _) | (with_reducible refine Below.drew ?_) | (with_reducible refine Below.setCell ?_ ?_ _) | go_size))⟩
              | false =>
                rw [hwe] at e2 HE
                clear hoe hwe
                go_wp2_with fail
                go_ret
                exact ⟨ret_bool HE.out.symm, (by repeat' (first | (with_reducible assumption) | (with_reducible exact Below.refl _ _) | (with_reducible refine below_drewN ?_ _) | (with_reducible refine below_bytes ?_ ?_ _) | (with_reducible refine Below.alloc ?_ ?_ _) | (with_reducible refine Below.drew ?_) | (with_reducible refine Below.setCell ?_ ?_ _) | go_size))⟩
            | false =>
              have e1 : p.op.toList.isEmpty = false := by rw [isEmpty_L]; exact hoe
              cases hol : (L p.op == [108, 101, 110]) with
              | true =>
                have e3 : (p.op.toList == [108, 101, 110]) = true := by rw [toList_L]; exact hol
                have HE : Hid (r = (lg && p.word.isEmpty)) := Lib.hid (by rw [HR.out, hoe, hol]; rfl)
                have e2 := EW.out
                cases hwe : p.word.isEmpty with
                | true =>
                  rw [hwe] at e2 HE
                  clear hoe hwe hol
                  cases lg
                  all_goals
                    go_wp2_with fail
                    go_ret
                    exact ⟨ret_bool (by rw [HE.out]; rfl), (by repeat' (first | (with_reducible assumption) | (with_reducible exact Below.refl _ _) | (with_reducible refine below_drewN ?_ _) | (with_reducible refine below_bytes ?_ ?_ _) | (with_reducible refine Below.alloc ?_ ?_ _) | (with_reducible refine Below.drew ?_) | (with_reducible refine Below.setCell ?_ ?_ _) | go_size))⟩
                | false =>
                  rw [hwe] at e2 HE
                  clear hoe hwe hol
                  go_wp2_with fail
                  go_ret
                  exact ⟨ret_bool (by rw [HE.out]; simp), (by repeat' (first | (with_reducible assumption) | (with_reducible exact Below.refl _ _) | (with_reducible refine below_drewN ?_ _) | (with_reducible refine below_bytes ?_ ?_ _) | (with_reducible refine Below.alloc ?_ ?_ _) | (with_reducible refine Below.drew ?_) | (with_reducible refine Below.setCell ?_ ?_ _) | go_size))⟩
              | false =>
                have e3 : (p.op.toList == [108, 101, 110]) = false := by rw [toList_L]; exact hol
                have HE : Hid (r = (!pc && (ob && (!(L p.text == [35]) && wr)))) := Lib.hid (by rw [HR.out, hoe, hol]; rfl)
                clear hoe hol
                cases h37 : (L p.op == [37]) with
                | false =>
                  have e4 : (p.op.toList == [37]) = false := by rw [toList_L]; exact h37
                  have HE3 : Hid (r = (ob && (!(L p.text == [35]) && wr))) := Lib.hid (by rw [HE.out, ← HPC.out, show pctB p = false from by rw [pctB, h37]; rfl]; rfl)
                  clear h37
                  go_wp2_with fail
                  refine (COp.out _ (by repeat' (first | (with_reducible assumption) | (with_reducible exact Below.refl _ _) | (with_reducible refine below_drewN ?_ _) | (with_reducible refine below_bytes ?_ ?_ _) | (with_reducible refine Below.alloc ?_ ?_ _) | (with_reducible refine Below.drew ?_) | (with_reducible refine Below.setCell ?_ ?_ _) | go_size))).mono ?_
                  rintro e w5 ⟨rfl, hb0⟩
                  have hBw5 : Below w.heap.size w w5 := since hb0 (by repeat' (first | (with_reducible assumption) | (with_reducible exact Below.refl _ _) | (with_reducible refine below_drewN ?_ _) | (with_reducible refine below_bytes ?_ ?_ _) | (with_reducible refine Below.alloc ?_ ?_ _) | (with_reducible refine Below.drew ?_) | (with_reducible refine Below.setCell ?_ ?_ _) | go_size))
                  have BKw5 := Lib.hid (Bk.later BK2.out (since hb0 (by repeat' (first | (with_reducible assumption) | (with_reducible exact Below.refl _ _) | (with_reducible refine below_drewN ?_ _) | (with_reducible refine below_bytes ?_ ?_ _) | (with_reducible refine Below.alloc ?_ ?_ _) | (with_reducible refine Below.drew ?_) | (with_reducible refine Below.setCell ?_ ?_ _) | go_size))))
                  clear hb0
                  have K1BKw5 := Lib.hid BKw5.out.b
                  have hBBKw5 := BKw5.out.hb
                  have p0 := K1BKw5.out.cell 0
                  have p1 := K1BKw5.out.cell 1
                  have p2 := K1BKw5.out.cell 2
                  have p3 := K1BKw5.out.cell 3
                  have p4 := K1BKw5.out.cell 4
                  have p5 := K1BKw5.out.cell 5
                  have pl := K1BKw5.out.lt
                  simp at p0 p1 p2 p3 p4 p5
                  cases ob with
                  | false =>
                    go_wp2_with fail
                    go_ret
                    exact ⟨ret_bool HE3.out.symm, (by repeat' (first | (with_reducible assumption) | (with_reducible exact Below.refl _ _) | (with_reducible refine below_drewN ?_ _) | (with_reducible refine below_bytes ?_ ?_ _) | (with_reducible refine Below.alloc ?_ ?_ _) | (with_reducible refine Below.drew ?_) | (with_reducible refine Below.setCell ?_ ?_ _) | go_size))⟩
                  | true =>
                    cases h35 : (L p.text == [35]) with
                    | true =>
                      have e5 : (p.text.toList == [35]) = true := by rw [toList_L]; exact h35
                      rw [h35] at HE3
                      clear h35
                      go_wp2_with fail
                      go_ret
                      exact ⟨ret_bool HE3.out.symm, (by repeat' (first | (with_reducible assumption) | (with_reducible exact Below.refl _ _) | (with_reducible refine below_drewN ?_ _) | (with_reducible refine below_bytes ?_ ?_ _) | (with_reducible refine Below.alloc ?_ ?_ _) | (with_reducible refine Below.drew ?_) | (with_reducible refine Below.setCell ?_ ?_ _) | go_size))⟩
                    | false =>
                      have e5 : (p.text.toList == [35]) = false := by rw [toList_L]; exact h35
                      rw [h35] at HE3
                      clear h35
                      go_wp2_with fail
                      refine (CW.out _ (by repeat' (first | (with_reducible assumption) | (with_reducible exact Below.refl _ _) | (with_reducible refine below_drewN ?_ _) | (with_reducible refine below_bytes ?_ ?_ _) | (with_reducible refine Below.alloc ?_ ?_ _) | (with_reducible refine Below.drew ?_) | (with_reducible refine Below.setCell ?_ ?_ _) | go_size))).mono ?_
                      rintro e w6 ⟨rfl, hb0⟩
                      have hBw6 : Below w.heap.size w w6 := since hb0 (by repeat' (first | (with_reducible assumption) | (with_reducible exact Below.refl _ _) | (with_reducible refine below_drewN ?_ _) | (with_reducible refine below_bytes ?_ ?_ _) | (with_reducible refine Below.alloc ?_ ?_ _) | (with_reducible refine Below.drew ?_) | (with_reducible refine Below.setCell ?_ ?_ _) | go_size))
                      have BKw6 := Lib.hid (Bk.later BKw5.out (since hb0 (by repeat' (first | (with_reducible assumption) | (with_reducible exact Below.refl _ _) | (with_reducible refine below_drewN ?_ _) | (with_reducible refine below_bytes ?_ ?_ _) | (with_reducible refine Below.alloc ?_ ?_ _) | (with_reducible refine Below.drew ?_) | (with_reducible refine Below.setCell ?_ ?_ _) | go_size))))
                      clear hb0
                      go_wp2_with fail
                      go_ret
                      exact ⟨ret_bool HE3.out.symm, (by repeat' (first | (with_reducible assumption) | (with_reducible exact Below.refl _ _) | (with_reducible refine below_drewN ?_ _) | (with_reducible refine below_bytes ?_ ?_ _) | (with_reducible refine Below.alloc ?_ ?_ _) | (with_reducible refine Below.drew ?_) | (with_reducible refine Below.setCell ?_ ?_ _) | go_size))⟩
                | true =>
                  have e4 : (p.op.toList == [37]) = true := by rw [toList_L]; exact h37
                  rcases Nat.eq_zero_or_pos lw with h0 | h0
                  · subst h0
                    have hwn : p.word = [] := List.length_eq_zero_iff.1 HLW.out
                    have HE3 : Hid (r = (ob && (!(L p.text == [35]) && wr))) := Lib.hid (by rw [HE.out, ← HPC.out, show pctB p = false from by rw [pctB, h37, hwn]; rfl]; rfl)
                    clear h37 hwn
                    go_wp2_with fail
                    refine (COp.out _ (by repeat' (first | (with_reducible assumption) | (with_reducible exact Below.refl _ _) | (with_reducible refine below_drewN ?_ _) | (with_reducible refine below_bytes ?_ ?_ _) | (with_reducible refine Below.alloc ?_ ?_ _) | (with_reducible refine Below.drew ?_) | (with_reducible refine Below.setCell ?_ ?_ _) | go_size))).mono ?_
                    rintro e w5 ⟨rfl, hb0⟩
                    have hBw5 : Below w.heap.size w w5 := since hb0 (by repeat' (first | (with_reducible assumption) | (with_reducible exact Below.refl _ _) | (with_reducible refine below_drewN ?_ _) | (with_reducible refine below_bytes ?_ ?_ _) | (with_reducible refine Below.alloc ?_ ?_ _) | (with_reducible refine Below.drew ?_) | (with_reducible refine Below.setCell ?_ ?_ _) | go_size))
                    have BKw5 := Lib.hid (Bk.later BK2.out (since hb0 (by repeat' (first | (with_reducible assumption) | (with_reducible exact Below.refl _ _) | (with_reducible refine below_drewN ?_ _) | (with_reducible refine below_bytes ?_ ?_ _) | (with_reducible refine Below.alloc ?_ ?_ _) | (with_reducible refine Below.drew ?_) | (with_reducible refine Below.setCell ?_ ?_ _) | go_size))))
                    clear hb0
                    have K1BKw5 := Lib.hid BKw5.out.b
                    have hBBKw5 := BKw5.out.hb
                    have p0 := K1BKw5.out.cell 0
                    have p1 := K1BKw5.out.cell 1
                    have p2 := K1BKw5.out.cell 2
                    have p3 := K1BKw5.out.cell 3
                    have p4 := K1BKw5.out.cell 4
                    have p5 := K1BKw5.out.cell 5
                    have pl := K1BKw5.out.lt
                    simp at p0 p1 p2 p3 p4 p5
                    cases ob with
                    | false =>
                      go_wp2_with fail
                      go_ret
                      exact ⟨ret_bool HE3.out.symm, (by repeat' (first | (with_reducible assumption) | (with_reducible exact Below.refl _ _) | (with_reducible refine below_drewN ?_ _) | (with_reducible refine below_bytes ?_ ?_ _) | (with_reducible refine Below.alloc ?_ ?_ _) | (with_reducible refine Below.drew ?_) | (with_reducible refine Below.setCell ?_ ?_ _) | go_size))⟩
                    | true =>
                      cases h35 : (L p.text == [35]) with
                      | true =>
                        have e5 : (p.text.toList == [35]) = true := by rw [toList_L]; exact h35
                        rw [h35] at HE3
                        clear h35
                        go_wp2_with fail
                        go_ret
                        exact ⟨ret_bool HE3.out.symm, (by repeat' (first | (with_reducible assumption) | (with_reducible exact Below.refl _ _) | (with_reducible refine below_drewN ?_ _) | (with_reducible refine below_bytes ?_ ?_ _) | (with_reducible refine Below.alloc ?_ ?_ _) | (with_reducible refine Below.drew ?_) | (with_reducible refine Below.setCell ?_ ?_ _) | go_size))⟩
                      | false =>
                        have e5 : (p.text.toList == [35]) = false := by rw [toList_L]; exact h35
                        rw [h35] at HE3
                        clear h35
                        go_wp2_with fail
                        refine (CW.out _ (by repeat' (first | (with_reducible assumption) | (with_reducible exact Below.refl _ _) | (with_reducible refine below_drewN ?_ _) | (with_reducible refine below_bytes ?_ ?_ _) | (with_reducible refine Below.alloc ?_ ?_ _) | (with_reducible refine Below.drew ?_) | (with_reducible refine Below.setCell ?_ ?_ _) | go_size))).mono ?_
                        rintro e w6 ⟨rfl, hb0⟩
                        have hBw6 : Below w.heap.size w w6 := since hb0 (by repeat' (first | (with_reducible assumption) | (with_reducible exact Below.refl _ _) | (with_reducible refine below_drewN ?_ _) | (with_reducible refine below_bytes ?_ ?_ _) | (with_reducible refine Below.alloc ?_ ?_ _) | (with_reducible refine Below.drew ?_) | (with_reducible refine Below.setCell ?_ ?_ _) | go_size))
                        have BKw6 := Lib.hid (Bk.later BKw5.out (since hb0 (by repeat' (first | (with_reducible assumption) | (with_reducible exact Below.refl _ _) | (with_reducible refine below_drewN ?_ _) | (with_reducible refine below_bytes ?_ ?_ _) | (with_reducible refine Below.alloc ?_ ?_ _) | (with_reducible refine Below.drew ?_) | (with_reducible refine Below.setCell ?_ ?_ _) | go_size))))
                        clear hb0
                        go_wp2_with fail
                        go_ret
                        exact ⟨ret_bool HE3.out.symm, (by repeat' (first | (with_reducible assumption) | (with_reducible exact Below.refl _ _) | (with_reducible refine below_drewN ?_ _) | (with_reducible refine below_bytes ?_ ?_ _) | (with_reducible refine Below.alloc ?_ ?_ _) | (with_reducible refine Below.drew ?_) | (with_reducible refine Below.setCell ?_ ?_ _) | go_size))⟩
                  · obtain ⟨x, b, o, ⟨xr, hx⟩, hxt, hi, hbB, g0, g1, g2⟩ := HW.out.first14 (by rw [HLW.out]; exact h0)
                    have hbB2 := Nat.lt_of_lt_of_le hbB hBBK2.size
                    have hp0 : pctB p = (x.kind == 1 && !x.quoted && List.isPrefixOf [37] (L x.text)) := by rw [pctB, h37, hx]; rfl
                    have HP0 := Lib.hid hp0
                    rw [← hBBK2.cell (p := ⟨b, o, none⟩) hbB] at g0
                    rw [← hBBK2.cell (p := ⟨b, o + 1, none⟩) hbB] at g1
                    rw [← hBBK2.cell (p := ⟨b, o + 2, none⟩) hbB] at g2
                    obtain ⟨xk2, hxk⟩ : ∃ k, x.kind = k := ⟨_, rfl⟩
                    obtain ⟨xq, hxq⟩ : ∃ k, x.quoted = k := ⟨_, rfl⟩
                    obtain ⟨xt, hxt2⟩ : ∃ k, x.text = k := ⟨_, rfl⟩
                    rw [hxk] at g0 HP0
                    rw [hxq] at g1 HP0
                    rw [hxt2] at g2 HP0 hxt
                    have hlt : decide ((0 : Int) < (lw : Int)) = true := by simp; omega
                    clear h37 hp0 hx hxk hxq hxt2
                    cases hk5 : (xk2 == 1) with
                    | false =>
                      rw [hk5, Bool.false_and, Bool.false_and] at HP0
                      have HE3 : Hid (r = (ob && (!(L p.text == [35]) && wr))) := Lib.hid (by rw [HE.out, ← HPC.out, show pctB p = false from HP0.out]; rfl)
                      skip
                      go_wp2_with fail
                      refine (COp.out _ (by repeat' (first | (with_reducible assumption) | (with_reducible exact Below.refl _ _) | (with_reducible refine below_drewN ?_ _) | (with_reducible refine below_bytes ?_ ?_ _) | (with_reducible refine Below.alloc ?_ ?_ _) | (with_reducible refine Below.drew ?_) | (with_reducible refine Below.setCell ?_ ?_ _) | go_size))).mono ?_
                      rintro e w5 ⟨rfl, hb0⟩
                      have hBw5 : Below w.heap.size w w5 := since hb0 (by repeat' (first | (with_reducible assumption) | (with_reducible exact Below.refl _ _) | (with_reducible refine below_drewN ?_ _) | (with_reducible refine below_bytes ?_ ?_ _) | (with_reducible refine Below.alloc ?_ ?_ _) | (with_reducible refine Below.drew ?_) | (with_reducible refine Below.setCell ?_ ?_ _) | go_size))
                      have BKw5 := Lib.hid (Bk.later BK2.out (since hb0 (by repeat' (first | (with_reducible assumption) | (with_reducible exact Below.refl _ _) | (with_reducible refine below_drewN ?_ _) | (with_reducible refine below_bytes ?_ ?_ _) | (with_reducible refine Below.alloc ?_ ?_ _) | (with_reducible refine Below.drew ?_) | (with_reducible refine Below.setCell ?_ ?_ _) | go_size))))
                      clear hb0
                      have K1BKw5 := Lib.hid BKw5.out.b
                      have hBBKw5 := BKw5.out.hb
                      have p0 := K1BKw5.out.cell 0
                      have p1 := K1BKw5.out.cell 1
                      have p2 := K1BKw5.out.cell 2
                      have p3 := K1BKw5.out.cell 3
                      have p4 := K1BKw5.out.cell 4
                      have p5 := K1BKw5.out.cell 5
                      have pl := K1BKw5.out.lt
                      simp at p0 p1 p2 p3 p4 p5
                      cases ob with
                      | false =>
                        go_wp2_with fail
                        go_ret
                        exact ⟨ret_bool HE3.out.symm, (by repeat' (first | (with_reducible assumption) | (with_reducible exact Below.refl _ _) | (with_reducible refine below_drewN ?_ _) | (with_reducible refine below_bytes ?_ ?_ _) | (with_reducible refine Below.alloc ?_ ?_ _) | (with_reducible refine Below.drew ?_) | (with_reducible refine Below.setCell ?_ ?_ _) | go_size))⟩
                      | true =>
                        cases h35 : (L p.text == [35]) with
                        | true =>
                          have e5 : (p.text.toList == [35]) = true := by rw [toList_L]; exact h35
                          rw [h35] at HE3
                          clear h35
                          go_wp2_with fail
                          go_ret
                          exact ⟨ret_bool HE3.out.symm, (by repeat' (first | (with_reducible assumption) | (with_reducible exact Below.refl _ _) | (with_reducible refine below_drewN ?_ _) | (with_reducible refine below_bytes ?_ ?_ _) | (with_reducible refine Below.alloc ?_ ?_ _) | (with_reducible refine Below.drew ?_) | (with_reducible refine Below.setCell ?_ ?_ _) | go_size))⟩
                        | false =>
                          have e5 : (p.text.toList == [35]) = false := by rw [toList_L]; exact h35
                          rw [h35] at HE3
                          clear h35
                          go_wp2_with fail
                          refine (CW.out _ (by repeat' (first | (with_reducible assumption) | (with_reducible exact Below.refl _ _) | (with_reducible refine below_drewN ?_ _) | (with_reducible refine below_bytes ?_ ?_ _) | (with_reducible refine Below.alloc ?_ ?_ _) | (with_reducible refine Below.drew ?_) | (with_reducible refine Below.setCell ?_ ?_ _) | go_size))).mono ?_
                          rintro e w6 ⟨rfl, hb0⟩
                          have hBw6 : Below w.heap.size w w6 := since hb0 (by repeat' (first | (with_reducible assumption) | (with_reducible exact Below.refl _ _) | (with_reducible refine below_drewN ?_ _) | (with_reducible refine below_bytes ?_ ?_ _) | (with_reducible refine Below.alloc ?_ ?_ _) | (with_reducible refine Below.drew ?_) | (with_reducible refine Below.setCell ?_ ?_ _) | go_size))
                          have BKw6 := Lib.hid (Bk.later BKw5.out (since hb0 (by repeat' (first | (with_reducible assumption) | (with_reducible exact Below.refl _ _) | (with_reducible refine below_drewN ?_ _) | (with_reducible refine below_bytes ?_ ?_ _) | (with_reducible refine Below.alloc ?_ ?_ _) | (with_reducible refine Below.drew ?_) | (with_reducible refine Below.setCell ?_ ?_ _) | go_size))))
                          clear hb0
                          go_wp2_with fail
                          go_ret
                          exact ⟨ret_bool HE3.out.symm, (by repeat' (first | (with_reducible assumption) | (with_reducible exact Below.refl _ _) | (with_reducible refine below_drewN ?_ _) | (with_reducible refine below_bytes ?_ ?_ _) | (with_reducible refine Below.alloc ?_ ?_ _) | (with_reducible refine Below.drew ?_) | (with_reducible refine Below.setCell ?_ ?_ _) | go_size))⟩
                    | true =>
                      rw [hk5, Bool.true_and] at HP0
                      cases xq with
                      | true =>
                        rw [Bool.not_true, Bool.false_and] at HP0
                        have HE3 : Hid (r = (ob && (!(L p.text == [35]) && wr))) := Lib.hid (by rw [HE.out, ← HPC.out, show pctB p = false from HP0.out]; rfl)
                        skip
                        go_wp2_with fail
                        refine (COp.out _ (by repeat' (first | (with_reducible assumption) | (with_reducible exact Below.refl _ _) | (with_reducible refine below_drewN ?_ _) | (with_reducible refine below_bytes ?_ ?_ _) | (with_reducible refine Below.alloc ?_ ?_ _) | (with_reducible refine Below.drew ?_) | (with_reducible refine Below.setCell ?_ ?_ _) | go_size))).mono ?_
                        rintro e w5 ⟨rfl, hb0⟩
                        have hBw5 : Below w.heap.size w w5 := since hb0 (by repeat' (first | (with_reducible assumption) | (with_reducible exact Below.refl _ _) | (with_reducible refine below_drewN ?_ _) | (with_reducible refine below_bytes ?_ ?_ _) | (with_reducible refine Below.alloc ?_ ?_ _) | (with_reducible refine Below.drew ?_) | (with_reducible refine Below.setCell ?_ ?_ _) | go_size))
                        have BKw5 := Lib.hid (Bk.later BK2.out (since hb0 (by repeat' (first | (with_reducible assumption) | (with_reducible exact Below.refl _ _) | (with_reducible refine below_drewN ?_ _) | (with_reducible refine below_bytes ?_ ?_ _) | (with_reducible refine Below.alloc ?_ ?_ _) | (with_reducible refine Below.drew ?_) | (with_reducible refine Below.setCell ?_ ?_ _) | go_size))))
                        clear hb0
                        have K1BKw5 := Lib.hid BKw5.out.b
                        have hBBKw5 := BKw5.out.hb
                        have p0 := K1BKw5.out.cell 0
                        have p1 := K1BKw5.out.cell 1
                        have p2 := K1BKw5.out.cell 2
                        have p3 := K1BKw5.out.cell 3
                        have p4 := K1BKw5.out.cell 4
                        have p5 := K1BKw5.out.cell 5
                        have pl := K1BKw5.out.lt
                        simp at p0 p1 p2 p3 p4 p5
                        cases ob with
                        | false =>
                          go_wp2_with fail
                          go_ret
                          exact ⟨ret_bool HE3.out.symm, (by repeat' (first | (with_reducible assumption) | (with_reducible exact Below.refl _ _) | (with_reducible refine below_drewN ?_ _) | (with_reducible refine below_bytes ?_ ?_ _) | (with_reducible refine Below.alloc ?_ ?_ _) | (with_reducible refine Below.drew ?_) | (with_reducible refine Below.setCell ?_ ?_ _) | go_size))⟩
                        | true =>
                          cases h35 : (L p.text == [35]) with
                          | true =>
                            have e5 : (p.text.toList == [35]) = true := by rw [toList_L]; exact h35
                            rw [h35] at HE3
                            clear h35
                            go_wp2_with fail
                            go_ret
                            exact ⟨ret_bool HE3.out.symm, (by repeat' (first | (with_reducible assumption) | (with_reducible exact Below.refl _ _) | (with_reducible refine below_drewN ?_ _) | (with_reducible refine below_bytes ?_ ?_ _) | (with_reducible refine Below.alloc ?_ ?_ _) | (with_reducible refine Below.drew ?_) | (with_reducible refine Below.setCell ?_ ?_ _) | go_size))⟩
                          | false =>
                            have e5 : (p.text.toList == [35]) = false := by rw [toList_L]; exact h35
                            rw [h35] at HE3
                            clear h35
                            go_wp2_with fail
                            refine (CW.out _ (by repeat' (first | (with_reducible assumption) | (with_reducible exact Below.refl _ _) | (with_reducible refine below_drewN ?_ _) | (with_reducible refine below_bytes ?_ ?_ _) | (with_reducible refine Below.alloc ?_ ?_ _) | (with_reducible refine Below.drew ?_) | (with_reducible refine Below.setCell ?_ ?_ _) | go_size))).mono ?_
                            rintro e w6 ⟨rfl, hb0⟩
                            have hBw6 : Below w.heap.size w w6 := since hb0 (by repeat' (first | (with_reducible assumption) | (with_reducible exact Below.refl _ _) | (with_reducible refine below_drewN ?_ _) | (with_reducible refine below_bytes ?_ ?_ _) | (with_reducible refine Below.alloc ?_ ?_ _) | (with_reducible refine Below.drew ?_) | (with_reducible refine Below.setCell ?_ ?_ _) | go_size))
                            have BKw6 := Lib.hid (Bk.later BKw5.out (since hb0 (by repeat' (first | (with_reducible assumption) | (with_reducible exact Below.refl _ _) | (with_reducible refine below_drewN ?_ _) | (with_reducible refine below_bytes ?_ ?_ _) | (with_reducible refine Below.alloc ?_ ?_ _) | (with_reducible refine Below.drew ?_) | (with_reducible refine Below.setCell ?_ ?_ _) | go_size))))
                            clear hb0
                            go_wp2_with fail
                            go_ret
                            exact ⟨ret_bool HE3.out.symm, (by repeat' (first | (with_reducible assumption) | (with_reducible exact Below.refl _ _) | (with_reducible refine below_drewN ?_ _) | (with_reducible refine below_bytes ?_ ?_ _) | (with_reducible refine Below.alloc ?_ ?_ _) | (with_reducible refine Below.drew ?_) | (with_reducible refine Below.setCell ?_ ?_ _) | go_size))⟩
                      | false =>
                        rw [Bool.not_false, Bool.true_and] at HP0
                        cases hxe : (L xt) with
                        | nil =>
                          have e6 : xt.toList.isEmpty = true := by rw [isEmpty_L, hxe]; rfl
                          rw [hxe] at HP0
                          have HE3 : Hid (r = (ob && (!(L p.text == [35]) && wr))) := Lib.hid (by rw [HE.out, ← HPC.out, show pctB p = false from HP0.out]; rfl)
                          clear hxe
                          go_wp2_with fail
                          refine (COp.out _ (by repeat' (first | (with_reducible assumption) | (with_reducible exact Below.refl _ _) | (with_reducible refine below_drewN ?_ _) | (with_reducible refine below_bytes ?_ ?_ _) | (with_reducible refine Below.alloc ?_ ?_ _) | (with_reducible refine Below.drew ?_) | (with_reducible refine Below.setCell ?_ ?_ _) | go_size))).mono ?_
                          rintro e w5 ⟨rfl, hb0⟩
                          have hBw5 : Below w.heap.size w w5 := since hb0 (by repeat' (first | (with_reducible assumption) | (with_reducible exact Below.refl _ _) | (with_reducible refine below_drewN ?_ _) | (with_reducible refine below_bytes ?_ ?_ _) | (with_reducible refine Below.alloc ?_ ?_ _) | (with_reducible refine Below.drew ?_) | (with_reducible refine Below.setCell ?_ ?_ _) | go_size))
                          have BKw5 := Lib.hid (Bk.later BK2.out (since hb0 (by repeat' (first | (with_reducible assumption) | (with_reducible exact Below.refl _ _) | (with_reducible refine below_drewN ?_ _) | (with_reducible refine below_bytes ?_ ?_ _) | (with_reducible refine Below.alloc ?_ ?_ _) | (with_reducible refine Below.drew ?_) | (with_reducible refine Below.setCell ?_ ?_ _) | go_size))))
                          clear hb0
                          have K1BKw5 := Lib.hid BKw5.out.b
                          have hBBKw5 := BKw5.out.hb
                          have p0 := K1BKw5.out.cell 0
                          have p1 := K1BKw5.out.cell 1
                          have p2 := K1BKw5.out.cell 2
                          have p3 := K1BKw5.out.cell 3
                          have p4 := K1BKw5.out.cell 4
                          have p5 := K1BKw5.out.cell 5
                          have pl := K1BKw5.out.lt
                          simp at p0 p1 p2 p3 p4 p5
                          cases ob with
                          | false =>
                            go_wp2_with fail
                            go_ret
                            exact ⟨ret_bool HE3.out.symm, (by repeat' (first | (with_reducible assumption) | (with_reducible exact Below.refl _ _) | (with_reducible refine below_drewN ?_ _) | (with_reducible refine below_bytes ?_ ?_ _) | (with_reducible refine Below.alloc ?_ ?_ _) | (with_reducible refine Below.drew ?_) | (with_reducible refine Below.setCell ?_ ?_ _) | go_size))⟩
                          | true =>
                            cases h35 : (L p.text == [35]) with
                            | true =>
                              have e5 : (p.text.toList == [35]) = true := by rw [toList_L]; exact h35
                              rw [h35] at HE3
                              clear h35
                              go_wp2_with fail
                              go_ret
                              exact ⟨ret_bool HE3.out.symm, (by repeat' (first | (with_reducible assumption) | (with_reducible exact Below.refl _ _) | (with_reducible refine below_drewN ?_ _) | (with_reducible refine below_bytes ?_ ?_ _) | (with_reducible refine Below.alloc ?_ ?_ _) | (with_reducible refine Below.drew ?_) | (with_reducible refine Below.setCell ?_ ?_ _) | go_size))⟩
                            | false =>
                              have e5 : (p.text.toList == [35]) = false := by rw [toList_L]; exact h35
                              rw [h35] at HE3
                              clear h35
                              go_wp2_with fail
                              refine (CW.out _ (by repeat' (first | (with_reducible assumption) | (with_reducible exact Below.refl _ _) | (with_reducible refine below_drewN ?_ _) | (with_reducible refine below_bytes ?_ ?_ _) | (with_reducible refine Below.alloc ?_ ?_ _) | (with_reducible refine Below.drew ?_) | (with_reducible refine Below.setCell ?_ ?_ _) | go_size))).mono ?_
                              rintro e w6 ⟨rfl, hb0⟩
                              have hBw6 : Below w.heap.size w w6 := since hb0 (by repeat' (first | (with_reducible assumption) | (with_reducible exact Below.refl _ _) | (with_reducible refine below_drewN ?_ _) | (with_reducible refine below_bytes ?_ ?_ _) | (with_reducible refine Below.alloc ?_ ?_ _) | (with_reducible refine Below.drew ?_) | (with_reducible refine Below.setCell ?_ ?_ _) | go_size))
                              have BKw6 := Lib.hid (Bk.later BKw5.out (since hb0 (by repeat' (first | (with_reducible assumption) | (with_reducible exact Below.refl _ _) | (with_reducible refine below_drewN ?_ _) | (with_reducible refine below_bytes ?_ ?_ _) | (with_reducible refine Below.alloc ?_ ?_ _) | (with_reducible refine Below.drew ?_) | (with_reducible refine Below.setCell ?_ ?_ _) | go_size))))
                              clear hb0
                              go_wp2_with fail
                              go_ret
                              exact ⟨ret_bool HE3.out.symm, (by repeat' (first | (with_reducible assumption) | (with_reducible exact Below.refl _ _) | (with_reducible refine below_drewN ?_ _) | (with_reducible refine below_bytes ?_ ?_ _) | (with_reducible refine Below.alloc ?_ ?_ _) | (with_reducible refine Below.drew ?_) | (with_reducible refine Below.setCell ?_ ?_ _) | go_size))⟩
                        | cons c0 cr =>
                          have e6 : xt.toList.isEmpty = false := by rw [isEmpty_L, hxe]; rfl
                          have hsz : 0 < xt.size := by rw [← L_size, hxe]; simp
                          have hidx := run_idx (P := Tryz.prog) Tryz.underlying9 xt (k := .i64) (0 : Int) 0 rfl hsz
                          rw [show (L xt).getD 0 0 = c0 by rw [hxe]; rfl] at hidx
                          have hpp : List.isPrefixOf [37] (L xt) = (37 == c0) := by rw [hxe]; simp [List.isPrefixOf]
                          rw [hpp] at HP0
                          clear hxe hpp
                          by_cases hc0 : c0 = 37
                          · have e7 : (((c0.toNat : Nat) : Int) == 37) = true := eq_byte hc0
                            have HE3 : Hid (r = false) := Lib.hid (by rw [HE.out, ← HPC.out, HP0.out, hc0]; rfl)
                            clear hc0
                            go_wp2_with fail
                            go_ret
                            exact ⟨ret_bool HE3.out.symm, (by repeat' (first | (with_reducible assumption) | (with_reducible exact Below.refl _ _) | (with_reducible refine below_drewN ?_ _) | (with_reducible refine below_bytes ?_ ?_ _) | (with_reducible refine Below.alloc ?_ ?_ _) | (with_reducible refine Below.drew ?_) | (with_reducible refine Below.setCell ?_ ?_ _) | go_size))⟩
                          · have e7 : (((c0.toNat : Nat) : Int) == 37) = false := ne_byte hc0
                            have HP1 : Hid (pctB p = false) := Lib.hid (by rw [HP0.out, beq_eq_false_iff_ne]; exact fun e => hc0 e.symm)
                            clear hc0
                            have HE3 : Hid (r = (ob && (!(L p.text == [35]) && wr))) := Lib.hid (by rw [HE.out, ← HPC.out, show pctB p = false from HP1.out]; rfl)
                            skip
                            go_wp2_with fail
                            refine (COp.out _ (by repeat' (first | (with_reducible assumption) | (with_reducible exact Below.refl _ _) | (with_reducible refine below_drewN ?_ _) | (with_reducible refine below_bytes ?_ ?_ _) | (with_reducible refine Below.alloc ?_ ?_ _) | (with_reducible refine Below.drew ?_) | (with_reducible refine Below.setCell ?_ ?_ _) | go_size))).mono ?_
                            rintro e w5 ⟨rfl, hb0⟩
                            have hBw5 : Below w.heap.size w w5 := since hb0 (by repeat' (first | (with_reducible assumption) | (with_reducible exact Below.refl _ _) | (with_reducible refine below_drewN ?_ _) | (with_reducible refine below_bytes ?_ ?_ _) | (with_reducible refine Below.alloc ?_ ?_ _) | (with_reducible refine Below.drew ?_) | (with_reducible refine Below.setCell ?_ ?_ _) | go_size))
                            have BKw5 := Lib.hid (Bk.later BK2.out (since hb0 (by repeat' (first | (with_reducible assumption) | (with_reducible exact Below.refl _ _) | (with_reducible refine below_drewN ?_ _) | (with_reducible refine below_bytes ?_ ?_ _) | (with_reducible refine Below.alloc ?_ ?_ _) | (with_reducible refine Below.drew ?_) | (with_reducible refine Below.setCell ?_ ?_ _) | go_size))))
                            clear hb0
                            have K1BKw5 := Lib.hid BKw5.out.b
                            have hBBKw5 := BKw5.out.hb
                            have p0 := K1BKw5.out.cell 0
                            have p1 := K1BKw5.out.cell 1
                            have p2 := K1BKw5.out.cell 2
                            have p3 := K1BKw5.out.cell 3
                            have p4 := K1BKw5.out.cell 4
                            have p5 := K1BKw5.out.cell 5
                            have pl := K1BKw5.out.lt
                            simp at p0 p1 p2 p3 p4 p5
                            cases ob with
                            | false =>
                              go_wp2_with fail
                              go_ret
                              exact ⟨ret_bool HE3.out.symm, (by repeat' (first | (with_reducible assumption) | (with_reducible exact Below.refl _ _) | (with_reducible refine below_drewN ?_ _) | (with_reducible refine below_bytes ?_ ?_ _) | (with_reducible refine Below.alloc ?_ ?_ _) | (with_reducible refine Below.drew ?_) | (with_reducible refine Below.setCell ?_ ?_ _) | go_size))⟩
                            | true =>
                              cases h35 : (L p.text == [35]) with
                              | true =>
                                have e5 : (p.text.toList == [35]) = true := by rw [toList_L]; exact h35
                                rw [h35] at HE3
                                clear h35
                                go_wp2_with fail
                                go_ret
                                exact ⟨ret_bool HE3.out.symm, (by repeat' (first | (with_reducible assumption) | (with_reducible exact Below.refl _ _) | (with_reducible refine below_drewN ?_ _) | (with_reducible refine below_bytes ?_ ?_ _) | (with_reducible refine Below.alloc ?_ ?_ _) | (with_reducible refine Below.drew ?_) | (with_reducible refine Below.setCell ?_ ?_ _) | go_size))⟩
                              | false =>
                                have e5 : (p.text.toList == [35]) = false := by rw [toList_L]; exact h35
                                rw [h35] at HE3
                                clear h35
                                go_wp2_with fail
                                refine (CW.out _ (by repeat' (first | (with_reducible assumption) | (with_reducible exact Below.refl _ _) | (with_reducible refine below_drewN ?_ _) | (with_reducible refine below_bytes ?_ ?_ _) | (with_reducible refine Below.alloc ?_ ?_ _) | (with_reducible refine Below.drew ?_) | (with_reducible refine Below.setCell ?_ ?_ _) | go_size))).mono ?_
                                rintro e w6 ⟨rfl, hb0⟩
                                have hBw6 : Below w.heap.size w w6 := since hb0 (by repeat' (first | (with_reducible assumption) | (with_reducible exact Below.refl _ _) | (with_reducible refine below_drewN ?_ _) | (with_reducible refine below_bytes ?_ ?_ _) | (with_reducible refine Below.alloc ?_ ?_ _) | (with_reducible refine Below.drew ?_) | (with_reducible refine Below.setCell ?_ ?_ _) | go_size))
                                have BKw6 := Lib.hid (Bk.later BKw5.out (since hb0 (by repeat' (first | (with_reducible assumption) | (with_reducible exact Below.refl _ _) | (with_reducible refine below_drewN ?_ _) | (with_reducible refine below_bytes ?_ ?_ _) | (with_reducible refine Below.alloc ?_ ?_ _) | (with_reducible refine Below.drew ?_) | (with_reducible refine Below.setCell ?_ ?_ _) | go_size))))
                                clear hb0
                                go_wp2_with fail
                                go_ret
                                exact ⟨ret_bool HE3.out.symm, (by repeat' (first | (with_reducible assumption) | (with_reducible exact Below.refl _ _) | (with_reducible refine below_drewN ?_ _) | (with_reducible refine below_bytes ?_ ?_ _) | (with_reducible refine Below.alloc ?_ ?_ _) | (with_reducible refine Below.drew ?_) | (with_reducible refine Below.setCell ?_ ?_ _) | go_size))⟩
end Go.Proofs.YtnackmnoldkihaaGreatDoor
/-
  The document's side: a word; a list; first; alone; simple.
-/
namespace Go.Proofs.YtnackmnoldkihaaGreatDoor
open Go.RowKit

set_option maxHeartbeats 4000000 in
set_option maxRecDepth 100000 in
theorem rword_any (level deep : Int) (pt : Pt → Bool) (hpt : ∀ (W : World) (x : Pt) (d : Nat) (c : List Value), PtC W W.heap.size d x c → Calls Tryz.prog 71 #[.agg c.toArray, .int .i64 level, .int .i64 deep] W fun e w' => e = .returned (.bool (pt x)) ∧ Below W.heap.size W w') :
    RWordAt level deep (partsB (fun q x => pt x && !confB q x) none) := by
  intro w l v d sm hl
  obtain ⟨d, hl⟩ := hl.up
  obtain ⟨a, cap, rfl, hz⟩ := hl.len
  obtain ⟨n, hn⟩ : ∃ n, l.length = n := ⟨_, rfl⟩
  rw [hn] at hl hz ⊢
  have HL := Lib.hid hl
  have HN := Lib.hid hn
  have HPT := Lib.hid hpt
  have HE := Lib.hid (nil_of hn)
  have ELT := Lib.hid (nil_lt hn)
  clear hl hn hpt
  go_enter Tryz.func55, Tryz.ntmps55
  go_wp2_with fail
  go_loopw [9] (fun i W => ∃ k : Nat, k ≤ n ∧ i = .int .i64 k ∧ partsTo (fun q x => pt x && !confB q x) l k ∧ Below w.heap.size w W) (fun i _ => n - (intOf i).toNat)
  case atStart => exact ⟨0, Nat.zero_le _, rfl, rfl, Below.refl _ _⟩
  case round =>
    obtain ⟨k, hk, rfl, hto, hB⟩ := hrel
    have HTO := Lib.hid hto
    clear hto
    by_cases hlt : k < n
    · obtain ⟨x, hx⟩ : ∃ x, l[k]? = .some x := ⟨_, List.getElem?_eq_getElem (by rw [HN.out]; exact hlt)⟩
      have HX := Lib.hid hx
      obtain ⟨b, o, c, hi, hbB, hce, hC, _⟩ := HL.out.at 41 72 Tryz.underlying41 (by kernel_rfl) hx
      have HC := Lib.hid hC
      obtain ⟨a1, c1, a2, c2, rfl, _⟩ := hC.open
      have CP : Hid (∀ W, Below w.heap.size w W → _) := Lib.hid fun W (hW : Below w.heap.size w W) => HPT.out W x d _ (HC.out.later hW)
      have HCE := Lib.hid hce
      have e0 := (hB.cell hbB).trans (hce 0 _ rfl)
      have e1 := (hB.cell hbB).trans (hce 1 _ rfl)
      have e2 := (hB.cell hbB).trans (hce 2 _ rfl)
      have e3 := (hB.cell hbB).trans (hce 3 _ rfl)
      have e4 := (hB.cell hbB).trans (hce 4 _ rfl)
      have e5 := (hB.cell hbB).trans (hce 5 _ rfl)
      have hbB' := Nat.lt_of_lt_of_le hbB hB.size
      rw [Nat.add_zero] at e0
      clear hx hce hC
      obtain ⟨r, hr⟩ : ∃ r, pt x = r := ⟨_, rfl⟩
      rw [hr] at CP
      have HR := Lib.hid hr
      clear hr
      go_wp2_with fail
      refine (CP.out _ (by repeat' (first | (with_reducible assumption) | (with_reducible exact Below.refl _ _) | (with_reducible refine below_drewN ?_ _) | (with_reducible refine below_bytes ?_ ?_ _) | (with_reducible refine Below.alloc ?_ ?_ _) | (with_reducible refine Below.drew ?_) | (with_reducible refine Below.setCell ?_ ?_ _) | go_size))).mono ?_
      rintro e w1 ⟨rfl, hb0⟩
      have hB1 : Below w.heap.size w w1 := since hb0 hB
      clear hb0 e0 e1 e2 e3 e4 e5
      cases r with
      | false =>
        have HNO : Hid (partsB (fun q x => pt x && !confB q x) none l = false) := Lib.hid (partsTo_no HTO.out HX.out (by rw [HR.out]; rfl))
        go_wp2_with fail
        go_ret
        exact ⟨ret_bool (by rw [HNO.out]; rfl), hB1⟩
      | true =>
        by_cases h0 : k = 0
        · subst h0
          have HYES : Hid (partsTo (fun q x => pt x && !confB q x) l (0 + 1)) := Lib.hid (partsTo_step HTO.out HX.out (by rw [HR.out, prevOf, if_pos rfl]; rfl))
          go_wp2_with fail
          go_roundw
          case rel => exact ⟨1, by omega, by go_num, HYES.out, hB1⟩
          case measure => simp [intOf]; omega
        · obtain ⟨y, hy⟩ : ∃ y, l[k - 1]? = .some y := ⟨_, List.getElem?_eq_getElem (by rw [HN.out]; omega)⟩
          obtain ⟨b2, o2, c2, hi2, hbB2, hce2, hC2, _⟩ := HL.out.at 41 72 Tryz.underlying41 (by kernel_rfl) hy
          rw [show ((k - 1 : Nat) : Int) = (k : Int) - 1 by omega] at hi2
          obtain ⟨_, _, _, _, rfl, _⟩ := hC2.open
          have HPV : Hid (prevOf l k = some y) := Lib.hid (by rw [prevOf, if_neg h0, hy])
          have HCF : Hid (confB (some y) x = (y.kind == 1 && ((x.kind == 1 && y.quoted == x.quoted) || ((y.quoted && (L y.text).isEmpty) && x.quoted)))) := Lib.hid rfl
          have f0 := (hB1.cell hbB2).trans (hce2 0 _ rfl)
          have f1 := (hB1.cell hbB2).trans (hce2 1 _ rfl)
          have f2 := (hB1.cell hbB2).trans (hce2 2 _ rfl)
          have e0 := (hB1.cell hbB).trans (HCE.out 0 _ rfl)
          have e1 := (hB1.cell hbB).trans (HCE.out 1 _ rfl)
          rw [Nat.add_zero] at e0 f0
          have hbB3 := Nat.lt_of_lt_of_le hbB hB1.size
          have hbB4 := Nat.lt_of_lt_of_le hbB2 hB1.size
          have ek : ((k : Int) == 0) = false := by simp; omega
          have hk0 : (0 : Int) ≤ (k : Int) - 1 := by omega
          have hk1 : (k : Int) - 1 < (n : Int) := by omega
          clear hy hce2 hC2
          obtain ⟨xk, hxk⟩ : ∃ v, x.kind = v := ⟨_, rfl⟩
          obtain ⟨xq, hxq⟩ : ∃ v, x.quoted = v := ⟨_, rfl⟩
          obtain ⟨yk, hyk⟩ : ∃ v, y.kind = v := ⟨_, rfl⟩
          obtain ⟨yq, hyq⟩ : ∃ v, y.quoted = v := ⟨_, rfl⟩
          obtain ⟨yt, hyt⟩ : ∃ v, y.text = v := ⟨_, rfl⟩
          rw [hyk] at f0 HCF
          rw [hyq] at f1 HCF
          rw [hyt] at f2 HCF
          rw [hxk] at e0 HCF
          rw [hxq] at e1 HCF
          clear hxk hxq hyk hyq hyt
          cases hyk1 : (yk == 1) with
          | false =>
            have HYES : Hid (partsTo (fun q x => pt x && !confB q x) l (k + 1)) := Lib.hid (partsTo_step HTO.out HX.out (by rw [HR.out, HPV.out, HCF.out]; simp [hyk1]))
            go_wp2_with fail
            go_roundw
            case rel => exact ⟨k + 1, by omega, by go_num, HYES.out, hB1⟩
            case measure => simp [intOf]; omega
          | true =>
            go_upto_region 7 with fail
            cases hxk1 : (xk == 1)
            all_goals cases yq
            all_goals cases xq
            all_goals cases hye : (L yt).isEmpty
            all_goals
              have hyt2 := (isEmpty_L yt).trans hye
              go_quiet (fail)
              have hBD := below_drewN hB1 nq
              first
                | (have HCT : Hid (confB (some y) x = true) := Lib.hid (by rw [HCF.out, hyk1]; simp [hxk1, hye]; done)
                   have HNO : Hid (partsB (fun q x => pt x && !confB q x) none l = false) := Lib.hid (partsTo_no HTO.out HX.out (by rw [HR.out, HPV.out, HCT.out]; rfl))
                   clear hyk1 hxk1 hye
                   go_wp2_with fail
                   go_ret
                   exact ⟨ret_bool (by rw [HNO.out]; rfl), hBD⟩)
                | (have HCT : Hid (confB (some y) x = false) := Lib.hid (by rw [HCF.out, hyk1]; simp [hxk1, hye]; done)
                   have HYES : Hid (partsTo (fun q x => pt x && !confB q x) l (k + 1)) := Lib.hid (partsTo_step HTO.out HX.out (by rw [HR.out, HPV.out, HCT.out]; rfl))
                   clear hyk1 hxk1 hye
                   go_wp2_with fail
                   go_roundw
                   case rel => exact ⟨k + 1, by omega, by go_num, HYES.out, hBD⟩
                   case measure => simp [intOf]; omega)
    · have HR : Hid (partsB (fun q x => pt x && !confB q x) none l = true) := Lib.hid (partsTo_end HTO.out (by rw [HN.out]; omega))
      rcases Nat.eq_zero_or_pos n with h0 | h0
      · subst h0
        have hll : l.isEmpty = true := by rw [HE.out]; rfl
        go_wp2_with fail
        go_ret
        exact ⟨ret_bool (by first | (rw [HR.out, hll]; simp; done) | (simp; done) | simp [HR.out, hll]), hB⟩
      · have hll : l.isEmpty = false := by rw [HE.out]; simp; omega
        have e1 : decide ((0 : Int) < (n : Int)) = true := by simp; omega
        go_wp2_with fail
        go_ret
        exact ⟨ret_bool (by first | (rw [HR.out, hll]; simp; done) | (simp; done) | simp [HR.out, hll]), hB⟩
end Go.Proofs.YtnackmnoldkihaaGreatDoor
namespace Go.Proofs.YtnackmnoldkihaaGreatDoor
open Go.RowKit

set_option maxHeartbeats 1000000 in
set_option maxRecDepth 100000 in
theorem rlist_any (level deep : Int) (nd : Nd → Bool) (hnd : ∀ (W : World) (x : Nd) (d : Nat) (c : List Value), NdC W W.heap.size d x c → Calls Tryz.prog 40 #[.agg c.toArray, .int .i64 level, .int .i64 deep] W fun e w' => e = .returned (.bool (nd x)) ∧ Below W.heap.size W w') :
    RListAt level deep (fun l => l.all nd) := by
  intro w l v d sm hl
  obtain ⟨d, hl⟩ := hl.up
  obtain ⟨a, cap, rfl, hz⟩ := hl.len
  obtain ⟨n, hn⟩ : ∃ n, l.length = n := ⟨_, rfl⟩
  rw [hn] at hl hz ⊢
  have HL := Lib.hid hl
  have HN := Lib.hid hn
  have HND := Lib.hid hnd
  have HE := Lib.hid (nil_of hn)
  clear hl hn hnd
  go_enter Tryz.func11, Tryz.ntmps11
  go_wp2_with fail
  go_loopw [9] (fun i W => ∃ k : Nat, k ≤ n ∧ i = .int .i64 k ∧ (l.take k).all nd = true ∧ Below w.heap.size w W) (fun i _ => n - (intOf i).toNat)
  case atStart => exact ⟨0, Nat.zero_le _, rfl, by simp, Below.refl _ _⟩
  case round =>
    obtain ⟨k, hk, rfl, hal, hB⟩ := hrel
    have HAL := Lib.hid hal
    clear hal
    by_cases hlt : k < n
    · obtain ⟨x, hx⟩ : ∃ x, l[k]? = .some x := ⟨_, List.getElem?_eq_getElem (by rw [HN.out]; exact hlt)⟩
      have HX := Lib.hid hx
      obtain ⟨b, o, c, hi, hbB, hce, hC, _⟩ := HL.out.at 25 64 Tryz.underlying25 (by kernel_rfl) hx
      have HC := Lib.hid hC
      obtain ⟨a1, c1, a2, c2, a3, c3, a4, c4, a5, c5, rfl, _⟩ := hC.open
      have CP : Hid (∀ W, Below w.heap.size w W → _) := Lib.hid fun W (hW : Below w.heap.size w W) => HND.out W x d _ (HC.out.later hW)
      have e0 := (hB.cell hbB).trans (hce 0 _ rfl)
      have e1 := (hB.cell hbB).trans (hce 1 _ rfl)
      have e2 := (hB.cell hbB).trans (hce 2 _ rfl)
      have e3 := (hB.cell hbB).trans (hce 3 _ rfl)
      have e4 := (hB.cell hbB).trans (hce 4 _ rfl)
      have e5 := (hB.cell hbB).trans (hce 5 _ rfl)
      have e6 := (hB.cell hbB).trans (hce 6 _ rfl)
      have hbB' := Nat.lt_of_lt_of_le hbB hB.size
      rw [Nat.add_zero] at e0
      clear hx hce hC
      obtain ⟨r, hr⟩ : ∃ r, nd x = r := ⟨_, rfl⟩
      rw [hr] at CP
      have HR := Lib.hid hr
      clear hr
      go_wp2_with fail
      refine (CP.out _ (by repeat' (first | (with_reducible assumption) | (with_reducible exact Below.refl _ _) | (with_reducible refine below_drewN ?_ _) | (with_reducible refine below_bytes ?_ ?_ _) | (with_reducible refine Below.alloc ?_ ?_ _) | (with_reducible refine Below.drew ?_) | (with_reducible refine Below.setCell ?_ ?_ _) | go_size))).mono ?_
      rintro e w1 ⟨rfl, hb0⟩
      have hB1 : Below w.heap.size w w1 := since hb0 hB
      clear hb0 e0 e1 e2 e3 e4 e5 e6
      cases r with
      | false =>
        have HNO := Lib.hid (all_no (f := nd) HX.out HR.out)
        go_wp2_with fail
        go_ret
        exact ⟨ret_bool (by rw [HNO.out]; rfl), hB1⟩
      | true =>
        have HYES := Lib.hid (all_to HAL.out HX.out HR.out)
        go_wp2_with fail
        go_roundw
        case rel => exact ⟨k + 1, by omega, by go_num, HYES.out, hB1⟩
        case measure => simp [intOf]; omega
    · have HR := Lib.hid (all_end HAL.out (by rw [HN.out]; omega))
      cases sm with
      | true =>
        go_wp2_with fail
        go_ret
        exact ⟨ret_bool (by rw [HR.out]; rfl), hB⟩
      | false =>
        rcases Nat.eq_zero_or_pos n with h0 | h0
        · subst h0
          have hll : l.isEmpty = true := by rw [HE.out]; rfl
          go_wp2_with fail
          go_ret
          exact ⟨ret_bool (by first | (rw [HR.out, hll]; simp; done) | (simp; done) | simp [HR.out, hll]), hB⟩
        · have hll : l.isEmpty = false := by rw [HE.out]; simp; omega
          have e1 : decide ((0 : Int) < (n : Int)) = true := by simp; omega
          go_wp2_with fail
          go_ret
          exact ⟨ret_bool (by first | (rw [HR.out, hll]; simp; done) | (simp; done) | simp [HR.out, hll]), hB⟩

/-- Each list is one command. -/
def aloneL (x : Nd) : Bool := x.lists.all fun y => decide (y.length = 1)
set_option maxHeartbeats 1000000 in
set_option maxRecDepth 100000 in
theorem ralone_any (x : Nd) (w : World) (d : Nat) (c : List Value) (hp : NdC w w.heap.size d x c) :
    Calls Tryz.prog 74 #[.agg c.toArray] w fun e w' => e = .returned (.bool (aloneL x)) ∧ Below w.heap.size w w' := by
  obtain ⟨a1, c1, a2, c2, a3, c3, a4, c4, a5, c5, rfl, hxz, ⟨hn1, hn2, hn3, hn4, hn5⟩, hA, hW, hRd, hLs, hAr⟩ := hp.open
  obtain ⟨n4, hl4⟩ : ∃ n, x.lists.length = n := ⟨_, rfl⟩
  rw [hl4] at hn4 hLs ⊢
  have HLS := Lib.hid hLs
  have N4 := Lib.hid hl4
  have HBK := Lib.hid (Blk.new w 64 #[.int .i64 x.kind, .string x.name, .slice a1 x.assigns.length c1, .slice a2 x.words.length c2, .slice a3 x.redirs.length c3, .slice a4 n4 c4, .slice a5 x.arms.length c5])
  clear hp hA hW hRd hLs hAr hl4
  go_enter Tryz.func74, Tryz.ntmps74
  go_wp2_with fail
  go_loop [3] (fun i => ∃ k : Nat, k ≤ n4 ∧ i = .int .i64 k ∧ (x.lists.take k).all (fun y => decide (y.length = 1)) = true) (fun i => n4 - (intOf i).toNat)
  case atStart => exact ⟨0, Nat.zero_le _, rfl, by simp⟩
  case round =>
    obtain ⟨k, hk, rfl, hal⟩ := hrel
    have HAL := Lib.hid hal
    clear hal
    by_cases hlt : k < n4
    · obtain ⟨y, hy⟩ : ∃ y, x.lists[k]? = .some y := ⟨_, List.getElem?_eq_getElem (by rw [N4.out]; exact hlt)⟩
      obtain ⟨b, o, c, hi, hbB, hce, ⟨yv, rfl, hyp⟩, _⟩ := HLS.out.at 61 25 Tryz.underlying61 (by kernel_rfl) hy
      have HY := Lib.hid hy
      obtain ⟨a6, c6, rfl, _⟩ := hyp.shape
      obtain ⟨ny, hny⟩ : ∃ n, y.length = n := ⟨_, rfl⟩
      have e0 := hce 0 _ rfl
      rw [Nat.add_zero, hny] at e0
      have NY := Lib.hid hny
      clear hy hce hyp hny
      by_cases h1 : ny = 1
      · have HE := Lib.hid (all_to (f := fun y : List Nd => decide (y.length = 1)) HAL.out HY.out (by simp [NY.out, h1]))
        subst h1
        go_wp2_with fail
        go_round
        case rel => exact ⟨k + 1, by omega, by go_num, HE.out⟩
        case measure => simp [intOf]; omega
      · have HE : Hid (aloneL x = false) := Lib.hid (all_no (f := fun y : List Nd => decide (y.length = 1)) HY.out (by simp [NY.out, h1]))
        have g : ((ny : Int) == 1) = false := by simp; omega
        go_wp2_with fail
        go_ret
        exact ⟨ret_bool HE.out.symm, (by repeat' (first | (with_reducible assumption) | (with_reducible exact Below.refl _ _) | (with_reducible refine below_drewN ?_ _) | (with_reducible refine below_bytes ?_ ?_ _) | (with_reducible refine Below.alloc ?_ ?_ _) | (with_reducible refine Below.drew ?_) | (with_reducible refine Below.setCell ?_ ?_ _) | go_size))⟩
    · have HE : Hid (aloneL x = true) := Lib.hid (all_end HAL.out (by rw [N4.out]; omega))
      go_wp2_with fail
      go_ret
      exact ⟨ret_bool HE.out.symm, (by repeat' (first | (with_reducible assumption) | (with_reducible exact Below.refl _ _) | (with_reducible refine below_drewN ?_ _) | (with_reducible refine below_bytes ?_ ?_ _) | (with_reducible refine Below.alloc ?_ ?_ _) | (with_reducible refine Below.drew ?_) | (with_reducible refine Below.setCell ?_ ?_ _) | go_size))⟩

theorem eqB_no {s : List UInt8} {k : Nat} (hk : k < s.length) (h : (s.getD k 0 == 61 && nameL (s.take k)) = true) : eqB s = true := by
  rw [eqB, List.any_eq_true]; exact ⟨k, List.mem_range.2 hk, h⟩
def eqTo (s : List UInt8) (k : Nat) : Prop := ∀ i, i < k → (s.getD i 0 == 61 && nameL (s.take i)) = false
theorem eqTo_succ {s : List UInt8} {k : Nat} (h : eqTo s k) (hc : (s.getD k 0 == 61 && nameL (s.take k)) = false) : eqTo s (k + 1) := fun i hi => by
  by_cases e : i = k
  · rw [e]; exact hc
  · exact h i (by omega)
theorem eqTo_end {s : List UInt8} {k : Nat} (h : eqTo s k) (hk : s.length ≤ k) : eqB s = false := by
  rw [eqB, List.any_eq_false]
  exact fun i hi => by rw [h i (by have := List.mem_range.1 hi; omega)]; simp

set_option maxHeartbeats 1000000 in
set_option maxRecDepth 100000 in
theorem rfirst_any (l : List Pt) (v : Value) (w : World) (d : Nat) (hl : PtsIn w w.heap.size d l v) (hne : l ≠ []) :
    Calls Tryz.prog 73 #[v] w fun e w' => e = .returned (.bool (firstB l)) ∧ Below w.heap.size w w' := by
  rw [← rfirst_eq]
  obtain ⟨a, cap, rfl, hz⟩ := hl.shape
  obtain ⟨n, hn⟩ : ∃ n, l.length = n := ⟨_, rfl⟩
  have hpos : 0 < l.length := List.length_pos_iff.2 hne
  obtain ⟨x, b, o, ⟨xr, hx⟩, hxt, hi, hbB, g0, g1, g2⟩ := hl.first14 hpos
  have HF : Hid (rfirstB l = bif x.kind == 1 && !x.quoted then (!eqB (L x.text) && !(xr.isEmpty && oneB reservedWs (L x.text))) else true) := Lib.hid (by rw [hx]; rfl)
  have HXR : Hid (n = xr.length + 1) := Lib.hid (by rw [← hn, hx]; rfl)
  rw [hn] at hz hi ⊢
  unfold bigN at hz
  have CN : Hid (∀ (t : ByteArray) (W : World), t.size ≤ 1048576 → Calls Tryz.prog 22 #[.string t] W fun e w' => e = .returned (.bool (nameL (L t))) ∧ Below W.heap.size W w') := Lib.hid fun t W ht => (rname_any t W (by unfold maxLen; omega)).mono fun e w' h => ⟨h.1, by first | exact h.2 | (rw [h.2]; exact Below.refl _ _) | (rw [← h.2]; exact Below.refl _ _)⟩
  have CR := Lib.hid fun W => rreserved_any x.text W
  obtain ⟨xk, hxk⟩ : ∃ v, x.kind = v := ⟨_, rfl⟩
  obtain ⟨xq, hxq⟩ : ∃ v, x.quoted = v := ⟨_, rfl⟩
  obtain ⟨xt, hxt2⟩ : ∃ v, x.text = v := ⟨_, rfl⟩
  rw [hxk] at g0 HF
  rw [hxq] at g1 HF
  rw [hxt2] at g2 HF hxt CR
  clear hl hn hpos hne hx hxk hxq hxt2
  cases hk1 : (xk == 1) with
  | false =>
    have HE : Hid (rfirstB l = true) := Lib.hid (by rw [HF.out, hk1]; rfl)
    have hk2 : (xk != 1) = true := by rw [bne, hk1]; rfl
    go_enter Tryz.func73, Tryz.ntmps73
    go_wp2_with fail
    go_ret
    exact ⟨ret_bool HE.out.symm, (by repeat' (first | (with_reducible assumption) | (with_reducible exact Below.refl _ _) | (with_reducible refine below_drewN ?_ _) | (with_reducible refine below_bytes ?_ ?_ _) | (with_reducible refine Below.alloc ?_ ?_ _) | (with_reducible refine Below.drew ?_) | (with_reducible refine Below.setCell ?_ ?_ _) | go_size))⟩
  | true =>
    have hk2 : (xk != 1) = false := by rw [bne, hk1]; rfl
    cases xq with
    | true =>
      have HE : Hid (rfirstB l = true) := Lib.hid (by rw [HF.out, hk1]; rfl)
      go_enter Tryz.func73, Tryz.ntmps73
      go_wp2_with fail
      go_ret
      exact ⟨ret_bool HE.out.symm, (by repeat' (first | (with_reducible assumption) | (with_reducible exact Below.refl _ _) | (with_reducible refine below_drewN ?_ _) | (with_reducible refine below_bytes ?_ ?_ _) | (with_reducible refine Below.alloc ?_ ?_ _) | (with_reducible refine Below.drew ?_) | (with_reducible refine Below.setCell ?_ ?_ _) | go_size))⟩
    | false =>
      have HE : Hid (rfirstB l = (!eqB (L xt) && !(xr.isEmpty && oneB reservedWs (L xt)))) := Lib.hid (by rw [HF.out, hk1]; rfl)
      go_enter Tryz.func73, Tryz.ntmps73
      go_wp2_with fail
      go_loopw [4] (fun i W => ∃ k : Nat, k ≤ xt.size ∧ i = .int .i64 k ∧ eqTo (L xt) k ∧ Below w.heap.size w W) (fun i _ => xt.size - (intOf i).toNat)
      case atStart => exact ⟨0, Nat.zero_le _, rfl, fun i hi => by omega, Below.refl _ _⟩
      case round =>
        obtain ⟨k, hk, rfl, hto, hB⟩ := hrel
        have HTO := Lib.hid hto
        clear hto
        by_cases hlt : k < xt.size
        · have hidx := run_idx (P := Tryz.prog) Tryz.underlying9 xt (k := .i64) (k : Int) k rfl hlt
          obtain ⟨c, hc⟩ : ∃ c, (L xt).getD k 0 = c := ⟨_, rfl⟩
          rw [hc] at hidx
          have HC := Lib.hid hc
          clear hc
          have HEX : Hid (L (xt.extract 0 k) = (L xt).take k) := Lib.hid (by rw [L_extract]; rfl)
          have hez : (xt.extract 0 k).size ≤ 1048576 := by rw [← L_size, HEX.out, List.length_take, L_size]; omega
          have CN1 := Lib.hid fun W => CN.out (xt.extract 0 k) W hez
          rw [HEX.out] at CN1
          obtain ⟨nm, hnm⟩ : ∃ b, nameL ((L xt).take k) = b := ⟨_, rfl⟩
          rw [hnm] at CN1
          have HNM := Lib.hid hnm
          clear hnm hez
          by_cases h61 : c = 61
          · have e61 : (((c.toNat : Nat) : Int) == 61) = true := eq_byte h61
            have H61 := Lib.hid h61
            clear h61
            go_wp2_with fail
            refine (CN1.out _).mono ?_
            rintro e w1 ⟨rfl, hb0⟩
            have hB1 : Below w.heap.size w w1 := since hb0 hB
            clear hb0
            cases nm with
            | true =>
              have HE2 : Hid (rfirstB l = false) := Lib.hid (by rw [HE.out, eqB_no (show k < (L xt).length from hlt) (by rw [HC.out, H61.out, HNM.out]; rfl)]; rfl)
              go_wp2_with fail
              go_ret
              exact ⟨ret_bool HE2.out.symm, hB1⟩
            | false =>
              have HE2 := Lib.hid (eqTo_succ HTO.out (by rw [HNM.out, Bool.and_false]))
              go_wp2_with fail
              go_roundw
              case rel => exact ⟨k + 1, by omega, by go_num, HE2.out, hB1⟩
              case measure => simp [intOf]; omega
          · have e61 : (((c.toNat : Nat) : Int) == 61) = false := ne_byte h61
            have HE2 := Lib.hid (eqTo_succ HTO.out (by rw [HC.out]; simp [h61]))
            clear h61
            go_wp2_with fail
            go_roundw
            case rel => exact ⟨k + 1, by omega, by go_num, HE2.out, hB⟩
            case measure => simp [intOf]; omega
        · have HE2 : Hid (rfirstB l = !(xr.isEmpty && oneB reservedWs (L xt))) := Lib.hid (by rw [HE.out, eqTo_end HTO.out (by rw [L_size]; omega)]; rfl)
          have hnx := HXR.out
          by_cases h1 : n = 1
          · have HE3 : Hid (rfirstB l = !oneB reservedWs (L xt)) := Lib.hid (by rw [HE2.out, show xr.isEmpty = true from nil_of_len rfl (by omega)]; rfl)
            clear hnx HXR
            subst h1
            obtain ⟨rs, hrs⟩ : ∃ b, oneB reservedWs (L xt) = b := ⟨_, rfl⟩
            rw [hrs] at CR HE3
            clear hrs
            go_wp2_with fail
            refine (CR.out _).mono ?_
            rintro e w1 ⟨rfl, hb0⟩
            have hB1 : Below w.heap.size w w1 := since hb0 hB
            clear hb0
            go_wp2_with fail
            go_ret
            exact ⟨ret_bool HE3.out.symm, hB1⟩
          · have HE3 : Hid (rfirstB l = true) := Lib.hid (by rw [HE2.out, show xr.isEmpty = false from not_nil_of_len rfl (by omega)]; rfl)
            have e1 : decide ((1 : Int) < (n : Int)) = true := by simp; omega
            clear hnx
            go_wp2_with fail
            go_ret
            exact ⟨ret_bool HE3.out.symm, hB⟩
end Go.Proofs.YtnackmnoldkihaaGreatDoor
