/-
  A level deeper; bytes that may stand behind a part.
-/
import Derived.Test.YtnackmnoldkihaaGreatDoorW4
import Derived.RegionTactic
import Derived.Outline
import Derived.Deep.QuietTactic
import Derived.BigQuiet
set_option linter.unusedVariables false
set_option linter.unusedSimpArgs false
namespace Go.Proofs.YtnackmnoldkihaaGreatDoor
open Go.RowKit

theorem since {w W w1 : World} (hb : Below W.heap.size W w1) (h : Below w.heap.size w W) : Below w.heap.size w w1 := h.trans (hb.mono h.size)
theorem bcell {W w1 : World} (hb : Below W.heap.size W w1) : (∀ b o, b < W.heap.size → w1.cell? ⟨b, o, none⟩ = W.cell? ⟨b, o, none⟩) ∧ (∀ b o, b < W.heap.size → w1.frozen? ⟨b, o, none⟩ = W.frozen? ⟨b, o, none⟩) :=
 ⟨fun b o h => hb.cell (p := ⟨b, o, none⟩) h, fun b o h => hb.frozen (p := ⟨b, o, none⟩) h⟩
theorem below_drewN {B : Nat} {a w : World} (h : Below B a w) (n : Nat) : Below B a (w.drewN n) := h.trans ⟨rfl, rfl, rfl, Nat.le_refl _, fun _ _ => rfl⟩

theorem deeper_yes (n : Int) (w : World) (h0 : 0 < n) (h1 : n ≤ 9223372036854775807) :
 Calls Tryz.prog 65 #[.agg #[.int .i64 n]] w fun e w' => e = .returned (.tuple #[.agg #[.int .i64 (n - 1)], .bool true]) ∧ Below w.heap.size w w' := by
 go_enter Tryz.func65, Tryz.ntmps65
 go_wp2
 go_region
 all_goals go_wp2
 all_goals exact bodyPost_ret (v := .tuple #[.agg #[.int .i64 (n - 1)], .bool true]) (by simp [results, Tryz.results65, go_sem]) rfl ⟨rfl, by go_grown⟩
def NoMore (w : World) (e : Ending) (w' : World) : Prop := ∃ m : Int, e = .returned (.tuple #[.agg #[.int .i64 m], .bool false]) ∧ Below w.heap.size w w'
theorem deeper_no (n : Int) (w : World) (h0 : n ≤ 0) :
 Calls Tryz.prog 65 #[.agg #[.int .i64 n]] w (NoMore w) := by
 obtain ⟨m, hm⟩ : ∃ m, wrap64 (n - 1) = m := ⟨_, rfl⟩
 have hg : decide (0 < n) = false := by simp; omega
 go_enter Tryz.func65, Tryz.ntmps65
 go_wp2
 go_region
 all_goals go_wp2
 all_goals exact bodyPost_ret (v := .tuple #[.agg #[.int .i64 m], .bool false]) (by simp [results, Tryz.results65, go_sem]) rfl ⟨m, rfl, by go_grown⟩

/-- A part stands behind one like it. -/
def besideB (q : Option Pt) (qd : Bool) : Bool := match q with | none => false | some x => x.kind == 1 && x.quoted == qd
def litB (q : Option Pt) (p : Pt) : Bool :=
 (L p.op).isEmpty && (p.word.isEmpty && p.body.isEmpty) && !besideB q p.quoted && (bif p.quoted then !hasB (L p.text) 0 else ((L p.text).all bareB && !(L p.text).isEmpty))

/-- A pointer to a part, or none. -/
def PrevAt (w : World) (B d : Nat) (q : Option Pt) (v : Value) : Prop := match q with
 | none => v = .pointer none
 | some x => ∃ b o c, v = .pointer (some ⟨b, o, none⟩) ∧ b < B ∧ CellsAt w b o c ∧ PtC w B d x c
theorem PrevAt.keep {w w' : World} {B B' d : Nat} {q : Option Pt} {v : Value} (h : PrevAt w B d q v) (hb : Below B w w') (hB : B ≤ B') : PrevAt w' B' d q v := by
 cases q with
 | none => exact h
 | some x =>
   obtain ⟨b, o, c, e, h1, h2, h3⟩ := h
   exact ⟨b, o, c, e, by omega, fun j u hj => by rw [hb.cell h1]; exact h2 j u hj, h3.keep fun size n v xs hs => (hs.below hb).mono hB⟩
/-- What a walk wants of it. -/
theorem PrevAt.open {w : World} {B d : Nat} {x : Pt} {v : Value} (h : PrevAt w B d (some x) v) : ∃ b o, v = .pointer (some ⟨b, o, none⟩) ∧ b < B ∧ w.cell? ⟨b, o, none⟩ = some (.int .i64 x.kind) ∧ w.cell? ⟨b, o + 1, none⟩ = some (.bool x.quoted) ∧ w.cell? ⟨b, o + 2, none⟩ = some (.string x.text) := by
 obtain ⟨b, o, c, e, h1, h2, _, _, wv, bv, rfl, _⟩ := h
 exact ⟨b, o, e, h1, h2 0 _ rfl, h2 1 _ rfl, h2 2 _ rfl⟩

theorem PtsIn.shape {w : World} {B d : Nat} {l : List Pt} {v : Value} (h : PtsIn w B d l v) : ∃ a cap, v = .slice a l.length cap ∧ l.length ≤ bigN := by
 cases d with
 | zero => rw [PtsIn] at h; obtain ⟨a, c, e⟩ := h.shape; exact ⟨a, c, e, h.1⟩
 | succ d => rw [PtsIn.succ] at h; obtain ⟨a, c, e⟩ := h.shape; exact ⟨a, c, e, h.1⟩
theorem NdsIn.shape {w : World} {B d : Nat} {l : List Nd} {v : Value} (h : NdsIn w B d l v) : ∃ a cap, v = .slice a l.length cap ∧ l.length ≤ bigN := by
 cases d with
 | zero => rw [NdsIn] at h; obtain ⟨a, c, e⟩ := h.shape; exact ⟨a, c, e, h.1⟩
 | succ d => rw [NdsIn.succ] at h; obtain ⟨a, c, e⟩ := h.shape; exact ⟨a, c, e, h.1⟩
theorem bytes_at (w : World) (s : ByteArray) (W : World) (g : Nat) (hg : W.heap.size = g) : ∀ j, j < s.size → (Lib.bytesWorld W 5 s).cell? ⟨g, j, none⟩ = some (.int .u8 (((L s).getD j 0).toNat : Nat)) := fun j hj => by subst hg; exact (BytesAt.made W 5 s j hj).1
theorem below_bytes {B : Nat} {w W : World} (h : Below B w W) (hB : B ≤ W.heap.size) (s : ByteArray) : Below B w (Lib.bytesWorld W 5 s) := h.trans ((below_bytesWorld W 5 s).mono hB)
/-- What a call leaves below, found by itself. -/
theorem bg {B : Nat} {w W : World} (h : Below B w W := by repeat' (first | (with_reducible assumption) | (with_reducible exact Below.refl _ _) | (with_reducible refine below_drewN ?_ _) | (with_reducible refine below_bytes ?_ ?_ _) | (with_reducible refine Below.alloc ?_ ?_ _) | (with_reducible refine Below.drew ?_) | (with_reducible refine Below.setCell ?_ ?_ _) | go_size)) : Below B w W := h
/-- A box's cells. -/
theorem Blk.box2 {w : World} {g : Nat} {t : TypeId} {a0 a1 : Value} (h : Blk w g t #[a0, a1]) : w.cell? ⟨g, 0, none⟩ = some a0 ∧ w.cell? ⟨g, 1, none⟩ = some a1 ∧ g < w.heap.size := ⟨h.cell 0, h.cell 1, h.lt⟩
theorem Blk.box4 {w : World} {g : Nat} {t : TypeId} {a0 a1 a2 a3 : Value} (h : Blk w g t #[a0, a1, a2, a3]) : w.cell? ⟨g, 0, none⟩ = some a0 ∧ w.cell? ⟨g, 1, none⟩ = some a1 ∧ w.cell? ⟨g, 2, none⟩ = some a2 ∧ w.cell? ⟨g, 3, none⟩ = some a3 ∧ g < w.heap.size := ⟨h.cell 0, h.cell 1, h.cell 2, h.cell 3, h.lt⟩
theorem Blk.box6 {w : World} {g : Nat} {t : TypeId} {a0 a1 a2 a3 a4 a5 : Value} (h : Blk w g t #[a0, a1, a2, a3, a4, a5]) : w.cell? ⟨g, 0, none⟩ = some a0 ∧ w.cell? ⟨g, 1, none⟩ = some a1 ∧ w.cell? ⟨g, 2, none⟩ = some a2 ∧ w.cell? ⟨g, 3, none⟩ = some a3 ∧ w.cell? ⟨g, 4, none⟩ = some a4 ∧ w.cell? ⟨g, 5, none⟩ = some a5 ∧ g < w.heap.size := ⟨h.cell 0, h.cell 1, h.cell 2, h.cell 3, h.cell 4, h.cell 5, h.lt⟩
theorem Blk.box7 {w : World} {g : Nat} {t : TypeId} {a0 a1 a2 a3 a4 a5 a6 : Value} (h : Blk w g t #[a0, a1, a2, a3, a4, a5, a6]) : w.cell? ⟨g, 0, none⟩ = some a0 ∧ w.cell? ⟨g, 1, none⟩ = some a1 ∧ w.cell? ⟨g, 2, none⟩ = some a2 ∧ w.cell? ⟨g, 3, none⟩ = some a3 ∧ w.cell? ⟨g, 4, none⟩ = some a4 ∧ w.cell? ⟨g, 5, none⟩ = some a5 ∧ w.cell? ⟨g, 6, none⟩ = some a6 ∧ g < w.heap.size := ⟨h.cell 0, h.cell 1, h.cell 2, h.cell 3, h.cell 4, h.cell 5, h.cell 6, h.lt⟩
theorem Blk.box1 {w : World} {g : Nat} {t : TypeId} {a0 : Value} (h : Blk w g t #[a0]) : w.cell? ⟨g, 0, none⟩ = some a0 ∧ w.frozen? ⟨g, 0, none⟩ = false ∧ g < w.heap.size := ⟨h.cell 0, h.free 0, h.lt⟩
theorem nil_of_len {α : Type} {l : List α} {n : Nat} (h : l.length = n) (h0 : n = 0) : l.isEmpty = true := by cases l with | nil => rfl | cons => simp at h; omega
theorem not_nil_of_len {α : Type} {l : List α} {n : Nat} (h : l.length = n) (h0 : 0 < n) : l.isEmpty = false := by cases l with | nil => simp at h; omega | cons => rfl
theorem all_to {α : Type} {f : α → Bool} {l : List α} {k : Nat} {x : α} (h : (l.take k).all f = true) (hx : l[k]? = some x) (hf : f x = true) : (l.take (k + 1)).all f = true := by
 rw [List.take_add_one, hx]; simp [List.all_append, h, hf]
theorem all_no {α : Type} {f : α → Bool} {l : List α} {k : Nat} {x : α} (hx : l[k]? = some x) (hf : f x = false) : l.all f = false := by
 rw [List.all_eq_false]; exact ⟨x, List.mem_of_getElem? hx, by rw [hf]; decide⟩
theorem all_end {α : Type} {f : α → Bool} {l : List α} {k : Nat} (h : (l.take k).all f = true) (hk : l.length ≤ k) : l.all f = true := by rwa [List.take_of_length_le hk] at h
theorem not_le0 (m : Int) : decide (m < 0) = !decide (0 ≤ m) := by by_cases h : m < 0 <;> simp [h]; omega
theorem getD_get {l : List UInt8} {k : Nat} (h : k < l.length) : l[k]? = some (l.getD k 0) := by simp [List.getD, h]

set_option maxHeartbeats 2000000 in
set_option maxRecDepth 100000 in
theorem lit_any (q : Option Pt) (p : Pt) (n : Int) (w : World) (d : Nat) (c : List Value) (pv : Value) (hp : PtC w w.heap.size d p c) (hq : PrevAt w w.heap.size d q pv) :
 Calls Tryz.prog 108 #[.agg #[.int .i64 n], .agg c.toArray, pv] w fun e w' => e = .returned (.bool (litB q p)) ∧ Below w.heap.size w w' := by
 obtain ⟨h1, h2, wv, bv, rfl, hw, hb⟩ := hp
 obtain ⟨k, qd, tx, op, ws, bs⟩ := p
 simp only [Pt.text, Pt.op, Pt.kind, Pt.quoted, Pt.word, Pt.body] at h1 h2 hw hb
 obtain ⟨wa, wc, rfl, hlw⟩ := hw.shape
 obtain ⟨ba, bc, rfl, hlb⟩ := hb.shape
 simp only [Pt.text, Pt.op, Pt.kind, Pt.quoted, Pt.word, Pt.body]
 obtain ⟨lw, hlw0⟩ : ∃ m, ws.length = m := ⟨_, rfl⟩
 obtain ⟨lb, hlb0⟩ : ∃ m, bs.length = m := ⟨_, rfl⟩
 obtain ⟨r, hr⟩ : ∃ r, litB q ⟨k, qd, tx, op, ws, bs⟩ = r := ⟨_, rfl⟩
 rw [hlw0] at hlw
 rw [hlb0] at hlb
 rw [hlw0, hlb0, hr]
 rw [litB] at hr
 simp only [Pt.text, Pt.op, Pt.quoted, Pt.word, Pt.body] at hr
 unfold bigN at h1 h2 hlw hlb
 clear hw hb
 have CI : Hid (∀ W, Calls Tryz.prog 44 #[.string tx, .int .u8 0] W fun e w' => (∃ n : Int, e = .returned (.int .i64 n) ∧ decide (0 ≤ n) = hasB (L tx) 0) ∧ W = w') := Lib.hid (fun W => index_any tx 0 W)
 have CB := Lib.hid bare_any
 have HBA := Lib.hid (bytes_at w tx)
 cases q with
 | none =>
   obtain rfl : pv = .pointer none := hq
   rw [besideB] at hr
   cases qd with
   | true =>
     cases hoe : (L op).isEmpty with
     | false =>
       have HR : Hid (r = false) := Lib.hid (by rw [← hr, hoe]; rfl)
       have e1 : op.toList.isEmpty = false := by rw [isEmpty_L]; exact hoe
       clear hr hoe hlw0 hlb0
       go_enter Tryz.func108, Tryz.ntmps108
       go_wp2
       go_quiet (fail)
       go_wp2_with fail
       go_ret
       exact ⟨ret_bool HR.out.symm, by go_grown; exact below_drewN (by go_grown) _⟩
     | true =>
       have e1 : op.toList.isEmpty = true := by rw [isEmpty_L]; exact hoe
       rw [hoe] at hr
       by_cases hz : 0 < lw + lb
       · have HR : Hid (r = false) := Lib.hid (by
          rw [← hr]
          by_cases h0 : 0 < lw
          · rw [not_nil_of_len hlw0 h0]; rfl
          · rw [nil_of_len hlw0 (by omega), not_nil_of_len hlb0 (by omega)]; rfl)
         have e2 : decide ((0 : Int) < (lw : Int) + (lb : Int)) = true := by simp; omega
         clear hr hoe hlw0 hlb0
         go_enter Tryz.func108, Tryz.ntmps108
         go_wp2
         go_quiet (fail)
         go_wp2_with fail
         go_ret
         exact ⟨ret_bool HR.out.symm, by go_grown; exact below_drewN (by go_grown) _⟩
       · obtain rfl : lw = 0 := by omega
         obtain rfl : lb = 0 := by omega
         rw [nil_of_len hlw0 rfl, nil_of_len hlb0 rfl] at hr
         clear hlw0 hlb0 hz hlw hlb hoe
         go_enter Tryz.func108, Tryz.ntmps108
         go_wp2
         go_quiet (fail)
         go_wp2_with fail
         refine (CI.out _).mono ?_
         rintro e w1 ⟨⟨m, rfl, hm⟩, rfl⟩
         have HR : Hid (r = !decide (0 ≤ m)) := Lib.hid (by rw [← hr, hm]; simp)
         clear hm hr
         go_wp2
         go_ret
         exact ⟨ret_bool (by rw [HR.out, not_le0]), by go_grown; exact below_drewN (by go_grown) _⟩
   | false =>
     cases hoe : (L op).isEmpty with
     | false =>
       have HR : Hid (r = false) := Lib.hid (by rw [← hr, hoe]; rfl)
       have e1 : op.toList.isEmpty = false := by rw [isEmpty_L]; exact hoe
       clear hr hoe hlw0 hlb0
       go_enter Tryz.func108, Tryz.ntmps108
       go_wp2
       go_quiet (fail)
       go_wp2_with fail
       go_ret
       exact ⟨ret_bool HR.out.symm, by go_grown; exact below_drewN (by go_grown) _⟩
     | true =>
       have e1 : op.toList.isEmpty = true := by rw [isEmpty_L]; exact hoe
       rw [hoe] at hr
       by_cases hz : 0 < lw + lb
       · have HR : Hid (r = false) := Lib.hid (by
          rw [← hr]
          by_cases h0 : 0 < lw
          · rw [not_nil_of_len hlw0 h0]; rfl
          · rw [nil_of_len hlw0 (by omega), not_nil_of_len hlb0 (by omega)]; rfl)
         have e2 : decide ((0 : Int) < (lw : Int) + (lb : Int)) = true := by simp; omega
         clear hr hoe hlw0 hlb0
         go_enter Tryz.func108, Tryz.ntmps108
         go_wp2
         go_quiet (fail)
         go_wp2_with fail
         go_ret
         exact ⟨ret_bool HR.out.symm, by go_grown; exact below_drewN (by go_grown) _⟩
       · obtain rfl : lw = 0 := by omega
         obtain rfl : lb = 0 := by omega
         rw [nil_of_len hlw0 rfl, nil_of_len hlb0 rfl] at hr
         clear hlw0 hlb0 hz hlw hlb hoe
         have HRA : Hid (r = ((L tx).all bareB && !(L tx).isEmpty)) := Lib.hid (by rw [← hr]; simp)
         clear hr
         go_enter Tryz.func108, Tryz.ntmps108
         go_wp2
         go_quiet (fail)
         go_wp2_with fail
         go_loopw [54] (fun i W => ∃ k : Nat, k ≤ tx.size ∧ i = .int .i64 k ∧ ((L tx).take k).all bareB = true ∧ (∀ j, j < tx.size → W.cell? ⟨w.heap.size + 1 + 1, j, none⟩ = some (.int .u8 (((L tx).getD j 0).toNat : Nat))) ∧ W.cell? ⟨w.heap.size + 1, 2, none⟩ = some (.string tx) ∧ Below w.heap.size w W) (fun i _ => tx.size - (intOf i).toNat)
         case atStart => exact ⟨0, Nat.zero_le _, rfl, by simp, HBA.out _ _ (by simp), by rw [(below_bytesWorld _ _ _).cell (by simp)]; simp, below_bytes (below_drewN (by go_grown) _) (by simp; omega) _⟩
         case round =>
          obtain ⟨j, hj, rfl, hal, hce, htc, hbe⟩ := hrel
          have HAL := Lib.hid hal
          have HCE := Lib.hid hce
          have HBE := Lib.hid hbe
          clear hal hce hbe
          by_cases hlt : j < tx.size
          · have hcell := HCE.out j hlt
            have hg := getD_get (l := L tx) (k := j) hlt
            obtain ⟨c, hc⟩ : ∃ c, c = (L tx).getD j 0 := ⟨_, rfl⟩
            rw [← hc] at hcell hg
            have HG := Lib.hid hg
            clear hc hg
            cases hbc : bareB c with
            | false =>
              have HB : Hid (bareB c = false) := Lib.hid hbc
              have CC := Lib.hid (CB.out c)
              rw [hbc] at CC
              have HR : Hid (r = false) := Lib.hid (by rw [HRA.out, all_no HG.out HB.out]; rfl)
              clear hbc
              go_wp2_with fail
              refine (CC.out _).mono ?_
              rintro e w1 ⟨rfl, rfl⟩
              go_wp2
              go_ret
              exact ⟨ret_bool HR.out.symm, HBE.out⟩
            | true =>
              have HB : Hid (bareB c = true) := Lib.hid hbc
              have CC := Lib.hid (CB.out c)
              rw [hbc] at CC
              clear hbc
              go_wp2_with fail
              refine (CC.out _).mono ?_
              rintro e w1 ⟨rfl, rfl⟩
              go_wp2
              go_roundw
              case rel => exact ⟨j + 1, by omega, by go_num, all_to HAL.out HG.out HB.out, HCE.out, htc, HBE.out⟩
              case measure => simp [intOf]; omega
          · have HR : Hid (r = !(L tx).isEmpty) := Lib.hid (by rw [HRA.out, all_end HAL.out (by rw [L_size]; omega)]; rfl)
            clear HRA
            cases he : (L tx).isEmpty with
            | true =>
              have e2 : tx.toList.isEmpty = true := by rw [isEmpty_L]; exact he
              rw [he] at HR
              clear he
              go_wp2
              go_ret
              exact ⟨ret_bool HR.out.symm, HBE.out⟩
            | false =>
              have e2 : tx.toList.isEmpty = false := by rw [isEmpty_L]; exact he
              rw [he] at HR
              clear he
              go_wp2
              go_ret
              exact ⟨ret_bool HR.out.symm, HBE.out⟩
 | some x =>
   obtain ⟨b, o, rfl, hlt, c0, c1, c2⟩ := hq.open
   rw [besideB] at hr
   clear hq
   obtain ⟨xk, hxk⟩ : ∃ m, x.kind = m := ⟨_, rfl⟩
   obtain ⟨xq, hxq⟩ : ∃ m, x.quoted = m := ⟨_, rfl⟩
   rw [hxk] at hr c0
   rw [hxq] at hr c1
   clear hxk hxq c2
   cases hk : (xk == 1) with
   | false =>
     rw [hk, Bool.false_and] at hr
     clear c1
     cases qd with
     | true =>
       cases hoe : (L op).isEmpty with
       | false =>
         have HR : Hid (r = false) := Lib.hid (by rw [← hr, hoe]; rfl)
         have e1 : op.toList.isEmpty = false := by rw [isEmpty_L]; exact hoe
         clear hr hoe hlw0 hlb0
         go_enter Tryz.func108, Tryz.ntmps108
         go_wp2
         go_quiet (fail)
         go_wp2_with fail
         go_ret
         exact ⟨ret_bool HR.out.symm, by go_grown; exact below_drewN (by go_grown) _⟩
       | true =>
         have e1 : op.toList.isEmpty = true := by rw [isEmpty_L]; exact hoe
         rw [hoe] at hr
         by_cases hz : 0 < lw + lb
         · have HR : Hid (r = false) := Lib.hid (by
            rw [← hr]
            by_cases h0 : 0 < lw
            · rw [not_nil_of_len hlw0 h0]; rfl
            · rw [nil_of_len hlw0 (by omega), not_nil_of_len hlb0 (by omega)]; rfl)
           have e2 : decide ((0 : Int) < (lw : Int) + (lb : Int)) = true := by simp; omega
           clear hr hoe hlw0 hlb0
           go_enter Tryz.func108, Tryz.ntmps108
           go_wp2
           go_quiet (fail)
           go_wp2_with fail
           go_ret
           exact ⟨ret_bool HR.out.symm, by go_grown; exact below_drewN (by go_grown) _⟩
         · obtain rfl : lw = 0 := by omega
           obtain rfl : lb = 0 := by omega
           rw [nil_of_len hlw0 rfl, nil_of_len hlb0 rfl] at hr
           clear hlw0 hlb0 hz hlw hlb hoe
           go_enter Tryz.func108, Tryz.ntmps108
           go_wp2
           go_quiet (fail)
           go_wp2_with fail
           refine (CI.out _).mono ?_
           rintro e w1 ⟨⟨m, rfl, hm⟩, rfl⟩
           have HR : Hid (r = !decide (0 ≤ m)) := Lib.hid (by rw [← hr, hm]; simp)
           clear hm hr
           go_wp2
           go_ret
           exact ⟨ret_bool (by rw [HR.out, not_le0]), by go_grown; exact below_drewN (by go_grown) _⟩
     | false =>
       cases hoe : (L op).isEmpty with
       | false =>
         have HR : Hid (r = false) := Lib.hid (by rw [← hr, hoe]; rfl)
         have e1 : op.toList.isEmpty = false := by rw [isEmpty_L]; exact hoe
         clear hr hoe hlw0 hlb0
         go_enter Tryz.func108, Tryz.ntmps108
         go_wp2
         go_quiet (fail)
         go_wp2_with fail
         go_ret
         exact ⟨ret_bool HR.out.symm, by go_grown; exact below_drewN (by go_grown) _⟩
       | true =>
         have e1 : op.toList.isEmpty = true := by rw [isEmpty_L]; exact hoe
         rw [hoe] at hr
         by_cases hz : 0 < lw + lb
         · have HR : Hid (r = false) := Lib.hid (by
            rw [← hr]
            by_cases h0 : 0 < lw
            · rw [not_nil_of_len hlw0 h0]; rfl
            · rw [nil_of_len hlw0 (by omega), not_nil_of_len hlb0 (by omega)]; rfl)
           have e2 : decide ((0 : Int) < (lw : Int) + (lb : Int)) = true := by simp; omega
           clear hr hoe hlw0 hlb0
           go_enter Tryz.func108, Tryz.ntmps108
           go_wp2
           go_quiet (fail)
           go_wp2_with fail
           go_ret
           exact ⟨ret_bool HR.out.symm, by go_grown; exact below_drewN (by go_grown) _⟩
         · obtain rfl : lw = 0 := by omega
           obtain rfl : lb = 0 := by omega
           rw [nil_of_len hlw0 rfl, nil_of_len hlb0 rfl] at hr
           clear hlw0 hlb0 hz hlw hlb hoe
           have HRA : Hid (r = ((L tx).all bareB && !(L tx).isEmpty)) := Lib.hid (by rw [← hr]; simp)
           clear hr
           go_enter Tryz.func108, Tryz.ntmps108
           go_wp2
           go_quiet (fail)
           go_wp2_with fail
           go_loopw [54] (fun i W => ∃ k : Nat, k ≤ tx.size ∧ i = .int .i64 k ∧ ((L tx).take k).all bareB = true ∧ (∀ j, j < tx.size → W.cell? ⟨w.heap.size + 1 + 1, j, none⟩ = some (.int .u8 (((L tx).getD j 0).toNat : Nat))) ∧ W.cell? ⟨w.heap.size + 1, 2, none⟩ = some (.string tx) ∧ Below w.heap.size w W) (fun i _ => tx.size - (intOf i).toNat)
           case atStart => exact ⟨0, Nat.zero_le _, rfl, by simp, HBA.out _ _ (by simp), by rw [(below_bytesWorld _ _ _).cell (by simp)]; simp, below_bytes (below_drewN (by go_grown) _) (by simp; omega) _⟩
           case round =>
            obtain ⟨j, hj, rfl, hal, hce, htc, hbe⟩ := hrel
            have HAL := Lib.hid hal
            have HCE := Lib.hid hce
            have HBE := Lib.hid hbe
            clear hal hce hbe
            by_cases hlt : j < tx.size
            · have hcell := HCE.out j hlt
              have hg := getD_get (l := L tx) (k := j) hlt
              obtain ⟨c, hc⟩ : ∃ c, c = (L tx).getD j 0 := ⟨_, rfl⟩
              rw [← hc] at hcell hg
              have HG := Lib.hid hg
              clear hc hg
              cases hbc : bareB c with
              | false =>
                have HB : Hid (bareB c = false) := Lib.hid hbc
                have CC := Lib.hid (CB.out c)
                rw [hbc] at CC
                have HR : Hid (r = false) := Lib.hid (by rw [HRA.out, all_no HG.out HB.out]; rfl)
                clear hbc
                go_wp2_with fail
                refine (CC.out _).mono ?_
                rintro e w1 ⟨rfl, rfl⟩
                go_wp2
                go_ret
                exact ⟨ret_bool HR.out.symm, HBE.out⟩
              | true =>
                have HB : Hid (bareB c = true) := Lib.hid hbc
                have CC := Lib.hid (CB.out c)
                rw [hbc] at CC
                clear hbc
                go_wp2_with fail
                refine (CC.out _).mono ?_
                rintro e w1 ⟨rfl, rfl⟩
                go_wp2
                go_roundw
                case rel => exact ⟨j + 1, by omega, by go_num, all_to HAL.out HG.out HB.out, HCE.out, htc, HBE.out⟩
                case measure => simp [intOf]; omega
            · have HR : Hid (r = !(L tx).isEmpty) := Lib.hid (by rw [HRA.out, all_end HAL.out (by rw [L_size]; omega)]; rfl)
              clear HRA
              cases he : (L tx).isEmpty with
              | true =>
                have e2 : tx.toList.isEmpty = true := by rw [isEmpty_L]; exact he
                rw [he] at HR
                clear he
                go_wp2
                go_ret
                exact ⟨ret_bool HR.out.symm, HBE.out⟩
              | false =>
                have e2 : tx.toList.isEmpty = false := by rw [isEmpty_L]; exact he
                rw [he] at HR
                clear he
                go_wp2
                go_ret
                exact ⟨ret_bool HR.out.symm, HBE.out⟩
   | true =>
     rw [hk, Bool.true_and] at hr
     cases xq with
     | true =>
       cases qd with
       | true =>
         cases hoe : (L op).isEmpty with
         | false =>
           have HR : Hid (r = false) := Lib.hid (by rw [← hr, hoe]; rfl)
           have e1 : op.toList.isEmpty = false := by rw [isEmpty_L]; exact hoe
           clear hr hoe hlw0 hlb0
           go_enter Tryz.func108, Tryz.ntmps108
           go_wp2
           go_quiet (fail)
           go_wp2_with fail
           go_ret
           exact ⟨ret_bool HR.out.symm, by go_grown; exact below_drewN (by go_grown) _⟩
         | true =>
           have e1 : op.toList.isEmpty = true := by rw [isEmpty_L]; exact hoe
           rw [hoe] at hr
           by_cases hz : 0 < lw + lb
           · have HR : Hid (r = false) := Lib.hid (by
              rw [← hr]
              by_cases h0 : 0 < lw
              · rw [not_nil_of_len hlw0 h0]; rfl
              · rw [nil_of_len hlw0 (by omega), not_nil_of_len hlb0 (by omega)]; rfl)
             have e2 : decide ((0 : Int) < (lw : Int) + (lb : Int)) = true := by simp; omega
             clear hr hoe hlw0 hlb0
             go_enter Tryz.func108, Tryz.ntmps108
             go_wp2
             go_quiet (fail)
             go_wp2_with fail
             go_ret
             exact ⟨ret_bool HR.out.symm, by go_grown; exact below_drewN (by go_grown) _⟩
           · obtain rfl : lw = 0 := by omega
             obtain rfl : lb = 0 := by omega
             rw [nil_of_len hlw0 rfl, nil_of_len hlb0 rfl] at hr
             clear hlw0 hlb0 hz hlw hlb hoe
             have HR : Hid (r = false) := Lib.hid (by rw [← hr]; simp [*])
             clear hr
             go_enter Tryz.func108, Tryz.ntmps108
             go_wp2
             go_quiet (fail)
             go_wp2_with fail
             go_ret
             exact ⟨ret_bool HR.out.symm, by go_grown; exact below_drewN (by go_grown) _⟩
       | false =>
         cases hoe : (L op).isEmpty with
         | false =>
           have HR : Hid (r = false) := Lib.hid (by rw [← hr, hoe]; rfl)
           have e1 : op.toList.isEmpty = false := by rw [isEmpty_L]; exact hoe
           clear hr hoe hlw0 hlb0
           go_enter Tryz.func108, Tryz.ntmps108
           go_wp2
           go_quiet (fail)
           go_wp2_with fail
           go_ret
           exact ⟨ret_bool HR.out.symm, by go_grown; exact below_drewN (by go_grown) _⟩
         | true =>
           have e1 : op.toList.isEmpty = true := by rw [isEmpty_L]; exact hoe
           rw [hoe] at hr
           by_cases hz : 0 < lw + lb
           · have HR : Hid (r = false) := Lib.hid (by
              rw [← hr]
              by_cases h0 : 0 < lw
              · rw [not_nil_of_len hlw0 h0]; rfl
              · rw [nil_of_len hlw0 (by omega), not_nil_of_len hlb0 (by omega)]; rfl)
             have e2 : decide ((0 : Int) < (lw : Int) + (lb : Int)) = true := by simp; omega
             clear hr hoe hlw0 hlb0
             go_enter Tryz.func108, Tryz.ntmps108
             go_wp2
             go_quiet (fail)
             go_wp2_with fail
             go_ret
             exact ⟨ret_bool HR.out.symm, by go_grown; exact below_drewN (by go_grown) _⟩
           · obtain rfl : lw = 0 := by omega
             obtain rfl : lb = 0 := by omega
             rw [nil_of_len hlw0 rfl, nil_of_len hlb0 rfl] at hr
             clear hlw0 hlb0 hz hlw hlb hoe
             have HRA : Hid (r = ((L tx).all bareB && !(L tx).isEmpty)) := Lib.hid (by rw [← hr]; simp)
             clear hr
             go_enter Tryz.func108, Tryz.ntmps108
             go_wp2
             go_quiet (fail)
             go_wp2_with fail
             go_loopw [54] (fun i W => ∃ k : Nat, k ≤ tx.size ∧ i = .int .i64 k ∧ ((L tx).take k).all bareB = true ∧ (∀ j, j < tx.size → W.cell? ⟨w.heap.size + 1 + 1, j, none⟩ = some (.int .u8 (((L tx).getD j 0).toNat : Nat))) ∧ W.cell? ⟨w.heap.size + 1, 2, none⟩ = some (.string tx) ∧ Below w.heap.size w W) (fun i _ => tx.size - (intOf i).toNat)
             case atStart => exact ⟨0, Nat.zero_le _, rfl, by simp, HBA.out _ _ (by simp), by rw [(below_bytesWorld _ _ _).cell (by simp)]; simp, below_bytes (below_drewN (by go_grown) _) (by simp; omega) _⟩
             case round =>
              obtain ⟨j, hj, rfl, hal, hce, htc, hbe⟩ := hrel
              have HAL := Lib.hid hal
              have HCE := Lib.hid hce
              have HBE := Lib.hid hbe
              clear hal hce hbe
              by_cases hlt : j < tx.size
              · have hcell := HCE.out j hlt
                have hg := getD_get (l := L tx) (k := j) hlt
                obtain ⟨c, hc⟩ : ∃ c, c = (L tx).getD j 0 := ⟨_, rfl⟩
                rw [← hc] at hcell hg
                have HG := Lib.hid hg
                clear hc hg
                cases hbc : bareB c with
                | false =>
                  have HB : Hid (bareB c = false) := Lib.hid hbc
                  have CC := Lib.hid (CB.out c)
                  rw [hbc] at CC
                  have HR : Hid (r = false) := Lib.hid (by rw [HRA.out, all_no HG.out HB.out]; rfl)
                  clear hbc
                  go_wp2_with fail
                  refine (CC.out _).mono ?_
                  rintro e w1 ⟨rfl, rfl⟩
                  go_wp2
                  go_ret
                  exact ⟨ret_bool HR.out.symm, HBE.out⟩
                | true =>
                  have HB : Hid (bareB c = true) := Lib.hid hbc
                  have CC := Lib.hid (CB.out c)
                  rw [hbc] at CC
                  clear hbc
                  go_wp2_with fail
                  refine (CC.out _).mono ?_
                  rintro e w1 ⟨rfl, rfl⟩
                  go_wp2
                  go_roundw
                  case rel => exact ⟨j + 1, by omega, by go_num, all_to HAL.out HG.out HB.out, HCE.out, htc, HBE.out⟩
                  case measure => simp [intOf]; omega
              · have HR : Hid (r = !(L tx).isEmpty) := Lib.hid (by rw [HRA.out, all_end HAL.out (by rw [L_size]; omega)]; rfl)
                clear HRA
                cases he : (L tx).isEmpty with
                | true =>
                  have e2 : tx.toList.isEmpty = true := by rw [isEmpty_L]; exact he
                  rw [he] at HR
                  clear he
                  go_wp2
                  go_ret
                  exact ⟨ret_bool HR.out.symm, HBE.out⟩
                | false =>
                  have e2 : tx.toList.isEmpty = false := by rw [isEmpty_L]; exact he
                  rw [he] at HR
                  clear he
                  go_wp2
                  go_ret
                  exact ⟨ret_bool HR.out.symm, HBE.out⟩
     | false =>
       cases qd with
       | true =>
         cases hoe : (L op).isEmpty with
         | false =>
           have HR : Hid (r = false) := Lib.hid (by rw [← hr, hoe]; rfl)
           have e1 : op.toList.isEmpty = false := by rw [isEmpty_L]; exact hoe
           clear hr hoe hlw0 hlb0
           go_enter Tryz.func108, Tryz.ntmps108
           go_wp2
           go_quiet (fail)
           go_wp2_with fail
           go_ret
           exact ⟨ret_bool HR.out.symm, by go_grown; exact below_drewN (by go_grown) _⟩
         | true =>
           have e1 : op.toList.isEmpty = true := by rw [isEmpty_L]; exact hoe
           rw [hoe] at hr
           by_cases hz : 0 < lw + lb
           · have HR : Hid (r = false) := Lib.hid (by
              rw [← hr]
              by_cases h0 : 0 < lw
              · rw [not_nil_of_len hlw0 h0]; rfl
              · rw [nil_of_len hlw0 (by omega), not_nil_of_len hlb0 (by omega)]; rfl)
             have e2 : decide ((0 : Int) < (lw : Int) + (lb : Int)) = true := by simp; omega
             clear hr hoe hlw0 hlb0
             go_enter Tryz.func108, Tryz.ntmps108
             go_wp2
             go_quiet (fail)
             go_wp2_with fail
             go_ret
             exact ⟨ret_bool HR.out.symm, by go_grown; exact below_drewN (by go_grown) _⟩
           · obtain rfl : lw = 0 := by omega
             obtain rfl : lb = 0 := by omega
             rw [nil_of_len hlw0 rfl, nil_of_len hlb0 rfl] at hr
             clear hlw0 hlb0 hz hlw hlb hoe
             go_enter Tryz.func108, Tryz.ntmps108
             go_wp2
             go_quiet (fail)
             go_wp2_with fail
             refine (CI.out _).mono ?_
             rintro e w1 ⟨⟨m, rfl, hm⟩, rfl⟩
             have HR : Hid (r = !decide (0 ≤ m)) := Lib.hid (by rw [← hr, hm]; simp)
             clear hm hr
             go_wp2
             go_ret
             exact ⟨ret_bool (by rw [HR.out, not_le0]), by go_grown; exact below_drewN (by go_grown) _⟩
       | false =>
         cases hoe : (L op).isEmpty with
         | false =>
           have HR : Hid (r = false) := Lib.hid (by rw [← hr, hoe]; rfl)
           have e1 : op.toList.isEmpty = false := by rw [isEmpty_L]; exact hoe
           clear hr hoe hlw0 hlb0
           go_enter Tryz.func108, Tryz.ntmps108
           go_wp2
           go_quiet (fail)
           go_wp2_with fail
           go_ret
           exact ⟨ret_bool HR.out.symm, by go_grown; exact below_drewN (by go_grown) _⟩
         | true =>
           have e1 : op.toList.isEmpty = true := by rw [isEmpty_L]; exact hoe
           rw [hoe] at hr
           by_cases hz : 0 < lw + lb
           · have HR : Hid (r = false) := Lib.hid (by
              rw [← hr]
              by_cases h0 : 0 < lw
              · rw [not_nil_of_len hlw0 h0]; rfl
              · rw [nil_of_len hlw0 (by omega), not_nil_of_len hlb0 (by omega)]; rfl)
             have e2 : decide ((0 : Int) < (lw : Int) + (lb : Int)) = true := by simp; omega
             clear hr hoe hlw0 hlb0
             go_enter Tryz.func108, Tryz.ntmps108
             go_wp2
             go_quiet (fail)
             go_wp2_with fail
             go_ret
             exact ⟨ret_bool HR.out.symm, by go_grown; exact below_drewN (by go_grown) _⟩
           · obtain rfl : lw = 0 := by omega
             obtain rfl : lb = 0 := by omega
             rw [nil_of_len hlw0 rfl, nil_of_len hlb0 rfl] at hr
             clear hlw0 hlb0 hz hlw hlb hoe
             have HR : Hid (r = false) := Lib.hid (by rw [← hr]; simp [*])
             clear hr
             go_enter Tryz.func108, Tryz.ntmps108
             go_wp2
             go_quiet (fail)
             go_wp2_with fail
             go_ret
             exact ⟨ret_bool HR.out.symm, by go_grown; exact below_drewN (by go_grown) _⟩
end Go.Proofs.YtnackmnoldkihaaGreatDoor
