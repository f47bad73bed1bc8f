/-
  The walk of param.
-/
import Derived.Test.YtnackmnoldkihaaGreatDoorQB3
import Derived.RegionTactic
import Derived.Outline
import Derived.Deep.QuietTactic
import Derived.BigQuiet
import Derived.StillTailTactics
import Derived.Deep.RegionWith
import Derived.Deep.DeepCutAuto
import Derived.Tactics
import Derived.Tactics2
set_option linter.unusedVariables false
set_option linter.unusedSimpArgs false
/-
  A level deeper; bytes that may stand behind a part.
-/
namespace Go.Proofs.YtnackmnoldkihaaGreatDoor
open Go.RowKit

theorem since {w W w1 : World} (hb : Below W.heap.size W w1) (h : Below w.heap.size w W) : Below w.heap.size w w1 := h.trans (hb.mono h.size)
theorem bcell {W w1 : World} (hb : Below W.heap.size W w1) : (∀ b o, b < W.heap.size → w1.cell? ⟨b, o, none⟩ = W.cell? ⟨b, o, none⟩) ∧ (∀ b o, b < W.heap.size → w1.frozen? ⟨b, o, none⟩ = W.frozen? ⟨b, o, none⟩) :=
  ⟨fun b o h => hb.cell (p := ⟨b, o, none⟩) h, fun b o h => hb.frozen (p := ⟨b, o, none⟩) h⟩
theorem below_drewN {B : Nat} {a w : World} (h : Below B a w) (n : Nat) : Below B a (w.drewN n) := h.trans ⟨rfl, rfl, rfl, Nat.le_refl _, fun _ _ => rfl⟩

theorem deeper_yes (n : Int) (w : World) (h0 : 0 < n) (h1 : n ≤ 9223372036854775807) :
    Calls Tryz.prog 65 #[.agg #[.int .i64 n]] w fun e w' => e = .returned (.tuple #[.agg #[.int .i64 (n - 1)], .bool true]) ∧ Below w.heap.size w w' := by
  go_enter Tryz.func65, Tryz.ntmps65
  go_wp2
  go_region
  all_goals go_wp2
  all_goals exact bodyPost_ret (v := .tuple #[.agg #[.int .i64 (n - 1)], .bool true]) (by simp [results, Tryz.results65, go_sem]) rfl ⟨rfl, by go_grown⟩
def NoMore (w : World) (e : Ending) (w' : World) : Prop := ∃ m : Int, e = .returned (.tuple #[.agg #[.int .i64 m], .bool false]) ∧ Below w.heap.size w w'
theorem deeper_no (n : Int) (w : World) (h0 : n ≤ 0) :
    Calls Tryz.prog 65 #[.agg #[.int .i64 n]] w (NoMore w) := by
  obtain ⟨m, hm⟩ : ∃ m, wrap64 (n - 1) = m := ⟨_, rfl⟩
  have hg : decide (0 < n) = false := by simp; omega
  go_enter Tryz.func65, Tryz.ntmps65
  go_wp2
  go_region
  all_goals go_wp2
  all_goals exact bodyPost_ret (v := .tuple #[.agg #[.int .i64 m], .bool false]) (by simp [results, Tryz.results65, go_sem]) rfl ⟨m, rfl, by go_grown⟩

/-- A part stands behind one like it. -/
def besideB (q : Option Pt) (qd : Bool) : Bool := match q with | none => false | some x => x.kind == 1 && x.quoted == qd
def litB (q : Option Pt) (p : Pt) : Bool :=
  (L p.op).isEmpty && (p.word.isEmpty && p.body.isEmpty) && !besideB q p.quoted && (bif p.quoted then !hasB (L p.text) 0 else ((L p.text).all bareB && !(L p.text).isEmpty))

/-- A pointer to a part, or none. -/
def PrevAt (w : World) (B d : Nat) (q : Option Pt) (v : Value) : Prop := match q with
  | none => v = .pointer none
  | some x => ∃ b o c, v = .pointer (some ⟨b, o, none⟩) ∧ b < B ∧ CellsAt w b o c ∧ PtC w B d x c
theorem PrevAt.keep {w w' : World} {B B' d : Nat} {q : Option Pt} {v : Value} (h : PrevAt w B d q v) (hb : Below B w w') (hB : B ≤ B') : PrevAt w' B' d q v := by
  cases q with
  | none => exact h
  | some x =>
    obtain ⟨b, o, c, e, h1, h2, h3⟩ := h
    exact ⟨b, o, c, e, by omega, fun j u hj => by rw [hb.cell h1]; exact h2 j u hj, h3.keep fun size n v xs hs => (hs.below hb).mono hB⟩
/-- What a walk wants of it. -/
theorem PrevAt.open {w : World} {B d : Nat} {x : Pt} {v : Value} (h : PrevAt w B d (some x) v) : ∃ b o, v = .pointer (some ⟨b, o, none⟩) ∧ b < B ∧ w.cell? ⟨b, o, none⟩ = some (.int .i64 x.kind) ∧ w.cell? ⟨b, o + 1, none⟩ = some (.bool x.quoted) ∧ w.cell? ⟨b, o + 2, none⟩ = some (.string x.text) := by
  obtain ⟨b, o, c, e, h1, h2, _, _, wv, bv, rfl, _⟩ := h
  exact ⟨b, o, e, h1, h2 0 _ rfl, h2 1 _ rfl, h2 2 _ rfl⟩

theorem PtsIn.shape {w : World} {B d : Nat} {l : List Pt} {v : Value} (h : PtsIn w B d l v) : ∃ a cap, v = .slice a l.length cap ∧ l.length ≤ bigN := by
  cases d with
  | zero => rw [PtsIn] at h; obtain ⟨a, c, e⟩ := h.shape; exact ⟨a, c, e, h.1⟩
  | succ d => rw [PtsIn.succ] at h; obtain ⟨a, c, e⟩ := h.shape; exact ⟨a, c, e, h.1⟩
theorem NdsIn.shape {w : World} {B d : Nat} {l : List Nd} {v : Value} (h : NdsIn w B d l v) : ∃ a cap, v = .slice a l.length cap ∧ l.length ≤ bigN := by
  cases d with
  | zero => rw [NdsIn] at h; obtain ⟨a, c, e⟩ := h.shape; exact ⟨a, c, e, h.1⟩
  | succ d => rw [NdsIn.succ] at h; obtain ⟨a, c, e⟩ := h.shape; exact ⟨a, c, e, h.1⟩
theorem bytes_at (w : World) (s : ByteArray) (W : World) (g : Nat) (hg : W.heap.size = g) : ∀ j, j < s.size → (Lib.bytesWorld W 5 s).cell? ⟨g, j, none⟩ = some (.int .u8 (((L s).getD j 0).toNat : Nat)) := fun j hj => by subst hg; exact (BytesAt.made W 5 s j hj).1
theorem below_bytes {B : Nat} {w W : World} (h : Below B w W) (hB : B ≤ W.heap.size) (s : ByteArray) : Below B w (Lib.bytesWorld W 5 s) := h.trans ((below_bytesWorld W 5 s).mono hB)
theorem nil_of_len {α : Type} {l : List α} {n : Nat} (h : l.length = n) (h0 : n = 0) : l.isEmpty = true := by cases l with | nil => rfl | cons => simp at h; omega
theorem not_nil_of_len {α : Type} {l : List α} {n : Nat} (h : l.length = n) (h0 : 0 < n) : l.isEmpty = false := by cases l with | nil => simp at h; omega | cons => rfl
theorem all_to {α : Type} {f : α → Bool} {l : List α} {k : Nat} {x : α} (h : (l.take k).all f = true) (hx : l[k]? = some x) (hf : f x = true) : (l.take (k + 1)).all f = true := by
  rw [List.take_add_one, hx]; simp [List.all_append, h, hf]
theorem all_no {α : Type} {f : α → Bool} {l : List α} {k : Nat} {x : α} (hx : l[k]? = some x) (hf : f x = false) : l.all f = false := by
  rw [List.all_eq_false]; exact ⟨x, List.mem_of_getElem? hx, by rw [hf]; decide⟩
theorem all_end {α : Type} {f : α → Bool} {l : List α} {k : Nat} (h : (l.take k).all f = true) (hk : l.length ≤ k) : l.all f = true := by rwa [List.take_of_length_le hk] at h
theorem not_le0 (m : Int) : decide (m < 0) = !decide (0 ≤ m) := by by_cases h : m < 0 <;> simp [h]; omega
theorem getD_get {l : List UInt8} {k : Nat} (h : k < l.length) : l[k]? = some (l.getD k 0) := by simp [List.getD, h]

set_option maxHeartbeats 2000000 in
set_option maxRecDepth 100000 in
theorem lit_any (q : Option Pt) (p : Pt) (n : Int) (w : World) (d : Nat) (c : List Value) (pv : Value) (hp : PtC w w.heap.size d p c) (hq : PrevAt w w.heap.size d q pv) :
    Calls Tryz.prog 108 #[.agg #[.int .i64 n], .agg c.toArray, pv] w fun e w' => e = .returned (.bool (litB q p)) ∧ Below w.heap.size w w' := by
  obtain ⟨h1, h2, wv, bv, rfl, hw, hb⟩ := hp
  obtain ⟨k, qd, tx, op, ws, bs⟩ := p
  simp only [Pt.text, Pt.op, Pt.kind, Pt.quoted, Pt.word, Pt.body] at h1 h2 hw hb
  obtain ⟨wa, wc, rfl, hlw⟩ := hw.shape
  obtain ⟨ba, bc, rfl, hlb⟩ := hb.shape
  simp only [Pt.text, Pt.op, Pt.kind, Pt.quoted, Pt.word, Pt.body]
  obtain ⟨lw, hlw0⟩ : ∃ m, ws.length = m := ⟨_, rfl⟩
  obtain ⟨lb, hlb0⟩ : ∃ m, bs.length = m := ⟨_, rfl⟩
  obtain ⟨r, hr⟩ : ∃ r, litB q ⟨k, qd, tx, op, ws, bs⟩ = r := ⟨_, rfl⟩
  rw [hlw0] at hlw
  rw [hlb0] at hlb
  rw [hlw0, hlb0, hr]
  rw [litB] at hr
  simp only [Pt.text, Pt.op, Pt.quoted, Pt.word, Pt.body] at hr
  unfold bigN at h1 h2 hlw hlb
  clear hw hb
  have CI : Hid (∀ W, Calls Tryz.prog 44 #[.string tx, .int .u8 0] W fun e w' => (∃ n : Int, e = .returned (.int .i64 n) ∧ decide (0 ≤ n) = hasB (L tx) 0) ∧ W = w') := Lib.hid (fun W => index_any tx 0 W)
  have CB := Lib.hid bare_any
  have HBA := Lib.hid (bytes_at w tx)
  cases q with
  | none =>
    obtain rfl : pv = .pointer none := hq
    rw [besideB] at hr
    cases qd with
    | true =>
      cases hoe : (L op).isEmpty with
      | false =>
        have HR : Hid (r = false) := Lib.hid (by rw [← hr, hoe]; rfl)
        have e1 : op.toList.isEmpty = false := by rw [isEmpty_L]; exact hoe
        clear hr hoe hlw0 hlb0
        go_enter Tryz.func108, Tryz.ntmps108
        go_wp2
        go_quiet (fail)
        go_wp2_with fail
        go_ret
        exact ⟨ret_bool HR.out.symm, by go_grown; exact below_drewN (by go_grown) _⟩
      | true =>
        have e1 : op.toList.isEmpty = true := by rw [isEmpty_L]; exact hoe
        rw [hoe] at hr
        by_cases hz : 0 < lw + lb
        · have HR : Hid (r = false) := Lib.hid (by
            rw [← hr]
            by_cases h0 : 0 < lw
            · rw [not_nil_of_len hlw0 h0]; rfl
            · rw [nil_of_len hlw0 (by omega), not_nil_of_len hlb0 (by omega)]; rfl)
          have e2 : decide ((0 : Int) < (lw : Int) + (lb : Int)) = true := by simp; omega
          clear hr hoe hlw0 hlb0
          go_enter Tryz.func108, Tryz.ntmps108
          go_wp2
          go_quiet (fail)
          go_wp2_with fail
          go_ret
          exact ⟨ret_bool HR.out.symm, by go_grown; exact below_drewN (by go_grown) _⟩
        · obtain rfl : lw = 0 := by omega
          obtain rfl : lb = 0 := by omega
          rw [nil_of_len hlw0 rfl, nil_of_len hlb0 rfl] at hr
          clear hlw0 hlb0 hz hlw hlb hoe
          go_enter Tryz.func108, Tryz.ntmps108
          go_wp2
          go_quiet (fail)
          go_wp2_with fail
          refine (CI.out _).mono ?_
          rintro e w1 ⟨⟨m, rfl, hm⟩, rfl⟩
          have HR : Hid (r = !decide (0 ≤ m)) := Lib.hid (by rw [← hr, hm]; simp)
          clear hm hr
          go_wp2
          go_ret
          exact ⟨ret_bool (by rw [HR.out, not_le0]), by go_grown; exact below_drewN (by go_grown) _⟩
    | false =>
      cases hoe : (L op).isEmpty with
      | false =>
        have HR : Hid (r = false) := Lib.hid (by rw [← hr, hoe]; rfl)
        have e1 : op.toList.isEmpty = false := by rw [isEmpty_L]; exact hoe
        clear hr hoe hlw0 hlb0
        go_enter Tryz.func108, Tryz.ntmps108
        go_wp2
        go_quiet (fail)
        go_wp2_with fail
        go_ret
        exact ⟨ret_bool HR.out.symm, by go_grown; exact below_drewN (by go_grown) _⟩
      | true =>
        have e1 : op.toList.isEmpty = true := by rw [isEmpty_L]; exact hoe
        rw [hoe] at hr
        by_cases hz : 0 < lw + lb
        · have HR : Hid (r = false) := Lib.hid (by
            rw [← hr]
            by_cases h0 : 0 < lw
            · rw [not_nil_of_len hlw0 h0]; rfl
            · rw [nil_of_len hlw0 (by omega), not_nil_of_len hlb0 (by omega)]; rfl)
          have e2 : decide ((0 : Int) < (lw : Int) + (lb : Int)) = true := by simp; omega
          clear hr hoe hlw0 hlb0
          go_enter Tryz.func108, Tryz.ntmps108
          go_wp2
          go_quiet (fail)
          go_wp2_with fail
          go_ret
          exact ⟨ret_bool HR.out.symm, by go_grown; exact below_drewN (by go_grown) _⟩
        · obtain rfl : lw = 0 := by omega
          obtain rfl : lb = 0 := by omega
          rw [nil_of_len hlw0 rfl, nil_of_len hlb0 rfl] at hr
          clear hlw0 hlb0 hz hlw hlb hoe
          have HRA : Hid (r = ((L tx).all bareB && !(L tx).isEmpty)) := Lib.hid (by rw [← hr]; simp)
          clear hr
          go_enter Tryz.func108, Tryz.ntmps108
          go_wp2
          go_quiet (fail)
          go_wp2_with fail
          go_loopw [54] (fun i W => ∃ k : Nat, k ≤ tx.size ∧ i = .int .i64 k ∧ ((L tx).take k).all bareB = true ∧ (∀ j, j < tx.size → W.cell? ⟨w.heap.size + 1 + 1, j, none⟩ = some (.int .u8 (((L tx).getD j 0).toNat : Nat))) ∧ W.cell? ⟨w.heap.size + 1, 2, none⟩ = some (.string tx) ∧ Below w.heap.size w W) (fun i _ => tx.size - (intOf i).toNat)
          case atStart => exact ⟨0, Nat.zero_le _, rfl, by simp, HBA.out _ _ (by simp), by rw [(below_bytesWorld _ _ _).cell (by simp)]; simp, below_bytes (below_drewN (by go_grown) _) (by simp; omega) _⟩
          case round =>
            obtain ⟨j, hj, rfl, hal, hce, htc, hbe⟩ := hrel
            have HAL := Lib.hid hal
            have HCE := Lib.hid hce
            have HBE := Lib.hid hbe
            clear hal hce hbe
            by_cases hlt : j < tx.size
            · have hcell := HCE.out j hlt
              have hg := getD_get (l := L tx) (k := j) hlt
              obtain ⟨c, hc⟩ : ∃ c, c = (L tx).getD j 0 := ⟨_, rfl⟩
              rw [← hc] at hcell hg
              have HG := Lib.hid hg
              clear hc hg
              cases hbc : bareB c with
              | false =>
                have HB : Hid (bareB c = false) := Lib.hid hbc
                have CC := Lib.hid (CB.out c)
                rw [hbc] at CC
                have HR : Hid (r = false) := Lib.hid (by rw [HRA.out, all_no HG.out HB.out]; rfl)
                clear hbc
                go_wp2_with fail
                refine (CC.out _).mono ?_
                rintro e w1 ⟨rfl, rfl⟩
                go_wp2
                go_ret
                exact ⟨ret_bool HR.out.symm, HBE.out⟩
              | true =>
                have HB : Hid (bareB c = true) := Lib.hid hbc
                have CC := Lib.hid (CB.out c)
                rw [hbc] at CC
                clear hbc
                go_wp2_with fail
                refine (CC.out _).mono ?_
                rintro e w1 ⟨rfl, rfl⟩
                go_wp2
                go_roundw
                case rel => exact ⟨j + 1, by omega, by go_num, all_to HAL.out HG.out HB.out, HCE.out, htc, HBE.out⟩
                case measure => simp [intOf]; omega
            · have HR : Hid (r = !(L tx).isEmpty) := Lib.hid (by rw [HRA.out, all_end HAL.out (by rw [L_size]; omega)]; rfl)
              clear HRA
              cases he : (L tx).isEmpty with
              | true =>
                have e2 : tx.toList.isEmpty = true := by rw [isEmpty_L]; exact he
                rw [he] at HR
                clear he
                go_wp2
                go_ret
                exact ⟨ret_bool HR.out.symm, HBE.out⟩
              | false =>
                have e2 : tx.toList.isEmpty = false := by rw [isEmpty_L]; exact he
                rw [he] at HR
                clear he
                go_wp2
                go_ret
                exact ⟨ret_bool HR.out.symm, HBE.out⟩
  | some x =>
    obtain ⟨b, o, rfl, hlt, c0, c1, c2⟩ := hq.open
    rw [besideB] at hr
    clear hq
    obtain ⟨xk, hxk⟩ : ∃ m, x.kind = m := ⟨_, rfl⟩
    obtain ⟨xq, hxq⟩ : ∃ m, x.quoted = m := ⟨_, rfl⟩
    rw [hxk] at hr c0
    rw [hxq] at hr c1
    clear hxk hxq c2
    cases hk : (xk == 1) with
    | false =>
      rw [hk, Bool.false_and] at hr
      clear c1
      cases qd with
      | true =>
        cases hoe : (L op).isEmpty with
        | false =>
          have HR : Hid (r = false) := Lib.hid (by rw [← hr, hoe]; rfl)
          have e1 : op.toList.isEmpty = false := by rw [isEmpty_L]; exact hoe
          clear hr hoe hlw0 hlb0
          go_enter Tryz.func108, Tryz.ntmps108
          go_wp2
          go_quiet (fail)
          go_wp2_with fail
          go_ret
          exact ⟨ret_bool HR.out.symm, by go_grown; exact below_drewN (by go_grown) _⟩
        | true =>
          have e1 : op.toList.isEmpty = true := by rw [isEmpty_L]; exact hoe
          rw [hoe] at hr
          by_cases hz : 0 < lw + lb
          · have HR : Hid (r = false) := Lib.hid (by
              rw [← hr]
              by_cases h0 : 0 < lw
              · rw [not_nil_of_len hlw0 h0]; rfl
              · rw [nil_of_len hlw0 (by omega), not_nil_of_len hlb0 (by omega)]; rfl)
            have e2 : decide ((0 : Int) < (lw : Int) + (lb : Int)) = true := by simp; omega
            clear hr hoe hlw0 hlb0
            go_enter Tryz.func108, Tryz.ntmps108
            go_wp2
            go_quiet (fail)
            go_wp2_with fail
            go_ret
            exact ⟨ret_bool HR.out.symm, by go_grown; exact below_drewN (by go_grown) _⟩
          · obtain rfl : lw = 0 := by omega
            obtain rfl : lb = 0 := by omega
            rw [nil_of_len hlw0 rfl, nil_of_len hlb0 rfl] at hr
            clear hlw0 hlb0 hz hlw hlb hoe
            go_enter Tryz.func108, Tryz.ntmps108
            go_wp2
            go_quiet (fail)
            go_wp2_with fail
            refine (CI.out _).mono ?_
            rintro e w1 ⟨⟨m, rfl, hm⟩, rfl⟩
            have HR : Hid (r = !decide (0 ≤ m)) := Lib.hid (by rw [← hr, hm]; simp)
            clear hm hr
            go_wp2
            go_ret
            exact ⟨ret_bool (by rw [HR.out, not_le0]), by go_grown; exact below_drewN (by go_grown) _⟩
      | false =>
        cases hoe : (L op).isEmpty with
        | false =>
          have HR : Hid (r = false) := Lib.hid (by rw [← hr, hoe]; rfl)
          have e1 : op.toList.isEmpty = false := by rw [isEmpty_L]; exact hoe
          clear hr hoe hlw0 hlb0
          go_enter Tryz.func108, Tryz.ntmps108
          go_wp2
          go_quiet (fail)
          go_wp2_with fail
          go_ret
          exact ⟨ret_bool HR.out.symm, by go_grown; exact below_drewN (by go_grown) _⟩
        | true =>
          have e1 : op.toList.isEmpty = true := by rw [isEmpty_L]; exact hoe
          rw [hoe] at hr
          by_cases hz : 0 < lw + lb
          · have HR : Hid (r = false) := Lib.hid (by
              rw [← hr]
              by_cases h0 : 0 < lw
              · rw [not_nil_of_len hlw0 h0]; rfl
              · rw [nil_of_len hlw0 (by omega), not_nil_of_len hlb0 (by omega)]; rfl)
            have e2 : decide ((0 : Int) < (lw : Int) + (lb : Int)) = true := by simp; omega
            clear hr hoe hlw0 hlb0
            go_enter Tryz.func108, Tryz.ntmps108
            go_wp2
            go_quiet (fail)
            go_wp2_with fail
            go_ret
            exact ⟨ret_bool HR.out.symm, by go_grown; exact below_drewN (by go_grown) _⟩
          · obtain rfl : lw = 0 := by omega
            obtain rfl : lb = 0 := by omega
            rw [nil_of_len hlw0 rfl, nil_of_len hlb0 rfl] at hr
            clear hlw0 hlb0 hz hlw hlb hoe
            have HRA : Hid (r = ((L tx).all bareB && !(L tx).isEmpty)) := Lib.hid (by rw [← hr]; simp)
            clear hr
            go_enter Tryz.func108, Tryz.ntmps108
            go_wp2
            go_quiet (fail)
            go_wp2_with fail
            go_loopw [54] (fun i W => ∃ k : Nat, k ≤ tx.size ∧ i = .int .i64 k ∧ ((L tx).take k).all bareB = true ∧ (∀ j, j < tx.size → W.cell? ⟨w.heap.size + 1 + 1, j, none⟩ = some (.int .u8 (((L tx).getD j 0).toNat : Nat))) ∧ W.cell? ⟨w.heap.size + 1, 2, none⟩ = some (.string tx) ∧ Below w.heap.size w W) (fun i _ => tx.size - (intOf i).toNat)
            case atStart => exact ⟨0, Nat.zero_le _, rfl, by simp, HBA.out _ _ (by simp), by rw [(below_bytesWorld _ _ _).cell (by simp)]; simp, below_bytes (below_drewN (by go_grown) _) (by simp; omega) _⟩
            case round =>
              obtain ⟨j, hj, rfl, hal, hce, htc, hbe⟩ := hrel
              have HAL := Lib.hid hal
              have HCE := Lib.hid hce
              have HBE := Lib.hid hbe
              clear hal hce hbe
              by_cases hlt : j < tx.size
              · have hcell := HCE.out j hlt
                have hg := getD_get (l := L tx) (k := j) hlt
                obtain ⟨c, hc⟩ : ∃ c, c = (L tx).getD j 0 := ⟨_, rfl⟩
                rw [← hc] at hcell hg
                have HG := Lib.hid hg
                clear hc hg
                cases hbc : bareB c with
                | false =>
                  have HB : Hid (bareB c = false) := Lib.hid hbc
                  have CC := Lib.hid (CB.out c)
                  rw [hbc] at CC
                  have HR : Hid (r = false) := Lib.hid (by rw [HRA.out, all_no HG.out HB.out]; rfl)
                  clear hbc
                  go_wp2_with fail
                  refine (CC.out _).mono ?_
                  rintro e w1 ⟨rfl, rfl⟩
                  go_wp2
                  go_ret
                  exact ⟨ret_bool HR.out.symm, HBE.out⟩
                | true =>
                  have HB : Hid (bareB c = true) := Lib.hid hbc
                  have CC := Lib.hid (CB.out c)
                  rw [hbc] at CC
                  clear hbc
                  go_wp2_with fail
                  refine (CC.out _).mono ?_
                  rintro e w1 ⟨rfl, rfl⟩
                  go_wp2
                  go_roundw
                  case rel => exact ⟨j + 1, by omega, by go_num, all_to HAL.out HG.out HB.out, HCE.out, htc, HBE.out⟩
                  case measure => simp [intOf]; omega
              · have HR : Hid (r = !(L tx).isEmpty) := Lib.hid (by rw [HRA.out, all_end HAL.out (by rw [L_size]; omega)]; rfl)
                clear HRA
                cases he : (L tx).isEmpty with
                | true =>
                  have e2 : tx.toList.isEmpty = true := by rw [isEmpty_L]; exact he
                  rw [he] at HR
                  clear he
                  go_wp2
                  go_ret
                  exact ⟨ret_bool HR.out.symm, HBE.out⟩
                | false =>
                  have e2 : tx.toList.isEmpty = false := by rw [isEmpty_L]; exact he
                  rw [he] at HR
                  clear he
                  go_wp2
                  go_ret
                  exact ⟨ret_bool HR.out.symm, HBE.out⟩
    | true =>
      rw [hk, Bool.true_and] at hr
      cases xq with
      | true =>
        cases qd with
        | true =>
          cases hoe : (L op).isEmpty with
          | false =>
            have HR : Hid (r = false) := Lib.hid (by rw [← hr, hoe]; rfl)
            have e1 : op.toList.isEmpty = false := by rw [isEmpty_L]; exact hoe
            clear hr hoe hlw0 hlb0
            go_enter Tryz.func108, Tryz.ntmps108
            go_wp2
            go_quiet (fail)
            go_wp2_with fail
            go_ret
            exact ⟨ret_bool HR.out.symm, by go_grown; exact below_drewN (by go_grown) _⟩
          | true =>
            have e1 : op.toList.isEmpty = true := by rw [isEmpty_L]; exact hoe
            rw [hoe] at hr
            by_cases hz : 0 < lw + lb
            · have HR : Hid (r = false) := Lib.hid (by
                rw [← hr]
                by_cases h0 : 0 < lw
                · rw [not_nil_of_len hlw0 h0]; rfl
                · rw [nil_of_len hlw0 (by omega), not_nil_of_len hlb0 (by omega)]; rfl)
              have e2 : decide ((0 : Int) < (lw : Int) + (lb : Int)) = true := by simp; omega
              clear hr hoe hlw0 hlb0
              go_enter Tryz.func108, Tryz.ntmps108
              go_wp2
              go_quiet (fail)
              go_wp2_with fail
              go_ret
              exact ⟨ret_bool HR.out.symm, by go_grown; exact below_drewN (by go_grown) _⟩
            · obtain rfl : lw = 0 := by omega
              obtain rfl : lb = 0 := by omega
              rw [nil_of_len hlw0 rfl, nil_of_len hlb0 rfl] at hr
              clear hlw0 hlb0 hz hlw hlb hoe
              have HR : Hid (r = false) := Lib.hid (by rw [← hr]; simp [*])
              clear hr
              go_enter Tryz.func108, Tryz.ntmps108
              go_wp2
              go_quiet (fail)
              go_wp2_with fail
              go_ret
              exact ⟨ret_bool HR.out.symm, by go_grown; exact below_drewN (by go_grown) _⟩
        | false =>
          cases hoe : (L op).isEmpty with
          | false =>
            have HR : Hid (r = false) := Lib.hid (by rw [← hr, hoe]; rfl)
            have e1 : op.toList.isEmpty = false := by rw [isEmpty_L]; exact hoe
            clear hr hoe hlw0 hlb0
            go_enter Tryz.func108, Tryz.ntmps108
            go_wp2
            go_quiet (fail)
            go_wp2_with fail
            go_ret
            exact ⟨ret_bool HR.out.symm, by go_grown; exact below_drewN (by go_grown) _⟩
          | true =>
            have e1 : op.toList.isEmpty = true := by rw [isEmpty_L]; exact hoe
            rw [hoe] at hr
            by_cases hz : 0 < lw + lb
            · have HR : Hid (r = false) := Lib.hid (by
                rw [← hr]
                by_cases h0 : 0 < lw
                · rw [not_nil_of_len hlw0 h0]; rfl
                · rw [nil_of_len hlw0 (by omega), not_nil_of_len hlb0 (by omega)]; rfl)
              have e2 : decide ((0 : Int) < (lw : Int) + (lb : Int)) = true := by simp; omega
              clear hr hoe hlw0 hlb0
              go_enter Tryz.func108, Tryz.ntmps108
              go_wp2
              go_quiet (fail)
              go_wp2_with fail
              go_ret
              exact ⟨ret_bool HR.out.symm, by go_grown; exact below_drewN (by go_grown) _⟩
            · obtain rfl : lw = 0 := by omega
              obtain rfl : lb = 0 := by omega
              rw [nil_of_len hlw0 rfl, nil_of_len hlb0 rfl] at hr
              clear hlw0 hlb0 hz hlw hlb hoe
              have HRA : Hid (r = ((L tx).all bareB && !(L tx).isEmpty)) := Lib.hid (by rw [← hr]; simp)
              clear hr
              go_enter Tryz.func108, Tryz.ntmps108
              go_wp2
              go_quiet (fail)
              go_wp2_with fail
              go_loopw [54] (fun i W => ∃ k : Nat, k ≤ tx.size ∧ i = .int .i64 k ∧ ((L tx).take k).all bareB = true ∧ (∀ j, j < tx.size → W.cell? ⟨w.heap.size + 1 + 1, j, none⟩ = some (.int .u8 (((L tx).getD j 0).toNat : Nat))) ∧ W.cell? ⟨w.heap.size + 1, 2, none⟩ = some (.string tx) ∧ Below w.heap.size w W) (fun i _ => tx.size - (intOf i).toNat)
              case atStart => exact ⟨0, Nat.zero_le _, rfl, by simp, HBA.out _ _ (by simp), by rw [(below_bytesWorld _ _ _).cell (by simp)]; simp, below_bytes (below_drewN (by go_grown) _) (by simp; omega) _⟩
              case round =>
                obtain ⟨j, hj, rfl, hal, hce, htc, hbe⟩ := hrel
                have HAL := Lib.hid hal
                have HCE := Lib.hid hce
                have HBE := Lib.hid hbe
                clear hal hce hbe
                by_cases hlt : j < tx.size
                · have hcell := HCE.out j hlt
                  have hg := getD_get (l := L tx) (k := j) hlt
                  obtain ⟨c, hc⟩ : ∃ c, c = (L tx).getD j 0 := ⟨_, rfl⟩
                  rw [← hc] at hcell hg
                  have HG := Lib.hid hg
                  clear hc hg
                  cases hbc : bareB c with
                  | false =>
                    have HB : Hid (bareB c = false) := Lib.hid hbc
                    have CC := Lib.hid (CB.out c)
                    rw [hbc] at CC
                    have HR : Hid (r = false) := Lib.hid (by rw [HRA.out, all_no HG.out HB.out]; rfl)
                    clear hbc
                    go_wp2_with fail
                    refine (CC.out _).mono ?_
                    rintro e w1 ⟨rfl, rfl⟩
                    go_wp2
                    go_ret
                    exact ⟨ret_bool HR.out.symm, HBE.out⟩
                  | true =>
                    have HB : Hid (bareB c = true) := Lib.hid hbc
                    have CC := Lib.hid (CB.out c)
                    rw [hbc] at CC
                    clear hbc
                    go_wp2_with fail
                    refine (CC.out _).mono ?_
                    rintro e w1 ⟨rfl, rfl⟩
                    go_wp2
                    go_roundw
                    case rel => exact ⟨j + 1, by omega, by go_num, all_to HAL.out HG.out HB.out, HCE.out, htc, HBE.out⟩
                    case measure => simp [intOf]; omega
                · have HR : Hid (r = !(L tx).isEmpty) := Lib.hid (by rw [HRA.out, all_end HAL.out (by rw [L_size]; omega)]; rfl)
                  clear HRA
                  cases he : (L tx).isEmpty with
                  | true =>
                    have e2 : tx.toList.isEmpty = true := by rw [isEmpty_L]; exact he
                    rw [he] at HR
                    clear he
                    go_wp2
                    go_ret
                    exact ⟨ret_bool HR.out.symm, HBE.out⟩
                  | false =>
                    have e2 : tx.toList.isEmpty = false := by rw [isEmpty_L]; exact he
                    rw [he] at HR
                    clear he
                    go_wp2
                    go_ret
                    exact ⟨ret_bool HR.out.symm, HBE.out⟩
      | false =>
        cases qd with
        | true =>
          cases hoe : (L op).isEmpty with
          | false =>
            have HR : Hid (r = false) := Lib.hid (by rw [← hr, hoe]; rfl)
            have e1 : op.toList.isEmpty = false := by rw [isEmpty_L]; exact hoe
            clear hr hoe hlw0 hlb0
            go_enter Tryz.func108, Tryz.ntmps108
            go_wp2
            go_quiet (fail)
            go_wp2_with fail
            go_ret
            exact ⟨ret_bool HR.out.symm, by go_grown; exact below_drewN (by go_grown) _⟩
          | true =>
            have e1 : op.toList.isEmpty = true := by rw [isEmpty_L]; exact hoe
            rw [hoe] at hr
            by_cases hz : 0 < lw + lb
            · have HR : Hid (r = false) := Lib.hid (by
                rw [← hr]
                by_cases h0 : 0 < lw
                · rw [not_nil_of_len hlw0 h0]; rfl
                · rw [nil_of_len hlw0 (by omega), not_nil_of_len hlb0 (by omega)]; rfl)
              have e2 : decide ((0 : Int) < (lw : Int) + (lb : Int)) = true := by simp; omega
              clear hr hoe hlw0 hlb0
              go_enter Tryz.func108, Tryz.ntmps108
              go_wp2
              go_quiet (fail)
              go_wp2_with fail
              go_ret
              exact ⟨ret_bool HR.out.symm, by go_grown; exact below_drewN (by go_grown) _⟩
            · obtain rfl : lw = 0 := by omega
              obtain rfl : lb = 0 := by omega
              rw [nil_of_len hlw0 rfl, nil_of_len hlb0 rfl] at hr
              clear hlw0 hlb0 hz hlw hlb hoe
              go_enter Tryz.func108, Tryz.ntmps108
              go_wp2
              go_quiet (fail)
              go_wp2_with fail
              refine (CI.out _).mono ?_
              rintro e w1 ⟨⟨m, rfl, hm⟩, rfl⟩
              have HR : Hid (r = !decide (0 ≤ m)) := Lib.hid (by rw [← hr, hm]; simp)
              clear hm hr
              go_wp2
              go_ret
              exact ⟨ret_bool (by rw [HR.out, not_le0]), by go_grown; exact below_drewN (by go_grown) _⟩
        | false =>
          cases hoe : (L op).isEmpty with
          | false =>
            have HR : Hid (r = false) := Lib.hid (by rw [← hr, hoe]; rfl)
            have e1 : op.toList.isEmpty = false := by rw [isEmpty_L]; exact hoe
            clear hr hoe hlw0 hlb0
            go_enter Tryz.func108, Tryz.ntmps108
            go_wp2
            go_quiet (fail)
            go_wp2_with fail
            go_ret
            exact ⟨ret_bool HR.out.symm, by go_grown; exact below_drewN (by go_grown) _⟩
          | true =>
            have e1 : op.toList.isEmpty = true := by rw [isEmpty_L]; exact hoe
            rw [hoe] at hr
            by_cases hz : 0 < lw + lb
            · have HR : Hid (r = false) := Lib.hid (by
                rw [← hr]
                by_cases h0 : 0 < lw
                · rw [not_nil_of_len hlw0 h0]; rfl
                · rw [nil_of_len hlw0 (by omega), not_nil_of_len hlb0 (by omega)]; rfl)
              have e2 : decide ((0 : Int) < (lw : Int) + (lb : Int)) = true := by simp; omega
              clear hr hoe hlw0 hlb0
              go_enter Tryz.func108, Tryz.ntmps108
              go_wp2
              go_quiet (fail)
              go_wp2_with fail
              go_ret
              exact ⟨ret_bool HR.out.symm, by go_grown; exact below_drewN (by go_grown) _⟩
            · obtain rfl : lw = 0 := by omega
              obtain rfl : lb = 0 := by omega
              rw [nil_of_len hlw0 rfl, nil_of_len hlb0 rfl] at hr
              clear hlw0 hlb0 hz hlw hlb hoe
              have HR : Hid (r = false) := Lib.hid (by rw [← hr]; simp [*])
              clear hr
              go_enter Tryz.func108, Tryz.ntmps108
              go_wp2
              go_quiet (fail)
              go_wp2_with fail
              go_ret
              exact ⟨ret_bool HR.out.symm, by go_grown; exact below_drewN (by go_grown) _⟩
end Go.Proofs.YtnackmnoldkihaaGreatDoor
/-
  What may be, level by level: plain definitions.
-/
namespace Go.Proofs.YtnackmnoldkihaaGreatDoor
open Go.RowKit

/-- The first part of the word would be read as one with the Op. -/
def pctB (p : Pt) : Bool := L p.op == [37] && (match p.word with | [] => false | x :: _ => x.kind == 1 && !x.quoted && List.isPrefixOf [37] (L x.text))
/-- A parameter. -/
def paramB (wd : List Pt → Bool) (p : Pt) : Bool :=
  !(!p.body.isEmpty || (!(nameL (L p.text) || numB (L p.text)) && !specB (L p.text))) &&
  (bif (L p.op).isEmpty then p.word.isEmpty else bif L p.op == [108, 101, 110] then ((nameL (L p.text) || numB (L p.text)) && p.word.isEmpty) else (!pctB p && (oneB opWs (L p.op) && (!(L p.text == [35]) && wd p.word))))
/-- An empty quoted text is ahead. -/
def hollowB (q : Option Pt) : Bool := match q with | none => false | some x => x.kind == 1 && (x.quoted && (L x.text).isEmpty)
/-- A part, at a level that is left. -/
def partB (wd : List Pt → Bool) (ls : List Nd → Bool) (q : Option Pt) (p : Pt) : Bool :=
  !(p.quoted && hollowB q) &&
  (bif p.kind == 1 then litB q p else bif p.kind == 2 then paramB wd p else bif p.kind == 3 then ((L p.text).isEmpty && ((L p.op).isEmpty && (p.word.isEmpty && ls p.body))) else bif p.kind == 4 then (sumB (L p.text) && ((L p.op).isEmpty && (p.word.isEmpty && p.body.isEmpty))) else false)
/-- Parts, each behind the one ahead. -/
def partsB (f : Option Pt → Pt → Bool) : Option Pt → List Pt → Bool
  | _, [] => true
  | q, p :: l => f q p && partsB f (some p) l
/-- What a here-document's text is written with. -/
def escL (l : List UInt8) : List UInt8 := l.flatMap fun c => if c = 92 ∨ c = 36 ∨ c = 96 then [92, c] else [c]
/-- A here-document stands as it is. -/
def litrB (w : List Pt) : Bool := match w with | [] => true | [p] => p.kind == 1 | _ => false
def docP (lit : Bool) (p : Pt) : List UInt8 := bif p.kind == 2 then [36, 123] ++ L p.text ++ [125] else bif p.kind == 4 then [36, 40, 40] ++ L p.text ++ [41, 41] else bif lit then L p.text else escL (L p.text)
/-- A here-document, written. -/
def docL (w : List Pt) : List UInt8 := w.flatMap (docP (litrB w))
def docPartB (p : Pt) : Bool := p.quoted && ((L p.op).isEmpty && (!(p.kind == 3) && !(p.kind == 4 && hasB (L p.text) 10)))
def docB (wd : List Pt → Bool) (r : Rd) : Bool :=
  nameL (L r.tag) && (wd r.word && (r.word.all docPartB && (r.word.isEmpty || (List.isSuffixOf [10] (docL r.word) && !Lib.contains (10 :: docL r.word) (10 :: (L r.tag ++ [10]))))))
def redWs : List (List UInt8) := [[60], [62], [62, 62], [60, 62], [62, 124], [60, 38], [62, 38]]
def redirB (wd : List Pt → Bool) (r : Rd) : Bool :=
  (decide (0 ≤ r.fd) && decide (r.fd ≤ 9)) && (bif L r.op == [60, 60] then docB wd r else (oneB redWs (L r.op) && ((L r.tag).isEmpty && (wd r.word && !r.word.isEmpty))))
/-- A word may be a command's first one. -/
def firstB (w : List Pt) : Bool := match w with
  | [] => true
  | p :: l => bif p.kind == 1 && !p.quoted then (!((Lib.cut (L p.text) [61]).2.2 && nameL (Lib.cut (L p.text) [61]).1) && !(l.isEmpty && oneB reservedWs (L p.text))) else true
def simpleB (wd : List Pt → Bool) (x : Nd) : Bool :=
  x.assigns.all (fun a => nameL (L a.name) && wd a.word) && ((match x.words with | [] => true | y :: _ => firstB y) &&
  ((L x.name).isEmpty && ((x.lists.isEmpty && x.arms.isEmpty) && !(x.assigns.isEmpty && (x.words.isEmpty && x.redirs.isEmpty)))))
def someB (wd : List Pt → Bool) (y : List Pt) : Bool := wd y && !y.isEmpty
def somesB (ls : List Nd → Bool) (y : List Nd) : Bool := ls y && !y.isEmpty
def listsB (ls : List Nd → Bool) (x : Nd) (count : Nat) : Bool := decide (x.lists.length = count) && x.lists.all (somesB ls)
/-- Each list is one command; of which kind, by its place. -/
def soleB (may : Nat → Int → Bool) : Nat → List (List Nd) → Bool
  | _, [] => true
  | i, l :: r => (match l with | [x] => may i x.kind | _ => false) && soleB may (i + 1) r
def aloneB (ls : List Nd → Bool) (x : Nd) (count : Nat) (may : Nat → Int → Bool) : Bool := decide (count ≤ x.lists.length) && (x.lists.all (somesB ls) && soleB may 0 x.lists)
def bareN (x : Nd) : Bool := (L x.name).isEmpty && (x.assigns.isEmpty && (x.words.isEmpty && x.arms.isEmpty))
def mayPipe (_ : Nat) (k : Int) : Bool := k == 1 || decide (6 ≤ k)
def mayNot (_ : Nat) (k : Int) : Bool := k == 1 || (k == 2 || decide (6 ≤ k))
def mayAnd (i : Nat) (k : Int) : Bool := decide (i = 0) || (k != 3 && k != 4)
def mayFunc (_ : Nat) (k : Int) : Bool := decide (6 ≤ k) && k != 11
def joinedB (ls : List Nd → Bool) (x : Nd) : Bool :=
  (bareN x && x.redirs.isEmpty) && (bif x.kind == 2 then aloneB ls x 2 mayPipe else bif x.kind == 5 then (decide (x.lists.length = 1) && aloneB ls x 1 mayNot) else (decide (x.lists.length = 2) && aloneB ls x 2 mayAnd))
def armB (wd : List Pt → Bool) (ls : List Nd → Bool) (a : Ar) : Bool := !a.words.isEmpty && (ls a.body && a.words.all (someB wd))
def compoundB (wd : List Pt → Bool) (ls : List Nd → Bool) (x : Nd) : Bool :=
  bif x.kind == 6 then (bareN x && (listsB ls x 2 || listsB ls x 3)) else
  bif x.kind == 7 || x.kind == 8 then (bareN x && listsB ls x 2) else
  bif x.kind == 12 || x.kind == 13 then (bareN x && listsB ls x 1) else
  bif x.kind == 9 then (nameL (L x.name) && ((x.assigns.isEmpty && x.arms.isEmpty) && listsB ls x 1)) else
  bif x.kind == 10 then ((L x.name).isEmpty && (x.assigns.isEmpty && (decide (x.words.length = 1) && (listsB ls x 0 && x.arms.all (armB wd ls))))) else
  bif x.kind == 11 then (nameL (L x.name) && (!oneB reservedWs (L x.name) && ((x.assigns.isEmpty && (x.words.isEmpty && (x.arms.isEmpty && x.redirs.isEmpty))) && (decide (x.lists.length = 1) && aloneB ls x 1 mayFunc)))) else false
/-- A command, at a level that is left. -/
def nodeB (wd : List Pt → Bool) (ls : List Nd → Bool) (x : Nd) : Bool :=
  x.words.all (someB wd) && (x.redirs.all (redirB wd) && (bif x.kind == 1 then simpleB wd x else bif (x.kind == 2 || x.kind == 3) || (x.kind == 4 || x.kind == 5) then joinedB ls x else compoundB wd ls x))
mutual
/-- Words, so many levels left. -/
def okW : Nat → List Pt → Bool
  | 0, l => l.isEmpty
  | n + 1, l => partsB (partB (okW n) (okL n)) none l
/-- Commands, so many levels left. -/
def okL : Nat → List Nd → Bool
  | 0, l => l.isEmpty
  | n + 1, l => l.all (nodeB (okW n) (okL n))
end

/-- c.word, so many levels left. -/
def WordAt (m : Int) (wd : List Pt → Bool) : Prop := ∀ (W : World) (l : List Pt) (v : Value) (d : Nat) (some : Bool), Held W → PtsIn W W.heap.size d l v →
  Calls Tryz.prog 66 #[.agg #[.int .i64 m], v, .bool some] W fun e w' => e = .returned (.bool (wd l && (!some || !l.isEmpty))) ∧ Below W.heap.size W w'
/-- c.list. -/
def ListAt (m : Int) (ls : List Nd → Bool) : Prop := ∀ (W : World) (l : List Nd) (v : Value) (d : Nat) (some : Bool), Held W → NdsIn W W.heap.size d l v →
  Calls Tryz.prog 39 #[.agg #[.int .i64 m], v, .bool some] W fun e w' => e = .returned (.bool (ls l && (some || !l.isEmpty))) ∧ Below W.heap.size W w'
/-- What a call does that only reads, wherever it comes behind w. -/
def Reads (w : World) (f : Nat) (args : Array Value) (v : Value) : Prop := ∀ W, Below w.heap.size w W → Calls Tryz.prog f args W fun e w' => e = .returned v ∧ Below W.heap.size W w'
theorem WordAt.reads {m : Int} {wd : List Pt → Bool} (h : WordAt m wd) {w : World} (hv : Held w) {l : List Pt} {v : Value} {d : Nat} (hl : PtsIn w w.heap.size d l v) (some : Bool) : Reads w 66 #[.agg #[.int .i64 m], v, .bool some] (.bool (wd l && (!some || !l.isEmpty))) :=
  fun W hb => h W l v d some (hv.below hv.2 hb) ((hl.below hb).mono hb.size)
theorem ListAt.reads {m : Int} {ls : List Nd → Bool} (h : ListAt m ls) {w : World} (hv : Held w) {l : List Nd} {v : Value} {d : Nat} (hl : NdsIn w w.heap.size d l v) (some : Bool) : Reads w 39 #[.agg #[.int .i64 m], v, .bool some] (.bool (ls l && (some || !l.isEmpty))) :=
  fun W hb => h W l v d some (hv.below hv.2 hb) ((hl.below hb).mono hb.size)
end Go.Proofs.YtnackmnoldkihaaGreatDoor
/-
  The walks of word and list: each part, each command.
-/
namespace Go.Proofs.YtnackmnoldkihaaGreatDoor
open Go.RowKit

section
variable {w : World} {B d : Nat}
theorem SlOf.len {α : Type} {size : Nat} {F : α → List Value → Prop} {l : List α} {v : Value} (h : SlOf w B size F l v) : ∃ a cap, v = .slice a l.length cap ∧ l.length ≤ 1048576 := by
  obtain ⟨a, c, e⟩ := h.shape
  exact ⟨a, c, e, h.1⟩
/-- What lies in a command's cells. -/
theorem NdC.open {x : Nd} {c : List Value} (h : NdC w B d x c) : ∃ a1 c1 a2 c2 a3 c3 a4 c4 a5 c5, c = [.int .i64 x.kind, .string x.name, .slice a1 x.assigns.length c1, .slice a2 x.words.length c2, .slice a3 x.redirs.length c3, .slice a4 x.lists.length c4, .slice a5 x.arms.length c5] ∧
    x.name.size ≤ 1048576 ∧ (x.assigns.length ≤ 1048576 ∧ x.words.length ≤ 1048576 ∧ x.redirs.length ≤ 1048576 ∧ x.lists.length ≤ 1048576 ∧ x.arms.length ≤ 1048576) ∧
    AssIn w B d x.assigns (.slice a1 x.assigns.length c1) ∧ WdsIn w B d x.words (.slice a2 x.words.length c2) ∧ RdsIn w B d x.redirs (.slice a3 x.redirs.length c3) ∧ LssIn w B d x.lists (.slice a4 x.lists.length c4) ∧ ArsIn w B d x.arms (.slice a5 x.arms.length c5) := by
  obtain ⟨h0, av, wv, rv, lv, mv, e, h1, h2, h3, h4, h5⟩ := h
  obtain ⟨a1, c1, rfl, z1⟩ := h1.len
  obtain ⟨a2, c2, rfl, z2⟩ := h2.len
  obtain ⟨a3, c3, rfl, z3⟩ := h3.len
  obtain ⟨a4, c4, rfl, z4⟩ := h4.len
  obtain ⟨a5, c5, rfl, z5⟩ := h5.len
  exact ⟨a1, c1, a2, c2, a3, c3, a4, c4, a5, c5, e, h0, ⟨z1, z2, z3, z4, z5⟩, h1, h2, h3, h4, h5⟩
theorem PtC.open {p : Pt} {c : List Value} (h : PtC w B d p c) : ∃ a1 c1 a2 c2, c = [.int .i64 p.kind, .bool p.quoted, .string p.text, .string p.op, .slice a1 p.word.length c1, .slice a2 p.body.length c2] ∧
    (p.text.size ≤ 1048576 ∧ p.op.size ≤ 1048576) ∧ (p.word.length ≤ 1048576 ∧ p.body.length ≤ 1048576) ∧ PtsIn w B d p.word (.slice a1 p.word.length c1) ∧ NdsIn w B d p.body (.slice a2 p.body.length c2) := by
  obtain ⟨h1, h2, wv, bv, e, h3, h4⟩ := h
  obtain ⟨a1, c1, rfl, z1⟩ := h3.shape
  obtain ⟨a2, c2, rfl, z2⟩ := h4.shape
  exact ⟨a1, c1, a2, c2, e, ⟨h1, h2⟩, ⟨z1, z2⟩, h3, h4⟩
end
theorem SlOf.zero {α : Type} {w : World} {B size : Nat} {l : List α} {v : Value} (h : SlOf w B size (fun _ _ => False) l v) : l = [] := by
  obtain ⟨_, cs, h1, _, _, h2⟩ := h
  cases l with
  | nil => rfl
  | cons x l =>
    cases cs with
    | nil => simp at h1
    | cons c cs => exact (h2 0 x c rfl rfl).elim
theorem SlOf.of_nil {α : Type} {w : World} {B size : Nat} {F : α → List Value → Prop} {v : Value} (h : SlOf w B size (fun _ _ => False) ([] : List α) v) : SlOf w B size F [] v := h.imp (fun _ h => h) fun _ hx => by simp at hx
/-- Any depth is one more than some depth. -/
theorem NdsIn.up {w : World} {B d : Nat} {l : List Nd} {v : Value} (h : NdsIn w B d l v) : ∃ d', SlOf w B 7 (NdC w B d') l v := by
  cases d with
  | zero => rw [NdsIn] at h; obtain rfl := h.zero; exact ⟨0, h.of_nil⟩
  | succ d => rw [NdsIn.succ] at h; exact ⟨d, h⟩
theorem PtsIn.up {w : World} {B d : Nat} {l : List Pt} {v : Value} (h : PtsIn w B d l v) : ∃ d', SlOf w B 6 (PtC w B d') l v := by
  cases d with
  | zero => rw [PtsIn] at h; obtain rfl := h.zero; exact ⟨0, h.of_nil⟩
  | succ d => rw [PtsIn.succ] at h; exact ⟨d, h⟩
theorem pos_dec (n : Nat) : decide (0 < n) = !decide (n = 0) := by cases n <;> simp
theorem NdC.later {w w' : World} {d : Nat} {x : Nd} {c : List Value} (h : NdC w w.heap.size d x c) (hb : Below w.heap.size w w') : NdC w' w'.heap.size d x c := h.keep fun _ _ _ _ hs => (hs.below hb).mono hb.size
theorem PtC.later {w w' : World} {d : Nat} {x : Pt} {c : List Value} (h : PtC w w.heap.size d x c) (hb : Below w.heap.size w w') : PtC w' w'.heap.size d x c := h.keep fun _ _ _ _ hs => (hs.below hb).mono hb.size
theorem nil_of {α : Type} {l : List α} {n : Nat} (h : l.length = n) : l.isEmpty = decide (n = 0) := by subst h; cases l <;> simp

set_option maxHeartbeats 1000000 in
theorem list_any (m : Int) (nd : Nd → Bool) (hnd : ∀ (W : World) (x : Nd) (d : Nat) (c : List Value), Held W → NdC W W.heap.size d x c → Calls Tryz.prog 54 #[.agg #[.int .i64 m], .agg c.toArray] W fun e w' => e = .returned (.bool (nd x)) ∧ Below W.heap.size W w') : ListAt m (fun l => l.all nd) := by
  intro w l v d some hv hl
  obtain ⟨d, hl⟩ := hl.up
  obtain ⟨a, cap, rfl, hz⟩ := hl.len
  obtain ⟨n, hn⟩ : ∃ n, l.length = n := ⟨_, rfl⟩
  rw [hn] at hl hz ⊢
  have HL := Lib.hid hl
  have HV := Lib.hid hv
  have HN := Lib.hid hn
  have HND := Lib.hid hnd
  have HE := Lib.hid (nil_of hn)
  clear hl hn hv hnd
  go_enter Tryz.func39, Tryz.ntmps39
  go_wp2_with fail
  go_loopw [11] (fun i W => ∃ k : Nat, k ≤ n ∧ i = .int .i64 k ∧ (l.take k).all nd = true ∧ Blk W w.heap.size 67 #[.int .i64 m] ∧ Below w.heap.size w W) (fun i _ => n - (intOf i).toNat)
  case atStart => exact ⟨0, Nat.zero_le _, rfl, by simp, Blk.new _ _ _, (by repeat' (first | (with_reducible assumption) | (with_reducible exact Below.refl _ _) | (with_reducible refine below_drewN ?_ _) | (with_reducible refine below_bytes ?_ ?_ _) | (with_reducible refine Below.alloc ?_ ?_ _) | (with_reducible refine Below.drew ?_) | (with_reducible refine Below.setCell ?_ ?_ _) | go_size))⟩
  case round =>
    obtain ⟨k, hk, rfl, hal, hbk, hb⟩ := hrel
    have HAL := Lib.hid hal
    have HBK := Lib.hid hbk
    have hbl := hbk.lt
    have b0 := hbk.cell 0
    simp at b0
    clear hal hbk
    by_cases hlt : k < n
    · obtain ⟨x, hx⟩ : ∃ x, l[k]? = .some x := ⟨_, List.getElem?_eq_getElem (by rw [HN.out]; exact hlt)⟩
      obtain ⟨b, o, c, hi, hbB, hce, hC, _⟩ := HL.out.at 22 38 Tryz.underlying22 (by kernel_rfl) hx
      have HX := Lib.hid hx
      have HC := Lib.hid hC
      obtain ⟨a1, c1, a2, c2, a3, c3, a4, c4, a5, c5, rfl, hC⟩ := hC.open
      have CN := Lib.hid fun W hW => HND.out W x d _ (HV.out.below HV.out.2 hW) (HC.out.later hW)
      have e0 := (hb.cell hbB).trans (hce 0 _ rfl)
      have e1 := (hb.cell hbB).trans (hce 1 _ rfl)
      have e2 := (hb.cell hbB).trans (hce 2 _ rfl)
      have e3 := (hb.cell hbB).trans (hce 3 _ rfl)
      have e4 := (hb.cell hbB).trans (hce 4 _ rfl)
      have e5 := (hb.cell hbB).trans (hce 5 _ rfl)
      have e6 := (hb.cell hbB).trans (hce 6 _ rfl)
      have hbB' := Nat.lt_of_lt_of_le hbB hb.size
      rw [Nat.add_zero] at e0
      clear hx hce hC
      obtain ⟨r, hr⟩ : ∃ r, nd x = r := ⟨_, rfl⟩
      rw [hr] at CN
      have HR := Lib.hid hr
      clear hr
      go_wp2_with fail
      refine (CN.out _ (by repeat' (first | (with_reducible assumption) | (with_reducible exact Below.refl _ _) | (with_reducible refine below_drewN ?_ _) | (with_reducible refine below_bytes ?_ ?_ _) | (with_reducible refine Below.alloc ?_ ?_ _) | (with_reducible refine Below.drew ?_) | (with_reducible refine Below.setCell ?_ ?_ _) | go_size))).mono ?_
      rintro e w1 ⟨rfl, hb1⟩
      have HB1 := Lib.hid hb1
      have hb1' : Below w.heap.size w w1 := since hb1 (by repeat' (first | (with_reducible assumption) | (with_reducible exact Below.refl _ _) | (with_reducible refine below_drewN ?_ _) | (with_reducible refine below_bytes ?_ ?_ _) | (with_reducible refine Below.alloc ?_ ?_ _) | (with_reducible refine Below.drew ?_) | (with_reducible refine Below.setCell ?_ ?_ _) | go_size))
      clear hb1
      cases r with
      | false =>
        go_wp2
        go_ret
        exact ⟨ret_bool (by rw [all_no HX.out HR.out]; rfl), hb1'⟩
      | true =>
        go_wp2
        go_roundw
        case rel => exact ⟨k + 1, by omega, by go_num, all_to HAL.out HX.out HR.out, (HBK.out.alloc _).below HB1.out (by simp; omega), hb1'⟩
        case measure => simp [intOf]; omega
    · have HR : Hid (l.all nd = true) := Lib.hid (all_end HAL.out (by rw [HN.out]; omega))
      cases some with
      | true =>
        go_wp2
        go_ret
        exact ⟨ret_bool (by rw [HR.out]; rfl), hb⟩
      | false =>
        go_wp2
        go_ret
        exact ⟨ret_bool (by rw [HR.out, HE.out]; simp [pos_dec]), hb⟩

def prevOf (l : List Pt) (k : Nat) : Option Pt := if k = 0 then none else l[k - 1]?
/-- So far: all parts ahead of the k-th may be. -/
def partsTo (f : Option Pt → Pt → Bool) (l : List Pt) (k : Nat) : Prop := partsB f none l = partsB f (prevOf l k) (l.drop k)
theorem partsTo_step {f : Option Pt → Pt → Bool} {l : List Pt} {k : Nat} {x : Pt} (h : partsTo f l k) (hx : l[k]? = some x) (hf : f (prevOf l k) x = true) : partsTo f l (k + 1) := by
  obtain ⟨hk, hx'⟩ := List.getElem?_eq_some_iff.1 hx
  rw [partsTo, h, List.drop_eq_getElem_cons hk, hx', partsB, hf, Bool.true_and, prevOf, if_neg (by omega), Nat.add_sub_cancel, hx]
theorem partsTo_no {f : Option Pt → Pt → Bool} {l : List Pt} {k : Nat} {x : Pt} (h : partsTo f l k) (hx : l[k]? = some x) (hf : f (prevOf l k) x = false) : partsB f none l = false := by
  obtain ⟨hk, hx'⟩ := List.getElem?_eq_some_iff.1 hx
  rw [h, List.drop_eq_getElem_cons hk, hx', partsB, hf, Bool.false_and]
theorem partsTo_end {f : Option Pt → Pt → Bool} {l : List Pt} {k : Nat} (h : partsTo f l k) (hk : l.length ≤ k) : partsB f none l = true := by
  rw [h, List.drop_of_length_le hk, partsB]
/-- The pointer to the part ahead. -/
def PrevV (w : World) (l : List Pt) (v : Value) (k : Nat) (pv : Value) : Prop := (k = 0 ∧ pv = .pointer none) ∨ (0 < k ∧ ∀ w' : World, (Instr.indexAt 29 v (.int .i64 ((k - 1 : Nat) : Int))).run Tryz.prog w' = .ok pv w')

set_option maxHeartbeats 1000000 in
set_option maxRecDepth 100000 in
theorem word_any (m : Int) (pt : Option Pt → Pt → Bool) (hpt : ∀ (W : World) (q : Option Pt) (x : Pt) (d : Nat) (c : List Value) (pv : Value), Held W → PtC W W.heap.size d x c → PrevAt W W.heap.size d q pv → Calls Tryz.prog 88 #[.agg #[.int .i64 m], .agg c.toArray, pv] W fun e w' => e = .returned (.bool (pt q x)) ∧ Below W.heap.size W w') : WordAt m (partsB pt none) := by
  intro w l v d sm hv hl
  obtain ⟨d, hl⟩ := hl.up
  obtain ⟨a, cap, rfl, hz⟩ := hl.len
  obtain ⟨n, hn⟩ : ∃ n, l.length = n := ⟨_, rfl⟩
  rw [hn] at hl hz ⊢
  have HL := Lib.hid hl
  have HV := Lib.hid hv
  have HN := Lib.hid hn
  have HPT := Lib.hid hpt
  have HE := Lib.hid (nil_of hn)
  clear hl hn hv hpt
  go_enter Tryz.func66, Tryz.ntmps66
  go_wp2_with fail
  go_loopw [7, 11] (fun p i W => ∃ (k : Nat) (ob : Option Addr), k ≤ n ∧ i = .int .i64 k ∧ p = .pointer ob ∧ partsTo pt l k ∧ PrevAt w w.heap.size d (prevOf l k) (.pointer ob) ∧ Blk W w.heap.size 67 #[.int .i64 m] ∧ Below w.heap.size w W) (fun _ i _ => n - (intOf i).toNat)
  case atStart => exact ⟨0, .none, Nat.zero_le _, rfl, rfl, rfl, rfl, Blk.new _ _ _, (by repeat' (first | (with_reducible assumption) | (with_reducible exact Below.refl _ _) | (with_reducible refine below_drewN ?_ _) | (with_reducible refine below_bytes ?_ ?_ _) | (with_reducible refine Below.alloc ?_ ?_ _) | (with_reducible refine Below.drew ?_) | (with_reducible refine Below.setCell ?_ ?_ _) | go_size))⟩
  case round =>
    obtain ⟨k, ob, hk, rfl, rfl, hto, hpa, hbk, hb⟩ := hrel
    have HTO := Lib.hid hto
    have HPA := Lib.hid hpa
    have HBK := Lib.hid hbk
    have hbl := hbk.lt
    have b0 := hbk.cell 0
    simp at b0
    clear hto hbk hpa
    by_cases hlt : k < n
    · obtain ⟨x, hx⟩ : ∃ x, l[k]? = .some x := ⟨_, List.getElem?_eq_getElem (by rw [HN.out]; exact hlt)⟩
      obtain ⟨b, o, c, hi, hbB, hce, hC, _⟩ := HL.out.at 29 44 Tryz.underlying29 (by kernel_rfl) hx
      have HX := Lib.hid hx
      have HC := Lib.hid hC
      have HCE := Lib.hid hce
      obtain ⟨a1, c1, a2, c2, rfl, hC⟩ := hC.open
      have CN := Lib.hid fun W hW => HPT.out W _ x d _ _ (HV.out.below HV.out.2 hW) (HC.out.later hW) (HPA.out.keep hW hW.size)
      have e0 := (hb.cell hbB).trans (hce 0 _ rfl)
      have e1 := (hb.cell hbB).trans (hce 1 _ rfl)
      have e2 := (hb.cell hbB).trans (hce 2 _ rfl)
      have e3 := (hb.cell hbB).trans (hce 3 _ rfl)
      have e4 := (hb.cell hbB).trans (hce 4 _ rfl)
      have e5 := (hb.cell hbB).trans (hce 5 _ rfl)
      have hbB' := Nat.lt_of_lt_of_le hbB hb.size
      rw [Nat.add_zero] at e0
      clear hx hce hC
      obtain ⟨r, hr⟩ : ∃ r, pt (prevOf l k) x = r := ⟨_, rfl⟩
      rw [hr] at CN
      have HR := Lib.hid hr
      clear hr
      go_wp2_with fail
      go_still_tail 6, (by kernel_rfl)
      go_wp2_with fail
      refine (CN.out _ (by repeat' (first | (with_reducible assumption) | (with_reducible exact Below.refl _ _) | (with_reducible refine below_drewN ?_ _) | (with_reducible refine below_bytes ?_ ?_ _) | (with_reducible refine Below.alloc ?_ ?_ _) | (with_reducible refine Below.drew ?_) | (with_reducible refine Below.setCell ?_ ?_ _) | go_size))).mono ?_
      rintro e w1 ⟨rfl, hb1⟩
      have HB1 := Lib.hid hb1
      have hb1' : Below w.heap.size w w1 := since hb1 (by repeat' (first | (with_reducible assumption) | (with_reducible exact Below.refl _ _) | (with_reducible refine below_drewN ?_ _) | (with_reducible refine below_bytes ?_ ?_ _) | (with_reducible refine Below.alloc ?_ ?_ _) | (with_reducible refine Below.drew ?_) | (with_reducible refine Below.setCell ?_ ?_ _) | go_size))
      clear hb1
      cases r with
      | false =>
        go_wp2
        go_ret
        exact ⟨ret_bool (by rw [partsTo_no HTO.out HX.out HR.out]; rfl), hb1'⟩
      | true =>
        go_wp2
        go_roundw
        case rel => exact ⟨k + 1, some ⟨b, o, none⟩, by omega, by go_num, rfl, partsTo_step HTO.out HX.out HR.out, by
          rw [prevOf, if_neg (by omega), Nat.add_sub_cancel, HX.out]
          exact ⟨b, o, _, rfl, hbB, HCE.out, HC.out⟩, Blk.below (w := wr.drew) HBK.out HB1.out hbl, hb1'⟩
        case measure => simp [intOf]; omega
    · have HR : Hid (partsB pt none l = true) := Lib.hid (partsTo_end HTO.out (by rw [HN.out]; omega))
      cases sm with
      | true =>
        go_wp2
        go_ret
        exact ⟨ret_bool (by rw [HR.out, HE.out]; simp [pos_dec]), hb⟩
      | false =>
        go_wp2
        go_ret
        exact ⟨ret_bool (by rw [HR.out]; rfl), hb⟩
end Go.Proofs.YtnackmnoldkihaaGreatDoor
namespace Go.Proofs.YtnackmnoldkihaaGreatDoor
open Go.RowKit

theorem size_drewN (w : World) (n : Nat) : (w.drewN n).heap.size = w.heap.size := rfl
theorem Blk.at {w : World} {g : Nat} {t : TypeId} {cs : Array Value} (hg : g = w.heap.size) : Blk (w.alloc (.cells cs t)) g t cs := by subst hg; exact Blk.new w t cs
/-- Two boxes that the call has made first, in a world behind w. -/
structure Bx (w W : World) (t0 : TypeId) (c0 : Array Value) (t1 : TypeId) (c1 : Array Value) : Prop where
  b0 : Blk W w.heap.size t0 c0
  b1 : Blk W (w.heap.size + 1) t1 c1
  hb : Below w.heap.size w W
theorem Bx.start (w : World) (t0 : TypeId) (c0 : Array Value) (t1 : TypeId) (c1 : Array Value) : Bx w ((w.alloc (.cells c0 t0)).alloc (.cells c1 t1)) t0 c0 t1 c1 := ⟨(Blk.at rfl).alloc _, Blk.at (by simp), (by repeat' (first | (with_reducible assumption) | (with_reducible exact Below.refl _ _) | (with_reducible refine below_drewN ?_ _) | (with_reducible refine below_bytes ?_ ?_ _) | (with_reducible refine Below.alloc ?_ ?_ _) | (with_reducible refine Below.drew ?_) | (with_reducible refine Below.setCell ?_ ?_ _) | go_size))⟩
theorem Bx.later {w W W' : World} {t0 t1 : TypeId} {c0 c1 : Array Value} (h : Bx w W t0 c0 t1 c1) (hb : Below W.heap.size W W') : Bx w W' t0 c0 t1 c1 :=
  ⟨h.b0.below hb h.b0.lt, h.b1.below hb h.b1.lt, h.hb.trans (hb.mono h.hb.size)⟩
theorem Bx.set0 {w W : World} {t0 t1 : TypeId} {c0 c1 : Array Value} (h : Bx w W t0 c0 t1 c1) (i : Nat) (u : Value) : Bx w (W.setCell ⟨w.heap.size, i, none⟩ u) t0 (c0.setIfInBounds i u) t1 c1 :=
  ⟨h.b0.put i u, h.b1.far (by simp) u, h.hb.setCell (Nat.le_refl _) u⟩
theorem Bx.drewN {w W : World} {t0 t1 : TypeId} {c0 c1 : Array Value} (h : Bx w W t0 c0 t1 c1) (n : Nat) : Bx w (W.drewN n) t0 c0 t1 c1 := h.later (below_drewN (Below.refl _ _) n)
/-- The first part of a word. -/
theorem PtsIn.first {w : World} {B d : Nat} {l : List Pt} {v : Value} (h : PtsIn w B d l v) (h0 : 0 < l.length) : ∃ x b o, (∃ r, l = x :: r) ∧ x.text.size ≤ 1048576 ∧ (∀ w' : World, (Instr.indexAt 29 v (.int .i64 0)).run Tryz.prog w' = .ok (.pointer (some ⟨b, o, none⟩)) w') ∧ b < B ∧
    w.cell? ⟨b, o, none⟩ = some (.int .i64 x.kind) ∧ w.cell? ⟨b, o + 1, none⟩ = some (.bool x.quoted) ∧ w.cell? ⟨b, o + 2, none⟩ = some (.string x.text) := by
  obtain ⟨d, h⟩ := h.up
  cases l with
  | nil => simp at h0
  | cons x r =>
    obtain ⟨b, o, c, hi, hb, hc, hC, _⟩ := h.at 29 44 Tryz.underlying29 (by kernel_rfl) (k := 0) (x := x) rfl
    obtain ⟨h1, h2, wv, bv, rfl, _⟩ := hC
    exact ⟨x, b, o, ⟨r, rfl⟩, h1, fun w' => hi w', hb, hc 0 _ rfl, hc 1 _ rfl, hc 2 _ rfl⟩
theorem nil_beq {α : Type} {l : List α} {n : Nat} (h : l.length = n) : ((n : Int) == 0) = l.isEmpty := by subst h; cases l <;> simp [List.isEmpty]; omega
theorem nil_lt {α : Type} {l : List α} {n : Nat} (h : l.length = n) : decide ((0 : Int) < (n : Int)) = !l.isEmpty := by subst h; cases l <;> simp [List.isEmpty]

set_option maxHeartbeats 1000000 in
set_option maxRecDepth 100000 in
theorem param_any (wd : List Pt → Bool) (m : Int) (hwd : WordAt m wd) (p : Pt) (w : World) (d : Nat) (c : List Value) (hv : Held w) (hp : PtC w w.heap.size d p c) :
    Calls Tryz.prog 109 #[.agg #[.int .i64 m], .agg c.toArray] w fun e w' => e = .returned (.bool (paramB wd p)) ∧ Below w.heap.size w w' := by
  obtain ⟨a1, c1, a2, c2, rfl, ⟨h1, h2⟩, ⟨hlw, hlb⟩, hw, hb⟩ := hp.open
  obtain ⟨lw, hlw0⟩ : ∃ n, p.word.length = n := ⟨_, rfl⟩
  obtain ⟨lb, hlb0⟩ : ∃ n, p.body.length = n := ⟨_, rfl⟩
  rw [hlw0] at hlw hw ⊢
  rw [hlb0] at hlb hb ⊢
  have CW := Lib.hid (hwd.reads hv hw false)
  have HW := Lib.hid hw
  have CNm : Hid (∀ W, Below w.heap.size w W → Calls Tryz.prog 21 #[.string p.text] W fun e w' => e = .returned (.bool (nameL (L p.text))) ∧ Below W.heap.size W w') := Lib.hid fun W _ => name_any p.text W (by unfold maxLen; omega)
  have CNu : Hid (∀ W, Below w.heap.size w W → Calls Tryz.prog 23 #[.string p.text] W fun e w' => e = .returned (.bool (numB (L p.text))) ∧ Below W.heap.size W w') := Lib.hid fun W _ => number_any p.text W (by unfold maxLen; omega)
  have CSp : Hid (∀ W, Calls Tryz.prog 25 #[.string p.text] W fun e w' => e = .returned (.bool (specB (L p.text))) ∧ W = w') := Lib.hid fun W => special_any p.text W
  have COp : Hid (∀ W, Calls Tryz.prog 29 #[.string p.op] W fun e w' => e = .returned (.bool (oneB opWs (L p.op))) ∧ W = w') := Lib.hid fun W => op_any p.op W
  have CHP : Hid (∀ (t : ByteArray) (W : World), Calls Tryz.prog 117 #[.string t, .string ⟨#[37]⟩] W fun e w' => e = .returned (.bool (List.isPrefixOf [37] (L t))) ∧ W = w') := Lib.hid fun t W => (Tryz.strings_HasPrefix t ⟨#[37]⟩ W).mono fun e w' h => ⟨h.1, h.2.symm⟩
  obtain ⟨r, hr⟩ : ∃ r, paramB wd p = r := ⟨_, rfl⟩
  rw [hr]
  rw [paramB] at hr
  obtain ⟨lg, hlg⟩ : ∃ b, (nameL (L p.text) || numB (L p.text)) = b := ⟨_, rfl⟩
  obtain ⟨nm, hnm⟩ : ∃ b, nameL (L p.text) = b := ⟨_, rfl⟩
  obtain ⟨nu, hnu⟩ : ∃ b, numB (L p.text) = b := ⟨_, rfl⟩
  obtain ⟨sp, hsp⟩ : ∃ b, specB (L p.text) = b := ⟨_, rfl⟩
  obtain ⟨ob, hob⟩ : ∃ b, oneB opWs (L p.op) = b := ⟨_, rfl⟩
  obtain ⟨wr, hwr⟩ : ∃ b, (wd p.word && (!false || !p.word.isEmpty)) = b := ⟨_, rfl⟩
  obtain ⟨pc, hpc⟩ : ∃ b, pctB p = b := ⟨_, rfl⟩
  rw [hwr] at CW
  rw [show (wd p.word && (!false || !p.word.isEmpty)) = wd p.word by simp] at hwr
  rw [hlg, hsp, hob, hpc, hwr] at hr
  rw [hnm, hnu] at hlg
  rw [hnm] at CNm
  rw [hnu] at CNu
  rw [hsp] at CSp
  rw [hob] at COp
  obtain ⟨bd, hbd⟩ : ∃ b, (!p.body.isEmpty || (!lg && !sp)) = b := ⟨_, rfl⟩
  rw [hbd] at hr
  have HR := Lib.hid hr
  have HLG := Lib.hid hlg
  have HBD := Lib.hid hbd
  have HPC := Lib.hid hpc
  have HLW := Lib.hid hlw0
  have HLB := Lib.hid hlb0
  have EW := Lib.hid (nil_beq hlw0)
  have EB := Lib.hid (nil_lt hlb0)
  have BX := Lib.hid (Bx.start w 67 #[.int .i64 m] 44 #[.int .i64 p.kind, .bool p.quoted, .string p.text, .string p.op, .slice a1 lw c1, .slice a2 lb c2])
  clear hnm hnu hsp hob hr hlg hw hb hwr hpc hbd hlw0 hlb0
  rcases Nat.eq_zero_or_pos lb with h0 | h0
  · subst h0
    have he : p.body.isEmpty = true := nil_of_len HLB.out rfl
    rw [he] at HBD
    clear EB HLB he hlb
    go_enter Tryz.func109, Tryz.ntmps109
    go_upto_region 1 with fail
    go_cut [5] (fun s5 W => s5 = .bool lg ∧ Bx w W 67 #[.int .i64 m] 44 #[.int .i64 p.kind, .bool p.quoted, .string p.text, .string p.op, .slice a1 lw c1, .slice a2 0 c2])
    case first =>
      go_wp2_with fail
      refine (CNm.out _ (by repeat' (first | (with_reducible assumption) | (with_reducible exact Below.refl _ _) | (with_reducible refine below_drewN ?_ _) | (with_reducible refine below_bytes ?_ ?_ _) | (with_reducible refine Below.alloc ?_ ?_ _) | (with_reducible refine Below.drew ?_) | (with_reducible refine Below.setCell ?_ ?_ _) | go_size))).mono ?_
      rintro e w1 ⟨rfl, hb0⟩
      obtain ⟨hcw1, hfw1⟩ := bcell hb0
      have hzw1 := hb0.size
      try simp only [World.size_alloc, World.size_setCell, World.size_drew, size_drewN] at hzw1
      have hBw1 : Below w.heap.size w w1 := since hb0 (by repeat' (first | (with_reducible assumption) | (with_reducible exact Below.refl _ _) | (with_reducible refine below_drewN ?_ _) | (with_reducible refine below_bytes ?_ ?_ _) | (with_reducible refine Below.alloc ?_ ?_ _) | (with_reducible refine Below.drew ?_) | (with_reducible refine Below.setCell ?_ ?_ _) | go_size))
      have BXw1 := Lib.hid (Bx.later BX.out (since hb0 (by repeat' (first | (with_reducible assumption) | (with_reducible exact Below.refl _ _) | (with_reducible refine below_drewN ?_ _) | (with_reducible refine below_bytes ?_ ?_ _) | (with_reducible refine Below.alloc ?_ ?_ _) | (with_reducible refine Below.drew ?_) | (with_reducible refine Below.setCell ?_ ?_ _) | go_size))))
      clear hb0
      cases nm with
      | true =>
        go_wp2_with fail
        go_meet
        exact ⟨by rw [← HLG.out]; rfl, BXw1.out⟩
      | false =>
        go_wp2_with fail
        refine (CNu.out _ (by repeat' (first | (with_reducible assumption) | (with_reducible exact Below.refl _ _) | (with_reducible refine below_drewN ?_ _) | (with_reducible refine below_bytes ?_ ?_ _) | (with_reducible refine Below.alloc ?_ ?_ _) | (with_reducible refine Below.drew ?_) | (with_reducible refine Below.setCell ?_ ?_ _) | go_size))).mono ?_
        rintro e w2 ⟨rfl, hb0⟩
        obtain ⟨hcw2, hfw2⟩ := bcell hb0
        have hzw2 := hb0.size
        try simp only [World.size_alloc, World.size_setCell, World.size_drew, size_drewN] at hzw2
        have hBw2 : Below w.heap.size w w2 := since hb0 (by repeat' (first | (with_reducible assumption) | (with_reducible exact Below.refl _ _) | (with_reducible refine below_drewN ?_ _) | (with_reducible refine below_bytes ?_ ?_ _) | (with_reducible refine Below.alloc ?_ ?_ _) | (with_reducible refine Below.drew ?_) | (with_reducible refine Below.setCell ?_ ?_ _) | go_size))
        have BXw2 := Lib.hid (Bx.later BXw1.out (since hb0 (by repeat' (first | (with_reducible assumption) | (with_reducible exact Below.refl _ _) | (with_reducible refine below_drewN ?_ _) | (with_reducible refine below_bytes ?_ ?_ _) | (with_reducible refine Below.alloc ?_ ?_ _) | (with_reducible refine Below.drew ?_) | (with_reducible refine Below.setCell ?_ ?_ _) | go_size))))
        clear hb0
        go_wp2_with fail
        go_meet
        exact ⟨by rw [← HLG.out]; rfl, BXw2.out⟩
    case rest =>
      obtain ⟨rfl, bx1⟩ := hcut
      have BX1 := Lib.hid bx1
      clear bx1
      have K0BX1 := Lib.hid BX1.out.b0
      have K1BX1 := Lib.hid BX1.out.b1
      have hBBX1 := BX1.out.hb
      have b0 := K0BX1.out.cell 0
      have bf := K0BX1.out.free 0
      have bl := K0BX1.out.lt
      simp at b0
      have p0 := K1BX1.out.cell 0
      have p1 := K1BX1.out.cell 1
      have p2 := K1BX1.out.cell 2
      have p3 := K1BX1.out.cell 3
      have p4 := K1BX1.out.cell 4
      have p5 := K1BX1.out.cell 5
      have pl := K1BX1.out.lt
      simp at p0 p1 p2 p3 p4 p5
      go_upto_region 2 with fail
      go_cut [14] (fun s14 W => s14 = .bool bd ∧ Bx w W 67 #[.int .i64 m] 44 #[.int .i64 p.kind, .bool p.quoted, .string p.text, .string p.op, .slice a1 lw c1, .slice a2 0 c2])
      case first =>
          cases lg with
        | true =>
          have HE : Hid (bd = false) := Lib.hid (by rw [← HBD.out]; rfl)
          go_wp2_with fail
          go_meet
          exact ⟨by rw [HE.out], BX1.out⟩
        | false =>
          have HE : Hid (bd = !sp) := Lib.hid (by rw [← HBD.out]; rfl)
          go_wp2_with fail
          refine (CSp.out _).mono ?_
          rintro e w1 ⟨rfl, rfl⟩
          go_wp2_with fail
          go_meet
          exact ⟨by rw [HE.out], BX1.out⟩
      case rest =>
        obtain ⟨rfl, bx2⟩ := hcut
        clear b0 bf bl p0 p1 p2 p3 p4 p5 pl
        have BX2 := Lib.hid bx2
        clear bx2
        have K0BX2 := Lib.hid BX2.out.b0
        have K1BX2 := Lib.hid BX2.out.b1
        have hBBX2 := BX2.out.hb
        have b0 := K0BX2.out.cell 0
        have bf := K0BX2.out.free 0
        have bl := K0BX2.out.lt
        simp at b0
        have p0 := K1BX2.out.cell 0
        have p1 := K1BX2.out.cell 1
        have p2 := K1BX2.out.cell 2
        have p3 := K1BX2.out.cell 3
        have p4 := K1BX2.out.cell 4
        have p5 := K1BX2.out.cell 5
        have pl := K1BX2.out.lt
        simp at p0 p1 p2 p3 p4 p5
        cases bd with
        | true =>
          have HE : Hid (r = false) := Lib.hid (by rw [← HR.out]; rfl)
          go_wp2_with fail
          go_ret
          exact ⟨ret_bool HE.out.symm, (by repeat' (first | (with_reducible assumption) | (with_reducible exact Below.refl _ _) | (with_reducible refine below_drewN ?_ _) | (with_reducible refine below_bytes ?_ ?_ _) | (with_reducible refine Below.alloc ?_ ?_ _) | (with_reducible refine Below.drew ?_) | (with_reducible refine Below.setCell ?_ ?_ _) | go_size))⟩
        | false =>
          cases hoe : (L p.op).isEmpty with
          | true =>
            have e1 : p.op.toList.isEmpty = true := by rw [isEmpty_L]; exact hoe
            have HE : Hid (r = p.word.isEmpty) := Lib.hid (by rw [← HR.out, hoe]; rfl)
            have e2 := EW.out
            cases hwe : p.word.isEmpty with
            | true =>
              rw [hwe] at e2 HE
              clear hoe hwe
              go_wp2_with fail
              go_ret
              exact ⟨ret_bool HE.out.symm, (by repeat' (first | (with_reducible assumption) | (with_reducible exact Below.refl _ _) | (with_reducible refine below_drewN ?_ _) | (with_reducible refine below_bytes ?_ ?_ _) | (with_reducible refine Below.alloc ?_ ?_ _) | (with_reducible refine Below.drew ?_) | (with_reducible refine Below.setCell ?_ ?_ _) | go_size))⟩
            | false =>
              rw [hwe] at e2 HE
              clear hoe hwe
              go_wp2_with fail
              go_ret
              exact ⟨ret_bool HE.out.symm, (by repeat' (first | (with_reducible assumption) | (with_reducible exact Below.refl _ _) | (with_reducible refine below_drewN ?_ _) | (with_reducible refine below_bytes ?_ ?_ _) | (with_reducible refine Below.alloc ?_ ?_ _) | (with_reducible refine Below.drew ?_) | (with_reducible refine Below.setCell ?_ ?_ _) | go_size))⟩
          | false =>
            have e1 : p.op.toList.isEmpty = false := by rw [isEmpty_L]; exact hoe
            cases hol : (L p.op == [108, 101, 110]) with
            | true =>
              have e3 : (p.op.toList == [108, 101, 110]) = true := by rw [toList_L]; exact hol
              have HE : Hid (r = (lg && p.word.isEmpty)) := Lib.hid (by rw [← HR.out, hoe, hol]; rfl)
              have e2 := EW.out
              cases lg with
              | false =>
                clear hoe hol
                go_wp2_with fail
                go_ret
                exact ⟨ret_bool (by rw [HE.out]; rfl), (by repeat' (first | (with_reducible assumption) | (with_reducible exact Below.refl _ _) | (with_reducible refine below_drewN ?_ _) | (with_reducible refine below_bytes ?_ ?_ _) | (with_reducible refine Below.alloc ?_ ?_ _) | (with_reducible refine Below.drew ?_) | (with_reducible refine Below.setCell ?_ ?_ _) | go_size))⟩
              | true =>
                cases hwe : p.word.isEmpty with
                | true =>
                  rw [hwe] at e2 HE
                  clear hoe hwe hol
                  go_wp2_with fail
                  go_ret
                  exact ⟨ret_bool HE.out.symm, (by repeat' (first | (with_reducible assumption) | (with_reducible exact Below.refl _ _) | (with_reducible refine below_drewN ?_ _) | (with_reducible refine below_bytes ?_ ?_ _) | (with_reducible refine Below.alloc ?_ ?_ _) | (with_reducible refine Below.drew ?_) | (with_reducible refine Below.setCell ?_ ?_ _) | go_size))⟩
                | false =>
                  rw [hwe] at e2 HE
                  clear hoe hwe hol
                  go_wp2_with fail
                  go_ret
                  exact ⟨ret_bool HE.out.symm, (by repeat' (first | (with_reducible assumption) | (with_reducible exact Below.refl _ _) | (with_reducible refine below_drewN ?_ _) | (with_reducible refine below_bytes ?_ ?_ _) | (with_reducible refine Below.alloc ?_ ?_ _) | (with_reducible refine Below.drew ?_) | (with_reducible refine Below.setCell ?_ ?_ _) | go_size))⟩
            | false =>
              have e3 : (p.op.toList == [108, 101, 110]) = false := by rw [toList_L]; exact hol
              have HE : Hid (r = (!pc && (ob && (!(L p.text == [35]) && wr)))) := Lib.hid (by rw [← HR.out, hoe, hol]; rfl)
              clear hoe hol
              cases h37 : (L p.op == [37]) with
              | false =>
                have e4 : (p.op.toList == [37]) = false := by rw [toList_L]; exact h37
                have HE3 : Hid (r = (ob && (!(L p.text == [35]) && wr))) := Lib.hid (by rw [HE.out, ← HPC.out, show pctB p = false from by rw [pctB, h37]; rfl]; rfl)
                clear h37
                go_wp2_with fail
                skip
                refine (COp.out _).mono ?_
                rintro e w1 ⟨rfl, rfl⟩
                cases ob with
                | false =>
                  go_wp2_with fail
                  go_ret
                  exact ⟨ret_bool HE3.out.symm, (by repeat' (first | (with_reducible assumption) | (with_reducible exact Below.refl _ _) | (with_reducible refine below_drewN ?_ _) | (with_reducible refine below_bytes ?_ ?_ _) | (with_reducible refine Below.alloc ?_ ?_ _) | (with_reducible refine Below.drew ?_) | (with_reducible refine Below.setCell ?_ ?_ _) | go_size))⟩
                | true =>
                  cases h35 : (L p.text == [35]) with
                  | true =>
                    have e5 : (p.text.toList == [35]) = true := by rw [toList_L]; exact h35
                    rw [h35] at HE3
                    clear h35
                    go_wp2_with fail
                    go_ret
                    exact ⟨ret_bool HE3.out.symm, (by repeat' (first | (with_reducible assumption) | (with_reducible exact Below.refl _ _) | (with_reducible refine below_drewN ?_ _) | (with_reducible refine below_bytes ?_ ?_ _) | (with_reducible refine Below.alloc ?_ ?_ _) | (with_reducible refine Below.drew ?_) | (with_reducible refine Below.setCell ?_ ?_ _) | go_size))⟩
                  | false =>
                    have e5 : (p.text.toList == [35]) = false := by rw [toList_L]; exact h35
                    rw [h35] at HE3
                    clear h35
                    go_wp2_with fail
                    refine (CW.out _ (by repeat' (first | (with_reducible assumption) | (with_reducible exact Below.refl _ _) | (with_reducible refine below_drewN ?_ _) | (with_reducible refine below_bytes ?_ ?_ _) | (with_reducible refine Below.alloc ?_ ?_ _) | (with_reducible refine Below.drew ?_) | (with_reducible refine Below.setCell ?_ ?_ _) | go_size))).mono ?_
                    rintro e w3 ⟨rfl, hb0⟩
                    obtain ⟨hcw3, hfw3⟩ := bcell hb0
                    have hzw3 := hb0.size
                    try simp only [World.size_alloc, World.size_setCell, World.size_drew, size_drewN] at hzw3
                    have hBw3 : Below w.heap.size w w3 := since hb0 (by repeat' (first | (with_reducible assumption) | (with_reducible exact Below.refl _ _) | (with_reducible refine below_drewN ?_ _) | (with_reducible refine below_bytes ?_ ?_ _) | (with_reducible refine Below.alloc ?_ ?_ _) | (with_reducible refine Below.drew ?_) | (with_reducible refine Below.setCell ?_ ?_ _) | go_size))
                    have BXw3 := Lib.hid (Bx.later BX2.out (since hb0 (by repeat' (first | (with_reducible assumption) | (with_reducible exact Below.refl _ _) | (with_reducible refine below_drewN ?_ _) | (with_reducible refine below_bytes ?_ ?_ _) | (with_reducible refine Below.alloc ?_ ?_ _) | (with_reducible refine Below.drew ?_) | (with_reducible refine Below.setCell ?_ ?_ _) | go_size))))
                    clear hb0
                    go_wp2_with fail
                    go_ret
                    exact ⟨ret_bool HE3.out.symm, (by repeat' (first | (with_reducible assumption) | (with_reducible exact Below.refl _ _) | (with_reducible refine below_drewN ?_ _) | (with_reducible refine below_bytes ?_ ?_ _) | (with_reducible refine Below.alloc ?_ ?_ _) | (with_reducible refine Below.drew ?_) | (with_reducible refine Below.setCell ?_ ?_ _) | go_size))⟩
              | true =>
                have e4 : (p.op.toList == [37]) = true := by rw [toList_L]; exact h37
                rcases Nat.eq_zero_or_pos lw with h0 | h0
                · subst h0
                  have hwn : p.word = [] := List.length_eq_zero_iff.1 HLW.out
                  have HE3 : Hid (r = (ob && (!(L p.text == [35]) && wr))) := Lib.hid (by rw [HE.out, ← HPC.out, show pctB p = false from by rw [pctB, h37, hwn]; rfl]; rfl)
                  clear h37 hwn
                  go_wp2_with fail
                  skip
                  refine (COp.out _).mono ?_
                  rintro e w1 ⟨rfl, rfl⟩
                  cases ob with
                  | false =>
                    go_wp2_with fail
                    go_ret
                    exact ⟨ret_bool HE3.out.symm, (by repeat' (first | (with_reducible assumption) | (with_reducible exact Below.refl _ _) | (with_reducible refine below_drewN ?_ _) | (with_reducible refine below_bytes ?_ ?_ _) | (with_reducible refine Below.alloc ?_ ?_ _) | (with_reducible refine Below.drew ?_) | (with_reducible refine Below.setCell ?_ ?_ _) | go_size))⟩
                  | true =>
                    cases h35 : (L p.text == [35]) with
                    | true =>
                      have e5 : (p.text.toList == [35]) = true := by rw [toList_L]; exact h35
                      rw [h35] at HE3
                      clear h35
                      go_wp2_with fail
                      go_ret
                      exact ⟨ret_bool HE3.out.symm, (by repeat' (first | (with_reducible assumption) | (with_reducible exact Below.refl _ _) | (with_reducible refine below_drewN ?_ _) | (with_reducible refine below_bytes ?_ ?_ _) | (with_reducible refine Below.alloc ?_ ?_ _) | (with_reducible refine Below.drew ?_) | (with_reducible refine Below.setCell ?_ ?_ _) | go_size))⟩
                    | false =>
                      have e5 : (p.text.toList == [35]) = false := by rw [toList_L]; exact h35
                      rw [h35] at HE3
                      clear h35
                      go_wp2_with fail
                      refine (CW.out _ (by repeat' (first | (with_reducible assumption) | (with_reducible exact Below.refl _ _) | (with_reducible refine below_drewN ?_ _) | (with_reducible refine below_bytes ?_ ?_ _) | (with_reducible refine Below.alloc ?_ ?_ _) | (with_reducible refine Below.drew ?_) | (with_reducible refine Below.setCell ?_ ?_ _) | go_size))).mono ?_
                      rintro e w3 ⟨rfl, hb0⟩
                      obtain ⟨hcw3, hfw3⟩ := bcell hb0
                      have hzw3 := hb0.size
                      try simp only [World.size_alloc, World.size_setCell, World.size_drew, size_drewN] at hzw3
                      have hBw3 : Below w.heap.size w w3 := since hb0 (by repeat' (first | (with_reducible assumption) | (with_reducible exact Below.refl _ _) | (with_reducible refine below_drewN ?_ _) | (with_reducible refine below_bytes ?_ ?_ _) | (with_reducible refine Below.alloc ?_ ?_ _) | (with_reducible refine Below.drew ?_) | (with_reducible refine Below.setCell ?_ ?_ _) | go_size))
                      have BXw3 := Lib.hid (Bx.later BX2.out (since hb0 (by repeat' (first | (with_reducible assumption) | (with_reducible exact Below.refl _ _) | (with_reducible refine below_drewN ?_ _) | (with_reducible refine below_bytes ?_ ?_ _) | (with_reducible refine Below.alloc ?_ ?_ _) | (with_reducible refine Below.drew ?_) | (with_reducible refine Below.setCell ?_ ?_ _) | go_size))))
                      clear hb0
                      go_wp2_with fail
                      go_ret
                      exact ⟨ret_bool HE3.out.symm, (by repeat' (first | (with_reducible assumption) | (with_reducible exact Below.refl _ _) | (with_reducible refine below_drewN ?_ _) | (with_reducible refine below_bytes ?_ ?_ _) | (with_reducible refine Below.alloc ?_ ?_ _) | (with_reducible refine Below.drew ?_) | (with_reducible refine Below.setCell ?_ ?_ _) | go_size))⟩
                · obtain ⟨x, b, o, ⟨xr, hx⟩, hxt, hi, hbB, g0, g1, g2⟩ := HW.out.first (by rw [HLW.out]; exact h0)
                  have hbB2 := Nat.lt_of_lt_of_le hbB hBBX2.size
                  have hp0 : pctB p = (x.kind == 1 && !x.quoted && List.isPrefixOf [37] (L x.text)) := by rw [pctB, h37, hx]; rfl
                  have HP0 := Lib.hid hp0
                  rw [← hBBX2.cell (p := ⟨b, o, none⟩) hbB] at g0
                  rw [← hBBX2.cell (p := ⟨b, o + 1, none⟩) hbB] at g1
                  rw [← hBBX2.cell (p := ⟨b, o + 2, none⟩) hbB] at g2
                  obtain ⟨xk, hxk⟩ : ∃ k, x.kind = k := ⟨_, rfl⟩
                  obtain ⟨xq, hxq⟩ : ∃ k, x.quoted = k := ⟨_, rfl⟩
                  obtain ⟨xt, hxt2⟩ : ∃ k, x.text = k := ⟨_, rfl⟩
                  rw [hxk] at g0 HP0
                  rw [hxq] at g1 HP0
                  rw [hxt2] at g2 HP0
                  have hlt : decide ((0 : Int) < (lw : Int)) = true := by simp; omega
                  clear h37 hp0 hx hxk hxq hxt2 hxt
                  cases hk1 : (xk == 1) with
                  | false =>
                    rw [hk1, Bool.false_and, Bool.false_and] at HP0
                    have HE3 : Hid (r = (ob && (!(L p.text == [35]) && wr))) := Lib.hid (by rw [HE.out, ← HPC.out, show pctB p = false from HP0.out]; rfl)
                    skip
                    go_wp2_with fail
                    skip
                    refine (COp.out _).mono ?_
                    rintro e w1 ⟨rfl, rfl⟩
                    cases ob with
                    | false =>
                      go_wp2_with fail
                      go_ret
                      exact ⟨ret_bool HE3.out.symm, (by repeat' (first | (with_reducible assumption) | (with_reducible exact Below.refl _ _) | (with_reducible refine below_drewN ?_ _) | (with_reducible refine below_bytes ?_ ?_ _) | (with_reducible refine Below.alloc ?_ ?_ _) | (with_reducible refine Below.drew ?_) | (with_reducible refine Below.setCell ?_ ?_ _) | go_size))⟩
                    | true =>
                      cases h35 : (L p.text == [35]) with
                      | true =>
                        have e5 : (p.text.toList == [35]) = true := by rw [toList_L]; exact h35
                        rw [h35] at HE3
                        clear h35
                        go_wp2_with fail
                        go_ret
                        exact ⟨ret_bool HE3.out.symm, (by repeat' (first | (with_reducible assumption) | (with_reducible exact Below.refl _ _) | (with_reducible refine below_drewN ?_ _) | (with_reducible refine below_bytes ?_ ?_ _) | (with_reducible refine Below.alloc ?_ ?_ _) | (with_reducible refine Below.drew ?_) | (with_reducible refine Below.setCell ?_ ?_ _) | go_size))⟩
                      | false =>
                        have e5 : (p.text.toList == [35]) = false := by rw [toList_L]; exact h35
                        rw [h35] at HE3
                        clear h35
                        go_wp2_with fail
                        refine (CW.out _ (by repeat' (first | (with_reducible assumption) | (with_reducible exact Below.refl _ _) | (with_reducible refine below_drewN ?_ _) | (with_reducible refine below_bytes ?_ ?_ _) | (with_reducible refine Below.alloc ?_ ?_ _) | (with_reducible refine Below.drew ?_) | (with_reducible refine Below.setCell ?_ ?_ _) | go_size))).mono ?_
                        rintro e w3 ⟨rfl, hb0⟩
                        obtain ⟨hcw3, hfw3⟩ := bcell hb0
                        have hzw3 := hb0.size
                        try simp only [World.size_alloc, World.size_setCell, World.size_drew, size_drewN] at hzw3
                        have hBw3 : Below w.heap.size w w3 := since hb0 (by repeat' (first | (with_reducible assumption) | (with_reducible exact Below.refl _ _) | (with_reducible refine below_drewN ?_ _) | (with_reducible refine below_bytes ?_ ?_ _) | (with_reducible refine Below.alloc ?_ ?_ _) | (with_reducible refine Below.drew ?_) | (with_reducible refine Below.setCell ?_ ?_ _) | go_size))
                        have BXw3 := Lib.hid (Bx.later BX2.out (since hb0 (by repeat' (first | (with_reducible assumption) | (with_reducible exact Below.refl _ _) | (with_reducible refine below_drewN ?_ _) | (with_reducible refine below_bytes ?_ ?_ _) | (with_reducible refine Below.alloc ?_ ?_ _) | (with_reducible refine Below.drew ?_) | (with_reducible refine Below.setCell ?_ ?_ _) | go_size))))
                        clear hb0
                        go_wp2_with fail
                        go_ret
                        exact ⟨ret_bool HE3.out.symm, (by repeat' (first | (with_reducible assumption) | (with_reducible exact Below.refl _ _) | (with_reducible refine below_drewN ?_ _) | (with_reducible refine below_bytes ?_ ?_ _) | (with_reducible refine Below.alloc ?_ ?_ _) | (with_reducible refine Below.drew ?_) | (with_reducible refine Below.setCell ?_ ?_ _) | go_size))⟩
                  | true =>
                    rw [hk1, Bool.true_and] at HP0
                    cases xq with
                    | true =>
                      rw [Bool.not_true, Bool.false_and] at HP0
                      have HE3 : Hid (r = (ob && (!(L p.text == [35]) && wr))) := Lib.hid (by rw [HE.out, ← HPC.out, show pctB p = false from HP0.out]; rfl)
                      skip
                      go_wp2_with fail
                      skip
                      refine (COp.out _).mono ?_
                      rintro e w1 ⟨rfl, rfl⟩
                      cases ob with
                      | false =>
                        go_wp2_with fail
                        go_ret
                        exact ⟨ret_bool HE3.out.symm, (by repeat' (first | (with_reducible assumption) | (with_reducible exact Below.refl _ _) | (with_reducible refine below_drewN ?_ _) | (with_reducible refine below_bytes ?_ ?_ _) | (with_reducible refine Below.alloc ?_ ?_ _) | (with_reducible refine Below.drew ?_) | (with_reducible refine Below.setCell ?_ ?_ _) | go_size))⟩
                      | true =>
                        cases h35 : (L p.text == [35]) with
                        | true =>
                          have e5 : (p.text.toList == [35]) = true := by rw [toList_L]; exact h35
                          rw [h35] at HE3
                          clear h35
                          go_wp2_with fail
                          go_ret
                          exact ⟨ret_bool HE3.out.symm, (by repeat' (first | (with_reducible assumption) | (with_reducible exact Below.refl _ _) | (with_reducible refine below_drewN ?_ _) | (with_reducible refine below_bytes ?_ ?_ _) | (with_reducible refine Below.alloc ?_ ?_ _) | (with_reducible refine Below.drew ?_) | (with_reducible refine Below.setCell ?_ ?_ _) | go_size))⟩
                        | false =>
                          have e5 : (p.text.toList == [35]) = false := by rw [toList_L]; exact h35
                          rw [h35] at HE3
                          clear h35
                          go_wp2_with fail
                          refine (CW.out _ (by repeat' (first | (with_reducible assumption) | (with_reducible exact Below.refl _ _) | (with_reducible refine below_drewN ?_ _) | (with_reducible refine below_bytes ?_ ?_ _) | (with_reducible refine Below.alloc ?_ ?_ _) | (with_reducible refine Below.drew ?_) | (with_reducible refine Below.setCell ?_ ?_ _) | go_size))).mono ?_
                          rintro e w3 ⟨rfl, hb0⟩
                          obtain ⟨hcw3, hfw3⟩ := bcell hb0
                          have hzw3 := hb0.size
                          try simp only [World.size_alloc, World.size_setCell, World.size_drew, size_drewN] at hzw3
                          have hBw3 : Below w.heap.size w w3 := since hb0 (by repeat' (first | (with_reducible assumption) | (with_reducible exact Below.refl _ _) | (with_reducible refine below_drewN ?_ _) | (with_reducible refine below_bytes ?_ ?_ _) | (with_reducible refine Below.alloc ?_ ?_ _) | (with_reducible refine Below.drew ?_) | (with_reducible refine Below.setCell ?_ ?_ _) | go_size))
                          have BXw3 := Lib.hid (Bx.later BX2.out (since hb0 (by repeat' (first | (with_reducible assumption) | (with_reducible exact Below.refl _ _) | (with_reducible refine below_drewN ?_ _) | (with_reducible refine below_bytes ?_ ?_ _) | (with_reducible refine Below.alloc ?_ ?_ _) | (with_reducible refine Below.drew ?_) | (with_reducible refine Below.setCell ?_ ?_ _) | go_size))))
                          clear hb0
                          go_wp2_with fail
                          go_ret
                          exact ⟨ret_bool HE3.out.symm, (by repeat' (first | (with_reducible assumption) | (with_reducible exact Below.refl _ _) | (with_reducible refine below_drewN ?_ _) | (with_reducible refine below_bytes ?_ ?_ _) | (with_reducible refine Below.alloc ?_ ?_ _) | (with_reducible refine Below.drew ?_) | (with_reducible refine Below.setCell ?_ ?_ _) | go_size))⟩
                    | false =>
                      rw [Bool.not_false, Bool.true_and] at HP0
                      have CH := Lib.hid (CHP.out xt)
                      obtain ⟨hh, hhd⟩ : ∃ h, List.isPrefixOf [37] (L xt) = h := ⟨_, rfl⟩
                      rw [hhd] at HP0 CH
                      clear hhd
                      cases hh with
                      | true =>
                        have HE3 : Hid (r = false) := Lib.hid (by rw [HE.out, ← HPC.out, HP0.out]; rfl)
                        go_wp2_with fail
                        refine (CH.out _).mono ?_
                        rintro e w1 ⟨rfl, rfl⟩
                        go_wp2_with fail
                        go_ret
                        exact ⟨ret_bool HE3.out.symm, (by repeat' (first | (with_reducible assumption) | (with_reducible exact Below.refl _ _) | (with_reducible refine below_drewN ?_ _) | (with_reducible refine below_bytes ?_ ?_ _) | (with_reducible refine Below.alloc ?_ ?_ _) | (with_reducible refine Below.drew ?_) | (with_reducible refine Below.setCell ?_ ?_ _) | go_size))⟩
                      | false =>
                        have HE3 : Hid (r = (ob && (!(L p.text == [35]) && wr))) := Lib.hid (by rw [HE.out, ← HPC.out, HP0.out]; rfl)
                        go_wp2_with fail
                        refine (CH.out _).mono ?_
                        rintro e w1 ⟨rfl, rfl⟩
                        have HE3 : Hid (r = (ob && (!(L p.text == [35]) && wr))) := Lib.hid (by rw [HE.out, ← HPC.out, show pctB p = false from HP0.out]; rfl)
                        clear HE3
                        go_wp2_with fail
                        skip
                        refine (COp.out _).mono ?_
                        rintro e w1 ⟨rfl, rfl⟩
                        cases ob with
                        | false =>
                          go_wp2_with fail
                          go_ret
                          exact ⟨ret_bool HE3.out.symm, (by repeat' (first | (with_reducible assumption) | (with_reducible exact Below.refl _ _) | (with_reducible refine below_drewN ?_ _) | (with_reducible refine below_bytes ?_ ?_ _) | (with_reducible refine Below.alloc ?_ ?_ _) | (with_reducible refine Below.drew ?_) | (with_reducible refine Below.setCell ?_ ?_ _) | go_size))⟩
                        | true =>
                          cases h35 : (L p.text == [35]) with
                          | true =>
                            have e5 : (p.text.toList == [35]) = true := by rw [toList_L]; exact h35
                            rw [h35] at HE3
                            clear h35
                            go_wp2_with fail
                            go_ret
                            exact ⟨ret_bool HE3.out.symm, (by repeat' (first | (with_reducible assumption) | (with_reducible exact Below.refl _ _) | (with_reducible refine below_drewN ?_ _) | (with_reducible refine below_bytes ?_ ?_ _) | (with_reducible refine Below.alloc ?_ ?_ _) | (with_reducible refine Below.drew ?_) | (with_reducible refine Below.setCell ?_ ?_ _) | go_size))⟩
                          | false =>
                            have e5 : (p.text.toList == [35]) = false := by rw [toList_L]; exact h35
                            rw [h35] at HE3
                            clear h35
                            go_wp2_with fail
                            refine (CW.out _ (by repeat' (first | (with_reducible assumption) | (with_reducible exact Below.refl _ _) | (with_reducible refine below_drewN ?_ _) | (with_reducible refine below_bytes ?_ ?_ _) | (with_reducible refine Below.alloc ?_ ?_ _) | (with_reducible refine Below.drew ?_) | (with_reducible refine Below.setCell ?_ ?_ _) | go_size))).mono ?_
                            rintro e w3 ⟨rfl, hb0⟩
                            obtain ⟨hcw3, hfw3⟩ := bcell hb0
                            have hzw3 := hb0.size
                            try simp only [World.size_alloc, World.size_setCell, World.size_drew, size_drewN] at hzw3
                            have hBw3 : Below w.heap.size w w3 := since hb0 (by repeat' (first | (with_reducible assumption) | (with_reducible exact Below.refl _ _) | (with_reducible refine below_drewN ?_ _) | (with_reducible refine below_bytes ?_ ?_ _) | (with_reducible refine Below.alloc ?_ ?_ _) | (with_reducible refine Below.drew ?_) | (with_reducible refine Below.setCell ?_ ?_ _) | go_size))
                            have BXw3 := Lib.hid (Bx.later BX2.out (since hb0 (by repeat' (first | (with_reducible assumption) | (with_reducible exact Below.refl _ _) | (with_reducible refine below_drewN ?_ _) | (with_reducible refine below_bytes ?_ ?_ _) | (with_reducible refine Below.alloc ?_ ?_ _) | (with_reducible refine Below.drew ?_) | (with_reducible refine Below.setCell ?_ ?_ _) | go_size))))
                            clear hb0
                            go_wp2_with fail
                            go_ret
                            exact ⟨ret_bool HE3.out.symm, (by repeat' (first | (with_reducible assumption) | (with_reducible exact Below.refl _ _) | (with_reducible refine below_drewN ?_ _) | (with_reducible refine below_bytes ?_ ?_ _) | (with_reducible refine Below.alloc ?_ ?_ _) | (with_reducible refine Below.drew ?_) | (with_reducible refine Below.setCell ?_ ?_ _) | go_size))⟩
  · have HE : Hid (r = false) := Lib.hid (by
      have : p.body.isEmpty = false := not_nil_of_len HLB.out h0
      rw [← HR.out, ← HBD.out, this]; rfl)
    have e1 : decide ((0 : Int) < (lb : Int)) = true := by simp; omega
    clear EB HLB
    go_enter Tryz.func109, Tryz.ntmps109
    go_wp2_with fail
    refine (CNm.out _ (by repeat' (first | (with_reducible assumption) | (with_reducible exact Below.refl _ _) | (with_reducible refine below_drewN ?_ _) | (with_reducible refine below_bytes ?_ ?_ _) | (with_reducible refine Below.alloc ?_ ?_ _) | (with_reducible refine Below.drew ?_) | (with_reducible refine Below.setCell ?_ ?_ _) | go_size))).mono ?_
    rintro e w1 ⟨rfl, hb0⟩
    obtain ⟨hcw1, hfw1⟩ := bcell hb0
    have hzw1 := hb0.size
    try simp only [World.size_alloc, World.size_setCell, World.size_drew, size_drewN] at hzw1
    have hBw1 : Below w.heap.size w w1 := since hb0 (by repeat' (first | (with_reducible assumption) | (with_reducible exact Below.refl _ _) | (with_reducible refine below_drewN ?_ _) | (with_reducible refine below_bytes ?_ ?_ _) | (with_reducible refine Below.alloc ?_ ?_ _) | (with_reducible refine Below.drew ?_) | (with_reducible refine Below.setCell ?_ ?_ _) | go_size))
    have BXw1 := Lib.hid (Bx.later BX.out (since hb0 (by repeat' (first | (with_reducible assumption) | (with_reducible exact Below.refl _ _) | (with_reducible refine below_drewN ?_ _) | (with_reducible refine below_bytes ?_ ?_ _) | (with_reducible refine Below.alloc ?_ ?_ _) | (with_reducible refine Below.drew ?_) | (with_reducible refine Below.setCell ?_ ?_ _) | go_size))))
    clear hb0
    cases nm with
    | true =>
      go_wp2_with fail
      go_ret
      exact ⟨ret_bool HE.out.symm, (by repeat' (first | (with_reducible assumption) | (with_reducible exact Below.refl _ _) | (with_reducible refine below_drewN ?_ _) | (with_reducible refine below_bytes ?_ ?_ _) | (with_reducible refine Below.alloc ?_ ?_ _) | (with_reducible refine Below.drew ?_) | (with_reducible refine Below.setCell ?_ ?_ _) | go_size))⟩
    | false =>
      go_wp2_with fail
      refine (CNu.out _ (by repeat' (first | (with_reducible assumption) | (with_reducible exact Below.refl _ _) | (with_reducible refine below_drewN ?_ _) | (with_reducible refine below_bytes ?_ ?_ _) | (with_reducible refine Below.alloc ?_ ?_ _) | (with_reducible refine Below.drew ?_) | (with_reducible refine Below.setCell ?_ ?_ _) | go_size))).mono ?_
      rintro e w2 ⟨rfl, hb0⟩
      obtain ⟨hcw2, hfw2⟩ := bcell hb0
      have hzw2 := hb0.size
      try simp only [World.size_alloc, World.size_setCell, World.size_drew, size_drewN] at hzw2
      have hBw2 : Below w.heap.size w w2 := since hb0 (by repeat' (first | (with_reducible assumption) | (with_reducible exact Below.refl _ _) | (with_reducible refine below_drewN ?_ _) | (with_reducible refine below_bytes ?_ ?_ _) | (with_reducible refine Below.alloc ?_ ?_ _) | (with_reducible refine Below.drew ?_) | (with_reducible refine Below.setCell ?_ ?_ _) | go_size))
      have BXw2 := Lib.hid (Bx.later BXw1.out (since hb0 (by repeat' (first | (with_reducible assumption) | (with_reducible exact Below.refl _ _) | (with_reducible refine below_drewN ?_ _) | (with_reducible refine below_bytes ?_ ?_ _) | (with_reducible refine Below.alloc ?_ ?_ _) | (with_reducible refine Below.drew ?_) | (with_reducible refine Below.setCell ?_ ?_ _) | go_size))))
      clear hb0
      have K0BXw2 := Lib.hid BXw2.out.b0
      have K1BXw2 := Lib.hid BXw2.out.b1
      have hBBXw2 := BXw2.out.hb
      have b0 := K0BXw2.out.cell 0
      have bf := K0BXw2.out.free 0
      have bl := K0BXw2.out.lt
      simp at b0
      have p0 := K1BXw2.out.cell 0
      have p1 := K1BXw2.out.cell 1
      have p2 := K1BXw2.out.cell 2
      have p3 := K1BXw2.out.cell 3
      have p4 := K1BXw2.out.cell 4
      have p5 := K1BXw2.out.cell 5
      have pl := K1BXw2.out.lt
      simp at p0 p1 p2 p3 p4 p5
      cases nu with
      | true =>
        go_wp2_with fail
        go_ret
        exact ⟨ret_bool HE.out.symm, (by repeat' (first | (with_reducible assumption) | (with_reducible exact Below.refl _ _) | (with_reducible refine below_drewN ?_ _) | (with_reducible refine below_bytes ?_ ?_ _) | (with_reducible refine Below.alloc ?_ ?_ _) | (with_reducible refine Below.drew ?_) | (with_reducible refine Below.setCell ?_ ?_ _) | go_size))⟩
      | false =>
        go_wp2_with fail
        go_ret
        exact ⟨ret_bool HE.out.symm, (by repeat' (first | (with_reducible assumption) | (with_reducible exact Below.refl _ _) | (with_reducible refine below_drewN ?_ _) | (with_reducible refine below_bytes ?_ ?_ _) | (with_reducible refine Below.alloc ?_ ?_ _) | (with_reducible refine Below.drew ?_) | (with_reducible refine Below.setCell ?_ ?_ _) | go_size))⟩
end Go.Proofs.YtnackmnoldkihaaGreatDoor
