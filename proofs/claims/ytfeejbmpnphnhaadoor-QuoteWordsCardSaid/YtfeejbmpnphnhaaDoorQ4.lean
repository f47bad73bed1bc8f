/-
  The walks of piece and of Read, the program's and the document's.
-/
import Derived.Test.YtfeejbmpnphnhaaDoorQ3
namespace Go.Proofs.YtfeejbmpnphnhaaDoor
open Go.RowKit

theorem drop1 (q : ByteArray) (h : 0 < q.size) : L q = (L q).getD 0 0 :: (L q).drop 1 := by
  have := drop_getD (L q) (show 0 < (L q).length from h)
  rwa [List.drop_zero] at this

/-- What piece says of a word that is not empty. -/
def PieceP (q : ByteArray) (e : Ending) : Prop :=
  (∃ p r : ByteArray, e = .returned (.tuple #[.string p, .string r, .bool true]) ∧ rdM false (L q) = (rdM false (L r)).map (L p ++ ·) ∧ r.size < q.size ∧ p.size + r.size ≤ q.size) ∨
  (e = .returned (.tuple #[.string ⟨#[]⟩, .string ⟨#[]⟩, .bool false]) ∧ rdM false (L q) = none)

theorem prefix_back (l : List UInt8) : Lib.hasPrefix l [92, 39] = (l.take 2 == [92, 39]) := by
  rw [← Lib.hasPrefix_of_take]
  match l with
  | [] => rfl
  | [a] => simp
  | a :: b :: l => simp

set_option maxHeartbeats 1000000 in
theorem piece_any (q : ByteArray) (w : World) (hq : q.size ≤ 100000) (hpos : 0 < q.size) :
    Calls Tryd.prog 16 #[.string q] w fun e w' => PieceP q e ∧ Below w.heap.size w w' := by
  have hd := drop1 q hpos
  have i0 := run_idx (P := Tryd.prog) (k := .i64) Tryd.underlying9 q 0 0 rfl hpos
  obtain ⟨c, hc⟩ : ∃ c, c = (L q).getD 0 0 := ⟨_, rfl⟩
  rw [← hc] at i0 hd
  clear hc
  by_cases h39 : c = 39
  · have et : (((c.toNat : Nat) : Int) == 39) = true := by rw [h39]; rfl
    subst h39
    have htl : L (q.extract 1 q.size) = (L q).drop 1 := by rw [S_extract_from, L_S]
    have hrd : rdM false (L q) = rdM true ((L q).drop 1) := by
      conv => lhs; rw [hd]
      rw [rdM_quote]
    obtain ⟨v, hv⟩ : ∃ v, Lib.indexByte ((L q).drop 1) 39 = v := ⟨_, rfl⟩
    have C := Lib.hid (fun w => indexAt_any (q.extract 1 q.size) 39 v w (by rw [htl]; exact hv))
    by_cases h0 : v < 0
    · have h1 : Lib.indexByte ((L q).drop 1) 39 = -1 := by have := Lib.indexByte_ge ((L q).drop 1) 39; omega
      have HR : Hid (rdM false (L q) = none) := Lib.hid (by rw [hrd]; exact rd_never _ (fun k => Lib.indexByte_none h1 k))
      clear hd htl hrd hv h1
      go_enter Tryd.func16, Tryd.ntmps16
      go_wp2_with fail
      refine (C.out _).mono ?_
      rintro e w1 ⟨rfl, rfl⟩
      go_wp2_with fail
      go_ret3
      exact ⟨.inr ⟨rfl, HR.out⟩, Below.refl _ _⟩
    · obtain ⟨o, ho⟩ := Int.eq_ofNat_of_zero_le (Int.not_lt.1 h0)
      subst ho
      obtain ⟨h1, h2⟩ := Lib.indexByte_some hv
      have hol : o < q.size - 1 := by
        have := (List.getElem?_eq_some_iff.1 h1).1
        rw [List.length_drop, L_size] at this
        exact this
      have HR : Hid (rdM false (L q) = (rdM false (L (q.extract (o + 2) q.size))).map (L (q.extract 1 (o + 1)) ++ ·)) := Lib.hid (by
        rw [hrd, rd_upto o _ h1 h2, S_extract_from, L_S, L_extract, List.drop_drop, show 1 + (o + 1) = o + 2 by omega, show o + 1 - 1 = o by omega])
      clear hd htl hrd hv h1 h2
      have w1 := wrap_in ((o : Int) + 1) ⟨by omega, by omega⟩
      have w2 := wrap_in ((o : Int) + 2) ⟨by omega, by omega⟩
      have s1 := run_sl (P := Tryd.prog) Tryd.underlying9 q 1 ((o : Int) + 1) 1 (o + 1) rfl (by omega) (by omega) (by omega)
      have s2 := run_sl_from (P := Tryd.prog) Tryd.underlying9 q ((o : Int) + 2) (o + 2) (by omega) (by omega)
      go_enter Tryd.func16, Tryd.ntmps16
      go_wp2_with fail
      refine (C.out _).mono ?_
      rintro e w1 ⟨rfl, rfl⟩
      go_wp2_with fail
      go_quiet (fail)
      go_wp2_with fail
      go_ret3
      refine ⟨.inl ⟨_, _, rfl, HR.out, ?_, ?_⟩, below_drewN (Below.refl _ _) nq⟩
      · simp only [ByteArray.size_extract]; omega
      · simp only [ByteArray.size_extract]; omega
  · have et : (((c.toNat : Nat) : Int) == 39) = false := ne_byte (d := 39) h39
    have hp := prefix_back (L q)
    by_cases hb : (L q).take 2 = [92, 39]
    · have hp1 : Lib.hasPrefix (L q) (L ⟨#[92, 39]⟩) = true := by
        rw [show L ⟨#[92, 39]⟩ = [92, 39] from rfl, hp, hb]; rfl
      have C := Lib.hid (fun w => hasPrefix_any q ⟨#[92, 39]⟩ true w hp1)
      have h2 : 2 ≤ q.size := by
        have := congrArg List.length hb
        rw [List.length_take, L_size] at this
        simp at this; omega
      have HR : Hid (rdM false (L q) = (rdM false (L (q.extract 2 q.size))).map (L ⟨#[39]⟩ ++ ·)) := Lib.hid (by
        have e : L q = 92 :: 39 :: (L q).drop 2 := by
          conv => lhs; rw [← List.take_append_drop 2 (L q), hb]
          rfl
        conv => lhs; rw [e]
        rw [rdM_back, S_extract_from, L_S]; rfl)
      clear hd hp hb hp1 h39
      have s2 := run_sl_from (P := Tryd.prog) Tryd.underlying9 q 2 2 rfl h2
      go_enter Tryd.func16, Tryd.ntmps16
      go_wp2_with fail
      refine (C.out _).mono ?_
      rintro e w1 ⟨rfl, rfl⟩
      go_wp2_with fail
      go_quiet (fail)
      go_wp2_with fail
      go_ret3
      refine ⟨.inl ⟨_, _, rfl, HR.out, ?_, ?_⟩, below_drewN (Below.refl _ _) nq⟩
      · simp only [ByteArray.size_extract]; omega
      · simp only [ByteArray.size_extract]; simp; omega
    · have hp1 : Lib.hasPrefix (L q) (L ⟨#[92, 39]⟩) = false := by
        rw [show L ⟨#[92, 39]⟩ = [92, 39] from rfl, hp]; simpa using hb
      have C := Lib.hid (fun w => hasPrefix_any q ⟨#[92, 39]⟩ false w hp1)
      have C2 := Lib.hid (fun w => safe_any c w)
      cases hs : safeB c with
      | true =>
        rw [hs] at C2
        have HR : Hid (rdM false (L q) = (rdM false (L (q.extract 1 q.size))).map (L (q.extract 0 1) ++ ·)) := Lib.hid (by
          conv => lhs; rw [hd]
          rw [rdM_safe hs, S_extract_from, L_S]
          have : L (q.extract 0 1) = [c] := by rw [L_extract, hd]; rfl
          rw [this]; rfl)
        clear hd hp hb hp1 h39 hs
        have s1 := run_sl_to (P := Tryd.prog) Tryd.underlying9 q 1 1 rfl hpos
        have s2 := run_sl_from (P := Tryd.prog) Tryd.underlying9 q 1 1 rfl hpos
        go_enter Tryd.func16, Tryd.ntmps16
        go_wp2_with fail
        refine (C.out _).mono ?_
        rintro e w1 ⟨rfl, rfl⟩
        go_wp2_with fail
        refine (C2.out _).mono ?_
        rintro e w1 ⟨rfl, rfl⟩
        go_wp2_with fail
        go_quiet (fail)
        go_wp2_with fail
        go_ret3
        refine ⟨.inl ⟨_, _, rfl, HR.out, ?_, ?_⟩, below_drewN (Below.refl _ _) nq⟩
        · simp only [ByteArray.size_extract]; omega
        · simp only [ByteArray.size_extract]; omega
      | false =>
        rw [hs] at C2
        have HR : Hid (rdM false (L q) = none) := Lib.hid (by
          conv => lhs; rw [hd]
          refine rdM_no _ h39 (fun ⟨k1, k2⟩ => hb ?_) hs
          rw [hd, k1]
          cases hdr : (L q).drop 1 with
          | nil => rw [hdr] at k2; cases k2
          | cons x y => rw [hdr] at k2; simp at k2; rw [k2]; rfl)
        clear hd hp hb hp1 h39 hs
        go_enter Tryd.func16, Tryd.ntmps16
        go_wp2_with fail
        refine (C.out _).mono ?_
        rintro e w1 ⟨rfl, rfl⟩
        go_wp2_with fail
        refine (C2.out _).mono ?_
        rintro e w1 ⟨rfl, rfl⟩
        go_wp2_with fail
        go_ret3
        exact ⟨.inr ⟨rfl, HR.out⟩, Below.refl _ _⟩

def readV : Option (List UInt8) → Value
  | some d => .tuple #[.string (S d), .int .i64 0]
  | none => .tuple #[.string ⟨#[]⟩, .int .i64 11]
def readR : Option (List UInt8) → Value
  | some d => .tuple #[.string (S d), .bool true]
  | none => .tuple #[.string ⟨#[]⟩, .bool false]

def sizeV : Value → Nat
  | .string s => s.size
  | _ => 0

set_option maxHeartbeats 1000000 in
theorem read_any (q : ByteArray) (w : World) (hq : q.size ≤ 100000) :
    Calls Tryd.prog 7 #[.string q] w fun e w' => e = .returned (readV (readL (L q))) ∧ Below w.heap.size w w' := by
  cases e0 : q.toList.isEmpty with
  | true =>
    have hr : readL (L q) = none := by rw [isEmpty_L] at e0; rw [readL, if_pos (by simpa using e0)]
    rw [hr]
    clear hr
    go_enter Tryd.func7, Tryd.ntmps7
    go_wp2_with fail
    go_ret2
    exact ⟨rfl, Below.refl _ _⟩
  | false =>
    have hr : readL (L q) = rdM false (L q) := by rw [isEmpty_L] at e0; rw [readL, if_neg (by simpa using e0)]
    have HRR := Lib.hid hr
    clear hr
    go_enter Tryd.func7, Tryd.ntmps7
    go_wp2_with fail
    go_loopw [0, 4] (fun s o wr => ∃ (r t : ByteArray), s = .string r ∧ o = .string t ∧ rdM false (L q) = (rdM false (L r)).map (L t ++ ·) ∧ t.size + r.size ≤ q.size ∧ Below w.heap.size w wr) (fun s _ _ => sizeV s)
    case atStart => exact ⟨q, ⟨#[]⟩, rfl, rfl, by rw [show L ⟨#[]⟩ = [] from rfl]; cases rdM false (L q) <;> rfl, by simp, Below.refl _ _⟩
    case round =>
      obtain ⟨r, t, rfl, rfl, hrd, hsz, hbw⟩ := hrel
      have HR := Lib.hid hrd
      have hbs := hbw.size
      clear hrd e0
      cases e1 : r.toList.isEmpty with
      | true =>
        have hres : readL (L q) = some (L t) := by
          rw [isEmpty_L] at e1
          have e2 : L r = [] := by simpa using e1
          rw [HRR.out, HR.out, e2]; simp [rdM]
        have HRES := Lib.hid hres
        clear hres
        go_wp2_with fail
        go_ret2
        exact ⟨by rw [HRES.out]; rfl, hbw⟩
      | false =>
        have hpos : 0 < r.size := by
          rw [isEmpty_L] at e1
          have h1 : L r ≠ [] := by simpa using e1
          exact List.length_pos_iff.2 h1
        have C := Lib.hid (fun w => piece_any r w (by omega) hpos)
        go_wp2_with fail
        refine (C.out _).mono ?_
        rintro e w1 ⟨hP, hb1⟩
        have hb2 := hbw.trans (hb1.mono hbs)
        clear hb1
        rcases hP with ⟨p, r2, rfl, hrd, hlt, hsz2⟩ | ⟨rfl, hrd⟩
        · have HR2 : Hid (rdM false (L q) = (rdM false (L r2)).map (L (t ++ p) ++ ·)) := Lib.hid (by
            rw [HR.out, hrd, L_append, Option.map_map]
            congr 1
            funext x
            simp)
          have hps : p.size ≤ 100000 := by omega
          have hts : t.size ≤ 100000 := by omega
          clear hrd
          go_wp2_with fail
          go_roundw
          case rel => exact ⟨r2, t ++ p, rfl, rfl, HR2.out, by rw [ByteArray.size_append]; omega, hb2⟩
          case measure => simpa [sizeV] using hlt
        · have HR2 : Hid (readL (L q) = none) := Lib.hid (by rw [HRR.out, HR.out, hrd]; rfl)
          clear hrd
          go_wp2_with fail
          go_ret2
          exact ⟨by rw [HR2.out]; rfl, hb2⟩
end Go.Proofs.YtfeejbmpnphnhaaDoor
