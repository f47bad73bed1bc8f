/-
  The walks of the check's steps.
-/
import Derived.Test.YtaanmmfhkhbchaaDoorC1
import Derived.Deep.QuietTactic
import Derived.BigQuiet
namespace Go.Proofs.YtaanmmfhkhbchaaDoor
open Go.RowKit

theorem bits_xor_u32 (u v : BitVec 32) {x y : Int} (hx : x = (u.toNat : Nat)) (hy : y = (v.toNat : Nat)) : bits BinOp.xor .u32 x y = (((u ^^^ v).toNat : Nat) : Int) := by
  subst hx hy
  have hu := u.isLt
  have hv := v.isLt
  have h : (BitVec.ofInt 32 (u.toNat : Int) ^^^ BitVec.ofInt 32 (v.toNat : Int)) = u ^^^ v := by
    rw [show BitVec.ofInt 32 (u.toNat : Int) = u by apply BitVec.eq_of_toNat_eq; rw [BitVec.toNat_ofInt]; omega, show BitVec.ofInt 32 (v.toNat : Int) = v by apply BitVec.eq_of_toNat_eq; rw [BitVec.toNat_ofInt]; omega]
  show IntKind.u32.wrap (((BitVec.ofInt 32 (u.toNat : Int) ^^^ BitVec.ofInt 32 (v.toNat : Int)).toNat : Nat) : Int) = _
  rw [h, IntWalk.u32_in _ ⟨by omega, by have := (u ^^^ v).isLt; omega⟩]

theorem shl1 (x : BitVec 32) : ((x.toNat : Int) * 2 % 4294967296) = (((x <<< 1).toNat : Nat) : Int) := by
  rw [BitVec.toNat_shiftLeft, Nat.shiftLeft_eq]; omega
theorem msb_test (x : BitVec 32) : (((x.toNat : Nat) : Int) / 2147483648 == 1) = x.msb := by
  rw [BitVec.msb_eq_decide, Bool.eq_iff_iff, beq_iff_eq, decide_eq_true_iff]
  have := x.isLt
  omega

theorem byte24 (b : UInt8) : ((b.toNat : Int) % 4294967296 * 16777216 % 4294967296) = (((BitVec.ofNat 32 b.toNat <<< 24).toNat : Nat) : Int) := by
  have := b.toNat_lt
  rw [BitVec.toNat_shiftLeft, Nat.shiftLeft_eq, BitVec.toNat_ofNat]; omega

theorem shift_any (v : BitVec 32) (b : UInt8) (w : World) :
    Calls Tryd.prog 13 #[.int .u32 ((v.toNat : Nat) : Int), .int .u8 ((b.toNat : Nat) : Int)] w fun e w' => e = .returned (.int .u32 (((shiftS v b).toNat : Nat) : Int)) ∧ w' = w := by
  go_enter Tryd.func13, Tryd.ntmps13
  go_wp2_with fail
  go_loop [0, 10] (fun c i => ∃ (j : Nat) (x : BitVec 32), j ≤ 8 ∧ i = .int .i64 j ∧ c = .int .u32 ((x.toNat : Nat) : Int) ∧ steps (8 - j) x = shiftS v b) (fun _ i => 8 - (intOf i).toNat)
  case atStart =>
    exact ⟨0, v ^^^ (BitVec.ofNat 32 b.toNat <<< 24), by omega, rfl, congrArg (Value.int .u32) (bits_xor_u32 _ _ rfl (byte24 b)), rfl⟩
  case round =>
    obtain ⟨j, x, hj, rfl, rfl, hx⟩ := hrel
    have HX := Lib.hid hx
    clear hx
    by_cases hlt : j < 8
    · have ht := msb_test x
      cases hm : x.msb with
      | true =>
        rw [hm] at ht
        have HS : Hid (step x = (x <<< 1) ^^^ poly) := Lib.hid (by rw [step, hm, if_pos rfl])
        clear hm
        go_wp2_with fail
        go_round
        case rel =>
          refine ⟨j + 1, step x, by omega, by go_num, congrArg (Value.int .u32) ?_, by rw [← HX.out, show 8 - j = (8 - (j + 1)) + 1 by omega, steps]⟩
          rw [HS.out]
          exact bits_xor_u32 _ _ (shl1 x) rfl
        case measure => simp [intOf]; omega
      | false =>
        rw [hm] at ht
        have HS : Hid (step x = (x <<< 1)) := Lib.hid (by rw [step, hm, if_neg (by decide)])
        clear hm
        go_wp2_with fail
        go_round
        case rel =>
          refine ⟨j + 1, step x, by omega, by go_num, congrArg (Value.int .u32) ?_, by rw [← HX.out, show 8 - j = (8 - (j + 1)) + 1 by omega, steps]⟩
          rw [HS.out]
          exact shl1 x
        case measure => simp [intOf]; omega
    · obtain rfl : j = 8 := by omega
      go_wp2_with fail
      go_ret
      exact ⟨ret_int (by have := HX.out; rw [steps] at this; rw [this]), rfl⟩

/-- A check that goes on: the number, and how many bytes there were. -/
def SumAt (w : World) (p : Nat) (v : BitVec 32) (n : Nat) : Prop := w.cell? ⟨p, 0, none⟩ = some (.int .u32 ((v.toNat : Nat) : Int)) ∧ w.cell? ⟨p, 1, none⟩ = some (.int .i64 (n : Nat)) ∧ w.frozen? ⟨p, 0, none⟩ = false ∧ w.frozen? ⟨p, 1, none⟩ = false

/-- Nothing has turned but in block p. -/
def ButAt (p : Nat) (w w' : World) : Prop := w'.heap.size = w.heap.size ∧ (∀ B w0, B ≤ p → Below B w0 w → Below B w0 w') ∧ ∀ a : Addr, a.block ≠ p → w'.cell? a = w.cell? a ∧ w'.frozen? a = w.frozen? a
theorem ButAt.refl (p : Nat) (w : World) : ButAt p w w := ⟨rfl, fun _ _ _ h => h, fun _ _ => ⟨rfl, rfl⟩⟩
theorem ButAt.trans {p : Nat} {w1 w2 w3 : World} (h : ButAt p w1 w2) (k : ButAt p w2 w3) : ButAt p w1 w3 :=
  ⟨k.1.trans h.1, fun B w0 hB hb => k.2.1 B w0 hB (h.2.1 B w0 hB hb), fun a ha => ⟨(k.2.2 a ha).1.trans (h.2.2 a ha).1, (k.2.2 a ha).2.trans (h.2.2 a ha).2⟩⟩
theorem ButAt.set {p : Nat} (w : World) (o : Nat) (v : Value) : ButAt p w (w.setCell ⟨p, o, none⟩ v) :=
  ⟨by simp, fun _ _ hB hb => hb.setCell hB _, fun a ha => ⟨World.cell?_setCell_other _ _ _ _ (fun e => ha (by rw [← e])), by simp⟩⟩
theorem BytesAt.but {w w' : World} {g p : Nat} {bl : List UInt8} (h : BytesAt w g bl) (hb : ButAt p w w') (hg : g ≠ p) : BytesAt w' g bl := fun j hj => by
  obtain ⟨h1, h2⟩ := h j hj
  obtain ⟨h3, h4⟩ := hb.2.2 ⟨g, j, none⟩ hg
  exact ⟨h3.trans h1, h4.trans h2⟩

theorem SumAt.set0 {w : World} {p : Nat} {v : BitVec 32} {n : Nat} (h : SumAt w p v n) (u : BitVec 32) : SumAt (w.setCell ⟨p, 0, none⟩ (.int .u32 ((u.toNat : Nat) : Int))) p u n := by
  obtain ⟨h1, h2, h3, h4⟩ := h
  exact ⟨World.cell?_setCell_same _ _ _ h1, by rw [World.cell?_setCell_other _ _ _ _ (by simp)]; exact h2, by simpa using h3, by simpa using h4⟩
theorem SumAt.set1 {w : World} {p : Nat} {v : BitVec 32} {n : Nat} (h : SumAt w p v n) (m : Nat) {x : Int} (hx : x = (m : Nat)) : SumAt (w.setCell ⟨p, 1, none⟩ (.int .i64 x)) p v m := by
  subst hx
  obtain ⟨h1, h2, h3, h4⟩ := h
  exact ⟨by rw [World.cell?_setCell_other _ _ _ _ (by simp)]; exact h1, World.cell?_setCell_same _ _ _ h2, by simpa using h3, by simpa using h4⟩

theorem add_take {bl : List UInt8} {k : Nat} (h : k < bl.length) (v : BitVec 32) : addS v (bl.take (k + 1)) = shiftS (addS v (bl.take k)) (bl.getD k 0) := by
  rw [addS, addS, List.take_add_one, List.foldl_append]
  simp [List.getD, List.getElem?_eq_getElem h]

theorem add_any (p g cap : Nat) (v : BitVec 32) (n : Nat) (bl : List UInt8) (w : World) (hs : SumAt w p v n) (hbl : BytesAt w g bl) (hgp : g ≠ p) (hn : n + bl.length ≤ 1000000000) :
    Calls Tryd.prog 7 #[.pointer (some ⟨p, 0, none⟩), .slice (some ⟨g, 0, none⟩) bl.length cap] w fun e w' => e = .returned (.tuple #[]) ∧ SumAt w' p (addS v bl) (n + bl.length) ∧ ButAt p w w' := by
  have HBL := Lib.hid hbl
  clear hbl
  go_enter Tryd.func7, Tryd.ntmps7
  go_wp2_with fail
  go_loopw [8] (fun i wr => ∃ k : Nat, k ≤ bl.length ∧ i = .int .i64 k ∧ SumAt wr p (addS v (bl.take k)) n ∧ ButAt p w wr) (fun i _ => bl.length - (intOf i).toNat)
  case atStart => exact ⟨0, Nat.zero_le _, rfl, hs, ButAt.refl _ _⟩
  case round =>
    obtain ⟨k, hk, rfl, hsr, hbut⟩ := hrel
    by_cases hlt : k < bl.length
    · have hcell := (HBL.out.but hbut hgp k hlt).1
      have hat := add_take hlt v
      obtain ⟨x, hx⟩ : ∃ x, x = addS v (bl.take k) := ⟨_, rfl⟩
      obtain ⟨c, hc⟩ : ∃ c, c = bl.getD k 0 := ⟨_, rfl⟩
      rw [← hc] at hcell hat
      rw [← hx] at hsr hat
      have HAT := Lib.hid hat
      have C := Lib.hid (fun w => shift_any x c w)
      have HSR := Lib.hid hsr
      obtain ⟨h1, h2, h3, h4⟩ := hsr
      clear hx hc hat hs
      go_wp2_with fail
      refine (C.out _).mono ?_
      rintro e w1 ⟨rfl, rfl⟩
      go_wp2_with fail
      go_roundw
      case rel => exact ⟨k + 1, by omega, by go_num, by rw [HAT.out]; exact HSR.out.set0 _, hbut.trans (ButAt.set _ _ _)⟩
      case measure => simp [intOf]; omega
    · obtain rfl : k = bl.length := by omega
      rw [List.take_length] at hsr
      have HSR := Lib.hid hsr
      obtain ⟨h1, h2, h3, h4⟩ := hsr
      clear hs
      go_wp2_with fail
      refine bodyPost_end (v := .tuple #[]) ?_ rfl ?_
      · simp [results, Tryd.results7, go_sem]
      · exact ⟨rfl, HSR.out.set1 _ (by simp), hbut.trans (ButAt.set _ _ _)⟩

theorem value_any (p : Nat) (v : BitVec 32) (n : Nat) (w : World) (hs : SumAt w p v n) (hn : n ≤ 1000000000) :
    Calls Tryd.prog 9 #[.pointer (some ⟨p, 0, none⟩)] w fun e w' => e = .returned (.int .u32 (((~~~ addS v (lenBytes n)).toNat : Nat) : Int)) ∧ ∃ k, w' = w.drewN k := by
  obtain ⟨h1, h2, h3, h4⟩ := hs
  have hsg : IntKind.u32.signed = false := rfl
  obtain ⟨r, hr⟩ : ∃ r, r = (~~~ addS v (lenBytes n)).toNat := ⟨_, rfl⟩
  rw [← hr]
  have HR := Lib.hid hr
  clear hr
  go_enter Tryd.func9, Tryd.ntmps9
  go_wp2_with fail
  go_quiet (fail)
  go_wp2_with fail
  go_loop [3, 4] (fun c i => ∃ (m : Nat) (x : BitVec 32), m ≤ n ∧ i = .int .i64 m ∧ c = .int .u32 ((x.toNat : Nat) : Int) ∧ addS v (lenBytes n) = addS x (lenBytes m)) (fun _ i => (intOf i).toNat)
  case atStart => exact ⟨n, v, Nat.le_refl _, rfl, rfl, rfl⟩
  case round =>
    obtain ⟨m, x, hm, rfl, rfl, hx⟩ := hrel
    have HX := Lib.hid hx
    clear hx
    by_cases hm0 : 0 < m
    · have hl := lenBytes_pos (show m ≠ 0 by omega)
      obtain ⟨c, hc⟩ : ∃ c : UInt8, c = UInt8.ofNat (m % 256) := ⟨_, rfl⟩
      have hcv : (m : Int) % 256 = ((c.toNat : Nat) : Int) := by rw [hc]; simp
      have HL : Hid (addS v (lenBytes n) = addS (shiftS x c) (lenBytes (m / 256))) := Lib.hid (by rw [HX.out, hl, hc]; rfl)
      have C := Lib.hid (fun w => shift_any x c w)
      clear hl hc
      go_wp2_with fail
      refine (C.out _).mono ?_
      rintro e w1 ⟨rfl, rfl⟩
      go_wp2_with fail
      go_round
      case rel => exact ⟨m / 256, shiftS x c, by omega, by go_num, rfl, HL.out⟩
      case measure => simp [intOf]; omega
    · obtain rfl : m = 0 := by omega
      have HL : Hid (addS v (lenBytes n) = x) := Lib.hid (by rw [HX.out, lenBytes_zero]; rfl)
      go_wp2_with fail
      go_ret
      refine ⟨ret_int ?_, nq, rfl⟩
      rw [HR.out, HL.out, ← BitVec.allOnes_xor]
      exact bits_xor_u32 _ _ rfl rfl
end Go.Proofs.YtaanmmfhkhbchaaDoor
