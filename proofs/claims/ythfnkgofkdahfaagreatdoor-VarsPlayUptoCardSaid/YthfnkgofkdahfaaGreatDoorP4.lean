/-
  The walks of the document's digits, joined texts, parameters.
-/
import Derived.Test.YthfnkgofkdahfaaGreatDoorP3
import Derived.Test.YthfnkgofkdahfaaGreatDoorOwn
import Derived.Lib.ItoaLen
import Derived.Lib.QuietBelow
import Derived.BigQuiet
namespace Go.Proofs.YthfnkgofkdahfaaGreatDoor
open Go.RowKit

@[go_sem] theorem Tryz.convK (w : World) (b off l c : Nat) : (convert 74 9 (.slice (some ⟨b, off, none⟩) l c)).run Tryz.prog w = convK (cellBytes w b off l) w (convFb Tryz.prog w 74 9 b off l c) :=
  run_convK 74 9 5 Tryz.underlying74 Tryz.underlying5 Tryz.underlying9 w b off l c

theorem dec_small {m : Nat} (h : m < 10) : Lib.decDigits m = [UInt8.ofNat (48 + m)] := Lib.decDigits_one h
theorem dec_big {m : Nat} (h : ¬ m < 10) : Lib.decDigits m = Lib.decDigits (m / 10) ++ [UInt8.ofNat (48 + m % 10)] := by rw [Lib.decDigits, dif_neg h]
theorem dec_len20 {u : Nat} (hu : u < 18446744073709551616) : (Lib.decDigits u).length ≤ 20 := by rw [Lib.decDigits_length]; exact Lib.nDigits_le20 u hu

set_option maxHeartbeats 800000 in
set_option maxRecDepth 100000 in
theorem refDigits_any (u : Nat) (hu : u < 18446744073709551616) (w : World) :
    Calls Tryz.prog 60 #[.int .u64 u] w fun e w' => e = .returned (.string (S (Lib.decDigits u))) ∧ Below w.heap.size w w' := by
  have HD := Lib.hid (dec_len20 hu)
  have HU := Lib.hid hu
  clear hu
  go_enter Tryz.func60, Tryz.ntmps60
  go_wp2_with fail
  go_loopw [0, 3] (fun n o wr => ∃ (m : Nat) (t : ByteArray), m ≤ u ∧ n = .int .u64 m ∧ o = .string t ∧ Lib.decDigits u = Lib.decDigits m ++ L t ∧ Below w.heap.size w wr) (fun n _ _ => (RowKit.intOf n).toNat)
  case atStart => exact ⟨u, ⟨#[]⟩, Nat.le_refl _, rfl, rfl, by rw [show L ⟨#[]⟩ = [] from rfl, List.append_nil], Below.refl _ _⟩
  case round =>
    obtain ⟨m, t, hmu, rfl, rfl, hd, hbw⟩ := hrel
    have hbs := hbw.size
    have hts : t.size ≤ 20 := by
      have h1 := HD.out
      rw [hd, List.length_append, L_size] at h1
      omega
    by_cases hm : 10 ≤ m
    · rw [dec_big (m := m) (by omega)] at hd
      have HD2 := Lib.hid hd
      have hw : IntKind.u64.wrap ((m : Int) / 10) = ((m / 10 : Nat) : Int) := by
        have := HU.out
        rw [IntKind.wrap_u64]; omega
      have HW := Lib.hid hw
      have HM := Lib.hid hmu
      clear hd hw hmu
      go_wp2_with fail
      go_roundw
      case rel =>
        refine ⟨m / 10, _, by have := HM.out; omega, congrArg (Value.int .u64) HW.out, rfl, ?_, hbw.trans ((Below.alloc (Below.refl _ _) (Nat.le_refl _) _).mono hbs)⟩
        rw [HD2.out, L_append, List.append_assoc]
        simp
      case measure =>
        rw [HW.out]
        simp [RowKit.intOf]; omega
    · rw [dec_small (m := m) (by omega)] at hd
      have HD2 := Lib.hid hd
      clear hd
      go_wp2_with fail
      go_ret
      refine ⟨ret_string ?_, hbw.trans ((Below.alloc (Below.refl _ _) (Nat.le_refl _) _).mono hbs)⟩
      apply L_inj
      rw [L_S, HD2.out, L_append]
      simp

set_option maxHeartbeats 800000 in
set_option maxRecDepth 100000 in
theorem rdig_any (n : Int) (h0 : -9223372036854775808 ≤ n) (h1 : n ≤ 9223372036854775807) (w : World) :
    Calls Tryz.prog 48 #[.int .i64 n] w fun e w' => e = .returned (.string ⟨(Lib.itoa n).toArray⟩) ∧ Below w.heap.size w w' := by
  by_cases hn : n < 0
  · have C1 : Hid (∀ W (x : Int), x = ((n.natAbs : Nat) : Int) → Calls Tryz.prog 60 #[.int .u64 x] W fun e w' => e = .returned (.string (S (Lib.decDigits n.natAbs))) ∧ Below W.heap.size W w') := Lib.hid fun W x hx => by subst hx; exact refDigits_any n.natAbs (by omega) W
    have HI : Hid (Lib.itoa n = 45 :: Lib.decDigits n.natAbs) := Lib.hid (by rw [Lib.itoa, if_pos hn])
    have k1 : IntKind.i64.wrap (n + 1) = n + 1 := IntWalk.i64_in _ ⟨by omega, by omega⟩
    have k2 : IntKind.i64.wrap (-(n + 1)) = -(n + 1) := IntWalk.i64_in _ ⟨by omega, by omega⟩
    have k3 : IntKind.u64.wrap (-(n + 1)) = -(n + 1) := by rw [IntKind.wrap_u64]; omega
    have k4 : IntKind.u64.wrap (-(n + 1) + 1) = ((n.natAbs : Nat) : Int) := by rw [IntKind.wrap_u64]; omega
    have hl : (S (Lib.decDigits n.natAbs)).size ≤ 20 := by rw [S_size]; exact dec_len20 (by omega)
    have HH := Lib.hid (And.intro h0 h1)
    clear h0 h1
    go_enter Tryz.func48, Tryz.ntmps48
    go_wp2_with fail
    refine (C1.out _ _ (by omega)).mono ?_
    rintro e w1 ⟨rfl, hb1⟩
    have HB1 := Lib.hid hb1
    clear hb1 k1 k2 k3 k4
    go_wp2_with fail
    go_ret
    exact ⟨ret_string (by rw [HI.out]; rfl), HB1.out⟩
  · have C1 : Hid (∀ W, Calls Tryz.prog 60 #[.int .u64 n] W fun e w' => e = .returned (.string (S (Lib.decDigits n.toNat))) ∧ Below W.heap.size W w') := Lib.hid fun W => by
      have := refDigits_any n.toNat (by omega) W
      rwa [Int.toNat_of_nonneg (by omega)] at this
    have HI : Hid (Lib.itoa n = Lib.decDigits n.toNat) := Lib.hid (by rw [Lib.itoa, if_neg hn])
    have k1 : IntKind.u64.wrap n = n := by rw [IntKind.wrap_u64]; omega
    have HH := Lib.hid (And.intro h0 h1)
    clear h0 h1
    go_enter Tryz.func48, Tryz.ntmps48
    go_wp2_with fail
    refine (C1.out _).mono ?_
    rintro e w1 ⟨rfl, hb1⟩
    have HB1 := Lib.hid hb1
    clear hb1
    go_wp2_with fail
    go_ret
    exact ⟨ret_string (by rw [HI.out]; rfl), HB1.out⟩

theorem join_snoc (xs : List Nm) (x : Nm) (sep : Nm) : Lib.join (xs ++ [x]) sep = if xs = [] then x else Lib.join xs sep ++ sep ++ x := by
  induction xs with
  | nil => simp [Lib.join, List.intercalate]
  | cons y ys ih =>
    by_cases h : ys = []
    · subst h
      simp [Lib.join, List.intercalate]
    · have e : ∀ z zs, zs ≠ [] → Lib.join (z :: zs) sep = z ++ sep ++ Lib.join zs sep := fun z zs hz => by
        cases zs with
        | nil => exact absurd rfl hz
        | cons b bs => simp [Lib.join, List.intercalate]
      rw [List.cons_append, e _ _ (by simp), ih, if_neg h, if_neg (by simp), e _ _ h]
      simp
theorem join_len (xs : List Nm) (sep : Nm) {Z : Nat} (h : ∀ x ∈ xs, x.length ≤ Z) : (Lib.join xs sep).length ≤ xs.length * (Z + sep.length) := by
  induction xs with
  | nil => simp [Lib.join, List.intercalate]
  | cons y ys ih =>
    have h1 := h y (by simp)
    have h2 := ih fun x hx => h x (by simp [hx])
    by_cases h0 : ys = []
    · subst h0
      simp [Lib.join, List.intercalate]
      omega
    · have e : Lib.join (y :: ys) sep = y ++ sep ++ Lib.join ys sep := by
        cases ys with
        | nil => exact absurd rfl h0
        | cons b bs => simp [Lib.join, List.intercalate]
      rw [e, List.length_append, List.length_append, List.length_cons, Nat.succ_mul]
      omega
set_option maxHeartbeats 800000 in
set_option maxRecDepth 100000 in
theorem rjoin_any (a : Option Addr) (c : Nat) (xs : List ByteArray) (w : World) (B : Nat) (hA : EA w B a c xs) (hx : xs.length ≤ 50) (hz : ∀ s ∈ xs, s.size ≤ 1048576) :
    Calls Tryz.prog 49 #[.slice a xs.length c, .string ⟨#[32]⟩] w fun e w' => e = .returned (.string ⟨(Lib.join (xs.map L) [32]).toArray⟩) ∧ w = w' := by
  obtain ⟨N, hN⟩ : ∃ N, N = xs.length := ⟨_, rfl⟩
  obtain ⟨be, oe, re, _, ce⟩ := hA.1.open 22 9 Tryz.underlying22 (by kernel_rfl)
  rw [← hN] at re ce hx ⊢
  have HN := Lib.hid hN
  have RE := Lib.hid re
  have CE := Lib.hid ce
  have HZ := Lib.hid hz
  clear hA re ce hz hN
  go_enter Tryz.func49, Tryz.ntmps49
  go_wp2_with fail
  go_loop [5, 6] (fun o i => ∃ k : Nat, k ≤ N ∧ i = .int .i64 k ∧ o = .string ⟨(Lib.join ((xs.take k).map L) [32]).toArray⟩) (fun _ i => N - (intOf i).toNat)
  case atStart => exact ⟨0, Nat.zero_le _, rfl, by simp [Lib.join, List.intercalate]⟩
  case round =>
    obtain ⟨k, hk, rfl, rfl⟩ := hrel
    by_cases hlt : k < N
    · have hkl : k < xs.length := by rw [← HN.out]; exact hlt
      obtain ⟨x, hx2⟩ : ∃ x, xs[k]? = some x := ⟨_, List.getElem?_eq_getElem hkl⟩
      have hxz := HZ.out x (List.mem_of_getElem? hx2)
      have j1 := fun w' => RE.out k c w' hlt
      have d1 : w.cell? ⟨be, oe + k, none⟩ = some (.string x) := by rw [CE.out k hlt, List.getElem?_map, hx2]; rfl
      obtain ⟨J, hJ⟩ : ∃ J, J = Lib.join ((xs.take k).map L) [32] := ⟨_, rfl⟩
      have hJl : J.length ≤ 50 * 1048577 := by
        rw [hJ]
        refine Nat.le_trans (join_len _ _ (Z := 1048576) fun y hy => ?_) ?_
        · obtain ⟨s, hs, rfl⟩ := List.mem_map.1 hy
          exact HZ.out s (List.mem_of_mem_take hs)
        · rw [List.length_map, List.length_take]
          exact Nat.mul_le_mul (by omega) (Nat.le_refl _)
      have hnext : Lib.join ((xs.take (k + 1)).map L) [32] = if k = 0 then L x else J ++ [32] ++ L x := by
        obtain ⟨hk2, e⟩ := List.getElem?_eq_some_iff.1 hx2
        rw [List.take_succ_eq_append_getElem hk2, List.map_append, e]
        show Lib.join (_ ++ [L x]) [32] = _
        rw [join_snoc, ← hJ]
        by_cases h0 : k = 0
        · subst h0
          simp
        · rw [if_neg h0, if_neg]
          intro e2
          have := congrArg List.length e2
          rw [List.length_map, List.length_take, List.length_nil] at this
          omega
      rw [← hJ]
      have HNX := Lib.hid hnext
      have HJL := Lib.hid hJl
      have HJ := Lib.hid hJ
      have HXZ := Lib.hid hxz
      have cat1 : (⟨J.toArray⟩ : ByteArray).size + 1 ≤ 9223372036854775807 := by rw [show (⟨J.toArray⟩ : ByteArray) = S J from rfl, S_size]; omega
      have cat2 : (⟨J.toArray⟩ : ByteArray).size + 1 + x.size ≤ 9223372036854775807 := by rw [show (⟨J.toArray⟩ : ByteArray) = S J from rfl, S_size]; omega
      have cat3 : (⟨J.toArray⟩ : ByteArray).size + x.size ≤ 9223372036854775807 := by omega
      clear hx2 hnext hJl hJ hxz
      by_cases h0 : k = 0
      · subst h0
        have hJ0 : J = [] := by rw [HJ.out]; simp [Lib.join, List.intercalate]
        subst hJ0
        have j1' : ∀ w' : World, (Instr.indexAt 22 (.slice a N c) (.int .i64 0)).run Tryz.prog w' = .ok (.pointer (some ⟨be, oe + 0, none⟩)) w' := fun w' => RE.out 0 c w' hlt
        have cat5 : x.size ≤ 9223372036854775807 := by have := HXZ.out; omega
        clear j1 cat1 cat2 cat3
        have d1' : w.cell? ⟨be, oe, none⟩ = some (.string x) := d1
        clear d1
        go_wp2_with fail
        refine ⟨⟨1, by omega, rfl, by rw [show (1 : Nat) = 0 + 1 from rfl, HNX.out, if_pos rfl]; exact congrArg Value.string (L_inj (by rw [L_append]; rfl))⟩, by simp [intOf]; omega⟩
      · have h0' : 0 < k := by omega
        have cat4 : ((⟨J.toArray⟩ : ByteArray) ++ ⟨#[32]⟩).size + x.size ≤ 9223372036854775807 := by rw [ByteArray.size_append]; exact cat2
        have cat6 : J.length + 1 + x.size ≤ 9223372036854775807 := cat2
        have cat7 : J.length + 1 ≤ 9223372036854775807 := cat1
        go_wp2_with fail
        refine ⟨⟨k + 1, by omega, by go_num, by rw [HNX.out, if_neg h0]; exact congrArg Value.string (L_inj (by rw [L_append, L_append]; rfl))⟩, by simp [intOf]; omega⟩
    · obtain rfl : k = N := by omega
      rw [List.take_of_length_le (show xs.length ≤ k by rw [← HN.out]; exact Nat.le_refl _)]
      go_wp2_with fail
      go_ret
      exact ⟨rfl, rfl⟩
end Go.Proofs.YthfnkgofkdahfaaGreatDoor
