/-
  The walks of Sum: the program's, and the document's.
-/
import Derived.Test.YtnackmnoldkihaaGreatDoorW2
set_option linter.unusedVariables false
set_option linter.unusedSimpArgs false
/-
  The walks of Op and Reserved: the program's, and the document's.
-/
namespace Go.Proofs.YtnackmnoldkihaaGreatDoor
open Go.RowKit

/-- A text that is one of some, and not empty. -/
def oneB (xs : List (List UInt8)) (l : List UInt8) : Bool := !l.isEmpty && xs.contains l
def oneTo (xs : List (List UInt8)) (l : List UInt8) (k : Nat) : Prop := ∀ i, i < k → (xs.getD i [] == l && !l.isEmpty) = false
theorem oneTo_succ {xs : List (List UInt8)} {l : List UInt8} {k : Nat} (h : oneTo xs l k) (hc : (xs.getD k [] == l && !l.isEmpty) = false) : oneTo xs l (k + 1) := fun i hi => by
 by_cases h1 : i < k
 · exact h i h1
 · obtain rfl : i = k := by omega
   exact hc
theorem one_no {xs : List (List UInt8)} {l : List UInt8} (h : oneTo xs l xs.length) : oneB xs l = false := by
 unfold oneB
 cases he : l.isEmpty with
 | true => rfl
 | false =>
   show xs.contains l = false
   rw [← Bool.not_eq_true, List.contains_iff_mem]
   intro hm
   obtain ⟨i, hi, hx⟩ := List.getElem_of_mem hm
   have := h i hi
   rw [he] at this
   simp [List.getD, List.getElem?_eq_getElem hi, hx] at this
theorem one_yes {xs : List (List UInt8)} {l : List UInt8} {k : Nat} (hk : k < xs.length) (h : (xs.getD k [] == l && !l.isEmpty) = true) : oneB xs l = true := by
 rw [Bool.and_eq_true] at h
 rw [oneB, Bool.and_eq_true]
 refine ⟨h.2, List.contains_iff_mem.2 ?_⟩
 have := eq_of_beq h.1
 rw [← this]
 simp [List.getD, List.getElem?_eq_getElem hk]

def strVals (xs : List (List UInt8)) : Array Value := (xs.map fun l => Value.string (S l)).toArray
theorem strVals_size (xs : List (List UInt8)) : (strVals xs).size = xs.length := by simp [strVals]
theorem strVals_get {xs : List (List UInt8)} {k : Nat} (h : k < xs.length) : (strVals xs)[k]? = some (.string (S (xs.getD k []))) := by
 simp [strVals, List.getD, List.getElem?_eq_getElem h]

set_option maxHeartbeats 1000000 in
theorem one_any (s : ByteArray) (xs : List (List UInt8)) (h16 : xs.length = 16) (w : World) :
 Calls Tryz.prog 47 #[.string s, .agg (strVals xs)] w fun e w' => e = .returned (.bool (oneB xs (L s))) ∧ Below w.heap.size w w' := by
 have HX : Hid (∀ k, k < 16 → (w.alloc (.cells (strVals xs) 78)).cell? ⟨w.heap.size, k, none⟩ = some (.string (S (xs.getD k [])))) := Lib.hid fun k hk => by
  rw [← strVals_get (by omega)]
  unfold World.cell?
  rw [heap_alloc_new]
  rfl
 have HB := Lib.hid ((Below.refl w.heap.size w).alloc (Nat.le_refl _) (.cells (strVals xs) 78))
 have HS := Lib.hid (strVals_size xs)
 have H16 := Lib.hid h16
 rw [h16] at HS
 obtain ⟨arr, harr⟩ : ∃ a, a = strVals xs := ⟨_, rfl⟩
 rw [← harr] at HX HB HS ⊢
 clear harr h16
 go_enter Tryz.func47, Tryz.ntmps47
 go_wp2_with fail
 go_loop [5] (fun i => ∃ k : Nat, k ≤ 16 ∧ i = .int .i64 k ∧ oneTo xs (L s) k) (fun i => 16 - (intOf i).toNat)
 case atStart => exact ⟨0, Nat.zero_le _, rfl, fun i hi => by omega⟩
 case round =>
  obtain ⟨k, hk, rfl, hnm⟩ := hrel
  have HNM := Lib.hid hnm
  clear hnm
  by_cases hlt : k < 16
  · have hcell := HX.out k hlt
    obtain ⟨x, hx⟩ : ∃ x, x = S (xs.getD k []) := ⟨_, rfl⟩
    rw [← hx] at hcell
    obtain ⟨b0, h0⟩ : ∃ b, b = (xs.getD k [] == L s) := ⟨_, rfl⟩
    have e0 : (x.toList == s.toList) = b0 := by rw [h0, toList_L, toList_L, hx, L_S]
    obtain ⟨b1, h1⟩ : ∃ b, b = (L s).isEmpty := ⟨_, rfl⟩
    have e1 : s.toList.isEmpty = b1 := by rw [h1, toList_L]
    have HQ : Hid ((xs.getD k [] == L s && !(L s).isEmpty) = (b0 && !b1)) := Lib.hid (by rw [h0, h1])
    clear hx h0 h1
    cases b0
    · go_wp2
      go_round
      case rel => exact ⟨k + 1, by omega, by go_num, oneTo_succ HNM.out (by rw [HQ.out]; rfl)⟩
      case measure => simp [intOf]; omega
    · cases b1
      · go_wp2
        go_ret
        exact ⟨ret_bool (one_yes (by rw [H16.out]; exact hlt) HQ.out).symm, HB.out⟩
      · go_wp2
        go_round
        case rel => exact ⟨k + 1, by omega, by go_num, oneTo_succ HNM.out (by rw [HQ.out]; rfl)⟩
        case measure => simp [intOf]; omega
  · have HR : Hid (oneB xs (L s) = false) := Lib.hid (one_no (by rw [H16.out]; exact fun i hi => HNM.out i (by omega)))
    go_wp2
    go_ret
    exact ⟨ret_bool HR.out.symm, HB.out⟩

def opWs : List (List UInt8) := [[45], [58, 45], [61], [58, 61], [63], [58, 63], [43], [58, 43], [35], [35, 35], [37], [37, 37], [], [], [], []]
theorem rop_any (s : ByteArray) (w : World) : Calls Tryz.prog 30 #[.string s] w fun e w' => e = .returned (.bool (oneB opWs (L s))) ∧ Below w.heap.size w w' := by
 have C := Lib.hid (one_any s opWs rfl w)
 have hv : strVals opWs = #[.string ⟨#[45]⟩, .string ⟨#[58, 45]⟩, .string ⟨#[61]⟩, .string ⟨#[58, 61]⟩, .string ⟨#[63]⟩, .string ⟨#[58, 63]⟩, .string ⟨#[43]⟩, .string ⟨#[58, 43]⟩, .string ⟨#[35]⟩, .string ⟨#[35, 35]⟩, .string ⟨#[37]⟩, .string ⟨#[37, 37]⟩, .string ⟨#[]⟩, .string ⟨#[]⟩, .string ⟨#[]⟩, .string ⟨#[]⟩] := rfl
 rw [hv] at C
 obtain ⟨r, hr⟩ : ∃ r, r = oneB opWs (L s) := ⟨_, rfl⟩
 rw [← hr] at C ⊢
 clear hr hv
 go_enter Tryz.func30, Tryz.ntmps30
 go_wp2_with fail
 refine C.out.mono ?_
 rintro e w1 ⟨rfl, hb⟩
 have HB := Lib.hid hb
 clear hb
 go_wp2
 go_ret
 exact ⟨rfl, HB.out⟩

set_option maxHeartbeats 2000000 in
theorem op_any (s : ByteArray) (w : World) : Calls Tryz.prog 29 #[.string s] w fun e w' => e = .returned (.bool (oneB opWs (L s))) ∧ w = w' := by
 by_cases h : s.toList = [45]
 · have HR : Hid (oneB opWs (L s) = true) := Lib.hid (by rw [← toList_L, h]; decide)
   have e0 : (s.toList == [45]) = true := by rw [h]; decide
   clear h
   go_enter Tryz.func29, Tryz.ntmps29
   go_wp2
   go_ret
   exact ⟨ret_bool HR.out.symm, rfl⟩
 have e0 : (s.toList == [45]) = false := beq_eq_false_iff_ne.2 h
 have H0 := Lib.hid h
 clear h
 by_cases h : s.toList = [58, 45]
 · have HR : Hid (oneB opWs (L s) = true) := Lib.hid (by rw [← toList_L, h]; decide)
   have e1 : (s.toList == [58, 45]) = true := by rw [h]; decide
   clear h
   go_enter Tryz.func29, Tryz.ntmps29
   go_wp2
   go_ret
   exact ⟨ret_bool HR.out.symm, rfl⟩
 have e1 : (s.toList == [58, 45]) = false := beq_eq_false_iff_ne.2 h
 have H1 := Lib.hid h
 clear h
 by_cases h : s.toList = [61]
 · have HR : Hid (oneB opWs (L s) = true) := Lib.hid (by rw [← toList_L, h]; decide)
   have e2 : (s.toList == [61]) = true := by rw [h]; decide
   clear h
   go_enter Tryz.func29, Tryz.ntmps29
   go_wp2
   go_ret
   exact ⟨ret_bool HR.out.symm, rfl⟩
 have e2 : (s.toList == [61]) = false := beq_eq_false_iff_ne.2 h
 have H2 := Lib.hid h
 clear h
 by_cases h : s.toList = [58, 61]
 · have HR : Hid (oneB opWs (L s) = true) := Lib.hid (by rw [← toList_L, h]; decide)
   have e3 : (s.toList == [58, 61]) = true := by rw [h]; decide
   clear h
   go_enter Tryz.func29, Tryz.ntmps29
   go_wp2
   go_ret
   exact ⟨ret_bool HR.out.symm, rfl⟩
 have e3 : (s.toList == [58, 61]) = false := beq_eq_false_iff_ne.2 h
 have H3 := Lib.hid h
 clear h
 by_cases h : s.toList = [63]
 · have HR : Hid (oneB opWs (L s) = true) := Lib.hid (by rw [← toList_L, h]; decide)
   have e4 : (s.toList == [63]) = true := by rw [h]; decide
   clear h
   go_enter Tryz.func29, Tryz.ntmps29
   go_wp2
   go_ret
   exact ⟨ret_bool HR.out.symm, rfl⟩
 have e4 : (s.toList == [63]) = false := beq_eq_false_iff_ne.2 h
 have H4 := Lib.hid h
 clear h
 by_cases h : s.toList = [58, 63]
 · have HR : Hid (oneB opWs (L s) = true) := Lib.hid (by rw [← toList_L, h]; decide)
   have e5 : (s.toList == [58, 63]) = true := by rw [h]; decide
   clear h
   go_enter Tryz.func29, Tryz.ntmps29
   go_wp2
   go_ret
   exact ⟨ret_bool HR.out.symm, rfl⟩
 have e5 : (s.toList == [58, 63]) = false := beq_eq_false_iff_ne.2 h
 have H5 := Lib.hid h
 clear h
 by_cases h : s.toList = [43]
 · have HR : Hid (oneB opWs (L s) = true) := Lib.hid (by rw [← toList_L, h]; decide)
   have e6 : (s.toList == [43]) = true := by rw [h]; decide
   clear h
   go_enter Tryz.func29, Tryz.ntmps29
   go_wp2
   go_ret
   exact ⟨ret_bool HR.out.symm, rfl⟩
 have e6 : (s.toList == [43]) = false := beq_eq_false_iff_ne.2 h
 have H6 := Lib.hid h
 clear h
 by_cases h : s.toList = [58, 43]
 · have HR : Hid (oneB opWs (L s) = true) := Lib.hid (by rw [← toList_L, h]; decide)
   have e7 : (s.toList == [58, 43]) = true := by rw [h]; decide
   clear h
   go_enter Tryz.func29, Tryz.ntmps29
   go_wp2
   go_ret
   exact ⟨ret_bool HR.out.symm, rfl⟩
 have e7 : (s.toList == [58, 43]) = false := beq_eq_false_iff_ne.2 h
 have H7 := Lib.hid h
 clear h
 by_cases h : s.toList = [35]
 · have HR : Hid (oneB opWs (L s) = true) := Lib.hid (by rw [← toList_L, h]; decide)
   have e8 : (s.toList == [35]) = true := by rw [h]; decide
   clear h
   go_enter Tryz.func29, Tryz.ntmps29
   go_wp2
   go_ret
   exact ⟨ret_bool HR.out.symm, rfl⟩
 have e8 : (s.toList == [35]) = false := beq_eq_false_iff_ne.2 h
 have H8 := Lib.hid h
 clear h
 by_cases h : s.toList = [35, 35]
 · have HR : Hid (oneB opWs (L s) = true) := Lib.hid (by rw [← toList_L, h]; decide)
   have e9 : (s.toList == [35, 35]) = true := by rw [h]; decide
   clear h
   go_enter Tryz.func29, Tryz.ntmps29
   go_wp2
   go_ret
   exact ⟨ret_bool HR.out.symm, rfl⟩
 have e9 : (s.toList == [35, 35]) = false := beq_eq_false_iff_ne.2 h
 have H9 := Lib.hid h
 clear h
 by_cases h : s.toList = [37]
 · have HR : Hid (oneB opWs (L s) = true) := Lib.hid (by rw [← toList_L, h]; decide)
   have e10 : (s.toList == [37]) = true := by rw [h]; decide
   clear h
   go_enter Tryz.func29, Tryz.ntmps29
   go_wp2
   go_ret
   exact ⟨ret_bool HR.out.symm, rfl⟩
 have e10 : (s.toList == [37]) = false := beq_eq_false_iff_ne.2 h
 have H10 := Lib.hid h
 clear h
 by_cases h : s.toList = [37, 37]
 · have HR : Hid (oneB opWs (L s) = true) := Lib.hid (by rw [← toList_L, h]; decide)
   have e11 : (s.toList == [37, 37]) = true := by rw [h]; decide
   clear h
   go_enter Tryz.func29, Tryz.ntmps29
   go_wp2
   go_ret
   exact ⟨ret_bool HR.out.symm, rfl⟩
 have e11 : (s.toList == [37, 37]) = false := beq_eq_false_iff_ne.2 h
 have H11 := Lib.hid h
 clear h
 have h : True := trivial
 have HR : Hid (oneB opWs (L s) = false) := Lib.hid (by
  rw [← toList_L]
  simp [oneB, opWs, H0.out, H1.out, H2.out, H3.out, H4.out, H5.out, H6.out, H7.out, H8.out, H9.out, H10.out, H11.out])
 clear h
 go_enter Tryz.func29, Tryz.ntmps29
 go_wp2
 go_ret
 exact ⟨ret_bool HR.out.symm, rfl⟩

def reservedWs : List (List UInt8) := [[105, 102], [116, 104, 101, 110], [101, 108, 105, 102], [101, 108, 115, 101], [102, 105], [119, 104, 105, 108, 101], [117, 110, 116, 105, 108], [100, 111], [100, 111, 110, 101], [102, 111, 114], [105, 110], [99, 97, 115, 101], [101, 115, 97, 99], [33], [123], [125]]
theorem rreserved_any (s : ByteArray) (w : World) : Calls Tryz.prog 28 #[.string s] w fun e w' => e = .returned (.bool (oneB reservedWs (L s))) ∧ Below w.heap.size w w' := by
 have C := Lib.hid (one_any s reservedWs rfl w)
 have hv : strVals reservedWs = #[.string ⟨#[105, 102]⟩, .string ⟨#[116, 104, 101, 110]⟩, .string ⟨#[101, 108, 105, 102]⟩, .string ⟨#[101, 108, 115, 101]⟩, .string ⟨#[102, 105]⟩, .string ⟨#[119, 104, 105, 108, 101]⟩, .string ⟨#[117, 110, 116, 105, 108]⟩, .string ⟨#[100, 111]⟩, .string ⟨#[100, 111, 110, 101]⟩, .string ⟨#[102, 111, 114]⟩, .string ⟨#[105, 110]⟩, .string ⟨#[99, 97, 115, 101]⟩, .string ⟨#[101, 115, 97, 99]⟩, .string ⟨#[33]⟩, .string ⟨#[123]⟩, .string ⟨#[125]⟩] := rfl
 rw [hv] at C
 obtain ⟨r, hr⟩ : ∃ r, r = oneB reservedWs (L s) := ⟨_, rfl⟩
 rw [← hr] at C ⊢
 clear hr hv
 go_enter Tryz.func28, Tryz.ntmps28
 go_wp2_with fail
 refine C.out.mono ?_
 rintro e w1 ⟨rfl, hb⟩
 have HB := Lib.hid hb
 clear hb
 go_wp2
 go_ret
 exact ⟨rfl, HB.out⟩

set_option maxHeartbeats 2000000 in
theorem reserved_any (s : ByteArray) (w : World) : Calls Tryz.prog 27 #[.string s] w fun e w' => e = .returned (.bool (oneB reservedWs (L s))) ∧ w = w' := by
 by_cases h : s.toList = [105, 102]
 · have HR : Hid (oneB reservedWs (L s) = true) := Lib.hid (by rw [← toList_L, h]; decide)
   have e0 : (s.toList == [105, 102]) = true := by rw [h]; decide
   clear h
   go_enter Tryz.func27, Tryz.ntmps27
   go_wp2
   go_ret
   exact ⟨ret_bool HR.out.symm, rfl⟩
 have e0 : (s.toList == [105, 102]) = false := beq_eq_false_iff_ne.2 h
 have H0 := Lib.hid h
 clear h
 by_cases h : s.toList = [116, 104, 101, 110]
 · have HR : Hid (oneB reservedWs (L s) = true) := Lib.hid (by rw [← toList_L, h]; decide)
   have e1 : (s.toList == [116, 104, 101, 110]) = true := by rw [h]; decide
   clear h
   go_enter Tryz.func27, Tryz.ntmps27
   go_wp2
   go_ret
   exact ⟨ret_bool HR.out.symm, rfl⟩
 have e1 : (s.toList == [116, 104, 101, 110]) = false := beq_eq_false_iff_ne.2 h
 have H1 := Lib.hid h
 clear h
 by_cases h : s.toList = [101, 108, 105, 102]
 · have HR : Hid (oneB reservedWs (L s) = true) := Lib.hid (by rw [← toList_L, h]; decide)
   have e2 : (s.toList == [101, 108, 105, 102]) = true := by rw [h]; decide
   clear h
   go_enter Tryz.func27, Tryz.ntmps27
   go_wp2
   go_ret
   exact ⟨ret_bool HR.out.symm, rfl⟩
 have e2 : (s.toList == [101, 108, 105, 102]) = false := beq_eq_false_iff_ne.2 h
 have H2 := Lib.hid h
 clear h
 by_cases h : s.toList = [101, 108, 115, 101]
 · have HR : Hid (oneB reservedWs (L s) = true) := Lib.hid (by rw [← toList_L, h]; decide)
   have e3 : (s.toList == [101, 108, 115, 101]) = true := by rw [h]; decide
   clear h
   go_enter Tryz.func27, Tryz.ntmps27
   go_wp2
   go_ret
   exact ⟨ret_bool HR.out.symm, rfl⟩
 have e3 : (s.toList == [101, 108, 115, 101]) = false := beq_eq_false_iff_ne.2 h
 have H3 := Lib.hid h
 clear h
 by_cases h : s.toList = [102, 105]
 · have HR : Hid (oneB reservedWs (L s) = true) := Lib.hid (by rw [← toList_L, h]; decide)
   have e4 : (s.toList == [102, 105]) = true := by rw [h]; decide
   clear h
   go_enter Tryz.func27, Tryz.ntmps27
   go_wp2
   go_ret
   exact ⟨ret_bool HR.out.symm, rfl⟩
 have e4 : (s.toList == [102, 105]) = false := beq_eq_false_iff_ne.2 h
 have H4 := Lib.hid h
 clear h
 by_cases h : s.toList = [119, 104, 105, 108, 101]
 · have HR : Hid (oneB reservedWs (L s) = true) := Lib.hid (by rw [← toList_L, h]; decide)
   have e5 : (s.toList == [119, 104, 105, 108, 101]) = true := by rw [h]; decide
   clear h
   go_enter Tryz.func27, Tryz.ntmps27
   go_wp2
   go_ret
   exact ⟨ret_bool HR.out.symm, rfl⟩
 have e5 : (s.toList == [119, 104, 105, 108, 101]) = false := beq_eq_false_iff_ne.2 h
 have H5 := Lib.hid h
 clear h
 by_cases h : s.toList = [117, 110, 116, 105, 108]
 · have HR : Hid (oneB reservedWs (L s) = true) := Lib.hid (by rw [← toList_L, h]; decide)
   have e6 : (s.toList == [117, 110, 116, 105, 108]) = true := by rw [h]; decide
   clear h
   go_enter Tryz.func27, Tryz.ntmps27
   go_wp2
   go_ret
   exact ⟨ret_bool HR.out.symm, rfl⟩
 have e6 : (s.toList == [117, 110, 116, 105, 108]) = false := beq_eq_false_iff_ne.2 h
 have H6 := Lib.hid h
 clear h
 by_cases h : s.toList = [100, 111]
 · have HR : Hid (oneB reservedWs (L s) = true) := Lib.hid (by rw [← toList_L, h]; decide)
   have e7 : (s.toList == [100, 111]) = true := by rw [h]; decide
   clear h
   go_enter Tryz.func27, Tryz.ntmps27
   go_wp2
   go_ret
   exact ⟨ret_bool HR.out.symm, rfl⟩
 have e7 : (s.toList == [100, 111]) = false := beq_eq_false_iff_ne.2 h
 have H7 := Lib.hid h
 clear h
 by_cases h : s.toList = [100, 111, 110, 101]
 · have HR : Hid (oneB reservedWs (L s) = true) := Lib.hid (by rw [← toList_L, h]; decide)
   have e8 : (s.toList == [100, 111, 110, 101]) = true := by rw [h]; decide
   clear h
   go_enter Tryz.func27, Tryz.ntmps27
   go_wp2
   go_ret
   exact ⟨ret_bool HR.out.symm, rfl⟩
 have e8 : (s.toList == [100, 111, 110, 101]) = false := beq_eq_false_iff_ne.2 h
 have H8 := Lib.hid h
 clear h
 by_cases h : s.toList = [102, 111, 114]
 · have HR : Hid (oneB reservedWs (L s) = true) := Lib.hid (by rw [← toList_L, h]; decide)
   have e9 : (s.toList == [102, 111, 114]) = true := by rw [h]; decide
   clear h
   go_enter Tryz.func27, Tryz.ntmps27
   go_wp2
   go_ret
   exact ⟨ret_bool HR.out.symm, rfl⟩
 have e9 : (s.toList == [102, 111, 114]) = false := beq_eq_false_iff_ne.2 h
 have H9 := Lib.hid h
 clear h
 by_cases h : s.toList = [105, 110]
 · have HR : Hid (oneB reservedWs (L s) = true) := Lib.hid (by rw [← toList_L, h]; decide)
   have e10 : (s.toList == [105, 110]) = true := by rw [h]; decide
   clear h
   go_enter Tryz.func27, Tryz.ntmps27
   go_wp2
   go_ret
   exact ⟨ret_bool HR.out.symm, rfl⟩
 have e10 : (s.toList == [105, 110]) = false := beq_eq_false_iff_ne.2 h
 have H10 := Lib.hid h
 clear h
 by_cases h : s.toList = [99, 97, 115, 101]
 · have HR : Hid (oneB reservedWs (L s) = true) := Lib.hid (by rw [← toList_L, h]; decide)
   have e11 : (s.toList == [99, 97, 115, 101]) = true := by rw [h]; decide
   clear h
   go_enter Tryz.func27, Tryz.ntmps27
   go_wp2
   go_ret
   exact ⟨ret_bool HR.out.symm, rfl⟩
 have e11 : (s.toList == [99, 97, 115, 101]) = false := beq_eq_false_iff_ne.2 h
 have H11 := Lib.hid h
 clear h
 by_cases h : s.toList = [101, 115, 97, 99]
 · have HR : Hid (oneB reservedWs (L s) = true) := Lib.hid (by rw [← toList_L, h]; decide)
   have e12 : (s.toList == [101, 115, 97, 99]) = true := by rw [h]; decide
   clear h
   go_enter Tryz.func27, Tryz.ntmps27
   go_wp2
   go_ret
   exact ⟨ret_bool HR.out.symm, rfl⟩
 have e12 : (s.toList == [101, 115, 97, 99]) = false := beq_eq_false_iff_ne.2 h
 have H12 := Lib.hid h
 clear h
 by_cases h : s.toList = [33]
 · have HR : Hid (oneB reservedWs (L s) = true) := Lib.hid (by rw [← toList_L, h]; decide)
   have e13 : (s.toList == [33]) = true := by rw [h]; decide
   clear h
   go_enter Tryz.func27, Tryz.ntmps27
   go_wp2
   go_ret
   exact ⟨ret_bool HR.out.symm, rfl⟩
 have e13 : (s.toList == [33]) = false := beq_eq_false_iff_ne.2 h
 have H13 := Lib.hid h
 clear h
 by_cases h : s.toList = [123]
 · have HR : Hid (oneB reservedWs (L s) = true) := Lib.hid (by rw [← toList_L, h]; decide)
   have e14 : (s.toList == [123]) = true := by rw [h]; decide
   clear h
   go_enter Tryz.func27, Tryz.ntmps27
   go_wp2
   go_ret
   exact ⟨ret_bool HR.out.symm, rfl⟩
 have e14 : (s.toList == [123]) = false := beq_eq_false_iff_ne.2 h
 have H14 := Lib.hid h
 clear h
 by_cases h : s.toList = [125]
 · have HR : Hid (oneB reservedWs (L s) = true) := Lib.hid (by rw [← toList_L, h]; decide)
   have e15 : (s.toList == [125]) = true := by rw [h]; decide
   clear h
   go_enter Tryz.func27, Tryz.ntmps27
   go_wp2
   go_ret
   exact ⟨ret_bool HR.out.symm, rfl⟩
 have e15 : (s.toList == [125]) = false := beq_eq_false_iff_ne.2 h
 have H15 := Lib.hid h
 clear h
 have h : True := trivial
 have HR : Hid (oneB reservedWs (L s) = false) := Lib.hid (by
  rw [← toList_L]
  simp [oneB, reservedWs, H0.out, H1.out, H2.out, H3.out, H4.out, H5.out, H6.out, H7.out, H8.out, H9.out, H10.out, H11.out, H12.out, H13.out, H14.out, H15.out])
 clear h
 go_enter Tryz.func27, Tryz.ntmps27
 go_wp2
 go_ret
 exact ⟨ret_bool HR.out.symm, rfl⟩

end Go.Proofs.YtnackmnoldkihaaGreatDoor
namespace Go.Proofs.YtnackmnoldkihaaGreatDoor
open Go.RowKit

def sumSigns : ByteArray := ⟨#[95, 32, 43, 45, 42, 47, 37, 60, 62, 61, 33, 38, 124, 94, 126, 63, 58, 36, 9, 10]⟩
def rsumSigns : ByteArray := ⟨#[95, 32, 9, 10, 43, 45, 42, 47, 37, 60, 62, 61, 33, 38, 124, 94, 126, 63, 58, 36, 40, 41]⟩
theorem rsum_signs (c : UInt8) : hasB (L rsumSigns) c = (c == 40 || c == 41 || hasB (L sumSigns) c) := by
 rw [Bool.eq_iff_iff]
 simp [hasB_mem, rsumSigns, sumSigns]
 constructor
 all_goals (intro h; repeat' (rcases h with h | h)) <;> simp [*]
/-- How deep one is behind a byte more; none: not a sum's text. -/
def sumStep : Option Nat → UInt8 → Option Nat
 | none, _ => none
 | some d, c => if c = 40 then some (d + 1) else if c = 41 then (if d = 0 then none else some (d - 1)) else if (lettB c || digB c || hasB (L sumSigns) c) = true then some d else none
def sumB (l : List UInt8) : Bool := l.foldl sumStep (some 0) == some 0
theorem sum_none (l : List UInt8) : l.foldl sumStep none = none := by induction l with
 | nil => rfl
 | cons a l ih => exact ih
theorem sum_take {l : List UInt8} {k : Nat} (hk : k < l.length) {d : Nat} (h : (l.take k).foldl sumStep (some 0) = some d) : (l.take (k + 1)).foldl sumStep (some 0) = sumStep (some d) (l.getD k 0) := by
 rw [take_getD hk, List.foldl_append, h]; rfl
theorem sum_no {l : List UInt8} {k : Nat} (hk : k < l.length) {d : Nat} (h : (l.take k).foldl sumStep (some 0) = some d) (hc : sumStep (some d) (l.getD k 0) = none) : sumB l = false := by
 rw [sumB, ← List.take_append_drop (k + 1) l, List.foldl_append, sum_take hk h, hc, sum_none]; rfl
theorem sum_yes {l : List UInt8} {d : Nat} (h : (l.take l.length).foldl sumStep (some 0) = some d) : sumB l = (d == 0) := by
 rw [List.take_length] at h
 rw [sumB, h]
 cases d <;> rfl
theorem sumStep_open (d : Nat) {c : UInt8} (h : c = 40) : sumStep (some d) c = some (d + 1) := by rw [sumStep, if_pos h]
theorem sumStep_shut {d : Nat} (hd : d ≠ 0) {c : UInt8} (h : c = 41) : sumStep (some d) c = some (d - 1) := by rw [sumStep, if_neg (by rw [h]; decide), if_pos h, if_neg hd]
theorem sumStep_shut0 {c : UInt8} (h : c = 41) : sumStep (some 0) c = none := by rw [sumStep, if_neg (by rw [h]; decide), if_pos h, if_pos rfl]
theorem sumStep_ok (d : Nat) {c : UInt8} (h1 : c ≠ 40) (h2 : c ≠ 41) (h : (lettB c || digB c || hasB (L sumSigns) c) = true) : sumStep (some d) c = some d := by rw [sumStep, if_neg h1, if_neg h2, if_pos h]
theorem sumStep_not (d : Nat) {c : UInt8} (h1 : c ≠ 40) (h2 : c ≠ 41) (h : (lettB c || digB c || hasB (L sumSigns) c) = false) : sumStep (some d) c = none := by rw [sumStep, if_neg h1, if_neg h2, if_neg (by rw [h]; decide)]

set_option maxHeartbeats 1000000 in
theorem sum_any (s : ByteArray) (w : World) (hs : s.size ≤ maxLen) :
 Calls Tryz.prog 31 #[.string s] w fun e w' => e = .returned (.bool (sumB (L s))) ∧ Below w.heap.size w w' := by
 unfold maxLen at hs
 have HM := Lib.hid (BytesAt.made w 5 s)
 have HB := Lib.hid (below_bytesWorld w 5 s)
 obtain ⟨wb, hwb⟩ : ∃ wb, wb = Lib.bytesWorld w 5 s := ⟨_, rfl⟩
 rw [← hwb] at HM HB
 have HWB := Lib.hid hwb
 clear hwb
 go_enter Tryz.func31, Tryz.ntmps31
 go_wp2_with fail
 rw [← HWB.out]
 go_loopw [3, 9] (fun o i wr => ∃ k d : Nat, k ≤ s.size ∧ d ≤ k ∧ i = .int .i64 k ∧ o = .int .i64 d ∧ ((L s).take k).foldl sumStep (some 0) = some d ∧ wr = wb) (fun o i _ => s.size - (intOf i).toNat)
 case atStart => exact ⟨0, 0, Nat.zero_le _, Nat.le_refl _, rfl, rfl, rfl, rfl⟩
 case round =>
  obtain ⟨k, d, hk, hd, rfl, rfl, hnm, rfl⟩ := hrel
  have HNM := Lib.hid hnm
  clear hnm
  by_cases hlt : k < s.size
  · have hcell := (HM.out k hlt).1
    have CI := Lib.hid (index_any sumSigns ((L s).getD k 0) wr)
    obtain ⟨c, hc⟩ : ∃ c, c = (L s).getD k 0 := ⟨_, rfl⟩
    have HC := Lib.hid hc
    rw [← hc] at hcell CI
    obtain ⟨q, hq⟩ : ∃ q, q = hasB (L sumSigns) c := ⟨_, rfl⟩
    rw [← hq] at CI
    have HQ := Lib.hid hq
    have HL := Lib.hid (lettB_iff c)
    have HD := Lib.hid (digB_iff c)
    have H40 : Hid (c = 40 ↔ c.toNat = 40) := Lib.hid ⟨fun h => by rw [h]; rfl, fun h => UInt8.toNat_inj.1 h⟩
    have H41 : Hid (c = 41 ↔ c.toNat = 41) := Lib.hid ⟨fun h => by rw [h]; rfl, fun h => UInt8.toNat_inj.1 h⟩
    obtain ⟨v, hv⟩ : ∃ v, v = c.toNat := ⟨_, rfl⟩
    rw [← hv] at hcell CI HL HD H40 H41
    unfold sumSigns at CI
    clear hc hv hq
    have hcls : v = 40 ∨ v = 41 ∨ ((97 ≤ v ∧ v ≤ 122) ∨ (65 ≤ v ∧ v ≤ 90) ∨ (48 ≤ v ∧ v ≤ 57)) ∨ (v < 40 ∨ (42 ≤ v ∧ v < 48) ∨ (58 ≤ v ∧ v < 65) ∨ (91 ≤ v ∧ v < 97) ∨ 123 ≤ v) := by omega
    rcases hcls with h | h | h | h
    · have e40 : (((v : Nat) : Int) == 40) = true := by rw [beq_iff_eq]; omega
      have HR : Hid (sumStep (some d) c = some (d + 1)) := Lib.hid (sumStep_open d (H40.out.2 h))
      go_wp2
      go_roundw
      case rel => exact ⟨k + 1, d + 1, by omega, by omega, by go_num, by go_num, by rw [sum_take (l := L s) hlt HNM.out, ← HC.out]; exact HR.out, by first | trivial | rfl⟩
      case measure => simp [intOf]; omega
    · have e40 : (((v : Nat) : Int) == 40) = false := by rw [beq_eq_false_iff_ne]; omega
      have e41 : (((v : Nat) : Int) == 41) = true := by rw [beq_iff_eq]; omega
      by_cases hd0 : d = 0
      · have HR : Hid (sumStep (some d) c = none) := Lib.hid (by rw [hd0]; exact sumStep_shut0 (H41.out.2 h))
        go_wp2
        go_ret
        exact ⟨ret_bool (sum_no (l := L s) hlt HNM.out (by rw [← HC.out]; exact HR.out)).symm, HB.out⟩
      · have HR : Hid (sumStep (some d) c = some (d - 1)) := Lib.hid (sumStep_shut hd0 (H41.out.2 h))
        go_wp2
        go_roundw
        case rel => exact ⟨k + 1, d - 1, by omega, by omega, by go_num, by go_num, by rw [sum_take (l := L s) hlt HNM.out, ← HC.out]; exact HR.out, by first | trivial | rfl⟩
        case measure => simp [intOf]; omega
    · have e40 : (((v : Nat) : Int) == 40) = false := by rw [beq_eq_false_iff_ne]; omega
      have e41 : (((v : Nat) : Int) == 41) = false := by rw [beq_eq_false_iff_ne]; omega
      have HR : Hid (sumStep (some d) c = some d) := Lib.hid (sumStep_ok d (fun e => by have := H40.out.1 e; omega) (fun e => by have := H41.out.1 e; omega) (by
       rcases h with h | h | h
       · rw [HL.out.2 (.inl h)]; rfl
       · rw [HL.out.2 (.inr h)]; rfl
       · rw [HD.out.2 h, Bool.or_true, Bool.true_or]))
      rcases h with ⟨h, h'⟩ | ⟨h, h'⟩ | ⟨h, h'⟩
      all_goals
       go_wp2
       go_roundw
       case rel => exact ⟨k + 1, d, by omega, by omega, by go_num, by go_num, by rw [sum_take (l := L s) hlt HNM.out, ← HC.out]; exact HR.out, by first | trivial | rfl⟩
       case measure => simp [intOf]; omega
    · have e40 : (((v : Nat) : Int) == 40) = false := by rw [beq_eq_false_iff_ne]; omega
      have e41 : (((v : Nat) : Int) == 41) = false := by rw [beq_eq_false_iff_ne]; omega
      have hl : lettB c = false := by
       rw [← Bool.not_eq_true, HL.out]; omega
      have hg : digB c = false := by
       rw [← Bool.not_eq_true, HD.out]; omega
      have h40 : c ≠ 40 := fun e => by have := H40.out.1 e; omega
      have h41 : c ≠ 41 := fun e => by have := H41.out.1 e; omega
      cases q
      · have HR : Hid (sumStep (some d) c = none) := Lib.hid (sumStep_not d h40 h41 (by rw [hl, hg, ← HQ.out]; rfl))
        clear hl hg h40 h41
        rcases h with h | ⟨h, h'⟩ | ⟨h, h'⟩ | ⟨h, h'⟩ | h
        all_goals
         go_wp2_with fail
         refine CI.out.mono ?_
         rintro e w1 ⟨⟨n, rfl, hn⟩, rfl⟩
         have hn' : n < 0 := by simpa using hn
         clear hn
         go_wp2
         go_ret
         exact ⟨ret_bool (sum_no (l := L s) hlt HNM.out (by rw [← HC.out]; exact HR.out)).symm, HB.out⟩
      · have HR : Hid (sumStep (some d) c = some d) := Lib.hid (sumStep_ok d h40 h41 (by rw [hl, hg, ← HQ.out]; rfl))
        clear hl hg h40 h41
        rcases h with h | ⟨h, h'⟩ | ⟨h, h'⟩ | ⟨h, h'⟩ | h
        all_goals
         go_wp2_with fail
         refine CI.out.mono ?_
         rintro e w1 ⟨⟨n, rfl, hn⟩, rfl⟩
         have hn' : 0 ≤ n := by simpa using hn
         clear hn
         go_wp2
         go_roundw
         case rel => exact ⟨k + 1, d, by omega, by omega, by go_num, by go_num, by rw [sum_take (l := L s) hlt HNM.out, ← HC.out]; exact HR.out, by first | trivial | rfl⟩
         case measure => simp [intOf]; omega
  · have HR := Lib.hid (sum_yes (l := L s) (d := d) (by rw [L_size, show s.size = k by omega]; exact HNM.out))
    by_cases hd0 : d = 0
    · have HRR : Hid (sumB (L s) = true) := Lib.hid (by rw [HR.out, hd0]; rfl)
      go_wp2
      go_ret
      exact ⟨ret_bool (by first | (rw [HRR.out]; done) | (rw [HRR.out]; simp <;> omega)), HB.out⟩
    · have HRR : Hid (sumB (L s) = false) := Lib.hid (by rw [HR.out]; simpa using hd0)
      go_wp2
      go_ret
      exact ⟨ret_bool (by first | (rw [HRR.out]; done) | (rw [HRR.out]; simp <;> omega)), HB.out⟩

set_option maxHeartbeats 1000000 in
theorem rsum_any (s : ByteArray) (w : World) (hs : s.size ≤ maxLen) :
 Calls Tryz.prog 32 #[.string s] w fun e w' => e = .returned (.bool (sumB (L s))) ∧ w = w' := by
 unfold maxLen at hs
 have C1 : Hid (∀ (W : World) (c : UInt8), Calls Tryz.prog 45 #[.int .u8 ((c.toNat : Nat) : Int)] W fun e w' => e = .returned (.bool (lettB c)) ∧ W = w') := Lib.hid fun W c => (letter_any c W).mono fun e w' h => ⟨h.1, h.2.symm⟩
 have C2 : Hid (∀ (W : World) (c : UInt8), Calls Tryz.prog 46 #[.int .u8 ((c.toNat : Nat) : Int)] W fun e w' => e = .returned (.bool (digB c)) ∧ W = w') := Lib.hid fun W c => (digit_any c W).mono fun e w' h => ⟨h.1, h.2.symm⟩
 have C3 : Hid (∀ (W : World) (c : UInt8), Calls Tryz.prog 43 #[.string rsumSigns, .int .u8 ((c.toNat : Nat) : Int)] W fun e w' => e = .returned (.bool (hasB (L rsumSigns) c)) ∧ W = w') := Lib.hid fun W c => (In_any rsumSigns c W (by decide)).mono fun e w' h => ⟨h.1, h.2.symm⟩
 go_enter Tryz.func32, Tryz.ntmps32
 go_wp2_with fail
 go_loop [3, 4] (fun o i => ∃ k d : Nat, k ≤ s.size ∧ d ≤ k ∧ i = .int .i64 k ∧ o = .int .i64 d ∧ ((L s).take k).foldl sumStep (some 0) = some d) (fun o i => s.size - (intOf i).toNat)
 case atStart => exact ⟨0, 0, Nat.zero_le _, Nat.le_refl _, rfl, rfl, rfl⟩
 case round =>
  obtain ⟨k, d, hk, hd, rfl, rfl, hnm⟩ := hrel
  have HNM := Lib.hid hnm
  clear hnm
  by_cases hlt : k < s.size
  · have hidx := run_idx (P := Tryz.prog) Tryz.underlying9 s (k := .i64) (k : Int) k rfl hlt
    obtain ⟨c, hc⟩ : ∃ c, c = (L s).getD k 0 := ⟨_, rfl⟩
    have HC := Lib.hid hc
    rw [← hc] at hidx
    have D1 := Lib.hid (fun W => C1.out W c)
    have D2 := Lib.hid (fun W => C2.out W c)
    have D3 := Lib.hid (fun W => C3.out W c)
    obtain ⟨r1, h1⟩ : ∃ r, r = lettB c := ⟨_, rfl⟩
    obtain ⟨r2, h2⟩ : ∃ r, r = digB c := ⟨_, rfl⟩
    obtain ⟨r3, h3⟩ : ∃ r, r = hasB (L rsumSigns) c := ⟨_, rfl⟩
    have h3' := rsum_signs c
    rw [← h3] at h3'
    have HL := lettB_iff c
    have HD := digB_iff c
    rw [← h1] at HL D1
    rw [← h2] at HD D2
    rw [← h3] at D3
    have H1 := Lib.hid h1
    have H2 := Lib.hid h2
    have H3 := Lib.hid h3'
    unfold rsumSigns at D3
    clear hc h1 h2 h3 h3'
    by_cases c40 : c = 40
    · have e40 : (((c.toNat : Nat) : Int) == 40) = true := by rw [c40]; rfl
      have e41 : (((c.toNat : Nat) : Int) == 41) = false := by rw [c40]; rfl
      have HR : Hid (sumStep (some d) c = some (d + 1)) := Lib.hid (sumStep_open d c40)
      obtain rfl : r1 = false := by rw [← Bool.not_eq_true, HL, c40]; decide
      obtain rfl : r2 = false := by rw [← Bool.not_eq_true, HD, c40]; decide
      obtain rfl : r3 = true := by rw [H3.out, c40]; rfl
      clear HL HD c40
      go_wp2_with fail
      refine (D1.out _).mono ?_
      rintro e w1 ⟨rfl, rfl⟩
      go_wp2_with fail
      refine (D2.out _).mono ?_
      rintro e w1 ⟨rfl, rfl⟩
      go_wp2_with fail
      refine (D3.out _).mono ?_
      rintro e w1 ⟨rfl, rfl⟩
      go_wp2
      go_round
      case rel => exact ⟨k + 1, d + 1, by omega, by omega, by go_num, by go_num, by rw [sum_take (l := L s) hlt HNM.out, ← HC.out]; exact HR.out⟩
      case measure => simp [intOf]; omega
    · by_cases c41 : c = 41
      · have e40 : (((c.toNat : Nat) : Int) == 40) = false := by rw [c41]; rfl
        have e41 : (((c.toNat : Nat) : Int) == 41) = true := by rw [c41]; rfl
        have HC41 := Lib.hid c41
        obtain rfl : r1 = false := by rw [← Bool.not_eq_true, HL, c41]; decide
        obtain rfl : r2 = false := by rw [← Bool.not_eq_true, HD, c41]; decide
        obtain rfl : r3 = true := by rw [H3.out, c41]; rfl
        clear HL HD c40 c41
        by_cases hd0 : d = 0
        · have HR : Hid (sumStep (some d) c = none) := Lib.hid (by rw [hd0]; exact sumStep_shut0 HC41.out)
          go_wp2_with fail
          refine (D1.out _).mono ?_
          rintro e w1 ⟨rfl, rfl⟩
          go_wp2_with fail
          refine (D2.out _).mono ?_
          rintro e w1 ⟨rfl, rfl⟩
          go_wp2_with fail
          refine (D3.out _).mono ?_
          rintro e w1 ⟨rfl, rfl⟩
          go_wp2
          go_ret
          exact ⟨ret_bool (sum_no (l := L s) hlt HNM.out (by rw [← HC.out]; exact HR.out)).symm, rfl⟩
        · have HR : Hid (sumStep (some d) c = some (d - 1)) := Lib.hid (sumStep_shut hd0 HC41.out)
          go_wp2_with fail
          refine (D1.out _).mono ?_
          rintro e w1 ⟨rfl, rfl⟩
          go_wp2_with fail
          refine (D2.out _).mono ?_
          rintro e w1 ⟨rfl, rfl⟩
          go_wp2_with fail
          refine (D3.out _).mono ?_
          rintro e w1 ⟨rfl, rfl⟩
          go_wp2
          go_round
          case rel => exact ⟨k + 1, d - 1, by omega, by omega, by go_num, by go_num, by rw [sum_take (l := L s) hlt HNM.out, ← HC.out]; exact HR.out⟩
          case measure => simp [intOf]; omega
      · have e40 : (((c.toNat : Nat) : Int) == 40) = false := by
         rw [beq_eq_false_iff_ne]
         exact fun h => c40 (UInt8.toNat_inj.1 (by have : ((40 : UInt8).toNat : Int) = 40 := rfl; omega))
        have e41 : (((c.toNat : Nat) : Int) == 41) = false := by
         rw [beq_eq_false_iff_ne]
         exact fun h => c41 (UInt8.toNat_inj.1 (by have : ((41 : UInt8).toNat : Int) = 41 := rfl; omega))
        have h3 : r3 = hasB (L sumSigns) c := by
         rw [H3.out, beq_eq_false_iff_ne.2 c40, beq_eq_false_iff_ne.2 c41]; rfl
        have H5 := Lib.hid h3
        have N40 := Lib.hid c40
        have N41 := Lib.hid c41
        clear h3 c40 c41 HL HD
        cases r1
        · cases r2
          · cases r3
            · have HR : Hid (sumStep (some d) c = none) := Lib.hid (sumStep_not d N40.out N41.out (by rw [← H1.out, ← H2.out, ← H5.out]; rfl))
              go_wp2_with fail
              refine (D1.out _).mono ?_
              rintro e w1 ⟨rfl, rfl⟩
              go_wp2_with fail
              refine (D2.out _).mono ?_
              rintro e w1 ⟨rfl, rfl⟩
              go_wp2_with fail
              refine (D3.out _).mono ?_
              rintro e w1 ⟨rfl, rfl⟩
              go_wp2
              go_ret
              exact ⟨ret_bool (sum_no (l := L s) hlt HNM.out (by rw [← HC.out]; exact HR.out)).symm, rfl⟩
            · have HR : Hid (sumStep (some d) c = some d) := Lib.hid (sumStep_ok d N40.out N41.out (by rw [← H1.out, ← H2.out, ← H5.out]; rfl))
              go_wp2_with fail
              refine (D1.out _).mono ?_
              rintro e w1 ⟨rfl, rfl⟩
              go_wp2_with fail
              refine (D2.out _).mono ?_
              rintro e w1 ⟨rfl, rfl⟩
              go_wp2_with fail
              refine (D3.out _).mono ?_
              rintro e w1 ⟨rfl, rfl⟩
              go_wp2
              go_round
              case rel => exact ⟨k + 1, d, by omega, by omega, by go_num, by go_num, by rw [sum_take (l := L s) hlt HNM.out, ← HC.out]; exact HR.out⟩
              case measure => simp [intOf]; omega
          · have HR : Hid (sumStep (some d) c = some d) := Lib.hid (sumStep_ok d N40.out N41.out (by rw [← H1.out, ← H2.out]; rfl))
            go_wp2_with fail
            refine (D1.out _).mono ?_
            rintro e w1 ⟨rfl, rfl⟩
            go_wp2_with fail
            refine (D2.out _).mono ?_
            rintro e w1 ⟨rfl, rfl⟩
            go_wp2
            go_round
            case rel => exact ⟨k + 1, d, by omega, by omega, by go_num, by go_num, by rw [sum_take (l := L s) hlt HNM.out, ← HC.out]; exact HR.out⟩
            case measure => simp [intOf]; omega
        · have HR : Hid (sumStep (some d) c = some d) := Lib.hid (sumStep_ok d N40.out N41.out (by rw [← H1.out]; rfl))
          go_wp2_with fail
          refine (D1.out _).mono ?_
          rintro e w1 ⟨rfl, rfl⟩
          go_wp2
          go_round
          case rel => exact ⟨k + 1, d, by omega, by omega, by go_num, by go_num, by rw [sum_take (l := L s) hlt HNM.out, ← HC.out]; exact HR.out⟩
          case measure => simp [intOf]; omega
  · have HR := Lib.hid (sum_yes (l := L s) (d := d) (by rw [L_size, show s.size = k by omega]; exact HNM.out))
    by_cases hd0 : d = 0
    · have HRR : Hid (sumB (L s) = true) := Lib.hid (by rw [HR.out, hd0]; rfl)
      go_wp2
      go_ret
      exact ⟨ret_bool (by first | (rw [HRR.out]; done) | (rw [HRR.out]; simp <;> omega)), rfl⟩
    · have HRR : Hid (sumB (L s) = false) := Lib.hid (by rw [HR.out]; simpa using hd0)
      go_wp2
      go_ret
      exact ⟨ret_bool (by first | (rw [HRR.out]; done) | (rw [HRR.out]; simp <;> omega)), rfl⟩
end Go.Proofs.YtnackmnoldkihaaGreatDoor
