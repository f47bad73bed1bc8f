/-
  The walks of Words and of the statement QuoteWords.
-/
import Derived.Test.YtfeejbmpnphnhaaDoorQ6
import Derived.Test.YtfeejbmpnphnhaaDoorOwnS
import Derived.Lib.Join
namespace Go.Proofs.YtfeejbmpnphnhaaDoor
open Go.RowKit

theorem joinTail_app (sep : List UInt8) (a b : List (List UInt8)) : Lib.joinTail sep (a ++ b) = Lib.joinTail sep a ++ Lib.joinTail sep b := by simp [Lib.joinTail]
theorem join_snoc (sep y : List UInt8) : ∀ (xs : List (List UInt8)), xs ≠ [] → Lib.join (xs ++ [y]) sep = Lib.join xs sep ++ sep ++ y
  | [], h => absurd rfl h
  | x :: xs, _ => by
    rw [List.cons_append, Lib.join_cons, Lib.join_cons, joinTail_app]
    simp [Lib.joinTail]

/-- The first k words, quoted. -/
def qs (ss : List ByteArray) (k : Nat) : List (List UInt8) := (ss.take k).map fun s => wordL (L s)
theorem qs_len {ss : List ByteArray} {k : Nat} (h : k ≤ ss.length) : (qs ss k).length = k := by rw [qs, List.length_map, List.length_take]; omega
theorem qs_succ {ss : List ByteArray} {k : Nat} {s : ByteArray} (h : ss[k]? = some s) : qs ss (k + 1) = qs ss k ++ [wordL (L s)] := by
  rw [qs, qs, List.take_add_one, h, List.map_append]; rfl
theorem join_zero (ss : List ByteArray) : Lib.join (qs ss 0) [32] = [] := rfl
theorem join_first {ss : List ByteArray} {s : ByteArray} (h : ss[0]? = some s) : Lib.join (qs ss 1) [32] = wordL (L s) := by
  rw [qs_succ h]
  exact Lib.join_one _ _
theorem join_next {ss : List ByteArray} {k : Nat} {s : ByteArray} (hk : 0 < k) (h : ss[k]? = some s) : Lib.join (qs ss (k + 1)) [32] = Lib.join (qs ss k) [32] ++ [32] ++ wordL (L s) := by
  rw [qs_succ h, join_snoc]
  intro e
  have h1 := congrArg List.length e
  rw [qs_len (by have := (List.getElem?_eq_some_iff.1 h).1; omega), List.length_nil] at h1
  omega
def shortTo (ss : List ByteArray) (k : Nat) : Prop := ∀ i s, i < k → ss[i]? = some s → s.size ≤ 500
theorem join_len {ss : List ByteArray} : ∀ (k : Nat), k ≤ ss.length → shortTo ss k → (Lib.join (qs ss k) [32]).length ≤ 2003 * k
  | 0, _, _ => by rw [join_zero]; exact Nat.le_refl _
  | k + 1, h, hs => by
    obtain ⟨s, hx⟩ : ∃ s, ss[k]? = some s := ⟨_, List.getElem?_eq_getElem (by omega)⟩
    have h1 := hs k s (by omega) hx
    have h2 := wordL_len (L s)
    rw [L_size] at h2
    have h3 := join_len k (by omega) (fun i s hi => hs i s (by omega))
    by_cases hk : 0 < k
    · rw [join_next hk hx]
      simp; omega
    · obtain rfl : k = 0 := by omega
      rw [join_first hx]; omega

theorem joinS_any (v : Value) (xs : List ByteArray) (w : World) (B : Nat) (hown : OwnS w B v xs) (hn : xs.length ≤ 100) (hlen : (Lib.join (xs.map L) [32]).length ≤ 1000000) :
    Calls Tryd.prog 20 #[v, .string ⟨#[32]⟩] w fun e w' => e = .returned (.string (S (Lib.join (xs.map L) [32]))) ∧ Below w.heap.size w w' := by
  have hnone : ∀ a c, Calls Tryd.prog 20 #[.slice a 0 c, .string ⟨#[32]⟩] w fun e w' => e = .returned (.string ⟨#[]⟩) ∧ Below w.heap.size w w' := fun a c =>
    (Tryd.strings_Join_none a c ⟨#[32]⟩ w).mono fun e w' ⟨h1, h2⟩ => ⟨h1, by rw [h2]; exact Below.refl _ _⟩
  rcases hown.form with ⟨rfl, rfl⟩ | ⟨g, cap, rfl, hg, hc, hcell⟩
  · exact hnone none 0
  · exact Tryd.strings_Join g 0 cap xs ⟨#[32]⟩ w hcell hg (by omega) hc (by
      show (Lib.join (xs.map L) [32]).length ≤ _
      omega)

set_option maxHeartbeats 1000000 in
theorem words_any (a : Option Addr) (n cap : Nat) (ss : List ByteArray) (w : World) (B : Nat) (hE : Elems w B a n (ss.map .string)) (hB : B ≤ w.heap.size) (hn : n ≤ 60) (hsh : shortTo ss n) (hv : Held w) :
    Calls Tryd.prog 15 #[.slice a n cap] w fun e w' => e = .returned (.string (S (Lib.join (qs ss n) [32]))) ∧ Below w.heap.size w w' := by
  have w0pos := hv.2
  have hl : ss.length = n := by simpa using hE.1
  obtain ⟨b1, o1, r1, hlt1, c1⟩ := hE.open (P := Tryd.prog) 30 9 Tryd.underlying30 (by kernel_rfl)
  have hjl := join_len (ss := ss) n (by omega) hsh
  have HL := Lib.hid hl
  have R1 := Lib.hid r1
  have CC1 := Lib.hid c1
  have HLT1 := Lib.hid hlt1
  have HSH := Lib.hid hsh
  have HV := Lib.hid hv
  have HJ := Lib.hid hjl
  clear hl r1 c1 hlt1 hsh hv hjl hE
  go_enter Tryd.func15, Tryd.ntmps15
  go_wp2_with (at_make; go_must (refine make_strings rfl _ _ rfl w.heap.size n rfl rfl (by omega) (Below.refl _ _) (Nat.le_refl _) ?_); intro w0 hown0 hb0 hbs0)
  go_loopw [3, 11] (fun v i wr => ∃ (k : Nat), k ≤ n ∧ i = .int .i64 k ∧ OwnS wr w.heap.size v ((qs ss k).map S) ∧ Below w.heap.size w wr) (fun _ i _ => n - (intOf i).toNat)
  case atStart => exact ⟨0, Nat.zero_le _, rfl, hown0, hb0⟩
  case round =>
    obtain ⟨k, hk, rfl, hown, hbw⟩ := hrel
    have hbs := hbw.size
    by_cases hlt : k < n
    · have j1 := fun w' => R1.out k cap w' hlt
      obtain ⟨x, hx⟩ : ∃ x, ss[k]? = some x := ⟨_, List.getElem?_eq_getElem (by rw [HL.out]; exact hlt)⟩
      have d1 : wr.cell? ⟨b1, o1 + k, none⟩ = some (.string x) := by
        rw [hbw.cell (p := ⟨b1, o1 + k, none⟩) (show b1 < w.heap.size by have := HLT1.out; omega), CC1.out k hlt, List.getElem?_map, hx]; rfl
      have hxs := HSH.out k x hlt hx
      have hlen : ((qs ss k).map S).length = k := by rw [List.length_map, qs_len (by rw [HL.out]; exact hk)]
      have hsucc : (qs ss (k + 1)).map S = (qs ss k).map S ++ [S (wordL (L x))] := by rw [qs_succ hx, List.map_append]; rfl
      have C := Lib.hid (word_any x wr (by omega) (HV.out.below w0pos hbw))
      obtain ⟨u, hu⟩ : ∃ u, u = S (wordL (L x)) := ⟨_, rfl⟩
      rw [← hu] at C hsucc
      have HS := Lib.hid hsucc
      clear hx hsucc hu hown0 hb0 hbs0
      go_wp2_with fail
      refine C.out.mono ?_
      rintro e w1 ⟨rfl, hb1⟩
      have hown1 := hown.below hb1
      have hbw1 := hbw.trans (hb1.mono hbs)
      have hbs1 := hbw1.size
      clear hown hbw hb1
      go_wp2_with (at_builtin; go_must (refine append_string rfl _ _ rfl rfl (OwnS.alloc hown1 _) u rfl (cell_newS _ _ _) (by omega) (Below.alloc hbw1 hbs1 _) (by simp; omega) ?_); intro v' w' hown' hbw' hbs')
      go_roundw
      case rel => exact ⟨k + 1, by omega, by go_num, by rw [HS.out]; exact hown', hbw'⟩
      case measure => simp [intOf]; omega
    · obtain rfl : k = n := by omega
      have hm : ((qs ss k).map S).map L = qs ss k := by rw [List.map_map, show (L ∘ S) = id from rfl, List.map_id]
      have C := Lib.hid (joinS_any _ ((qs ss k).map S) wr w.heap.size hown (by rw [List.length_map, qs_len (by rw [HL.out]; exact Nat.le_refl _)]; omega) (by rw [hm]; have := HJ.out; omega))
      rw [hm] at C
      clear hm hown hown0
      go_wp2_with fail
      refine C.out.mono ?_
      rintro e w1 ⟨rfl, hb1⟩
      go_wp2_with fail
      go_ret
      exact ⟨rfl, hbw.trans (hb1.mono hbs)⟩

set_option maxRecDepth 100000 in
set_option maxHeartbeats 4000000 in
theorem quoteWords_any (a : Option Addr) (n cap : Nat) (ss : List ByteArray) (w : World) (hE : Elems w w.heap.size a n (ss.map .string)) (hss : ∀ s ∈ ss, s.size ≤ maxLen) (hv : Held w) :
    Calls Tryd.prog 5 #[.slice a n cap] w fun e w' => e = .returned (.bool true) ∧ Below w.heap.size w w' := by
  have w0pos := hv.2
  have HV := Lib.hid hv
  have CA := Lib.hid (anchor_any w hv)
  have hnm := hE.2.1
  unfold maxLen at hnm
  clear hv
  by_cases hn : n ≤ 60
  · have hl : ss.length = n := by simpa using hE.1
    obtain ⟨b1, o1, r1, hlt1, c1⟩ := hE.open (P := Tryd.prog) 30 9 Tryd.underlying30 (by kernel_rfl)
    have HEE := Lib.hid hE
    have HL := Lib.hid hl
    have R1 := Lib.hid r1
    have CC1 := Lib.hid c1
    have HLT1 := Lib.hid hlt1
    have HSS := Lib.hid hss
    clear hl r1 c1 hlt1 hE hss
    go_enter Tryd.func5, Tryd.ntmps5
    go_wp2_with fail
    refine CA.out.mono ?_
    rintro e w1 ⟨rfl, hb1⟩
    go_wp2_with fail
    go_loopw [3, 13] (fun o i wr => ∃ (k : Nat) (t : ByteArray), k ≤ n ∧ i = .int .i64 k ∧ o = .string t ∧ L t = Lib.join (qs ss k) [32] ∧ t.size ≤ 2003 * k ∧ shortTo ss k ∧ Below w.heap.size w wr) (fun _ i _ => n - (intOf i).toNat)
    case atStart => exact ⟨0, ⟨#[]⟩, Nat.zero_le _, rfl, rfl, rfl, Nat.le_refl _, fun i s h => by omega, hb1⟩
    case round =>
      obtain ⟨k, t, hk, rfl, rfl, ht, hts, hsh, hbw⟩ := hrel
      have hbs := hbw.size
      have HT := Lib.hid ht
      have HSH := Lib.hid hsh
      clear ht hsh hb1
      by_cases hlt : k < n
      · have j1 := fun w' => R1.out k cap w' hlt
        obtain ⟨x, hx⟩ : ∃ x, ss[k]? = some x := ⟨_, List.getElem?_eq_getElem (by rw [HL.out]; exact hlt)⟩
        have d1 : wr.cell? ⟨b1, o1 + k, none⟩ = some (.string x) := by
          rw [hbw.cell (p := ⟨b1, o1 + k, none⟩) (show b1 < w.heap.size by have := HLT1.out; omega), CC1.out k hlt, List.getElem?_map, hx]; rfl
        have hxm := HSS.out x (List.mem_of_getElem? hx)
        unfold maxLen at hxm
        by_cases hx5 : x.size ≤ 500
        · have hsh2 : shortTo ss (k + 1) := fun i s hi hs => by
            by_cases hik : i < k
            · exact HSH.out i s hik hs
            · obtain rfl : i = k := by omega
              rw [hx] at hs; cases hs; exact hx5
          have HSH2 := Lib.hid hsh2
          obtain ⟨u, hu⟩ : ∃ u, u = S (wordL (L x)) := ⟨_, rfl⟩
          obtain ⟨g, hg⟩ : ∃ g, g = S (singleL (L x)) := ⟨_, rfl⟩
          obtain ⟨bb, hbb⟩ : ∃ bb, bb = bareB (L x) := ⟨_, rfl⟩
          have hus : u.size ≤ 2002 := by rw [hu, S_size]; have := wordL_len (L x); rw [L_size] at this; omega
          have C1 := Lib.hid (bare_any x wr (by omega))
          have C2 := Lib.hid (fun w => refBare_any x w (by omega))
          have C3 := Lib.hid (fun w hv => word_any x w (by omega) hv)
          have C4 := Lib.hid (fun w => refWord_any x w (by omega))
          have C5 := Lib.hid (fun w hv => single_any x w (by omega) hv)
          have C6 := Lib.hid (fun w => refSingle_any x w (by omega))
          rw [← hbb] at C1 C2
          rw [← hu] at C3 C4
          rw [← hg] at C5 C6
          have HU := Lib.hid hu
          have HX := Lib.hid hx
          clear hx hsh2 hu hg hbb
          by_cases hk0 : 0 < k
          · have HJN : Hid (L (t ++ ⟨#[32]⟩ ++ u) = Lib.join (qs ss (k + 1)) [32]) := Lib.hid (by rw [join_next hk0 HX.out, L_append, L_append, HT.out, HU.out, L_S]; rfl)
            go_wp2_with fail
            refine C1.out.mono ?_
            rintro e w2 ⟨rfl, hb2⟩
            have hb3 := hbw.trans (hb2.mono hbs)
            clear hb2 hbw
            go_wp2_with fail
            refine (C2.out _).mono ?_
            rintro e w3 ⟨rfl, rfl⟩
            go_wp2_with fail
            refine (C3.out _ (HV.out.below w0pos hb3)).mono ?_
            rintro e w4 ⟨rfl, hb4⟩
            have hb5 := hb3.trans (hb4.mono hb3.size)
            clear hb3 hb4
            go_wp2_with fail
            refine (C4.out _).mono ?_
            rintro e w5 ⟨rfl, rfl⟩
            go_wp2_with fail
            refine (C5.out _ (HV.out.below w0pos hb5)).mono ?_
            rintro e w6 ⟨rfl, hb6⟩
            have hb7 := hb5.trans (hb6.mono hb5.size)
            clear hb5 hb6
            go_wp2_with fail
            refine (C6.out _).mono ?_
            rintro e w7 ⟨rfl, rfl⟩
            go_wp2_with fail
            refine (C4.out _).mono ?_
            rintro e w8 ⟨rfl, rfl⟩
            go_wp2_with fail
            go_roundw
            case rel => exact ⟨k + 1, _, by omega, by go_num, rfl, HJN.out, by simp only [ByteArray.size_append]; simp; omega, HSH2.out, hb7⟩
            case measure => simp [intOf]; omega
          · have HJN : Hid (L (t ++ u) = Lib.join (qs ss (k + 1)) [32]) := Lib.hid (by
              have h0 : k = 0 := by omega
              subst h0
              rw [join_first HX.out, L_append, HT.out, HU.out, L_S]; rfl)
            go_wp2_with fail
            refine C1.out.mono ?_
            rintro e w2 ⟨rfl, hb2⟩
            have hb3 := hbw.trans (hb2.mono hbs)
            clear hb2 hbw
            go_wp2_with fail
            refine (C2.out _).mono ?_
            rintro e w3 ⟨rfl, rfl⟩
            go_wp2_with fail
            refine (C3.out _ (HV.out.below w0pos hb3)).mono ?_
            rintro e w4 ⟨rfl, hb4⟩
            have hb5 := hb3.trans (hb4.mono hb3.size)
            clear hb3 hb4
            go_wp2_with fail
            refine (C4.out _).mono ?_
            rintro e w5 ⟨rfl, rfl⟩
            go_wp2_with fail
            refine (C5.out _ (HV.out.below w0pos hb5)).mono ?_
            rintro e w6 ⟨rfl, hb6⟩
            have hb7 := hb5.trans (hb6.mono hb5.size)
            clear hb5 hb6
            go_wp2_with fail
            refine (C6.out _).mono ?_
            rintro e w7 ⟨rfl, rfl⟩
            go_wp2_with fail
            refine (C4.out _).mono ?_
            rintro e w8 ⟨rfl, rfl⟩
            go_wp2_with fail
            go_roundw
            case rel => exact ⟨k + 1, _, by omega, by go_num, rfl, HJN.out, by simp only [ByteArray.size_append]; omega, HSH2.out, hb7⟩
            case measure => simp [intOf]; omega
        · clear hx
          go_wp2_with fail
          go_ret
          exact ⟨rfl, hbw⟩
      · obtain rfl : k = n := by omega
        have C := Lib.hid (words_any a k cap ss wr w.heap.size (HEE.out.below hbw) hbs hn HSH.out (HV.out.below w0pos hbw))
        rw [← HT.out, S_L] at C
        go_wp2_with fail
        refine C.out.mono ?_
        rintro e w2 ⟨rfl, hb2⟩
        go_wp2_with fail
        go_ret
        exact ⟨ret_bool (by simp), hbw.trans (hb2.mono hbs)⟩
  · go_enter Tryd.func5, Tryd.ntmps5
    go_wp2_with fail
    refine CA.out.mono ?_
    rintro e w1 ⟨rfl, hb1⟩
    go_wp2_with fail
    go_ret
    exact ⟨rfl, hb1⟩
end Go.Proofs.YtfeejbmpnphnhaaDoor
