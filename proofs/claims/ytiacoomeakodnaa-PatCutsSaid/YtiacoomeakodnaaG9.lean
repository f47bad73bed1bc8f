/-
  Plain, Escape; a part and a byte; is a pattern more than a text; its first byte: the walks.
-/
import Derived.Test.YtiacoomeakodnaaG8
import Derived.Test.YtiacoomeakodnaaShelf
import Derived.Test.YtiacoomeakodnaaByteEq
namespace Go.Proofs.Ytiacoomeakodnaa
open Go.RowKit

theorem PatOwn.shape {w : World} {base : Nat} {v : Value} {l : List Pt} (h : PatOwn w base v l) : ∃ a n cap, v = .slice a n cap := by
  obtain ⟨ps, _, h2, _⟩ := h
  obtain ⟨a, cap, h⟩ := own_shape h2
  exact ⟨a, _, cap, h⟩

theorem plain_results {w : World} {b : Nat} {tmps : Array Value} {pv : Value} (h2 : tmps[2]?.getD undef = .pointer (some ⟨b, 0, none⟩)) (h : Blk w b 26 #[pv]) :
    (results Try.f9 tmps).run Try.prog w = .ok (.agg #[pv]) w := by
  have q0 := h.cell 0
  simp at q0
  simp [results, Try.results9, go_sem, h2, q0]

set_option maxHeartbeats 1000000 in
theorem plain_any (s : ByteArray) (w : World) (hs : s.size ≤ 100000) : Calls Try.prog 9 #[.string s] w (CompPost (comp (signsP ⟨s, false⟩)) w) := by
  have hso : signsOf [⟨s, false⟩] = signsP ⟨s, false⟩ := by simp [signsOf]
  have CC : Hid (∀ (W : World) (g : Nat), g = W.heap.size → Calls Try.prog 12 #[.slice (some ⟨g, 0, none⟩) 1 1] (W.alloc (.cells #[.string s, .bool false] 41)) (CompPost (comp (signsP ⟨s, false⟩)) (W.alloc (.cells #[.string s, .bool false] 41)))) := Lib.hid fun W g hg => by
    rw [← hso]
    exact comp_any [⟨s, false⟩] _ _ (sl_made_at W #[.string s, .bool false] _ 1 2 rfl (by unfold maxLen; omega) hg) (by rw [hso]; simpa [signsP, L_size] using hs)
  clear hso hs
  go_enter Try.func9, Try.ntmps9
  go_wp2_with fail
  refine (CC.out _ _ (by simp)).mono ?_
  rintro e w1 ⟨hb, v, rfl, hp⟩
  obtain ⟨va, vn, vc, rfl⟩ := hp.shape
  have h0 := ((Blk.new w 26 #[.slice none 0 0]).alloc (.cells #[.string s, .bool false] 41)).below hb (by simp; omega)
  have hb1 := (Below.alloc (Below.alloc (Below.refl w.heap.size w) (Nat.le_refl _) (.cells #[.slice none 0 0] 26)) (by simp) (.cells #[.string s, .bool false] 41)).trans (hb.mono (by simp; omega))
  have hsz := hb.size
  simp at hsz
  have z0 := h0.cell 0
  have y0 := h0.free 0
  simp at z0
  have HX := Lib.hid ((hp.far (p := ⟨w.heap.size, 0, none⟩) (by simp; omega) (.slice va vn vc)).from (base' := w.heap.size) (by simp; omega))
  have HB := Lib.hid hb1
  have HH := Lib.hid h0
  clear hp hb hb1 h0
  go_wp2_with fail
  refine bodyPost_ret (plain_results rfl (HH.out.put 0 _)) rfl ⟨?_, _, rfl, ?_⟩
  · exact HB.out.setCell (p := ⟨w.heap.size, 0, none⟩) (Nat.le_refl _) _
  · exact HX.out

/-! ### Escape -/
set_option maxHeartbeats 1000000 in
theorem escape_any (s : ByteArray) (w : World) (hs : s.size ≤ 100000) : Calls Try.prog 17 #[.string s] w fun e w' => e = .returned (.agg #[.string s, .bool true]) ∧ Below w.heap.size w w' := by
  have CC : Hid (∀ W, Calls Try.prog 26 #[.string s] W fun e w' => e = .returned (.string s) ∧ Below W.heap.size W w') := Lib.hid fun W => by
    have C0 := Lib.hid (Try.stringslite_Clone s · (by omega))
    clear hs
    go_enter Try.func26, Try.ntmps26
    go_wp2_with (go_at_call 30; refine (C0.out _).mono ?_; rintro e w' ⟨rfl, hb⟩)
    go_ret
    exact ⟨rfl, hb⟩
  clear hs
  go_enter Try.func17, Try.ntmps17
  go_wp2_with fail
  refine (CC.out _).mono ?_
  rintro e w1 ⟨rfl, hb⟩
  have h0 := (Blk.new w 41 #[.string ⟨#[]⟩, .bool false]).below hb (by simp)
  have z0 := h0.cell 0
  have z1 := h0.cell 1
  have y0 := h0.free 0
  have y1 := h0.free 1
  simp at z0 z1
  have HB := Lib.hid ((Below.alloc (Below.refl w.heap.size w) (Nat.le_refl _) (.cells #[.string ⟨#[]⟩, .bool false] 41)).trans (hb.mono (by simp)))
  have HH := Lib.hid h0
  clear hb h0
  go_wp2_with fail
  have h2 := (HH.out.put 0 (.string s)).put 1 (.bool true)
  have q0 := h2.cell 0
  have q1 := h2.cell 1
  simp at q0 q1
  refine bodyPost_ret (v := .agg #[.string s, .bool true]) (by simp [results, Try.results17, go_sem, q0, q1]) rfl ⟨rfl, ?_⟩
  exact (HB.out.setCell (p := ⟨w.heap.size, 0, none⟩) (Nat.le_refl _) _).setCell (p := ⟨w.heap.size, 1, none⟩) (Nat.le_refl _) _

/-! ### fits -/
theorem span_at {w : World} {B : Nat} {v : Value} {l : List Span} (h : Sl w B 2 v l.length (l.flatMap spanC)) {k : Nat} {x : Span} (hx : l[k]? = some x) :
    ∃ b o, (∀ w' : World, (Instr.indexAt 47 v (.int .i64 (k : Int))).run Try.prog w' = .ok (.pointer (some ⟨b, o, none⟩)) w') ∧ b < B ∧ w.cell? ⟨b, o, none⟩ = some (.int .u8 ((x.1.toNat : Nat) : Int)) ∧ w.cell? ⟨b, o + 1, none⟩ = some (.int .u8 ((x.2.toNat : Nat) : Int)) := by
  have hk := (List.getElem?_eq_some_iff.1 hx).1
  obtain ⟨a, cap, b, off, rfl, _, _, h1, h2, h3⟩ := h.open (P := Try.prog) 47 62 Try.underlying47 (by kernel_rfl)
  have g := flat_get spanC 2 spanC_len l k x hx
  refine ⟨b, off + k * 2, fun w' => h1 k w' hk, by omega, ?_, ?_⟩
  · rw [show off + k * 2 = off + (k * 2 + 0) by omega, h3 _ (by omega), g 0 (by omega)]; rfl
  · rw [show off + k * 2 + 1 = off + (k * 2 + 1) by omega, h3 _ (by omega), g 1 (by omega)]; rfl

set_option maxHeartbeats 1000000 in
theorem fits_any (p : Pt) (sv : Value) (c : UInt8) (w : World) (hs : Sl w w.heap.size 2 sv p.set.length (p.set.flatMap spanC)) :
    Calls Try.prog 20 #[.agg #[.int .u8 ((p.kind.toNat : Nat) : Int), .int .u8 ((p.b.toNat : Nat) : Int), .bool p.neg, sv], .int .u8 ((c.toNat : Nat) : Int)] w fun e w' => e = .returned (.bool (fitsP p c)) ∧ Below w.heap.size w w' := by
  obtain ⟨kind, b, neg, set⟩ := p
  simp only at hs ⊢
  obtain ⟨R, hR⟩ : ∃ R, R = fitsP ⟨kind, b, neg, set⟩ c := ⟨_, rfl⟩
  rw [← hR]
  have HR := Lib.hid hR
  have HS := Lib.hid hs
  have hsl := hs.len
  unfold maxLen at hsl
  obtain ⟨n, hn⟩ : ∃ n, n = set.length := ⟨_, rfl⟩
  rw [← hn] at hs hsl
  obtain ⟨a, cap, rfl⟩ : ∃ a cap, sv = .slice a n cap := by
    obtain ⟨_, a, cap, h, _⟩ := hs
    exact ⟨a, cap, h⟩
  have HN := Lib.hid hn
  clear hR hs hn
  by_cases h1 : kind = 98
  · have t1 : (((kind.toNat : Nat) : Int) == 98) = true := eq_byte h1
    have hR : R = (b == c) := by rw [HR.out, fitsP, if_pos h1]
    have hbb := beq_byte b c
    rw [← hR] at hbb
    clear h1 hR
    go_enter Try.func20, Try.ntmps20
    go_wp2
    go_ret
    exact ⟨rfl, Below.alloc (Below.refl _ _) (Nat.le_refl _) _⟩
  have t1 : (((kind.toNat : Nat) : Int) == 98) = false := ne_byte h1
  by_cases h2 : kind = 63
  · have t2 : (((kind.toNat : Nat) : Int) == 63) = true := eq_byte h2
    have hR : R = true := by rw [HR.out, fitsP, if_neg h1, if_pos h2]
    subst hR
    clear h1 h2
    go_enter Try.func20, Try.ntmps20
    go_wp2
    go_ret
    exact ⟨rfl, Below.alloc (Below.refl _ _) (Nat.le_refl _) _⟩
  have t2 : (((kind.toNat : Nat) : Int) == 63) = false := ne_byte h2
  have hR := HR.out
  rw [fitsP, if_neg h1, if_neg h2] at hR
  have HR2 := Lib.hid hR
  clear h1 h2 hR HR
  go_enter Try.func20, Try.ntmps20
  go_wp2
  go_loopw [20] (fun i wr => ∃ k : Nat, k ≤ n ∧ i = .int .i64 k ∧ (set.take k).any (inSpan c) = false ∧ wr.cell? ⟨w.heap.size, 2, none⟩ = some (.bool neg) ∧ w.heap.size < wr.heap.size ∧ Below w.heap.size w wr) (fun i _ => n - (intOf i).toNat)
  case atStart => exact ⟨0, Nat.zero_le _, rfl, rfl, by simp, by simp, Below.alloc (Below.refl _ _) (Nat.le_refl _) _⟩
  case round =>
    obtain ⟨k, hk, rfl, ha, hc, hsz, hb⟩ := hrel
    have HA := Lib.hid ha
    have HB := Lib.hid hb
    by_cases hlt : k < n
    · obtain ⟨x, hx⟩ : ∃ x, set[k]? = some x := ⟨_, List.getElem?_eq_getElem (by rw [← HN.out]; omega)⟩
      obtain ⟨b1, o1, i1, hb1, c1, d1⟩ := span_at (HS.out.below hb) hx
      have hb1' : b1 < wr.heap.size := by omega
      have htk : (set.take (k + 1)).any (inSpan c) = inSpan c x := by
        obtain ⟨hk', e⟩ := List.getElem?_eq_some_iff.1 hx
        rw [List.take_succ_eq_append_getElem hk', e, List.any_append, ha]; simp
      have hany : inSpan c x = true → set.any (inSpan c) = true := fun h => List.any_eq_true.2 ⟨x, List.mem_of_getElem? hx, h⟩
      obtain ⟨lo, hi⟩ := x
      by_cases g1 : lo ≤ c
      · have f1 : lo.toNat ≤ c.toNat := UInt8.le_iff_toNat_le.1 g1
        by_cases g2 : c ≤ hi
        · have f2 : c.toNat ≤ hi.toNat := UInt8.le_iff_toNat_le.1 g2
          have hR : R = !neg := by rw [HR2.out, if_pos (hany (by simp [inSpan, g1, g2]))]
          subst hR
          clear hx htk hany ha hb g1 g2
          go_wp2
          go_ret
          exact ⟨rfl, Below.alloc HB.out (by omega) _⟩
        · have f2 : hi.toNat < c.toNat := by rw [UInt8.le_iff_toNat_le] at g2; omega
          have hT : Hid ((set.take (k + 1)).any (inSpan c) = false) := Lib.hid (by rw [htk]; simp [inSpan, g2])
          clear hx htk hany ha hb g1 g2
          go_wp2
          go_roundw
          case rel => exact ⟨k + 1, by omega, by go_num, hT.out, ((Below.alloc (Below.refl _ _) (Nat.le_refl _) _).cell (p := ⟨w.heap.size, 2, none⟩) hsz).trans hc, by simp; omega, Below.alloc HB.out (by omega) _⟩
          case measure => simp [intOf]; omega
      · have f1 : c.toNat < lo.toNat := by rw [UInt8.le_iff_toNat_le] at g1; omega
        have hT : Hid ((set.take (k + 1)).any (inSpan c) = false) := Lib.hid (by rw [htk]; simp [inSpan, g1])
        clear hx htk hany ha hb g1
        go_wp2
        go_roundw
        case rel => exact ⟨k + 1, by omega, by go_num, hT.out, ((Below.alloc (Below.refl _ _) (Nat.le_refl _) _).cell (p := ⟨w.heap.size, 2, none⟩) hsz).trans hc, by simp; omega, Below.alloc HB.out (by omega) _⟩
        case measure => simp [intOf]; omega
    · obtain rfl : k = n := by omega
      have hR : R = neg := by
        rw [List.take_of_length_le (by rw [← HN.out]; omega)] at ha
        rw [HR2.out, ha]; rfl
      subst hR
      clear ha hb
      go_wp2
      go_ret
      exact ⟨rfl, HB.out⟩
end Go.Proofs.Ytiacoomeakodnaa
