/-
  The walk of New: variables of an environment.
-/
import Derived.Test.YthfnkgofkdahfaaGreatDoorB2
namespace Go.Proofs.YthfnkgofkdahfaaGreatDoor
open Go.RowKit

/-- What an entry of an environment adds. -/
def addE (l : List (Nm × Xd)) (s : Nm) : List (Nm × Xd) :=
  if (Lib.cut s [61]).2.2 && nameL (Lib.cut s [61]).1 then putL l (Lib.cut s [61]).1 ⟨(Lib.cut s [61]).2.1, true, true, false⟩ else l
def newL (es : List Nm) : List (Nm × Xd) := es.foldl addE []
theorem newL_succ {es : List Nm} {k : Nat} {s : Nm} (h : es[k]? = some s) : newL (es.take (k + 1)) = addE (newL (es.take k)) s := by
  obtain ⟨hk, e⟩ := List.getElem?_eq_some_iff.1 h
  rw [newL, List.take_succ_eq_append_getElem hk, List.foldl_append, e]
  rfl
/-- An entry that a cut serves. -/
def Fine (s : Nm) : Prop := s.length ≤ 4294967280 ∧ (Lib.cut s [61]).1.length ≤ 1048576 ∧ (Lib.cut s [61]).2.1.length ≤ 1048576

theorem mpair {w : World} {mb n : Nat} {m : List UInt8 → Option Value} (h : MapS w mb n m) : mb < w.heap.size := h.lt

theorem mapzero (w : World) : (zeroValue 49).run Tryz.prog w = .ok (.agg #[.string ⟨#[]⟩, .bool false, .bool false, .bool false]) w := by kernel_rfl

set_option maxHeartbeats 4000000 in
theorem pnew_any (ae : Option Addr) (ne ce : Nat) (es : List ByteArray) (a : Option Addr) (n c : Nat) (ss : List ByteArray) (w : World) (B : Nat) (m0 : Int) (hE : Elems w B ae ne (es.map .string)) (h : Elems w B a n (ss.map .string)) (hB : B ≤ w.heap.size) (hn : n ≤ 1000) (hne : ne ≤ 1000)
    (hf : ∀ s ∈ es, Fine (L s)) (hm : w.cell? ⟨0, 0, none⟩ = some (.int .i64 m0)) (h0 : 0 < w.heap.size) :
    Calls Tryz.prog 6 #[.slice ae ne ce, .string ⟨#[115, 104]⟩, .slice a n c] w fun e w' => ∃ g mb, e = .returned (.pointer (some ⟨g, 0, none⟩)) ∧ VSt w' w.heap.size g mb ne (newL (es.map L)) ss 0 ∧ Below w.heap.size w w' := by
  have CC : Hid (∀ W, Below w.heap.size w W → Calls Tryz.prog 12 #[.slice a n c] W fun e w' => ∃ v', e = .returned v' ∧ OwnS w' W.heap.size v' ss ∧ Below W.heap.size W w') := Lib.hid fun W hW => clone_any a n c ss W B (h.below (hW.mono hB)) hn
  have hmm := @run_makeMap Tryz.prog
  have hel : es.length = ne := by simpa using hE.1
  obtain ⟨be, oe, re, _, ce'⟩ := hE.open 22 9 Tryz.underlying22 (by kernel_rfl)
  have HEL := Lib.hid hel
  have RE := Lib.hid re
  have CE : Hid (∀ W, Below w.heap.size w W → ∀ k, k < ne → ∀ x, es[k]? = some x → W.cell? ⟨be, oe + k, none⟩ = some (.string x)) := Lib.hid fun W hW k hk x hx => by
    have h1 := ce' k hk
    rw [List.getElem?_map, hx, Option.map_some] at h1
    exact (hW.cell (World.block_lt_of_cell? w _ h1)).trans h1
  have HF := Lib.hid hf
  have HM : Hid (∀ W, Below w.heap.size w W → W.cell? ⟨0, 0, none⟩ = some (.int .i64 m0)) := Lib.hid fun W hW => (hW.cell (p := ⟨0, 0, none⟩) h0).trans hm
  clear h hE hel re ce' hf hm
  go_enter Tryz.func6, Tryz.ntmps6
  go_wp2_with fail
  refine (CC.out _ (by go_grown)).mono ?_
  rintro e w1 ⟨v', rfl, ho, hb1⟩
  have HB1 : Hid (Below w.heap.size w w1) := Lib.hid ((Below.alloc (Below.refl _ _) (Nat.le_refl _) _).trans (hb1.mono (by simp)))
  have hs1 : w.heap.size < w1.heap.size := by have := hb1.size; simp at this; omega
  have HM1 : Hid (MapS w1 w.heap.size 0 (fun _ => none)) := Lib.hid ((MapS.made w).below hb1)
  have HO := Lib.hid ho
  obtain ⟨va, vc, rfl⟩ := own_shape ho
  clear ho hb1
  go_wp2_with fail
  go_loopw [21] (fun i wr => ∃ k : Nat, k ≤ ne ∧ i = .int .i64 k ∧ VSt wr w.heap.size w1.heap.size w.heap.size k (newL ((es.map L).take k)) ss 0 ∧ Below w.heap.size w wr) (fun i _ => ne - (intOf i).toNat)
  case atStart =>
    refine ⟨0, Nat.zero_le _, rfl, ⟨.slice va ss.length vc, _, ⟨Nat.le_of_lt hs1, Nat.le_refl _, by omega⟩, ⟨?_, ?_⟩, Blk.new w1 _ _, (HO.out.alloc _).from (by simp), HM1.out.alloc _, MRel.nil, List.Pairwise.nil, fun p hp => by cases hp⟩, HB1.out.alloc (Nat.le_of_lt hs1) _⟩
    · rcases HO.out.form with ⟨e0, _⟩ | ⟨q, cap, e0, hq, _⟩
      · rw [e0]; simp [Value.ownBlock]
      · intro e; rw [e0] at e; simp [Value.ownBlock] at e; omega
    · exact own_ge HO.out (by simp)
  case round =>
    obtain ⟨k, hk, rfl, hV, hbw⟩ := hrel
    by_cases hlt : k < ne
    · have hkl : k < es.length := by rw [HEL.out]; exact hlt
      obtain ⟨s, hx⟩ : ∃ x, es[k]? = some x := ⟨_, List.getElem?_eq_getElem hkl⟩
      have hfs := HF.out s (List.mem_of_getElem? hx)
      have hLk : (es.map L)[k]? = some (L s) := by rw [List.getElem?_map, hx]; rfl
      have HN := Lib.hid (newL_succ hLk)
      have d1 := CE.out wr hbw k hlt s hx
      have j1 := fun w' => RE.out k ce w' hlt
      have C1 := Lib.hid (cut_call s wr m0 (by have := hfs.1; rw [L_size] at this; omega) (HM.out wr hbw))
      obtain ⟨cn, hcn⟩ : ∃ x, (Lib.cut (L s) [61]).1 = x := ⟨_, rfl⟩
      obtain ⟨ct, hct⟩ : ∃ x, (Lib.cut (L s) [61]).2.1 = x := ⟨_, rfl⟩
      obtain ⟨ok, hok⟩ : ∃ x, (Lib.cut (L s) [61]).2.2 = x := ⟨_, rfl⟩
      have HL : Hid (addE (newL ((es.map L).take k)) (L s) = if ok && nameL cn then putL (newL ((es.map L).take k)) cn ⟨ct, true, true, false⟩ else newL ((es.map L).take k)) := Lib.hid (by rw [addE, hcn, hct, hok])
      rw [hcn, hct, hok] at C1
      have HFN : Hid (cn.length ≤ 1048576 ∧ ct.length ≤ 1048576) := Lib.hid ⟨hcn ▸ hfs.2.1, hct ▸ hfs.2.2⟩
      have CN : Hid (∀ W, Calls Tryz.prog 14 #[.string ⟨cn.toArray⟩] W fun e w' => e = .returned (.bool (nameL cn)) ∧ Below W.heap.size W w') := Lib.hid fun W => name_any (S cn) W (by unfold maxLen; rw [S_size]; have := HFN.out.1; omega)
      obtain ⟨isn, hisn⟩ : ∃ b, nameL cn = b := ⟨_, rfl⟩
      have HIS := Lib.hid hisn
      rw [hisn] at CN HL
      have HV := Lib.hid hV
      have HBW := Lib.hid hbw
      clear hx hfs hLk hcn hct hok hisn hV hbw
      cases ok with
      | false =>
        go_wp2_with fail
        refine C1.out.mono ?_
        rintro e w2 ⟨rfl, n2, rfl⟩
        go_wp2_with fail
        go_roundw
        case rel => exact ⟨k + 1, by omega, by go_num, by rw [HN.out, HL.out]; exact (HV.out.below (below_drewN (Below.refl _ _) n2)).mono (Nat.le_succ _), below_drewN HBW.out n2⟩
        case measure => simp [intOf]; omega
      | true =>
        cases isn with
        | false =>
          go_wp2_with fail
          refine C1.out.mono ?_
          rintro e w2 ⟨rfl, n2, rfl⟩
          go_wp2_with fail
          refine (CN.out _).mono ?_
          rintro e w3 ⟨rfl, hb3⟩
          have HB3 : Hid (Below wr.heap.size wr w3) := Lib.hid ((below_drewN (Below.refl _ _) n2).trans (by simpa using hb3))
          clear hb3
          go_wp2_with fail
          go_roundw
          case rel => exact ⟨k + 1, by omega, by go_num, by rw [HN.out, HL.out]; exact (HV.out.below HB3.out).mono (Nat.le_succ _), HBW.out.trans (HB3.out.mono HBW.out.size)⟩
          case measure => simp [intOf]; omega
        | true =>
          go_wp2_with fail
          refine C1.out.mono ?_
          rintro e w2 ⟨rfl, n2, rfl⟩
          go_wp2_with fail
          refine (CN.out _).mono ?_
          rintro e w3 ⟨rfl, hb3⟩
          have HB3 : Hid (Below wr.heap.size wr w3) := Lib.hid ((below_drewN (Below.refl _ _) n2).trans (by simpa using hb3))
          clear hb3
          obtain ⟨v3, f3, q1, q2, q3, q4, q5, q6, q7, q8⟩ := HV.out.below HB3.out
          have y0 := q3.cell 0
          simp at y0
          have Q5 := Lib.hid q5
          have QR := Lib.hid (And.intro q1 (And.intro q2 (And.intro q3 (And.intro q4 (And.intro q6 (And.intro q7 q8))))))
          have hcs : (⟨cn.toArray⟩ : ByteArray).size ≤ maxLen := by unfold maxLen; have := HFN.out.1; rw [show (⟨cn.toArray⟩ : ByteArray) = S cn from rfl, S_size]; omega
          clear q1 q2 q3 q4 q5 q6 q7 q8
          go_wp2_with (at_mapUpdate; refine wpList_put rfl _ _ _ _ rfl _ Tryz.underlying41 rfl Q5.out (by unfold maxLen; omega) _ (VX ⟨ct, true, true, false⟩) rfl rfl hcs ?_; intro w4 hm4 hg4)
          obtain ⟨q1, q2, q3, q4, q6, q7, q8⟩ := QR.out
          have HB4 : Hid (Below w.heap.size w w4) := Lib.hid ((HBW.out.trans (HB3.out.mono HBW.out.size)).grown hg4 (by have := HBW.out.size; have := HB3.out.size; omega) (fun j hj => by cases hj; exact Nat.le_refl _))
          have HV4 : Hid (VSt w4 w.heap.size w1.heap.size w.heap.size (k + 1) (newL ((es.map L).take (k + 1))) ss 0) := Lib.hid (by
            rw [HN.out, HL.out]
            exact ⟨v3, _, q1, q2, q3.grown hg4 (fun e => by have := Option.some.inj e; omega), World.ownsRow.kept q4 hg4 (.inr q2.2), hm4, q6.put cn ⟨ct, true, true, false⟩, put_rising q7 _ _, q8.put HIS.out HFN.out.1 HFN.out.2⟩)
          clear q1 q2 q3 q4 q6 q7 q8 hm4 hg4
          go_roundw
          case rel => exact ⟨k + 1, by omega, by go_num, HV4.out, HB4.out⟩
          case measure => simp [intOf]; omega
    · obtain rfl : k = ne := by omega
      have hLt : (es.map L).take k = es.map L := List.take_of_length_le (by rw [List.length_map, HEL.out]; exact Nat.le_refl _)
      rw [hLt] at hV
      go_wp2
      go_ret
      exact ⟨_, _, rfl, hV, hbw⟩
end Go.Proofs.YthfnkgofkdahfaaGreatDoor
