/-
  All signs of some pieces: the walk.
-/
import Derived.Test.YtiacoomeakodnaaG5
import Derived.Test.YtiacoomeakodnaaBytes
namespace Go.Proofs.Ytiacoomeakodnaa
open Go.RowKit

/-- A piece of a pattern. -/
structure Pc where
  t : ByteArray
  q : Bool
def pcC (p : Pc) : List Value := [.string p.t, .bool p.q]
theorem pcC_len (p : Pc) : (pcC p).length = 2 := rfl
def signsP (p : Pc) : List Sg := (L p.t).map fun b => ⟨b, p.q⟩
def signsOf (l : List Pc) : List Sg := l.flatMap signsP

theorem signs_take {l : List Pc} {k : Nat} {p : Pc} (h : l[k]? = some p) : signsOf (l.take (k + 1)) = signsOf (l.take k) ++ signsP p := by
  obtain ⟨hk, e⟩ := List.getElem?_eq_some_iff.1 h
  rw [List.take_succ_eq_append_getElem hk, e]
  simp [signsOf]
theorem signs_le (l : List Pc) (k : Nat) : (signsOf (l.take k)).length ≤ (signsOf l).length := by
  have e : signsOf l = signsOf (l.take k) ++ signsOf (l.drop k) := by
    unfold signsOf
    rw [← List.flatMap_append, List.take_append_drop]
  rw [e, List.length_append]; omega
theorem signsP_take (p : Pc) {j : Nat} (h : j < (L p.t).length) : (signsP p).take (j + 1) = (signsP p).take j ++ [⟨(L p.t).getD j 0, p.q⟩] := by
  rw [List.take_succ_eq_append_getElem (by simpa [signsP] using h)]
  simp [signsP, List.getD, h]

/-- An element of a slice of pieces. -/
theorem pc_at {w : World} {B : Nat} {v : Value} {l : List Pc} (h : Sl w B 2 v l.length (l.flatMap pcC)) {k : Nat} {x : Pc} (hx : l[k]? = some x) (i : Int) (hi : i = k) :
    ∃ b o, (∀ w' : World, (Instr.indexAt 30 v (.int .i64 i)).run Try.prog w' = .ok (.pointer (some ⟨b, o, none⟩)) w') ∧ b < B ∧ w.cell? ⟨b, o, none⟩ = some (.string x.t) ∧ w.cell? ⟨b, o + 1, none⟩ = some (.bool x.q) := by
  subst hi
  have hk := (List.getElem?_eq_some_iff.1 hx).1
  obtain ⟨a, cap, b, off, rfl, _, _, h1, h2, h3⟩ := h.open (P := Try.prog) 30 41 Try.underlying30 (by kernel_rfl)
  have g := flat_get pcC 2 pcC_len l k x hx
  refine ⟨b, off + k * 2, fun w' => h1 k w' hk, by omega, ?_, ?_⟩
  · rw [show off + k * 2 = off + (k * 2 + 0) by omega, h3 _ (by omega), g 0 (by omega)]; rfl
  · rw [show off + k * 2 + 1 = off + (k * 2 + 1) by omega, h3 _ (by omega), g 1 (by omega)]; rfl

theorem BytesAt.grown {w w' : World} {b : Nat} {bl : List UInt8} (h : BytesAt w b bl) {row : Option Nat} (hg : w.grownBy w' row) (hb : b < w.heap.size) (hr : row ≠ some b) : BytesAt w' b bl := fun j hj => by
  have e := hg.block b hb (fun e => hr e.symm)
  rw [World.cell?_of_block e, World.frozen?_of_block e]; exact h j hj

theorem infoSign : (Try.prog.info? 54).map (fun i => (i.zero, i.size, i.bytes)) = some (some (.agg #[.int .u8 0, .bool false]), 2, 2) := by kernel_rfl

def SignsPost (s : List Sg) (w : World) (e : Ending) (w' : World) : Prop := Below w.heap.size w w' ∧ ∃ v, e = .returned v ∧ w'.ownsRow w.heap.size 54 2 v s.length (s.flatMap sgC)

theorem signs_one (sp : List Sg) : ∀ u ∈ sp.flatMap sgC, u.oneCell' = true := by
  intro u hu
  obtain ⟨s, _, hs⟩ := List.mem_flatMap.1 hu
  simp [sgC] at hs
  rcases hs with rfl | rfl <;> rfl

theorem own_ne_new {w : World} {base : Nat} {e : TypeId} {size : Nat} {v : Value} {n : Nat} {xs : List Value} (h : w.ownsRow base e size v n xs) {g : Nat} (hg : w.heap.size ≤ g) : v.ownBlock ≠ some g := fun e => by
  have := (World.ownsRow.lt h g e).2
  omega

/-- While a piece's bytes are taken up. -/
structure SigIn (w wi : World) (g h : Nat) (p : Pc) (v3 : Value) (done : List Sg) : Prop where
  own : wi.ownsRow w.heap.size 54 2 v3 done.length (done.flatMap sgC)
  bel : Below w.heap.size w wi
  box : Blk wi g 41 #[.string p.t, .bool p.q]
  byt : BytesAt wi h (L p.t)
  g0 : w.heap.size ≤ g
  h0 : w.heap.size ≤ h
  hh : h < wi.heap.size
  og : v3.ownBlock ≠ some g
  oh : v3.ownBlock ≠ some h

theorem SigIn.push {w wi w1 : World} {g h : Nat} {p : Pc} {v3 : Value} {done : List Sg} (hI : SigIn w wi g h p v3 done) (o : Obj) (s : Sg) {g' cap n : Nat} (hn : n = done.length) (hown : w1.ownsRow w.heap.size 54 2 (.slice (some ⟨g', 0, none⟩) (n + 1) cap) (n + 1) (done.flatMap sgC ++ [s].flatMap sgC))
    (hg : (wi.alloc o).grownBy w1 v3.ownBlock) (hl : v3.ownBlock = some g' ∨ g' = (wi.alloc o).heap.size) (hgw : g < wi.heap.size) : SigIn w w1 g h p (.slice (some ⟨g', 0, none⟩) (n + 1) cap) (done ++ [s]) := by
  have hh := hI.hh
  have hb := hI.bel.size
  have ho := hI.own.alloc o
  have hne : ∀ x, v3.ownBlock ≠ some x → x < wi.heap.size → (Value.slice (some ⟨g', 0, none⟩) (n + 1) cap).ownBlock ≠ some x := fun x h1 h2 e => by
    simp [Value.ownBlock] at e
    subst e
    rcases hl with hl | hl
    · exact h1 hl
    · simp at hl; omega
  have hz := hg.size
  simp at hz
  refine ⟨?_, (hI.bel.alloc (by omega) o).grown hg (by simp; omega) fun k hk => (World.ownsRow.lt hI.own k hk).1, (hI.box.alloc o).grown hg hI.og, (hI.byt.below (Below.alloc (Below.refl _ _) (Nat.le_refl _) o) hh).grown hg (by simp; omega) hI.oh, hI.g0, hI.h0, by omega, hne _ hI.og hgw, hne _ hI.oh hh⟩
  rw [List.length_append, ← hn, List.flatMap_append]
  exact hown

set_option maxHeartbeats 2000000 in
theorem signs_any (l : List Pc) (v : Value) (w : World) (hl : Sl w w.heap.size 2 v l.length (l.flatMap pcC)) (hn : (signsOf l).length ≤ 100000) :
    Calls Try.prog 21 #[v] w (SignsPost (signsOf l) w) := by
  obtain ⟨n, hnl⟩ : ∃ n, n = l.length := ⟨_, rfl⟩
  rw [← hnl] at hl
  have hnm := hl.len
  unfold maxLen at hnm
  obtain ⟨a, cap, rfl⟩ : ∃ a cap, v = .slice a n cap := by
    obtain ⟨_, a, cap, h, _⟩ := hl
    exact ⟨a, cap, h⟩
  have HL := Lib.hid hl
  have HN := Lib.hid hnl
  have HS := Lib.hid hn
  clear hl hnl hn
  go_enter Try.func21, Try.ntmps21
  go_wp2_with fail
  go_loopw [3, 10] (fun v3 i wr => ∃ k : Nat, k ≤ n ∧ i = .int .i64 k ∧ wr.ownsRow w.heap.size 54 2 v3 (signsOf (l.take k)).length ((signsOf (l.take k)).flatMap sgC) ∧ Below w.heap.size w wr) (fun _ i _ => n - (intOf i).toNat)
  case atStart => exact ⟨0, Nat.zero_le _, rfl, World.ownsRow_nil _ _ _ _, Below.refl _ _⟩
  case round =>
    obtain ⟨k, hk, rfl, hown, hb⟩ := hrel
    obtain ⟨wo, rfl⟩ : ∃ wo : World, wo = wr := ⟨_, rfl⟩
    have hsz := hb.size
    by_cases hlt : k < n
    · obtain ⟨x, hx⟩ : ∃ x, l[k]? = some x := ⟨_, List.getElem?_eq_getElem (by rw [← HN.out]; omega)⟩
      have hl1 := HL.out.below hb
      rw [HN.out] at hl1
      obtain ⟨b1, o1, i1, hb1, c1, d1⟩ := pc_at hl1 hx (k : Int) rfl
      rw [← HN.out] at i1
      have hb1' : b1 < wo.heap.size := by omega
      have hst := Lib.hid (signs_take hx)
      have hle := signs_le l (k + 1)
      have HLE := Lib.hid (Nat.le_trans hle HS.out)
      obtain ⟨t, q⟩ := x
      obtain ⟨d0, hd0⟩ : ∃ d0, d0 = signsOf (l.take k) := ⟨_, rfl⟩
      rw [← hd0] at hown hst
      have htl : t.size = (L t).length := rfl
      have hl0 := own_ne hown (g := wo.heap.size)
      have hts : t.size ≤ 100000 := by
        have h1 := HLE.out
        rw [hst.out, List.length_append, signsP, List.length_map] at h1
        simp only at h1
        omega
      have HOWN := Lib.hid hown
      have HB := Lib.hid hb
      have HX := Lib.hid hx
      clear hl1 hx hle hown hb hd0 htl hl0
      go_wp2_with fail
      go_loopw [3, 18] (fun v3 j wi => ∃ m : Nat, m ≤ t.size ∧ j = .int .i64 m ∧ SigIn w wi wo.heap.size (wo.heap.size + 1) ⟨t, q⟩ v3 (d0 ++ (signsP ⟨t, q⟩).take m)) (fun _ j _ => t.size - (intOf j).toNat)
      case atStart =>
        refine ⟨0, Nat.zero_le _, rfl, ?_⟩
        have h1 := Blk.new wo 41 #[.string t, .bool q]
        have hbw := below_bytesWorld (wo.alloc (.cells #[.string t, .bool q] 41)) 5 t
        have hby := BytesAt.made (wo.alloc (.cells #[.string t, .bool q] 41)) 5 t
        rw [show (wo.alloc (.cells #[.string t, .bool q] 41)).heap.size = wo.heap.size + 1 by simp] at hbw hby
        have hz := Lib.bytesWorld_size (wo.alloc (.cells #[.string t, .bool q] 41)) 5 t
        simp at hz
        have hba := Below.alloc (Below.refl wo.heap.size wo) (Nat.le_refl _) (.cells #[.string t, .bool q] 41)
        rw [List.take_zero, List.append_nil]
        exact ⟨own_below HOWN.out (hba.trans (hbw.mono (by omega))), HB.out.trans ((hba.trans (hbw.mono (by omega))).mono (by omega)), h1.below hbw (by omega), hby, by omega, by omega, by omega, own_ne_new HOWN.out (by omega), own_ne_new HOWN.out (by omega)⟩
      case round =>
        obtain ⟨m, hm, rfl, HI0⟩ := hrel
        obtain ⟨wi, rfl⟩ : ∃ wi : World, wi = wr := ⟨_, rfl⟩
        by_cases hm1 : m < t.size
        · have HI := Lib.hid HI0
          have hbt := (HI0.byt m hm1).1
          have hbx := HI0.box.cell 1
          simp at hbx
          have hst2 := signsP_take ⟨t, q⟩ (j := m) hm1
          simp only at hst2 hbt
          obtain ⟨bb, hbb⟩ : ∃ bb, bb = (L t).getD m 0 := ⟨_, rfl⟩
          rw [← hbb] at hst2 hbt
          have HST := Lib.hid hst2
          obtain ⟨sa, scap, rfl⟩ := own_shape HI0.own
          obtain ⟨c, hc⟩ : ∃ c, c = (d0 ++ (signsP ⟨t, q⟩).take m).length := ⟨_, rfl⟩
          have hcb : c ≤ 100000 := by
            have h1 := HLE.out
            rw [hst.out, List.length_append] at h1
            rw [hc, List.length_append, List.length_take]
            omega
          have how := HI0.own
          rw [← hc] at HI how
          have HOW := Lib.hid how
          have HC := Lib.hid hc
          have hg0 := HI0.box.lt
          have hbs := HI0.bel.size
          have hh0 := HI0.hh
          rw [← hc]
          clear HI0 hst2 hbb hc how
          go_wp2_with (at_builtin; go_must (refine append_sl rfl _ _ 51 rfl w.heap.size 54 Try.underlying51 infoSign rfl (by decide) (v := .slice sa c scap) (n := c) (xs := (d0 ++ (signsP ⟨t, q⟩).take m).flatMap sgC) rfl (HOW.out.alloc _) (m := 1) (news := [.int .u8 ((bb.toNat : Nat) : Int), .bool q]) rfl (sl_made_at wi #[.int .u8 ((bb.toNat : Nat) : Int), .bool q] _ 1 2 rfl (by unfold maxLen; omega) rfl) (by omega) (signs_one [⟨bb, q⟩]) (by omega) (by simp; omega) ?_); intro g cap1 w2 hown hgrow hlie hglt; have HP := Lib.hid (HI.out.push _ ⟨bb, q⟩ HC.out hown hgrow hlie hg0); clear hown hgrow hlie hglt)
          go_roundw
          case rel => exact ⟨m + 1, by omega, by go_num, by rw [HST.out, ← List.append_assoc]; exact HP.out⟩
          case measure => simp [intOf]; omega
        · obtain rfl : m = t.size := by omega
          go_wp2_with fail
          go_roundw
          case rel =>
            refine ⟨k + 1, by omega, by go_num, ?_, HI0.bel⟩
            have h1 := HI0.own
            rw [List.take_of_length_le (by simp [signsP, L_size])] at h1
            rw [hst.out]
            exact h1
          case measure => simp [intOf]; omega
    · obtain rfl : k = n := by omega
      go_wp2_with fail
      go_ret
      rw [List.take_of_length_le (by rw [← HN.out]; omega)] at hown
      exact ⟨hb, _, rfl, hown⟩
end Go.Proofs.Ytiacoomeakodnaa
