/-
  The document's Join: the walk.
-/
import Derived.Test.YtlehofcgkmhgaaaF16
namespace Go.Proofs.Ytlehofcgkmhgaaa
open Go.RowKit

def rjK (by_ : ByteArray) (l : List In) (k : Nat) : List Sg := (l.take k).foldl (joinR by_) []
theorem rjK_succ {by_ : ByteArray} {l : List In} {k : Nat} {x : In} (h : l[k]? = some x) : rjK by_ l (k + 1) = joinR by_ (rjK by_ l k) x := by
  obtain ⟨hk, rfl⟩ := List.getElem?_eq_some_iff.1 h
  unfold rjK
  rw [List.take_succ_eq_append_getElem hk, List.foldl_append]; rfl
theorem rjK_flat (by_ : ByteArray) (l : List In) (k : Nat) : rjK by_ l k = flat (jK by_ l k) := (fl_join by_ (l.take k) []).symm

structure RJ (w wr : World) (vn : Value) (now : List Sg) : Prop where
  res : Blk wr w.heap.size 43 #[.slice none 0 0]
  blk : Blk wr (w.heap.size + 1) 43 #[vn]
  own : wr.ownsRow (w.heap.size + 2) 68 2 vn now.length (now.flatMap sC)
  bel : Below w.heap.size w wr
theorem RJ.start (w : World) : RJ w ((w.alloc (.cells #[.slice none 0 0] 43)).alloc (.cells #[.slice none 0 0] 43)) (.slice none 0 0) [] := by
  have h1 := Blk.new (w.alloc (.cells #[.slice none 0 0] 43)) 43 #[.slice none 0 0]
  rw [show (w.alloc (.cells #[.slice none 0 0] 43)).heap.size = w.heap.size + 1 by simp] at h1
  exact ⟨(Blk.new w _ _).alloc _, h1, World.ownsRow_nil _ _ _ _, Below.alloc (Below.alloc (Below.refl _ _) (Nat.le_refl _) _) (by simp) _⟩
theorem RJ.byte {w wi w1 : World} {vn : Value} {now : List Sg} (h : RJ w wi vn now) (o : Obj) (x : Sg) {g cap n : Nat} (hn : n = now.length) {xs : List Value} (hxs : xs = now.flatMap sC)
    (hown : w1.ownsRow (w.heap.size + 2) 68 2 (.slice (some ⟨g, 0, none⟩) (n + 1) cap) (n + 1) (xs ++ sC x)) (hg : (wi.alloc o).grownBy w1 vn.ownBlock) :
    RJ w (w1.setCell ⟨w.heap.size + 1, 0, none⟩ (.slice (some ⟨g, 0, none⟩) (n + 1) cap)) (.slice (some ⟨g, 0, none⟩) (n + 1) cap) (now ++ [x]) := by
  subst hxs
  have hb := h.bel.size
  have hz := h.blk.lt
  refine ⟨((h.res.alloc o).grown hg (own_ne h.own (by omega))).far (by simp) _, ((h.blk.alloc o).grown hg (own_ne h.own (by omega))).put 0 _, own_far ?_ (by simp) _, ?_⟩
  · rw [List.length_append, ← hn, List.flatMap_append]
    simpa using hown
  · exact ((h.bel.alloc hb o).grown hg (by simp; omega) fun k hk => by have := (World.ownsRow.lt h.own k hk).1; omega).setCell (by simp) _

theorem rjoin_results {w : World} {b : Nat} {tmps : Array Value} {pv : Value} (h2 : tmps[4]?.getD undef = .pointer (some ⟨b, 0, none⟩)) (h : Blk w b 43 #[pv]) :
    (results Try.f13 tmps).run Try.prog w = .ok (.agg #[pv]) w := by
  have q0 := h.cell 0
  simp at q0
  simp [results, Try.results13, go_sem, h2, q0]

def RJoinPost (f : List Sg) (w : World) (e : Ending) (w' : World) : Prop := Below w.heap.size w w' ∧ ∃ v, e = .returned (.agg #[v]) ∧ w'.ownsRow w.heap.size 68 2 v f.length (f.flatMap sC)
set_option maxHeartbeats 4000000 in
set_option maxRecDepth 100000 in
theorem rjoin_any (by_ : ByteArray) (l : List In) (v : Value) (w : World) (hl : Sl w w.heap.size 4 v l.length (l.flatMap inC)) (h1 : szs l ≤ 500) (h2 : l.length ≤ 60) (h3 : by_.size ≤ 20) :
    Calls Try.prog 13 #[v, .string by_] w (RJoinPost (flat (joinF by_ l)) w) := by
  have hlen : ∀ k, (rjK by_ l k).length ≤ 1700 := fun k => by rw [rjK_flat, flat_len2]; exact (jK_facts by_ l h1 h2 h3 k).2
  have HLEN := Lib.hid hlen
  have hone : ∀ x ∈ l, x.t.size ≤ 500 := fun x hx => by
    have := sum_mem (·.t.size) hx
    unfold szs at h1
    omega
  obtain ⟨n, hnl⟩ : ∃ n, n = l.length := ⟨_, rfl⟩
  rw [← hnl] at hl h2
  obtain ⟨a, cap, rfl⟩ : ∃ a cap, v = .slice a n cap := by
    obtain ⟨_, a, cap, h, _⟩ := hl
    exact ⟨a, cap, h⟩
  have HL := Lib.hid hl
  have HN := Lib.hid hnl
  have HONE := Lib.hid hone
  have HS := Lib.hid (RJ.start w)
  clear hl hnl h1 hone hlen
  go_enter Try.func13, Try.ntmps13
  go_wp2_with fail
  go_loopw [6] (fun i wr => ∃ k : Nat, k ≤ n ∧ i = .int .i64 k ∧ ∃ vn, RJ w wr vn (rjK by_ l k)) (fun i _ => n - (intOf i).toNat)
  case atStart => exact ⟨0, Nat.zero_le _, rfl, _, HS.out⟩
  case round =>
    obtain ⟨k, hk, rfl, vn, hrj⟩ := hrel
    obtain ⟨wo, rfl⟩ : ∃ wo : World, wo = wr := ⟨_, rfl⟩
    by_cases hlt : k < n
    · obtain ⟨x, hx⟩ : ∃ x, l[k]? = some x := ⟨_, List.getElem?_eq_getElem (by rw [← HN.out]; omega)⟩
      have hl1 := HL.out.below hrj.bel
      rw [HN.out] at hl1
      obtain ⟨b1, o1, i1, hb1, c1, c2, c3, c4⟩ := rin_at hl1 hx (k : Int) rfl
      rw [← HN.out] at i1
      have hb1' : b1 < wo.heap.size := by have := hrj.bel.size; omega
      have hjs := rjK_succ (by_ := by_) hx
      have hxz := HONE.out x (List.mem_of_getElem? hx)
      obtain ⟨t, q, sp, bk⟩ := x
      obtain ⟨cur, hcur⟩ : ∃ c, c = rjK by_ l k := ⟨_, rfl⟩
      have hcf := HLEN.out (k + 1)
      rw [← hcur] at hrj hjs
      simp only at hxz c1 c2 c3 c4
      have HRJ := Lib.hid hrj
      clear hl1 hx hcur hrj
      cases bk with
      | true =>
        replace hjs : rjK by_ l (k + 1) = cur ++ (L by_).map (fun b => ⟨b, true⟩) := hjs
        have hcf2 : cur.length + (by_).size ≤ 1700 := by rw [hjs, List.length_append, List.length_map, L_size] at hcf; exact hcf
        have HJS := Lib.hid hjs
        clear hjs hcf
        go_wp2_with fail
        go_loopw [9] (fun jv wi => ∃ j : Nat, j ≤ (by_).size ∧ jv = .int .i64 j ∧ ∃ vn, RJ w wi vn (cur ++ ((L by_).take j).map fun b => ⟨b, true⟩)) (fun jv _ => (by_).size - (intOf jv).toNat)
        case atStart => exact ⟨0, Nat.zero_le _, rfl, _, by simpa using HRJ.out⟩
        case round =>
          obtain ⟨j, hj, rfl, vn2, hi2⟩ := hrel
          obtain ⟨wi, rfl⟩ : ∃ wi : World, wi = wr := ⟨_, rfl⟩
          by_cases hjt : j < (by_).size
          · have hidx := run_idx (P := Try.prog) Try.underlying9 by_ (k := .i64) (j : Int) j rfl hjt
            have htk := take_snoc (show j < (L by_).length from hjt)
            obtain ⟨c, hcc⟩ : ∃ c, c = (L by_).getD j 0 := ⟨_, rfl⟩
            rw [← hcc] at hidx htk
            obtain ⟨D, hD⟩ : ∃ D, D = cur ++ ((L by_).take j).map fun b => (⟨b, true⟩ : Sg) := ⟨_, rfl⟩
            have HNX : Hid (cur ++ ((L by_).take (j + 1)).map (fun b => (⟨b, true⟩ : Sg)) = D ++ [⟨c, true⟩]) := Lib.hid (by rw [htk, hD]; simp)
            rw [← hD] at hi2
            obtain ⟨m, hm⟩ : ∃ m, m = D.length := ⟨_, rfl⟩
            have hm2 : m ≤ 1700 := by rw [hm, hD, List.length_append, List.length_map, List.length_take]; omega
            obtain ⟨na, nc, rfl⟩ := own_shape hi2.own
            rw [← hm] at hi2
            have how : wi.ownsRow (w.heap.size + 2) 68 2 (.slice na m nc) m (D.flatMap sC) := by have := hi2.own; rw [← hm] at this; exact this
            have HOW := Lib.hid how
            have HI2 := Lib.hid hi2
            have HM := Lib.hid hm
            have hz1 := hi2.blk.lt
            have z0 := hi2.blk.cell 0
            have y0 := hi2.blk.free 0
            simp at z0
            clear htk hcc hD hi2 hm how
            go_wp2_with fail
            go_region_law (refine step_append_sl rfl _ _ 41 rfl (w.heap.size + 2) 68 Try.underlying41 infoS rfl (by decide) (v := .slice na m nc) (n := m) (xs := D.flatMap sC) rfl (by first | exact (own_below HOW.out (Below.drew (Below.refl _ _))).alloc _ | exact own_below (HOW.out.alloc _) (Below.drew (Below.refl _ _))) (m := 1) (news := [.int .u8 ((c.toNat : Nat) : Int), .bool true]) rfl (sl_made_at _ #[.int .u8 ((c.toNat : Nat) : Int), .bool true] _ 1 2 rfl (by unfold maxLen; omega) (by simp)) (by omega) (ss_one [⟨c, true⟩]) (by omega) (by simp; omega) ?_; intro g1 cap1 w2 hown hgrow hlie hglt; have hg2 : (wi.alloc (.cells #[.int .u8 ((c.toNat : Nat) : Int), .bool true] 68)).grownBy w2 (Value.slice na m nc).ownBlock := ⟨hgrow.os, hgrow.tape, hgrow.output, hgrow.size, hgrow.block⟩; obtain ⟨_, hcc, hff⟩ := grown_stays (Below.refl (w.heap.size + 1) wi) hz1 hg2 (fun p hp => by have := (World.ownsRow.lt HOW.out p hp).1; omega); have HP := Lib.hid (HI2.out.byte _ ⟨c, true⟩ HM.out rfl hown hg2); have k0 := (hcc 0).trans (HI2.out.blk.cell 0); have y1 := (hff 0).trans (HI2.out.blk.free 0); simp at k0; clear hg2 hcc hff hown hgrow hlie hglt)
            all_goals
              go_wp2
              go_roundw
              case rel => exact ⟨j + 1, by omega, by go_num, _, by rw [HNX.out]; exact HP.out⟩
              case measure => simp [intOf]; omega
          · have hjt2 : (L by_).take j = L by_ := List.take_of_length_le (by rw [L_size]; omega)
            rw [hjt2] at hi2
            have HI2 := Lib.hid hi2
            clear hi2 hjt2
            go_wp2_with fail
            go_roundw
            case rel => exact ⟨k + 1, by omega, by go_num, _, by rw [HJS.out]; exact HI2.out⟩
            case measure => simp [intOf]; omega
      | false =>
        replace hjs : rjK by_ l (k + 1) = cur ++ (L t).map (fun b => ⟨b, q⟩) := hjs
        have hcf2 : cur.length + (t).size ≤ 1700 := by rw [hjs, List.length_append, List.length_map, L_size] at hcf; exact hcf
        have HJS := Lib.hid hjs
        clear hjs hcf
        go_wp2_with fail
        go_loopw [9] (fun jv wi => ∃ j : Nat, j ≤ (t).size ∧ jv = .int .i64 j ∧ ∃ vn, RJ w wi vn (cur ++ ((L t).take j).map fun b => ⟨b, q⟩)) (fun jv _ => (t).size - (intOf jv).toNat)
        case atStart => exact ⟨0, Nat.zero_le _, rfl, _, by simpa using HRJ.out⟩
        case round =>
          obtain ⟨j, hj, rfl, vn2, hi2⟩ := hrel
          obtain ⟨wi, rfl⟩ : ∃ wi : World, wi = wr := ⟨_, rfl⟩
          by_cases hjt : j < (t).size
          · have hidx := run_idx (P := Try.prog) Try.underlying9 t (k := .i64) (j : Int) j rfl hjt
            have htk := take_snoc (show j < (L t).length from hjt)
            obtain ⟨c, hcc⟩ : ∃ c, c = (L t).getD j 0 := ⟨_, rfl⟩
            rw [← hcc] at hidx htk
            obtain ⟨D, hD⟩ : ∃ D, D = cur ++ ((L t).take j).map fun b => (⟨b, q⟩ : Sg) := ⟨_, rfl⟩
            have HNX : Hid (cur ++ ((L t).take (j + 1)).map (fun b => (⟨b, q⟩ : Sg)) = D ++ [⟨c, q⟩]) := Lib.hid (by rw [htk, hD]; simp)
            rw [← hD] at hi2
            obtain ⟨m, hm⟩ : ∃ m, m = D.length := ⟨_, rfl⟩
            have hm2 : m ≤ 1700 := by rw [hm, hD, List.length_append, List.length_map, List.length_take]; omega
            obtain ⟨na, nc, rfl⟩ := own_shape hi2.own
            rw [← hm] at hi2
            have how : wi.ownsRow (w.heap.size + 2) 68 2 (.slice na m nc) m (D.flatMap sC) := by have := hi2.own; rw [← hm] at this; exact this
            have HOW := Lib.hid how
            have HI2 := Lib.hid hi2
            have HM := Lib.hid hm
            have hz1 := hi2.blk.lt
            have z0 := hi2.blk.cell 0
            have y0 := hi2.blk.free 0
            simp at z0
            clear htk hcc hD hi2 hm how
            go_wp2_with fail
            go_region_law (refine step_append_sl rfl _ _ 41 rfl (w.heap.size + 2) 68 Try.underlying41 infoS rfl (by decide) (v := .slice na m nc) (n := m) (xs := D.flatMap sC) rfl (by first | exact (own_below HOW.out (Below.drew (Below.refl _ _))).alloc _ | exact own_below (HOW.out.alloc _) (Below.drew (Below.refl _ _))) (m := 1) (news := [.int .u8 ((c.toNat : Nat) : Int), .bool q]) rfl (sl_made_at _ #[.int .u8 ((c.toNat : Nat) : Int), .bool q] _ 1 2 rfl (by unfold maxLen; omega) (by simp)) (by omega) (ss_one [⟨c, q⟩]) (by omega) (by simp; omega) ?_; intro g1 cap1 w2 hown hgrow hlie hglt; have hg2 : (wi.alloc (.cells #[.int .u8 ((c.toNat : Nat) : Int), .bool q] 68)).grownBy w2 (Value.slice na m nc).ownBlock := ⟨hgrow.os, hgrow.tape, hgrow.output, hgrow.size, hgrow.block⟩; obtain ⟨_, hcc, hff⟩ := grown_stays (Below.refl (w.heap.size + 1) wi) hz1 hg2 (fun p hp => by have := (World.ownsRow.lt HOW.out p hp).1; omega); have HP := Lib.hid (HI2.out.byte _ ⟨c, q⟩ HM.out rfl hown hg2); have k0 := (hcc 0).trans (HI2.out.blk.cell 0); have y1 := (hff 0).trans (HI2.out.blk.free 0); simp at k0; clear hg2 hcc hff hown hgrow hlie hglt)
            all_goals
              go_wp2
              go_roundw
              case rel => exact ⟨j + 1, by omega, by go_num, _, by rw [HNX.out]; exact HP.out⟩
              case measure => simp [intOf]; omega
          · have hjt2 : (L t).take j = L t := List.take_of_length_le (by rw [L_size]; omega)
            rw [hjt2] at hi2
            have HI2 := Lib.hid hi2
            clear hi2 hjt2
            go_wp2_with fail
            go_roundw
            case rel => exact ⟨k + 1, by omega, by go_num, _, by rw [HJS.out]; exact HI2.out⟩
            case measure => simp [intOf]; omega
    · obtain rfl : k = n := by omega
      have e : rjK by_ l k = flat (joinF by_ l) := by rw [rjK_flat]; unfold jK joinF; rw [List.take_of_length_le (by rw [← HN.out]; omega)]
      rw [e] at hrj
      obtain ⟨na, nc, rfl⟩ := own_shape hrj.own
      have z1 := hrj.blk.cell 0
      have z2 := hrj.res.cell 0
      have y1 := hrj.res.free 0
      simp at z1 z2
      have hz1 := hrj.blk.lt
      have HRJ := Lib.hid hrj
      clear hrj e
      go_wp2_with fail
      refine bodyPost_ret (rjoin_results rfl (HRJ.out.res.put 0 _)) rfl ⟨HRJ.out.bel.setCell (p := ⟨w.heap.size, 0, none⟩) (Nat.le_refl _) _, _, rfl, ?_⟩
      exact own_from (own_far HRJ.out.own (by simp) _) (by omega)
end Go.Proofs.Ytlehofcgkmhgaaa
