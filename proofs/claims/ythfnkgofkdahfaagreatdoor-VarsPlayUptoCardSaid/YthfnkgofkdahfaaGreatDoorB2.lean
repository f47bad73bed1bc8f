/-
  The environment's sort: a permutation, by rising names. The closure's walk.
-/
import Derived.Test.YthfnkgofkdahfaaGreatDoorB1
import Derived.Test.YthfnkgofkdahfaaGreatDoorBytes
import Derived.Test.YthfnkgofkdahfaaGreatDoorSort
import Derived.Shelf.SlSortCmp.NoneTotal
namespace Go.Proofs.YthfnkgofkdahfaaGreatDoor
open Go.RowKit

theorem cut_call (s : ByteArray) (w : World) (m : Int) (hs : s.size < 4294967281) (hm : w.cell? ⟨0, 0, none⟩ = some (.int .i64 m)) :
    Calls Tryz.prog 13 #[.string s, .string ⟨#[61]⟩] w fun e w' => e = .returned (.tuple #[.string ⟨(Lib.cut (L s) [61]).1.toArray⟩, .string ⟨(Lib.cut (L s) [61]).2.1.toArray⟩, .bool (Lib.cut (L s) [61]).2.2]) ∧ ∃ n, w' = w.drewN n :=
  Tryz.strings_Cut s ⟨#[61]⟩ m w hs hm

theorem cmp_any (a b : ByteArray) (w : World) (m : Int) (ha : a.size < 4294967281) (hb : b.size < 4294967281) (hm : w.cell? ⟨0, 0, none⟩ = some (.int .i64 m)) :
    Calls Tryz.prog 51 #[.string a, .string b] w fun e w' => e = .returned (.int .i64 (cfE (L a) (L b))) ∧ ∃ q, w' = w.drewN q := by
  have C1 := Lib.hid (cut_call a w m ha hm)
  have C2 := Lib.hid fun n => cut_call b (w.drewN n) m hb hm
  have HR : Hid (cfE (L a) (L b) = Lib.compareBytes (Lib.cut (L a) [61]).1 (Lib.cut (L b) [61]).1) := Lib.hid rfl
  obtain ⟨r, hr⟩ : ∃ r, cfE (L a) (L b) = r := ⟨_, rfl⟩
  rw [hr] at HR ⊢
  obtain ⟨xa, hxa⟩ : ∃ x, (Lib.cut (L a) [61]).1 = x := ⟨_, rfl⟩
  obtain ⟨ya, hya⟩ : ∃ x, (Lib.cut (L a) [61]).2.1 = x := ⟨_, rfl⟩
  obtain ⟨za, hza⟩ : ∃ x, (Lib.cut (L a) [61]).2.2 = x := ⟨_, rfl⟩
  obtain ⟨xb, hxb⟩ : ∃ x, (Lib.cut (L b) [61]).1 = x := ⟨_, rfl⟩
  obtain ⟨yb, hyb⟩ : ∃ x, (Lib.cut (L b) [61]).2.1 = x := ⟨_, rfl⟩
  obtain ⟨zb, hzb⟩ : ∃ x, (Lib.cut (L b) [61]).2.2 = x := ⟨_, rfl⟩
  rw [hxa, hya, hza] at C1
  simp only [hxb, hyb, hzb] at C2
  rw [hxa, hxb] at HR
  clear hr hxa hya hza hxb hyb hzb
  have C3 : Hid (∀ W, Calls Tryz.prog 52 #[.string ⟨xa.toArray⟩, .string ⟨xb.toArray⟩] W fun e w' => e = .returned (.int .i64 r) ∧ w' = W) := Lib.hid fun W => by
    rw [HR.out]
    exact Tryz.strings_Compare ⟨xa.toArray⟩ ⟨xb.toArray⟩ W
  go_enter Tryz.func51, Tryz.ntmps51
  go_wp2_with fail
  refine C1.out.mono ?_
  rintro e w1 ⟨rfl, n1, rfl⟩
  have C2n := Lib.hid (C2.out n1)
  go_wp2_with fail
  refine C2n.out.mono ?_
  rintro e w2 ⟨rfl, n2, rfl⟩
  go_wp2_with fail
  refine (C3.out _).mono ?_
  rintro e w3 ⟨rfl, rfl⟩
  go_wp2_with fail
  go_ret
  exact ⟨rfl, n1 + n2, rfl⟩

/-- A text that a cut serves. -/
abbrev Sh := { s : ByteArray // s.size ≤ 4294967280 }
instance : Inhabited Sh := ⟨⟨⟨#[]⟩, Nat.zero_le _⟩⟩
def encS (x : Sh) : Value := .string x.1
def cfS (x y : Sh) : Int := cfE (L x.1) (L y.1)
theorem swo_cf : Go.Sort.SWO (ltOf cfS) where
  irrefl x := by
    show decide (cfE _ _ < 0) = false
    rw [decide_eq_false_iff_not, cfE, cmp_lt]
    exact nm_irrefl _
  trans x y z h1 h2 := by
    change decide (cfE _ _ < 0) = true at h1
    change decide (cfE _ _ < 0) = true at h2
    show decide (cfE _ _ < 0) = true
    rw [decide_eq_true_iff, cfE, cmp_lt] at *
    exact nm_trans h1 h2
  ntrans x y z h1 h2 := by
    change decide (cfE _ _ < 0) = false at h1
    change decide (cfE _ _ < 0) = false at h2
    show decide (cfE _ _ < 0) = false
    rw [decide_eq_false_iff_not, cfE, cmp_lt] at *
    intro h3
    rcases nm_tri (Lib.cut (L x.1) [61]).1 (Lib.cut (L y.1) [61]).1 with h | h | h
    · exact h1 h
    · rw [h] at h3; exact h2 h3
    · exact h2 (nm_trans h h3)

theorem heap_sort (w : World) (b : Nat) (cur : Array Value) (e : TypeId) (hb : w.heap[b]? = some (.cells cur e (0, 0))) (n : Nat) (d : Array Sh) (os : Array Obj) :
    (∀ k, k < w.heap.size → k ≠ b → (sortWorld encS w b 0 n d os).heap[k]? = w.heap[k]?) ∧ (sortWorld encS w b 0 n d os).heap[b]? = some (.cells (Go.Sort.putCells encS 0 d cur) e (0, 0)) ∧ w.heap.size ≤ (sortWorld encS w b 0 n d os).heap.size := by
  have hlt : b < w.heap.size := (Array.getElem?_eq_some_iff.1 hb).1
  have hsz : (Go.Sort.putRow encS (Go.Sort.ahead w n) b 0 d).heap.size = w.heap.size := by simp [Go.Sort.putRow, Go.Sort.mapBlock, Go.Sort.ahead]
  have hk : ∀ k, k < w.heap.size → (sortWorld encS w b 0 n d os).heap[k]? = (Go.Sort.putRow encS (Go.Sort.ahead w n) b 0 d).heap[k]? := fun k h => Go.Sort.heap_grow_old _ os (by rw [hsz]; exact h)
  refine ⟨fun k h hne => ?_, ?_, ?_⟩
  · rw [hk k h]
    simp only [Go.Sort.putRow, Go.Sort.mapBlock, Go.Sort.ahead, Array.getElem?_modify, if_neg (Ne.symm hne)]
  · rw [hk b hlt]
    simp only [Go.Sort.putRow, Go.Sort.mapBlock, Go.Sort.ahead, Array.getElem?_modify, if_true, hb, Option.map_some, Go.Sort.onCells]
  · show _ ≤ (Go.Sort.grow _ os).heap.size
    simp only [Go.Sort.grow, Array.size_append, hsz]
    omega

theorem attach_list : ∀ ds : List ByteArray, (∀ s ∈ ds, s.size ≤ 4294967280) → ∃ d : List Sh, d.map (fun x => x.1) = ds
  | [], _ => ⟨[], rfl⟩
  | s :: ds, h => by
    obtain ⟨d, hd⟩ := attach_list ds fun t ht => h t (by simp [ht])
    exact ⟨⟨s, h s (by simp)⟩ :: d, by rw [List.map_cons, hd]⟩

/-- The sort of the environment's entries. -/
theorem sort_call (v : Value) (ds : List ByteArray) (w : World) (lo : Nat) (m : Int) (h : OwnS w lo v ds) (hlo : 0 < lo) (hz : ∀ s ∈ ds, s.size ≤ 4294967280) (hl : ds.length ≤ 1000000) (hm : w.cell? ⟨0, 0, none⟩ = some (.int .i64 m)) :
    Calls Tryz.prog 50 #[v, .func (.func 51) #[] #[]] w fun e w' => e = .returned (.tuple #[]) ∧ ∃ d', d'.Perm ds ∧ (d'.Pairwise fun a b => ¬ cfE (L b) (L a) < 0) ∧ OwnS w' lo v d' ∧ Below lo w w' ∧ (∀ k, k < w.heap.size → v.ownBlock ≠ some k → w'.heap[k]? = w.heap[k]?) := by
  obtain ⟨d, hd⟩ := attach_list ds hz
  have hdl : d.length = ds.length := by rw [← hd, List.length_map]
  by_cases h0 : ds.length = 0
  · obtain rfl : ds = [] := List.length_eq_zero_iff.1 h0
    have hv : ∃ p c, v = .slice p 0 c := own_shape h
    obtain ⟨p, c, rfl⟩ := hv
    have hc := AnyF.slices_SortFunc_none (P := Tryz.prog) (ρ := Tryz.sortS_ren) { Tryz.sortS with } p c (.func (.func 51) #[] #[]) w
    change Calls Tryz.prog 50 _ _ _ at hc
    exact hc.mono fun e w' ⟨h1, h2⟩ => ⟨h1, [], List.Perm.refl _, List.Pairwise.nil, by rw [h2]; exact h, by rw [h2]; exact Below.refl _ _, fun k _ _ => by rw [h2]⟩
  · obtain ⟨hx, h2⟩ := h
    rcases h2 with ⟨_, h3⟩ | ⟨g, cap, cur, rfl, hg, hb, hnc, hcm, hcs, hct⟩
    · exact absurd h3 h0
    · have hglt : g < w.heap.size := (Array.getElem?_eq_some_iff.1 hb).1
      have hcell : ∀ j, j < ds.length → cur[j]? = some (.string (ds.getD j ⟨#[]⟩)) := fun j hj => by
        have e1 : (cur.toList.take (ds.length * 1))[j]? = (ds.map Value.string)[j]? := by rw [hct]
        rw [List.getElem?_take, if_pos (by omega), List.getElem?_map, List.getElem?_eq_getElem hj, Option.map_some] at e1
        rw [← Array.getElem?_toList, e1, List.getD_eq_getElem?_getD, List.getElem?_eq_getElem hj]
        rfl
      have hdj : ∀ j, j < ds.length → d.toArray[j]!.1 = ds.getD j ⟨#[]⟩ := fun j hj => by
        rw [getElem!_pos d.toArray j (by simpa [hdl] using hj)]
        have : (d.map fun x => x.1)[j]? = ds[j]? := by rw [hd]
        rw [List.getElem?_map, List.getElem?_eq_getElem (by omega), List.getElem?_eq_getElem hj, Option.map_some, Option.some.injEq] at this
        rw [List.getD_eq_getElem?_getD, List.getElem?_eq_getElem hj]
        simpa using this
      have hH : Go.Sort.Holds encS w g 0 d.toArray := fun j hj => by
        have hj' : j < ds.length := by simpa [hdl] using hj
        refine ⟨?_, ?_⟩
        · have hq := (hdj j hj').symm
          simp at hq
          simp [World.cell?, hb, hcell j hj', encS, hq]
        · simp [World.frozen?, hb]
      have eg : ∀ args w, (callFunc 51 args).run Tryz.prog w = .ok (.enter 51 args) w := enters_of Tryz.func51 (by kernel_rfl) rfl
      have hcmp : CmpLays1 Tryz.prog 51 #[] encS cfS g 0 d.toArray.size w := fun n os dk _ x y => by
        have hs := heap_sort w g cur _ hb n dk os
        have hm' : (sortWorld encS w g 0 n dk os).cell? ⟨0, 0, none⟩ = some (.int .i64 m) := by
          rw [← hm]
          exact World.cell?_of_block (hs.1 0 (by omega) (by omega))
        refine (cmp_any x.1 y.1 _ m (by have := x.2; omega) (by have := y.2; omega) hm').mono fun e w' ⟨h1, q, h2⟩ => ⟨h1, q, #[], ?_⟩
        rw [h2, Go.Sort.grow_empty]
      have hc := Any.slices_SortFunc Tryz.sortS encS (fun _ => rfl) cfS swo_cf 51 #[] g 0 cap d.toArray w eg hcmp hH hglt (by simp; omega)
      change Calls Tryz.prog 50 _ _ _ at hc
      have hsize : d.toArray.size = ds.length := by simp [hdl]
      rw [hsize] at hc
      refine hc.mono fun e w' ⟨h1, d', n, os, hp, hs, hw⟩ => ?_
      subst hw
      obtain ⟨k1, k2, k3⟩ := heap_sort w g cur _ hb n d' os
      obtain ⟨p1, _, p3⟩ := hp
      have hz' : d'.size = ds.length := by rw [p1, hsize]
      rw [← hsize] at p3
      rw [Array.extract_size, show d.toArray.size = d'.size by rw [p1], Array.extract_size] at p3
      refine ⟨h1, d'.toList.map fun x => x.1, ?_, ?_, ⟨by simp [hz'], .inr ⟨g, cap, Go.Sort.putCells encS 0 d' cur, ?_, hg, k2, ?_, hcm, ?_, ?_⟩⟩, ⟨rfl, rfl, rfl, k3, fun k hk => k1 k (by omega) (by omega)⟩, fun k hk hne => k1 k hk fun e => hne (by rw [e]; rfl)⟩
      · have := p3.map fun x : Sh => x.1
        rwa [List.toList_toArray, hd] at this
      · rw [List.pairwise_map, List.pairwise_iff_getElem]
        intro i j hi hj hij
        have hq := hs i j (Nat.zero_le _) hij (by rw [← hz']; simpa using hj)
        have hq' : ¬ cfS d'[j]! d'[i]! < 0 := by simpa [ltOf] using hq
        rw [getElem!_pos d' j (by simpa using hj), getElem!_pos d' i (by simpa using hi)] at hq'
        simpa [cfS] using hq'
      · simp [hz']
      · simp [hz']; exact hnc
      · simp [Go.Sort.putCells, hcs]
      · apply List.ext_getElem?
        intro j
        simp only [List.length_map, Array.length_toList, hz', List.getElem?_take, Nat.mul_one]
        by_cases hj : j < ds.length
        · rw [if_pos hj, Array.getElem?_toList]
          have hjc : j < cur.size := by omega
          have hjd : j < d'.size := by omega
          simp only [Go.Sort.putCells, Array.getElem?_mapIdx, Array.getElem?_eq_getElem hjc, Option.map_some, List.getElem?_map, Array.getElem?_toList, Array.getElem?_eq_getElem hjd]
          rw [if_pos (by omega), getElem!_pos d' (j - 0) (by omega)]
          rfl
        · rw [if_neg hj, List.getElem?_eq_none (by simp; omega)]
end Go.Proofs.YthfnkgofkdahfaaGreatDoor
