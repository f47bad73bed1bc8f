/-
  The writer: what it holds; writing a string or a byte to it.
-/
import Derived.Test.YtnackmnoldkihaaDoorQB6
import Derived.Test.YtnackmnoldkihaaDoorQB4
import Derived.Test.YtnackmnoldkihaaDoorQB5
import Derived.Shelf.Strings.BuilderK
import Derived.Lib.OthersKept
import Derived.Laws.Externs
import Derived.Defers
/-
  The walk of compound.
-/
namespace Go.Proofs.YtnackmnoldkihaaDoor
open Go.RowKit

set_option maxHeartbeats 2000000 in
set_option maxRecDepth 100000 in
theorem compound_any (wd : List Pt → Bool) (ls : List Nd → Bool) (m : Int) (hwd : WordAt m wd) (hls : ListAt m ls) (x : Nd) (w : World) (d : Nat) (c : List Value) (hv : Held w) (hp : NdC w w.heap.size d x c) :
    Calls Tryd.prog 21 #[.agg #[.int .i64 m], .agg c.toArray] w fun e w' => e = .returned (.bool (compoundB wd ls x)) ∧ Below w.heap.size w w' := by
  have HP := Lib.hid hp
  obtain ⟨a1, c1, a2, c2, a3, c3, a4, c4, a5, c5, rfl, hxz, ⟨hn1, hn2, hn3, hn4, hn5⟩, _⟩ := hp.open
  obtain ⟨n1, hl1⟩ : ∃ n, x.assigns.length = n := ⟨_, rfl⟩
  obtain ⟨n2, hl2⟩ : ∃ n, x.words.length = n := ⟨_, rfl⟩
  obtain ⟨n3, hl3⟩ : ∃ n, x.redirs.length = n := ⟨_, rfl⟩
  obtain ⟨n4, hl4⟩ : ∃ n, x.lists.length = n := ⟨_, rfl⟩
  obtain ⟨n5, hl5⟩ : ∃ n, x.arms.length = n := ⟨_, rfl⟩
  rw [hl1] at hn1
  rw [hl2] at hn2
  rw [hl3] at hn3
  rw [hl4] at hn4
  rw [hl5] at hn5
  rw [hl1, hl2, hl3, hl4, hl5] at HP ⊢
  have CB := Lib.hid fun W hW => bare_nd x W d _ (HP.out.later (w' := W) hW)
  have CL : Hid (∀ (q : Nat) W, q ≤ 3 → Below w.heap.size w W → Calls Tryd.prog 38 #[.agg #[.int .i64 m], .agg #[.int .i64 x.kind, .string x.name, .slice a1 n1 c1, .slice a2 n2 c2, .slice a3 n3 c3, .slice a4 n4 c4, .slice a5 n5 c5], .int .i64 (q : Int)] W fun e w' => e = .returned (.bool (listsB ls x q)) ∧ Below W.heap.size W w') :=
    Lib.hid fun q W hq hW => lists_any ls m hls x q (by omega) W d _ (hv.below hv.2 hW) (HP.out.later hW)
  have L0 : Hid (∀ W, Below w.heap.size w W → Calls Tryd.prog 38 #[.agg #[.int .i64 m], .agg #[.int .i64 x.kind, .string x.name, .slice a1 n1 c1, .slice a2 n2 c2, .slice a3 n3 c3, .slice a4 n4 c4, .slice a5 n5 c5], .int .i64 0] W fun e w' => e = .returned (.bool (listsB ls x 0)) ∧ Below W.heap.size W w') := Lib.hid fun W hW => CL.out 0 W (by omega) hW
  have L1 : Hid (∀ W, Below w.heap.size w W → Calls Tryd.prog 38 #[.agg #[.int .i64 m], .agg #[.int .i64 x.kind, .string x.name, .slice a1 n1 c1, .slice a2 n2 c2, .slice a3 n3 c3, .slice a4 n4 c4, .slice a5 n5 c5], .int .i64 1] W fun e w' => e = .returned (.bool (listsB ls x 1)) ∧ Below W.heap.size W w') := Lib.hid fun W hW => CL.out 1 W (by omega) hW
  have L2 : Hid (∀ W, Below w.heap.size w W → Calls Tryd.prog 38 #[.agg #[.int .i64 m], .agg #[.int .i64 x.kind, .string x.name, .slice a1 n1 c1, .slice a2 n2 c2, .slice a3 n3 c3, .slice a4 n4 c4, .slice a5 n5 c5], .int .i64 2] W fun e w' => e = .returned (.bool (listsB ls x 2)) ∧ Below W.heap.size W w') := Lib.hid fun W hW => CL.out 2 W (by omega) hW
  have L3 : Hid (∀ W, Below w.heap.size w W → Calls Tryd.prog 38 #[.agg #[.int .i64 m], .agg #[.int .i64 x.kind, .string x.name, .slice a1 n1 c1, .slice a2 n2 c2, .slice a3 n3 c3, .slice a4 n4 c4, .slice a5 n5 c5], .int .i64 3] W fun e w' => e = .returned (.bool (listsB ls x 3)) ∧ Below W.heap.size W w') := Lib.hid fun W hW => CL.out 3 W (by omega) hW
  have CA : Hid (∀ W, Below w.heap.size w W → Calls Tryd.prog 39 #[.agg #[.int .i64 m], .agg #[.int .i64 x.kind, .string x.name, .slice a1 n1 c1, .slice a2 n2 c2, .slice a3 n3 c3, .slice a4 n4 c4, .slice a5 n5 c5]] W fun e w' => e = .returned (.bool (x.arms.all (armB wd ls))) ∧ Below W.heap.size W w') :=
    Lib.hid fun W hW => arms_any wd ls m hwd hls x W d _ (hv.below hv.2 hW) (HP.out.later hW)
  have CF : Hid (∀ W, Below w.heap.size w W → Calls Tryd.prog 34 #[.agg #[.int .i64 m], .agg #[.int .i64 x.kind, .string x.name, .slice a1 n1 c1, .slice a2 n2 c2, .slice a3 n3 c3, .slice a4 n4 c4, .slice a5 n5 c5], .int .i64 1, .func (.func 40) #[] #[]] W fun e w' => e = .returned (.bool (aloneB ls x 1 mayFunc)) ∧ Below W.heap.size W w') :=
    Lib.hid fun W hW => alone_any _ (fun _ _ => by kernel_rfl) mayFunc (fun i k W => may_func i k W) ls m hls x 1 (by omega) W d _ (hv.below hv.2 hW) (HP.out.later hW)
  have CN : Hid (∀ W, Below w.heap.size w W → Calls Tryd.prog 31 #[.string x.name] W fun e w' => e = .returned (.bool (nameL (L x.name))) ∧ Below W.heap.size W w') := Lib.hid fun W _ => name_any x.name W (by unfold maxLen; omega)
  have CR : Hid (∀ W, Calls Tryd.prog 41 #[.string x.name] W fun e w' => e = .returned (.bool (oneB reservedWs (L x.name))) ∧ W = w') := Lib.hid fun W => reserved_any x.name W
  have BX := Lib.hid (Bx.start w 41 #[.int .i64 m] 37 #[.int .i64 x.kind, .string x.name, .slice a1 n1 c1, .slice a2 n2 c2, .slice a3 n3 c3, .slice a4 n4 c4, .slice a5 n5 c5])
  obtain ⟨r, hr⟩ : ∃ r, compoundB wd ls x = r := ⟨_, rfl⟩
  rw [hr]
  rw [compoundB, hl2, hl4, nil_of hl1, nil_of hl2, nil_of hl3, nil_of hl5] at hr
  obtain ⟨bb, hbb⟩ : ∃ b, bareN x = b := ⟨_, rfl⟩
  obtain ⟨l0, h0⟩ : ∃ r, listsB ls x 0 = r := ⟨_, rfl⟩
  obtain ⟨l1, h1⟩ : ∃ r, listsB ls x 1 = r := ⟨_, rfl⟩
  obtain ⟨l2, h2⟩ : ∃ r, listsB ls x 2 = r := ⟨_, rfl⟩
  obtain ⟨l3, h3⟩ : ∃ r, listsB ls x 3 = r := ⟨_, rfl⟩
  obtain ⟨ar, har⟩ : ∃ r, x.arms.all (armB wd ls) = r := ⟨_, rfl⟩
  obtain ⟨al, hal⟩ : ∃ r, aloneB ls x 1 mayFunc = r := ⟨_, rfl⟩
  obtain ⟨nm, hnm⟩ : ∃ r, nameL (L x.name) = r := ⟨_, rfl⟩
  obtain ⟨rs, hrs⟩ : ∃ r, oneB reservedWs (L x.name) = r := ⟨_, rfl⟩
  rw [hbb, h0, h1, h2, h3, har, hal, hnm, hrs] at hr
  rw [hbb] at CB
  rw [h0] at L0
  rw [h1] at L1
  rw [h2] at L2
  rw [h3] at L3
  rw [har] at CA
  rw [hal] at CF
  rw [hnm] at CN
  rw [hrs] at CR
  have HR := Lib.hid hr
  obtain ⟨xk, hxk⟩ : ∃ k, x.kind = k := ⟨_, rfl⟩
  rw [hxk] at HR BX HP CB L0 L1 L2 L3 CA CF ⊢
  clear hp hbb h0 h1 h2 h3 har hal hnm hrs hl1 hl2 hl3 hl4 hl5 hr CL hxk
  cases k6 : (xk == 6) with
  | true =>
    have HE : Hid (r = (bb && (l2 || l3))) := Lib.hid (by rw [← HR.out, k6]; rfl)
    go_enter Tryd.func21, Tryd.ntmps21
    go_wp2_with fail
    refine (CB.out _ (by repeat' (first | (with_reducible assumption) | (with_reducible exact Below.refl _ _) | (with_reducible refine below_drewN ?_ _) | (with_reducible refine below_bytes ?_ ?_ _) | (with_reducible refine Below.alloc ?_ ?_ _) | (with_reducible refine Below.drew ?_) | (with_reducible refine Below.setCell ?_ ?_ _) | go_size))).mono ?_
    rintro e w1 ⟨rfl, hb0⟩
    obtain ⟨hcw1, hfw1⟩ := bcell hb0
    have hzw1 := hb0.size
    try simp only [World.size_alloc, World.size_setCell, World.size_drew, size_drewN] at hzw1
    have hBw1 : Below w.heap.size w w1 := since hb0 (by repeat' (first | (with_reducible assumption) | (with_reducible exact Below.refl _ _) | (with_reducible refine below_drewN ?_ _) | (with_reducible refine below_bytes ?_ ?_ _) | (with_reducible refine Below.alloc ?_ ?_ _) | (with_reducible refine Below.drew ?_) | (with_reducible refine Below.setCell ?_ ?_ _) | go_size))
    have BXw1 := Lib.hid (Bx.later BX.out (since hb0 (by repeat' (first | (with_reducible assumption) | (with_reducible exact Below.refl _ _) | (with_reducible refine below_drewN ?_ _) | (with_reducible refine below_bytes ?_ ?_ _) | (with_reducible refine Below.alloc ?_ ?_ _) | (with_reducible refine Below.drew ?_) | (with_reducible refine Below.setCell ?_ ?_ _) | go_size))))
    clear hb0
    have K0BXw1 := Lib.hid BXw1.out.b0
    have K1BXw1 := Lib.hid BXw1.out.b1
    have hBBXw1 := BXw1.out.hb
    have b0 := K0BXw1.out.cell 0
    have bf := K0BXw1.out.free 0
    have bl := K0BXw1.out.lt
    simp at b0
    have p0 := K1BXw1.out.cell 0
    have p1 := K1BXw1.out.cell 1
    have p2 := K1BXw1.out.cell 2
    have p3 := K1BXw1.out.cell 3
    have p4 := K1BXw1.out.cell 4
    have p5 := K1BXw1.out.cell 5
    have p6 := K1BXw1.out.cell 6
    have pl := K1BXw1.out.lt
    simp at p0 p1 p2 p3 p4 p5 p6
    cases bb with
    | false =>
      go_wp2_with fail
      go_ret
      exact ⟨ret_bool (by rw [HE.out]; rfl), (by repeat' (first | (with_reducible assumption) | (with_reducible exact Below.refl _ _) | (with_reducible refine below_drewN ?_ _) | (with_reducible refine below_bytes ?_ ?_ _) | (with_reducible refine Below.alloc ?_ ?_ _) | (with_reducible refine Below.drew ?_) | (with_reducible refine Below.setCell ?_ ?_ _) | go_size))⟩
    | true =>
      go_wp2_with fail
      refine (L2.out _ (by repeat' (first | (with_reducible assumption) | (with_reducible exact Below.refl _ _) | (with_reducible refine below_drewN ?_ _) | (with_reducible refine below_bytes ?_ ?_ _) | (with_reducible refine Below.alloc ?_ ?_ _) | (with_reducible refine Below.drew ?_) | (with_reducible refine Below.setCell ?_ ?_ _) | go_size))).mono ?_
      rintro e w2 ⟨rfl, hb0⟩
      obtain ⟨hcw2, hfw2⟩ := bcell hb0
      have hzw2 := hb0.size
      try simp only [World.size_alloc, World.size_setCell, World.size_drew, size_drewN] at hzw2
      have hBw2 : Below w.heap.size w w2 := since hb0 (by repeat' (first | (with_reducible assumption) | (with_reducible exact Below.refl _ _) | (with_reducible refine below_drewN ?_ _) | (with_reducible refine below_bytes ?_ ?_ _) | (with_reducible refine Below.alloc ?_ ?_ _) | (with_reducible refine Below.drew ?_) | (with_reducible refine Below.setCell ?_ ?_ _) | go_size))
      have BXw2 := Lib.hid (Bx.later BXw1.out (since hb0 (by repeat' (first | (with_reducible assumption) | (with_reducible exact Below.refl _ _) | (with_reducible refine below_drewN ?_ _) | (with_reducible refine below_bytes ?_ ?_ _) | (with_reducible refine Below.alloc ?_ ?_ _) | (with_reducible refine Below.drew ?_) | (with_reducible refine Below.setCell ?_ ?_ _) | go_size))))
      clear hb0
      clear b0 bf bl p0 p1 p2 p3 p4 p5 p6 pl
      have K0BXw2 := Lib.hid BXw2.out.b0
      have K1BXw2 := Lib.hid BXw2.out.b1
      have hBBXw2 := BXw2.out.hb
      have b0 := K0BXw2.out.cell 0
      have bf := K0BXw2.out.free 0
      have bl := K0BXw2.out.lt
      simp at b0
      have p0 := K1BXw2.out.cell 0
      have p1 := K1BXw2.out.cell 1
      have p2 := K1BXw2.out.cell 2
      have p3 := K1BXw2.out.cell 3
      have p4 := K1BXw2.out.cell 4
      have p5 := K1BXw2.out.cell 5
      have p6 := K1BXw2.out.cell 6
      have pl := K1BXw2.out.lt
      simp at p0 p1 p2 p3 p4 p5 p6
      cases l2 with
      | true =>
        go_wp2_with fail
        go_ret
        exact ⟨ret_bool (by rw [HE.out]; rfl), (by repeat' (first | (with_reducible assumption) | (with_reducible exact Below.refl _ _) | (with_reducible refine below_drewN ?_ _) | (with_reducible refine below_bytes ?_ ?_ _) | (with_reducible refine Below.alloc ?_ ?_ _) | (with_reducible refine Below.drew ?_) | (with_reducible refine Below.setCell ?_ ?_ _) | go_size))⟩
      | false =>
        go_wp2_with fail
        refine (L3.out _ (by repeat' (first | (with_reducible assumption) | (with_reducible exact Below.refl _ _) | (with_reducible refine below_drewN ?_ _) | (with_reducible refine below_bytes ?_ ?_ _) | (with_reducible refine Below.alloc ?_ ?_ _) | (with_reducible refine Below.drew ?_) | (with_reducible refine Below.setCell ?_ ?_ _) | go_size))).mono ?_
        rintro e w3 ⟨rfl, hb0⟩
        obtain ⟨hcw3, hfw3⟩ := bcell hb0
        have hzw3 := hb0.size
        try simp only [World.size_alloc, World.size_setCell, World.size_drew, size_drewN] at hzw3
        have hBw3 : Below w.heap.size w w3 := since hb0 (by repeat' (first | (with_reducible assumption) | (with_reducible exact Below.refl _ _) | (with_reducible refine below_drewN ?_ _) | (with_reducible refine below_bytes ?_ ?_ _) | (with_reducible refine Below.alloc ?_ ?_ _) | (with_reducible refine Below.drew ?_) | (with_reducible refine Below.setCell ?_ ?_ _) | go_size))
        have BXw3 := Lib.hid (Bx.later BXw2.out (since hb0 (by repeat' (first | (with_reducible assumption) | (with_reducible exact Below.refl _ _) | (with_reducible refine below_drewN ?_ _) | (with_reducible refine below_bytes ?_ ?_ _) | (with_reducible refine Below.alloc ?_ ?_ _) | (with_reducible refine Below.drew ?_) | (with_reducible refine Below.setCell ?_ ?_ _) | go_size))))
        clear hb0
        go_wp2_with fail
        go_ret
        exact ⟨ret_bool (by rw [HE.out]; rfl), (by repeat' (first | (with_reducible assumption) | (with_reducible exact Below.refl _ _) | (with_reducible refine below_drewN ?_ _) | (with_reducible refine below_bytes ?_ ?_ _) | (with_reducible refine Below.alloc ?_ ?_ _) | (with_reducible refine Below.drew ?_) | (with_reducible refine Below.setCell ?_ ?_ _) | go_size))⟩
  | false =>
  cases k7 : (xk == 7) with
  | true =>
    have HE : Hid (r = (bb && l2)) := Lib.hid (by rw [← HR.out, k6, k7]; rfl)
    go_enter Tryd.func21, Tryd.ntmps21
    go_wp2_with fail
    refine (CB.out _ (by repeat' (first | (with_reducible assumption) | (with_reducible exact Below.refl _ _) | (with_reducible refine below_drewN ?_ _) | (with_reducible refine below_bytes ?_ ?_ _) | (with_reducible refine Below.alloc ?_ ?_ _) | (with_reducible refine Below.drew ?_) | (with_reducible refine Below.setCell ?_ ?_ _) | go_size))).mono ?_
    rintro e w1 ⟨rfl, hb0⟩
    obtain ⟨hcw1, hfw1⟩ := bcell hb0
    have hzw1 := hb0.size
    try simp only [World.size_alloc, World.size_setCell, World.size_drew, size_drewN] at hzw1
    have hBw1 : Below w.heap.size w w1 := since hb0 (by repeat' (first | (with_reducible assumption) | (with_reducible exact Below.refl _ _) | (with_reducible refine below_drewN ?_ _) | (with_reducible refine below_bytes ?_ ?_ _) | (with_reducible refine Below.alloc ?_ ?_ _) | (with_reducible refine Below.drew ?_) | (with_reducible refine Below.setCell ?_ ?_ _) | go_size))
    have BXw1 := Lib.hid (Bx.later BX.out (since hb0 (by repeat' (first | (with_reducible assumption) | (with_reducible exact Below.refl _ _) | (with_reducible refine below_drewN ?_ _) | (with_reducible refine below_bytes ?_ ?_ _) | (with_reducible refine Below.alloc ?_ ?_ _) | (with_reducible refine Below.drew ?_) | (with_reducible refine Below.setCell ?_ ?_ _) | go_size))))
    clear hb0
    have K0BXw1 := Lib.hid BXw1.out.b0
    have K1BXw1 := Lib.hid BXw1.out.b1
    have hBBXw1 := BXw1.out.hb
    have b0 := K0BXw1.out.cell 0
    have bf := K0BXw1.out.free 0
    have bl := K0BXw1.out.lt
    simp at b0
    have p0 := K1BXw1.out.cell 0
    have p1 := K1BXw1.out.cell 1
    have p2 := K1BXw1.out.cell 2
    have p3 := K1BXw1.out.cell 3
    have p4 := K1BXw1.out.cell 4
    have p5 := K1BXw1.out.cell 5
    have p6 := K1BXw1.out.cell 6
    have pl := K1BXw1.out.lt
    simp at p0 p1 p2 p3 p4 p5 p6
    cases bb with
    | false =>
      go_wp2_with fail
      go_ret
      exact ⟨ret_bool (by rw [HE.out]; rfl), (by repeat' (first | (with_reducible assumption) | (with_reducible exact Below.refl _ _) | (with_reducible refine below_drewN ?_ _) | (with_reducible refine below_bytes ?_ ?_ _) | (with_reducible refine Below.alloc ?_ ?_ _) | (with_reducible refine Below.drew ?_) | (with_reducible refine Below.setCell ?_ ?_ _) | go_size))⟩
    | true =>
      go_wp2_with fail
      refine (L2.out _ (by repeat' (first | (with_reducible assumption) | (with_reducible exact Below.refl _ _) | (with_reducible refine below_drewN ?_ _) | (with_reducible refine below_bytes ?_ ?_ _) | (with_reducible refine Below.alloc ?_ ?_ _) | (with_reducible refine Below.drew ?_) | (with_reducible refine Below.setCell ?_ ?_ _) | go_size))).mono ?_
      rintro e w2 ⟨rfl, hb0⟩
      obtain ⟨hcw2, hfw2⟩ := bcell hb0
      have hzw2 := hb0.size
      try simp only [World.size_alloc, World.size_setCell, World.size_drew, size_drewN] at hzw2
      have hBw2 : Below w.heap.size w w2 := since hb0 (by repeat' (first | (with_reducible assumption) | (with_reducible exact Below.refl _ _) | (with_reducible refine below_drewN ?_ _) | (with_reducible refine below_bytes ?_ ?_ _) | (with_reducible refine Below.alloc ?_ ?_ _) | (with_reducible refine Below.drew ?_) | (with_reducible refine Below.setCell ?_ ?_ _) | go_size))
      have BXw2 := Lib.hid (Bx.later BXw1.out (since hb0 (by repeat' (first | (with_reducible assumption) | (with_reducible exact Below.refl _ _) | (with_reducible refine below_drewN ?_ _) | (with_reducible refine below_bytes ?_ ?_ _) | (with_reducible refine Below.alloc ?_ ?_ _) | (with_reducible refine Below.drew ?_) | (with_reducible refine Below.setCell ?_ ?_ _) | go_size))))
      clear hb0
      (go_wp2_with fail; go_ret; exact ⟨ret_bool (by rw [HE.out]; rfl), (by repeat' (first | (with_reducible assumption) | (with_reducible exact Below.refl _ _) | (with_reducible refine below_drewN ?_ _) | (with_reducible refine below_bytes ?_ ?_ _) | (with_reducible refine Below.alloc ?_ ?_ _) | (with_reducible refine Below.drew ?_) | (with_reducible refine Below.setCell ?_ ?_ _) | go_size))⟩)
  | false =>
  cases k8 : (xk == 8) with
  | true =>
    have HE : Hid (r = (bb && l2)) := Lib.hid (by rw [← HR.out, k6, k7, k8]; rfl)
    go_enter Tryd.func21, Tryd.ntmps21
    go_wp2_with fail
    refine (CB.out _ (by repeat' (first | (with_reducible assumption) | (with_reducible exact Below.refl _ _) | (with_reducible refine below_drewN ?_ _) | (with_reducible refine below_bytes ?_ ?_ _) | (with_reducible refine Below.alloc ?_ ?_ _) | (with_reducible refine Below.drew ?_) | (with_reducible refine Below.setCell ?_ ?_ _) | go_size))).mono ?_
    rintro e w1 ⟨rfl, hb0⟩
    obtain ⟨hcw1, hfw1⟩ := bcell hb0
    have hzw1 := hb0.size
    try simp only [World.size_alloc, World.size_setCell, World.size_drew, size_drewN] at hzw1
    have hBw1 : Below w.heap.size w w1 := since hb0 (by repeat' (first | (with_reducible assumption) | (with_reducible exact Below.refl _ _) | (with_reducible refine below_drewN ?_ _) | (with_reducible refine below_bytes ?_ ?_ _) | (with_reducible refine Below.alloc ?_ ?_ _) | (with_reducible refine Below.drew ?_) | (with_reducible refine Below.setCell ?_ ?_ _) | go_size))
    have BXw1 := Lib.hid (Bx.later BX.out (since hb0 (by repeat' (first | (with_reducible assumption) | (with_reducible exact Below.refl _ _) | (with_reducible refine below_drewN ?_ _) | (with_reducible refine below_bytes ?_ ?_ _) | (with_reducible refine Below.alloc ?_ ?_ _) | (with_reducible refine Below.drew ?_) | (with_reducible refine Below.setCell ?_ ?_ _) | go_size))))
    clear hb0
    have K0BXw1 := Lib.hid BXw1.out.b0
    have K1BXw1 := Lib.hid BXw1.out.b1
    have hBBXw1 := BXw1.out.hb
    have b0 := K0BXw1.out.cell 0
    have bf := K0BXw1.out.free 0
    have bl := K0BXw1.out.lt
    simp at b0
    have p0 := K1BXw1.out.cell 0
    have p1 := K1BXw1.out.cell 1
    have p2 := K1BXw1.out.cell 2
    have p3 := K1BXw1.out.cell 3
    have p4 := K1BXw1.out.cell 4
    have p5 := K1BXw1.out.cell 5
    have p6 := K1BXw1.out.cell 6
    have pl := K1BXw1.out.lt
    simp at p0 p1 p2 p3 p4 p5 p6
    cases bb with
    | false =>
      go_wp2_with fail
      go_ret
      exact ⟨ret_bool (by rw [HE.out]; rfl), (by repeat' (first | (with_reducible assumption) | (with_reducible exact Below.refl _ _) | (with_reducible refine below_drewN ?_ _) | (with_reducible refine below_bytes ?_ ?_ _) | (with_reducible refine Below.alloc ?_ ?_ _) | (with_reducible refine Below.drew ?_) | (with_reducible refine Below.setCell ?_ ?_ _) | go_size))⟩
    | true =>
      go_wp2_with fail
      refine (L2.out _ (by repeat' (first | (with_reducible assumption) | (with_reducible exact Below.refl _ _) | (with_reducible refine below_drewN ?_ _) | (with_reducible refine below_bytes ?_ ?_ _) | (with_reducible refine Below.alloc ?_ ?_ _) | (with_reducible refine Below.drew ?_) | (with_reducible refine Below.setCell ?_ ?_ _) | go_size))).mono ?_
      rintro e w2 ⟨rfl, hb0⟩
      obtain ⟨hcw2, hfw2⟩ := bcell hb0
      have hzw2 := hb0.size
      try simp only [World.size_alloc, World.size_setCell, World.size_drew, size_drewN] at hzw2
      have hBw2 : Below w.heap.size w w2 := since hb0 (by repeat' (first | (with_reducible assumption) | (with_reducible exact Below.refl _ _) | (with_reducible refine below_drewN ?_ _) | (with_reducible refine below_bytes ?_ ?_ _) | (with_reducible refine Below.alloc ?_ ?_ _) | (with_reducible refine Below.drew ?_) | (with_reducible refine Below.setCell ?_ ?_ _) | go_size))
      have BXw2 := Lib.hid (Bx.later BXw1.out (since hb0 (by repeat' (first | (with_reducible assumption) | (with_reducible exact Below.refl _ _) | (with_reducible refine below_drewN ?_ _) | (with_reducible refine below_bytes ?_ ?_ _) | (with_reducible refine Below.alloc ?_ ?_ _) | (with_reducible refine Below.drew ?_) | (with_reducible refine Below.setCell ?_ ?_ _) | go_size))))
      clear hb0
      (go_wp2_with fail; go_ret; exact ⟨ret_bool (by rw [HE.out]; rfl), (by repeat' (first | (with_reducible assumption) | (with_reducible exact Below.refl _ _) | (with_reducible refine below_drewN ?_ _) | (with_reducible refine below_bytes ?_ ?_ _) | (with_reducible refine Below.alloc ?_ ?_ _) | (with_reducible refine Below.drew ?_) | (with_reducible refine Below.setCell ?_ ?_ _) | go_size))⟩)
  | false =>
  cases k12 : (xk == 12) with
  | true =>
    have HE : Hid (r = (bb && l1)) := Lib.hid (by rw [← HR.out, k6, k7, k8, k12]; rfl)
    go_enter Tryd.func21, Tryd.ntmps21
    go_wp2_with fail
    refine (CB.out _ (by repeat' (first | (with_reducible assumption) | (with_reducible exact Below.refl _ _) | (with_reducible refine below_drewN ?_ _) | (with_reducible refine below_bytes ?_ ?_ _) | (with_reducible refine Below.alloc ?_ ?_ _) | (with_reducible refine Below.drew ?_) | (with_reducible refine Below.setCell ?_ ?_ _) | go_size))).mono ?_
    rintro e w1 ⟨rfl, hb0⟩
    obtain ⟨hcw1, hfw1⟩ := bcell hb0
    have hzw1 := hb0.size
    try simp only [World.size_alloc, World.size_setCell, World.size_drew, size_drewN] at hzw1
    have hBw1 : Below w.heap.size w w1 := since hb0 (by repeat' (first | (with_reducible assumption) | (with_reducible exact Below.refl _ _) | (with_reducible refine below_drewN ?_ _) | (with_reducible refine below_bytes ?_ ?_ _) | (with_reducible refine Below.alloc ?_ ?_ _) | (with_reducible refine Below.drew ?_) | (with_reducible refine Below.setCell ?_ ?_ _) | go_size))
    have BXw1 := Lib.hid (Bx.later BX.out (since hb0 (by repeat' (first | (with_reducible assumption) | (with_reducible exact Below.refl _ _) | (with_reducible refine below_drewN ?_ _) | (with_reducible refine below_bytes ?_ ?_ _) | (with_reducible refine Below.alloc ?_ ?_ _) | (with_reducible refine Below.drew ?_) | (with_reducible refine Below.setCell ?_ ?_ _) | go_size))))
    clear hb0
    have K0BXw1 := Lib.hid BXw1.out.b0
    have K1BXw1 := Lib.hid BXw1.out.b1
    have hBBXw1 := BXw1.out.hb
    have b0 := K0BXw1.out.cell 0
    have bf := K0BXw1.out.free 0
    have bl := K0BXw1.out.lt
    simp at b0
    have p0 := K1BXw1.out.cell 0
    have p1 := K1BXw1.out.cell 1
    have p2 := K1BXw1.out.cell 2
    have p3 := K1BXw1.out.cell 3
    have p4 := K1BXw1.out.cell 4
    have p5 := K1BXw1.out.cell 5
    have p6 := K1BXw1.out.cell 6
    have pl := K1BXw1.out.lt
    simp at p0 p1 p2 p3 p4 p5 p6
    cases bb with
    | false =>
      go_wp2_with fail
      go_ret
      exact ⟨ret_bool (by rw [HE.out]; rfl), (by repeat' (first | (with_reducible assumption) | (with_reducible exact Below.refl _ _) | (with_reducible refine below_drewN ?_ _) | (with_reducible refine below_bytes ?_ ?_ _) | (with_reducible refine Below.alloc ?_ ?_ _) | (with_reducible refine Below.drew ?_) | (with_reducible refine Below.setCell ?_ ?_ _) | go_size))⟩
    | true =>
      go_wp2_with fail
      refine (L1.out _ (by repeat' (first | (with_reducible assumption) | (with_reducible exact Below.refl _ _) | (with_reducible refine below_drewN ?_ _) | (with_reducible refine below_bytes ?_ ?_ _) | (with_reducible refine Below.alloc ?_ ?_ _) | (with_reducible refine Below.drew ?_) | (with_reducible refine Below.setCell ?_ ?_ _) | go_size))).mono ?_
      rintro e w2 ⟨rfl, hb0⟩
      obtain ⟨hcw2, hfw2⟩ := bcell hb0
      have hzw2 := hb0.size
      try simp only [World.size_alloc, World.size_setCell, World.size_drew, size_drewN] at hzw2
      have hBw2 : Below w.heap.size w w2 := since hb0 (by repeat' (first | (with_reducible assumption) | (with_reducible exact Below.refl _ _) | (with_reducible refine below_drewN ?_ _) | (with_reducible refine below_bytes ?_ ?_ _) | (with_reducible refine Below.alloc ?_ ?_ _) | (with_reducible refine Below.drew ?_) | (with_reducible refine Below.setCell ?_ ?_ _) | go_size))
      have BXw2 := Lib.hid (Bx.later BXw1.out (since hb0 (by repeat' (first | (with_reducible assumption) | (with_reducible exact Below.refl _ _) | (with_reducible refine below_drewN ?_ _) | (with_reducible refine below_bytes ?_ ?_ _) | (with_reducible refine Below.alloc ?_ ?_ _) | (with_reducible refine Below.drew ?_) | (with_reducible refine Below.setCell ?_ ?_ _) | go_size))))
      clear hb0
      (go_wp2_with fail; go_ret; exact ⟨ret_bool (by rw [HE.out]; rfl), (by repeat' (first | (with_reducible assumption) | (with_reducible exact Below.refl _ _) | (with_reducible refine below_drewN ?_ _) | (with_reducible refine below_bytes ?_ ?_ _) | (with_reducible refine Below.alloc ?_ ?_ _) | (with_reducible refine Below.drew ?_) | (with_reducible refine Below.setCell ?_ ?_ _) | go_size))⟩)
  | false =>
  cases k13 : (xk == 13) with
  | true =>
    have HE : Hid (r = (bb && l1)) := Lib.hid (by rw [← HR.out, k6, k7, k8, k12, k13]; rfl)
    go_enter Tryd.func21, Tryd.ntmps21
    go_wp2_with fail
    refine (CB.out _ (by repeat' (first | (with_reducible assumption) | (with_reducible exact Below.refl _ _) | (with_reducible refine below_drewN ?_ _) | (with_reducible refine below_bytes ?_ ?_ _) | (with_reducible refine Below.alloc ?_ ?_ _) | (with_reducible refine Below.drew ?_) | (with_reducible refine Below.setCell ?_ ?_ _) | go_size))).mono ?_
    rintro e w1 ⟨rfl, hb0⟩
    obtain ⟨hcw1, hfw1⟩ := bcell hb0
    have hzw1 := hb0.size
    try simp only [World.size_alloc, World.size_setCell, World.size_drew, size_drewN] at hzw1
    have hBw1 : Below w.heap.size w w1 := since hb0 (by repeat' (first | (with_reducible assumption) | (with_reducible exact Below.refl _ _) | (with_reducible refine below_drewN ?_ _) | (with_reducible refine below_bytes ?_ ?_ _) | (with_reducible refine Below.alloc ?_ ?_ _) | (with_reducible refine Below.drew ?_) | (with_reducible refine Below.setCell ?_ ?_ _) | go_size))
    have BXw1 := Lib.hid (Bx.later BX.out (since hb0 (by repeat' (first | (with_reducible assumption) | (with_reducible exact Below.refl _ _) | (with_reducible refine below_drewN ?_ _) | (with_reducible refine below_bytes ?_ ?_ _) | (with_reducible refine Below.alloc ?_ ?_ _) | (with_reducible refine Below.drew ?_) | (with_reducible refine Below.setCell ?_ ?_ _) | go_size))))
    clear hb0
    have K0BXw1 := Lib.hid BXw1.out.b0
    have K1BXw1 := Lib.hid BXw1.out.b1
    have hBBXw1 := BXw1.out.hb
    have b0 := K0BXw1.out.cell 0
    have bf := K0BXw1.out.free 0
    have bl := K0BXw1.out.lt
    simp at b0
    have p0 := K1BXw1.out.cell 0
    have p1 := K1BXw1.out.cell 1
    have p2 := K1BXw1.out.cell 2
    have p3 := K1BXw1.out.cell 3
    have p4 := K1BXw1.out.cell 4
    have p5 := K1BXw1.out.cell 5
    have p6 := K1BXw1.out.cell 6
    have pl := K1BXw1.out.lt
    simp at p0 p1 p2 p3 p4 p5 p6
    cases bb with
    | false =>
      go_wp2_with fail
      go_ret
      exact ⟨ret_bool (by rw [HE.out]; rfl), (by repeat' (first | (with_reducible assumption) | (with_reducible exact Below.refl _ _) | (with_reducible refine below_drewN ?_ _) | (with_reducible refine below_bytes ?_ ?_ _) | (with_reducible refine Below.alloc ?_ ?_ _) | (with_reducible refine Below.drew ?_) | (with_reducible refine Below.setCell ?_ ?_ _) | go_size))⟩
    | true =>
      go_wp2_with fail
      refine (L1.out _ (by repeat' (first | (with_reducible assumption) | (with_reducible exact Below.refl _ _) | (with_reducible refine below_drewN ?_ _) | (with_reducible refine below_bytes ?_ ?_ _) | (with_reducible refine Below.alloc ?_ ?_ _) | (with_reducible refine Below.drew ?_) | (with_reducible refine Below.setCell ?_ ?_ _) | go_size))).mono ?_
      rintro e w2 ⟨rfl, hb0⟩
      obtain ⟨hcw2, hfw2⟩ := bcell hb0
      have hzw2 := hb0.size
      try simp only [World.size_alloc, World.size_setCell, World.size_drew, size_drewN] at hzw2
      have hBw2 : Below w.heap.size w w2 := since hb0 (by repeat' (first | (with_reducible assumption) | (with_reducible exact Below.refl _ _) | (with_reducible refine below_drewN ?_ _) | (with_reducible refine below_bytes ?_ ?_ _) | (with_reducible refine Below.alloc ?_ ?_ _) | (with_reducible refine Below.drew ?_) | (with_reducible refine Below.setCell ?_ ?_ _) | go_size))
      have BXw2 := Lib.hid (Bx.later BXw1.out (since hb0 (by repeat' (first | (with_reducible assumption) | (with_reducible exact Below.refl _ _) | (with_reducible refine below_drewN ?_ _) | (with_reducible refine below_bytes ?_ ?_ _) | (with_reducible refine Below.alloc ?_ ?_ _) | (with_reducible refine Below.drew ?_) | (with_reducible refine Below.setCell ?_ ?_ _) | go_size))))
      clear hb0
      (go_wp2_with fail; go_ret; exact ⟨ret_bool (by rw [HE.out]; rfl), (by repeat' (first | (with_reducible assumption) | (with_reducible exact Below.refl _ _) | (with_reducible refine below_drewN ?_ _) | (with_reducible refine below_bytes ?_ ?_ _) | (with_reducible refine Below.alloc ?_ ?_ _) | (with_reducible refine Below.drew ?_) | (with_reducible refine Below.setCell ?_ ?_ _) | go_size))⟩)
  | false =>
  cases k9 : (xk == 9) with
  | true =>
    have HE : Hid (r = (nm && ((decide (n1 = 0) && decide (n5 = 0)) && l1))) := Lib.hid (by rw [← HR.out, k6, k7, k8, k12, k13, k9]; rfl)
    go_enter Tryd.func21, Tryd.ntmps21
    go_wp2_with fail
    refine (CN.out _ (by repeat' (first | (with_reducible assumption) | (with_reducible exact Below.refl _ _) | (with_reducible refine below_drewN ?_ _) | (with_reducible refine below_bytes ?_ ?_ _) | (with_reducible refine Below.alloc ?_ ?_ _) | (with_reducible refine Below.drew ?_) | (with_reducible refine Below.setCell ?_ ?_ _) | go_size))).mono ?_
    rintro e w1 ⟨rfl, hb0⟩
    obtain ⟨hcw1, hfw1⟩ := bcell hb0
    have hzw1 := hb0.size
    try simp only [World.size_alloc, World.size_setCell, World.size_drew, size_drewN] at hzw1
    have hBw1 : Below w.heap.size w w1 := since hb0 (by repeat' (first | (with_reducible assumption) | (with_reducible exact Below.refl _ _) | (with_reducible refine below_drewN ?_ _) | (with_reducible refine below_bytes ?_ ?_ _) | (with_reducible refine Below.alloc ?_ ?_ _) | (with_reducible refine Below.drew ?_) | (with_reducible refine Below.setCell ?_ ?_ _) | go_size))
    have BXw1 := Lib.hid (Bx.later BX.out (since hb0 (by repeat' (first | (with_reducible assumption) | (with_reducible exact Below.refl _ _) | (with_reducible refine below_drewN ?_ _) | (with_reducible refine below_bytes ?_ ?_ _) | (with_reducible refine Below.alloc ?_ ?_ _) | (with_reducible refine Below.drew ?_) | (with_reducible refine Below.setCell ?_ ?_ _) | go_size))))
    clear hb0
    have K0BXw1 := Lib.hid BXw1.out.b0
    have K1BXw1 := Lib.hid BXw1.out.b1
    have hBBXw1 := BXw1.out.hb
    have b0 := K0BXw1.out.cell 0
    have bf := K0BXw1.out.free 0
    have bl := K0BXw1.out.lt
    simp at b0
    have p0 := K1BXw1.out.cell 0
    have p1 := K1BXw1.out.cell 1
    have p2 := K1BXw1.out.cell 2
    have p3 := K1BXw1.out.cell 3
    have p4 := K1BXw1.out.cell 4
    have p5 := K1BXw1.out.cell 5
    have p6 := K1BXw1.out.cell 6
    have pl := K1BXw1.out.lt
    simp at p0 p1 p2 p3 p4 p5 p6
    cases nm with
    | false =>
      go_wp2_with fail
      go_ret
      exact ⟨ret_bool (by rw [HE.out]; rfl), (by repeat' (first | (with_reducible assumption) | (with_reducible exact Below.refl _ _) | (with_reducible refine below_drewN ?_ _) | (with_reducible refine below_bytes ?_ ?_ _) | (with_reducible refine Below.alloc ?_ ?_ _) | (with_reducible refine Below.drew ?_) | (with_reducible refine Below.setCell ?_ ?_ _) | go_size))⟩
    | true =>
      by_cases h15 : n1 + n5 = 0
      · have e1 : ((n1 : Int) + (n5 : Int) == 0) = true := by rw [beq_iff_eq]; omega
        rw [decide_eq_true (show n1 = 0 by omega), decide_eq_true (show n5 = 0 by omega)] at HE
        clear h15
        go_wp2_with fail
        refine (L1.out _ (by repeat' (first | (with_reducible assumption) | (with_reducible exact Below.refl _ _) | (with_reducible refine below_drewN ?_ _) | (with_reducible refine below_bytes ?_ ?_ _) | (with_reducible refine Below.alloc ?_ ?_ _) | (with_reducible refine Below.drew ?_) | (with_reducible refine Below.setCell ?_ ?_ _) | go_size))).mono ?_
        rintro e w2 ⟨rfl, hb0⟩
        obtain ⟨hcw2, hfw2⟩ := bcell hb0
        have hzw2 := hb0.size
        try simp only [World.size_alloc, World.size_setCell, World.size_drew, size_drewN] at hzw2
        have hBw2 : Below w.heap.size w w2 := since hb0 (by repeat' (first | (with_reducible assumption) | (with_reducible exact Below.refl _ _) | (with_reducible refine below_drewN ?_ _) | (with_reducible refine below_bytes ?_ ?_ _) | (with_reducible refine Below.alloc ?_ ?_ _) | (with_reducible refine Below.drew ?_) | (with_reducible refine Below.setCell ?_ ?_ _) | go_size))
        have BXw2 := Lib.hid (Bx.later BXw1.out (since hb0 (by repeat' (first | (with_reducible assumption) | (with_reducible exact Below.refl _ _) | (with_reducible refine below_drewN ?_ _) | (with_reducible refine below_bytes ?_ ?_ _) | (with_reducible refine Below.alloc ?_ ?_ _) | (with_reducible refine Below.drew ?_) | (with_reducible refine Below.setCell ?_ ?_ _) | go_size))))
        clear hb0
        go_wp2_with fail
        go_ret
        exact ⟨ret_bool (by rw [HE.out]; rfl), (by repeat' (first | (with_reducible assumption) | (with_reducible exact Below.refl _ _) | (with_reducible refine below_drewN ?_ _) | (with_reducible refine below_bytes ?_ ?_ _) | (with_reducible refine Below.alloc ?_ ?_ _) | (with_reducible refine Below.drew ?_) | (with_reducible refine Below.setCell ?_ ?_ _) | go_size))⟩
      · have e1 : ((n1 : Int) + (n5 : Int) == 0) = false := by rw [beq_eq_false_iff_ne]; omega
        have HE2 : Hid (r = false) := Lib.hid (by
          rw [HE.out, show (decide (n1 = 0) && decide (n5 = 0)) = false by rw [Bool.eq_false_iff]; simp; omega]; rfl)
        clear h15
        go_wp2_with fail
        go_ret
        exact ⟨ret_bool HE2.out.symm, (by repeat' (first | (with_reducible assumption) | (with_reducible exact Below.refl _ _) | (with_reducible refine below_drewN ?_ _) | (with_reducible refine below_bytes ?_ ?_ _) | (with_reducible refine Below.alloc ?_ ?_ _) | (with_reducible refine Below.drew ?_) | (with_reducible refine Below.setCell ?_ ?_ _) | go_size))⟩
  | false =>
  cases k10 : (xk == 10) with
  | true =>
    have HE : Hid (r = ((L x.name).isEmpty && (decide (n1 = 0) && (decide (n2 = 1) && (l0 && ar))))) := Lib.hid (by rw [← HR.out, k6, k7, k8, k12, k13, k9, k10]; rfl)
    cases hne : (L x.name).isEmpty with
    | false =>
      have e5 : x.name.toList.isEmpty = false := by rw [isEmpty_L]; exact hne
      rw [hne] at HE
      clear hne
      go_enter Tryd.func21, Tryd.ntmps21
      go_wp2_with fail
      go_ret
      exact ⟨ret_bool (by rw [HE.out]; rfl), (by repeat' (first | (with_reducible assumption) | (with_reducible exact Below.refl _ _) | (with_reducible refine below_drewN ?_ _) | (with_reducible refine below_bytes ?_ ?_ _) | (with_reducible refine Below.alloc ?_ ?_ _) | (with_reducible refine Below.drew ?_) | (with_reducible refine Below.setCell ?_ ?_ _) | go_size))⟩
    | true =>
      have e5 : x.name.toList.isEmpty = true := by rw [isEmpty_L]; exact hne
      rw [hne] at HE
      clear hne
      rcases Nat.eq_zero_or_pos n1 with h1 | h1
      · subst h1
        by_cases h2 : n2 = 1
        · subst h2
          rw [decide_eq_true rfl, decide_eq_true rfl] at HE
          go_enter Tryd.func21, Tryd.ntmps21
          go_wp2_with fail
          refine (L0.out _ (by repeat' (first | (with_reducible assumption) | (with_reducible exact Below.refl _ _) | (with_reducible refine below_drewN ?_ _) | (with_reducible refine below_bytes ?_ ?_ _) | (with_reducible refine Below.alloc ?_ ?_ _) | (with_reducible refine Below.drew ?_) | (with_reducible refine Below.setCell ?_ ?_ _) | go_size))).mono ?_
          rintro e w1 ⟨rfl, hb0⟩
          obtain ⟨hcw1, hfw1⟩ := bcell hb0
          have hzw1 := hb0.size
          try simp only [World.size_alloc, World.size_setCell, World.size_drew, size_drewN] at hzw1
          have hBw1 : Below w.heap.size w w1 := since hb0 (by repeat' (first | (with_reducible assumption) | (with_reducible exact Below.refl _ _) | (with_reducible refine below_drewN ?_ _) | (with_reducible refine below_bytes ?_ ?_ _) | (with_reducible refine Below.alloc ?_ ?_ _) | (with_reducible refine Below.drew ?_) | (with_reducible refine Below.setCell ?_ ?_ _) | go_size))
          have BXw1 := Lib.hid (Bx.later BX.out (since hb0 (by repeat' (first | (with_reducible assumption) | (with_reducible exact Below.refl _ _) | (with_reducible refine below_drewN ?_ _) | (with_reducible refine below_bytes ?_ ?_ _) | (with_reducible refine Below.alloc ?_ ?_ _) | (with_reducible refine Below.drew ?_) | (with_reducible refine Below.setCell ?_ ?_ _) | go_size))))
          clear hb0
          have K0BXw1 := Lib.hid BXw1.out.b0
          have K1BXw1 := Lib.hid BXw1.out.b1
          have hBBXw1 := BXw1.out.hb
          have b0 := K0BXw1.out.cell 0
          have bf := K0BXw1.out.free 0
          have bl := K0BXw1.out.lt
          simp at b0
          have p0 := K1BXw1.out.cell 0
          have p1 := K1BXw1.out.cell 1
          have p2 := K1BXw1.out.cell 2
          have p3 := K1BXw1.out.cell 3
          have p4 := K1BXw1.out.cell 4
          have p5 := K1BXw1.out.cell 5
          have p6 := K1BXw1.out.cell 6
          have pl := K1BXw1.out.lt
          simp at p0 p1 p2 p3 p4 p5 p6
          cases l0 with
          | false =>
            go_wp2_with fail
            go_ret
            exact ⟨ret_bool (by rw [HE.out]; rfl), (by repeat' (first | (with_reducible assumption) | (with_reducible exact Below.refl _ _) | (with_reducible refine below_drewN ?_ _) | (with_reducible refine below_bytes ?_ ?_ _) | (with_reducible refine Below.alloc ?_ ?_ _) | (with_reducible refine Below.drew ?_) | (with_reducible refine Below.setCell ?_ ?_ _) | go_size))⟩
          | true =>
            go_wp2_with fail
            refine (CA.out _ (by repeat' (first | (with_reducible assumption) | (with_reducible exact Below.refl _ _) | (with_reducible refine below_drewN ?_ _) | (with_reducible refine below_bytes ?_ ?_ _) | (with_reducible refine Below.alloc ?_ ?_ _) | (with_reducible refine Below.drew ?_) | (with_reducible refine Below.setCell ?_ ?_ _) | go_size))).mono ?_
            rintro e w2 ⟨rfl, hb0⟩
            obtain ⟨hcw2, hfw2⟩ := bcell hb0
            have hzw2 := hb0.size
            try simp only [World.size_alloc, World.size_setCell, World.size_drew, size_drewN] at hzw2
            have hBw2 : Below w.heap.size w w2 := since hb0 (by repeat' (first | (with_reducible assumption) | (with_reducible exact Below.refl _ _) | (with_reducible refine below_drewN ?_ _) | (with_reducible refine below_bytes ?_ ?_ _) | (with_reducible refine Below.alloc ?_ ?_ _) | (with_reducible refine Below.drew ?_) | (with_reducible refine Below.setCell ?_ ?_ _) | go_size))
            have BXw2 := Lib.hid (Bx.later BXw1.out (since hb0 (by repeat' (first | (with_reducible assumption) | (with_reducible exact Below.refl _ _) | (with_reducible refine below_drewN ?_ _) | (with_reducible refine below_bytes ?_ ?_ _) | (with_reducible refine Below.alloc ?_ ?_ _) | (with_reducible refine Below.drew ?_) | (with_reducible refine Below.setCell ?_ ?_ _) | go_size))))
            clear hb0
            go_wp2_with fail
            go_ret
            exact ⟨ret_bool (by rw [HE.out]; rfl), (by repeat' (first | (with_reducible assumption) | (with_reducible exact Below.refl _ _) | (with_reducible refine below_drewN ?_ _) | (with_reducible refine below_bytes ?_ ?_ _) | (with_reducible refine Below.alloc ?_ ?_ _) | (with_reducible refine Below.drew ?_) | (with_reducible refine Below.setCell ?_ ?_ _) | go_size))⟩
        · rw [decide_eq_false h2] at HE
          have e2 : ((n2 : Int) == 1) = false := by rw [beq_eq_false_iff_ne]; omega
          clear h2
          go_enter Tryd.func21, Tryd.ntmps21
          go_wp2_with fail
          go_ret
          exact ⟨ret_bool (by rw [HE.out]; rfl), (by repeat' (first | (with_reducible assumption) | (with_reducible exact Below.refl _ _) | (with_reducible refine below_drewN ?_ _) | (with_reducible refine below_bytes ?_ ?_ _) | (with_reducible refine Below.alloc ?_ ?_ _) | (with_reducible refine Below.drew ?_) | (with_reducible refine Below.setCell ?_ ?_ _) | go_size))⟩
      · rw [decide_eq_false (show ¬ n1 = 0 by omega)] at HE
        have e2 : ((n1 : Int) == 0) = false := by rw [beq_eq_false_iff_ne]; omega
        clear h1
        go_enter Tryd.func21, Tryd.ntmps21
        go_wp2_with fail
        go_ret
        exact ⟨ret_bool (by rw [HE.out]; rfl), (by repeat' (first | (with_reducible assumption) | (with_reducible exact Below.refl _ _) | (with_reducible refine below_drewN ?_ _) | (with_reducible refine below_bytes ?_ ?_ _) | (with_reducible refine Below.alloc ?_ ?_ _) | (with_reducible refine Below.drew ?_) | (with_reducible refine Below.setCell ?_ ?_ _) | go_size))⟩
  | false =>
  cases k11 : (xk == 11) with
  | true =>
    have HE : Hid (r = (nm && (!rs && ((decide (n1 = 0) && (decide (n2 = 0) && (decide (n5 = 0) && decide (n3 = 0)))) && (decide (n4 = 1) && al))))) := Lib.hid (by rw [← HR.out, k6, k7, k8, k12, k13, k9, k10, k11]; rfl)
    go_enter Tryd.func21, Tryd.ntmps21
    go_wp2_with fail
    refine (CF.out _ (by repeat' (first | (with_reducible assumption) | (with_reducible exact Below.refl _ _) | (with_reducible refine below_drewN ?_ _) | (with_reducible refine below_bytes ?_ ?_ _) | (with_reducible refine Below.alloc ?_ ?_ _) | (with_reducible refine Below.drew ?_) | (with_reducible refine Below.setCell ?_ ?_ _) | go_size))).mono ?_
    rintro e w1 ⟨rfl, hb0⟩
    obtain ⟨hcw1, hfw1⟩ := bcell hb0
    have hzw1 := hb0.size
    try simp only [World.size_alloc, World.size_setCell, World.size_drew, size_drewN] at hzw1
    have hBw1 : Below w.heap.size w w1 := since hb0 (by repeat' (first | (with_reducible assumption) | (with_reducible exact Below.refl _ _) | (with_reducible refine below_drewN ?_ _) | (with_reducible refine below_bytes ?_ ?_ _) | (with_reducible refine Below.alloc ?_ ?_ _) | (with_reducible refine Below.drew ?_) | (with_reducible refine Below.setCell ?_ ?_ _) | go_size))
    have BXw1 := Lib.hid (Bx.later BX.out (since hb0 (by repeat' (first | (with_reducible assumption) | (with_reducible exact Below.refl _ _) | (with_reducible refine below_drewN ?_ _) | (with_reducible refine below_bytes ?_ ?_ _) | (with_reducible refine Below.alloc ?_ ?_ _) | (with_reducible refine Below.drew ?_) | (with_reducible refine Below.setCell ?_ ?_ _) | go_size))))
    clear hb0
    have K0BXw1 := Lib.hid BXw1.out.b0
    have K1BXw1 := Lib.hid BXw1.out.b1
    have hBBXw1 := BXw1.out.hb
    have b0 := K0BXw1.out.cell 0
    have bf := K0BXw1.out.free 0
    have bl := K0BXw1.out.lt
    simp at b0
    have p0 := K1BXw1.out.cell 0
    have p1 := K1BXw1.out.cell 1
    have p2 := K1BXw1.out.cell 2
    have p3 := K1BXw1.out.cell 3
    have p4 := K1BXw1.out.cell 4
    have p5 := K1BXw1.out.cell 5
    have p6 := K1BXw1.out.cell 6
    have pl := K1BXw1.out.lt
    simp at p0 p1 p2 p3 p4 p5 p6
    go_wp2_with fail
    refine (CN.out _ (by repeat' (first | (with_reducible assumption) | (with_reducible exact Below.refl _ _) | (with_reducible refine below_drewN ?_ _) | (with_reducible refine below_bytes ?_ ?_ _) | (with_reducible refine Below.alloc ?_ ?_ _) | (with_reducible refine Below.drew ?_) | (with_reducible refine Below.setCell ?_ ?_ _) | go_size))).mono ?_
    rintro e w2 ⟨rfl, hb0⟩
    obtain ⟨hcw2, hfw2⟩ := bcell hb0
    have hzw2 := hb0.size
    try simp only [World.size_alloc, World.size_setCell, World.size_drew, size_drewN] at hzw2
    have hBw2 : Below w.heap.size w w2 := since hb0 (by repeat' (first | (with_reducible assumption) | (with_reducible exact Below.refl _ _) | (with_reducible refine below_drewN ?_ _) | (with_reducible refine below_bytes ?_ ?_ _) | (with_reducible refine Below.alloc ?_ ?_ _) | (with_reducible refine Below.drew ?_) | (with_reducible refine Below.setCell ?_ ?_ _) | go_size))
    have BXw2 := Lib.hid (Bx.later BXw1.out (since hb0 (by repeat' (first | (with_reducible assumption) | (with_reducible exact Below.refl _ _) | (with_reducible refine below_drewN ?_ _) | (with_reducible refine below_bytes ?_ ?_ _) | (with_reducible refine Below.alloc ?_ ?_ _) | (with_reducible refine Below.drew ?_) | (with_reducible refine Below.setCell ?_ ?_ _) | go_size))))
    clear hb0
    clear b0 bf bl p0 p1 p2 p3 p4 p5 p6 pl
    have K0BXw2 := Lib.hid BXw2.out.b0
    have K1BXw2 := Lib.hid BXw2.out.b1
    have hBBXw2 := BXw2.out.hb
    have b0 := K0BXw2.out.cell 0
    have bf := K0BXw2.out.free 0
    have bl := K0BXw2.out.lt
    simp at b0
    have p0 := K1BXw2.out.cell 0
    have p1 := K1BXw2.out.cell 1
    have p2 := K1BXw2.out.cell 2
    have p3 := K1BXw2.out.cell 3
    have p4 := K1BXw2.out.cell 4
    have p5 := K1BXw2.out.cell 5
    have p6 := K1BXw2.out.cell 6
    have pl := K1BXw2.out.lt
    simp at p0 p1 p2 p3 p4 p5 p6
    cases nm with
    | false =>
      go_wp2_with fail
      go_ret
      exact ⟨ret_bool (by rw [HE.out]; rfl), (by repeat' (first | (with_reducible assumption) | (with_reducible exact Below.refl _ _) | (with_reducible refine below_drewN ?_ _) | (with_reducible refine below_bytes ?_ ?_ _) | (with_reducible refine Below.alloc ?_ ?_ _) | (with_reducible refine Below.drew ?_) | (with_reducible refine Below.setCell ?_ ?_ _) | go_size))⟩
    | true =>
      go_wp2_with fail
      refine (CR.out _).mono ?_
      rintro e w1 ⟨rfl, rfl⟩
      cases rs with
      | true =>
        go_wp2_with fail
        go_ret
        exact ⟨ret_bool (by rw [HE.out]; rfl), (by repeat' (first | (with_reducible assumption) | (with_reducible exact Below.refl _ _) | (with_reducible refine below_drewN ?_ _) | (with_reducible refine below_bytes ?_ ?_ _) | (with_reducible refine Below.alloc ?_ ?_ _) | (with_reducible refine Below.drew ?_) | (with_reducible refine Below.setCell ?_ ?_ _) | go_size))⟩
      | false =>
        by_cases h0 : n1 + n2 + n5 + n3 = 0
        · have e1 : ((n1 : Int) + (n2 : Int) + (n5 : Int) + (n3 : Int) == 0) = true := by rw [beq_iff_eq]; omega
          rw [decide_eq_true (show n1 = 0 by omega), decide_eq_true (show n2 = 0 by omega), decide_eq_true (show n5 = 0 by omega), decide_eq_true (show n3 = 0 by omega)] at HE
          clear h0
          by_cases h4 : n4 = 1
          · have e2 : ((n4 : Int) == 1) = true := by rw [beq_iff_eq]; omega
            rw [decide_eq_true h4] at HE
            clear h4
            go_wp2_with fail
            go_ret
            exact ⟨ret_bool (by rw [HE.out]; rfl), (by repeat' (first | (with_reducible assumption) | (with_reducible exact Below.refl _ _) | (with_reducible refine below_drewN ?_ _) | (with_reducible refine below_bytes ?_ ?_ _) | (with_reducible refine Below.alloc ?_ ?_ _) | (with_reducible refine Below.drew ?_) | (with_reducible refine Below.setCell ?_ ?_ _) | go_size))⟩
          · have e2 : ((n4 : Int) == 1) = false := by rw [beq_eq_false_iff_ne]; omega
            rw [decide_eq_false h4] at HE
            clear h4
            go_wp2_with fail
            go_ret
            exact ⟨ret_bool (by rw [HE.out]; rfl), (by repeat' (first | (with_reducible assumption) | (with_reducible exact Below.refl _ _) | (with_reducible refine below_drewN ?_ _) | (with_reducible refine below_bytes ?_ ?_ _) | (with_reducible refine Below.alloc ?_ ?_ _) | (with_reducible refine Below.drew ?_) | (with_reducible refine Below.setCell ?_ ?_ _) | go_size))⟩
        · have e1 : ((n1 : Int) + (n2 : Int) + (n5 : Int) + (n3 : Int) == 0) = false := by rw [beq_eq_false_iff_ne]; omega
          have HE2 : Hid (r = false) := Lib.hid (by
            rw [HE.out, show (decide (n1 = 0) && (decide (n2 = 0) && (decide (n5 = 0) && decide (n3 = 0)))) = false by rw [Bool.eq_false_iff]; simp; omega]; rfl)
          clear h0
          go_wp2_with fail
          go_ret
          exact ⟨ret_bool HE2.out.symm, (by repeat' (first | (with_reducible assumption) | (with_reducible exact Below.refl _ _) | (with_reducible refine below_drewN ?_ _) | (with_reducible refine below_bytes ?_ ?_ _) | (with_reducible refine Below.alloc ?_ ?_ _) | (with_reducible refine Below.drew ?_) | (with_reducible refine Below.setCell ?_ ?_ _) | go_size))⟩
  | false =>
    have HE : Hid (r = false) := Lib.hid (by rw [← HR.out, k6, k7, k8, k12, k13, k9, k10, k11]; rfl)
    go_enter Tryd.func21, Tryd.ntmps21
    go_wp2_with fail
    go_ret
    exact ⟨ret_bool HE.out.symm, (by repeat' (first | (with_reducible assumption) | (with_reducible exact Below.refl _ _) | (with_reducible refine below_drewN ?_ _) | (with_reducible refine below_bytes ?_ ?_ _) | (with_reducible refine Below.alloc ?_ ?_ _) | (with_reducible refine Below.drew ?_) | (with_reducible refine Below.setCell ?_ ?_ _) | go_size))⟩
end Go.Proofs.YtnackmnoldkihaaDoor
/-
  The walk of node; word and list at every level; Right.
-/
namespace Go.Proofs.YtnackmnoldkihaaDoor
open Go.RowKit

set_option maxHeartbeats 1000000 in
set_option maxRecDepth 100000 in
theorem node_no (m : Int) (hm : m ≤ 0) (x : Nd) (w : World) (d : Nat) (c : List Value) (hp : NdC w w.heap.size d x c) :
    Calls Tryd.prog 13 #[.agg #[.int .i64 m], .agg c.toArray] w fun e w' => e = .returned (.bool false) ∧ Below w.heap.size w w' := by
  obtain ⟨a1, c1, a2, c2, a3, c3, a4, c4, a5, c5, rfl, _⟩ := hp.open
  have CD := Lib.hid fun W => deeper_no m W hm
  have BX := Lib.hid (Bx.start w 41 #[.int .i64 m] 37 #[.int .i64 x.kind, .string x.name, .slice a1 x.assigns.length c1, .slice a2 x.words.length c2, .slice a3 x.redirs.length c3, .slice a4 x.lists.length c4, .slice a5 x.arms.length c5])
  clear hp
  go_enter Tryd.func13, Tryd.ntmps13
  go_wp2_with fail
  refine (CD.out _).mono ?_
  rintro e w1 ⟨m', rfl, hb0⟩
  have BXw1 := Lib.hid (Bx.later BX.out hb0)
  clear hb0
  have K0BXw1 := Lib.hid BXw1.out.b0
  have K1BXw1 := Lib.hid BXw1.out.b1
  have hBBXw1 := BXw1.out.hb
  have b0 := K0BXw1.out.cell 0
  have bf := K0BXw1.out.free 0
  have bl := K0BXw1.out.lt
  simp at b0
  have p0 := K1BXw1.out.cell 0
  have p1 := K1BXw1.out.cell 1
  have p2 := K1BXw1.out.cell 2
  have p3 := K1BXw1.out.cell 3
  have p4 := K1BXw1.out.cell 4
  have p5 := K1BXw1.out.cell 5
  have p6 := K1BXw1.out.cell 6
  have pl := K1BXw1.out.lt
  simp at p0 p1 p2 p3 p4 p5 p6
  go_wp2_with fail
  go_ret
  exact ⟨ret_bool rfl, (by repeat' (first | (with_reducible assumption) | (with_reducible exact Below.refl _ _) | (with_reducible refine below_drewN ?_ _) | (with_reducible refine below_bytes ?_ ?_ _) | (with_reducible refine Below.alloc ?_ ?_ _) | (with_reducible refine Below.drew ?_) | (with_reducible refine Below.setCell ?_ ?_ _) | go_size))⟩

set_option maxHeartbeats 1000000 in
set_option maxRecDepth 100000 in
theorem node_yes (wd : List Pt → Bool) (ls : List Nd → Bool) (m : Int) (hm : 0 < m) (hm2 : m ≤ 9223372036854775807) (hwd : WordAt (m - 1) wd) (hls : ListAt (m - 1) ls) (x : Nd) (w : World) (d : Nat) (c : List Value) (hv : Held w) (hp : NdC w w.heap.size d x c) :
    Calls Tryd.prog 13 #[.agg #[.int .i64 m], .agg c.toArray] w fun e w' => e = .returned (.bool (nodeB wd ls x)) ∧ Below w.heap.size w w' := by
  have HP := Lib.hid hp
  obtain ⟨a1, c1, a2, c2, a3, c3, a4, c4, a5, c5, rfl, hxz, ⟨hn1, hn2, hn3, hn4, hn5⟩, hA, hW, hRd, _⟩ := hp.open
  obtain ⟨n1, hl1⟩ : ∃ n, x.assigns.length = n := ⟨_, rfl⟩
  obtain ⟨n2, hl2⟩ : ∃ n, x.words.length = n := ⟨_, rfl⟩
  obtain ⟨n3, hl3⟩ : ∃ n, x.redirs.length = n := ⟨_, rfl⟩
  obtain ⟨n4, hl4⟩ : ∃ n, x.lists.length = n := ⟨_, rfl⟩
  obtain ⟨n5, hl5⟩ : ∃ n, x.arms.length = n := ⟨_, rfl⟩
  rw [hl2] at hn2 hW
  rw [hl3] at hn3 hRd
  rw [hl1, hl2, hl3, hl4, hl5] at HP ⊢
  have CD := Lib.hid fun W => deeper_yes m W hm hm2
  have CS : Hid (∀ W, Below w.heap.size w W → Calls Tryd.prog 19 #[.agg #[.int .i64 (m - 1)], .agg #[.int .i64 x.kind, .string x.name, .slice a1 n1 c1, .slice a2 n2 c2, .slice a3 n3 c3, .slice a4 n4 c4, .slice a5 n5 c5]] W fun e w' => e = .returned (.bool (simpleB wd x)) ∧ Below W.heap.size W w') :=
    Lib.hid fun W hW => simple_any wd (m - 1) hwd x W d _ (hv.below hv.2 hW) (HP.out.later hW)
  have CJ : Hid (∀ W, Below w.heap.size w W → Calls Tryd.prog 20 #[.agg #[.int .i64 (m - 1)], .agg #[.int .i64 x.kind, .string x.name, .slice a1 n1 c1, .slice a2 n2 c2, .slice a3 n3 c3, .slice a4 n4 c4, .slice a5 n5 c5]] W fun e w' => e = .returned (.bool (joinedB ls x)) ∧ Below W.heap.size W w') :=
    Lib.hid fun W hW => joined_any ls (m - 1) hls x W d _ (hv.below hv.2 hW) (HP.out.later hW)
  have CC : Hid (∀ W, Below w.heap.size w W → Calls Tryd.prog 21 #[.agg #[.int .i64 (m - 1)], .agg #[.int .i64 x.kind, .string x.name, .slice a1 n1 c1, .slice a2 n2 c2, .slice a3 n3 c3, .slice a4 n4 c4, .slice a5 n5 c5]] W fun e w' => e = .returned (.bool (compoundB wd ls x)) ∧ Below W.heap.size W w') :=
    Lib.hid fun W hW => compound_any wd ls (m - 1) hwd hls x W d _ (hv.below hv.2 hW) (HP.out.later hW)
  have HW := Lib.hid hW
  have HRD := Lib.hid hRd
  have HV := Lib.hid hv
  have HWD := Lib.hid hwd
  have N2 := Lib.hid hl2
  have N3 := Lib.hid hl3
  have BX := Lib.hid (Bx.start w 41 #[.int .i64 m] 37 #[.int .i64 x.kind, .string x.name, .slice a1 n1 c1, .slice a2 n2 c2, .slice a3 n3 c3, .slice a4 n4 c4, .slice a5 n5 c5])
  obtain ⟨r, hr⟩ : ∃ r, nodeB wd ls x = r := ⟨_, rfl⟩
  rw [hr]
  rw [nodeB] at hr
  obtain ⟨rs, hrs⟩ : ∃ r, simpleB wd x = r := ⟨_, rfl⟩
  obtain ⟨rj, hrj⟩ : ∃ r, joinedB ls x = r := ⟨_, rfl⟩
  obtain ⟨rc, hrc⟩ : ∃ r, compoundB wd ls x = r := ⟨_, rfl⟩
  rw [hrs, hrj, hrc] at hr
  rw [hrs] at CS
  rw [hrj] at CJ
  rw [hrc] at CC
  have HR := Lib.hid hr
  clear hp hl1 hl2 hl3 hl4 hl5 hA hW hRd hv hwd hls hr hrs hrj hrc
  go_enter Tryd.func13, Tryd.ntmps13
  go_wp2_with fail
  refine (CD.out _).mono ?_
  rintro e w1 ⟨rfl, hb0⟩
  have BXw1 := Lib.hid (Bx.later BX.out hb0)
  have BX1 := Lib.hid (Bx.set0 BXw1.out 0 (.int .i64 (m - 1)))
  clear hb0
  have K0BXw1 := Lib.hid BXw1.out.b0
  have K1BXw1 := Lib.hid BXw1.out.b1
  have hBBXw1 := BXw1.out.hb
  have b0 := K0BXw1.out.cell 0
  have bf := K0BXw1.out.free 0
  have bl := K0BXw1.out.lt
  simp at b0
  have p0 := K1BXw1.out.cell 0
  have p1 := K1BXw1.out.cell 1
  have p2 := K1BXw1.out.cell 2
  have p3 := K1BXw1.out.cell 3
  have p4 := K1BXw1.out.cell 4
  have p5 := K1BXw1.out.cell 5
  have p6 := K1BXw1.out.cell 6
  have pl := K1BXw1.out.lt
  simp at p0 p1 p2 p3 p4 p5 p6
  go_wp2_with fail
  go_loopw [20] (fun i W => ∃ k : Nat, k ≤ n2 ∧ i = .int .i64 k ∧ (x.words.take k).all (someB wd) = true ∧ Bx w W 41 #[.int .i64 (m - 1)] 37 #[.int .i64 x.kind, .string x.name, .slice a1 n1 c1, .slice a2 n2 c2, .slice a3 n3 c3, .slice a4 n4 c4, .slice a5 n5 c5]) (fun i _ => n2 - (intOf i).toNat)
  case atStart => exact ⟨0, Nat.zero_le _, rfl, by simp, BX1.out⟩
  case round =>
    obtain ⟨k, hk, rfl, hal, hbx⟩ := hrel
    have HAL := Lib.hid hal
    have BX2 := Lib.hid hbx
    clear hal hbx b0 bf bl p0 p1 p2 p3 p4 p5 p6 pl
    have K0BX2 := Lib.hid BX2.out.b0
    have K1BX2 := Lib.hid BX2.out.b1
    have hBBX2 := BX2.out.hb
    have b0 := K0BX2.out.cell 0
    have bf := K0BX2.out.free 0
    have bl := K0BX2.out.lt
    simp at b0
    have p0 := K1BX2.out.cell 0
    have p1 := K1BX2.out.cell 1
    have p2 := K1BX2.out.cell 2
    have p3 := K1BX2.out.cell 3
    have p4 := K1BX2.out.cell 4
    have p5 := K1BX2.out.cell 5
    have p6 := K1BX2.out.cell 6
    have pl := K1BX2.out.lt
    simp at p0 p1 p2 p3 p4 p5 p6
    by_cases hlt : k < n2
    · obtain ⟨y, hy⟩ : ∃ y, x.words[k]? = .some y := ⟨_, List.getElem?_eq_getElem (by rw [N2.out]; exact hlt)⟩
      obtain ⟨b, o, c, hi, hbB, hce, ⟨yv, rfl, hyp⟩, _⟩ := HW.out.at 29 26 Tryd.underlying29 (by kernel_rfl) hy
      have HY := Lib.hid hy
      obtain ⟨a6, c6, rfl, _⟩ := hyp.shape
      have CW := Lib.hid (HWD.out.reads HV.out hyp true)
      have e0 := (hBBX2.cell hbB).trans (hce 0 _ rfl)
      have hbB' := Nat.lt_of_lt_of_le hbB hBBX2.size
      rw [Nat.add_zero] at e0
      obtain ⟨rr, hrr⟩ : ∃ r, (wd y && (!true || !y.isEmpty)) = r := ⟨_, rfl⟩
      rw [hrr] at CW
      have HS : Hid (someB wd y = rr) := Lib.hid (by rw [← hrr, someB]; simp)
      clear hy hce hyp hrr
      go_wp2_with fail
      refine (CW.out _ (by repeat' (first | (with_reducible assumption) | (with_reducible exact Below.refl _ _) | (with_reducible refine below_drewN ?_ _) | (with_reducible refine below_bytes ?_ ?_ _) | (with_reducible refine Below.alloc ?_ ?_ _) | (with_reducible refine Below.drew ?_) | (with_reducible refine Below.setCell ?_ ?_ _) | go_size))).mono ?_
      rintro e w4 ⟨rfl, hb0⟩
      obtain ⟨hcw4, hfw4⟩ := bcell hb0
      have hzw4 := hb0.size
      try simp only [World.size_alloc, World.size_setCell, World.size_drew, size_drewN] at hzw4
      have hBw4 : Below w.heap.size w w4 := since hb0 (by repeat' (first | (with_reducible assumption) | (with_reducible exact Below.refl _ _) | (with_reducible refine below_drewN ?_ _) | (with_reducible refine below_bytes ?_ ?_ _) | (with_reducible refine Below.alloc ?_ ?_ _) | (with_reducible refine Below.drew ?_) | (with_reducible refine Below.setCell ?_ ?_ _) | go_size))
      have BXw4 := Lib.hid (Bx.later BX2.out (since hb0 (by repeat' (first | (with_reducible assumption) | (with_reducible exact Below.refl _ _) | (with_reducible refine below_drewN ?_ _) | (with_reducible refine below_bytes ?_ ?_ _) | (with_reducible refine Below.alloc ?_ ?_ _) | (with_reducible refine Below.drew ?_) | (with_reducible refine Below.setCell ?_ ?_ _) | go_size))))
      clear hb0
      cases rr with
      | false =>
        have HE : Hid (r = false) := Lib.hid (by rw [← HR.out, all_no HY.out HS.out]; rfl)
        go_wp2_with fail
        go_ret
        exact ⟨ret_bool HE.out.symm, (by repeat' (first | (with_reducible assumption) | (with_reducible exact Below.refl _ _) | (with_reducible refine below_drewN ?_ _) | (with_reducible refine below_bytes ?_ ?_ _) | (with_reducible refine Below.alloc ?_ ?_ _) | (with_reducible refine Below.drew ?_) | (with_reducible refine Below.setCell ?_ ?_ _) | go_size))⟩
      | true =>
        go_wp2_with fail
        go_roundw
        case rel => exact ⟨k + 1, by omega, by go_num, all_to HAL.out HY.out HS.out, BXw4.out⟩
        case measure => simp [intOf]; omega
    · have HALL : Hid (x.words.all (someB wd) = true) := Lib.hid (all_end HAL.out (by rw [N2.out]; omega))
      clear HAL
      go_wp2_with fail
      go_loopw [32] (fun i W => ∃ k : Nat, k ≤ n3 ∧ i = .int .i64 k ∧ (x.redirs.take k).all (redirB wd) = true ∧ Bx w W 41 #[.int .i64 (m - 1)] 37 #[.int .i64 x.kind, .string x.name, .slice a1 n1 c1, .slice a2 n2 c2, .slice a3 n3 c3, .slice a4 n4 c4, .slice a5 n5 c5]) (fun i _ => n3 - (intOf i).toNat)
      case atStart => exact ⟨0, Nat.zero_le _, rfl, by simp, BX2.out⟩
      case round =>
        obtain ⟨j, hj, rfl, hal2, hbx2⟩ := hrel
        have HAL2 := Lib.hid hal2
        have BX3 := Lib.hid hbx2
        clear hal2 hbx2 b0 bf bl p0 p1 p2 p3 p4 p5 p6 pl
        have K0BX3 := Lib.hid BX3.out.b0
        have K1BX3 := Lib.hid BX3.out.b1
        have hBBX3 := BX3.out.hb
        have b0 := K0BX3.out.cell 0
        have bf := K0BX3.out.free 0
        have bl := K0BX3.out.lt
        simp at b0
        have p0 := K1BX3.out.cell 0
        have p1 := K1BX3.out.cell 1
        have p2 := K1BX3.out.cell 2
        have p3 := K1BX3.out.cell 3
        have p4 := K1BX3.out.cell 4
        have p5 := K1BX3.out.cell 5
        have p6 := K1BX3.out.cell 6
        have pl := K1BX3.out.lt
        simp at p0 p1 p2 p3 p4 p5 p6
        by_cases hlt2 : j < n3
        · obtain ⟨y, hy⟩ : ∃ y, x.redirs[j]? = .some y := ⟨_, List.getElem?_eq_getElem (by rw [N3.out]; exact hlt2)⟩
          obtain ⟨b, o, c, hi, hbB, hce, hC, _⟩ := HRD.out.at 32 31 Tryd.underlying32 (by kernel_rfl) hy
          have HY := Lib.hid hy
          have HC := Lib.hid hC
          obtain ⟨a6, c6, rfl, _⟩ := hC.open
          have CR := Lib.hid fun W hW => redir_any wd (m - 1) HWD.out y W d _ (HV.out.below HV.out.2 hW) (HC.out.later (w' := W) hW)
          have e0 := (hBBX3.cell hbB).trans (hce 0 _ rfl)
          have e1 := (hBBX3.cell hbB).trans (hce 1 _ rfl)
          have e2 := (hBBX3.cell hbB).trans (hce 2 _ rfl)
          have e3 := (hBBX3.cell hbB).trans (hce 3 _ rfl)
          have hbB' := Nat.lt_of_lt_of_le hbB hBBX3.size
          rw [Nat.add_zero] at e0
          obtain ⟨rr, hrr⟩ : ∃ r, redirB wd y = r := ⟨_, rfl⟩
          rw [hrr] at CR
          have HS := Lib.hid hrr
          clear hy hce hC hrr
          go_wp2_with fail
          refine (CR.out _ (by repeat' (first | (with_reducible assumption) | (with_reducible exact Below.refl _ _) | (with_reducible refine below_drewN ?_ _) | (with_reducible refine below_bytes ?_ ?_ _) | (with_reducible refine Below.alloc ?_ ?_ _) | (with_reducible refine Below.drew ?_) | (with_reducible refine Below.setCell ?_ ?_ _) | go_size))).mono ?_
          rintro e w4 ⟨rfl, hb0⟩
          obtain ⟨hcw4, hfw4⟩ := bcell hb0
          have hzw4 := hb0.size
          try simp only [World.size_alloc, World.size_setCell, World.size_drew, size_drewN] at hzw4
          have hBw4 : Below w.heap.size w w4 := since hb0 (by repeat' (first | (with_reducible assumption) | (with_reducible exact Below.refl _ _) | (with_reducible refine below_drewN ?_ _) | (with_reducible refine below_bytes ?_ ?_ _) | (with_reducible refine Below.alloc ?_ ?_ _) | (with_reducible refine Below.drew ?_) | (with_reducible refine Below.setCell ?_ ?_ _) | go_size))
          have BXw4 := Lib.hid (Bx.later BX3.out (since hb0 (by repeat' (first | (with_reducible assumption) | (with_reducible exact Below.refl _ _) | (with_reducible refine below_drewN ?_ _) | (with_reducible refine below_bytes ?_ ?_ _) | (with_reducible refine Below.alloc ?_ ?_ _) | (with_reducible refine Below.drew ?_) | (with_reducible refine Below.setCell ?_ ?_ _) | go_size))))
          clear hb0
          cases rr with
          | false =>
            have HE : Hid (r = false) := Lib.hid (by rw [← HR.out, all_no HY.out HS.out]; simp)
            go_wp2_with fail
            go_ret
            exact ⟨ret_bool HE.out.symm, (by repeat' (first | (with_reducible assumption) | (with_reducible exact Below.refl _ _) | (with_reducible refine below_drewN ?_ _) | (with_reducible refine below_bytes ?_ ?_ _) | (with_reducible refine Below.alloc ?_ ?_ _) | (with_reducible refine Below.drew ?_) | (with_reducible refine Below.setCell ?_ ?_ _) | go_size))⟩
          | true =>
            go_wp2_with fail
            go_roundw
            case rel => exact ⟨j + 1, by omega, by go_num, all_to HAL2.out HY.out HS.out, BXw4.out⟩
            case measure => simp [intOf]; omega
        · have HR2 : Hid (r = (bif x.kind == 1 then rs else bif (x.kind == 2 || x.kind == 3) || (x.kind == 4 || x.kind == 5) then rj else rc)) := Lib.hid (by rw [← HR.out, HALL.out, all_end HAL2.out (by rw [N3.out]; omega)]; rfl)
          cases k1 : (x.kind == 1) with
          | true =>
            have HE : Hid (r = rs) := Lib.hid (by rw [HR2.out, k1]; rfl)
            go_wp2_with fail
            refine (CS.out _ (by repeat' (first | (with_reducible assumption) | (with_reducible exact Below.refl _ _) | (with_reducible refine below_drewN ?_ _) | (with_reducible refine below_bytes ?_ ?_ _) | (with_reducible refine Below.alloc ?_ ?_ _) | (with_reducible refine Below.drew ?_) | (with_reducible refine Below.setCell ?_ ?_ _) | go_size))).mono ?_
            rintro e w5 ⟨rfl, hb0⟩
            obtain ⟨hcw5, hfw5⟩ := bcell hb0
            have hzw5 := hb0.size
            try simp only [World.size_alloc, World.size_setCell, World.size_drew, size_drewN] at hzw5
            have hBw5 : Below w.heap.size w w5 := since hb0 (by repeat' (first | (with_reducible assumption) | (with_reducible exact Below.refl _ _) | (with_reducible refine below_drewN ?_ _) | (with_reducible refine below_bytes ?_ ?_ _) | (with_reducible refine Below.alloc ?_ ?_ _) | (with_reducible refine Below.drew ?_) | (with_reducible refine Below.setCell ?_ ?_ _) | go_size))
            have BXw5 := Lib.hid (Bx.later BX3.out (since hb0 (by repeat' (first | (with_reducible assumption) | (with_reducible exact Below.refl _ _) | (with_reducible refine below_drewN ?_ _) | (with_reducible refine below_bytes ?_ ?_ _) | (with_reducible refine Below.alloc ?_ ?_ _) | (with_reducible refine Below.drew ?_) | (with_reducible refine Below.setCell ?_ ?_ _) | go_size))))
            clear hb0
            go_wp2_with fail
            go_ret
            exact ⟨ret_bool HE.out.symm, (by repeat' (first | (with_reducible assumption) | (with_reducible exact Below.refl _ _) | (with_reducible refine below_drewN ?_ _) | (with_reducible refine below_bytes ?_ ?_ _) | (with_reducible refine Below.alloc ?_ ?_ _) | (with_reducible refine Below.drew ?_) | (with_reducible refine Below.setCell ?_ ?_ _) | go_size))⟩
          | false =>
          cases k2 : (x.kind == 2) with
          | true =>
            have HE : Hid (r = rj) := Lib.hid (by rw [HR2.out, k1, k2]; rfl)
            go_wp2_with fail
            refine (CJ.out _ (by repeat' (first | (with_reducible assumption) | (with_reducible exact Below.refl _ _) | (with_reducible refine below_drewN ?_ _) | (with_reducible refine below_bytes ?_ ?_ _) | (with_reducible refine Below.alloc ?_ ?_ _) | (with_reducible refine Below.drew ?_) | (with_reducible refine Below.setCell ?_ ?_ _) | go_size))).mono ?_
            rintro e w5 ⟨rfl, hb0⟩
            obtain ⟨hcw5, hfw5⟩ := bcell hb0
            have hzw5 := hb0.size
            try simp only [World.size_alloc, World.size_setCell, World.size_drew, size_drewN] at hzw5
            have hBw5 : Below w.heap.size w w5 := since hb0 (by repeat' (first | (with_reducible assumption) | (with_reducible exact Below.refl _ _) | (with_reducible refine below_drewN ?_ _) | (with_reducible refine below_bytes ?_ ?_ _) | (with_reducible refine Below.alloc ?_ ?_ _) | (with_reducible refine Below.drew ?_) | (with_reducible refine Below.setCell ?_ ?_ _) | go_size))
            have BXw5 := Lib.hid (Bx.later BX3.out (since hb0 (by repeat' (first | (with_reducible assumption) | (with_reducible exact Below.refl _ _) | (with_reducible refine below_drewN ?_ _) | (with_reducible refine below_bytes ?_ ?_ _) | (with_reducible refine Below.alloc ?_ ?_ _) | (with_reducible refine Below.drew ?_) | (with_reducible refine Below.setCell ?_ ?_ _) | go_size))))
            clear hb0
            go_wp2_with fail
            go_ret
            exact ⟨ret_bool HE.out.symm, (by repeat' (first | (with_reducible assumption) | (with_reducible exact Below.refl _ _) | (with_reducible refine below_drewN ?_ _) | (with_reducible refine below_bytes ?_ ?_ _) | (with_reducible refine Below.alloc ?_ ?_ _) | (with_reducible refine Below.drew ?_) | (with_reducible refine Below.setCell ?_ ?_ _) | go_size))⟩
          | false =>
          cases k3 : (x.kind == 3) with
          | true =>
            have HE : Hid (r = rj) := Lib.hid (by rw [HR2.out, k1, k2, k3]; rfl)
            go_wp2_with fail
            refine (CJ.out _ (by repeat' (first | (with_reducible assumption) | (with_reducible exact Below.refl _ _) | (with_reducible refine below_drewN ?_ _) | (with_reducible refine below_bytes ?_ ?_ _) | (with_reducible refine Below.alloc ?_ ?_ _) | (with_reducible refine Below.drew ?_) | (with_reducible refine Below.setCell ?_ ?_ _) | go_size))).mono ?_
            rintro e w5 ⟨rfl, hb0⟩
            obtain ⟨hcw5, hfw5⟩ := bcell hb0
            have hzw5 := hb0.size
            try simp only [World.size_alloc, World.size_setCell, World.size_drew, size_drewN] at hzw5
            have hBw5 : Below w.heap.size w w5 := since hb0 (by repeat' (first | (with_reducible assumption) | (with_reducible exact Below.refl _ _) | (with_reducible refine below_drewN ?_ _) | (with_reducible refine below_bytes ?_ ?_ _) | (with_reducible refine Below.alloc ?_ ?_ _) | (with_reducible refine Below.drew ?_) | (with_reducible refine Below.setCell ?_ ?_ _) | go_size))
            have BXw5 := Lib.hid (Bx.later BX3.out (since hb0 (by repeat' (first | (with_reducible assumption) | (with_reducible exact Below.refl _ _) | (with_reducible refine below_drewN ?_ _) | (with_reducible refine below_bytes ?_ ?_ _) | (with_reducible refine Below.alloc ?_ ?_ _) | (with_reducible refine Below.drew ?_) | (with_reducible refine Below.setCell ?_ ?_ _) | go_size))))
            clear hb0
            go_wp2_with fail
            go_ret
            exact ⟨ret_bool HE.out.symm, (by repeat' (first | (with_reducible assumption) | (with_reducible exact Below.refl _ _) | (with_reducible refine below_drewN ?_ _) | (with_reducible refine below_bytes ?_ ?_ _) | (with_reducible refine Below.alloc ?_ ?_ _) | (with_reducible refine Below.drew ?_) | (with_reducible refine Below.setCell ?_ ?_ _) | go_size))⟩
          | false =>
          cases k4 : (x.kind == 4) with
          | true =>
            have HE : Hid (r = rj) := Lib.hid (by rw [HR2.out, k1, k2, k3, k4]; rfl)
            go_wp2_with fail
            refine (CJ.out _ (by repeat' (first | (with_reducible assumption) | (with_reducible exact Below.refl _ _) | (with_reducible refine below_drewN ?_ _) | (with_reducible refine below_bytes ?_ ?_ _) | (with_reducible refine Below.alloc ?_ ?_ _) | (with_reducible refine Below.drew ?_) | (with_reducible refine Below.setCell ?_ ?_ _) | go_size))).mono ?_
            rintro e w5 ⟨rfl, hb0⟩
            obtain ⟨hcw5, hfw5⟩ := bcell hb0
            have hzw5 := hb0.size
            try simp only [World.size_alloc, World.size_setCell, World.size_drew, size_drewN] at hzw5
            have hBw5 : Below w.heap.size w w5 := since hb0 (by repeat' (first | (with_reducible assumption) | (with_reducible exact Below.refl _ _) | (with_reducible refine below_drewN ?_ _) | (with_reducible refine below_bytes ?_ ?_ _) | (with_reducible refine Below.alloc ?_ ?_ _) | (with_reducible refine Below.drew ?_) | (with_reducible refine Below.setCell ?_ ?_ _) | go_size))
            have BXw5 := Lib.hid (Bx.later BX3.out (since hb0 (by repeat' (first | (with_reducible assumption) | (with_reducible exact Below.refl _ _) | (with_reducible refine below_drewN ?_ _) | (with_reducible refine below_bytes ?_ ?_ _) | (with_reducible refine Below.alloc ?_ ?_ _) | (with_reducible refine Below.drew ?_) | (with_reducible refine Below.setCell ?_ ?_ _) | go_size))))
            clear hb0
            go_wp2_with fail
            go_ret
            exact ⟨ret_bool HE.out.symm, (by repeat' (first | (with_reducible assumption) | (with_reducible exact Below.refl _ _) | (with_reducible refine below_drewN ?_ _) | (with_reducible refine below_bytes ?_ ?_ _) | (with_reducible refine Below.alloc ?_ ?_ _) | (with_reducible refine Below.drew ?_) | (with_reducible refine Below.setCell ?_ ?_ _) | go_size))⟩
          | false =>
          cases k5 : (x.kind == 5) with
          | true =>
            have HE : Hid (r = rj) := Lib.hid (by rw [HR2.out, k1, k2, k3, k4, k5]; rfl)
            go_wp2_with fail
            refine (CJ.out _ (by repeat' (first | (with_reducible assumption) | (with_reducible exact Below.refl _ _) | (with_reducible refine below_drewN ?_ _) | (with_reducible refine below_bytes ?_ ?_ _) | (with_reducible refine Below.alloc ?_ ?_ _) | (with_reducible refine Below.drew ?_) | (with_reducible refine Below.setCell ?_ ?_ _) | go_size))).mono ?_
            rintro e w5 ⟨rfl, hb0⟩
            obtain ⟨hcw5, hfw5⟩ := bcell hb0
            have hzw5 := hb0.size
            try simp only [World.size_alloc, World.size_setCell, World.size_drew, size_drewN] at hzw5
            have hBw5 : Below w.heap.size w w5 := since hb0 (by repeat' (first | (with_reducible assumption) | (with_reducible exact Below.refl _ _) | (with_reducible refine below_drewN ?_ _) | (with_reducible refine below_bytes ?_ ?_ _) | (with_reducible refine Below.alloc ?_ ?_ _) | (with_reducible refine Below.drew ?_) | (with_reducible refine Below.setCell ?_ ?_ _) | go_size))
            have BXw5 := Lib.hid (Bx.later BX3.out (since hb0 (by repeat' (first | (with_reducible assumption) | (with_reducible exact Below.refl _ _) | (with_reducible refine below_drewN ?_ _) | (with_reducible refine below_bytes ?_ ?_ _) | (with_reducible refine Below.alloc ?_ ?_ _) | (with_reducible refine Below.drew ?_) | (with_reducible refine Below.setCell ?_ ?_ _) | go_size))))
            clear hb0
            go_wp2_with fail
            go_ret
            exact ⟨ret_bool HE.out.symm, (by repeat' (first | (with_reducible assumption) | (with_reducible exact Below.refl _ _) | (with_reducible refine below_drewN ?_ _) | (with_reducible refine below_bytes ?_ ?_ _) | (with_reducible refine Below.alloc ?_ ?_ _) | (with_reducible refine Below.drew ?_) | (with_reducible refine Below.setCell ?_ ?_ _) | go_size))⟩
          | false =>
            have HE : Hid (r = rc) := Lib.hid (by rw [HR2.out, k1, k2, k3, k4, k5]; rfl)
            go_wp2_with fail
            refine (CC.out _ (by repeat' (first | (with_reducible assumption) | (with_reducible exact Below.refl _ _) | (with_reducible refine below_drewN ?_ _) | (with_reducible refine below_bytes ?_ ?_ _) | (with_reducible refine Below.alloc ?_ ?_ _) | (with_reducible refine Below.drew ?_) | (with_reducible refine Below.setCell ?_ ?_ _) | go_size))).mono ?_
            rintro e w5 ⟨rfl, hb0⟩
            obtain ⟨hcw5, hfw5⟩ := bcell hb0
            have hzw5 := hb0.size
            try simp only [World.size_alloc, World.size_setCell, World.size_drew, size_drewN] at hzw5
            have hBw5 : Below w.heap.size w w5 := since hb0 (by repeat' (first | (with_reducible assumption) | (with_reducible exact Below.refl _ _) | (with_reducible refine below_drewN ?_ _) | (with_reducible refine below_bytes ?_ ?_ _) | (with_reducible refine Below.alloc ?_ ?_ _) | (with_reducible refine Below.drew ?_) | (with_reducible refine Below.setCell ?_ ?_ _) | go_size))
            have BXw5 := Lib.hid (Bx.later BX3.out (since hb0 (by repeat' (first | (with_reducible assumption) | (with_reducible exact Below.refl _ _) | (with_reducible refine below_drewN ?_ _) | (with_reducible refine below_bytes ?_ ?_ _) | (with_reducible refine Below.alloc ?_ ?_ _) | (with_reducible refine Below.drew ?_) | (with_reducible refine Below.setCell ?_ ?_ _) | go_size))))
            clear hb0
            go_wp2_with fail
            go_ret
            exact ⟨ret_bool HE.out.symm, (by repeat' (first | (with_reducible assumption) | (with_reducible exact Below.refl _ _) | (with_reducible refine below_drewN ?_ _) | (with_reducible refine below_bytes ?_ ?_ _) | (with_reducible refine Below.alloc ?_ ?_ _) | (with_reducible refine Below.drew ?_) | (with_reducible refine Below.setCell ?_ ?_ _) | go_size))⟩

theorem okW_zero (l : List Pt) : partsB (fun _ _ => false) none l = okW 0 l := by rw [okW]; cases l <;> rfl
theorem okL_zero (l : List Nd) : l.all (fun _ => false) = okL 0 l := by rw [okL]; cases l <;> rfl
/-- word and list, at every level. -/
theorem levels : ∀ (n : Nat) (m : Int), m.toNat = n → m ≤ 9223372036854775807 → WordAt m (okW n) ∧ ListAt m (okL n)
  | 0, m, hn, _ => by
    have e1 : okW 0 = partsB (fun _ _ => false) none := funext fun l => (okW_zero l).symm
    have e2 : okL 0 = fun l => l.all (fun _ => false) := funext fun l => (okL_zero l).symm
    rw [e1, e2]
    exact ⟨word_any m _ fun W q x d c pv _ hp _ => part_no m (by omega) q x W d c pv hp, list_any m _ fun W x d c _ hp => node_no m (by omega) x W d c hp⟩
  | n + 1, m, hn, hm => by
    obtain ⟨h1, h2⟩ := levels n (m - 1) (by omega) (by omega)
    have e1 : okW (n + 1) = partsB (partB (okW n) (okL n)) none := funext fun l => by rw [okW]
    have e2 : okL (n + 1) = fun l => l.all (nodeB (okW n) (okL n)) := funext fun l => by rw [okL]
    rw [e1, e2]
    exact ⟨word_any m _ fun W q x d c pv hv hp hq => part_yes _ _ m (by omega) hm h1 h2 q x W d c pv hv hp hq, list_any m _ fun W x d c hv hp => node_yes _ _ m (by omega) hm h1 h2 x W d c hv hp⟩

theorem right_any (l : List Nd) (v : Value) (m : Int) (w : World) (d : Nat) (hm : m ≤ 9223372036854775807) (hv : Held w) (hl : NdsIn w w.heap.size d l v) :
    Calls Tryd.prog 6 #[v, .int .i64 m] w fun e w' => e = .returned (.bool (okL m.toNat l)) ∧ Below w.heap.size w w' := by
  have CL := Lib.hid ((levels m.toNat m rfl hm).2 w l v d true hv hl)
  rw [Bool.true_or, Bool.and_true] at CL
  obtain ⟨a, cap, rfl, _⟩ := hl.shape
  clear hl
  go_enter Tryd.func6, Tryd.ntmps6
  go_wp2_with fail
  refine CL.out.mono ?_
  rintro e w1 ⟨rfl, hb⟩
  have HB := Lib.hid hb
  clear hb
  go_wp2
  go_ret
  exact ⟨rfl, HB.out⟩
end Go.Proofs.YtnackmnoldkihaaDoor
namespace Go.Proofs.YtnackmnoldkihaaDoor
open Go.RowKit

/-- A redirection and where its word lies. -/
abbrev DocV := Rd × Value
def docCells (r : DocV) : List Value := [.int .i64 r.1.fd, .string r.1.op, .string r.1.tag, r.2]
/-- The writer in block b, one of the call's own (from B on): what has been written, and the here-documents that come, which lie in the slice dv. -/
def Wr (W : World) (B b : Nat) (dv : Value) (out : List UInt8) (ds : List DocV) : Prop :=
  B ≤ b ∧ (∃ v p, W.heap[b]? = some (.cells #[p, v, dv] 49 (0, 0)) ∧ (p = .pointer none ∨ p = .pointer (some ⟨b, 0, none⟩)) ∧ OwnB W B v out) ∧
    W.ownsRow B 31 4 dv ds.length (ds.flatMap docCells) ∧ (∀ r ∈ ds, ∃ d, RdC W B d r.1 (docCells r)) ∧ ds.length ≤ out.length
/-- What stays where the writer of block b writes on: all below B; every block that is neither it, nor its here-documents', nor a row of bytes. -/
structure Fr (W W' : World) (B b : Nat) (dv dv' : Value) : Prop where
  low : Below B W W'
  kept : ∀ k o, W.heap[k]? = some o → k ≠ b → dv.ownBlock ≠ some k → (∀ c fz, o ≠ .cells c 5 fz) → W'.heap[k]? = some o
  own : ∀ k, dv'.ownBlock = some k → dv.ownBlock = some k ∨ W.heap.size ≤ k
section
variable {W W' W'' : World} {B b : Nat} {dv dv' dv'' : Value} {out : List UInt8} {ds : List DocV}
theorem Fr.refl (W : World) (B b : Nat) (dv : Value) : Fr W W B b dv dv := ⟨Below.refl _ _, fun _ _ h _ _ _ => h, fun _ h => .inl h⟩
theorem Fr.trans (h : Fr W W' B b dv dv') (h' : Fr W' W'' B b dv' dv'') : Fr W W'' B b dv dv'' :=
  ⟨h.low.trans h'.low, fun k o ho hb hd hu => h'.kept k o (h.kept k o ho hb hd hu) hb (fun e => by
    rcases h.own k e with h1 | h1
    · exact hd h1
    · have := (Array.getElem?_eq_some_iff.1 ho).1; omega) hu, fun k hk => by
    rcases h'.own k hk with h1 | h1
    · exact h.own k h1
    · exact .inr (Nat.le_trans h.low.size h1)⟩
/-- Where only new blocks have been made. -/
theorem Fr.of_below (hb : Below W.heap.size W W') (hB : B ≤ W.heap.size) : Fr W W' B b dv dv :=
  ⟨hb.mono hB, fun k o ho _ _ _ => (hb.block k (Array.getElem?_eq_some_iff.1 ho).1).trans ho, fun _ h => .inl h⟩
theorem Wr.lt (h : Wr W B b dv out ds) : b < W.heap.size := by
  obtain ⟨_, ⟨v, p, hb, _⟩, _⟩ := h
  exact (Array.getElem?_eq_some_iff.1 hb).1
theorem Wr.le (h : Wr W B b dv out ds) : B ≤ W.heap.size := by have := h.lt; have := h.1; omega
theorem Wr.below (h : Wr W B b dv out ds) (hb : Below W.heap.size W W') : Wr W' B b dv out ds := by
  have hle := h.le
  have hlt := h.lt
  obtain ⟨h1, ⟨v, p, h2, h3, h4⟩, h5, h6, h7⟩ := h
  exact ⟨h1, ⟨v, p, (hb.block b hlt).trans h2, h3, h4.below hb⟩, own_below h5 hb, fun r hr => by
    obtain ⟨d, hd⟩ := h6 r hr
    exact ⟨d, hd.keep fun _ _ _ _ hs => hs.below (hb.mono hle)⟩, h7⟩
/-- A box of the call's own stays. -/
theorem Fr.blk {g : Nat} {t : TypeId} {cs : Array Value} (h : Fr W W' B b dv dv') (hk : Blk W g t cs) (hg : g ≠ b) (hd : dv.ownBlock ≠ some g) (ht : t ≠ 5) : Blk W' g t cs :=
  h.kept g _ hk hg hd fun c fz e => by injection e with _ e2 _; exact ht e2
end
theorem writer_lies : liesAt Tryd.prog Tryd.prog.depth 49 (3 / Tryd.prog.cellsOf 49) 0 47 1 = true := by kernel_rfl

set_option maxRecDepth 100000 in
theorem check_used (b : Nat) (w : World) (h0 : w.cell? ⟨b, 0, none⟩ = some (.pointer (some ⟨b, 0, none⟩))) :
    Calls Tryd.prog 44 #[.pointer (some ⟨b, 0, none⟩)] w fun e w' => e = .returned (.tuple #[]) ∧ w = w' := by
  obtain ⟨j, hj, _⟩ := Option.map_eq_some_iff.1 (show (Tryd.prog.info? 47).map (·.size) = some 2 by kernel_rfl)
  go_enter Tryd.func44, Tryd.ntmps44
  go_wp2
  rw [Lib.run_neq_ptr_same w _ Tryd.underlying44 hj]
  go_wp2
  go_end0
  exact ⟨rfl, rfl⟩
set_option maxRecDepth 100000 in
theorem check_fresh (b : Nat) (w : World) (h0 : w.cell? ⟨b, 0, none⟩ = some (.pointer none)) (hsh : w.shape? b = some (49, 3)) (hfz : w.frozen? ⟨b, 0, none⟩ = false) :
    Calls Tryd.prog 44 #[.pointer (some ⟨b, 0, none⟩)] w fun e w' => e = .returned (.tuple #[]) ∧ w.setCell ⟨b, 0, none⟩ (.pointer (some ⟨b, 0, none⟩)) = w' := by
  obtain ⟨j, hj, hjs⟩ := Option.map_eq_some_iff.1 (show (Tryd.prog.info? 47).map (·.size) = some 2 by kernel_rfl)
  go_enter Tryd.func44, Tryd.ntmps44
  go_wp2
  rw [Lib.run_to_unsafe w ⟨b, 0, none⟩ Tryd.underlying44 Tryd.underlying88 hj (by rw [hjs]; decide) hsh (Nat.zero_lt_succ 2)]
  simp only [Result.andThen]
  rw [Oper.upon_value]
  go_wp2
  rw [run_callFunc_extern Tryd.func58 (by kernel_rfl) (by kernel_rfl) (by kernel_rfl) (e := Extern.AbiNoEscape.same) (by kernel_rfl)]
  rw [Lib.run_noEscape]
  simp only [Result.andThen]
  rw [Oper.upon_value]
  go_wp2
  rw [Lib.run_from_unsafe w ⟨b, 0, none⟩ Tryd.underlying88 Tryd.underlying44 hj hsh writer_lies]
  simp only [Result.andThen]
  rw [Oper.upon_value]
  go_wp2
  go_end0
  exact ⟨rfl, rfl⟩

/-- .. with its own address in it. -/
def WrU (W : World) (B b : Nat) (v dv : Value) (out : List UInt8) (ds : List DocV) : Prop :=
  B ≤ b ∧ W.heap[b]? = some (.cells #[.pointer (some ⟨b, 0, none⟩), v, dv] 49 (0, 0)) ∧ OwnB W B v out ∧
    W.ownsRow B 31 4 dv ds.length (ds.flatMap docCells) ∧ (∀ r ∈ ds, ∃ d, RdC W B d r.1 (docCells r)) ∧ ds.length ≤ out.length
theorem WrU.wr {W : World} {B b : Nat} {v dv : Value} {out : List UInt8} {ds : List DocV} (h : WrU W B b v dv out ds) : Wr W B b dv out ds :=
  ⟨h.1, ⟨v, _, h.2.1, .inr rfl, h.2.2.1⟩, h.2.2.2⟩
theorem row_ne {w : World} {B n size : Nat} {e T : TypeId} {v : Value} {xs : List Value} {b : Nat} {cs : Array Value} {fr : Nat × Nat} (hown : w.ownsRow B e size v n xs) (hb : w.heap[b]? = some (.cells cs T fr)) (hTe : T ≠ e) : v.ownBlock ≠ some b := by
  rcases hown.2 with ⟨rfl, _⟩ | ⟨g, cap, cur, rfl, _, hg, _⟩
  · simp [Value.ownBlock]
  · intro e'
    simp [Value.ownBlock] at e'
    subst e'
    rw [hb] at hg
    injection hg with hg
    injection hg with _ h2 _
    exact hTe h2
/-- A store into the writer's own block keeps the rows. -/
theorem row_set {w : World} {B n size : Nat} {e : TypeId} {v : Value} {xs : List Value} {b : Nat} (hown : w.ownsRow B e size v n xs) (hne : v.ownBlock ≠ some b) (i : Nat) (u : Value) : (w.setCell ⟨b, i, none⟩ u).ownsRow B e size v n xs := by
  refine ⟨hown.1, ?_⟩
  rcases hown.2 with h | ⟨g, cap, cur, rfl, hB, hg, r⟩
  · exact .inl h
  · refine .inr ⟨g, cap, cur, rfl, hB, ?_, r⟩
    rw [Below.heap_setCell _ _ _ _ (by simp [Value.ownBlock] at hne; exact hne)]
    exact hg
theorem heap_put {w : World} {b : Nat} {cs : Array Value} {T : TypeId} (h : w.heap[b]? = some (.cells cs T (0, 0))) (i : Nat) (u : Value) : (w.setCell ⟨b, i, none⟩ u).heap[b]? = some (.cells (cs.setIfInBounds i u) T (0, 0)) := Blk.put h i u
theorem others_fr {W W' : World} {B b : Nat} {dv : Value} (hb : Below B W W') (h : Lib.OthersKept 5 (some b) W W') : Fr W W' B b dv dv :=
  ⟨hb, fun k o ho hne _ hu => h k o ho (by simpa using hne) hu, fun _ h => .inl h⟩

theorem check_any {W : World} {B b : Nat} {dv : Value} {out : List UInt8} {ds : List DocV} (h : Wr W B b dv out ds) :
    Calls Tryd.prog 44 #[.pointer (some ⟨b, 0, none⟩)] W fun e w' => e = .returned (.tuple #[]) ∧ ∃ v, WrU w' B b v dv out ds ∧ Below B W w' ∧ Lib.OthersKept 5 (some b) W w' := by
  obtain ⟨hB, ⟨v, p, hbk, hp, hown⟩, hdn, hdat, hds⟩ := h
  rcases hp with rfl | rfl
  · refine (check_fresh b W (by rw [Lib.cell_of_heap hbk]; rfl) (by simp [World.shape?, hbk]) (by simp [World.frozen?, hbk])).mono ?_
    rintro e w' ⟨rfl, rfl⟩
    refine ⟨rfl, v, ⟨hB, heap_put hbk 0 _, row_set hown (row_ne hown hbk (by decide)) 0 _, row_set hdn (row_ne hdn hbk (by decide)) 0 _, fun r hr => ?_, hds⟩, (Below.refl B W).setCell (p := ⟨b, 0, none⟩) hB _, (Lib.OthersKept.refl _ _ W).setCell ⟨b, 0, none⟩ rfl _⟩
    obtain ⟨d, hd⟩ := hdat r hr
    exact ⟨d, hd.keep fun _ _ _ _ hs => hs.below ((Below.refl B W).setCell (p := ⟨b, 0, none⟩) hB _)⟩
  · refine (check_used b W (by rw [Lib.cell_of_heap hbk]; rfl)).mono ?_
    rintro e w' ⟨rfl, rfl⟩
    exact ⟨rfl, v, ⟨hB, hbk, hown, hdn, hdat, hds⟩, Below.refl B _, Lib.OthersKept.refl _ _ _⟩

theorem strCells_own (s : ByteArray) (bl : List UInt8) : (bl.map fun u => Value.int .u8 ((u.toNat : Nat) : Int)) ++ Lib.strCells s = ((bl ++ L s).map fun u => Value.int .u8 ((u.toNat : Nat) : Int)) := by
  rw [List.map_append]; rfl

set_option maxHeartbeats 2000000 in
set_option maxRecDepth 100000 in
theorem writeS {W : World} {B b : Nat} {dv : Value} {out : List UInt8} {ds : List DocV} (h : Wr W B b dv out ds) (s : ByteArray) (hlen : out.length + s.size ≤ 140737488355328) :
    Calls Tryd.prog 24 #[.pointer (some ⟨b, 0, none⟩), .string s] W fun e w' => e = .returned (.tuple #[.int .i64 s.size, .nilIface]) ∧ Wr w' B b dv (out ++ L s) ds ∧ Fr W w' B b dv dv := by
  obtain ⟨i0, hi, hz0, hz1, hz2⟩ := info_parts info8
  have CK := Lib.hid (check_any h)
  have hle := h.le
  clear h
  go_enter Tryd.func24, Tryd.ntmps24
  go_wp2_with fail
  refine CK.out.mono ?_
  rintro e w1 ⟨rfl, v, ⟨hB, hbk, hown, hdn, hdat, hds⟩, hb1, hk1⟩
  have hw1 : W.heap.size ≤ w1.heap.size := hb1.size
  have c0 : w1.cell? ⟨b, 0, none⟩ = some (.pointer (some ⟨b, 0, none⟩)) := by rw [Lib.cell_of_heap hbk]; rfl
  have c1 : w1.cell? ⟨b, 1, none⟩ = some v := by rw [Lib.cell_of_heap hbk]; rfl
  have HB := Lib.hid hbk
  have HO := Lib.hid hown
  have HD := Lib.hid hdn
  have HDT := Lib.hid hdat
  have HB1 := Lib.hid hb1
  have HK1 := Lib.hid hk1
  clear hbk hown hdn hdat hb1 hk1
  go_wp2_with (at_builtin; refine Lib.wpList_append_own_string _ rfl _ _ 45 9 rfl B 5 i0 Tryd.underlying45 Tryd.underlying9 hi hz0 hz1 hz2 _ _ _ rfl HO.out s rfl ?c3 ?c4 ?c5 ?_)
  case c3 => unfold maxLen; omega
  case c4 => omega
  case c5 => omega
  intro v' w2 hown' hgrow _
  have hlt : b < w1.heap.size := (Array.getElem?_eq_some_iff.1 HB.out).1
  have hne := row_ne HO.out HB.out (by decide)
  have hb2 : w2.heap[b]? = some (.cells #[.pointer (some ⟨b, 0, none⟩), v, dv] 49 (0, 0)) := by
    rw [hgrow.block b hlt (fun e => hne e.symm)]
    exact HB.out
  have hdn2 : w2.ownsRow B 31 4 dv ds.length (ds.flatMap docCells) := HD.out.kept hgrow (by
    rcases HO.out.2 with ⟨hv, _⟩ | ⟨g, cap, cur, hv, _, hg, _⟩
    · rcases HD.out.2 with ⟨hd, _⟩ | ⟨g2, _, _, hd, _⟩
      · left; rw [hd]; rfl
      · right; rw [hv, hd]; simp [Value.ownBlock]
    · right; rw [hv]; exact row_ne HD.out hg (by decide))
  have d1 : w2.cell? ⟨b, 1, none⟩ = some v := by rw [Lib.cell_of_heap hb2]; rfl
  have f1 : w2.frozen? ⟨b, 1, none⟩ = false := Lib.frozen_of_heap hb2 1
  obtain ⟨ao, n', cap, rfl⟩ : ∃ ao n' cap, v' = .slice ao n' cap := by
    obtain ⟨a, c, e⟩ := own_shape hown'
    exact ⟨_, _, _, e⟩
  have hbl2 : Below B w1 w2 := (Below.refl B w1).grown hgrow (by omega) (fun k hk => (HO.out.lt k hk).1)
  have HB2 := Lib.hid hb2
  have HO2 := Lib.hid hown'
  have HD2 := Lib.hid hdn2
  have HG := Lib.hid hgrow
  have HBL := Lib.hid hbl2
  clear hb2 hown' hdn2 hgrow hne hbl2
  go_wp2
  go_ret2
  have hs2 := (Below.refl B w2).setCell (p := ⟨b, 1, none⟩) hB (Value.slice ao n' cap)
  refine ⟨rfl, ⟨hB, ⟨.slice ao n' cap, _, heap_put HB2.out 1 _, .inr rfl, ?_⟩, row_set HD2.out (row_ne HD2.out HB2.out (by decide)) 1 _, fun r hr => ?_, by rw [List.length_append]; omega⟩, others_fr ((HB1.out.trans HBL.out).trans hs2) ((HK1.out.grown HG.out ?_).setCell ⟨b, 1, none⟩ rfl _)⟩
  · have h1 := row_set HO2.out (row_ne HO2.out HB2.out (by decide)) 1 (Value.slice ao n' cap)
    rw [strCells_own] at h1
    have e : (out ++ L s).length = out.length + s.size := by rw [List.length_append, L_size]
    unfold OwnB
    rw [e]
    exact h1
  · obtain ⟨d, hd⟩ := HDT.out r hr
    exact ⟨d, hd.keep fun _ _ _ _ hs => hs.below (HBL.out.trans hs2)⟩
  · intro g hg
    rcases HO.out.2 with ⟨hv, _⟩ | ⟨g', cap, cur, hv, _, hgg, _⟩
    · rw [hv] at hg; simp [Value.ownBlock] at hg
    · rw [hv] at hg; simp [Value.ownBlock] at hg; subst hg; exact ⟨cur, _, hgg⟩

set_option maxHeartbeats 2000000 in
set_option maxRecDepth 100000 in
theorem writeB {W : World} {B b : Nat} {dv : Value} {out : List UInt8} {ds : List DocV} (h : Wr W B b dv out ds) (c : UInt8) (hlen : out.length + 1 ≤ 140737488355328) :
    Calls Tryd.prog 27 #[.pointer (some ⟨b, 0, none⟩), .int .u8 ((c.toNat : Nat) : Int)] W fun e w' => e = .returned .nilIface ∧ Wr w' B b dv (out ++ [c]) ds ∧ Fr W w' B b dv dv := by
  obtain ⟨i0, hi, hz0, hz1, hz2⟩ := info_parts info8
  have CK := Lib.hid (check_any h)
  have hle := h.le
  clear h
  go_enter Tryd.func27, Tryd.ntmps27
  go_wp2_with fail
  refine CK.out.mono ?_
  rintro e w1 ⟨rfl, v, ⟨hB, hbk, hown, hdn, hdat, hds⟩, hb1, hk1⟩
  have hw1 : W.heap.size ≤ w1.heap.size := hb1.size
  have c0 : w1.cell? ⟨b, 0, none⟩ = some (.pointer (some ⟨b, 0, none⟩)) := by rw [Lib.cell_of_heap hbk]; rfl
  have c1 : w1.cell? ⟨b, 1, none⟩ = some v := by rw [Lib.cell_of_heap hbk]; rfl
  have HB := Lib.hid hbk
  have HO := Lib.hid hown
  have HD := Lib.hid hdn
  have HDT := Lib.hid hdat
  have HB1 := Lib.hid hb1
  have HK1 := Lib.hid hk1
  clear hbk hown hdn hdat hb1 hk1
  go_wp2_with (at_builtin; refine append_byte_lies (v := v) rfl _ _ rfl rfl (HO.out.alloc _) c rfl (cell_new _ _ _) (by omega) (by simp; omega) ?_)
  intro g cap w2 hown' hgrow hg
  have hlt : b < w1.heap.size := (Array.getElem?_eq_some_iff.1 HB.out).1
  have hne := row_ne HO.out HB.out (by decide)
  have hb1' : (w1.alloc (.cells #[.int .u8 ((c.toNat : Nat) : Int)] 5)).heap[b]? = some (.cells #[.pointer (some ⟨b, 0, none⟩), v, dv] 49 (0, 0)) := (Lib.alloc_old w1 _ b hlt).trans HB.out
  have hb2 : w2.heap[b]? = some (.cells #[.pointer (some ⟨b, 0, none⟩), v, dv] 49 (0, 0)) := by
    rw [hgrow.block b (by simp; omega) (fun e => hne e.symm)]
    exact hb1'
  have hdn2 : w2.ownsRow B 31 4 dv ds.length (ds.flatMap docCells) := (HD.out.alloc _).kept hgrow (by
    rcases HO.out.2 with ⟨hv, _⟩ | ⟨g, cap, cur, hv, _, hg, _⟩
    · rcases HD.out.2 with ⟨hd, _⟩ | ⟨g2, _, _, hd, _⟩
      · left; rw [hd]; rfl
      · right; rw [hv, hd]; simp [Value.ownBlock]
    · right; rw [hv]; exact row_ne HD.out hg (by decide))
  have d1 : w2.cell? ⟨b, 1, none⟩ = some v := by rw [Lib.cell_of_heap hb2]; rfl
  have f1 : w2.frozen? ⟨b, 1, none⟩ = false := Lib.frozen_of_heap hb2 1
  have hbl2 : Below B w1 w2 := ((Below.refl B w1).alloc (by omega) _).grown hgrow (by simp; omega) (fun k hk => (HO.out.lt k hk).1)
  have hkk : Lib.OthersKept 5 (some b) W w2 := (HK1.out.alloc _).grown hgrow (by
    intro g hg
    rcases HO.out.2 with ⟨hv, _⟩ | ⟨g', cap, cur, hv, _, hgg, _⟩
    · rw [hv] at hg; simp [Value.ownBlock] at hg
    · rw [hv] at hg; simp [Value.ownBlock] at hg; subst hg
      exact ⟨cur, _, (Lib.alloc_old w1 _ _ (Array.getElem?_eq_some_iff.1 hgg).1).trans hgg⟩)
  have HB2 := Lib.hid hb2
  have HO2 := Lib.hid hown'
  have HD2 := Lib.hid hdn2
  have HBL := Lib.hid hbl2
  have HKK := Lib.hid hkk
  clear hb2 hown' hdn2 hgrow hne hbl2 hkk hg hb1'
  go_wp2
  go_ret
  have hs2 := (Below.refl B w2).setCell (p := ⟨b, 1, none⟩) hB (Value.slice (some ⟨g, 0, none⟩) (out.length + 1) cap)
  refine ⟨rfl, ⟨hB, ⟨.slice (some ⟨g, 0, none⟩) (out.length + 1) cap, _, heap_put HB2.out 1 _, .inr rfl, ?_⟩, row_set HD2.out (row_ne HD2.out HB2.out (by decide)) 1 _, fun r hr => ?_, by rw [List.length_append]; omega⟩, others_fr ((HB1.out.trans HBL.out).trans hs2) (HKK.out.setCell ⟨b, 1, none⟩ rfl _)⟩
  · exact row_set HO2.out (row_ne HO2.out HB2.out (by decide)) 1 _
  · obtain ⟨d, hd⟩ := HDT.out r hr
    exact ⟨d, hd.keep fun _ _ _ _ hs => hs.below (HBL.out.trans hs2)⟩

set_option maxHeartbeats 2000000 in
set_option maxRecDepth 100000 in
theorem writeBD {W : World} {B b : Nat} {dv : Value} {out : List UInt8} {ds : List DocV} (h : Wr W B b dv out ds) (c : UInt8) (hlen : out.length + 1 ≤ 140737488355328) (u : FrameMode) :
    CallsD Tryd.prog 27 #[.pointer (some ⟨b, 0, none⟩), .int .u8 ((c.toNat : Nat) : Int)] u W fun e u' w' => u' = u ∧ (e = .returned .nilIface ∧ Wr w' B b dv (out ++ [c]) ds ∧ Fr W w' B b dv dv) := by
  obtain ⟨i0, hi, hz0, hz1, hz2⟩ := info_parts info8
  have CK := Lib.hid (check_any h)
  have hle := h.le
  clear h
  go_enter_d Tryd.func27, Tryd.ntmps27
  go_wp2_with fail
  refine CK.out.mono ?_
  rintro e w1 ⟨rfl, v, ⟨hB, hbk, hown, hdn, hdat, hds⟩, hb1, hk1⟩
  have hw1 : W.heap.size ≤ w1.heap.size := hb1.size
  have c0 : w1.cell? ⟨b, 0, none⟩ = some (.pointer (some ⟨b, 0, none⟩)) := by rw [Lib.cell_of_heap hbk]; rfl
  have c1 : w1.cell? ⟨b, 1, none⟩ = some v := by rw [Lib.cell_of_heap hbk]; rfl
  have HB := Lib.hid hbk
  have HO := Lib.hid hown
  have HD := Lib.hid hdn
  have HDT := Lib.hid hdat
  have HB1 := Lib.hid hb1
  have HK1 := Lib.hid hk1
  clear hbk hown hdn hdat hb1 hk1
  go_wp2_with (at_builtin; refine append_byte_lies (v := v) rfl _ _ rfl rfl (HO.out.alloc _) c rfl (cell_new _ _ _) (by omega) (by simp; omega) ?_)
  intro g cap w2 hown' hgrow hg
  have hlt : b < w1.heap.size := (Array.getElem?_eq_some_iff.1 HB.out).1
  have hne := row_ne HO.out HB.out (by decide)
  have hb1' : (w1.alloc (.cells #[.int .u8 ((c.toNat : Nat) : Int)] 5)).heap[b]? = some (.cells #[.pointer (some ⟨b, 0, none⟩), v, dv] 49 (0, 0)) := (Lib.alloc_old w1 _ b hlt).trans HB.out
  have hb2 : w2.heap[b]? = some (.cells #[.pointer (some ⟨b, 0, none⟩), v, dv] 49 (0, 0)) := by
    rw [hgrow.block b (by simp; omega) (fun e => hne e.symm)]
    exact hb1'
  have hdn2 : w2.ownsRow B 31 4 dv ds.length (ds.flatMap docCells) := (HD.out.alloc _).kept hgrow (by
    rcases HO.out.2 with ⟨hv, _⟩ | ⟨g, cap, cur, hv, _, hg, _⟩
    · rcases HD.out.2 with ⟨hd, _⟩ | ⟨g2, _, _, hd, _⟩
      · left; rw [hd]; rfl
      · right; rw [hv, hd]; simp [Value.ownBlock]
    · right; rw [hv]; exact row_ne HD.out hg (by decide))
  have d1 : w2.cell? ⟨b, 1, none⟩ = some v := by rw [Lib.cell_of_heap hb2]; rfl
  have f1 : w2.frozen? ⟨b, 1, none⟩ = false := Lib.frozen_of_heap hb2 1
  have hbl2 : Below B w1 w2 := ((Below.refl B w1).alloc (by omega) _).grown hgrow (by simp; omega) (fun k hk => (HO.out.lt k hk).1)
  have hkk : Lib.OthersKept 5 (some b) W w2 := (HK1.out.alloc _).grown hgrow (by
    intro g hg
    rcases HO.out.2 with ⟨hv, _⟩ | ⟨g', cap, cur, hv, _, hgg, _⟩
    · rw [hv] at hg; simp [Value.ownBlock] at hg
    · rw [hv] at hg; simp [Value.ownBlock] at hg; subst hg
      exact ⟨cur, _, (Lib.alloc_old w1 _ _ (Array.getElem?_eq_some_iff.1 hgg).1).trans hgg⟩)
  have HB2 := Lib.hid hb2
  have HO2 := Lib.hid hown'
  have HD2 := Lib.hid hdn2
  have HBL := Lib.hid hbl2
  have HKK := Lib.hid hkk
  clear hb2 hown' hdn2 hgrow hne hbl2 hkk hg hb1'
  go_wp2
  go_ret
  have hs2 := (Below.refl B w2).setCell (p := ⟨b, 1, none⟩) hB (Value.slice (some ⟨g, 0, none⟩) (out.length + 1) cap)
  refine ⟨rfl, ⟨hB, ⟨.slice (some ⟨g, 0, none⟩) (out.length + 1) cap, _, heap_put HB2.out 1 _, .inr rfl, ?_⟩, row_set HD2.out (row_ne HD2.out HB2.out (by decide)) 1 _, fun r hr => ?_, by rw [List.length_append]; omega⟩, others_fr ((HB1.out.trans HBL.out).trans hs2) (HKK.out.setCell ⟨b, 1, none⟩ rfl _)⟩
  · exact row_set HO2.out (row_ne HO2.out HB2.out (by decide)) 1 _
  · obtain ⟨d, hd⟩ := HDT.out r hr
    exact ⟨d, hd.keep fun _ _ _ _ hs => hs.below (HBL.out.trans hs2)⟩

set_option maxHeartbeats 2000000 in
set_option maxRecDepth 100000 in
theorem string_any {W : World} {B b : Nat} {dv : Value} {l : List UInt8} {ds : List DocV} (h : Wr W B b dv l ds) (h0 : l ≠ []) :
    Calls Tryd.prog 11 #[.pointer (some ⟨b, 0, none⟩)] W fun e w' => e = .returned (.string (S l)) ∧ Below B W w' := by
  obtain ⟨hB, ⟨v, p, hbk, _, hown⟩, _, _⟩ := h
  have hl0 : l.length ≠ 0 := by simpa using h0
  obtain ⟨g, cap, cur, rfl, hbg, hg, hnc, hcm, hcs, htake⟩ : ∃ g cap cur, v = .slice (some ⟨g, 0, none⟩) l.length cap ∧ B ≤ g ∧ W.heap[g]? = some (.cells cur 5 (0, 0)) ∧ l.length ≤ cap ∧ cap ≤ maxLen ∧ cur.size = cap * 1 ∧ cur.toList.take (l.length * 1) = l.map fun u => Value.int .u8 ((u.toNat : Nat) : Int) := by
    rcases hown.2 with ⟨_, hz⟩ | ⟨g, cap, cur, hv, r⟩
    · exact absurd hz hl0
    · exact ⟨g, cap, cur, hv, r⟩
  have c1 : W.drew.cell? ⟨b, 1, none⟩ = some (.slice (some ⟨g, 0, none⟩) l.length cap) := by
    have : W.drew.heap[b]? = some (.cells #[p, .slice (some ⟨g, 0, none⟩) l.length cap, dv] 49 (0, 0)) := hbk
    rw [Lib.cell_of_heap this]; rfl
  have hSD : (Builtin.unsafeSliceData_ #[45] 59 #[.slice (some ⟨g, 0, none⟩) l.length cap]).run Tryd.prog W.drew = .ok (.pointer (some ⟨g, 0, none⟩)) W.drew :=
    Lib.run_unsafeSliceData_row _ _ _ _ _ _ (by omega)
  have hUS : (Builtin.unsafeString_ #[59, 3] 9 #[.pointer (some ⟨g, 0, none⟩), .int .i64 l.length]).run Tryd.prog W.drew = .ok (.string ⟨l.toArray⟩) (W.drew.freeze ⟨g, 0, none⟩ l.length) := by
    refine Lib.run_unsafeString_row W.drew 59 3 9 5 Tryd.underlying59 (by kernel_rfl) g cur.size (by have hg' : W.drew.heap[g]? = some (.cells cur 5 (0, 0)) := hg; simp [World.shape?, hg']) l h0 (by omega) (by unfold maxLen at hcm; omega) ?_
    intro j x hx
    exact hown.cells (g := g) rfl j (.int .u8 x.toNat) (by simp [hx])
  clear hown hg hcs htake hbk
  go_enter Tryd.func11, Tryd.ntmps11
  go_wp2
  go_region
  all_goals (go_wp2; go_ret; exact ⟨rfl, Lib.below_freeze (Below.drew (Below.refl B W)) (p := ⟨g, 0, none⟩) hbg _⟩)
end Go.Proofs.YtnackmnoldkihaaDoor
