/-
  ExpandSets, the variable being set: the walk.
-/
import Derived.Test.YtjeinpadcknfbaaGreatDoorWB8
import Derived.Defers
import Derived.Test.YtjeinpadcknfbaaGreatDoorWB7
import Derived.Deep.RegionLaw
import Derived.Deep.RegionHeld3
import Derived.Test.YtjeinpadcknfbaaGreatDoorWB1
set_option linter.unusedVariables false
set_option linter.unusedSimpArgs false
/-
  param of x, which is not set, for =; pieces of a parameter: the walks.
-/
namespace Go.Proofs.YtjeinpadcknfbaaGreatDoor
open Go.RowKit

section
variable {lo g mb n : Nat} {l : List (Nm × Xd)} {xs : List ByteArray} {st : Int}
set_option maxHeartbeats 4000000 in
set_option maxRecDepth 100000 in
theorem param_put (v0 : Value) (xg : Nat) (hv : Value) (strict : Bool) (wa : Option Addr) (wc : Nat) (y : Pa) (w : World) (hX : XBk w xg g hv strict) (hxg : xg ≠ g ∧ xg ≠ mb) (hV : VS v0 w lo g mb n l xs st) (hn : n ≤ 1000) (hW : WordAt w wa wc y) (ht : find l xN = d0) :
    Calls Tryz.prog 34 #[.pointer (some ⟨xg, 0, none⟩), paV ⟨2, true, ⟨#[120]⟩, ⟨#[61]⟩, wa, 1, wc⟩] w (SetP v0 w.heap.size ⟨y.t, true, false, false⟩ lo g mb n l xs st w) := by
  have CP : Hid (∀ W, Below w.heap.size w W → Calls Tryz.prog 52 #[.pointer (some ⟨g, 0, none⟩), .string ⟨#[120]⟩] W fun e w' => e = .returned (.tuple #[.string ⟨#[]⟩, .bool false]) ∧ Below W.heap.size W w') := Lib.hid fun W hW => by
    have := vparam_x W (⟨v0, hV.below hW⟩ : VSt W lo g mb n l xs st)
    rw [ht] at this
    exact this
  have CI : Hid (∀ W, Below w.heap.size w W → Calls Tryz.prog 54 #[.pointer (some ⟨xg, 0, none⟩), paV ⟨2, true, ⟨#[120]⟩, ⟨#[61]⟩, wa, 1, wc⟩, .string ⟨#[61]⟩] W (SetP v0 W.heap.size ⟨y.t, true, false, false⟩ lo g mb n l xs st W)) := Lib.hid fun W hb => instead_set v0 xg hv strict wa wc y W (hX.below hb hX.lt) hxg (hV.below hb) hn (hW.below hb) ht
  have CC := Lib.hid (noColon ⟨#[61]⟩ (by decide) (by decide))
  have x0 : w.cell? ⟨xg, 0, none⟩ = some (.pointer (some ⟨g, 0, none⟩)) := by have := hX.cell 0; simpa using this
  have hxl := hX.lt
  clear hX hV ht hW hxg
  go_enter Tryz.func34, Tryz.ntmps34
  go_wp2_with fail
  obtain ⟨W0, hW0⟩ : ∃ W0, W0 = w.alloc (.cells #[.int .i64 2, .bool true, .string ⟨#[120]⟩, .string ⟨#[61]⟩, .slice wa 1 wc, .slice none 0 0] 36) := ⟨_, rfl⟩
  have KB : Hid (PaB W0 w.heap.size ⟨2, true, ⟨#[120]⟩, ⟨#[61]⟩, wa, 1, wc⟩) := Lib.hid (by rw [hW0]; exact Blk.new _ _ _)
  have HB0 : Hid (Below w.heap.size w W0) := Lib.hid (by rw [hW0]; go_grown)
  have hs0 : w.heap.size < W0.heap.size := by rw [hW0]; simp
  have y0 := (HB0.out.cell (p := ⟨xg, 0, none⟩) hxl).trans x0
  obtain ⟨_, y1, y2, y3, y4, _⟩ := KB.out.cells
  simp only at y1 y2 y3 y4
  rw [← hW0]
  clear hW0
  go_region_with (go_at_call 52; (with_reducible refine (CP.out _ HB0.out.drew).mono ?_); rintro e w1 ⟨rfl, hb1⟩; have HB1 := Lib.hid hb1; obtain ⟨z0, z1, z2, z3, z4, z5⟩ := (PaB.below (w := W0.drew) KB.out hb1 hs0).cells; simp only at z0 z1 z2 z3 z4 z5; clear hb1)
  all_goals
    have HB1' := Lib.hid (HB0.out.drew.trans (HB1.out.mono (Nat.le_of_lt hs0)))
    go_wp2_with fail
    refine (CC.out _).mono ?_
    rintro e w2 ⟨rfl, rfl⟩
    go_wp2_with fail
    refine (CI.out _ HB1'.out).mono ?_
    rintro e w3 ⟨v3, rfl, ho3, hV3, hb3⟩
    have HO3 := Lib.hid ho3
    have HV3 := Lib.hid hV3
    have HB3 := Lib.hid ((But.of_below (g := g) (mb := mb) HB1'.out).trans hb3)
    clear hb3 ho3 hV3
    go_wp2_with fail
    go_ret
    exact ⟨_, rfl, own_from HO3.out HB1'.out.size, HV3.out, HB3.out⟩
end

set_option maxHeartbeats 2000000 in
theorem pieces_par (xg g mb : Nat) (p : Pa) (x : In) (v : Value) (w : World) (R : World → Prop) (hl : Sl w w.heap.size 6 v 1 (paC p)) (hk : p.kind = 2) (hz : x.t.size ≤ 1000000) (hR : Kept R)
    (hC : ∀ W, Below w.heap.size w W → Calls Tryz.prog 34 #[.pointer (some ⟨xg, 0, none⟩), paV p] W fun e w' => ∃ v', e = .returned v' ∧ OneP W.heap.size x v' w' ∧ R w' ∧ But g mb W w') : PiecesC xg v x w R := by
  have hl' : Sl w w.heap.size 6 v [p].length ([p].flatMap paC) := by simpa using hl
  have CT := Lib.hid (tilde_any xg [p] p [] rfl v w hl' (.inl (by rw [hk]; decide)))
  obtain ⟨b1, o1, i1, hb1, c1, c2, c3, c4, c5, c6⟩ := pa_at hl' (k := 0) (x := p) rfl (0 : Int) rfl
  obtain ⟨a, cap, rfl⟩ : ∃ a cap, v = .slice a 1 cap := by
    obtain ⟨_, a, cap, h, _⟩ := hl
    exact ⟨a, cap, h⟩
  obtain ⟨kind, q, t, op, wa, wn, wc⟩ := p
  simp only at hk c1 c2 c3 c4 c5 c6
  subst hk
  have HC := Lib.hid (And.intro c1 (And.intro c2 (And.intro c3 (And.intro c4 (And.intro c5 c6)))))
  have CS : Hid (∀ (W : World) v' B, W.ownsRow B 80 4 v' 1 (inC x) → Calls Tryz.prog 40 #[v'] W fun e w' => e = .returned (.int .i64 (x.t.size : Nat)) ∧ Below W.heap.size W w') := Lib.hid fun W v' B hv => size_one x v' W (Sl.of_own hv) hz
  have CPm := Lib.hid hC
  have HR := Lib.hid hR
  have HIX := Lib.hid (in_one x)
  have hicl : (inC x).length = 4 := rfl
  obtain ⟨ic, hic⟩ : ∃ ic, ic = inC x := ⟨_, rfl⟩
  unfold PiecesC OneP
  rw [← hic] at CS HIX hicl ⊢
  obtain ⟨xz, hxz⟩ : ∃ z, z = x.t.size := ⟨_, rfl⟩
  rw [← hxz] at CS hz
  have HIC := Lib.hid hic
  clear hl hl' c1 c2 c3 c4 c5 c6 hC hR hic hxz
  go_enter Tryz.func22, Tryz.ntmps22
  go_wp2_with fail
  refine CT.out.mono ?_
  rintro e w1 ⟨rfl, hb⟩
  have HB1 := Lib.hid hb
  have hlt : b1 < w.heap.size := hb1
  have c1 := (hb.cell (p := ⟨b1, o1, none⟩) hlt).trans HC.out.1
  have c2 := (hb.cell (p := ⟨b1, o1 + 1, none⟩) hlt).trans HC.out.2.1
  have c3 := (hb.cell (p := ⟨b1, o1 + 2, none⟩) hlt).trans HC.out.2.2.1
  have c4 := (hb.cell (p := ⟨b1, o1 + 3, none⟩) hlt).trans HC.out.2.2.2.1
  have c5 := (hb.cell (p := ⟨b1, o1 + 4, none⟩) hlt).trans HC.out.2.2.2.2.1
  have c6 := (hb.cell (p := ⟨b1, o1 + 5, none⟩) hlt).trans HC.out.2.2.2.2.2
  have hlt1 : b1 < w1.heap.size := Nat.lt_of_lt_of_le hlt hb.size
  clear hb
  go_wp2_with fail
  refine wp_loop_rounds 2 ?_
  rw [rounds_succ]
  go_wp2_with fail
  refine (CPm.out _ (HB1.out.trans (Below.mono (B := w1.heap.size) (by go_grown) HB1.out.size))).mono ?_
  rintro e w2 ⟨v2, rfl, ho2, hr2, hb2⟩
  have hs2 : w.heap.size ≤ w2.heap.size := by
    have h1 := HB1.out.size
    have h2 := hb2.size
    simp at h2
    omega
  have HR2 := Lib.hid hr2
  have hsl : Sl w2 w2.heap.size 4 v2 1 ic := by rw [HIC.out]; exact Sl.of_own ho2
  obtain ⟨a2, cap2, rfl⟩ : ∃ a cap, v2 = .slice a 1 cap := by
    obtain ⟨_, a, cap, h, _⟩ := hsl
    exact ⟨a, cap, h⟩
  have HSL := Lib.hid hsl
  clear ho2 hr2 hb2 hsl
  go_wp2_with (at_builtin; go_must ((refine append_sl rfl _ _ 66 rfl w.heap.size 80 Tryz.underlying66 infoIn rfl (by decide) (v := .slice none 0 0) (n := 0) (xs := []) rfl (World.ownsRow_nil _ _ _ _) (m := 1) (news := ic) rfl HSL.out (by omega) HIX.out (by omega) hs2 ?_); intro g1 cap1 w3 hown hgrow hlie hglt))
  have HO3 : Hid (w3.ownsRow w.heap.size 80 4 (.slice (some ⟨g1, 0, none⟩) 1 cap1) 1 ic) := Lib.hid (by simpa using hown)
  have HR3 : Hid (R w3) := Lib.hid (HR.out _ _ HR2.out (Below.grown (B := w2.heap.size) (Below.refl _ _) hgrow (Nat.le_refl _) (fun k hk => by cases hk)))
  clear hown hgrow
  refine (CS.out _ _ _ HO3.out).mono ?_
  rintro e w4 ⟨rfl, hb4⟩
  have HO4 := Lib.hid (own_below HO3.out hb4)
  have HR4 := Lib.hid (HR.out _ _ HR3.out hb4)
  clear hb4
  go_wp2_with fail
  rw [rounds_succ]
  go_wp2_with fail
  go_ret
  exact ⟨_, rfl, HO4.out, HR4.out⟩
end Go.Proofs.YtjeinpadcknfbaaGreatDoor
/-
  guard; Text: the walks.
-/
namespace Go.Proofs.YtjeinpadcknfbaaGreatDoor
open Go.RowKit

set_option maxRecDepth 100000 in
theorem catch_ret (a : Nat) (w : World) :
    CallsD Tryz.prog 26 #[.pointer (some ⟨a, 0, none⟩)] .returning w fun e u' w' => e = .returned (.tuple #[]) ∧ u' = .returning ∧ w' = w := by
  refine callsD_of_wpS Tryz.func26 rfl fun c₀ cs hu => ?_
  apply wpS_seq
  apply wpS_region
  simp [wpOpsS, go_sem, recoverD, hu, Tryz.ntmps26, Exit.thenS]
  refine wpS_of_wp ?_
  rw [show (#[Value.pointer (some ⟨a, 0, none⟩)] ++ (Array.replicate 10 undef).setIfInBounds 3 Value.nilIface) = #[Value.pointer (some ⟨a, 0, none⟩), undef, undef, undef, Value.nilIface, undef, undef, undef, undef, undef, undef] from rfl]
  go_wp2_with fail
  cases c₀
  simp_all [bodyPostS, results, Tryz.results26]
theorem guard_any (F : FuncId) (hF : F = 17 ∨ F = 20) (cap : Array Value) (w : World) (R : World → Prop) (hR : ∀ W u, R W → R (W.setCell ⟨w.heap.size, 0, none⟩ u))
    (hC : Calls Tryz.prog F cap (w.alloc (.cells #[.int .i64 0] 37)) fun e w' => e = .returned (.tuple #[]) ∧ Blk w' w.heap.size 37 #[.int .i64 0] ∧ R w') :
    Calls Tryz.prog 16 #[.func (.func F) #[] cap] w fun e w' => e = .returned (.int .i64 0) ∧ R w' := by
  have hmf : ∀ (fn : Fn) (first cap : Array Value) (w : World), (Instr.makeFunc fn first cap).run Tryz.prog w = .ok (.func fn first cap) w := fun _ _ _ _ => rfl
  have HR := Lib.hid hR
  have HC := Lib.hid hC
  clear hR hC
  rcases hF with rfl | rfl
  all_goals
    go_enter_defers Tryz.func16, Tryz.ntmps16
    go_wp2_with fail
    refine HC.out.mono ?_
    rintro e w1 ⟨rfl, hk, hr⟩
    have HR1 := Lib.hid hr
    have HK := Lib.hid hk
    have c0 := hk.cell 0
    have f0 := hk.free 0
    have hl := hk.lt
    simp at c0
    clear hk hr
    go_wp2_with fail
    refine leaves_cons (f := 26) (args := #[.pointer (some ⟨w.heap.size, 0, none⟩)]) (by simp) (by simp [go_sem]) ?_
    refine (catch_ret w.heap.size _).mono ?_
    rintro e u' w9 ⟨rfl, rfl, rfl⟩
    simp [Leaves, settle, results, Tryz.results16, go_sem, c0]
    exact HR.out _ _ HR1.out
end Go.Proofs.YtjeinpadcknfbaaGreatDoor
/-
  Text: the walk.
-/
namespace Go.Proofs.YtjeinpadcknfbaaGreatDoor
open Go.RowKit

theorem Blk.at {w : World} {g : Nat} {t : TypeId} {cs : Array Value} (hg : g = w.heap.size) : Blk (w.alloc (.cells cs t)) g t cs := by subst hg; exact Blk.new w t cs
theorem text1_any (xg : Nat) (wa : Option Addr) (wc : Nat) (s : ByteArray) (b : Nat) (W : World) (h0 : Blk W b 27 #[.pointer (some ⟨xg, 0, none⟩)]) (h1 : Blk W (b + 1) 33 #[.slice wa 1 wc])
    (Q : World → Prop) (hT : TextC xg (.slice wa 1 wc) s W (fun w' => Blk w' (b + 2) 9 #[.string ⟨#[]⟩] ∧ Q w')) :
    Calls Tryz.prog 17 #[.pointer (some ⟨b, 0, none⟩), .pointer (some ⟨b + 1, 0, none⟩), .pointer (some ⟨b + 2, 0, none⟩)] W fun e w' => e = .returned (.tuple #[]) ∧ ∃ w1, w' = w1.setCell ⟨b + 2, 0, none⟩ (.string s) ∧ Blk w1 (b + 2) 9 #[.string ⟨#[]⟩] ∧ Q w1 := by
  have HT := Lib.hid hT
  have c0 := h0.cell 0
  have c1 := h1.cell 0
  simp at c0 c1
  clear h0 h1 hT
  go_enter Tryz.func17, Tryz.ntmps17
  go_wp2_with fail
  refine HT.out.mono ?_
  rintro e w1 ⟨rfl, hk, hq⟩
  have HQ := Lib.hid (And.intro hk hq)
  have d0 := hk.cell 0
  have f0 := hk.free 0
  simp at d0
  clear hk hq
  go_wp2_with fail
  go_end0
  exact ⟨rfl, _, rfl, HQ.out.1, HQ.out.2⟩

set_option maxHeartbeats 2000000 in
theorem Text_any (xg g mb : Nat) (wa : Option Addr) (wc : Nat) (s : ByteArray) (w : World) (R : World → Prop) (hg : g < w.heap.size) (hmb : mb < w.heap.size) (hR : Kept R) (hS : ∀ W p u, w.heap.size ≤ p.block → R W → R (W.setCell p u))
    (hT : ∀ W, Below w.heap.size w W → TextC xg (.slice wa 1 wc) s W (fun w' => R w' ∧ But g mb W w')) :
    Calls Tryz.prog 9 #[.pointer (some ⟨xg, 0, none⟩), .slice wa 1 wc] w fun e w' => e = .returned (.tuple #[.string s, .int .i64 0]) ∧ R w' := by
  have hmf : ∀ (fn : Fn) (first cap : Array Value) (w : World), (Instr.makeFunc fn first cap).run Tryz.prog w = .ok (.func fn first cap) w := fun _ _ _ _ => rfl
  have CG : Hid (Calls Tryz.prog 16 #[.func (.func 17) #[] #[.pointer (some ⟨w.heap.size, 0, none⟩), .pointer (some ⟨w.heap.size + 1, 0, none⟩), .pointer (some ⟨w.heap.size + 1 + 1, 0, none⟩)]]
      (((w.alloc (.cells #[.pointer (some ⟨xg, 0, none⟩)] 27)).alloc (.cells #[.slice wa 1 wc] 33)).alloc (.cells #[.string ⟨#[]⟩] 9))
      fun e w' => e = .returned (.int .i64 0) ∧ (R w' ∧ Blk w' (w.heap.size + 1 + 1) 9 #[.string s])) := Lib.hid (by
    obtain ⟨W3, hW3⟩ : ∃ W3, W3 = (((w.alloc (.cells #[.pointer (some ⟨xg, 0, none⟩)] 27)).alloc (.cells #[.slice wa 1 wc] 33)).alloc (.cells #[.string ⟨#[]⟩] 9)) := ⟨_, rfl⟩
    have hz : W3.heap.size = w.heap.size + 3 := by rw [hW3]; simp
    have k0 : Blk W3 w.heap.size 27 #[.pointer (some ⟨xg, 0, none⟩)] := by rw [hW3]; exact ((Blk.new _ _ _).alloc _).alloc _
    have k1 : Blk W3 (w.heap.size + 1) 33 #[.slice wa 1 wc] := by rw [hW3]; exact (Blk.at (by simp)).alloc _
    have k2 : Blk W3 (w.heap.size + 2) 9 #[.string ⟨#[]⟩] := by rw [hW3]; exact Blk.at (by simp)
    have hb : Below w.heap.size w W3 := by rw [hW3]; go_grown
    rw [← hW3]
    clear hW3
    refine guard_any _ (.inl rfl) _ W3 (fun w' => R w' ∧ Blk w' (w.heap.size + 1 + 1) 9 #[.string s]) (fun W u h => ⟨hS _ _ _ (by show w.heap.size ≤ W3.heap.size; omega) h.1, h.2.far (by show _ ≠ W3.heap.size; omega) u⟩) ?_
    have hb4 : Below w.heap.size w (W3.alloc (.cells #[.int .i64 0] 37)) := hb.alloc (by omega) _
    refine (text1_any xg wa wc s w.heap.size _ (k0.alloc _) (k1.alloc _) (fun w' => R w' ∧ Blk w' W3.heap.size 37 #[.int .i64 0]) ?_).mono ?_
    · refine (hT _ hb4).mono ?_
      rintro e w' ⟨h1, h2, h3⟩
      exact ⟨h1, (k2.alloc _).but h3 (by omega) (by omega), h2, (Blk.new W3 _ _).but h3 (by omega) (by omega)⟩
    · rintro e w' ⟨h1, w1, rfl, hk, h2, h3⟩
      refine ⟨h1, h3.far (by show W3.heap.size ≠ w.heap.size + 2; omega) _, hS _ _ _ (by show w.heap.size ≤ w.heap.size + 2; omega) h2, ?_⟩
      exact hk.put 0 _)
  have HS := Lib.hid hS
  clear hT hR hS hg hmb
  go_enter Tryz.func9, Tryz.ntmps9
  go_wp2_with fail
  refine CG.out.mono ?_
  rintro e w1 ⟨rfl, hr1, hk1⟩
  have HR1 := Lib.hid hr1
  have c1 := hk1.cell 0
  have f1 := hk1.free 0
  have hl1 := hk1.lt
  simp at c1
  clear hr1 hk1
  go_wp2_with fail
  refine bodyPost_ret (v := .tuple #[.string s, .int .i64 0]) (by simp [results, Tryz.results9, go_sem, c1]) rfl ?_
  exact ⟨rfl, HS.out _ _ _ (by show w.heap.size ≤ w.heap.size + 1 + 1; omega) HR1.out⟩
end Go.Proofs.YtjeinpadcknfbaaGreatDoor
/-
  Text of a parameter: what it returns, what it leaves.
-/
namespace Go.Proofs.YtjeinpadcknfbaaGreatDoor
open Go.RowKit

/-- Text of one part. -/
theorem Text_of (xg : Nat) (va : Option Addr) (vc : Nat) (p : Pa) (x : In) (w : World) (hxl : xg < w.heap.size) (hl : Sl w w.heap.size 6 (.slice va 1 vc) 1 (paC p)) (hk : p.kind = 2) (hz : x.t.size ≤ 500) (hb : x.b = false)
    (hC : ∀ W, Below w.heap.size w W → Calls Tryz.prog 34 #[.pointer (some ⟨xg, 0, none⟩), paV p] W (ParamP W.heap.size x W)) :
    Calls Tryz.prog 9 #[.pointer (some ⟨xg, 0, none⟩), .slice va 1 vc] w fun e w' => e = .returned (.tuple #[.string x.t, .int .i64 0]) ∧ Below w.heap.size w w' := by
  refine Text_any xg xg xg va vc x.t w (fun W => Below w.heap.size w W) hxl hxl (kept_below _ _ (Nat.le_refl _)) (fun W p u hp h => h.setCell hp u) fun W hW => ?_
  refine text_of (R := fun W' => Below w.heap.size w W' ∧ But xg xg W W') ?_ (fun w1 w2 h1 h2 => ⟨h1.1.trans (h2.mono h1.1.size), h1.2.on h2⟩) hb hz
  refine pieces_par xg xg xg p x _ W _ ((hl.below hW).mono hW.size) hk (by omega) (fun w1 w2 h1 h2 => ⟨h1.1.trans (h2.mono h1.1.size), h1.2.on h2⟩) fun W1 hW1 => ?_
  have hw1 : Below w.heap.size w W1 := hW.trans (hW1.mono hW.size)
  refine (hC W1 hw1).mono ?_
  rintro e w' ⟨v', h1, h2, h3⟩
  exact ⟨v', h1, h2, ⟨hw1.trans (h3.mono hw1.size), (But.of_below hW1).on h3⟩, But.of_below h3⟩

section
variable {lo g mb n : Nat} {l : List (Nm × Xd)} {xs : List ByteArray} {st : Int}
/-- Text of = where the variable is not set. -/
theorem Text_put (v0 : Value) (xg : Nat) (hv : Value) (strict : Bool) (va : Option Addr) (vc : Nat) (wa : Option Addr) (wc : Nat) (y : Pa) (w : World) (hX : XBk w xg g hv strict) (hxg : xg ≠ g ∧ xg ≠ mb) (hV : VS v0 w lo g mb n l xs st) (hn : n ≤ 1000) (hW : WordAt w wa wc y) (ht : find l xN = d0)
    (hl : Sl w w.heap.size 6 (.slice va 1 vc) 1 (paC ⟨2, true, ⟨#[120]⟩, ⟨#[61]⟩, wa, 1, wc⟩)) :
    Calls Tryz.prog 9 #[.pointer (some ⟨xg, 0, none⟩), .slice va 1 vc] w fun e w' => e = .returned (.tuple #[.string y.t, .int .i64 0]) ∧ VS v0 w' lo g mb (n + 1) (putL l xN ⟨L y.t, true, false, false⟩) xs st ∧ But g mb w w' := by
  have hgl := hV.lt
  have hol : ∀ b, v0.ownBlock = some b → b < w.heap.size := hV.own_lt
  have hz := hW.2.2.2
  refine Text_any xg g mb va vc y.t w (fun W => VS v0 W lo g mb (n + 1) (putL l xN ⟨L y.t, true, false, false⟩) xs st ∧ But g mb w W) hgl.1 hgl.2 (fun w1 w2 h1 h2 => ⟨h1.1.below h2, h1.2.on h2⟩)
    (fun W p u hp h => ⟨h.1.far (by omega) (by omega) (fun e => by have := hol _ e; omega) u, h.2.setNew hp u⟩) fun W hb => ?_
  refine text_of (x := ⟨y.t, true, false, false⟩) (R := fun W' => (VS v0 W' lo g mb (n + 1) (putL l xN ⟨L y.t, true, false, false⟩) xs st ∧ But g mb w W') ∧ But g mb W W') ?_ (fun w1 w2 h1 h2 => ⟨⟨h1.1.1.below h2, h1.1.2.on h2⟩, h1.2.on h2⟩) rfl hz
  refine pieces_par xg g mb ⟨2, true, ⟨#[120]⟩, ⟨#[61]⟩, wa, 1, wc⟩ ⟨y.t, true, false, false⟩ _ W _ ((hl.below hb).mono hb.size) rfl (by show y.t.size ≤ 1000000; omega) (fun w1 w2 h1 h2 => ⟨⟨h1.1.1.below h2, h1.1.2.on h2⟩, h1.2.on h2⟩) fun W1 hW1 => ?_
  have hw1 : Below w.heap.size w W1 := hb.trans (hW1.mono hb.size)
  refine (param_put v0 xg hv strict wa wc y W1 (hX.below hw1 hX.lt) hxg (hV.below hw1) hn (hW.below hw1) ht).mono ?_
  rintro e w' ⟨v', h1, h2, h3, h4⟩
  exact ⟨v', h1, h2, ⟨⟨h3, (But.of_below hw1).trans h4⟩, (But.of_below hW1).trans h4⟩, h4⟩
end
end Go.Proofs.YtjeinpadcknfbaaGreatDoor
/-
  files of a field that means no more than its text; New: the walks.
-/
namespace Go.Proofs.YtjeinpadcknfbaaGreatDoor
open Go.RowKit

theorem files_any (xg : Nat) (f : List Pc) (v : Value) (B : Nat) (w : World) (ho : w.ownsRow B 101 2 v f.length (f.flatMap pcC)) (hm : meansP (comp (signsOf f)) = false) (hs : (signsOf f).length ≤ 1000) (ht : (textL f).length ≤ 1000) :
    Calls Tryz.prog 24 #[.pointer (some ⟨xg, 0, none⟩), v] w fun e w' => ∃ a c, e = .returned (.slice a 1 c) ∧ Sl w' w'.heap.size 1 (.slice a 1 c) 1 [.string (S (textL f))] ∧ Below w.heap.size w w' := by
  have CC : Hid (Calls Tryz.prog 41 #[v] w (CompAt w (comp (signsOf f)))) := Lib.hid ((comp_any f v w (Sl.of_own ho) (by omega)).mono fun e w' h => CompAt.of h)
  have CM : Hid (∀ W v', PatAt W W.heap.size v' (comp (signsOf f)) → Calls Tryz.prog 42 #[.agg #[v']] W fun e w' => e = .returned (.bool false) ∧ Below W.heap.size W w') := Lib.hid fun W v' hp => by
    have := means_any v' _ W hp
    rwa [hm] at this
  have CT : Hid (∀ W, Below w.heap.size w W → Calls Tryz.prog 28 #[v] W fun e w' => e = .returned (.string (S (textL f))) ∧ Below W.heap.size W w') := Lib.hid fun W hW => text_any f v W (Sl.of_own (own_below ho hW)) (by omega)
  clear ho hm hs ht
  generalize comp (signsOf f) = pl at CC CM
  generalize S (textL f) = tx at CT ⊢
  go_enter Tryz.func24, Tryz.ntmps24
  go_wp2_with fail
  refine CC.out.mono ?_
  rintro e w1 ⟨hb1, pa, pn, pc, rfl, hp1⟩
  have HB1 := Lib.hid hb1
  have HP1 := Lib.hid hp1.at_
  clear hb1 hp1
  go_wp2_with fail
  refine (CM.out _ _ HP1.out).mono ?_
  rintro e w2 ⟨rfl, hb2⟩
  have HB2 := Lib.hid (HB1.out.trans (hb2.mono HB1.out.size))
  clear hb2
  go_wp2_with fail
  refine (CT.out _ HB2.out).mono ?_
  rintro e w3 ⟨rfl, hb3⟩
  have HB3 := Lib.hid (HB2.out.trans (hb3.mono HB2.out.size))
  clear hb3
  go_wp2_with fail
  go_ret
  exact ⟨_, _, rfl, sl_made_at _ #[.string tx] _ 1 1 rfl (by unfold maxLen; omega) rfl, HB3.out.alloc HB3.out.size _⟩

theorem New_any (g : Nat) (T : TypeId) (u : Value) (strict : Bool) (w : World) :
    Calls Tryz.prog 8 #[.pointer (some ⟨g, 0, none⟩), .iface T u, .bool strict] w fun e w' => e = .returned (.pointer (some ⟨w.heap.size, 0, none⟩)) ∧ XBk w' w.heap.size g (.iface T u) strict ∧ Below w.heap.size w w' := by
  go_enter Tryz.func8, Tryz.ntmps8
  go_wp2_with fail
  go_ret
  exact ⟨rfl, Blk.new _ _ _, by go_grown⟩
end Go.Proofs.YtjeinpadcknfbaaGreatDoor
/-
  What the closure of Words has at hand; rows beside rows.
-/
namespace Go.Proofs.YtjeinpadcknfbaaGreatDoor
open Go.RowKit

theorem own_ne_blk {w : World} {base : Nat} {e t : TypeId} {size : Nat} {v : Value} {n : Nat} {xs : List Value} {q : Nat} {cs : Array Value} (h : w.ownsRow base e size v n xs) (hb : Blk w q t cs) (hne : e ≠ t) : v.ownBlock ≠ some q := by
  obtain ⟨_, h⟩ := h
  rcases h with ⟨rfl, _⟩ | ⟨b, cap, cur, rfl, _, h1, _⟩
  · simp [Value.ownBlock]
  · intro e2
    obtain rfl : b = q := by simpa [Value.ownBlock] using e2
    rw [Blk, h1] at hb
    simp only [Option.some.injEq, Obj.cells.injEq] at hb
    exact hne hb.2.1

/-- What a word's piece says. -/
def saysF (ifs : List UInt8) (x : In) : List (List Pc) := splitF ifs [x]
def saysT (ifs : List UInt8) (x : In) : List ByteArray := (saysF ifs x).map fun f => S (textL f)
/-- Its fields mean no more than their texts. -/
def FineX (ifs : List UInt8) (x : In) : Prop := (∀ f ∈ saysF ifs x, meansP (comp (signsOf f)) = false ∧ (signsOf f).length ≤ 1000 ∧ (textL f).length ≤ 1000) ∧ FitL ifs [x] ∧ (saysF ifs x).length ≤ 100

/-- What the closure has at hand: boxes, and what it has said. -/
structure WI (w : World) (B0 bl bx bo xg : Nat) (la : Option Addr) (ln lc : Nat) (out : List ByteArray) (wr : World) : Prop where
  below : Below w.heap.size w wr
  kl : Blk wr bl 47 #[.slice la ln lc]
  kx : Blk wr bx 27 #[.pointer (some ⟨xg, 0, none⟩)]
  ko : ∃ a c, Blk wr bo 26 #[.slice a out.length c] ∧ OwnS wr B0 (.slice a out.length c) out
theorem WI.on {w : World} {B0 bl bx bo xg : Nat} {la : Option Addr} {ln lc : Nat} {out : List ByteArray} {w1 w2 : World} (h : WI w B0 bl bx bo xg la ln lc out w1) (hb : Below w1.heap.size w1 w2) : WI w B0 bl bx bo xg la ln lc out w2 := by
  obtain ⟨h1, h2, h3, a, c, h4, h5⟩ := h
  exact ⟨h1.trans (hb.mono h1.size), h2.below hb h2.lt, h3.below hb h3.lt, a, c, h4.below hb h4.lt, own_below h5 hb⟩

/-- A word: its slice; its piece. -/
abbrev Wd := Value × In
def outK (ifs : List UInt8) (ws : List Wd) (k : Nat) : List ByteArray := (ws.take k).flatMap fun x => saysT ifs x.2
theorem outK_succ {ifs : List UInt8} {ws : List Wd} {k : Nat} {x : Wd} (h : ws[k]? = some x) : outK ifs ws (k + 1) = outK ifs ws k ++ saysT ifs x.2 := by
  obtain ⟨hk, rfl⟩ := List.getElem?_eq_some_iff.1 h
  rw [outK, List.take_succ_eq_append_getElem hk, List.flatMap_append]
  simp [outK]
theorem outK_len {ifs : List UInt8} {ws : List Wd} (hf : ∀ x ∈ ws, (saysF ifs x.2).length ≤ 100) : ∀ k, (outK ifs ws k).length ≤ k * 100 := by
  intro k
  induction k with
  | zero => simp [outK]
  | succ k ih =>
    cases h : ws[k]? with
    | none =>
      rw [outK, List.take_of_length_le (by have := List.getElem?_eq_none_iff.1 h; omega)]
      rw [outK, List.take_of_length_le (by have := List.getElem?_eq_none_iff.1 h; omega)] at ih
      omega
    | some x =>
      rw [outK_succ h, List.length_append, saysT, List.length_map]
      have := hf x (List.mem_of_getElem? h)
      omega
theorem take_one_more {α : Type} {l : List α} {j : Nat} {x : α} (h : l[j]? = some x) : l.take (j + 1) = l.take j ++ [x] := by
  obtain ⟨hk, rfl⟩ := List.getElem?_eq_some_iff.1 h
  exact List.take_succ_eq_append_getElem hk
theorem OutAt.far {w : World} {B : Nat} {v : Value} {fs : List (List Pc)} (h : OutAt w B v fs) {p : Addr} (hp : p.block < B) (u : Value) : OutAt (w.setCell p u) B v fs := by
  obtain ⟨fv, h1, h2, h3⟩ := h
  exact ⟨fv, own_far h1 hp u, fun x hx => own_far (h2 x hx) hp u, h3⟩
theorem own_ne_own {w : World} {B B' : Nat} {e e' : TypeId} {s s' : Nat} {v v' : Value} {n n' : Nat} {xs xs' : List Value} (h : w.ownsRow B e s v n xs) (h' : w.ownsRow B' e' s' v' n' xs') (hne : e ≠ e') : ∀ q, v'.ownBlock = some q → v.ownBlock ≠ some q := by
  intro q hq
  obtain ⟨_, h'⟩ := h'
  rcases h' with ⟨rfl, _⟩ | ⟨b, cap, cur, rfl, _, h1, _⟩
  · simp [Value.ownBlock] at hq
  · obtain rfl : b = q := by simpa [Value.ownBlock] using hq
    exact own_ne_blk h h1 hne
theorem own_grown {w w' : World} {B : Nat} {e : TypeId} {s : Nat} {v : Value} {n : Nat} {xs : List Value} {row : Option Nat} (h : w.ownsRow B e s v n xs) (hg : w.grownBy w' row) (hr : ∀ q, row = some q → v.ownBlock ≠ some q) : w'.ownsRow B e s v n xs := by
  obtain ⟨h1, h2⟩ := h
  refine ⟨h1, ?_⟩
  rcases h2 with h2 | ⟨b, cap, cur, rfl, hB, hb, r⟩
  · exact .inl h2
  · exact .inr ⟨b, cap, cur, rfl, hB, by rw [hg.block b (Array.getElem?_eq_some_iff.1 hb).1 (fun e => hr b e.symm (by simp [Value.ownBlock]))]; exact hb, r⟩
theorem OutAt.grown {w w' : World} {B : Nat} {v : Value} {fs : List (List Pc)} (h : OutAt w B v fs) {B' : Nat} {s' : Nat} {v' : Value} {n' : Nat} {xs' : List Value} (ho : w.ownsRow B' 9 s' v' n' xs') (hg : w.grownBy w' v'.ownBlock) : OutAt w' B v fs := by
  obtain ⟨fv, h1, h2, h3⟩ := h
  exact ⟨fv, own_grown h1 hg (own_ne_own h1 ho (by decide)), fun x hx => own_grown (h2 x hx) hg (own_ne_own (h2 x hx) ho (by decide)), h3⟩
theorem But.low {g mb : Nat} {a w w' : World} (h : But g mb a w) (k : Below a.heap.size w w') : But g mb a w' :=
  ⟨k.os.trans h.os, k.tape.trans h.tape, k.output.trans h.output, Nat.le_trans h.size k.size, fun b hb h1 h2 => (k.block b hb).trans (h.block b hb h1 h2)⟩
end Go.Proofs.YtjeinpadcknfbaaGreatDoor
/-
  The closure of Words: the walk.
-/
namespace Go.Proofs.YtjeinpadcknfbaaGreatDoor
open Go.RowKit

set_option maxHeartbeats 4000000 in
set_option maxRecDepth 100000 in
theorem Words1_any (ifs : List UInt8) (ws : List Wd) (xg g bl bx bo : Nat) (hv : Value) (strict : Bool) (la : Option Addr) (ln lc : Nat) (w W : World) (hX : XBk w xg g hv strict) (hifs : ifs.length ≤ 1000)
    (hE : Elems w w.heap.size la ln (ws.map (·.1))) (hln : ln ≤ 10) (hF : ∀ x ∈ ws, FineX ifs x.2) (hn : w.heap.size ≤ bl ∧ w.heap.size ≤ bx ∧ w.heap.size ≤ bo) (hne : bl ≠ bo ∧ bx ≠ bo)
    (hP : ∀ x ∈ ws, ∀ W', Below w.heap.size w W' → PiecesC xg x.1 x.2 W' (fun w' => Below W'.heap.size W' w'))
    (hS : ∀ W', Below w.heap.size w W' → Calls Tryz.prog 23 #[.pointer (some ⟨g, 0, none⟩)] W' fun e w' => e = .returned (.string (S ifs)) ∧ Below W'.heap.size W' w')
    (hI : WI w W.heap.size bl bx bo xg la ln lc [] W) :
    Calls Tryz.prog 20 #[.pointer (some ⟨bl, 0, none⟩), .pointer (some ⟨bx, 0, none⟩), .pointer (some ⟨bo, 0, none⟩)] W fun e w' => e = .returned (.tuple #[]) ∧ WI w W.heap.size bl bx bo xg la ln lc (outK ifs ws ln) w' ∧ But bo bo W w' := by
  obtain ⟨eb, eo, hix, heB, hec⟩ := hE.open (P := Tryz.prog) 47 33 Tryz.underlying47 (by kernel_rfl)
  have hwl : ws.length = ln := by have := hE.1; simpa using this
  have hxl := hX.lt
  have x0 : w.cell? ⟨xg, 0, none⟩ = some (.pointer (some ⟨g, 0, none⟩)) := by have := hX.cell 0; simpa using this
  have HEC := Lib.hid hec
  have HWL := Lib.hid hwl
  have HF := Lib.hid hF
  have HP := Lib.hid hP
  have HS := Lib.hid hS
  have HN := Lib.hid hn
  have HNE := Lib.hid hne
  have HX0 := Lib.hid x0
  have c0 := hI.kl.cell 0
  simp at c0
  have HI := Lib.hid hI
  have HW0 : Hid (w.heap.size ≤ W.heap.size) := Lib.hid HI.out.below.size
  have HIF : Hid ((S ifs).size ≤ 9223372036854775807) := Lib.hid (by rw [S_size]; omega)
  clear hec hwl hF hP hS hn hne hX hE x0 hI
  go_enter Tryz.func20, Tryz.ntmps20
  go_wp2_with fail
  go_loopw [9] (fun i wr => ∃ k : Nat, k ≤ ln ∧ i = .int .i64 k ∧ WI w W.heap.size bl bx bo xg la ln lc (outK ifs ws k) wr ∧ But bo bo W wr) (fun i _ => ln - (intOf i).toNat)
  case atStart => exact ⟨0, Nat.zero_le _, rfl, by simpa [outK] using HI.out, But.refl _ _ _⟩
  case round =>
    obtain ⟨k, hk, rfl, hW, hBt⟩ := hrel
    by_cases hlt : k < ln
    · obtain ⟨wd, hx⟩ : ∃ x, ws[k]? = some x := ⟨_, List.getElem?_eq_getElem (by rw [HWL.out]; exact hlt)⟩
      obtain ⟨wv, x⟩ := wd
      have hmem := List.mem_of_getElem? hx
      have hebl : eb < w.heap.size := by omega
      have hec1 : wr.cell? ⟨eb, eo + k, none⟩ = some wv := (hW.below.cell (p := ⟨eb, eo + k, none⟩) hebl).trans ((HEC.out k hlt).trans (by rw [List.getElem?_map, hx]; rfl))
      have hebr : eb < wr.heap.size := Nat.lt_of_lt_of_le hebl hW.below.size
      have ixk := fun w' => hix k lc w' hlt
      have d0 := hW.kx.cell 0
      simp at d0
      have hxr := (hW.below.cell (p := ⟨xg, 0, none⟩) hxl).trans HX0.out
      have CPi := Lib.hid (HP.out _ hmem)
      have HFX := Lib.hid (HF.out _ hmem)
      have HOK := Lib.hid (outK_succ (ifs := ifs) hx)
      have HOL := Lib.hid (outK_len (ifs := ifs) (fun x hx => (HF.out x hx).2.2) k)
      have HW := Lib.hid hW
      have HBT := Lib.hid hBt
      have hbxr : bx < wr.heap.size := hW.kx.lt
      have hxgr : xg < wr.heap.size := Nat.lt_of_lt_of_le hxl hW.below.size
      clear hW hBt hx hmem
      have CSp : Hid (∀ (W : World) v' B, W.ownsRow B 80 4 v' 1 (inC x) → Calls Tryz.prog 21 #[v', .string (S ifs)] W (SplitPost (saysF ifs x) W)) := Lib.hid fun W v' B ho => by
        have := Split_any (S ifs) [x] v' W (by simpa using Sl.of_own ho) HIF.out (by rw [L_S]; exact HFX.out.2.1)
        rw [L_S] at this
        exact this
      have HBr := Lib.hid ((Below.refl wr.heap.size wr).drew)
      go_wp2_with fail
      go_region_held3 (fun W' => W'.cell? ⟨bx, 0, none⟩ = some (.pointer (some ⟨xg, 0, none⟩)) ∧ W'.cell? ⟨xg, 0, none⟩ = some (.pointer (some ⟨g, 0, none⟩))) (first | exact ⟨d0, hxr⟩ | exact ⟨b0, b1⟩ | exact ⟨a0, a1⟩ | exact ⟨e0, e1⟩ | go_keep) (first
        | (go_at_call 22; (with_reducible refine (CPi.out _ (Below.drew HW.out.below)).mono ?_); rintro e w1 ⟨p1, rfl, ho1, hb1⟩; have HO1 : Hid (w1.ownsRow wr.heap.size 80 4 p1 1 (inC x)) := Lib.hid ho1; have HW1 := Lib.hid (HW.out.on (HBr.out.trans hb1)); have HT1 := Lib.hid (HBT.out.on (HBr.out.trans hb1)); have e0 := HW1.out.kx.cell 0; simp at e0; have e1 := (HW1.out.below.cell (p := ⟨xg, 0, none⟩) hxl).trans HX0.out; clear ho1 hb1)
        | (go_at_call 23; (with_reducible refine (HS.out _ HW1.out.below).mono ?_); rintro e w2 ⟨rfl, hb2⟩; have HW2 := Lib.hid (HW1.out.on hb2); have HT2 := Lib.hid (HT1.out.on hb2); have HO2 := Lib.hid (own_below HO1.out hb2); have a0 := HW2.out.kx.cell 0; simp at a0; have a1 := (HW2.out.below.cell (p := ⟨xg, 0, none⟩) hxl).trans HX0.out; clear hb2)
        | (go_at_call 21; (with_reducible refine (CSp.out _ _ _ HO2.out).mono ?_); rintro e w3 ⟨hb3, v3, rfl, hoa⟩; have HW3 := Lib.hid (HW2.out.on hb3); have HT3 := Lib.hid (HT2.out.on hb3); have HOA := Lib.hid hoa; have HBO : Hid (bo < w2.heap.size) := Lib.hid (by obtain ⟨_, _, h, _⟩ := HW2.out.ko; exact h.lt); have b0 := HW3.out.kx.cell 0; simp at b0; have b1 := (HW3.out.below.cell (p := ⟨xg, 0, none⟩) hxl).trans HX0.out; obtain ⟨a3, c3, rfl⟩ := hoa.shape; clear hb3 hoa))
      all_goals
        obtain ⟨fs, hfs⟩ : ∃ fs, fs = saysF ifs x := ⟨_, rfl⟩
        have HST : Hid (saysT ifs x = fs.map fun f => S (textL f)) := Lib.hid (by rw [hfs]; rfl)
        have HFF : Hid (∀ f ∈ fs, meansP (comp (signsOf f)) = false ∧ (signsOf f).length ≤ 1000 ∧ (textL f).length ≤ 1000) := Lib.hid (by rw [hfs]; exact HFX.out.1)
        have hfl : fs.length ≤ 100 := by rw [hfs]; exact HFX.out.2.2
        rw [← hfs] at HOA ⊢
        obtain ⟨m, hm⟩ : ∃ m, m = fs.length := ⟨_, rfl⟩
        rw [← hm] at HOA hfl ⊢
        have HM := Lib.hid hm
        clear hfs hm d0 hxr e0 e1 a0 a1 b0 b1 hec1 ixk
        go_wp2_with fail
        try simp only [Act.put, List.getElem_toArray, List.getElem_cons_zero, List.getElem_cons_succ, List.setIfInBounds_toArray, List.set_cons_zero, List.set_cons_succ]
        go_loopw [23] (fun i wi => ∃ j : Nat, j ≤ m ∧ i = .int .i64 j ∧ WI w W.heap.size bl bx bo xg la ln lc (outK ifs ws k ++ (fs.take j).map fun f => S (textL f)) wi ∧ But bo bo W wi ∧ OutAt wi w2.heap.size (.slice a3 m c3) fs) (fun i _ => m - (intOf i).toNat)
        case atStart => exact ⟨0, Nat.zero_le _, rfl, by simpa using HW3.out, HT3.out, HOA.out⟩
        case round =>
          obtain ⟨j, hj, rfl, hWi, hTi, hOi⟩ := hrel
          have HWi := Lib.hid hWi
          have HTi := Lib.hid hTi
          have HOi := Lib.hid hOi
          by_cases hjl : j < m
          · obtain ⟨f, hf⟩ : ∃ f, fs[j]? = some f := ⟨_, List.getElem?_eq_getElem (by rw [← HM.out]; exact hjl)⟩
            obtain ⟨fb, fo, fv, ixf, hfb, fc, hfo⟩ := hOi.field hf (j : Int) rfl
            obtain ⟨fa, fcap, rfl⟩ := own_shape hfo
            have hmf := HFF.out f (List.mem_of_getElem? hf)
            have HFo := Lib.hid hfo
            have HTX := Lib.hid (take_one_more hf)
            have CFi : Hid (∀ W1, Below wr.heap.size wr W1 → Calls Tryz.prog 24 #[.pointer (some ⟨xg, 0, none⟩), .slice fa f.length fcap] W1 fun e w' => ∃ a c, e = .returned (.slice a 1 c) ∧ Sl w' w'.heap.size 1 (.slice a 1 c) 1 [.string (S (textL f))] ∧ Below W1.heap.size W1 w') := Lib.hid fun W1 hW1 => files_any xg f _ _ W1 (own_below HFo.out hW1) hmf.1 hmf.2.1 hmf.2.2
            have e0 := hWi.kx.cell 0
            simp at e0
            obtain ⟨O, hO⟩ : ∃ O, O = outK ifs ws k ++ (fs.take j).map fun f => S (textL f) := ⟨_, rfl⟩
            rw [← hO] at HWi hWi
            obtain ⟨on, hon⟩ : ∃ n, n = O.length := ⟨_, rfl⟩
            have honl : on ≤ 2000 := by
              have h1 := HOL.out
              rw [hon, hO, List.length_append, List.length_map, List.length_take]
              have h2 : k * 100 ≤ 1000 := by have : k * 100 ≤ 10 * 100 := Nat.mul_le_mul_right _ (by omega)
                                             omega
              omega
            obtain ⟨oa, oc, hko, hoo⟩ := hWi.ko
            rw [OwnS] at hoo
            rw [← hon] at hko hoo
            have z0 := hko.cell 0
            simp at z0
            have HKO := Lib.hid hko
            have HOO := Lib.hid hoo
            have HO := Lib.hid hO
            have HON := Lib.hid hon
            have HBi := Lib.hid ((Below.refl wr.heap.size wr).drew)
            obtain ⟨fln, hfln⟩ : ∃ n, n = f.length := ⟨_, rfl⟩
            rw [← hfln] at CFi fc
            obtain ⟨tx, htx⟩ : ∃ tx, tx = S (textL f) := ⟨_, rfl⟩
            rw [← htx] at CFi
            have HTXT := Lib.hid htx
            clear hWi hTi hOi hf hfo hmf hO hon hko hoo hfln htx
            have hbow : bo < wr.heap.size := HKO.out.lt
            go_wp2_with fail
            go_region_law (first
              | (go_simp; go_at_call 24; (with_reducible refine (CFi.out _ HBi.out).mono ?_); rintro e w5 ⟨ha, hc, rfl, hsl, hb5⟩; have HSL := Lib.hid hsl; have HW5 := Lib.hid (HWi.out.on (HBi.out.trans hb5)); have HT5 := Lib.hid (HTi.out.on (HBi.out.trans hb5)); have HO5 := Lib.hid (own_below HOO.out (HBi.out.trans hb5)); have HK5 := Lib.hid (HKO.out.below (HBi.out.trans hb5) hbow); have HI5 := Lib.hid (HOi.out.below (HBi.out.trans hb5)); have hs5 : W.heap.size ≤ w5.heap.size := HT5.out.size; have z5 := HK5.out.cell 0; simp at z5; have e5 := HW5.out.kx.cell 0; simp at e5; clear hsl hb5)
              | (refine step_append_sl rfl _ _ 26 rfl W.heap.size 9 Tryz.underlying26 infoS rfl (by decide) (v := .slice oa on oc) (n := on) (xs := O.map Value.string) rfl HO5.out (m := 1) (news := [.string tx]) rfl (B := w5.heap.size) HSL.out (by omega) (by intro u hu; simp at hu; rcases hu with rfl; rfl) (by omega) hs5 ?_; intro g1 cap1 w6 hown hgrow hlie hglt; have HK6 := Lib.hid (HK5.out.grown hgrow (own_ne_blk HO5.out HK5.out (by decide))); have z6 := HK6.out.cell 0; have f6 := HK6.out.free 0; simp at z6))
            all_goals
              have HO6 := Lib.hid hown
              have hlow : Below W.heap.size w5 w6 := (Below.refl _ _).grown hgrow hs5 (fun p hp => (World.ownsRow.lt HO5.out p hp).1)
              have HL6 := Lib.hid hlow
              have HT6 := Lib.hid (HT5.out.low hlow)
              have HI6 := Lib.hid (HI5.out.grown HO5.out hgrow)
              have KL6 := Lib.hid (HW5.out.kl.grown hgrow (own_ne_blk HO5.out HW5.out.kl (by decide)))
              have KX6 := Lib.hid (HW5.out.kx.grown hgrow (own_ne_blk HO5.out HW5.out.kx (by decide)))
              clear hown hgrow hlie hglt hlow
              go_wp2_with fail
              go_roundw
              case rel =>
                refine ⟨j + 1, by omega, by go_num, ?_, HT6.out.setG 0 _, HI6.out.far HBO.out _⟩
                have hl7 : (outK ifs ws k ++ (fs.take (j + 1)).map fun f => S (textL f)) = O ++ [tx] := by rw [HTX.out, List.map_append, ← List.append_assoc, ← HO.out, HTXT.out]; rfl
                rw [hl7]
                refine ⟨?_, KL6.out.far HNE.out.1 _, KX6.out.far HNE.out.2 _, some ⟨g1, 0, none⟩, cap1, ?_, ?_⟩
                · exact ((HW5.out.below.trans (HL6.out.mono (by have := HW0.out; omega))).setCell (p := ⟨bo, 0, none⟩) HN.out.2.2 _)
                · rw [List.length_append, ← HON.out]
                  exact HK6.out.put 0 _
                · rw [List.length_append, ← HON.out]
                  show (w6.setCell ⟨bo, 0, none⟩ _).ownsRow _ _ _ _ (O ++ [tx]).length ((O ++ [tx]).map Value.string)
                  rw [List.length_append, ← HON.out, List.map_append]
                  exact ownsRow_setCell_other HO6.out (own_ne_blk HO6.out HK6.out (by decide)) _
              case measure => simp [intOf]; omega
          · have HWk : Hid (WI w W.heap.size bl bx bo xg la ln lc (outK ifs ws (k + 1)) wr) := Lib.hid (by
              rw [HOK.out, HST.out]
              have h1 := HWi.out
              rw [List.take_of_length_le (by rw [← HM.out]; omega)] at h1
              exact h1)
            have hol : (outK ifs ws (k + 1)).length ≤ 2000 := by
              have h1 := HOL.out
              rw [HOK.out, HST.out, List.length_append, List.length_map, ← HM.out]
              have h2 : k * 100 ≤ 1000 := by have : k * 100 ≤ 10 * 100 := Nat.mul_le_mul_right _ (by omega)
                                             omega
              omega
            obtain ⟨oa, oc, hko, _⟩ := HWk.out.ko
            obtain ⟨on, hon⟩ : ∃ n, n = (outK ifs ws (k + 1)).length := ⟨_, rfl⟩
            rw [← hon] at hko hol
            have z0 := hko.cell 0
            simp at z0
            clear hko hon hWi hTi hOi
            go_wp2_with fail
            go_roundw
            case rel => exact ⟨k + 1, by omega, by go_num, HWk.out, HTi.out⟩
            case measure => simp [intOf]; omega
    · have HWe : Hid (WI w W.heap.size bl bx bo xg la ln lc (outK ifs ws ln) wr ∧ But bo bo W wr) := Lib.hid (by
        obtain rfl : k = ln := by omega
        exact ⟨hW, hBt⟩)
      clear hW hBt
      go_wp2_with fail
      go_end0
      exact ⟨rfl, HWe.out⟩
end Go.Proofs.YtjeinpadcknfbaaGreatDoor
/-
  Words: the walk.
-/
namespace Go.Proofs.YtjeinpadcknfbaaGreatDoor
open Go.RowKit

set_option maxHeartbeats 2000000 in
theorem Words_any (ifs : List UInt8) (ws : List Wd) (xg g : Nat) (hv : Value) (strict : Bool) (la : Option Addr) (ln lc : Nat) (w : World) (hX : XBk w xg g hv strict) (hifs : ifs.length ≤ 1000)
    (hE : Elems w w.heap.size la ln (ws.map (·.1))) (hln : ln ≤ 10) (hF : ∀ x ∈ ws, FineX ifs x.2)
    (hP : ∀ x ∈ ws, ∀ W', Below w.heap.size w W' → PiecesC xg x.1 x.2 W' (fun w' => Below W'.heap.size W' w'))
    (hS : ∀ W', Below w.heap.size w W' → Calls Tryz.prog 23 #[.pointer (some ⟨g, 0, none⟩)] W' fun e w' => e = .returned (.string (S ifs)) ∧ Below W'.heap.size W' w') :
    Calls Tryz.prog 12 #[.pointer (some ⟨xg, 0, none⟩), .slice la ln lc] w fun e w' => ∃ a c, e = .returned (.tuple #[.slice a (outK ifs ws ln).length c, .int .i64 0]) ∧ OwnS w' w.heap.size (.slice a (outK ifs ws ln).length c) (outK ifs ws ln) ∧ Below w.heap.size w w' := by
  have hmf : ∀ (fn : Fn) (first cap : Array Value) (w : World), (Instr.makeFunc fn first cap).run Tryz.prog w = .ok (.func fn first cap) w := fun _ _ _ _ => rfl
  have CG : Hid (Calls Tryz.prog 16 #[.func (.func 20) #[] #[.pointer (some ⟨w.heap.size + 1, 0, none⟩), .pointer (some ⟨w.heap.size, 0, none⟩), .pointer (some ⟨w.heap.size + 1 + 1, 0, none⟩)]]
      (((w.alloc (.cells #[.pointer (some ⟨xg, 0, none⟩)] 27)).alloc (.cells #[.slice la ln lc] 47)).alloc (.cells #[.slice none 0 0] 26))
      fun e w' => e = .returned (.int .i64 0) ∧ WI w w.heap.size (w.heap.size + 1) w.heap.size (w.heap.size + 1 + 1) xg la ln lc (outK ifs ws ln) w') := Lib.hid (by
    obtain ⟨W3, hW3⟩ : ∃ W3, W3 = (((w.alloc (.cells #[.pointer (some ⟨xg, 0, none⟩)] 27)).alloc (.cells #[.slice la ln lc] 47)).alloc (.cells #[.slice none 0 0] 26)) := ⟨_, rfl⟩
    have hz : W3.heap.size = w.heap.size + 3 := by rw [hW3]; simp
    have k0 : Blk W3 w.heap.size 27 #[.pointer (some ⟨xg, 0, none⟩)] := by rw [hW3]; exact ((Blk.new _ _ _).alloc _).alloc _
    have k1 : Blk W3 (w.heap.size + 1) 47 #[.slice la ln lc] := by rw [hW3]; exact (Blk.at (by simp)).alloc _
    have k2 : Blk W3 (w.heap.size + 1 + 1) 26 #[.slice none 0 0] := by rw [hW3]; exact Blk.at (by simp)
    have hb : Below w.heap.size w W3 := by rw [hW3]; go_grown
    rw [← hW3]
    clear hW3
    refine guard_any _ (.inr rfl) _ W3 (fun w' => WI w w.heap.size (w.heap.size + 1) w.heap.size (w.heap.size + 1 + 1) xg la ln lc (outK ifs ws ln) w' ∧ ∃ a c, Blk w' (w.heap.size + 1 + 1) 26 #[.slice a (outK ifs ws ln).length c] ∧ OwnS w' (W3.heap.size + 1) (.slice a (outK ifs ws ln).length c) (outK ifs ws ln)) ?_ ?_ |>.mono fun e w' h => ⟨h.1, h.2.1⟩
    · rintro W u ⟨⟨q1, q2, q3, qa, qc, q4, q5⟩, a, c, q6, q7⟩
      have q8 : OwnS (W.setCell ⟨W3.heap.size, 0, none⟩ u) (W3.heap.size + 1) (.slice a (outK ifs ws ln).length c) (outK ifs ws ln) := own_far q7 (Nat.lt_succ_self _) u
      have q9 : Blk (W.setCell ⟨W3.heap.size, 0, none⟩ u) (w.heap.size + 1 + 1) 26 #[.slice a (outK ifs ws ln).length c] := q6.far (by show _ ≠ W3.heap.size; omega) u
      exact ⟨⟨q1.setCell (by show w.heap.size ≤ W3.heap.size; omega) u, q2.far (by show _ ≠ W3.heap.size; omega) u, q3.far (by show _ ≠ W3.heap.size; omega) u, a, c, q9, q8.from (by omega)⟩, a, c, q9, q8⟩
    · have hb4 : Below w.heap.size w (W3.alloc (.cells #[.int .i64 0] 37)) := hb.alloc (by omega) _
      have hI : WI w (W3.alloc (.cells #[.int .i64 0] 37)).heap.size (w.heap.size + 1) w.heap.size (w.heap.size + 1 + 1) xg la ln lc [] (W3.alloc (.cells #[.int .i64 0] 37)) := ⟨hb4, k1.alloc _, k0.alloc _, none, 0, k2.alloc _, OwnS.nil _ _⟩
      refine (Words1_any ifs ws xg g (w.heap.size + 1) w.heap.size (w.heap.size + 1 + 1) hv strict la ln lc w _ hX hifs hE hln hF ⟨by omega, by omega, by omega⟩ ⟨by omega, by omega⟩ hP hS hI).mono ?_
      rintro e w' ⟨h1, ⟨q1, q2, q3, qa, qc, q4, q5⟩, h3⟩
      refine ⟨h1, (Blk.new W3 _ _).but h3 (by omega) (by omega), ⟨q1, q2, q3, qa, qc, q4, q5.from (by simp; omega)⟩, qa, qc, q4, by simpa using q5⟩)
  clear hX hE hF hP hS
  go_enter Tryz.func12, Tryz.ntmps12
  go_wp2_with fail
  refine CG.out.mono ?_
  rintro e w1 ⟨rfl, hb, hl, hx, a, c, hk1, ho1⟩
  have HB := Lib.hid hb
  have HO := Lib.hid ho1
  have HK := Lib.hid hk1
  have c1 := hk1.cell 0
  have f1 := hk1.free 0
  have hl1 := hk1.lt
  simp at c1
  clear hb hl hx hk1 ho1
  go_wp2_with fail
  refine bodyPost_ret (v := .tuple #[.slice a (outK ifs ws ln).length c, .int .i64 0]) (by simp [results, Tryz.results12, go_sem, c1]) rfl ?_
  exact ⟨a, c, rfl, ownsRow_setCell_other HO.out (own_ne_blk HO.out HK.out (by decide)) _, HB.out.setCell (p := ⟨w.heap.size + 1 + 1, 0, none⟩) (by show w.heap.size ≤ w.heap.size + 1 + 1; omega) _⟩
end Go.Proofs.YtjeinpadcknfbaaGreatDoor
/-
  The variables of one entry; what the document's example says: plain.
-/
namespace Go.Proofs.YtjeinpadcknfbaaGreatDoor
open Go.RowKit

def xV (t : List UInt8) : Xd := ⟨t, true, true, false⟩
theorem cut_x (t : List UInt8) : Lib.cut (120 :: 61 :: t) [61] = ([120], t, true) := cut_ent (k := [120]) (by decide)
theorem new_x (t : List UInt8) : newL [120 :: 61 :: t] = [(xN, xV t)] := by
  show addE [] (120 :: 61 :: t) = _
  rw [addE, cut_x]
  rfl
theorem fine_x {t : List UInt8} (h : t.length ≤ 1000) : Fine (120 :: 61 :: t) := by
  refine ⟨by simp; omega, ?_, ?_⟩
  · rw [cut_x]; show 1 ≤ 1048576; omega
  · rw [cut_x]; show t.length ≤ 1048576; omega
theorem find_x (v : Xd) : find [(xN, v)] xN = v := by simp [find]
theorem split_x (v : Xd) : splitL [(xN, v)] = [32, 9, 10] := by
  rw [splitL]
  rw [show find [(xN, v)] ifs = d0 by simp [find, xN, ifs]]
  rfl
theorem L_x (t : ByteArray) : L (⟨#[120, 61]⟩ ++ t) = 120 :: 61 :: L t := by rw [L_append]; rfl

def w3 : List UInt8 := [32, 9, 10]
def aIn : In := ⟨⟨#[97, 32, 98]⟩, false, true, false⟩
def bIn : In := ⟨⟨#[97, 32, 98]⟩, true, false, false⟩
theorem says_a : saysF w3 aIn = [[⟨⟨#[97]⟩, false⟩], [⟨⟨#[98]⟩, false⟩]] := by kernel_rfl
theorem says_b : saysF w3 bIn = [[⟨⟨#[97, 32, 98]⟩, true⟩]] := by kernel_rfl
theorem fit_one (ifs : List UInt8) (x : In) (h : x.t.size ≤ 1000) : FitL ifs [x] := by
  refine ⟨fun k y hk _ p hp => ?_, ?_⟩
  · cases k with
    | zero => simp [stK, St0] at hp
    | succ k => simp at hk
  · simp [wt]
    split <;> omega
theorem fine_a : FineX w3 aIn := by
  refine ⟨?_, fit_one _ _ (by decide), by rw [says_a]; decide⟩
  rw [says_a]
  intro f hf
  simp at hf
  rcases hf with rfl | rfl
  · exact ⟨by kernel_rfl, by decide, by decide⟩
  · exact ⟨by kernel_rfl, by decide, by decide⟩
theorem fine_b : FineX w3 bIn := by
  refine ⟨?_, fit_one _ _ (by decide), by rw [says_b]; decide⟩
  rw [says_b]
  intro f hf
  simp at hf
  subst hf
  exact ⟨by kernel_rfl, by decide, by decide⟩
theorem out_ab (v0 v1 : Value) : outK w3 [(v0, aIn), (v1, bIn)] 2 = [⟨#[97]⟩, ⟨#[98]⟩, ⟨#[97, 32, 98]⟩] := by
  show saysT w3 aIn ++ (saysT w3 bIn ++ []) = _
  rw [saysT, saysT, says_a, says_b]
  rfl
end Go.Proofs.YtjeinpadcknfbaaGreatDoor
/-
  The one variable of the library that strings.Index, Split and Replace read.
-/
namespace Go.Proofs.YtjeinpadcknfbaaGreatDoor
open Go.RowKit

/-- internal/bytealg.MaxLen holds some number. -/
def Held (w : World) : Prop := (∃ c, w.cell? ⟨0, 0, none⟩ = some (.int .i64 c)) ∧ 0 < w.heap.size
theorem Held.below {w w' : World} (h : Held w) {B : Nat} (hB : 0 < B) (hb : Below B w w') : Held w' := by
  obtain ⟨⟨c, hc⟩, h2⟩ := h
  exact ⟨⟨c, by rw [hb.cell hB]; exact hc⟩, Nat.lt_of_lt_of_le h2 hb.size⟩
end Go.Proofs.YtjeinpadcknfbaaGreatDoor
/-
  The document's example: the walk.
-/
namespace Go.Proofs.YtjeinpadcknfbaaGreatDoor
open Go.RowKit

/-- A slice of one that has just been made. -/
theorem elems_made (w : World) (v : Value) (e : TypeId) {g : Nat} (hg : g = w.heap.size) : Elems (w.alloc (.cells #[v] e)) (w.alloc (.cells #[v] e)).heap.size (some ⟨g, 0, none⟩) 1 [v] := by
  subst hg
  refine ⟨rfl, by decide, .inr ⟨w.heap.size, 0, rfl, by simp, fun i hi => ?_⟩⟩
  obtain rfl : i = 0 := by omega
  simp
/-- New of one entry. -/
theorem new_one (t : ByteArray) (s : ByteArray) (hs : s = ⟨#[120, 61]⟩ ++ t) (ht : t.size ≤ 1000) (a : Option Addr) (c : Nat) (w : World) (hE : Elems w w.heap.size a 1 [.string s]) (hH : Held w) :
    Calls Tryz.prog 7 #[.slice a 1 c, .string ⟨#[115, 104]⟩, .slice none 0 0] w fun e w' => ∃ g mb, e = .returned (.pointer (some ⟨g, 0, none⟩)) ∧ VSt w' w.heap.size g mb 1 [(xN, xV (L t))] [] 0 ∧ Below w.heap.size w w' := by
  obtain ⟨⟨m0, hm0⟩, h0⟩ := hH
  have := pnew_any a 1 c [s] none 0 0 [] w w.heap.size m0 (by simpa using hE) ⟨rfl, Nat.zero_le _, .inl rfl⟩ (Nat.le_refl _) (by omega) (by omega) (fun x hx => by simp at hx; subst hx; rw [hs, L_x]; exact fine_x (by rw [L_size]; exact ht)) hm0 h0
  rw [show [s].map L = [120 :: 61 :: L t] by rw [hs]; simp [L_x], new_x] at this
  exact this

def abL : List ByteArray := [⟨#[97]⟩, ⟨#[98]⟩, ⟨#[97, 32, 98]⟩]
def p0C : Array Value := #[.int .i64 2, .bool false, .string ⟨#[120]⟩, .string ⟨#[]⟩, .slice none 0 0, .slice none 0 0]
def p1C : Array Value := #[.int .i64 2, .bool true, .string ⟨#[120]⟩, .string ⟨#[]⟩, .slice none 0 0, .slice none 0 0]
/-- pieces of a parameter as it is. -/
theorem pieces_as {lo g mb n : Nat} {l : List (Nm × Xd)} {xs : List ByteArray} {st : Int} (xg : Nat) (hv : Value) (strict q : Bool) (v : Value) (w : World) (hX : XBk w xg g hv strict) (hV : VSt w lo g mb n l xs st) (t : ByteArray) (ht : find l xN = ⟨L t, true, true, false⟩) (hz : t.size ≤ 1000)
    (hl : Sl w w.heap.size 6 v 1 (paC ⟨2, q, ⟨#[120]⟩, ⟨#[]⟩, none, 0, 0⟩)) : ∀ W', Below w.heap.size w W' → PiecesC xg v ⟨t, q, !q, false⟩ W' (fun w' => Below W'.heap.size W' w') := by
  intro W hW
  refine pieces_par xg xg xg ⟨2, q, ⟨#[120]⟩, ⟨#[]⟩, none, 0, 0⟩ ⟨t, q, !q, false⟩ v W _ ((hl.below hW).mono hW.size) rfl (by show t.size ≤ 1000000; omega) (kept_below _ _ (Nat.le_refl _)) fun W1 hW1 => ?_
  have hw1 : Below w.heap.size w W1 := hW.trans (hW1.mono hW.size)
  have hV1 : VSt W1 lo g mb n l xs st := by obtain ⟨v, h⟩ := hV; exact ⟨v, h.below hw1⟩
  refine (param_as xg hv strict q none 0 0 W1 (hX.below hw1 hX.lt) hV1 t ht).mono ?_
  rintro e w' ⟨v', h1, h2, h3⟩
  exact ⟨v', h1, h2, hW1.trans (h3.mono hW1.size), But.of_below h3⟩
theorem words_ab {lo g mb n : Nat} {xs : List ByteArray} {st : Int} (xg : Nat) (hv : Value) (strict : Bool) (w : World) (hX : XBk w xg g hv strict) (hV : VSt w lo g mb n [(xN, xV (L ⟨#[97, 32, 98]⟩))] xs st) (W : World)
    (hW : W = ((w.alloc (.cells p0C 36)).alloc (.cells p1C 36)).alloc (.cells #[.slice (some ⟨w.heap.size, 0, none⟩) 1 1, .slice (some ⟨w.heap.size + 1, 0, none⟩) 1 1] 33)) :
    Calls Tryz.prog 12 #[.pointer (some ⟨xg, 0, none⟩), .slice (some ⟨w.heap.size + 1 + 1, 0, none⟩) 2 2] W fun e w' => ∃ a c, e = .returned (.tuple #[.slice a 3 c, .int .i64 0]) ∧ OwnS w' W.heap.size (.slice a 3 c) abL ∧ Below W.heap.size W w' := by
  have hb : Below w.heap.size w W := by rw [hW]; go_grown
  have hX2 : XBk W xg g hv strict := hX.below hb hX.lt
  have hV2 : VSt W lo g mb n [(xN, xV (L ⟨#[97, 32, 98]⟩))] xs st := by obtain ⟨v, h⟩ := hV; exact ⟨v, h.below hb⟩
  have hs : W.heap.size = w.heap.size + 3 := by rw [hW]; simp
  have s0 : Sl W W.heap.size 6 (.slice (some ⟨w.heap.size, 0, none⟩) 1 1) 1 (paC ⟨2, false, ⟨#[120]⟩, ⟨#[]⟩, none, 0, 0⟩) := by
    have h1 : Sl (w.alloc (.cells p0C 36)) (w.heap.size + 1) 6 (.slice (some ⟨w.heap.size, 0, none⟩) 1 1) 1 p0C.toList := sl_made w p0C _ 1 6 rfl (by decide) (by omega)
    refine ((h1.below (w' := W) ?_).mono (by omega))
    rw [hW]
    exact ((Below.refl _ _).alloc (by simp) _).alloc (by simp) _
  have s1 : Sl W W.heap.size 6 (.slice (some ⟨w.heap.size + 1, 0, none⟩) 1 1) 1 (paC ⟨2, true, ⟨#[120]⟩, ⟨#[]⟩, none, 0, 0⟩) := by
    have h1 : Sl ((w.alloc (.cells p0C 36)).alloc (.cells p1C 36)) (w.heap.size + 2) 6 (.slice (some ⟨(w.alloc (.cells p0C 36)).heap.size, 0, none⟩) 1 1) 1 p1C.toList := sl_made (w.alloc (.cells p0C 36)) p1C _ 1 6 rfl (by decide) (by simp)
    rw [show (w.alloc (.cells p0C 36)).heap.size = w.heap.size + 1 by simp] at h1
    refine ((h1.below (w' := W) ?_).mono (by omega))
    rw [hW]
    exact (Below.refl _ _).alloc (by simp) _
  have hE : Elems W W.heap.size (some ⟨w.heap.size + 1 + 1, 0, none⟩) 2 [.slice (some ⟨w.heap.size, 0, none⟩) 1 1, .slice (some ⟨w.heap.size + 1, 0, none⟩) 1 1] := by
    refine ⟨rfl, by decide, .inr ⟨w.heap.size + 1 + 1, 0, rfl, by omega, fun i hi => ?_⟩⟩
    rw [hW]
    match i, hi with
    | 0, _ => exact (Blk.at (t := 33) (cs := #[.slice (some ⟨w.heap.size, 0, none⟩) 1 1, .slice (some ⟨w.heap.size + 1, 0, none⟩) 1 1]) (by simp)).cell 0
    | 1, _ => exact (Blk.at (t := 33) (cs := #[.slice (some ⟨w.heap.size, 0, none⟩) 1 1, .slice (some ⟨w.heap.size + 1, 0, none⟩) 1 1]) (by simp)).cell 1
  have hS : ∀ W', Below W.heap.size W W' → Calls Tryz.prog 23 #[.pointer (some ⟨g, 0, none⟩)] W' fun e w' => e = .returned (.string (S w3)) ∧ Below W'.heap.size W' w' := fun W' hW' => by
    have := vsplit_any W' (by obtain ⟨v, h⟩ := hV2; exact ⟨v, h.below hW'⟩ : VSt W' lo g mb n [(xN, xV (L ⟨#[97, 32, 98]⟩))] xs st)
    rw [split_x] at this
    exact this
  have := Words_any w3 [(.slice (some ⟨w.heap.size, 0, none⟩) 1 1, aIn), (.slice (some ⟨w.heap.size + 1, 0, none⟩) 1 1, bIn)] xg g hv strict _ 2 2 W hX2 (by decide) hE (by omega)
    (by intro x hx; simp at hx; rcases hx with rfl | rfl; exact fine_a; exact fine_b)
    (by
      intro x hx
      simp at hx
      rcases hx with rfl | rfl
      · exact pieces_as xg hv strict false _ W hX2 hV2 ⟨#[97, 32, 98]⟩ (find_x _) (by decide) s0
      · exact pieces_as xg hv strict true _ W hX2 hV2 ⟨#[97, 32, 98]⟩ (find_x _) (by decide) s1) hS
  rw [out_ab] at this
  exact this

set_option maxHeartbeats 4000000 in
set_option maxRecDepth 100000 in
theorem anchor_any (w : World) (hH : Held w) : Calls Tryz.prog 5 #[] w fun e w' => e = .returned (.bool true) ∧ Below w.heap.size w w' := by
  have CN : Hid (Calls Tryz.prog 7 #[.slice (some ⟨w.heap.size, 0, none⟩) 1 1, .string ⟨#[115, 104]⟩, .slice none 0 0] (w.alloc (.cells #[.string ⟨#[120, 61, 97, 32, 98]⟩] 9)) fun e w' => ∃ g mb, e = .returned (.pointer (some ⟨g, 0, none⟩)) ∧ VSt w' (w.heap.size + 1) g mb 1 [(xN, xV (L ⟨#[97, 32, 98]⟩))] [] 0 ∧ Below (w.heap.size + 1) (w.alloc (.cells #[.string ⟨#[120, 61, 97, 32, 98]⟩] 9)) w') := Lib.hid (by
    have := new_one ⟨#[97, 32, 98]⟩ ⟨#[120, 61, 97, 32, 98]⟩ rfl (by decide) _ 1 _ (elems_made w (.string ⟨#[120, 61, 97, 32, 98]⟩) 9 rfl) (hH.below (B := w.heap.size) hH.2 (by go_grown))
    simpa using this)
  have hh := hH.2
  clear hH
  go_enter Tryz.func5, Tryz.ntmps5
  go_wp2_with fail
  refine CN.out.mono ?_
  rintro e w1 ⟨g, mb, rfl, hV1, hb1⟩
  have HV1 := Lib.hid hV1
  have HB1 := Lib.hid (((Below.refl w.heap.size w).alloc (Nat.le_refl _) (.cells #[.string ⟨#[120, 61, 97, 32, 98]⟩] 9)).trans (hb1.mono (Nat.le_succ _)))
  clear hb1 hV1
  go_wp2_with fail
  refine (New_any g _ _ false _).mono ?_
  rintro e w2 ⟨rfl, hx2, hb2⟩
  have HX2 : Hid (XBk w2 (w1.heap.size + 1) g (.iface 29 (.pointer (some ⟨w1.heap.size, 0, none⟩))) false) := Lib.hid (by simpa using hx2)
  have HV2 : Hid (VSt w2 (w.heap.size + 1) g mb 1 [(xN, xV (L ⟨#[97, 32, 98]⟩))] [] 0) := Lib.hid (by
    obtain ⟨v, h⟩ := HV1.out
    exact ⟨v, (h.below ((Below.refl _ _).alloc (Nat.le_refl _) _)).below hb2⟩)
  have HB2 := Lib.hid (HB1.out.trans (((Below.refl w1.heap.size w1).alloc (Nat.le_refl _) (.cells #[.string ⟨#[]⟩, .int .i64 0, .slice none 0 0, .slice none 0 0] 32)).trans (hb2.mono (by simp)) |>.mono HB1.out.size))
  clear hx2 hb2
  go_wp2_with fail
  obtain ⟨W5, hW5⟩ : ∃ W5, W5 = ((w2.alloc (.cells #[.int .i64 2, .bool false, .string ⟨#[120]⟩, .string ⟨#[]⟩, .slice none 0 0, .slice none 0 0] 36)).alloc (.cells #[.int .i64 2, .bool true, .string ⟨#[120]⟩, .string ⟨#[]⟩, .slice none 0 0, .slice none 0 0] 36)).alloc (.cells #[.slice (some ⟨w2.heap.size, 0, none⟩) 1 1, .slice (some ⟨w2.heap.size + 1, 0, none⟩) 1 1] 33) := ⟨_, rfl⟩
  have CW := Lib.hid (words_ab _ _ _ w2 HX2.out HV2.out W5 hW5)
  have HB5 : Hid (Below w.heap.size w W5) := Lib.hid (by rw [hW5]; exact ((HB2.out.alloc HB2.out.size _).alloc (by have := HB2.out.size; simp; omega) _).alloc (by have := HB2.out.size; simp; omega) _)
  rw [← hW5]
  clear hW5
  refine CW.out.mono ?_
  rintro e w3 ⟨a, c, rfl, ho, hb⟩
  have HB3 := Lib.hid (HB5.out.trans (hb.mono HB5.out.size))
  obtain ⟨a', c', e', hel⟩ := ho.elems (by decide)
  obtain ⟨rfl, rfl⟩ : a' = a ∧ c' = c := by
    simp at e'
    exact ⟨e'.1.symm, e'.2.2.symm⟩
  obtain ⟨eb, eo, hix, heB, hec⟩ := hel.open (P := Tryz.prog) 26 9 Tryz.underlying26 (by kernel_rfl)
  have i0 := fun w' => hix 0 c' w' (by decide)
  have i1 := fun w' => hix 1 c' w' (by decide)
  have i2 := fun w' => hix 2 c' w' (by decide)
  have c0 := hec 0 (by decide)
  have c1 := hec 1 (by decide)
  have c2 := hec 2 (by decide)
  simp [abL] at c0 c1 c2 i0 i1 i2
  clear ho hb e' hel hix hec
  go_wp2_with fail
  go_ret
  exact ⟨rfl, HB3.out⟩
end Go.Proofs.YtjeinpadcknfbaaGreatDoor
/-
  zero; New of nothing: the walks.
-/
namespace Go.Proofs.YtjeinpadcknfbaaGreatDoor
open Go.RowKit

theorem zero_any (s : ByteArray) (w : World) (hs : s.size ≤ 1000) : Calls Tryz.prog 6 #[.string s] w fun e w' => (∃ b, e = .returned (.bool b)) ∧ w = w' := by
  go_enter Tryz.func6, Tryz.ntmps6
  go_wp2_with fail
  go_loopw [6] (fun i wr => ∃ k : Nat, k ≤ s.size ∧ i = .int .i64 k ∧ wr = w) (fun i _ => s.size - (intOf i).toNat)
  case atStart => exact ⟨0, Nat.zero_le _, rfl, rfl⟩
  case round =>
    obtain ⟨k, hk, rfl, hw⟩ := hrel
    have HW := Lib.hid hw.symm
    clear hw
    by_cases hlt : k < s.size
    · have hidx := run_idx (P := Tryz.prog) Tryz.underlying9 s (k := .i64) (k : Int) k rfl hlt
      obtain ⟨d, hd⟩ : ∃ d, d = (L s).getD k 0 := ⟨_, rfl⟩
      rw [← hd] at hidx
      clear hd
      by_cases hdc : d = 0
      · have e1 : (((d.toNat : Nat) : Int) == 0) = true := by rw [hdc]; rfl
        clear hdc
        go_wp2_with fail
        go_ret
        exact ⟨⟨_, rfl⟩, HW.out⟩
      · have e1 : (((d.toNat : Nat) : Int) == 0) = false := by rw [beq_eq_false_iff_ne]; intro e; exact hdc (UInt8.toNat_inj.1 (by show d.toNat = 0; omega))
        clear hdc
        go_wp2_with fail
        go_roundw
        case rel => exact ⟨k + 1, by omega, by go_num, HW.out.symm⟩
        case measure => simp [intOf]; omega
    · go_wp2_with fail
      go_ret
      exact ⟨⟨_, rfl⟩, HW.out⟩
theorem new_none (w : World) (hH : Held w) :
    Calls Tryz.prog 7 #[.slice none 0 0, .string ⟨#[115, 104]⟩, .slice none 0 0] w fun e w' => ∃ g mb, e = .returned (.pointer (some ⟨g, 0, none⟩)) ∧ VSt w' w.heap.size g mb 0 [] [] 0 ∧ Below w.heap.size w w' := by
  obtain ⟨⟨m0, hm0⟩, h0⟩ := hH
  exact pnew_any none 0 0 [] none 0 0 [] w w.heap.size m0 ⟨rfl, Nat.zero_le _, .inl rfl⟩ ⟨rfl, Nat.zero_le _, .inl rfl⟩ (Nat.le_refl _) (by omega) (by omega) (fun x hx => by cases hx) hm0 h0
end Go.Proofs.YtjeinpadcknfbaaGreatDoor
namespace Go.Proofs.YtjeinpadcknfbaaGreatDoor
open Go.RowKit

/-- A part that has just been made, as a word. -/
theorem part_made (w : World) (p : Pa) {g : Nat} (hg : g = w.heap.size) : Sl (w.alloc (.cells #[.int .i64 p.kind, .bool p.q, .string p.t, .string p.op, .slice p.wa p.wn p.wc, .slice none 0 0] 36)) (w.alloc (.cells #[.int .i64 p.kind, .bool p.q, .string p.t, .string p.op, .slice p.wa p.wn p.wc, .slice none 0 0] 36)).heap.size 6 (.slice (some ⟨g, 0, none⟩) 1 1) 1 (paC p) :=
  sl_made_at w #[.int .i64 p.kind, .bool p.q, .string p.t, .string p.op, .slice p.wa p.wn p.wc, .slice none 0 0] _ 1 6 rfl (by decide) hg
theorem part_word (w : World) (t : ByteArray) (ht : t.size ≤ 500) {g : Nat} (hg : g = w.heap.size) : WordAt (w.alloc (.cells #[.int .i64 1, .bool true, .string t, .string ⟨#[]⟩, .slice none 0 0, .slice none 0 0] 36)) (some ⟨g, 0, none⟩) 1 ⟨1, true, t, ⟨#[]⟩, none, 0, 0⟩ :=
  ⟨part_made w ⟨1, true, t, ⟨#[]⟩, none, 0, 0⟩ hg, rfl, rfl, ht⟩

set_option maxHeartbeats 4000000 in
set_option maxRecDepth 100000 in
theorem sets_yes (t s : ByteArray) (w : World) (ht : t.size ≤ 140737488355327) (hs : s.size ≤ 140737488355327) (hH : Held w) :
    Calls Tryz.prog 4 #[.string t, .string s, .bool true] w fun e w' => e = .returned (.bool true) ∧ Below w.heap.size w w' := by
  have CA := Lib.hid (anchor_any w hH)
  have HH := Lib.hid hH
  have h0 := hH.2
  by_cases hbig : 500 < t.size + s.size
  · have hb : decide (((t.size : Nat) : Int) + ((s.size : Nat) : Int) > 500) = true := by simp; omega
    clear hH
    go_enter Tryz.func4, Tryz.ntmps4
    go_wp2_with fail
    refine CA.out.mono ?_
    rintro e w1 ⟨rfl, hb1⟩
    have HB1 := Lib.hid hb1
    clear hb1
    go_wp2_with fail
    go_ret
    exact ⟨rfl, HB1.out⟩
  · have hb : decide (((t.size : Nat) : Int) + ((s.size : Nat) : Int) > 500) = false := by simp; omega
    have htz : t.size ≤ 500 := by omega
    have hsz : s.size ≤ 500 := by omega
    have CZ := Lib.hid (fun W => zero_any s W (by omega))
    clear hH
    go_enter Tryz.func4, Tryz.ntmps4
    go_wp2_with fail
    refine CA.out.mono ?_
    rintro e w1 ⟨rfl, hb1⟩
    have HB1 := Lib.hid hb1
    have HH1 := Lib.hid (HH.out.below h0 hb1)
    clear hb1
    go_wp2_with fail
    refine (CZ.out _).mono ?_
    rintro e w2 ⟨⟨z, rfl⟩, rfl⟩
    cases z
    · have CN := Lib.hid (new_one t (⟨#[120, 61]⟩ ++ t) rfl (by omega) _ 1 _ (elems_made w1 (.string (⟨#[120, 61]⟩ ++ t)) 9 rfl) (HH1.out.below (B := w1.heap.size) HH1.out.2 (by go_grown)))
      go_wp2_with fail
      refine CN.out.mono ?_
      rintro e w2 ⟨g, mb, rfl, hV2, hb2⟩
      have HV2 := Lib.hid hV2
      have HB2 : Hid (Below w.heap.size w w2) := Lib.hid (HB1.out.trans (((Below.refl w1.heap.size w1).alloc (Nat.le_refl _) (.cells #[.string (⟨#[120, 61]⟩ ++ t)] 9)).trans (hb2.mono (by simp)) |>.mono HB1.out.size))
      clear hV2 hb2
      go_wp2_with fail
      refine (New_any g _ _ false _).mono ?_
      rintro e w3 ⟨rfl, hx3, hb3⟩
      have HX3 : Hid (XBk w3 (w2.heap.size + 1) g (.iface 29 (.pointer (some ⟨w2.heap.size, 0, none⟩))) false) := Lib.hid (by simpa using hx3)
      have HV3 : Hid (∃ lo mb n, VSt w3 lo g mb n [(xN, xV (L t))] [] 0) := Lib.hid (by
        obtain ⟨v, h⟩ := HV2.out
        exact ⟨_, _, _, v, (h.below ((Below.refl _ _).alloc (Nat.le_refl _) _)).below hb3⟩)
      have HB3 := Lib.hid (HB2.out.trans (((Below.refl w2.heap.size w2).alloc (Nat.le_refl _) (.cells #[.string ⟨#[]⟩, .int .i64 0, .slice none 0 0, .slice none 0 0] 32)).trans (hb3.mono (by simp)) |>.mono HB2.out.size))
      obtain ⟨xg, hxg⟩ : ∃ xg, xg = w2.heap.size + 1 := ⟨_, rfl⟩
      have hxe : (w2.alloc (.cells #[.string ⟨#[]⟩, .int .i64 0, .slice none 0 0, .slice none 0 0] 32)).heap.size = xg := by rw [hxg]; simp
      rw [hxe]
      rw [← hxg] at HX3
      have hxl : xg < w3.heap.size := HX3.out.lt
      have CT : Hid (∀ W (op : ByteArray) h, (op = ⟨#[45]⟩ ∨ op = ⟨#[61]⟩) → Below w3.heap.size w3 W → h = W.heap.size → Calls Tryz.prog 9 #[.pointer (some ⟨xg, 0, none⟩), .slice (some ⟨h, 0, none⟩) 1 1] (W.alloc (.cells #[.int .i64 2, .bool true, .string ⟨#[120]⟩, .string op, .slice (some ⟨w3.heap.size, 0, none⟩) 1 1, .slice none 0 0] 36)) fun e w' => e = .returned (.tuple #[.string t, .int .i64 0]) ∧ Below W.heap.size W w') := Lib.hid fun W op h hop hW hh => by
        obtain ⟨lo, mb, n, v, hv⟩ := HV3.out
        have hb0 : Below w3.heap.size w3 (W.alloc (.cells #[.int .i64 2, .bool true, .string ⟨#[120]⟩, .string op, .slice (some ⟨w3.heap.size, 0, none⟩) 1 1, .slice none 0 0] 36)) := hW.alloc hW.size _
        refine (Text_of xg (some ⟨h, 0, none⟩) 1 ⟨2, true, ⟨#[120]⟩, op, some ⟨w3.heap.size, 0, none⟩, 1, 1⟩ ⟨t, true, false, false⟩ _ (Nat.lt_of_lt_of_le hxl hb0.size) (part_made W ⟨2, true, ⟨#[120]⟩, op, some ⟨w3.heap.size, 0, none⟩, 1, 1⟩ hh) rfl htz rfl fun W' hW' => ?_).mono fun e w' ⟨h1, h2⟩ => ⟨h1, ((Below.refl W.heap.size W).alloc (Nat.le_refl _) _).trans (h2.mono (by simp))⟩
        have hb1 : Below w3.heap.size w3 W' := hb0.trans (hW'.mono hb0.size)
        rcases hop with rfl | rfl
        · exact param_minus xg _ false true _ 1 1 W' (HX3.out.below hb1 hxl) ⟨v, hv.below hb1⟩ t (find_x _)
        · exact param_set xg _ false true _ 1 1 W' (HX3.out.below hb1 hxl) ⟨v, hv.below hb1⟩ t (find_x _)
      have CGt : Hid (∀ W, Below w3.heap.size w3 W → Calls Tryz.prog 11 #[.pointer (some ⟨g, 0, none⟩), .string ⟨#[120]⟩] W fun e w' => e = .returned (.tuple #[.string t, .bool true]) ∧ Below W.heap.size W w') := Lib.hid fun W hW => by
        obtain ⟨lo, mb, n, v, hv⟩ := HV3.out
        have := vget_any ⟨#[120]⟩ W ⟨v, hv.below hW⟩ (by unfold maxLen; decide)
        rw [show find [(xN, xV (L t))] (L ⟨#[120]⟩) = xV (L t) from find_x _] at this
        rw [show (⟨(xV (L t)).text.toArray⟩ : ByteArray) = t from S_L t] at this
        exact this
      clear hx3 hb3 hxg hxe
      go_wp2_with fail
      have HW4 : Hid (Below w3.heap.size w3 (w3.alloc (.cells #[.int .i64 1, .bool true, .string s, .string ⟨#[]⟩, .slice none 0 0, .slice none 0 0] 36))) := Lib.hid (by go_grown)
      refine (CT.out _ _ _ (.inl rfl) HW4.out (by simp)).mono ?_
      rintro e w5 ⟨rfl, hb5⟩
      have HW5 := Lib.hid (HW4.out.trans (hb5.mono (by simp)))
      clear hb5
      go_wp2_with fail
      refine (CGt.out _ HW5.out).mono ?_
      rintro e w6 ⟨rfl, hb6⟩
      have HW6 := Lib.hid (HW5.out.trans (hb6.mono HW5.out.size))
      clear hb6
      go_wp2_with fail
      refine (CT.out _ _ _ (.inr rfl) HW6.out rfl).mono ?_
      rintro e w7 ⟨rfl, hb7⟩
      have HW7 := Lib.hid (HW6.out.trans (hb7.mono HW6.out.size))
      clear hb7
      go_wp2_with fail
      refine (CGt.out _ HW7.out).mono ?_
      rintro e w8 ⟨rfl, hb8⟩
      have HW8 := Lib.hid (HB3.out.trans ((HW7.out.trans (hb8.mono HW7.out.size)).mono HB3.out.size))
      clear hb8
      go_wp2_with fail
      go_ret
      exact ⟨rfl, HW8.out⟩
    · go_wp2_with fail
      go_ret
      exact ⟨rfl, HB1.out⟩
end Go.Proofs.YtjeinpadcknfbaaGreatDoor
