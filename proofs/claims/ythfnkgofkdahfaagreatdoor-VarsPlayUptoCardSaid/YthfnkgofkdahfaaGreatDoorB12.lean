/-
  The walk of do: a call of the program's variables and of the document's.
-/
import Derived.Test.YthfnkgofkdahfaaGreatDoorB6
import Derived.Test.YthfnkgofkdahfaaGreatDoorB9
namespace Go.Proofs.YthfnkgofkdahfaaGreatDoor
open Go.RowKit

/-- A call. -/
structure Opd where
  kind : Int
  name : ByteArray
  text : ByteArray
  n : Int
  args : List ByteArray
/-- What a call makes of variables, parameters and status. -/
def doR (l : List (Nm × Xd)) (xs : List ByteArray) (st : Int) (o : Opd) : List (Nm × Xd) × List ByteArray × Int :=
  if o.kind = 1 then ((setR l (L o.name) (L o.text)).1, xs, st)
  else if o.kind = 2 then ((unsetR l (L o.name)).1, xs, st)
  else if o.kind = 3 then ((expR l (L o.name)).1, xs, st)
  else if o.kind = 4 then ((fixR l (L o.name)).1, xs, st)
  else if o.kind = 5 then (l, if o.n < 0 ∨ (xs.length : Int) < o.n then xs else xs.drop o.n.toNat, st)
  else if o.kind = 6 then (l, o.args, st)
  else if o.kind = 7 then (l, xs, o.n)
  else (l, xs, st)

theorem do_results {w : World} {b : Nat} {tmps : Array Value} {c0 c1 c2 c3 z : Value} (h2 : tmps[6]?.getD undef = .pointer (some ⟨b, 0, none⟩)) (h3 : tmps[7]?.getD undef = z) (h : Blk w b 30 #[c0, c1, c2, c3]) :
    (results Tryz.f9 tmps).run Tryz.prog w = .ok (.tuple #[.agg #[c0, c1, c2, c3], z]) w := by
  have q0 := h.cell 0
  have q1 := h.cell 1
  have q2 := h.cell 2
  have q3 := h.cell 3
  simp at q0 q1 q2 q3
  simp [results, Tryz.results9, go_sem, h2, h3, q0, q1, q2, q3]
theorem ea_cut {w : World} {B c m : Nat} {a : Option Addr} {ss : List ByteArray} (h : EA w B a c ss) (hm : m ≤ ss.length) :
    ∃ a' c', (∀ w' : World, (Instr.slice 22 (.slice a ss.length c) (some (.int .i64 (m : Int))) none none).run Tryz.prog w' = .ok (.slice a' (ss.drop m).length c') w') ∧ EA w B a' c' (ss.drop m) := by
  obtain ⟨h, hc, hc2⟩ := h
  have hsl : Sl w B 1 (.slice a ss.length c) ss.length (ss.map Value.string) := ⟨by rw [Nat.mul_one]; exact h.1, a, c, rfl, hc, hc2, by
    rcases h.2.2 with h3 | ⟨b, off, ha, hb, hx⟩
    · exact .inl h3
    · exact .inr ⟨b, off, ha, hb, fun j hj => hx j (by omega)⟩⟩
  obtain ⟨v', h1, h2⟩ := hsl.cut (P := Tryz.prog) 22 9 Tryz.underlying22 (by kernel_rfl) hm
  have hcap : ∃ a' c', v' = .slice a' (ss.length - m) c' ∧ ss.length - m ≤ c' ∧ c' ≤ maxLen := by
    obtain ⟨_, a', c', e, q1, q2, _⟩ := h2
    exact ⟨a', c', e, q1, q2⟩
  obtain ⟨a', c', rfl, q1, q2⟩ := hcap
  obtain ⟨a2, c2, e2, hE⟩ := sl_elems h2
  cases e2
  rw [Nat.mul_one, ← List.map_drop] at hE
  rw [← List.length_drop] at h1 hE q1
  exact ⟨a', c', h1, hE, q1, q2⟩
theorem But.put4 {g mb : Nat} {a w : World} (h : But g mb a w) {b : Nat} (hb : a.heap.size ≤ b) (x0 x1 x2 x3 : Value) : But g mb a ((((w.setCell ⟨b, 0, none⟩ x0).setCell ⟨b, 1, none⟩ x1).setCell ⟨b, 2, none⟩ x2).setCell ⟨b, 3, none⟩ x3) :=
  (((h.setNew (p := ⟨b, 0, none⟩) hb x0).setNew (p := ⟨b, 1, none⟩) hb x1).setNew (p := ⟨b, 2, none⟩) hb x2).setNew (p := ⟨b, 3, none⟩) hb x3
theorem own_put4far {w : World} {lo : Nat} {v : Value} {l : List (Nm × Xd)} (h : LSt w lo v l) {b : Nat} (hb : v.ownBlock ≠ some b) (x0 x1 x2 x3 : Value) :
    LSt ((((w.setCell ⟨b, 0, none⟩ x0).setCell ⟨b, 1, none⟩ x1).setCell ⟨b, 2, none⟩ x2).setCell ⟨b, 3, none⟩ x3) lo v l :=
  own_but h (((((But.refl b b w).setG 0 x0).setG 1 x1).setG 2 x2).setG 3 x3) hb hb
theorem VS.put4 {v : Value} {w : World} {lo g mb n : Nat} {l : List (Nm × Xd)} {xs : List ByteArray} {st : Int} (h : VS v w lo g mb n l xs st) {b : Nat} (h1 : b ≠ g) (h2 : b ≠ mb) (h3 : v.ownBlock ≠ some b) (x0 x1 x2 x3 : Value) :
    VS v ((((w.setCell ⟨b, 0, none⟩ x0).setCell ⟨b, 1, none⟩ x1).setCell ⟨b, 2, none⟩ x2).setCell ⟨b, 3, none⟩ x3) lo g mb n l xs st :=
  (((h.far (p := ⟨b, 0, none⟩) h1 h2 h3 x0).far (p := ⟨b, 1, none⟩) h1 h2 h3 x1).far (p := ⟨b, 2, none⟩) h1 h2 h3 x2).far (p := ⟨b, 3, none⟩) h1 h2 h3 x3

section
variable {v : Value} {lo lo' g mb n B : Nat} {V : Value} {l : List (Nm × Xd)} {xs : List ByteArray} {st : Int}
/-- What do leaves. -/
def DoP (w : World) (lo lo' g mb n B : Nat) (r : List (Nm × Xd) × List ByteArray × Int) (e : Ending) (w' : World) : Prop :=
  ∃ V' v', e = .returned (.tuple #[V', .bool true]) ∧ VS v' w' lo g mb (n + 1) r.1 r.2.1 r.2.2 ∧ RSt w' lo' B V' r.1 r.2.1 r.2.2 ∧ But g mb w w'
set_option maxHeartbeats 1000000 in
set_option maxRecDepth 100000 in
theorem do_1 (o : Opd) (hkd : o.kind = 1) (oa : Option Addr) (oc : Nat) (w : World) (hV : VS v w lo g mb n l xs st) (hR : RSt w lo' B V l xs st) (hlo : B ≤ lo) (hg : g < lo') (hmb : mb < lo') (hlo' : lo' ≤ w.heap.size) (hO : EA w B oa oc o.args)
    (hn : n ≤ 900) (hl : l.length ≤ 900) (hxs : xs.length ≤ 1000) (h1 : o.name.size ≤ 1048576) (h2 : o.text.size ≤ 1048576) (h3 : o.args.length ≤ 1000) :
    Calls Tryz.prog 9 #[.pointer (some ⟨g, 0, none⟩), V, .agg #[.int .i64 o.kind, .string o.name, .string o.text, .int .i64 o.n, .slice oa o.args.length oc]] w (DoP w lo lo' g mb n B (doR l xs st o)) := by
  obtain ⟨vL, a, c, rfl, hL, hE⟩ := hR
  obtain ⟨kd, nm, tx, num, ags⟩ := o
  simp only at hO h1 h2 h3
  have hlt := hV.lt
  have hge := hV.ge
  obtain ⟨va, vc, rfl⟩ := own_shape hL
  obtain ⟨N, hN⟩ : ∃ N, N = l.length := ⟨_, rfl⟩
  obtain ⟨m, hm⟩ : ∃ m, m = xs.length := ⟨_, rfl⟩
  obtain ⟨k, hk⟩ : ∃ k, k = ags.length := ⟨_, rfl⟩
  have hRS : RSt w lo' B (.agg #[.slice va l.length vc, .string ⟨#[115, 104]⟩, .slice a xs.length c, .int .i64 st]) l xs st := ⟨_, a, c, rfl, hL, hE⟩
  obtain ⟨w3, hw3⟩ : ∃ W, W = ((w.alloc (.cells #[.slice va N vc, .string ⟨#[115, 104]⟩, .slice a m c, .int .i64 st] 30)).alloc (.cells #[.int .i64 kd, .string nm, .string tx, .int .i64 num, .slice oa k oc] 34)).alloc (.cells #[.slice none 0 0, .string ⟨#[]⟩, .slice none 0 0, .int .i64 0] 30) := ⟨_, rfl⟩
  have HW3 := Lib.hid hw3
  have HS3 : Hid (w3.heap.size = w.heap.size + 3) := Lib.hid (by rw [hw3]; simp)
  have HB3 : Hid (Below w.heap.size w w3) := Lib.hid (by rw [hw3]; exact (((Below.refl _ _).alloc (Nat.le_refl _) _).alloc (by simp) _).alloc (by simp; omega) _)
  have X4 : Hid (Blk w3 w.heap.size 30 #[.slice va N vc, .string ⟨#[115, 104]⟩, .slice a m c, .int .i64 st]) := Lib.hid (by rw [hw3]; exact ((Blk.new w _ _).alloc _).alloc _)
  have X5 : Hid (Blk w3 (w.heap.size + 1) 34 #[.int .i64 kd, .string nm, .string tx, .int .i64 num, .slice oa k oc]) := Lib.hid (by rw [hw3]; have := (Blk.new (w.alloc (.cells #[.slice va N vc, .string ⟨#[115, 104]⟩, .slice a m c, .int .i64 st] 30)) 34 #[.int .i64 kd, .string nm, .string tx, .int .i64 num, .slice oa k oc]).alloc (.cells #[.slice none 0 0, .string ⟨#[]⟩, .slice none 0 0, .int .i64 0] 30); simpa using this)
  have X6 : Hid (Blk w3 (w.heap.size + 1 + 1) 30 #[.slice none 0 0, .string ⟨#[]⟩, .slice none 0 0, .int .i64 0]) := Lib.hid (by rw [hw3]; have := Blk.new ((w.alloc (.cells #[.slice va N vc, .string ⟨#[115, 104]⟩, .slice a m c, .int .i64 st] 30)).alloc (.cells #[.int .i64 kd, .string nm, .string tx, .int .i64 num, .slice oa k oc] 34)) 30 #[.slice none 0 0, .string ⟨#[]⟩, .slice none 0 0, .int .i64 0]; simpa using this)
  have HV3 : Hid (VS v w3 lo g mb n l xs st) := Lib.hid (hV.below HB3.out)
  have HVB : Hid (∀ b, v.ownBlock = some b → b < w.heap.size) := Lib.hid hV.own_lt
  have HLB : Hid (∀ b, (Value.slice va N vc).ownBlock = some b → b < w.heap.size) := Lib.hid fun b hb => by
    rw [hN] at hb
    exact (World.ownsRow.lt hL b hb).2
  have HR : Hid (RSt w lo' B (.agg #[.slice va N vc, .string ⟨#[115, 104]⟩, .slice a m c, .int .i64 st]) l xs st) := Lib.hid (by rw [hN, hm]; exact hRS)
  have HO := Lib.hid hO
  have HN := Lib.hid hN
  have HM := Lib.hid hm
  have HK := Lib.hid hk
  have H1 := Lib.hid h1
  have H2 := Lib.hid h2
  have H3 := Lib.hid h3
  have hgl := hlt.1
  have hml := hlt.2
  have HGE := Lib.hid hge
  have HLO := Lib.hid (And.intro hlo (And.intro hg (And.intro hmb hlo')))
  have HNN := Lib.hid (And.intro hn (And.intro hl hxs))
  rw [← hN, ← hm]
  show Calls Tryz.prog 9 #[.pointer (some ⟨g, 0, none⟩), .agg #[.slice va N vc, .string ⟨#[115, 104]⟩, .slice a m c, .int .i64 st], .agg #[.int .i64 kd, .string nm, .string tx, .int .i64 num, .slice oa ags.length oc]] w _
  rw [← hk]
  clear hw3 hV hL hE hRS hO hN hm hk h1 h2 h3 hge hlt hlo hg hmb hlo' hn hl hxs
  obtain rfl : kd = 1 := hkd
  obtain ⟨r, hr⟩ : ∃ r, (setR l (L nm) (L tx)).2 = r := ⟨_, rfl⟩
  have HDO : Hid (doR l xs st ⟨1, nm, tx, num, ags⟩ = ((setR l (L nm) (L tx)).1, xs, st)) := Lib.hid rfl
  obtain ⟨l2, hl2⟩ : ∃ x, (setR l (L nm) (L tx)).1 = x := ⟨_, rfl⟩
  have CV : Hid (Calls Tryz.prog 17 #[.pointer (some ⟨g, 0, none⟩), .string nm, .string tx] w3 fun e w' => e = .returned (.int .i64 r) ∧ VS v w' lo g mb (n + 1) l2 xs st ∧ But g mb w3 w') := Lib.hid (by have := vset_any nm tx w3 HV3.out (by have := HNN.out; omega) H1.out H2.out; rwa [hr, hl2] at this)
  have CR : Hid (∀ W V, RSt W lo' B V l xs st → w3.heap.size ≤ W.heap.size → Calls Tryz.prog 18 #[V, .string nm, .string tx] W fun e w' => ∃ V', e = .returned (.tuple #[V', .int .i64 r]) ∧ RSt w' lo' B V' l2 xs st ∧ (V' = V ∨ RSt w' W.heap.size B V' l2 xs st) ∧ Below W.heap.size W w') := Lib.hid fun W V hRW hW => by
    have hs3 := HS3.out
    have h4 := HLO.out
    have := rset_any nm tx W hRW (by omega) (by have := HGE.out; omega) (by have := HNN.out; omega) (by have := H1.out; omega)
    rwa [hr, hl2] at this
  rw [hl2] at HDO
  clear hr hl2
  go_enter Tryz.func9, Tryz.ntmps9
  go_wp2_with fail
  rw [← HW3.out]
  have y40 := (X4.out).cell 0
  have y41 := (X4.out).cell 1
  have y42 := (X4.out).cell 2
  have y43 := (X4.out).cell 3
  have f40 := (X4.out).free 0
  have f41 := (X4.out).free 1
  have f42 := (X4.out).free 2
  have f43 := (X4.out).free 3
  have y60 := (X6.out).cell 0
  have y61 := (X6.out).cell 1
  have y62 := (X6.out).cell 2
  have y63 := (X6.out).cell 3
  have f60 := (X6.out).free 0
  have f61 := (X6.out).free 1
  have f62 := (X6.out).free 2
  have f63 := (X6.out).free 3
  simp at y40 y41 y42 y43 y60 y61 y62 y63
  have y50 := (X5.out).cell 0
  have y51 := (X5.out).cell 1
  have y52 := (X5.out).cell 2
  have y53 := (X5.out).cell 3
  have y54 := (X5.out).cell 4
  simp at y50 y51 y52 y53 y54
  refine CV.out.mono ?_
  rintro e w4 ⟨rfl, hv4, hbu⟩
  have hs4 := hbu.size
  have HV4 := Lib.hid hv4
  have HBU : Hid (But g mb w3 w4) := Lib.hid hbu
  have HR4 : Hid (RSt w4 lo' B (.agg #[.slice va N vc, .string ⟨#[115, 104]⟩, .slice a m c, .int .i64 st]) l xs st) := Lib.hid (by
    obtain ⟨q1, q2, q3, q4⟩ := HLO.out
    obtain ⟨r1, r2, r3⟩ := HGE.out
    have hs3 := HS3.out
    exact (HR.out.below HB3.out (by omega)).but hbu q2 q3 (by omega) (by omega) (by omega))
  have X44 := Lib.hid (X4.out.but hbu (by omega) (by omega))
  have X54 := Lib.hid (X5.out.but hbu (by omega) (by omega))
  have X64 := Lib.hid (X6.out.but hbu (by omega) (by omega))
  clear hv4 hbu
  clear y50 y51 y52 y53 y54
  clear y40 y41 y42 y43 y60 y61 y62 y63 f40 f41 f42 f43 f60 f61 f62 f63
  have y40 := (X44.out).cell 0
  have y41 := (X44.out).cell 1
  have y42 := (X44.out).cell 2
  have y43 := (X44.out).cell 3
  have f40 := (X44.out).free 0
  have f41 := (X44.out).free 1
  have f42 := (X44.out).free 2
  have f43 := (X44.out).free 3
  have y60 := (X64.out).cell 0
  have y61 := (X64.out).cell 1
  have y62 := (X64.out).cell 2
  have y63 := (X64.out).cell 3
  have f60 := (X64.out).free 0
  have f61 := (X64.out).free 1
  have f62 := (X64.out).free 2
  have f63 := (X64.out).free 3
  simp at y40 y41 y42 y43 y60 y61 y62 y63
  have y50 := (X54.out).cell 0
  have y51 := (X54.out).cell 1
  have y52 := (X54.out).cell 2
  have y53 := (X54.out).cell 3
  have y54 := (X54.out).cell 4
  simp at y50 y51 y52 y53 y54
  go_wp2_with fail
  refine (CR.out _ _ HR4.out hs4).mono ?_
  rintro e w5 ⟨V', rfl, hR5, hor, hb5⟩
  clear y50 y51 y52 y53 y54
  have HB5 := Lib.hid hb5
  have X45 := Lib.hid (X44.out.below hb5 X44.out.lt)
  have X65 := Lib.hid (X64.out.below hb5 X64.out.lt)
  obtain ⟨vL', a', c', rfl, hL', hE'⟩ := hR5
  have HL5 := Lib.hid hL'
  have HE5 := Lib.hid hE'
  obtain ⟨ua, uc, rfl⟩ := own_shape hL'
  have HUB : Hid (∀ b, (Value.slice ua l2.length uc).ownBlock = some b → b < w.heap.size ∨ w4.heap.size ≤ b) := Lib.hid fun b hb => by
    rcases hor with hor | hor
    · simp only [Value.agg.injEq, Array.mk.injEq, List.cons.injEq] at hor
      rw [hor.1] at hb
      exact .inl (HLB.out b hb)
    · obtain ⟨vL2, a2, c2, e2, hL2, _⟩ := hor
      simp only [Value.agg.injEq, Array.mk.injEq, List.cons.injEq] at e2
      rw [← e2.1] at hL2
      exact .inr (World.ownsRow.lt hL2 b hb).1
  clear hor
  clear hb5 hL' hE'
  clear y40 y41 y42 y43 y60 y61 y62 y63 f40 f41 f42 f43 f60 f61 f62 f63
  have y40 := (X45.out).cell 0
  have y41 := (X45.out).cell 1
  have y42 := (X45.out).cell 2
  have y43 := (X45.out).cell 3
  have f40 := (X45.out).free 0
  have f41 := (X45.out).free 1
  have f42 := (X45.out).free 2
  have f43 := (X45.out).free 3
  have y60 := (X65.out).cell 0
  have y61 := (X65.out).cell 1
  have y62 := (X65.out).cell 2
  have y63 := (X65.out).cell 3
  have f60 := (X65.out).free 0
  have f61 := (X65.out).free 1
  have f62 := (X65.out).free 2
  have f63 := (X65.out).free 3
  simp at y40 y41 y42 y43 y60 y61 y62 y63
  go_wp2_with fail
  have hs3 := HS3.out
  have hs5 := HB5.out.size
  have X7 := (((X65.out.far (p := ⟨w.heap.size, 0, none⟩) (show w.heap.size + 1 + 1 ≠ w.heap.size by omega) (.slice ua l2.length uc)).far (p := ⟨w.heap.size, 1, none⟩) (show w.heap.size + 1 + 1 ≠ w.heap.size by omega) (.string ⟨#[115, 104]⟩)).far (p := ⟨w.heap.size, 2, none⟩) (show w.heap.size + 1 + 1 ≠ w.heap.size by omega) (.slice a' xs.length c')).far (p := ⟨w.heap.size, 3, none⟩) (show w.heap.size + 1 + 1 ≠ w.heap.size by omega) (.int .i64 st)
  have X8 := X7.put4 (.slice ua l2.length uc) (.string ⟨#[115, 104]⟩) (.slice a' xs.length c') (.int .i64 st)
  obtain ⟨q1, q2, q3, q4⟩ := HLO.out
  obtain ⟨r1, r2, r3⟩ := HGE.out
  have hvb := HVB.out
  have hbF := ((((But.of_below HB3.out : But g mb w w3).trans HBU.out).on HB5.out).put4 (Nat.le_refl _) (.slice ua l2.length uc) (.string ⟨#[115, 104]⟩) (.slice a' xs.length c') (.int .i64 st)).put4 (show w.heap.size ≤ w.heap.size + 1 + 1 by omega) (.slice ua l2.length uc) (.string ⟨#[115, 104]⟩) (.slice a' xs.length c') (.int .i64 st)
  refine bodyPost_ret (do_results rfl rfl X8) rfl ⟨_, v, rfl, ?_, ⟨_, a', c', rfl, ?_, ?_⟩, hbF⟩
  · rw [HDO.out]
    exact ((HV4.out.below HB5.out).put4 (by omega) (by omega) (fun e => by have := hvb _ e; omega) _ _ _ _).put4 (by omega) (by omega) (fun e => by have := hvb _ e; omega) _ _ _ _
  · rw [HDO.out]
    have hub := HUB.out
    exact own_put4far (own_put4far HL5.out (fun e => by have := hub _ e; omega) _ _ _ _) (fun e => by have := hub _ e; omega) _ _ _ _
  · rw [HDO.out]
    exact HE5.out.below (below_put4 (below_put4 (Below.refl _ _) (by omega) _ _ _ _) (by omega) _ _ _ _)

set_option maxHeartbeats 1000000 in
set_option maxRecDepth 100000 in
theorem do_2 (o : Opd) (hkd : o.kind = 2) (oa : Option Addr) (oc : Nat) (w : World) (hV : VS v w lo g mb n l xs st) (hR : RSt w lo' B V l xs st) (hlo : B ≤ lo) (hg : g < lo') (hmb : mb < lo') (hlo' : lo' ≤ w.heap.size) (hO : EA w B oa oc o.args)
    (hn : n ≤ 900) (hl : l.length ≤ 900) (hxs : xs.length ≤ 1000) (h1 : o.name.size ≤ 1048576) (h2 : o.text.size ≤ 1048576) (h3 : o.args.length ≤ 1000) :
    Calls Tryz.prog 9 #[.pointer (some ⟨g, 0, none⟩), V, .agg #[.int .i64 o.kind, .string o.name, .string o.text, .int .i64 o.n, .slice oa o.args.length oc]] w (DoP w lo lo' g mb n B (doR l xs st o)) := by
  obtain ⟨vL, a, c, rfl, hL, hE⟩ := hR
  obtain ⟨kd, nm, tx, num, ags⟩ := o
  simp only at hO h1 h2 h3
  have hlt := hV.lt
  have hge := hV.ge
  obtain ⟨va, vc, rfl⟩ := own_shape hL
  obtain ⟨N, hN⟩ : ∃ N, N = l.length := ⟨_, rfl⟩
  obtain ⟨m, hm⟩ : ∃ m, m = xs.length := ⟨_, rfl⟩
  obtain ⟨k, hk⟩ : ∃ k, k = ags.length := ⟨_, rfl⟩
  have hRS : RSt w lo' B (.agg #[.slice va l.length vc, .string ⟨#[115, 104]⟩, .slice a xs.length c, .int .i64 st]) l xs st := ⟨_, a, c, rfl, hL, hE⟩
  obtain ⟨w3, hw3⟩ : ∃ W, W = ((w.alloc (.cells #[.slice va N vc, .string ⟨#[115, 104]⟩, .slice a m c, .int .i64 st] 30)).alloc (.cells #[.int .i64 kd, .string nm, .string tx, .int .i64 num, .slice oa k oc] 34)).alloc (.cells #[.slice none 0 0, .string ⟨#[]⟩, .slice none 0 0, .int .i64 0] 30) := ⟨_, rfl⟩
  have HW3 := Lib.hid hw3
  have HS3 : Hid (w3.heap.size = w.heap.size + 3) := Lib.hid (by rw [hw3]; simp)
  have HB3 : Hid (Below w.heap.size w w3) := Lib.hid (by rw [hw3]; exact (((Below.refl _ _).alloc (Nat.le_refl _) _).alloc (by simp) _).alloc (by simp; omega) _)
  have X4 : Hid (Blk w3 w.heap.size 30 #[.slice va N vc, .string ⟨#[115, 104]⟩, .slice a m c, .int .i64 st]) := Lib.hid (by rw [hw3]; exact ((Blk.new w _ _).alloc _).alloc _)
  have X5 : Hid (Blk w3 (w.heap.size + 1) 34 #[.int .i64 kd, .string nm, .string tx, .int .i64 num, .slice oa k oc]) := Lib.hid (by rw [hw3]; have := (Blk.new (w.alloc (.cells #[.slice va N vc, .string ⟨#[115, 104]⟩, .slice a m c, .int .i64 st] 30)) 34 #[.int .i64 kd, .string nm, .string tx, .int .i64 num, .slice oa k oc]).alloc (.cells #[.slice none 0 0, .string ⟨#[]⟩, .slice none 0 0, .int .i64 0] 30); simpa using this)
  have X6 : Hid (Blk w3 (w.heap.size + 1 + 1) 30 #[.slice none 0 0, .string ⟨#[]⟩, .slice none 0 0, .int .i64 0]) := Lib.hid (by rw [hw3]; have := Blk.new ((w.alloc (.cells #[.slice va N vc, .string ⟨#[115, 104]⟩, .slice a m c, .int .i64 st] 30)).alloc (.cells #[.int .i64 kd, .string nm, .string tx, .int .i64 num, .slice oa k oc] 34)) 30 #[.slice none 0 0, .string ⟨#[]⟩, .slice none 0 0, .int .i64 0]; simpa using this)
  have HV3 : Hid (VS v w3 lo g mb n l xs st) := Lib.hid (hV.below HB3.out)
  have HVB : Hid (∀ b, v.ownBlock = some b → b < w.heap.size) := Lib.hid hV.own_lt
  have HLB : Hid (∀ b, (Value.slice va N vc).ownBlock = some b → b < w.heap.size) := Lib.hid fun b hb => by
    rw [hN] at hb
    exact (World.ownsRow.lt hL b hb).2
  have HR : Hid (RSt w lo' B (.agg #[.slice va N vc, .string ⟨#[115, 104]⟩, .slice a m c, .int .i64 st]) l xs st) := Lib.hid (by rw [hN, hm]; exact hRS)
  have HO := Lib.hid hO
  have HN := Lib.hid hN
  have HM := Lib.hid hm
  have HK := Lib.hid hk
  have H1 := Lib.hid h1
  have H2 := Lib.hid h2
  have H3 := Lib.hid h3
  have hgl := hlt.1
  have hml := hlt.2
  have HGE := Lib.hid hge
  have HLO := Lib.hid (And.intro hlo (And.intro hg (And.intro hmb hlo')))
  have HNN := Lib.hid (And.intro hn (And.intro hl hxs))
  rw [← hN, ← hm]
  show Calls Tryz.prog 9 #[.pointer (some ⟨g, 0, none⟩), .agg #[.slice va N vc, .string ⟨#[115, 104]⟩, .slice a m c, .int .i64 st], .agg #[.int .i64 kd, .string nm, .string tx, .int .i64 num, .slice oa ags.length oc]] w _
  rw [← hk]
  clear hw3 hV hL hE hRS hO hN hm hk h1 h2 h3 hge hlt hlo hg hmb hlo' hn hl hxs
  obtain rfl : kd = 2 := hkd
  obtain ⟨r, hr⟩ : ∃ r, (unsetR l (L nm)).2 = r := ⟨_, rfl⟩
  have HDO : Hid (doR l xs st ⟨2, nm, tx, num, ags⟩ = ((unsetR l (L nm)).1, xs, st)) := Lib.hid rfl
  obtain ⟨l2, hl2⟩ : ∃ x, (unsetR l (L nm)).1 = x := ⟨_, rfl⟩
  have CV : Hid (Calls Tryz.prog 19 #[.pointer (some ⟨g, 0, none⟩), .string nm] w3 fun e w' => e = .returned (.int .i64 r) ∧ VS v w' lo g mb (n + 1) l2 xs st ∧ But g mb w3 w') := Lib.hid (by have := vunset_any nm w3 HV3.out (by have := HNN.out; omega) H1.out; rwa [hr, hl2] at this)
  have CR : Hid (∀ W V, RSt W lo' B V l xs st → w3.heap.size ≤ W.heap.size → Calls Tryz.prog 20 #[V, .string nm] W fun e w' => ∃ V', e = .returned (.tuple #[V', .int .i64 r]) ∧ RSt w' lo' B V' l2 xs st ∧ (V' = V ∨ RSt w' W.heap.size B V' l2 xs st) ∧ Below W.heap.size W w') := Lib.hid fun W V hRW hW => by
    have hs3 := HS3.out
    have h4 := HLO.out
    have := runset_any nm W hRW (by omega) (by have := HGE.out; omega) (by have := HNN.out; omega) (by have := H1.out; omega)
    rwa [hr, hl2] at this
  rw [hl2] at HDO
  clear hr hl2
  go_enter Tryz.func9, Tryz.ntmps9
  go_wp2_with fail
  rw [← HW3.out]
  have y40 := (X4.out).cell 0
  have y41 := (X4.out).cell 1
  have y42 := (X4.out).cell 2
  have y43 := (X4.out).cell 3
  have f40 := (X4.out).free 0
  have f41 := (X4.out).free 1
  have f42 := (X4.out).free 2
  have f43 := (X4.out).free 3
  have y60 := (X6.out).cell 0
  have y61 := (X6.out).cell 1
  have y62 := (X6.out).cell 2
  have y63 := (X6.out).cell 3
  have f60 := (X6.out).free 0
  have f61 := (X6.out).free 1
  have f62 := (X6.out).free 2
  have f63 := (X6.out).free 3
  simp at y40 y41 y42 y43 y60 y61 y62 y63
  have y50 := (X5.out).cell 0
  have y51 := (X5.out).cell 1
  have y52 := (X5.out).cell 2
  have y53 := (X5.out).cell 3
  have y54 := (X5.out).cell 4
  simp at y50 y51 y52 y53 y54
  refine CV.out.mono ?_
  rintro e w4 ⟨rfl, hv4, hbu⟩
  have hs4 := hbu.size
  have HV4 := Lib.hid hv4
  have HBU : Hid (But g mb w3 w4) := Lib.hid hbu
  have HR4 : Hid (RSt w4 lo' B (.agg #[.slice va N vc, .string ⟨#[115, 104]⟩, .slice a m c, .int .i64 st]) l xs st) := Lib.hid (by
    obtain ⟨q1, q2, q3, q4⟩ := HLO.out
    obtain ⟨r1, r2, r3⟩ := HGE.out
    have hs3 := HS3.out
    exact (HR.out.below HB3.out (by omega)).but hbu q2 q3 (by omega) (by omega) (by omega))
  have X44 := Lib.hid (X4.out.but hbu (by omega) (by omega))
  have X54 := Lib.hid (X5.out.but hbu (by omega) (by omega))
  have X64 := Lib.hid (X6.out.but hbu (by omega) (by omega))
  clear hv4 hbu
  clear y50 y51 y52 y53 y54
  clear y40 y41 y42 y43 y60 y61 y62 y63 f40 f41 f42 f43 f60 f61 f62 f63
  have y40 := (X44.out).cell 0
  have y41 := (X44.out).cell 1
  have y42 := (X44.out).cell 2
  have y43 := (X44.out).cell 3
  have f40 := (X44.out).free 0
  have f41 := (X44.out).free 1
  have f42 := (X44.out).free 2
  have f43 := (X44.out).free 3
  have y60 := (X64.out).cell 0
  have y61 := (X64.out).cell 1
  have y62 := (X64.out).cell 2
  have y63 := (X64.out).cell 3
  have f60 := (X64.out).free 0
  have f61 := (X64.out).free 1
  have f62 := (X64.out).free 2
  have f63 := (X64.out).free 3
  simp at y40 y41 y42 y43 y60 y61 y62 y63
  have y50 := (X54.out).cell 0
  have y51 := (X54.out).cell 1
  have y52 := (X54.out).cell 2
  have y53 := (X54.out).cell 3
  have y54 := (X54.out).cell 4
  simp at y50 y51 y52 y53 y54
  go_wp2_with fail
  refine (CR.out _ _ HR4.out hs4).mono ?_
  rintro e w5 ⟨V', rfl, hR5, hor, hb5⟩
  clear y50 y51 y52 y53 y54
  have HB5 := Lib.hid hb5
  have X45 := Lib.hid (X44.out.below hb5 X44.out.lt)
  have X65 := Lib.hid (X64.out.below hb5 X64.out.lt)
  obtain ⟨vL', a', c', rfl, hL', hE'⟩ := hR5
  have HL5 := Lib.hid hL'
  have HE5 := Lib.hid hE'
  obtain ⟨ua, uc, rfl⟩ := own_shape hL'
  have HUB : Hid (∀ b, (Value.slice ua l2.length uc).ownBlock = some b → b < w.heap.size ∨ w4.heap.size ≤ b) := Lib.hid fun b hb => by
    rcases hor with hor | hor
    · simp only [Value.agg.injEq, Array.mk.injEq, List.cons.injEq] at hor
      rw [hor.1] at hb
      exact .inl (HLB.out b hb)
    · obtain ⟨vL2, a2, c2, e2, hL2, _⟩ := hor
      simp only [Value.agg.injEq, Array.mk.injEq, List.cons.injEq] at e2
      rw [← e2.1] at hL2
      exact .inr (World.ownsRow.lt hL2 b hb).1
  clear hor
  clear hb5 hL' hE'
  clear y40 y41 y42 y43 y60 y61 y62 y63 f40 f41 f42 f43 f60 f61 f62 f63
  have y40 := (X45.out).cell 0
  have y41 := (X45.out).cell 1
  have y42 := (X45.out).cell 2
  have y43 := (X45.out).cell 3
  have f40 := (X45.out).free 0
  have f41 := (X45.out).free 1
  have f42 := (X45.out).free 2
  have f43 := (X45.out).free 3
  have y60 := (X65.out).cell 0
  have y61 := (X65.out).cell 1
  have y62 := (X65.out).cell 2
  have y63 := (X65.out).cell 3
  have f60 := (X65.out).free 0
  have f61 := (X65.out).free 1
  have f62 := (X65.out).free 2
  have f63 := (X65.out).free 3
  simp at y40 y41 y42 y43 y60 y61 y62 y63
  go_wp2_with fail
  have hs3 := HS3.out
  have hs5 := HB5.out.size
  have X7 := (((X65.out.far (p := ⟨w.heap.size, 0, none⟩) (show w.heap.size + 1 + 1 ≠ w.heap.size by omega) (.slice ua l2.length uc)).far (p := ⟨w.heap.size, 1, none⟩) (show w.heap.size + 1 + 1 ≠ w.heap.size by omega) (.string ⟨#[115, 104]⟩)).far (p := ⟨w.heap.size, 2, none⟩) (show w.heap.size + 1 + 1 ≠ w.heap.size by omega) (.slice a' xs.length c')).far (p := ⟨w.heap.size, 3, none⟩) (show w.heap.size + 1 + 1 ≠ w.heap.size by omega) (.int .i64 st)
  have X8 := X7.put4 (.slice ua l2.length uc) (.string ⟨#[115, 104]⟩) (.slice a' xs.length c') (.int .i64 st)
  obtain ⟨q1, q2, q3, q4⟩ := HLO.out
  obtain ⟨r1, r2, r3⟩ := HGE.out
  have hvb := HVB.out
  have hbF := ((((But.of_below HB3.out : But g mb w w3).trans HBU.out).on HB5.out).put4 (Nat.le_refl _) (.slice ua l2.length uc) (.string ⟨#[115, 104]⟩) (.slice a' xs.length c') (.int .i64 st)).put4 (show w.heap.size ≤ w.heap.size + 1 + 1 by omega) (.slice ua l2.length uc) (.string ⟨#[115, 104]⟩) (.slice a' xs.length c') (.int .i64 st)
  refine bodyPost_ret (do_results rfl rfl X8) rfl ⟨_, v, rfl, ?_, ⟨_, a', c', rfl, ?_, ?_⟩, hbF⟩
  · rw [HDO.out]
    exact ((HV4.out.below HB5.out).put4 (by omega) (by omega) (fun e => by have := hvb _ e; omega) _ _ _ _).put4 (by omega) (by omega) (fun e => by have := hvb _ e; omega) _ _ _ _
  · rw [HDO.out]
    have hub := HUB.out
    exact own_put4far (own_put4far HL5.out (fun e => by have := hub _ e; omega) _ _ _ _) (fun e => by have := hub _ e; omega) _ _ _ _
  · rw [HDO.out]
    exact HE5.out.below (below_put4 (below_put4 (Below.refl _ _) (by omega) _ _ _ _) (by omega) _ _ _ _)

set_option maxHeartbeats 1000000 in
set_option maxRecDepth 100000 in
theorem do_3 (o : Opd) (hkd : o.kind = 3) (oa : Option Addr) (oc : Nat) (w : World) (hV : VS v w lo g mb n l xs st) (hR : RSt w lo' B V l xs st) (hlo : B ≤ lo) (hg : g < lo') (hmb : mb < lo') (hlo' : lo' ≤ w.heap.size) (hO : EA w B oa oc o.args)
    (hn : n ≤ 900) (hl : l.length ≤ 900) (hxs : xs.length ≤ 1000) (h1 : o.name.size ≤ 1048576) (h2 : o.text.size ≤ 1048576) (h3 : o.args.length ≤ 1000) :
    Calls Tryz.prog 9 #[.pointer (some ⟨g, 0, none⟩), V, .agg #[.int .i64 o.kind, .string o.name, .string o.text, .int .i64 o.n, .slice oa o.args.length oc]] w (DoP w lo lo' g mb n B (doR l xs st o)) := by
  obtain ⟨vL, a, c, rfl, hL, hE⟩ := hR
  obtain ⟨kd, nm, tx, num, ags⟩ := o
  simp only at hO h1 h2 h3
  have hlt := hV.lt
  have hge := hV.ge
  obtain ⟨va, vc, rfl⟩ := own_shape hL
  obtain ⟨N, hN⟩ : ∃ N, N = l.length := ⟨_, rfl⟩
  obtain ⟨m, hm⟩ : ∃ m, m = xs.length := ⟨_, rfl⟩
  obtain ⟨k, hk⟩ : ∃ k, k = ags.length := ⟨_, rfl⟩
  have hRS : RSt w lo' B (.agg #[.slice va l.length vc, .string ⟨#[115, 104]⟩, .slice a xs.length c, .int .i64 st]) l xs st := ⟨_, a, c, rfl, hL, hE⟩
  obtain ⟨w3, hw3⟩ : ∃ W, W = ((w.alloc (.cells #[.slice va N vc, .string ⟨#[115, 104]⟩, .slice a m c, .int .i64 st] 30)).alloc (.cells #[.int .i64 kd, .string nm, .string tx, .int .i64 num, .slice oa k oc] 34)).alloc (.cells #[.slice none 0 0, .string ⟨#[]⟩, .slice none 0 0, .int .i64 0] 30) := ⟨_, rfl⟩
  have HW3 := Lib.hid hw3
  have HS3 : Hid (w3.heap.size = w.heap.size + 3) := Lib.hid (by rw [hw3]; simp)
  have HB3 : Hid (Below w.heap.size w w3) := Lib.hid (by rw [hw3]; exact (((Below.refl _ _).alloc (Nat.le_refl _) _).alloc (by simp) _).alloc (by simp; omega) _)
  have X4 : Hid (Blk w3 w.heap.size 30 #[.slice va N vc, .string ⟨#[115, 104]⟩, .slice a m c, .int .i64 st]) := Lib.hid (by rw [hw3]; exact ((Blk.new w _ _).alloc _).alloc _)
  have X5 : Hid (Blk w3 (w.heap.size + 1) 34 #[.int .i64 kd, .string nm, .string tx, .int .i64 num, .slice oa k oc]) := Lib.hid (by rw [hw3]; have := (Blk.new (w.alloc (.cells #[.slice va N vc, .string ⟨#[115, 104]⟩, .slice a m c, .int .i64 st] 30)) 34 #[.int .i64 kd, .string nm, .string tx, .int .i64 num, .slice oa k oc]).alloc (.cells #[.slice none 0 0, .string ⟨#[]⟩, .slice none 0 0, .int .i64 0] 30); simpa using this)
  have X6 : Hid (Blk w3 (w.heap.size + 1 + 1) 30 #[.slice none 0 0, .string ⟨#[]⟩, .slice none 0 0, .int .i64 0]) := Lib.hid (by rw [hw3]; have := Blk.new ((w.alloc (.cells #[.slice va N vc, .string ⟨#[115, 104]⟩, .slice a m c, .int .i64 st] 30)).alloc (.cells #[.int .i64 kd, .string nm, .string tx, .int .i64 num, .slice oa k oc] 34)) 30 #[.slice none 0 0, .string ⟨#[]⟩, .slice none 0 0, .int .i64 0]; simpa using this)
  have HV3 : Hid (VS v w3 lo g mb n l xs st) := Lib.hid (hV.below HB3.out)
  have HVB : Hid (∀ b, v.ownBlock = some b → b < w.heap.size) := Lib.hid hV.own_lt
  have HLB : Hid (∀ b, (Value.slice va N vc).ownBlock = some b → b < w.heap.size) := Lib.hid fun b hb => by
    rw [hN] at hb
    exact (World.ownsRow.lt hL b hb).2
  have HR : Hid (RSt w lo' B (.agg #[.slice va N vc, .string ⟨#[115, 104]⟩, .slice a m c, .int .i64 st]) l xs st) := Lib.hid (by rw [hN, hm]; exact hRS)
  have HO := Lib.hid hO
  have HN := Lib.hid hN
  have HM := Lib.hid hm
  have HK := Lib.hid hk
  have H1 := Lib.hid h1
  have H2 := Lib.hid h2
  have H3 := Lib.hid h3
  have hgl := hlt.1
  have hml := hlt.2
  have HGE := Lib.hid hge
  have HLO := Lib.hid (And.intro hlo (And.intro hg (And.intro hmb hlo')))
  have HNN := Lib.hid (And.intro hn (And.intro hl hxs))
  rw [← hN, ← hm]
  show Calls Tryz.prog 9 #[.pointer (some ⟨g, 0, none⟩), .agg #[.slice va N vc, .string ⟨#[115, 104]⟩, .slice a m c, .int .i64 st], .agg #[.int .i64 kd, .string nm, .string tx, .int .i64 num, .slice oa ags.length oc]] w _
  rw [← hk]
  clear hw3 hV hL hE hRS hO hN hm hk h1 h2 h3 hge hlt hlo hg hmb hlo' hn hl hxs
  obtain rfl : kd = 3 := hkd
  obtain ⟨r, hr⟩ : ∃ r, (expR l (L nm)).2 = r := ⟨_, rfl⟩
  have HDO : Hid (doR l xs st ⟨3, nm, tx, num, ags⟩ = ((expR l (L nm)).1, xs, st)) := Lib.hid rfl
  obtain ⟨l2, hl2⟩ : ∃ x, (expR l (L nm)).1 = x := ⟨_, rfl⟩
  have CV : Hid (Calls Tryz.prog 21 #[.pointer (some ⟨g, 0, none⟩), .string nm] w3 fun e w' => e = .returned (.int .i64 r) ∧ VS v w' lo g mb (n + 1) l2 xs st ∧ But g mb w3 w') := Lib.hid (by have := vexport_any nm w3 HV3.out (by have := HNN.out; omega) H1.out; rwa [hr, hl2] at this)
  have CR : Hid (∀ W V, RSt W lo' B V l xs st → w3.heap.size ≤ W.heap.size → Calls Tryz.prog 22 #[V, .string nm, .bool false] W fun e w' => ∃ V', e = .returned (.tuple #[V', .int .i64 r]) ∧ RSt w' lo' B V' l2 xs st ∧ (V' = V ∨ RSt w' W.heap.size B V' l2 xs st) ∧ Below W.heap.size W w') := Lib.hid fun W V hRW hW => by
    have hs3 := HS3.out
    have h4 := HLO.out
    have := rexport_any nm W hRW (by omega) (by have := HGE.out; omega) (by have := HNN.out; omega) (by have := H1.out; omega)
    rwa [hr, hl2] at this
  rw [hl2] at HDO
  clear hr hl2
  go_enter Tryz.func9, Tryz.ntmps9
  go_wp2_with fail
  rw [← HW3.out]
  have y40 := (X4.out).cell 0
  have y41 := (X4.out).cell 1
  have y42 := (X4.out).cell 2
  have y43 := (X4.out).cell 3
  have f40 := (X4.out).free 0
  have f41 := (X4.out).free 1
  have f42 := (X4.out).free 2
  have f43 := (X4.out).free 3
  have y60 := (X6.out).cell 0
  have y61 := (X6.out).cell 1
  have y62 := (X6.out).cell 2
  have y63 := (X6.out).cell 3
  have f60 := (X6.out).free 0
  have f61 := (X6.out).free 1
  have f62 := (X6.out).free 2
  have f63 := (X6.out).free 3
  simp at y40 y41 y42 y43 y60 y61 y62 y63
  have y50 := (X5.out).cell 0
  have y51 := (X5.out).cell 1
  have y52 := (X5.out).cell 2
  have y53 := (X5.out).cell 3
  have y54 := (X5.out).cell 4
  simp at y50 y51 y52 y53 y54
  refine CV.out.mono ?_
  rintro e w4 ⟨rfl, hv4, hbu⟩
  have hs4 := hbu.size
  have HV4 := Lib.hid hv4
  have HBU : Hid (But g mb w3 w4) := Lib.hid hbu
  have HR4 : Hid (RSt w4 lo' B (.agg #[.slice va N vc, .string ⟨#[115, 104]⟩, .slice a m c, .int .i64 st]) l xs st) := Lib.hid (by
    obtain ⟨q1, q2, q3, q4⟩ := HLO.out
    obtain ⟨r1, r2, r3⟩ := HGE.out
    have hs3 := HS3.out
    exact (HR.out.below HB3.out (by omega)).but hbu q2 q3 (by omega) (by omega) (by omega))
  have X44 := Lib.hid (X4.out.but hbu (by omega) (by omega))
  have X54 := Lib.hid (X5.out.but hbu (by omega) (by omega))
  have X64 := Lib.hid (X6.out.but hbu (by omega) (by omega))
  clear hv4 hbu
  clear y50 y51 y52 y53 y54
  clear y40 y41 y42 y43 y60 y61 y62 y63 f40 f41 f42 f43 f60 f61 f62 f63
  have y40 := (X44.out).cell 0
  have y41 := (X44.out).cell 1
  have y42 := (X44.out).cell 2
  have y43 := (X44.out).cell 3
  have f40 := (X44.out).free 0
  have f41 := (X44.out).free 1
  have f42 := (X44.out).free 2
  have f43 := (X44.out).free 3
  have y60 := (X64.out).cell 0
  have y61 := (X64.out).cell 1
  have y62 := (X64.out).cell 2
  have y63 := (X64.out).cell 3
  have f60 := (X64.out).free 0
  have f61 := (X64.out).free 1
  have f62 := (X64.out).free 2
  have f63 := (X64.out).free 3
  simp at y40 y41 y42 y43 y60 y61 y62 y63
  have y50 := (X54.out).cell 0
  have y51 := (X54.out).cell 1
  have y52 := (X54.out).cell 2
  have y53 := (X54.out).cell 3
  have y54 := (X54.out).cell 4
  simp at y50 y51 y52 y53 y54
  go_wp2_with fail
  refine (CR.out _ _ HR4.out hs4).mono ?_
  rintro e w5 ⟨V', rfl, hR5, hor, hb5⟩
  clear y50 y51 y52 y53 y54
  have HB5 := Lib.hid hb5
  have X45 := Lib.hid (X44.out.below hb5 X44.out.lt)
  have X65 := Lib.hid (X64.out.below hb5 X64.out.lt)
  obtain ⟨vL', a', c', rfl, hL', hE'⟩ := hR5
  have HL5 := Lib.hid hL'
  have HE5 := Lib.hid hE'
  obtain ⟨ua, uc, rfl⟩ := own_shape hL'
  have HUB : Hid (∀ b, (Value.slice ua l2.length uc).ownBlock = some b → b < w.heap.size ∨ w4.heap.size ≤ b) := Lib.hid fun b hb => by
    rcases hor with hor | hor
    · simp only [Value.agg.injEq, Array.mk.injEq, List.cons.injEq] at hor
      rw [hor.1] at hb
      exact .inl (HLB.out b hb)
    · obtain ⟨vL2, a2, c2, e2, hL2, _⟩ := hor
      simp only [Value.agg.injEq, Array.mk.injEq, List.cons.injEq] at e2
      rw [← e2.1] at hL2
      exact .inr (World.ownsRow.lt hL2 b hb).1
  clear hor
  clear hb5 hL' hE'
  clear y40 y41 y42 y43 y60 y61 y62 y63 f40 f41 f42 f43 f60 f61 f62 f63
  have y40 := (X45.out).cell 0
  have y41 := (X45.out).cell 1
  have y42 := (X45.out).cell 2
  have y43 := (X45.out).cell 3
  have f40 := (X45.out).free 0
  have f41 := (X45.out).free 1
  have f42 := (X45.out).free 2
  have f43 := (X45.out).free 3
  have y60 := (X65.out).cell 0
  have y61 := (X65.out).cell 1
  have y62 := (X65.out).cell 2
  have y63 := (X65.out).cell 3
  have f60 := (X65.out).free 0
  have f61 := (X65.out).free 1
  have f62 := (X65.out).free 2
  have f63 := (X65.out).free 3
  simp at y40 y41 y42 y43 y60 y61 y62 y63
  go_wp2_with fail
  have hs3 := HS3.out
  have hs5 := HB5.out.size
  have X7 := (((X65.out.far (p := ⟨w.heap.size, 0, none⟩) (show w.heap.size + 1 + 1 ≠ w.heap.size by omega) (.slice ua l2.length uc)).far (p := ⟨w.heap.size, 1, none⟩) (show w.heap.size + 1 + 1 ≠ w.heap.size by omega) (.string ⟨#[115, 104]⟩)).far (p := ⟨w.heap.size, 2, none⟩) (show w.heap.size + 1 + 1 ≠ w.heap.size by omega) (.slice a' xs.length c')).far (p := ⟨w.heap.size, 3, none⟩) (show w.heap.size + 1 + 1 ≠ w.heap.size by omega) (.int .i64 st)
  have X8 := X7.put4 (.slice ua l2.length uc) (.string ⟨#[115, 104]⟩) (.slice a' xs.length c') (.int .i64 st)
  obtain ⟨q1, q2, q3, q4⟩ := HLO.out
  obtain ⟨r1, r2, r3⟩ := HGE.out
  have hvb := HVB.out
  have hbF := ((((But.of_below HB3.out : But g mb w w3).trans HBU.out).on HB5.out).put4 (Nat.le_refl _) (.slice ua l2.length uc) (.string ⟨#[115, 104]⟩) (.slice a' xs.length c') (.int .i64 st)).put4 (show w.heap.size ≤ w.heap.size + 1 + 1 by omega) (.slice ua l2.length uc) (.string ⟨#[115, 104]⟩) (.slice a' xs.length c') (.int .i64 st)
  refine bodyPost_ret (do_results rfl rfl X8) rfl ⟨_, v, rfl, ?_, ⟨_, a', c', rfl, ?_, ?_⟩, hbF⟩
  · rw [HDO.out]
    exact ((HV4.out.below HB5.out).put4 (by omega) (by omega) (fun e => by have := hvb _ e; omega) _ _ _ _).put4 (by omega) (by omega) (fun e => by have := hvb _ e; omega) _ _ _ _
  · rw [HDO.out]
    have hub := HUB.out
    exact own_put4far (own_put4far HL5.out (fun e => by have := hub _ e; omega) _ _ _ _) (fun e => by have := hub _ e; omega) _ _ _ _
  · rw [HDO.out]
    exact HE5.out.below (below_put4 (below_put4 (Below.refl _ _) (by omega) _ _ _ _) (by omega) _ _ _ _)

set_option maxHeartbeats 1000000 in
set_option maxRecDepth 100000 in
theorem do_4 (o : Opd) (hkd : o.kind = 4) (oa : Option Addr) (oc : Nat) (w : World) (hV : VS v w lo g mb n l xs st) (hR : RSt w lo' B V l xs st) (hlo : B ≤ lo) (hg : g < lo') (hmb : mb < lo') (hlo' : lo' ≤ w.heap.size) (hO : EA w B oa oc o.args)
    (hn : n ≤ 900) (hl : l.length ≤ 900) (hxs : xs.length ≤ 1000) (h1 : o.name.size ≤ 1048576) (h2 : o.text.size ≤ 1048576) (h3 : o.args.length ≤ 1000) :
    Calls Tryz.prog 9 #[.pointer (some ⟨g, 0, none⟩), V, .agg #[.int .i64 o.kind, .string o.name, .string o.text, .int .i64 o.n, .slice oa o.args.length oc]] w (DoP w lo lo' g mb n B (doR l xs st o)) := by
  obtain ⟨vL, a, c, rfl, hL, hE⟩ := hR
  obtain ⟨kd, nm, tx, num, ags⟩ := o
  simp only at hO h1 h2 h3
  have hlt := hV.lt
  have hge := hV.ge
  obtain ⟨va, vc, rfl⟩ := own_shape hL
  obtain ⟨N, hN⟩ : ∃ N, N = l.length := ⟨_, rfl⟩
  obtain ⟨m, hm⟩ : ∃ m, m = xs.length := ⟨_, rfl⟩
  obtain ⟨k, hk⟩ : ∃ k, k = ags.length := ⟨_, rfl⟩
  have hRS : RSt w lo' B (.agg #[.slice va l.length vc, .string ⟨#[115, 104]⟩, .slice a xs.length c, .int .i64 st]) l xs st := ⟨_, a, c, rfl, hL, hE⟩
  obtain ⟨w3, hw3⟩ : ∃ W, W = ((w.alloc (.cells #[.slice va N vc, .string ⟨#[115, 104]⟩, .slice a m c, .int .i64 st] 30)).alloc (.cells #[.int .i64 kd, .string nm, .string tx, .int .i64 num, .slice oa k oc] 34)).alloc (.cells #[.slice none 0 0, .string ⟨#[]⟩, .slice none 0 0, .int .i64 0] 30) := ⟨_, rfl⟩
  have HW3 := Lib.hid hw3
  have HS3 : Hid (w3.heap.size = w.heap.size + 3) := Lib.hid (by rw [hw3]; simp)
  have HB3 : Hid (Below w.heap.size w w3) := Lib.hid (by rw [hw3]; exact (((Below.refl _ _).alloc (Nat.le_refl _) _).alloc (by simp) _).alloc (by simp; omega) _)
  have X4 : Hid (Blk w3 w.heap.size 30 #[.slice va N vc, .string ⟨#[115, 104]⟩, .slice a m c, .int .i64 st]) := Lib.hid (by rw [hw3]; exact ((Blk.new w _ _).alloc _).alloc _)
  have X5 : Hid (Blk w3 (w.heap.size + 1) 34 #[.int .i64 kd, .string nm, .string tx, .int .i64 num, .slice oa k oc]) := Lib.hid (by rw [hw3]; have := (Blk.new (w.alloc (.cells #[.slice va N vc, .string ⟨#[115, 104]⟩, .slice a m c, .int .i64 st] 30)) 34 #[.int .i64 kd, .string nm, .string tx, .int .i64 num, .slice oa k oc]).alloc (.cells #[.slice none 0 0, .string ⟨#[]⟩, .slice none 0 0, .int .i64 0] 30); simpa using this)
  have X6 : Hid (Blk w3 (w.heap.size + 1 + 1) 30 #[.slice none 0 0, .string ⟨#[]⟩, .slice none 0 0, .int .i64 0]) := Lib.hid (by rw [hw3]; have := Blk.new ((w.alloc (.cells #[.slice va N vc, .string ⟨#[115, 104]⟩, .slice a m c, .int .i64 st] 30)).alloc (.cells #[.int .i64 kd, .string nm, .string tx, .int .i64 num, .slice oa k oc] 34)) 30 #[.slice none 0 0, .string ⟨#[]⟩, .slice none 0 0, .int .i64 0]; simpa using this)
  have HV3 : Hid (VS v w3 lo g mb n l xs st) := Lib.hid (hV.below HB3.out)
  have HVB : Hid (∀ b, v.ownBlock = some b → b < w.heap.size) := Lib.hid hV.own_lt
  have HLB : Hid (∀ b, (Value.slice va N vc).ownBlock = some b → b < w.heap.size) := Lib.hid fun b hb => by
    rw [hN] at hb
    exact (World.ownsRow.lt hL b hb).2
  have HR : Hid (RSt w lo' B (.agg #[.slice va N vc, .string ⟨#[115, 104]⟩, .slice a m c, .int .i64 st]) l xs st) := Lib.hid (by rw [hN, hm]; exact hRS)
  have HO := Lib.hid hO
  have HN := Lib.hid hN
  have HM := Lib.hid hm
  have HK := Lib.hid hk
  have H1 := Lib.hid h1
  have H2 := Lib.hid h2
  have H3 := Lib.hid h3
  have hgl := hlt.1
  have hml := hlt.2
  have HGE := Lib.hid hge
  have HLO := Lib.hid (And.intro hlo (And.intro hg (And.intro hmb hlo')))
  have HNN := Lib.hid (And.intro hn (And.intro hl hxs))
  rw [← hN, ← hm]
  show Calls Tryz.prog 9 #[.pointer (some ⟨g, 0, none⟩), .agg #[.slice va N vc, .string ⟨#[115, 104]⟩, .slice a m c, .int .i64 st], .agg #[.int .i64 kd, .string nm, .string tx, .int .i64 num, .slice oa ags.length oc]] w _
  rw [← hk]
  clear hw3 hV hL hE hRS hO hN hm hk h1 h2 h3 hge hlt hlo hg hmb hlo' hn hl hxs
  obtain rfl : kd = 4 := hkd
  obtain ⟨r, hr⟩ : ∃ r, (fixR l (L nm)).2 = r := ⟨_, rfl⟩
  have HDO : Hid (doR l xs st ⟨4, nm, tx, num, ags⟩ = ((fixR l (L nm)).1, xs, st)) := Lib.hid rfl
  obtain ⟨l2, hl2⟩ : ∃ x, (fixR l (L nm)).1 = x := ⟨_, rfl⟩
  have CV : Hid (Calls Tryz.prog 23 #[.pointer (some ⟨g, 0, none⟩), .string nm] w3 fun e w' => e = .returned (.int .i64 r) ∧ VS v w' lo g mb (n + 1) l2 xs st ∧ But g mb w3 w') := Lib.hid (by have := vfix_any nm w3 HV3.out (by have := HNN.out; omega) H1.out; rwa [hr, hl2] at this)
  have CR : Hid (∀ W V, RSt W lo' B V l xs st → w3.heap.size ≤ W.heap.size → Calls Tryz.prog 22 #[V, .string nm, .bool true] W fun e w' => ∃ V', e = .returned (.tuple #[V', .int .i64 r]) ∧ RSt w' lo' B V' l2 xs st ∧ (V' = V ∨ RSt w' W.heap.size B V' l2 xs st) ∧ Below W.heap.size W w') := Lib.hid fun W V hRW hW => by
    have hs3 := HS3.out
    have h4 := HLO.out
    have := rfix_any nm W hRW (by omega) (by have := HGE.out; omega) (by have := HNN.out; omega) (by have := H1.out; omega)
    rwa [hr, hl2] at this
  rw [hl2] at HDO
  clear hr hl2
  go_enter Tryz.func9, Tryz.ntmps9
  go_wp2_with fail
  rw [← HW3.out]
  have y40 := (X4.out).cell 0
  have y41 := (X4.out).cell 1
  have y42 := (X4.out).cell 2
  have y43 := (X4.out).cell 3
  have f40 := (X4.out).free 0
  have f41 := (X4.out).free 1
  have f42 := (X4.out).free 2
  have f43 := (X4.out).free 3
  have y60 := (X6.out).cell 0
  have y61 := (X6.out).cell 1
  have y62 := (X6.out).cell 2
  have y63 := (X6.out).cell 3
  have f60 := (X6.out).free 0
  have f61 := (X6.out).free 1
  have f62 := (X6.out).free 2
  have f63 := (X6.out).free 3
  simp at y40 y41 y42 y43 y60 y61 y62 y63
  have y50 := (X5.out).cell 0
  have y51 := (X5.out).cell 1
  have y52 := (X5.out).cell 2
  have y53 := (X5.out).cell 3
  have y54 := (X5.out).cell 4
  simp at y50 y51 y52 y53 y54
  refine CV.out.mono ?_
  rintro e w4 ⟨rfl, hv4, hbu⟩
  have hs4 := hbu.size
  have HV4 := Lib.hid hv4
  have HBU : Hid (But g mb w3 w4) := Lib.hid hbu
  have HR4 : Hid (RSt w4 lo' B (.agg #[.slice va N vc, .string ⟨#[115, 104]⟩, .slice a m c, .int .i64 st]) l xs st) := Lib.hid (by
    obtain ⟨q1, q2, q3, q4⟩ := HLO.out
    obtain ⟨r1, r2, r3⟩ := HGE.out
    have hs3 := HS3.out
    exact (HR.out.below HB3.out (by omega)).but hbu q2 q3 (by omega) (by omega) (by omega))
  have X44 := Lib.hid (X4.out.but hbu (by omega) (by omega))
  have X54 := Lib.hid (X5.out.but hbu (by omega) (by omega))
  have X64 := Lib.hid (X6.out.but hbu (by omega) (by omega))
  clear hv4 hbu
  clear y50 y51 y52 y53 y54
  clear y40 y41 y42 y43 y60 y61 y62 y63 f40 f41 f42 f43 f60 f61 f62 f63
  have y40 := (X44.out).cell 0
  have y41 := (X44.out).cell 1
  have y42 := (X44.out).cell 2
  have y43 := (X44.out).cell 3
  have f40 := (X44.out).free 0
  have f41 := (X44.out).free 1
  have f42 := (X44.out).free 2
  have f43 := (X44.out).free 3
  have y60 := (X64.out).cell 0
  have y61 := (X64.out).cell 1
  have y62 := (X64.out).cell 2
  have y63 := (X64.out).cell 3
  have f60 := (X64.out).free 0
  have f61 := (X64.out).free 1
  have f62 := (X64.out).free 2
  have f63 := (X64.out).free 3
  simp at y40 y41 y42 y43 y60 y61 y62 y63
  have y50 := (X54.out).cell 0
  have y51 := (X54.out).cell 1
  have y52 := (X54.out).cell 2
  have y53 := (X54.out).cell 3
  have y54 := (X54.out).cell 4
  simp at y50 y51 y52 y53 y54
  go_wp2_with fail
  refine (CR.out _ _ HR4.out hs4).mono ?_
  rintro e w5 ⟨V', rfl, hR5, hor, hb5⟩
  clear y50 y51 y52 y53 y54
  have HB5 := Lib.hid hb5
  have X45 := Lib.hid (X44.out.below hb5 X44.out.lt)
  have X65 := Lib.hid (X64.out.below hb5 X64.out.lt)
  obtain ⟨vL', a', c', rfl, hL', hE'⟩ := hR5
  have HL5 := Lib.hid hL'
  have HE5 := Lib.hid hE'
  obtain ⟨ua, uc, rfl⟩ := own_shape hL'
  have HUB : Hid (∀ b, (Value.slice ua l2.length uc).ownBlock = some b → b < w.heap.size ∨ w4.heap.size ≤ b) := Lib.hid fun b hb => by
    rcases hor with hor | hor
    · simp only [Value.agg.injEq, Array.mk.injEq, List.cons.injEq] at hor
      rw [hor.1] at hb
      exact .inl (HLB.out b hb)
    · obtain ⟨vL2, a2, c2, e2, hL2, _⟩ := hor
      simp only [Value.agg.injEq, Array.mk.injEq, List.cons.injEq] at e2
      rw [← e2.1] at hL2
      exact .inr (World.ownsRow.lt hL2 b hb).1
  clear hor
  clear hb5 hL' hE'
  clear y40 y41 y42 y43 y60 y61 y62 y63 f40 f41 f42 f43 f60 f61 f62 f63
  have y40 := (X45.out).cell 0
  have y41 := (X45.out).cell 1
  have y42 := (X45.out).cell 2
  have y43 := (X45.out).cell 3
  have f40 := (X45.out).free 0
  have f41 := (X45.out).free 1
  have f42 := (X45.out).free 2
  have f43 := (X45.out).free 3
  have y60 := (X65.out).cell 0
  have y61 := (X65.out).cell 1
  have y62 := (X65.out).cell 2
  have y63 := (X65.out).cell 3
  have f60 := (X65.out).free 0
  have f61 := (X65.out).free 1
  have f62 := (X65.out).free 2
  have f63 := (X65.out).free 3
  simp at y40 y41 y42 y43 y60 y61 y62 y63
  go_wp2_with fail
  have hs3 := HS3.out
  have hs5 := HB5.out.size
  have X7 := (((X65.out.far (p := ⟨w.heap.size, 0, none⟩) (show w.heap.size + 1 + 1 ≠ w.heap.size by omega) (.slice ua l2.length uc)).far (p := ⟨w.heap.size, 1, none⟩) (show w.heap.size + 1 + 1 ≠ w.heap.size by omega) (.string ⟨#[115, 104]⟩)).far (p := ⟨w.heap.size, 2, none⟩) (show w.heap.size + 1 + 1 ≠ w.heap.size by omega) (.slice a' xs.length c')).far (p := ⟨w.heap.size, 3, none⟩) (show w.heap.size + 1 + 1 ≠ w.heap.size by omega) (.int .i64 st)
  have X8 := X7.put4 (.slice ua l2.length uc) (.string ⟨#[115, 104]⟩) (.slice a' xs.length c') (.int .i64 st)
  obtain ⟨q1, q2, q3, q4⟩ := HLO.out
  obtain ⟨r1, r2, r3⟩ := HGE.out
  have hvb := HVB.out
  have hbF := ((((But.of_below HB3.out : But g mb w w3).trans HBU.out).on HB5.out).put4 (Nat.le_refl _) (.slice ua l2.length uc) (.string ⟨#[115, 104]⟩) (.slice a' xs.length c') (.int .i64 st)).put4 (show w.heap.size ≤ w.heap.size + 1 + 1 by omega) (.slice ua l2.length uc) (.string ⟨#[115, 104]⟩) (.slice a' xs.length c') (.int .i64 st)
  refine bodyPost_ret (do_results rfl rfl X8) rfl ⟨_, v, rfl, ?_, ⟨_, a', c', rfl, ?_, ?_⟩, hbF⟩
  · rw [HDO.out]
    exact ((HV4.out.below HB5.out).put4 (by omega) (by omega) (fun e => by have := hvb _ e; omega) _ _ _ _).put4 (by omega) (by omega) (fun e => by have := hvb _ e; omega) _ _ _ _
  · rw [HDO.out]
    have hub := HUB.out
    exact own_put4far (own_put4far HL5.out (fun e => by have := hub _ e; omega) _ _ _ _) (fun e => by have := hub _ e; omega) _ _ _ _
  · rw [HDO.out]
    exact HE5.out.below (below_put4 (below_put4 (Below.refl _ _) (by omega) _ _ _ _) (by omega) _ _ _ _)

set_option maxHeartbeats 1000000 in
set_option maxRecDepth 100000 in
theorem do_5 (o : Opd) (hkd : o.kind = 5) (oa : Option Addr) (oc : Nat) (w : World) (hV : VS v w lo g mb n l xs st) (hR : RSt w lo' B V l xs st) (hlo : B ≤ lo) (hg : g < lo') (hmb : mb < lo') (hlo' : lo' ≤ w.heap.size) (hO : EA w B oa oc o.args)
    (hn : n ≤ 900) (hl : l.length ≤ 900) (hxs : xs.length ≤ 1000) (h1 : o.name.size ≤ 1048576) (h2 : o.text.size ≤ 1048576) (h3 : o.args.length ≤ 1000) :
    Calls Tryz.prog 9 #[.pointer (some ⟨g, 0, none⟩), V, .agg #[.int .i64 o.kind, .string o.name, .string o.text, .int .i64 o.n, .slice oa o.args.length oc]] w (DoP w lo lo' g mb n B (doR l xs st o)) := by
  obtain ⟨vL, a, c, rfl, hL, hE⟩ := hR
  obtain ⟨kd, nm, tx, num, ags⟩ := o
  simp only at hO h1 h2 h3
  have hlt := hV.lt
  have hge := hV.ge
  obtain ⟨va, vc, rfl⟩ := own_shape hL
  obtain ⟨N, hN⟩ : ∃ N, N = l.length := ⟨_, rfl⟩
  obtain ⟨m, hm⟩ : ∃ m, m = xs.length := ⟨_, rfl⟩
  obtain ⟨k, hk⟩ : ∃ k, k = ags.length := ⟨_, rfl⟩
  have hRS : RSt w lo' B (.agg #[.slice va l.length vc, .string ⟨#[115, 104]⟩, .slice a xs.length c, .int .i64 st]) l xs st := ⟨_, a, c, rfl, hL, hE⟩
  obtain ⟨w3, hw3⟩ : ∃ W, W = ((w.alloc (.cells #[.slice va N vc, .string ⟨#[115, 104]⟩, .slice a m c, .int .i64 st] 30)).alloc (.cells #[.int .i64 kd, .string nm, .string tx, .int .i64 num, .slice oa k oc] 34)).alloc (.cells #[.slice none 0 0, .string ⟨#[]⟩, .slice none 0 0, .int .i64 0] 30) := ⟨_, rfl⟩
  have HW3 := Lib.hid hw3
  have HS3 : Hid (w3.heap.size = w.heap.size + 3) := Lib.hid (by rw [hw3]; simp)
  have HB3 : Hid (Below w.heap.size w w3) := Lib.hid (by rw [hw3]; exact (((Below.refl _ _).alloc (Nat.le_refl _) _).alloc (by simp) _).alloc (by simp; omega) _)
  have X4 : Hid (Blk w3 w.heap.size 30 #[.slice va N vc, .string ⟨#[115, 104]⟩, .slice a m c, .int .i64 st]) := Lib.hid (by rw [hw3]; exact ((Blk.new w _ _).alloc _).alloc _)
  have X5 : Hid (Blk w3 (w.heap.size + 1) 34 #[.int .i64 kd, .string nm, .string tx, .int .i64 num, .slice oa k oc]) := Lib.hid (by rw [hw3]; have := (Blk.new (w.alloc (.cells #[.slice va N vc, .string ⟨#[115, 104]⟩, .slice a m c, .int .i64 st] 30)) 34 #[.int .i64 kd, .string nm, .string tx, .int .i64 num, .slice oa k oc]).alloc (.cells #[.slice none 0 0, .string ⟨#[]⟩, .slice none 0 0, .int .i64 0] 30); simpa using this)
  have X6 : Hid (Blk w3 (w.heap.size + 1 + 1) 30 #[.slice none 0 0, .string ⟨#[]⟩, .slice none 0 0, .int .i64 0]) := Lib.hid (by rw [hw3]; have := Blk.new ((w.alloc (.cells #[.slice va N vc, .string ⟨#[115, 104]⟩, .slice a m c, .int .i64 st] 30)).alloc (.cells #[.int .i64 kd, .string nm, .string tx, .int .i64 num, .slice oa k oc] 34)) 30 #[.slice none 0 0, .string ⟨#[]⟩, .slice none 0 0, .int .i64 0]; simpa using this)
  have HV3 : Hid (VS v w3 lo g mb n l xs st) := Lib.hid (hV.below HB3.out)
  have HVB : Hid (∀ b, v.ownBlock = some b → b < w.heap.size) := Lib.hid hV.own_lt
  have HLB : Hid (∀ b, (Value.slice va N vc).ownBlock = some b → b < w.heap.size) := Lib.hid fun b hb => by
    rw [hN] at hb
    exact (World.ownsRow.lt hL b hb).2
  have HR : Hid (RSt w lo' B (.agg #[.slice va N vc, .string ⟨#[115, 104]⟩, .slice a m c, .int .i64 st]) l xs st) := Lib.hid (by rw [hN, hm]; exact hRS)
  have HO := Lib.hid hO
  have HN := Lib.hid hN
  have HM := Lib.hid hm
  have HK := Lib.hid hk
  have H1 := Lib.hid h1
  have H2 := Lib.hid h2
  have H3 := Lib.hid h3
  have hgl := hlt.1
  have hml := hlt.2
  have HGE := Lib.hid hge
  have HLO := Lib.hid (And.intro hlo (And.intro hg (And.intro hmb hlo')))
  have HNN := Lib.hid (And.intro hn (And.intro hl hxs))
  rw [← hN, ← hm]
  show Calls Tryz.prog 9 #[.pointer (some ⟨g, 0, none⟩), .agg #[.slice va N vc, .string ⟨#[115, 104]⟩, .slice a m c, .int .i64 st], .agg #[.int .i64 kd, .string nm, .string tx, .int .i64 num, .slice oa ags.length oc]] w _
  rw [← hk]
  clear hw3 hV hL hE hRS hO hN hm hk h1 h2 h3 hge hlt hlo hg hmb hlo' hn hl hxs
  obtain rfl : kd = 5 := hkd
  by_cases hnum : num < 0 ∨ (m : Int) < num
  · have HDO : Hid (doR l xs st ⟨5, nm, tx, num, ags⟩ = (l, xs, st)) := Lib.hid (by
      show (l, if num < 0 ∨ (xs.length : Int) < num then xs else xs.drop num.toNat, st) = _
      rw [if_pos (by rw [← HM.out]; exact hnum)])
    have CV := Lib.hid (vshift_bad num w3 HV3.out HNN.out.2.2 (by rw [← HM.out]; exact hnum))
    by_cases hneg : num < 0
    · clear hnum
      go_enter Tryz.func9, Tryz.ntmps9
      go_wp2_with fail
      rw [← HW3.out]
      have y40 := (X4.out).cell 0
      have y41 := (X4.out).cell 1
      have y42 := (X4.out).cell 2
      have y43 := (X4.out).cell 3
      have f40 := (X4.out).free 0
      have f41 := (X4.out).free 1
      have f42 := (X4.out).free 2
      have f43 := (X4.out).free 3
      have y60 := (X6.out).cell 0
      have y61 := (X6.out).cell 1
      have y62 := (X6.out).cell 2
      have y63 := (X6.out).cell 3
      have f60 := (X6.out).free 0
      have f61 := (X6.out).free 1
      have f62 := (X6.out).free 2
      have f63 := (X6.out).free 3
      simp at y40 y41 y42 y43 y60 y61 y62 y63
      have y50 := (X5.out).cell 0
      have y51 := (X5.out).cell 1
      have y52 := (X5.out).cell 2
      have y53 := (X5.out).cell 3
      have y54 := (X5.out).cell 4
      simp at y50 y51 y52 y53 y54
      refine CV.out.mono ?_
      rintro e w4 ⟨rfl, rfl⟩
      have hbu : But g mb w3 w3 := But.refl _ _ _
      have hs4 := hbu.size
      have HV4 := HV3
      have HBU : Hid (But g mb w3 w3) := Lib.hid hbu
      have HR4 : Hid (RSt w3 lo' B (.agg #[.slice va N vc, .string ⟨#[115, 104]⟩, .slice a m c, .int .i64 st]) l xs st) := Lib.hid (HR.out.below HB3.out (by have := HLO.out; have := HGE.out; omega))
      have X64 := X6
      clear hbu
      go_wp2_with fail
      have X8 := X64.out.put4 (.slice va N vc) (.string ⟨#[115, 104]⟩) (.slice a m c) (.int .i64 st)
      obtain ⟨vL4, a4, c4, e4, hL4, hE4⟩ := HR4.out
      simp only [Value.agg.injEq, Array.mk.injEq, List.cons.injEq] at e4
      obtain ⟨rfl, -, e42, -⟩ := e4
      obtain ⟨q1, q2, q3, q4⟩ := HLO.out
      obtain ⟨r1, r2, r3⟩ := HGE.out
      have hs3 := HS3.out
      have hvb := HVB.out
      have hlb := HLB.out
      have hbF := (((But.of_below HB3.out : But g mb w w3).trans HBU.out).put4 (show w.heap.size ≤ w.heap.size + 1 + 1 by omega) (.slice va N vc) (.string ⟨#[115, 104]⟩) (.slice a m c) (.int .i64 st))
      refine bodyPost_ret (do_results rfl rfl X8) rfl ⟨_, v, rfl, ?_, ⟨.slice va N vc, a4, c4, by rw [HDO.out, e42], ?_, ?_⟩, hbF⟩
      · rw [HDO.out]
        exact (HV4.out.mono (Nat.le_succ _)).put4 (by omega) (by omega) (fun e => by have := hvb _ e; omega) _ _ _ _
      · rw [HDO.out]
        exact own_put4far hL4 (fun e => by have := hlb _ e; omega) _ _ _ _
      · rw [HDO.out]
        exact hE4.below (below_put4 (Below.refl _ _) (by omega) _ _ _ _)
    · have hbig : (m : Int) < num := by omega
      clear hnum
      go_enter Tryz.func9, Tryz.ntmps9
      go_wp2_with fail
      rw [← HW3.out]
      have y40 := (X4.out).cell 0
      have y41 := (X4.out).cell 1
      have y42 := (X4.out).cell 2
      have y43 := (X4.out).cell 3
      have f40 := (X4.out).free 0
      have f41 := (X4.out).free 1
      have f42 := (X4.out).free 2
      have f43 := (X4.out).free 3
      have y60 := (X6.out).cell 0
      have y61 := (X6.out).cell 1
      have y62 := (X6.out).cell 2
      have y63 := (X6.out).cell 3
      have f60 := (X6.out).free 0
      have f61 := (X6.out).free 1
      have f62 := (X6.out).free 2
      have f63 := (X6.out).free 3
      simp at y40 y41 y42 y43 y60 y61 y62 y63
      have y50 := (X5.out).cell 0
      have y51 := (X5.out).cell 1
      have y52 := (X5.out).cell 2
      have y53 := (X5.out).cell 3
      have y54 := (X5.out).cell 4
      simp at y50 y51 y52 y53 y54
      refine CV.out.mono ?_
      rintro e w4 ⟨rfl, rfl⟩
      have hbu : But g mb w3 w3 := But.refl _ _ _
      have hs4 := hbu.size
      have HV4 := HV3
      have HBU : Hid (But g mb w3 w3) := Lib.hid hbu
      have HR4 : Hid (RSt w3 lo' B (.agg #[.slice va N vc, .string ⟨#[115, 104]⟩, .slice a m c, .int .i64 st]) l xs st) := Lib.hid (HR.out.below HB3.out (by have := HLO.out; have := HGE.out; omega))
      have X64 := X6
      clear hbu
      go_wp2_with fail
      have X8 := X64.out.put4 (.slice va N vc) (.string ⟨#[115, 104]⟩) (.slice a m c) (.int .i64 st)
      obtain ⟨vL4, a4, c4, e4, hL4, hE4⟩ := HR4.out
      simp only [Value.agg.injEq, Array.mk.injEq, List.cons.injEq] at e4
      obtain ⟨rfl, -, e42, -⟩ := e4
      obtain ⟨q1, q2, q3, q4⟩ := HLO.out
      obtain ⟨r1, r2, r3⟩ := HGE.out
      have hs3 := HS3.out
      have hvb := HVB.out
      have hlb := HLB.out
      have hbF := (((But.of_below HB3.out : But g mb w w3).trans HBU.out).put4 (show w.heap.size ≤ w.heap.size + 1 + 1 by omega) (.slice va N vc) (.string ⟨#[115, 104]⟩) (.slice a m c) (.int .i64 st))
      refine bodyPost_ret (do_results rfl rfl X8) rfl ⟨_, v, rfl, ?_, ⟨.slice va N vc, a4, c4, by rw [HDO.out, e42], ?_, ?_⟩, hbF⟩
      · rw [HDO.out]
        exact (HV4.out.mono (Nat.le_succ _)).put4 (by omega) (by omega) (fun e => by have := hvb _ e; omega) _ _ _ _
      · rw [HDO.out]
        exact own_put4far hL4 (fun e => by have := hlb _ e; omega) _ _ _ _
      · rw [HDO.out]
        exact hE4.below (below_put4 (Below.refl _ _) (by omega) _ _ _ _)
  · obtain ⟨q, rfl⟩ : ∃ q : Nat, num = (q : Int) := ⟨num.toNat, by omega⟩
    have hqm : q ≤ m := by omega
    have HDO : Hid (doR l xs st ⟨5, nm, tx, (q : Int), ags⟩ = (l, xs.drop q, st)) := Lib.hid (by
      show (l, if (q : Int) < 0 ∨ (xs.length : Int) < (q : Int) then xs else xs.drop (q : Int).toNat, st) = _
      rw [if_neg (by rw [← HM.out]; exact hnum)]
      rfl)
    have CV := Lib.hid (vshift_any q w3 HV3.out HNN.out.2.2 (by rw [← HM.out]; exact hqm))
    clear hnum
    go_enter Tryz.func9, Tryz.ntmps9
    go_wp2_with fail
    rw [← HW3.out]
    have y40 := (X4.out).cell 0
    have y41 := (X4.out).cell 1
    have y42 := (X4.out).cell 2
    have y43 := (X4.out).cell 3
    have f40 := (X4.out).free 0
    have f41 := (X4.out).free 1
    have f42 := (X4.out).free 2
    have f43 := (X4.out).free 3
    have y60 := (X6.out).cell 0
    have y61 := (X6.out).cell 1
    have y62 := (X6.out).cell 2
    have y63 := (X6.out).cell 3
    have f60 := (X6.out).free 0
    have f61 := (X6.out).free 1
    have f62 := (X6.out).free 2
    have f63 := (X6.out).free 3
    simp at y40 y41 y42 y43 y60 y61 y62 y63
    have y50 := (X5.out).cell 0
    have y51 := (X5.out).cell 1
    have y52 := (X5.out).cell 2
    have y53 := (X5.out).cell 3
    have y54 := (X5.out).cell 4
    simp at y50 y51 y52 y53 y54
    refine CV.out.mono ?_
    rintro e w4 ⟨rfl, v', hv4, hown, hbu⟩
    have HOWN := Lib.hid hown
    clear hown
    have hs4 := hbu.size
    have HV4 := Lib.hid hv4
    have HBU : Hid (But g mb w3 w4) := Lib.hid hbu
    have HR4 : Hid (RSt w4 lo' B (.agg #[.slice va N vc, .string ⟨#[115, 104]⟩, .slice a m c, .int .i64 st]) l xs st) := Lib.hid (by
      obtain ⟨q1, q2, q3, q4⟩ := HLO.out
      obtain ⟨r1, r2, r3⟩ := HGE.out
      have hs3 := HS3.out
      exact (HR.out.below HB3.out (by omega)).but hbu q2 q3 (by omega) (by omega) (by omega))
    have X44 := Lib.hid (X4.out.but hbu (by omega) (by omega))
    have X54 := Lib.hid (X5.out.but hbu (by omega) (by omega))
    have X64 := Lib.hid (X6.out.but hbu (by omega) (by omega))
    clear hv4 hbu
    clear y50 y51 y52 y53 y54
    clear y40 y41 y42 y43 y60 y61 y62 y63 f40 f41 f42 f43 f60 f61 f62 f63
    have y40 := (X44.out).cell 0
    have y41 := (X44.out).cell 1
    have y42 := (X44.out).cell 2
    have y43 := (X44.out).cell 3
    have f40 := (X44.out).free 0
    have f41 := (X44.out).free 1
    have f42 := (X44.out).free 2
    have f43 := (X44.out).free 3
    have y60 := (X64.out).cell 0
    have y61 := (X64.out).cell 1
    have y62 := (X64.out).cell 2
    have y63 := (X64.out).cell 3
    have f60 := (X64.out).free 0
    have f61 := (X64.out).free 1
    have f62 := (X64.out).free 2
    have f63 := (X64.out).free 3
    simp at y40 y41 y42 y43 y60 y61 y62 y63
    have y50 := (X54.out).cell 0
    have y51 := (X54.out).cell 1
    have y52 := (X54.out).cell 2
    have y53 := (X54.out).cell 3
    have y54 := (X54.out).cell 4
    simp at y50 y51 y52 y53 y54
    have hcut : ∃ a' c', (∀ w' : World, (Instr.slice 22 (.slice a m c) (some (.int .i64 (q : Int))) none none).run Tryz.prog w' = .ok (.slice a' (xs.drop q).length c') w') ∧ EA w4 B a' c' (xs.drop q) := by
      obtain ⟨vL4, a4, c4, e4, hL4, hE4⟩ := HR4.out
      simp only [Value.agg.injEq, Array.mk.injEq, List.cons.injEq] at e4
      obtain ⟨-, -, e42, -⟩ := e4
      rw [e42]
      exact ea_cut hE4 (by rw [← HM.out]; exact hqm)
    obtain ⟨a', c', hrun, hEQ⟩ := hcut
    have HEQ := Lib.hid hEQ
    obtain ⟨dl, hdl⟩ : ∃ d, d = (xs.drop q).length := ⟨_, rfl⟩
    rw [← hdl] at hrun
    have HDL := Lib.hid hdl
    clear hEQ hdl
    go_wp2_with fail
    have X7 := X64.out.far (p := ⟨w.heap.size, 2, none⟩) (show w.heap.size + 1 + 1 ≠ w.heap.size by omega) (.slice a' dl c')
    have X8 := X7.put4 (.slice va N vc) (.string ⟨#[115, 104]⟩) (.slice a' dl c') (.int .i64 st)
    obtain ⟨vL4, a4, c4, e4, hL4, hE4⟩ := HR4.out
    simp only [Value.agg.injEq, Array.mk.injEq, List.cons.injEq] at e4
    obtain ⟨rfl, -, e42, -⟩ := e4
    obtain ⟨q1, q2, q3, q4⟩ := HLO.out
    obtain ⟨r1, r2, r3⟩ := HGE.out
    have hs3 := HS3.out
    have hvb := HVB.out
    have hlb := HLB.out
    have hbF := ((((But.of_below HB3.out : But g mb w w3).trans HBU.out).setNew (p := ⟨w.heap.size, 2, none⟩) (Nat.le_refl _) (.slice a' dl c')).put4 (show w.heap.size ≤ w.heap.size + 1 + 1 by omega) (.slice va N vc) (.string ⟨#[115, 104]⟩) (.slice a' dl c') (.int .i64 st))
    refine bodyPost_ret (do_results rfl rfl X8) rfl ⟨_, v', rfl, ?_, ⟨.slice va N vc, a', c', by rw [HDO.out, HDL.out], ?_, ?_⟩, hbF⟩
    · rw [HDO.out]
      exact ((HV4.out.mono (Nat.le_succ _)).far (by show w.heap.size ≠ g; omega) (by show w.heap.size ≠ mb; omega) (fun e => absurd (HOWN.out w.heap.size e) (by omega)) _).put4 (by omega) (by omega) (fun e => by have := HOWN.out _ e; omega) _ _ _ _
    · rw [HDO.out]
      exact own_put4far (own_but hL4 ((But.refl w.heap.size w.heap.size w4).setG 2 (.slice a' dl c')) (fun e => by have := hlb _ e; omega) (fun e => by have := hlb _ e; omega)) (fun e => by have := hlb _ e; omega) _ _ _ _
    · rw [HDO.out]
      exact (HEQ.out).below (below_put4 ((Below.refl _ _).setCell (p := ⟨w.heap.size, 2, none⟩) (show B ≤ w.heap.size by omega) _) (by omega) _ _ _ _)

set_option maxHeartbeats 1000000 in
set_option maxRecDepth 100000 in
theorem do_6 (o : Opd) (hkd : o.kind = 6) (oa : Option Addr) (oc : Nat) (w : World) (hV : VS v w lo g mb n l xs st) (hR : RSt w lo' B V l xs st) (hlo : B ≤ lo) (hg : g < lo') (hmb : mb < lo') (hlo' : lo' ≤ w.heap.size) (hO : EA w B oa oc o.args)
    (hn : n ≤ 900) (hl : l.length ≤ 900) (hxs : xs.length ≤ 1000) (h1 : o.name.size ≤ 1048576) (h2 : o.text.size ≤ 1048576) (h3 : o.args.length ≤ 1000) :
    Calls Tryz.prog 9 #[.pointer (some ⟨g, 0, none⟩), V, .agg #[.int .i64 o.kind, .string o.name, .string o.text, .int .i64 o.n, .slice oa o.args.length oc]] w (DoP w lo lo' g mb n B (doR l xs st o)) := by
  obtain ⟨vL, a, c, rfl, hL, hE⟩ := hR
  obtain ⟨kd, nm, tx, num, ags⟩ := o
  simp only at hO h1 h2 h3
  have hlt := hV.lt
  have hge := hV.ge
  obtain ⟨va, vc, rfl⟩ := own_shape hL
  obtain ⟨N, hN⟩ : ∃ N, N = l.length := ⟨_, rfl⟩
  obtain ⟨m, hm⟩ : ∃ m, m = xs.length := ⟨_, rfl⟩
  obtain ⟨k, hk⟩ : ∃ k, k = ags.length := ⟨_, rfl⟩
  have hRS : RSt w lo' B (.agg #[.slice va l.length vc, .string ⟨#[115, 104]⟩, .slice a xs.length c, .int .i64 st]) l xs st := ⟨_, a, c, rfl, hL, hE⟩
  obtain ⟨w3, hw3⟩ : ∃ W, W = ((w.alloc (.cells #[.slice va N vc, .string ⟨#[115, 104]⟩, .slice a m c, .int .i64 st] 30)).alloc (.cells #[.int .i64 kd, .string nm, .string tx, .int .i64 num, .slice oa k oc] 34)).alloc (.cells #[.slice none 0 0, .string ⟨#[]⟩, .slice none 0 0, .int .i64 0] 30) := ⟨_, rfl⟩
  have HW3 := Lib.hid hw3
  have HS3 : Hid (w3.heap.size = w.heap.size + 3) := Lib.hid (by rw [hw3]; simp)
  have HB3 : Hid (Below w.heap.size w w3) := Lib.hid (by rw [hw3]; exact (((Below.refl _ _).alloc (Nat.le_refl _) _).alloc (by simp) _).alloc (by simp; omega) _)
  have X4 : Hid (Blk w3 w.heap.size 30 #[.slice va N vc, .string ⟨#[115, 104]⟩, .slice a m c, .int .i64 st]) := Lib.hid (by rw [hw3]; exact ((Blk.new w _ _).alloc _).alloc _)
  have X5 : Hid (Blk w3 (w.heap.size + 1) 34 #[.int .i64 kd, .string nm, .string tx, .int .i64 num, .slice oa k oc]) := Lib.hid (by rw [hw3]; have := (Blk.new (w.alloc (.cells #[.slice va N vc, .string ⟨#[115, 104]⟩, .slice a m c, .int .i64 st] 30)) 34 #[.int .i64 kd, .string nm, .string tx, .int .i64 num, .slice oa k oc]).alloc (.cells #[.slice none 0 0, .string ⟨#[]⟩, .slice none 0 0, .int .i64 0] 30); simpa using this)
  have X6 : Hid (Blk w3 (w.heap.size + 1 + 1) 30 #[.slice none 0 0, .string ⟨#[]⟩, .slice none 0 0, .int .i64 0]) := Lib.hid (by rw [hw3]; have := Blk.new ((w.alloc (.cells #[.slice va N vc, .string ⟨#[115, 104]⟩, .slice a m c, .int .i64 st] 30)).alloc (.cells #[.int .i64 kd, .string nm, .string tx, .int .i64 num, .slice oa k oc] 34)) 30 #[.slice none 0 0, .string ⟨#[]⟩, .slice none 0 0, .int .i64 0]; simpa using this)
  have HV3 : Hid (VS v w3 lo g mb n l xs st) := Lib.hid (hV.below HB3.out)
  have HVB : Hid (∀ b, v.ownBlock = some b → b < w.heap.size) := Lib.hid hV.own_lt
  have HLB : Hid (∀ b, (Value.slice va N vc).ownBlock = some b → b < w.heap.size) := Lib.hid fun b hb => by
    rw [hN] at hb
    exact (World.ownsRow.lt hL b hb).2
  have HR : Hid (RSt w lo' B (.agg #[.slice va N vc, .string ⟨#[115, 104]⟩, .slice a m c, .int .i64 st]) l xs st) := Lib.hid (by rw [hN, hm]; exact hRS)
  have HO := Lib.hid hO
  have HN := Lib.hid hN
  have HM := Lib.hid hm
  have HK := Lib.hid hk
  have H1 := Lib.hid h1
  have H2 := Lib.hid h2
  have H3 := Lib.hid h3
  have hgl := hlt.1
  have hml := hlt.2
  have HGE := Lib.hid hge
  have HLO := Lib.hid (And.intro hlo (And.intro hg (And.intro hmb hlo')))
  have HNN := Lib.hid (And.intro hn (And.intro hl hxs))
  rw [← hN, ← hm]
  show Calls Tryz.prog 9 #[.pointer (some ⟨g, 0, none⟩), .agg #[.slice va N vc, .string ⟨#[115, 104]⟩, .slice a m c, .int .i64 st], .agg #[.int .i64 kd, .string nm, .string tx, .int .i64 num, .slice oa ags.length oc]] w _
  rw [← hk]
  clear hw3 hV hL hE hRS hO hN hm hk h1 h2 h3 hge hlt hlo hg hmb hlo' hn hl hxs
  obtain rfl : kd = 6 := hkd
  have HDO : Hid (doR l xs st ⟨6, nm, tx, num, ags⟩ = (l, ags, st)) := Lib.hid rfl
  have CV := Lib.hid (vsetargs_any oa k oc ags w3 B HV3.out (by rw [HK.out]; exact (HO.out.below (HB3.out.mono (by have := HLO.out; have := HGE.out; omega))).1) (by have := HLO.out; have := HGE.out; have := HS3.out; omega) (by rw [HK.out]; exact H3.out))
  go_enter Tryz.func9, Tryz.ntmps9
  go_wp2_with fail
  rw [← HW3.out]
  have y40 := (X4.out).cell 0
  have y41 := (X4.out).cell 1
  have y42 := (X4.out).cell 2
  have y43 := (X4.out).cell 3
  have f40 := (X4.out).free 0
  have f41 := (X4.out).free 1
  have f42 := (X4.out).free 2
  have f43 := (X4.out).free 3
  have y60 := (X6.out).cell 0
  have y61 := (X6.out).cell 1
  have y62 := (X6.out).cell 2
  have y63 := (X6.out).cell 3
  have f60 := (X6.out).free 0
  have f61 := (X6.out).free 1
  have f62 := (X6.out).free 2
  have f63 := (X6.out).free 3
  simp at y40 y41 y42 y43 y60 y61 y62 y63
  have y50 := (X5.out).cell 0
  have y51 := (X5.out).cell 1
  have y52 := (X5.out).cell 2
  have y53 := (X5.out).cell 3
  have y54 := (X5.out).cell 4
  simp at y50 y51 y52 y53 y54
  refine CV.out.mono ?_
  rintro e w4 ⟨rfl, v', hv4, hown, hbu⟩
  have HOWN := Lib.hid hown
  clear hown
  have hs4 := hbu.size
  have HV4 := Lib.hid hv4
  have HBU : Hid (But g mb w3 w4) := Lib.hid hbu
  have HR4 : Hid (RSt w4 lo' B (.agg #[.slice va N vc, .string ⟨#[115, 104]⟩, .slice a m c, .int .i64 st]) l xs st) := Lib.hid (by
    obtain ⟨q1, q2, q3, q4⟩ := HLO.out
    obtain ⟨r1, r2, r3⟩ := HGE.out
    have hs3 := HS3.out
    exact (HR.out.below HB3.out (by omega)).but hbu q2 q3 (by omega) (by omega) (by omega))
  have X44 := Lib.hid (X4.out.but hbu (by omega) (by omega))
  have X54 := Lib.hid (X5.out.but hbu (by omega) (by omega))
  have X64 := Lib.hid (X6.out.but hbu (by omega) (by omega))
  clear hv4 hbu
  clear y50 y51 y52 y53 y54
  clear y40 y41 y42 y43 y60 y61 y62 y63 f40 f41 f42 f43 f60 f61 f62 f63
  have y40 := (X44.out).cell 0
  have y41 := (X44.out).cell 1
  have y42 := (X44.out).cell 2
  have y43 := (X44.out).cell 3
  have f40 := (X44.out).free 0
  have f41 := (X44.out).free 1
  have f42 := (X44.out).free 2
  have f43 := (X44.out).free 3
  have y60 := (X64.out).cell 0
  have y61 := (X64.out).cell 1
  have y62 := (X64.out).cell 2
  have y63 := (X64.out).cell 3
  have f60 := (X64.out).free 0
  have f61 := (X64.out).free 1
  have f62 := (X64.out).free 2
  have f63 := (X64.out).free 3
  simp at y40 y41 y42 y43 y60 y61 y62 y63
  have y50 := (X54.out).cell 0
  have y51 := (X54.out).cell 1
  have y52 := (X54.out).cell 2
  have y53 := (X54.out).cell 3
  have y54 := (X54.out).cell 4
  simp at y50 y51 y52 y53 y54
  have HO4 : Hid (EA w4 B oa oc ags) := Lib.hid ((HO.out.below (HB3.out.mono (by have := HLO.out; have := HGE.out; omega))).but HBU.out (by have := HLO.out; have := HGE.out; omega) (by have := HLO.out; have := HGE.out; omega) (by have := HLO.out; have := HGE.out; have := HS3.out; omega))
  go_wp2_with fail
  have X7 := X64.out.far (p := ⟨w.heap.size, 2, none⟩) (show w.heap.size + 1 + 1 ≠ w.heap.size by omega) (.slice oa k oc)
  have X8 := X7.put4 (.slice va N vc) (.string ⟨#[115, 104]⟩) (.slice oa k oc) (.int .i64 st)
  obtain ⟨vL4, a4, c4, e4, hL4, hE4⟩ := HR4.out
  simp only [Value.agg.injEq, Array.mk.injEq, List.cons.injEq] at e4
  obtain ⟨rfl, -, e42, -⟩ := e4
  obtain ⟨q1, q2, q3, q4⟩ := HLO.out
  obtain ⟨r1, r2, r3⟩ := HGE.out
  have hs3 := HS3.out
  have hvb := HVB.out
  have hlb := HLB.out
  have hbF := ((((But.of_below HB3.out : But g mb w w3).trans HBU.out).setNew (p := ⟨w.heap.size, 2, none⟩) (Nat.le_refl _) (.slice oa k oc)).put4 (show w.heap.size ≤ w.heap.size + 1 + 1 by omega) (.slice va N vc) (.string ⟨#[115, 104]⟩) (.slice oa k oc) (.int .i64 st))
  refine bodyPost_ret (do_results rfl rfl X8) rfl ⟨_, v', rfl, ?_, ⟨.slice va N vc, oa, oc, by rw [HDO.out, HK.out], ?_, ?_⟩, hbF⟩
  · rw [HDO.out]
    exact ((HV4.out.mono (Nat.le_succ _)).far (by show w.heap.size ≠ g; omega) (by show w.heap.size ≠ mb; omega) (fun e => absurd (HOWN.out w.heap.size e) (by omega)) _).put4 (by omega) (by omega) (fun e => by have := HOWN.out _ e; omega) _ _ _ _
  · rw [HDO.out]
    exact own_put4far (own_but hL4 ((But.refl w.heap.size w.heap.size w4).setG 2 (.slice oa k oc)) (fun e => by have := hlb _ e; omega) (fun e => by have := hlb _ e; omega)) (fun e => by have := hlb _ e; omega) _ _ _ _
  · rw [HDO.out]
    exact (HO4.out).below (below_put4 ((Below.refl _ _).setCell (p := ⟨w.heap.size, 2, none⟩) (show B ≤ w.heap.size by omega) _) (by omega) _ _ _ _)

set_option maxHeartbeats 1000000 in
set_option maxRecDepth 100000 in
theorem do_7 (o : Opd) (hkd : o.kind = 7) (oa : Option Addr) (oc : Nat) (w : World) (hV : VS v w lo g mb n l xs st) (hR : RSt w lo' B V l xs st) (hlo : B ≤ lo) (hg : g < lo') (hmb : mb < lo') (hlo' : lo' ≤ w.heap.size) (hO : EA w B oa oc o.args)
    (hn : n ≤ 900) (hl : l.length ≤ 900) (hxs : xs.length ≤ 1000) (h1 : o.name.size ≤ 1048576) (h2 : o.text.size ≤ 1048576) (h3 : o.args.length ≤ 1000) :
    Calls Tryz.prog 9 #[.pointer (some ⟨g, 0, none⟩), V, .agg #[.int .i64 o.kind, .string o.name, .string o.text, .int .i64 o.n, .slice oa o.args.length oc]] w (DoP w lo lo' g mb n B (doR l xs st o)) := by
  obtain ⟨vL, a, c, rfl, hL, hE⟩ := hR
  obtain ⟨kd, nm, tx, num, ags⟩ := o
  simp only at hO h1 h2 h3
  have hlt := hV.lt
  have hge := hV.ge
  obtain ⟨va, vc, rfl⟩ := own_shape hL
  obtain ⟨N, hN⟩ : ∃ N, N = l.length := ⟨_, rfl⟩
  obtain ⟨m, hm⟩ : ∃ m, m = xs.length := ⟨_, rfl⟩
  obtain ⟨k, hk⟩ : ∃ k, k = ags.length := ⟨_, rfl⟩
  have hRS : RSt w lo' B (.agg #[.slice va l.length vc, .string ⟨#[115, 104]⟩, .slice a xs.length c, .int .i64 st]) l xs st := ⟨_, a, c, rfl, hL, hE⟩
  obtain ⟨w3, hw3⟩ : ∃ W, W = ((w.alloc (.cells #[.slice va N vc, .string ⟨#[115, 104]⟩, .slice a m c, .int .i64 st] 30)).alloc (.cells #[.int .i64 kd, .string nm, .string tx, .int .i64 num, .slice oa k oc] 34)).alloc (.cells #[.slice none 0 0, .string ⟨#[]⟩, .slice none 0 0, .int .i64 0] 30) := ⟨_, rfl⟩
  have HW3 := Lib.hid hw3
  have HS3 : Hid (w3.heap.size = w.heap.size + 3) := Lib.hid (by rw [hw3]; simp)
  have HB3 : Hid (Below w.heap.size w w3) := Lib.hid (by rw [hw3]; exact (((Below.refl _ _).alloc (Nat.le_refl _) _).alloc (by simp) _).alloc (by simp; omega) _)
  have X4 : Hid (Blk w3 w.heap.size 30 #[.slice va N vc, .string ⟨#[115, 104]⟩, .slice a m c, .int .i64 st]) := Lib.hid (by rw [hw3]; exact ((Blk.new w _ _).alloc _).alloc _)
  have X5 : Hid (Blk w3 (w.heap.size + 1) 34 #[.int .i64 kd, .string nm, .string tx, .int .i64 num, .slice oa k oc]) := Lib.hid (by rw [hw3]; have := (Blk.new (w.alloc (.cells #[.slice va N vc, .string ⟨#[115, 104]⟩, .slice a m c, .int .i64 st] 30)) 34 #[.int .i64 kd, .string nm, .string tx, .int .i64 num, .slice oa k oc]).alloc (.cells #[.slice none 0 0, .string ⟨#[]⟩, .slice none 0 0, .int .i64 0] 30); simpa using this)
  have X6 : Hid (Blk w3 (w.heap.size + 1 + 1) 30 #[.slice none 0 0, .string ⟨#[]⟩, .slice none 0 0, .int .i64 0]) := Lib.hid (by rw [hw3]; have := Blk.new ((w.alloc (.cells #[.slice va N vc, .string ⟨#[115, 104]⟩, .slice a m c, .int .i64 st] 30)).alloc (.cells #[.int .i64 kd, .string nm, .string tx, .int .i64 num, .slice oa k oc] 34)) 30 #[.slice none 0 0, .string ⟨#[]⟩, .slice none 0 0, .int .i64 0]; simpa using this)
  have HV3 : Hid (VS v w3 lo g mb n l xs st) := Lib.hid (hV.below HB3.out)
  have HVB : Hid (∀ b, v.ownBlock = some b → b < w.heap.size) := Lib.hid hV.own_lt
  have HLB : Hid (∀ b, (Value.slice va N vc).ownBlock = some b → b < w.heap.size) := Lib.hid fun b hb => by
    rw [hN] at hb
    exact (World.ownsRow.lt hL b hb).2
  have HR : Hid (RSt w lo' B (.agg #[.slice va N vc, .string ⟨#[115, 104]⟩, .slice a m c, .int .i64 st]) l xs st) := Lib.hid (by rw [hN, hm]; exact hRS)
  have HO := Lib.hid hO
  have HN := Lib.hid hN
  have HM := Lib.hid hm
  have HK := Lib.hid hk
  have H1 := Lib.hid h1
  have H2 := Lib.hid h2
  have H3 := Lib.hid h3
  have hgl := hlt.1
  have hml := hlt.2
  have HGE := Lib.hid hge
  have HLO := Lib.hid (And.intro hlo (And.intro hg (And.intro hmb hlo')))
  have HNN := Lib.hid (And.intro hn (And.intro hl hxs))
  rw [← hN, ← hm]
  show Calls Tryz.prog 9 #[.pointer (some ⟨g, 0, none⟩), .agg #[.slice va N vc, .string ⟨#[115, 104]⟩, .slice a m c, .int .i64 st], .agg #[.int .i64 kd, .string nm, .string tx, .int .i64 num, .slice oa ags.length oc]] w _
  rw [← hk]
  clear hw3 hV hL hE hRS hO hN hm hk h1 h2 h3 hge hlt hlo hg hmb hlo' hn hl hxs
  obtain rfl : kd = 7 := hkd
  have HDO : Hid (doR l xs st ⟨7, nm, tx, num, ags⟩ = (l, xs, num)) := Lib.hid rfl
  have CV := Lib.hid (vsetstatus_any num w3 HV3.out)
  go_enter Tryz.func9, Tryz.ntmps9
  go_wp2_with fail
  rw [← HW3.out]
  have y40 := (X4.out).cell 0
  have y41 := (X4.out).cell 1
  have y42 := (X4.out).cell 2
  have y43 := (X4.out).cell 3
  have f40 := (X4.out).free 0
  have f41 := (X4.out).free 1
  have f42 := (X4.out).free 2
  have f43 := (X4.out).free 3
  have y60 := (X6.out).cell 0
  have y61 := (X6.out).cell 1
  have y62 := (X6.out).cell 2
  have y63 := (X6.out).cell 3
  have f60 := (X6.out).free 0
  have f61 := (X6.out).free 1
  have f62 := (X6.out).free 2
  have f63 := (X6.out).free 3
  simp at y40 y41 y42 y43 y60 y61 y62 y63
  have y50 := (X5.out).cell 0
  have y51 := (X5.out).cell 1
  have y52 := (X5.out).cell 2
  have y53 := (X5.out).cell 3
  have y54 := (X5.out).cell 4
  simp at y50 y51 y52 y53 y54
  refine CV.out.mono ?_
  rintro e w4 ⟨rfl, hv4, hbu⟩
  have hs4 := hbu.size
  have HV4 := Lib.hid hv4
  have HBU : Hid (But g mb w3 w4) := Lib.hid hbu
  have HR4 : Hid (RSt w4 lo' B (.agg #[.slice va N vc, .string ⟨#[115, 104]⟩, .slice a m c, .int .i64 st]) l xs st) := Lib.hid (by
    obtain ⟨q1, q2, q3, q4⟩ := HLO.out
    obtain ⟨r1, r2, r3⟩ := HGE.out
    have hs3 := HS3.out
    exact (HR.out.below HB3.out (by omega)).but hbu q2 q3 (by omega) (by omega) (by omega))
  have X44 := Lib.hid (X4.out.but hbu (by omega) (by omega))
  have X54 := Lib.hid (X5.out.but hbu (by omega) (by omega))
  have X64 := Lib.hid (X6.out.but hbu (by omega) (by omega))
  clear hv4 hbu
  clear y50 y51 y52 y53 y54
  clear y40 y41 y42 y43 y60 y61 y62 y63 f40 f41 f42 f43 f60 f61 f62 f63
  have y40 := (X44.out).cell 0
  have y41 := (X44.out).cell 1
  have y42 := (X44.out).cell 2
  have y43 := (X44.out).cell 3
  have f40 := (X44.out).free 0
  have f41 := (X44.out).free 1
  have f42 := (X44.out).free 2
  have f43 := (X44.out).free 3
  have y60 := (X64.out).cell 0
  have y61 := (X64.out).cell 1
  have y62 := (X64.out).cell 2
  have y63 := (X64.out).cell 3
  have f60 := (X64.out).free 0
  have f61 := (X64.out).free 1
  have f62 := (X64.out).free 2
  have f63 := (X64.out).free 3
  simp at y40 y41 y42 y43 y60 y61 y62 y63
  have y50 := (X54.out).cell 0
  have y51 := (X54.out).cell 1
  have y52 := (X54.out).cell 2
  have y53 := (X54.out).cell 3
  have y54 := (X54.out).cell 4
  simp at y50 y51 y52 y53 y54
  go_wp2_with fail
  have X7 := X64.out.far (p := ⟨w.heap.size, 3, none⟩) (show w.heap.size + 1 + 1 ≠ w.heap.size by omega) (.int .i64 num)
  have X8 := X7.put4 (.slice va N vc) (.string ⟨#[115, 104]⟩) (.slice a m c) (.int .i64 num)
  obtain ⟨vL4, a4, c4, e4, hL4, hE4⟩ := HR4.out
  simp only [Value.agg.injEq, Array.mk.injEq, List.cons.injEq] at e4
  obtain ⟨rfl, -, e42, -⟩ := e4
  obtain ⟨q1, q2, q3, q4⟩ := HLO.out
  obtain ⟨r1, r2, r3⟩ := HGE.out
  have hs3 := HS3.out
  have hvb := HVB.out
  have hlb := HLB.out
  have hbF := ((((But.of_below HB3.out : But g mb w w3).trans HBU.out).setNew (p := ⟨w.heap.size, 3, none⟩) (Nat.le_refl _) (.int .i64 num)).put4 (show w.heap.size ≤ w.heap.size + 1 + 1 by omega) (.slice va N vc) (.string ⟨#[115, 104]⟩) (.slice a m c) (.int .i64 num))
  refine bodyPost_ret (do_results rfl rfl X8) rfl ⟨_, v, rfl, ?_, ⟨.slice va N vc, a4, c4, by rw [HDO.out, e42], ?_, ?_⟩, hbF⟩
  · rw [HDO.out]
    exact ((HV4.out.mono (Nat.le_succ _)).far (by show w.heap.size ≠ g; omega) (by show w.heap.size ≠ mb; omega) (fun e => absurd (hvb w.heap.size e) (by omega)) _).put4 (by omega) (by omega) (fun e => by have := hvb _ e; omega) _ _ _ _
  · rw [HDO.out]
    exact own_put4far (own_but hL4 ((But.refl w.heap.size w.heap.size w4).setG 3 (.int .i64 num)) (fun e => by have := hlb _ e; omega) (fun e => by have := hlb _ e; omega)) (fun e => by have := hlb _ e; omega) _ _ _ _
  · rw [HDO.out]
    exact (hE4).below (below_put4 ((Below.refl _ _).setCell (p := ⟨w.heap.size, 3, none⟩) (show B ≤ w.heap.size by omega) _) (by omega) _ _ _ _)

set_option maxHeartbeats 1000000 in
set_option maxRecDepth 100000 in
theorem do_0 (o : Opd) (hkd : o.kind ≠ 1 ∧ o.kind ≠ 2 ∧ o.kind ≠ 3 ∧ o.kind ≠ 4 ∧ o.kind ≠ 5 ∧ o.kind ≠ 6 ∧ o.kind ≠ 7) (oa : Option Addr) (oc : Nat) (w : World) (hV : VS v w lo g mb n l xs st) (hR : RSt w lo' B V l xs st) (hlo : B ≤ lo) (hg : g < lo') (hmb : mb < lo') (hlo' : lo' ≤ w.heap.size) (hO : EA w B oa oc o.args)
    (hn : n ≤ 900) (hl : l.length ≤ 900) (hxs : xs.length ≤ 1000) (h1 : o.name.size ≤ 1048576) (h2 : o.text.size ≤ 1048576) (h3 : o.args.length ≤ 1000) :
    Calls Tryz.prog 9 #[.pointer (some ⟨g, 0, none⟩), V, .agg #[.int .i64 o.kind, .string o.name, .string o.text, .int .i64 o.n, .slice oa o.args.length oc]] w (DoP w lo lo' g mb n B (doR l xs st o)) := by
  obtain ⟨kd, nm, tx, num, ags⟩ := o
  obtain ⟨k1, k2, k3, k4, k5, k6, k7⟩ := hkd
  simp only at k1 k2 k3 k4 k5 k6 k7 hO h1 h2 h3
  have HDO : Hid (doR l xs st ⟨kd, nm, tx, num, ags⟩ = (l, xs, st)) := Lib.hid (by
    simp only [doR, k1, k2, k3, k4, k5, k6, k7, if_false])
  have t1 : (kd == 1) = false := by simpa using k1
  have t2 : (kd == 2) = false := by simpa using k2
  have t3 : (kd == 3) = false := by simpa using k3
  have t4 : (kd == 4) = false := by simpa using k4
  have t5 : (kd == 5) = false := by simpa using k5
  have t6 : (kd == 6) = false := by simpa using k6
  have t7 : (kd == 7) = false := by simpa using k7
  have HV := Lib.hid hV
  have HR := Lib.hid hR
  obtain ⟨vL, a, c, rfl, hL, hE⟩ := hR
  obtain ⟨va, vc, rfl⟩ := own_shape hL
  have HB : Hid (B ≤ w.heap.size) := Lib.hid (by have := HV.out.ge; omega)
  clear k1 k2 k3 k4 k5 k6 k7 hV hL hE hO h1 h2 h3 hlo hg hmb hlo' hn hl hxs
  go_enter Tryz.func9, Tryz.ntmps9
  go_wp2_with fail
  have hbF : Below w.heap.size w (((w.alloc (.cells #[.slice va l.length vc, .string ⟨#[115, 104]⟩, .slice a xs.length c, .int .i64 st] 30)).alloc (.cells #[.int .i64 kd, .string nm, .string tx, .int .i64 num, .slice oa ags.length oc] 34)).alloc (.cells #[.slice va l.length vc, .string ⟨#[115, 104]⟩, .slice a xs.length c, .int .i64 st] 30)) := (((Below.refl _ _).alloc (Nat.le_refl _) _).alloc (by simp) _).alloc (by simp; omega) _
  have X8 := Blk.new ((w.alloc (.cells #[.slice va l.length vc, .string ⟨#[115, 104]⟩, .slice a xs.length c, .int .i64 st] 30)).alloc (.cells #[.int .i64 kd, .string nm, .string tx, .int .i64 num, .slice oa ags.length oc] 34)) 30 #[.slice va l.length vc, .string ⟨#[115, 104]⟩, .slice a xs.length c, .int .i64 st]
  refine bodyPost_ret (do_results (by simp) rfl X8) rfl ⟨_, v, rfl, ?_, ?_, But.of_below hbF⟩
  · rw [HDO.out]
    exact (HV.out.below hbF).mono (Nat.le_succ _)
  · rw [HDO.out]
    exact HR.out.below hbF HB.out

theorem do_any (o : Opd) (oa : Option Addr) (oc : Nat) (w : World) (hV : VS v w lo g mb n l xs st) (hR : RSt w lo' B V l xs st) (hlo : B ≤ lo) (hg : g < lo') (hmb : mb < lo') (hlo' : lo' ≤ w.heap.size) (hO : EA w B oa oc o.args)
    (hn : n ≤ 900) (hl : l.length ≤ 900) (hxs : xs.length ≤ 1000) (h1 : o.name.size ≤ 1048576) (h2 : o.text.size ≤ 1048576) (h3 : o.args.length ≤ 1000) :
    Calls Tryz.prog 9 #[.pointer (some ⟨g, 0, none⟩), V, .agg #[.int .i64 o.kind, .string o.name, .string o.text, .int .i64 o.n, .slice oa o.args.length oc]] w (DoP w lo lo' g mb n B (doR l xs st o)) :=
  if k1 : o.kind = 1 then do_1 o k1 oa oc w hV hR hlo hg hmb hlo' hO hn hl hxs h1 h2 h3
  else if k2 : o.kind = 2 then do_2 o k2 oa oc w hV hR hlo hg hmb hlo' hO hn hl hxs h1 h2 h3
  else if k3 : o.kind = 3 then do_3 o k3 oa oc w hV hR hlo hg hmb hlo' hO hn hl hxs h1 h2 h3
  else if k4 : o.kind = 4 then do_4 o k4 oa oc w hV hR hlo hg hmb hlo' hO hn hl hxs h1 h2 h3
  else if k5 : o.kind = 5 then do_5 o k5 oa oc w hV hR hlo hg hmb hlo' hO hn hl hxs h1 h2 h3
  else if k6 : o.kind = 6 then do_6 o k6 oa oc w hV hR hlo hg hmb hlo' hO hn hl hxs h1 h2 h3
  else if k7 : o.kind = 7 then do_7 o k7 oa oc w hV hR hlo hg hmb hlo' hO hn hl hxs h1 h2 h3
  else do_0 o ⟨k1, k2, k3, k4, k5, k6, k7⟩ oa oc w hV hR hlo hg hmb hlo' hO hn hl hxs h1 h2 h3
end
end Go.Proofs.YthfnkgofkdahfaaGreatDoor
