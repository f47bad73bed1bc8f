/-
  A Vars and the document's V side by side.
-/
import Derived.Test.YthfnkgofkdahfaaGreatDoorP7
namespace Go.Proofs.YthfnkgofkdahfaaGreatDoor
open Go.RowKit

def Inv (l : List (Nm × Xd)) (xs : List ByteArray) (st : Int) : Prop := xs.length ≤ 50 ∧ (∀ s ∈ xs, s.size ≤ 1048576) ∧ (-9223372036854775808 ≤ st ∧ st ≤ 9223372036854775807) ∧ Nul l
theorem Inv.doR {l : List (Nm × Xd)} {xs : List ByteArray} {st : Int} (h : Inv l xs st) {o : Opd} (h1 : o.args.length ≤ 50) (h2 : ∀ s ∈ o.args, s.size ≤ 1048576) (h3 : -9223372036854775808 ≤ o.n ∧ o.n ≤ 9223372036854775807) :
    Inv (doR l xs st o).1 (doR l xs st o).2.1 (doR l xs st o).2.2 := by
  obtain ⟨q1, q2, q3, q4⟩ := h
  refine ⟨(doR_len l xs st o q1 h1).2, ?_, ?_, q4.doR xs st o⟩
  · unfold Go.Proofs.YthfnkgofkdahfaaGreatDoor.doR
    repeat' split
    all_goals first
      | exact q2
      | exact h2
      | exact fun s hs => q2 s (List.mem_of_mem_drop hs)
  · unfold Go.Proofs.YthfnkgofkdahfaaGreatDoor.doR
    repeat' split
    all_goals first
      | exact q3
      | exact h3

theorem blk_ne {w : World} {p q : Nat} {t t' : TypeId} {cs cs' : Array Value} (h : Blk w p t cs) (h' : Blk w q t' cs') (hne : t ≠ t') : p ≠ q := by
  intro e
  subst e
  rw [Blk] at h h'
  rw [h'] at h
  simp only [Option.some.injEq, Obj.cells.injEq] at h
  exact hne h.2.1.symm
theorem map_ne {w : World} {p q n : Nat} {m : List UInt8 → Option Value} {t : TypeId} {cs : Array Value} (h : MapS w p n m) (h' : Blk w q t cs) : p ≠ q := by
  intro e
  subst e
  obtain ⟨D, ⟨es, clock, hb, _⟩, _⟩ := h
  rw [Blk, hb] at h'
  cases h'

def PX (w : World) (w0s lo lo' g mb gx cnt : Nat) (l : List (Nm × Xd)) (xs : List ByteArray) (st : Int) : Prop :=
  ∃ v va vc xa xc, VS v w lo g mb cnt l xs st ∧ LSt w lo' (.slice va l.length vc) l ∧ EA w w0s xa xc xs ∧ Blk w gx 30 #[.slice va l.length vc, .string ⟨#[115, 104]⟩, .slice xa xs.length xc, .int .i64 st]
section
variable {w w' : World} {w0s lo lo' g mb gx cnt : Nat} {l : List (Nm × Xd)} {xs : List ByteArray} {st : Int}
theorem PX.below (h : PX w w0s lo lo' g mb gx cnt l xs st) (hb : Below w.heap.size w w') (hB : w0s ≤ w.heap.size) : PX w' w0s lo lo' g mb gx cnt l xs st := by
  obtain ⟨v, va, vc, xa, xc, h1, h2, h3, h4⟩ := h
  exact ⟨v, va, vc, xa, xc, h1.below hb, own_below h2 hb, h3.below (hb.mono hB), h4.below hb h4.lt⟩
theorem PX.mono (h : PX w w0s lo lo' g mb gx cnt l xs st) {cnt' : Nat} (hc : cnt ≤ cnt') : PX w w0s lo lo' g mb gx cnt' l xs st := by
  obtain ⟨v, va, vc, xa, xc, h1, h2⟩ := h
  exact ⟨v, va, vc, xa, xc, h1.mono hc, h2⟩
/-- Another Vars turns. -/
theorem PX.but {g' mb' : Nat} (h : PX w w0s lo lo' g mb gx cnt l xs st) (hb : But g' mb' w w') (h1 : g' < lo) (h2 : mb' < lo) (h3 : g' < lo') (h4 : mb' < lo') (h5 : w0s ≤ g') (h6 : w0s ≤ mb') (hB : w0s ≤ w.heap.size) (h7 : gx ≠ g') (h8 : gx ≠ mb') : PX w' w0s lo lo' g mb gx cnt l xs st := by
  obtain ⟨v, va, vc, xa, xc, q1, q2, q3, q4⟩ := h
  exact ⟨v, va, vc, xa, xc, q1.but hb h1 h2, own_but q2 hb (own_ge q2 h3) (own_ge q2 h4), q3.but hb h5 h6 hB, q4.but hb h7 h8⟩
/-- Another box of the document's turns. -/
theorem PX.put4 {q : Nat} {cs : Array Value} (h : PX w w0s lo lo' g mb gx cnt l xs st) (hq : Blk w q 30 cs) (hne : gx ≠ q) (hB : w0s ≤ q) (x0 x1 x2 x3 : Value) : PX ((((w.setCell ⟨q, 0, none⟩ x0).setCell ⟨q, 1, none⟩ x1).setCell ⟨q, 2, none⟩ x2).setCell ⟨q, 3, none⟩ x3) w0s lo lo' g mb gx cnt l xs st := by
  obtain ⟨v, va, vc, xa, xc, q1, q2, q3, q4⟩ := h
  have e1 : v.ownBlock ≠ some q := own_ne_blk q1.own hq (by decide)
  have e2 : (Value.slice va l.length vc).ownBlock ≠ some q := own_ne_blk q2 hq (by decide)
  have e3 : q ≠ g ∧ q ≠ mb := by
    obtain ⟨m, _, _, r3, _, r5, _⟩ := q1
    exact ⟨Ne.symm (blk_ne r3 hq (by decide)), Ne.symm (map_ne r5 hq)⟩
  refine ⟨v, va, vc, xa, xc, q1.put4 e3.1 e3.2 e1 _ _ _ _, own_put4far q2 e2 _ _ _ _, q3.below (below_put4 (Below.refl _ _) hB _ _ _ _), ?_⟩
  exact (((q4.far (p := ⟨q, 0, none⟩) hne _).far (p := ⟨q, 1, none⟩) hne _).far (p := ⟨q, 2, none⟩) hne _).far (p := ⟨q, 3, none⟩) hne _
end
/-- What do leaves in the box. -/
theorem PX.done {w5 : World} {w0s lo lo' g mb gx cnt : Nat} {v5 : Value} {la5 : Option Addr} {lc5 : Nat} {xa5 : Option Addr} {xc5 : Nat} {r : List (Nm × Xd) × List ByteArray × Int} {cs : Array Value} (hv : VS v5 w5 lo g mb cnt r.1 r.2.1 r.2.2) (hL : LSt w5 lo' (.slice la5 r.1.length lc5) r.1) (hA : EA w5 w0s xa5 xc5 r.2.1)
    (hG : Blk w5 gx 30 cs) (hcs : ∃ a b c d, cs = #[a, b, c, d]) (hB : w0s ≤ gx) :
    PX ((((w5.setCell ⟨gx, 0, none⟩ (.slice la5 r.1.length lc5)).setCell ⟨gx, 1, none⟩ (.string ⟨#[115, 104]⟩)).setCell ⟨gx, 2, none⟩ (.slice xa5 r.2.1.length xc5)).setCell ⟨gx, 3, none⟩ (.int .i64 r.2.2)) w0s lo lo' g mb gx cnt r.1 r.2.1 r.2.2 := by
  obtain ⟨a, b, c, d, rfl⟩ := hcs
  have e1 : v5.ownBlock ≠ some gx := own_ne_blk hv.own hG (by decide)
  have e2 : (Value.slice la5 r.1.length lc5).ownBlock ≠ some gx := own_ne_blk hL hG (by decide)
  have e3 : gx ≠ g ∧ gx ≠ mb := by
    obtain ⟨m, _, _, r3, _, r5, _⟩ := hv
    exact ⟨Ne.symm (blk_ne r3 hG (by decide)), Ne.symm (map_ne r5 hG)⟩
  exact ⟨v5, la5, lc5, xa5, xc5, hv.put4 e3.1 e3.2 e1 _ _ _ _, own_put4far hL e2 _ _ _ _, hA.below (below_put4 (Below.refl _ _) hB _ _ _ _), hG.put4 _ _ _ _⟩

section
variable {w w8 : World} {w0s lo lo' g mb gx gy cnt loC gc mbc : Nat} {l : List (Nm × Xd)} {xs : List ByteArray} {st : Int} {v : Value} {va : Option Addr} {vc : Nat} {xa : Option Addr} {xc : Nat} {a b c d : Value}
def put4W (w : World) (q : Nat) (x0 x1 x2 x3 : Value) : World := (((w.setCell ⟨q, 0, none⟩ x0).setCell ⟨q, 1, none⟩ x1).setCell ⟨q, 2, none⟩ x2).setCell ⟨q, 3, none⟩ x3
/-- A clone is made, then the document's V is kept. -/
theorem cloned1 (h1 : VS v w lo g mb cnt l xs st) (h2 : LSt w lo' (.slice va l.length vc) l) (h3 : EA w w0s xa xc xs) (h4 : Blk w gx 30 #[.slice va l.length vc, .string ⟨#[115, 104]⟩, .slice xa xs.length xc, .int .i64 st])
    (hy : Blk w gy 30 #[a, b, c, d]) (hne : gx ≠ gy) (hB : w0s ≤ gy) (hBw : w0s ≤ w.heap.size) (hb : Below w.heap.size w w8) (hC : VSt w8 loC gc mbc cnt l xs st) :
    PX (put4W w8 gy (.slice va l.length vc) (.string ⟨#[115, 104]⟩) (.slice xa xs.length xc) (.int .i64 st)) w0s lo lo' g mb gx cnt l xs st ∧
    PX (put4W w8 gy (.slice va l.length vc) (.string ⟨#[115, 104]⟩) (.slice xa xs.length xc) (.int .i64 st)) w0s loC lo' gc mbc gy cnt l xs st := by
  have hy8 := hy.below hb hy.lt
  refine ⟨PX.put4 (PX.below ⟨v, va, vc, xa, xc, h1, h2, h3, h4⟩ hb hBw) hy8 hne hB _ _ _ _, ?_⟩
  obtain ⟨v2, hv2⟩ := hC
  exact PX.done (r := (l, xs, st)) hv2 (own_below h2 hb) (h3.below (hb.mono hBw)) hy8 ⟨_, _, _, _, rfl⟩ hB
/-- The document's V is kept, then a clone is made. -/
theorem cloned2 (h1 : VS v w lo g mb cnt l xs st) (h2 : LSt w lo' (.slice va l.length vc) l) (h3 : EA w w0s xa xc xs) (h4 : Blk w gx 30 #[.slice va l.length vc, .string ⟨#[115, 104]⟩, .slice xa xs.length xc, .int .i64 st])
    (hy : Blk w gy 30 #[a, b, c, d]) (hne : gx ≠ gy) (hB : w0s ≤ gy) (hBw : w0s ≤ w.heap.size) (hb : Below (put4W w gy (.slice va l.length vc) (.string ⟨#[115, 104]⟩) (.slice xa xs.length xc) (.int .i64 st)).heap.size (put4W w gy (.slice va l.length vc) (.string ⟨#[115, 104]⟩) (.slice xa xs.length xc) (.int .i64 st)) w8) (hC : VSt w8 loC gc mbc cnt l xs st) :
    PX w8 w0s lo lo' g mb gx cnt l xs st ∧ PX w8 w0s loC lo' gc mbc gy cnt l xs st := by
  have hsz : (put4W w gy (.slice va l.length vc) (.string ⟨#[115, 104]⟩) (.slice xa xs.length xc) (.int .i64 st)).heap.size = w.heap.size := by simp [put4W]
  have hP := PX.put4 (q := gy) (⟨v, va, vc, xa, xc, h1, h2, h3, h4⟩ : PX w w0s lo lo' g mb gx cnt l xs st) hy hne hB (.slice va l.length vc) (.string ⟨#[115, 104]⟩) (.slice xa xs.length xc) (.int .i64 st)
  refine ⟨PX.below hP hb (by show w0s ≤ (put4W w gy _ _ _ _).heap.size; rw [hsz]; exact hBw), ?_⟩
  obtain ⟨v2, hv2⟩ := hC
  have e2 : (Value.slice va l.length vc).ownBlock ≠ some gy := own_ne_blk h2 hy (by decide)
  have hy2 : Blk (put4W w gy (.slice va l.length vc) (.string ⟨#[115, 104]⟩) (.slice xa xs.length xc) (.int .i64 st)) gy 30 #[.slice va l.length vc, .string ⟨#[115, 104]⟩, .slice xa xs.length xc, .int .i64 st] := hy.put4 _ _ _ _
  exact ⟨v2, va, vc, xa, xc, hv2, own_below (own_put4far h2 e2 _ _ _ _) hb, (h3.below (below_put4 (Below.refl _ _) hB _ _ _ _)).below (hb.mono (by rw [hsz]; exact hBw)), hy2.below hb hy2.lt⟩
theorem VSt.put4W (h : VS v w lo g mb cnt l xs st) (hy : Blk w gy 30 #[a, b, c, d]) (x0 x1 x2 x3 : Value) : VSt (Go.Proofs.YthfnkgofkdahfaaGreatDoor.put4W w gy x0 x1 x2 x3) lo g mb cnt l xs st := by
  have e1 : v.ownBlock ≠ some gy := own_ne_blk h.own hy (by decide)
  have e3 : gy ≠ g ∧ gy ≠ mb := by
    obtain ⟨m, _, _, r3, _, r5, _⟩ := h
    exact ⟨Ne.symm (blk_ne r3 hy (by decide)), Ne.symm (map_ne r5 hy)⟩
  exact ⟨v, h.put4 e3.1 e3.2 e1 _ _ _ _⟩
end
end Go.Proofs.YthfnkgofkdahfaaGreatDoor
