/-
  The copy of a command: its state on the way.
-/
import Derived.Test.YtnackmnoldkihaaGreatDoorW23
import Derived.Deep.RegionLaw
set_option linter.unusedVariables false
set_option linter.unusedSimpArgs false
namespace Go.Proofs.YtnackmnoldkihaaGreatDoor
open Go.RowKit

theorem infoA14 : (Tryz.prog.info? 98).map (fun i => (i.zero, i.size, i.bytes)) = some (some (.agg #[.string ByteArray.empty, .slice none 0 0]), 2, 40) := by kernel_rfl
theorem infoR14 : (Tryz.prog.info? 100).map (fun i => (i.zero, i.size, i.bytes)) = some (some (.agg #[.int .i64 0, .string ByteArray.empty, .string ByteArray.empty, .slice none 0 0]), 4, 64) := by kernel_rfl
theorem infoNs14 : (Tryz.prog.info? 25).map (fun i => (i.zero, i.size, i.bytes)) = some (some (.slice none 0 0), 1, 24) := by kernel_rfl
theorem infoM14 : (Tryz.prog.info? 92).map (fun i => (i.zero, i.size, i.bytes)) = some (some (.agg #[.slice none 0 0, .slice none 0 0]), 2, 48) := by kernel_rfl
theorem own_set {w : World} {base : Nat} {e : TypeId} {size : Nat} {v : Value} {n : Nat} {xs : List Value} (h : w.ownsRow base e size v n xs) {p : Addr} (hp : v.ownBlock ≠ some p.block) (u : Value) : (w.setCell p u).ownsRow base e size v n xs := by
 refine ⟨h.1, ?_⟩
 rcases h.2 with h2 | ⟨g, cap, cur, hv, hB, hg, r⟩
 · exact .inl h2
 · refine .inr ⟨g, cap, cur, hv, hB, ?_, r⟩
   rw [Below.heap_setCell w p u g (fun e => hp (by rw [hv, ← e]; rfl))]
   exact hg

/-- A command's copy on the way: the parameter, the result, the copy's box. -/
structure NSt (w : World) (pc : Array Value) (gx : Nat) (k : Int) (nm : ByteArray) (av wv rv lv mv : Value) (W : World) : Prop where
 par : Blk W w.heap.size 38 pc
 res : Blk W (w.heap.size + 1) 64 #[.int .i64 0, .string ⟨#[]⟩, .slice none 0 0, .slice none 0 0, .slice none 0 0, .slice none 0 0, .slice none 0 0]
 box : Blk W gx 64 #[.int .i64 k, .string nm, av, wv, rv, lv, mv]
 gt : w.heap.size + 1 < gx
 bel : Below w.heap.size w W
section
variable {w W W' : World} {pc : Array Value} {gx : Nat} {k : Int} {nm : ByteArray} {av wv rv lv mv : Value}
theorem NSt.below (h : NSt w pc gx k nm av wv rv lv mv W) (hb : Below W.heap.size W W') : NSt w pc gx k nm av wv rv lv mv W' :=
 ⟨h.par.below hb h.par.lt, h.res.below hb h.res.lt, h.box.below hb h.box.lt, h.gt, h.bel.trans (hb.mono h.bel.size)⟩
theorem NSt.grown (h : NSt w pc gx k nm av wv rv lv mv W) {row : Option Nat} (hg : W.grownBy W' row) (hr : ∀ b, row = some b → gx < b) : NSt w pc gx k nm av wv rv lv mv W' := by
 have h0 := h.gt
 exact ⟨h.par.grown hg fun e => by have := hr _ e; omega, h.res.grown hg fun e => by have := hr _ e; omega, h.box.grown hg fun e => by have := hr _ e; omega, h.gt,
  h.bel.grown hg h.bel.size fun b e => by have := hr _ e; omega⟩
theorem NSt.put (h : NSt w pc gx k nm av wv rv lv mv W) (i : Nat) (u : Value) {av' wv' rv' lv' mv' : Value} (he : (#[.int .i64 k, .string nm, av, wv, rv, lv, mv] : Array Value).setIfInBounds i u = #[.int .i64 k, .string nm, av', wv', rv', lv', mv']) : NSt w pc gx k nm av' wv' rv' lv' mv' (W.setCell ⟨gx, i, none⟩ u) := by
 have h0 := h.gt
 exact ⟨h.par.far (by simp; omega) u, h.res.far (by simp; omega) u, by rw [← he]; exact h.box.put i u, h.gt, h.bel.setCell (by simp; omega) u⟩
end
/-- What has been copied so far. -/
def Dn (d : Nat) (x : Nd) (n : Nat) (base : Nat) (xs : List Nat) (W : World) (row : Option Nat) (av wv rv lv : Value) : Prop :=
 WdsIn (onlyW W (freshB base xs row)) W.heap.size d x.words wv ∧ (1 < n → AssIn (onlyW W (freshB base xs row)) W.heap.size d x.assigns av) ∧
 (2 < n → RdsIn (onlyW W (freshB base xs row)) W.heap.size d x.redirs rv) ∧ (3 < n → LssIn (onlyW W (freshB base xs row)) W.heap.size d x.lists lv)
theorem Dn.keep {d : Nat} {x : Nd} {n : Nat} {base : Nat} {xs : List Nat} {W W' : World} {row row' : Option Nat} {av wv rv lv : Value} (h : Dn d x n base xs W row av wv rv lv) (k : Kept W base xs row W.heap.size W' base xs row' W'.heap.size) : Dn d x n base xs W' row' av wv rv lv :=
 ⟨k.wds h.1, fun e => k.ass (h.2.1 e), fun e => k.rds (h.2.2.1 e), fun e => k.lss (h.2.2.2 e)⟩
/-- Behind an append of one copy. -/
structure Pushed {α : Type} (w : World) (pc : Array Value) (gx : Nat) (x : Nd) (d n : Nat) (e : TypeId) (size : Nat) (F : World → Nat → α → List Value → Prop) (l : List α) (k : Nat) (v : Value) (av wv rv lv mv : Value) (W : World) : Prop where
 st : NSt w pc gx x.kind x.name av wv rv lv mv W
 cp : Copied W (w.heap.size + 2) [gx] e size F l k v
 row : ∀ b, v.ownBlock = some b → gx < b
 dn : Dn d x n (w.heap.size + 2) [gx] W v.ownBlock av wv rv lv
section
variable {α : Type} {w : World} {pc : Array Value} {gx : Nat} {x : Nd} {d n : Nat} {e : TypeId} {size : Nat} {F : World → Nat → α → List Value → Prop} {l : List α} {k : Nat} {v : Value} {av wv rv lv mv : Value} {W w4 w5 : World}
theorem Pushed.push (h : Pushed w pc gx x d n e size F l k v av wv rv lv mv W) (hF : CKeeps F) {y : α} {c : List Value} {g cap : Nat} {cs : List (List Value)} (hg : w4.grownBy w5 v.ownBlock) (hr : v.ownBlock = some g ∨ g = w4.heap.size)
 (ho : w5.ownsRow (w.heap.size + 2) e size (.slice (some ⟨g, 0, none⟩) (k + 1) cap) (k + 1) (cs.flatten ++ c)) (hb : Below W.heap.size W w4) (hl : cs.length = k) (hs : ∀ c ∈ cs, c.length = size)
 (hall : ∀ (i : Nat) (x : α) (c : List Value), i < k → l[i]? = some x → cs[i]? = some c → F (onlyW W (freshB (w.heap.size + 2) [gx] v.ownBlock)) W.heap.size x c) (hy : l[k]? = some y) (hc : c.length = size)
 (hnew : F (onlyW w4 (freshB (w.heap.size + 2) [gx] v.ownBlock)) w4.heap.size y c) : Pushed w pc gx x d n e size F l (k + 1) (.slice (some ⟨g, 0, none⟩) (k + 1) cap) av wv rv lv mv w5 := by
 have hz := hb.size
 have hlt := h.st.box.lt
 have hgt := h.st.gt
 refine ⟨(h.st.below hb).grown hg h.row, Copied.push hg hr ho hF hb hl hs hall hy hc hnew, fun b e => ?_, ?_⟩
 · obtain rfl : g = b := Option.some.inj e
   rcases hr with hr | hr
   · exact h.row _ hr
   · omega
 · exact (h.dn.keep (Kept.below hb (Nat.le_refl _))).keep (Kept.grown hg hr hg.size)
/-- Behind the store of the row into the box. -/
theorem Pushed.put (h : Pushed w pc gx x d n e size F l k v av wv rv lv mv W) (hF : CKeeps F) (i : Nat) (u : Value) {av' wv' rv' lv' mv' : Value} (he : (#[.int .i64 x.kind, .string x.name, av, wv, rv, lv, mv] : Array Value).setIfInBounds i u = #[.int .i64 x.kind, .string x.name, av', wv', rv', lv', mv'])
 (hd : ∀ W, Dn d x n (w.heap.size + 2) [gx] W v.ownBlock av wv rv lv → Dn d x n (w.heap.size + 2) [gx] W v.ownBlock av' wv' rv' lv') : Pushed w pc gx x d n e size F l k v av' wv' rv' lv' mv' (W.setCell ⟨gx, i, none⟩ u) := by
 refine ⟨h.st.put i u he, h.cp.moved hF (Kept.set (p := ⟨gx, i, none⟩) (by simp) u) fun us ho => own_set ho (fun e => ?_) u, h.row, hd _ (h.dn.keep (Kept.set (p := ⟨gx, i, none⟩) (by simp) u))⟩
 have := h.row _ e
 simp at this
theorem Pushed.below (h : Pushed w pc gx x d n e size F l k v av wv rv lv mv W) (hF : CKeeps F) (hb : Below W.heap.size W w5) : Pushed w pc gx x d n e size F l k v av wv rv lv mv w5 :=
 ⟨h.st.below hb, h.cp.moved hF (Kept.below hb (Nat.le_refl _)) fun us ho => own_below ho hb, h.row, h.dn.keep (Kept.below hb (Nat.le_refl _))⟩
/-- All copied. -/
theorem Pushed.done (h : Pushed w pc gx x d n e size F l l.length v av wv rv lv mv W) (hF : CKeeps F) (hl : l.length ≤ bigN) : SlOf (onlyW W (freshB (w.heap.size + 2) [gx] none)) W.heap.size size (F (onlyW W (freshB (w.heap.size + 2) [gx] none)) W.heap.size) l v ∧ Dn d x n (w.heap.size + 2) [gx] W none av wv rv lv :=
 ⟨h.cp.done hl hF fun b e hb => by have := h.row b e; simp at hb; omega, h.dn.keep Kept.row⟩
end
theorem keeps_as (d : Nat) : CKeeps (fun w B => AsC w B d) := fun h _ _ hk => h.asc hk
theorem keeps_rd (d : Nat) : CKeeps (fun w B => RdC w B d) := fun h _ _ hk => h.rdc hk
theorem keeps_ar (d : Nat) : CKeeps (fun w B => ArC w B d) := fun h _ _ hk => h.arc hk
theorem keeps_ls (d : Nat) : CKeeps (fun w B (y : List Nd) c => ∃ v, c = [v] ∧ NdsIn w B d y v) := fun h _ _ ⟨v, e, hk⟩ => ⟨v, e, h.nds hk⟩
end Go.Proofs.YtnackmnoldkihaaGreatDoor
