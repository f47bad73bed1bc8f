/-
  What is written, in plain words: a text and the here-documents that come.
-/
import Derived.Test.YtnackmnoldkihaaGreatDoorW12
import Derived.Test.YtnackmnoldkihaaGreatDoorW8
import Derived.Shelf.Strings.BuilderK
import Derived.Lib.OthersKept
import Derived.Laws.Externs
import Derived.Defers
set_option linter.unusedVariables false
set_option linter.unusedSimpArgs false
/-
  The writer: what it holds; writing a string or a byte to it.
-/
namespace Go.Proofs.YtnackmnoldkihaaGreatDoor
open Go.RowKit

/-- A redirection and where its word lies. -/
abbrev DocV := Rd × Value
def docCells (r : DocV) : List Value := [.int .i64 r.1.fd, .string r.1.op, .string r.1.tag, r.2]
/-- The writer in block b, one of the call's own (from B on): what has been written, and the here-documents that come, which lie in the slice dv. -/
def Wr (W : World) (B b : Nat) (dv : Value) (out : List UInt8) (ds : List DocV) : Prop :=
 B ≤ b ∧ (∃ v p, W.heap[b]? = some (.cells #[p, v, dv] 84 (0, 0)) ∧ (p = .pointer none ∨ p = .pointer (some ⟨b, 0, none⟩)) ∧ OwnB W B v out) ∧
   W.ownsRow B 31 4 dv ds.length (ds.flatMap docCells) ∧ (∀ r ∈ ds, ∃ d, RdC W B d r.1 (docCells r)) ∧ ds.length ≤ out.length
/-- What stays where the writer of block b writes on: all below B; every block that is neither it, nor its here-documents', nor a row of bytes. -/
structure Fr (W W' : World) (B b : Nat) (dv dv' : Value) : Prop where
 low : Below B W W'
 kept : ∀ k o, W.heap[k]? = some o → k ≠ b → dv.ownBlock ≠ some k → (∀ c fz, o ≠ .cells c 5 fz) → W'.heap[k]? = some o
 own : ∀ k, dv'.ownBlock = some k → dv.ownBlock = some k ∨ W.heap.size ≤ k
section
variable {W W' W'' : World} {B b : Nat} {dv dv' dv'' : Value} {out : List UInt8} {ds : List DocV}
theorem Fr.refl (W : World) (B b : Nat) (dv : Value) : Fr W W B b dv dv := ⟨Below.refl _ _, fun _ _ h _ _ _ => h, fun _ h => .inl h⟩
theorem Fr.trans (h : Fr W W' B b dv dv') (h' : Fr W' W'' B b dv' dv'') : Fr W W'' B b dv dv'' :=
 ⟨h.low.trans h'.low, fun k o ho hb hd hu => h'.kept k o (h.kept k o ho hb hd hu) hb (fun e => by
  rcases h.own k e with h1 | h1
  · exact hd h1
  · have := (Array.getElem?_eq_some_iff.1 ho).1; omega) hu, fun k hk => by
  rcases h'.own k hk with h1 | h1
  · exact h.own k h1
  · exact .inr (Nat.le_trans h.low.size h1)⟩
/-- Where only new blocks have been made. -/
theorem Fr.of_below (hb : Below W.heap.size W W') (hB : B ≤ W.heap.size) : Fr W W' B b dv dv :=
 ⟨hb.mono hB, fun k o ho _ _ _ => (hb.block k (Array.getElem?_eq_some_iff.1 ho).1).trans ho, fun _ h => .inl h⟩
theorem Wr.lt (h : Wr W B b dv out ds) : b < W.heap.size := by
 obtain ⟨_, ⟨v, p, hb, _⟩, _⟩ := h
 exact (Array.getElem?_eq_some_iff.1 hb).1
theorem Wr.le (h : Wr W B b dv out ds) : B ≤ W.heap.size := by have := h.lt; have := h.1; omega
theorem Wr.below (h : Wr W B b dv out ds) (hb : Below W.heap.size W W') : Wr W' B b dv out ds := by
 have hle := h.le
 have hlt := h.lt
 obtain ⟨h1, ⟨v, p, h2, h3, h4⟩, h5, h6, h7⟩ := h
 exact ⟨h1, ⟨v, p, (hb.block b hlt).trans h2, h3, h4.below hb⟩, own_below h5 hb, fun r hr => by
  obtain ⟨d, hd⟩ := h6 r hr
  exact ⟨d, hd.keep fun _ _ _ _ hs => hs.below (hb.mono hle)⟩, h7⟩
/-- A box of the call's own stays. -/
theorem Fr.blk {g : Nat} {t : TypeId} {cs : Array Value} (h : Fr W W' B b dv dv') (hk : Blk W g t cs) (hg : g ≠ b) (hd : dv.ownBlock ≠ some g) (ht : t ≠ 5) : Blk W' g t cs :=
 h.kept g _ hk hg hd fun c fz e => by injection e with _ e2 _; exact ht e2
end
theorem writer_lies : liesAt Tryz.prog Tryz.prog.depth 84 (3 / Tryz.prog.cellsOf 84) 0 82 1 = true := by kernel_rfl

set_option maxRecDepth 100000 in
theorem check_used (b : Nat) (w : World) (h0 : w.cell? ⟨b, 0, none⟩ = some (.pointer (some ⟨b, 0, none⟩))) :
 Calls Tryz.prog 102 #[.pointer (some ⟨b, 0, none⟩)] w fun e w' => e = .returned (.tuple #[]) ∧ w = w' := by
 obtain ⟨j, hj, _⟩ := Option.map_eq_some_iff.1 (show (Tryz.prog.info? 82).map (·.size) = some 2 by kernel_rfl)
 go_enter Tryz.func102, Tryz.ntmps102
 go_wp2
 rw [Lib.run_neq_ptr_same w _ Tryz.underlying80 hj]
 go_wp2
 go_end0
 exact ⟨rfl, rfl⟩
set_option maxRecDepth 100000 in
theorem check_fresh (b : Nat) (w : World) (h0 : w.cell? ⟨b, 0, none⟩ = some (.pointer none)) (hsh : w.shape? b = some (84, 3)) (hfz : w.frozen? ⟨b, 0, none⟩ = false) :
 Calls Tryz.prog 102 #[.pointer (some ⟨b, 0, none⟩)] w fun e w' => e = .returned (.tuple #[]) ∧ w.setCell ⟨b, 0, none⟩ (.pointer (some ⟨b, 0, none⟩)) = w' := by
 obtain ⟨j, hj, hjs⟩ := Option.map_eq_some_iff.1 (show (Tryz.prog.info? 82).map (·.size) = some 2 by kernel_rfl)
 go_enter Tryz.func102, Tryz.ntmps102
 go_wp2
 rw [Lib.run_to_unsafe w ⟨b, 0, none⟩ Tryz.underlying80 Tryz.underlying142 hj (by rw [hjs]; decide) hsh (Nat.zero_lt_succ 2)]
 simp only [Result.andThen]
 rw [Oper.upon_value]
 go_wp2
 rw [run_callFunc_extern Tryz.func114 (by kernel_rfl) (by kernel_rfl) (by kernel_rfl) (e := Extern.AbiNoEscape.same) (by kernel_rfl)]
 rw [Lib.run_noEscape]
 simp only [Result.andThen]
 rw [Oper.upon_value]
 go_wp2
 rw [Lib.run_from_unsafe w ⟨b, 0, none⟩ Tryz.underlying142 Tryz.underlying80 hj hsh writer_lies]
 simp only [Result.andThen]
 rw [Oper.upon_value]
 go_wp2
 go_end0
 exact ⟨rfl, rfl⟩

/-- .. with its own address in it. -/
def WrU (W : World) (B b : Nat) (v dv : Value) (out : List UInt8) (ds : List DocV) : Prop :=
 B ≤ b ∧ W.heap[b]? = some (.cells #[.pointer (some ⟨b, 0, none⟩), v, dv] 84 (0, 0)) ∧ OwnB W B v out ∧
   W.ownsRow B 31 4 dv ds.length (ds.flatMap docCells) ∧ (∀ r ∈ ds, ∃ d, RdC W B d r.1 (docCells r)) ∧ ds.length ≤ out.length
theorem WrU.wr {W : World} {B b : Nat} {v dv : Value} {out : List UInt8} {ds : List DocV} (h : WrU W B b v dv out ds) : Wr W B b dv out ds :=
 ⟨h.1, ⟨v, _, h.2.1, .inr rfl, h.2.2.1⟩, h.2.2.2⟩
theorem row_ne {w : World} {B n size : Nat} {e T : TypeId} {v : Value} {xs : List Value} {b : Nat} {cs : Array Value} {fr : Nat × Nat} (hown : w.ownsRow B e size v n xs) (hb : w.heap[b]? = some (.cells cs T fr)) (hTe : T ≠ e) : v.ownBlock ≠ some b := by
 rcases hown.2 with ⟨rfl, _⟩ | ⟨g, cap, cur, rfl, _, hg, _⟩
 · simp [Value.ownBlock]
 · intro e'
   simp [Value.ownBlock] at e'
   subst e'
   rw [hb] at hg
   injection hg with hg
   injection hg with _ h2 _
   exact hTe h2
/-- A store into the writer's own block keeps the rows. -/
theorem row_set {w : World} {B n size : Nat} {e : TypeId} {v : Value} {xs : List Value} {b : Nat} (hown : w.ownsRow B e size v n xs) (hne : v.ownBlock ≠ some b) (i : Nat) (u : Value) : (w.setCell ⟨b, i, none⟩ u).ownsRow B e size v n xs := by
 refine ⟨hown.1, ?_⟩
 rcases hown.2 with h | ⟨g, cap, cur, rfl, hB, hg, r⟩
 · exact .inl h
 · refine .inr ⟨g, cap, cur, rfl, hB, ?_, r⟩
   rw [Below.heap_setCell _ _ _ _ (by simp [Value.ownBlock] at hne; exact hne)]
   exact hg
theorem heap_put {w : World} {b : Nat} {cs : Array Value} {T : TypeId} (h : w.heap[b]? = some (.cells cs T (0, 0))) (i : Nat) (u : Value) : (w.setCell ⟨b, i, none⟩ u).heap[b]? = some (.cells (cs.setIfInBounds i u) T (0, 0)) := Blk.put h i u
theorem others_fr {W W' : World} {B b : Nat} {dv : Value} (hb : Below B W W') (h : Lib.OthersKept 5 (some b) W W') : Fr W W' B b dv dv :=
 ⟨hb, fun k o ho hne _ hu => h k o ho (by simpa using hne) hu, fun _ h => .inl h⟩

theorem check_any {W : World} {B b : Nat} {dv : Value} {out : List UInt8} {ds : List DocV} (h : Wr W B b dv out ds) :
 Calls Tryz.prog 102 #[.pointer (some ⟨b, 0, none⟩)] W fun e w' => e = .returned (.tuple #[]) ∧ ∃ v, WrU w' B b v dv out ds ∧ Below B W w' ∧ Lib.OthersKept 5 (some b) W w' := by
 obtain ⟨hB, ⟨v, p, hbk, hp, hown⟩, hdn, hdat, hds⟩ := h
 rcases hp with rfl | rfl
 · refine (check_fresh b W (by rw [Lib.cell_of_heap hbk]; rfl) (by simp [World.shape?, hbk]) (by simp [World.frozen?, hbk])).mono ?_
   rintro e w' ⟨rfl, rfl⟩
   refine ⟨rfl, v, ⟨hB, heap_put hbk 0 _, row_set hown (row_ne hown hbk (by decide)) 0 _, row_set hdn (row_ne hdn hbk (by decide)) 0 _, fun r hr => ?_, hds⟩, (Below.refl B W).setCell (p := ⟨b, 0, none⟩) hB _, (Lib.OthersKept.refl _ _ W).setCell ⟨b, 0, none⟩ rfl _⟩
   obtain ⟨d, hd⟩ := hdat r hr
   exact ⟨d, hd.keep fun _ _ _ _ hs => hs.below ((Below.refl B W).setCell (p := ⟨b, 0, none⟩) hB _)⟩
 · refine (check_used b W (by rw [Lib.cell_of_heap hbk]; rfl)).mono ?_
   rintro e w' ⟨rfl, rfl⟩
   exact ⟨rfl, v, ⟨hB, hbk, hown, hdn, hdat, hds⟩, Below.refl B _, Lib.OthersKept.refl _ _ _⟩

theorem strCells_own (s : ByteArray) (bl : List UInt8) : (bl.map fun u => Value.int .u8 ((u.toNat : Nat) : Int)) ++ Lib.strCells s = ((bl ++ L s).map fun u => Value.int .u8 ((u.toNat : Nat) : Int)) := by
 rw [List.map_append]; rfl

set_option maxHeartbeats 2000000 in
set_option maxRecDepth 100000 in
theorem writeS {W : World} {B b : Nat} {dv : Value} {out : List UInt8} {ds : List DocV} (h : Wr W B b dv out ds) (s : ByteArray) (hlen : out.length + s.size ≤ 140737488355328) :
 Calls Tryz.prog 78 #[.pointer (some ⟨b, 0, none⟩), .string s] W fun e w' => e = .returned (.tuple #[.int .i64 s.size, .nilIface]) ∧ Wr w' B b dv (out ++ L s) ds ∧ Fr W w' B b dv dv := by
 obtain ⟨i0, hi, hz0, hz1, hz2⟩ := info_parts info8
 have CK := Lib.hid (check_any h)
 have hle := h.le
 clear h
 go_enter Tryz.func78, Tryz.ntmps78
 go_wp2_with fail
 refine CK.out.mono ?_
 rintro e w1 ⟨rfl, v, ⟨hB, hbk, hown, hdn, hdat, hds⟩, hb1, hk1⟩
 have hw1 : W.heap.size ≤ w1.heap.size := hb1.size
 have c0 : w1.cell? ⟨b, 0, none⟩ = some (.pointer (some ⟨b, 0, none⟩)) := by rw [Lib.cell_of_heap hbk]; rfl
 have c1 : w1.cell? ⟨b, 1, none⟩ = some v := by rw [Lib.cell_of_heap hbk]; rfl
 have HB := Lib.hid hbk
 have HO := Lib.hid hown
 have HD := Lib.hid hdn
 have HDT := Lib.hid hdat
 have HB1 := Lib.hid hb1
 have HK1 := Lib.hid hk1
 clear hbk hown hdn hdat hb1 hk1
 go_wp2_with (at_builtin; refine Lib.wpList_append_own_string _ rfl _ _ 76 9 rfl B 5 i0 Tryz.underlying76 Tryz.underlying9 hi hz0 hz1 hz2 _ _ _ rfl HO.out s rfl ?c3 ?c4 ?c5 ?_)
 case c3 => unfold maxLen; omega
 case c4 => omega
 case c5 => omega
 intro v' w2 hown' hgrow _
 have hlt : b < w1.heap.size := (Array.getElem?_eq_some_iff.1 HB.out).1
 have hne := row_ne HO.out HB.out (by decide)
 have hb2 : w2.heap[b]? = some (.cells #[.pointer (some ⟨b, 0, none⟩), v, dv] 84 (0, 0)) := by
  rw [hgrow.block b hlt (fun e => hne e.symm)]
  exact HB.out
 have hdn2 : w2.ownsRow B 31 4 dv ds.length (ds.flatMap docCells) := HD.out.kept hgrow (by
  rcases HO.out.2 with ⟨hv, _⟩ | ⟨g, cap, cur, hv, _, hg, _⟩
  · rcases HD.out.2 with ⟨hd, _⟩ | ⟨g2, _, _, hd, _⟩
    · left; rw [hd]; rfl
    · right; rw [hv, hd]; simp [Value.ownBlock]
  · right; rw [hv]; exact row_ne HD.out hg (by decide))
 have d1 : w2.cell? ⟨b, 1, none⟩ = some v := by rw [Lib.cell_of_heap hb2]; rfl
 have f1 : w2.frozen? ⟨b, 1, none⟩ = false := Lib.frozen_of_heap hb2 1
 obtain ⟨ao, n', cap, rfl⟩ : ∃ ao n' cap, v' = .slice ao n' cap := by
  obtain ⟨a, c, e⟩ := own_shape hown'
  exact ⟨_, _, _, e⟩
 have hbl2 : Below B w1 w2 := (Below.refl B w1).grown hgrow (by omega) (fun k hk => (HO.out.lt k hk).1)
 have HB2 := Lib.hid hb2
 have HO2 := Lib.hid hown'
 have HD2 := Lib.hid hdn2
 have HG := Lib.hid hgrow
 have HBL := Lib.hid hbl2
 clear hb2 hown' hdn2 hgrow hne hbl2
 go_wp2
 go_ret2
 have hs2 := (Below.refl B w2).setCell (p := ⟨b, 1, none⟩) hB (Value.slice ao n' cap)
 refine ⟨rfl, ⟨hB, ⟨.slice ao n' cap, _, heap_put HB2.out 1 _, .inr rfl, ?_⟩, row_set HD2.out (row_ne HD2.out HB2.out (by decide)) 1 _, fun r hr => ?_, by rw [List.length_append]; omega⟩, others_fr ((HB1.out.trans HBL.out).trans hs2) ((HK1.out.grown HG.out ?_).setCell ⟨b, 1, none⟩ rfl _)⟩
 · have h1 := row_set HO2.out (row_ne HO2.out HB2.out (by decide)) 1 (Value.slice ao n' cap)
   rw [strCells_own] at h1
   have e : (out ++ L s).length = out.length + s.size := by rw [List.length_append, L_size]
   unfold OwnB
   rw [e]
   exact h1
 · obtain ⟨d, hd⟩ := HDT.out r hr
   exact ⟨d, hd.keep fun _ _ _ _ hs => hs.below (HBL.out.trans hs2)⟩
 · intro g hg
   rcases HO.out.2 with ⟨hv, _⟩ | ⟨g', cap, cur, hv, _, hgg, _⟩
   · rw [hv] at hg; simp [Value.ownBlock] at hg
   · rw [hv] at hg; simp [Value.ownBlock] at hg; subst hg; exact ⟨cur, _, hgg⟩

set_option maxHeartbeats 2000000 in
set_option maxRecDepth 100000 in
theorem writeB {W : World} {B b : Nat} {dv : Value} {out : List UInt8} {ds : List DocV} (h : Wr W B b dv out ds) (c : UInt8) (hlen : out.length + 1 ≤ 140737488355328) :
 Calls Tryz.prog 81 #[.pointer (some ⟨b, 0, none⟩), .int .u8 ((c.toNat : Nat) : Int)] W fun e w' => e = .returned .nilIface ∧ Wr w' B b dv (out ++ [c]) ds ∧ Fr W w' B b dv dv := by
 obtain ⟨i0, hi, hz0, hz1, hz2⟩ := info_parts info8
 have CK := Lib.hid (check_any h)
 have hle := h.le
 clear h
 go_enter Tryz.func81, Tryz.ntmps81
 go_wp2_with fail
 refine CK.out.mono ?_
 rintro e w1 ⟨rfl, v, ⟨hB, hbk, hown, hdn, hdat, hds⟩, hb1, hk1⟩
 have hw1 : W.heap.size ≤ w1.heap.size := hb1.size
 have c0 : w1.cell? ⟨b, 0, none⟩ = some (.pointer (some ⟨b, 0, none⟩)) := by rw [Lib.cell_of_heap hbk]; rfl
 have c1 : w1.cell? ⟨b, 1, none⟩ = some v := by rw [Lib.cell_of_heap hbk]; rfl
 have HB := Lib.hid hbk
 have HO := Lib.hid hown
 have HD := Lib.hid hdn
 have HDT := Lib.hid hdat
 have HB1 := Lib.hid hb1
 have HK1 := Lib.hid hk1
 clear hbk hown hdn hdat hb1 hk1
 go_wp2_with (at_builtin; refine append_byte_lies (v := v) rfl _ _ rfl rfl (HO.out.alloc _) c rfl (cell_new _ _ _) (by omega) (by simp; omega) ?_)
 intro g cap w2 hown' hgrow hg
 have hlt : b < w1.heap.size := (Array.getElem?_eq_some_iff.1 HB.out).1
 have hne := row_ne HO.out HB.out (by decide)
 have hb1' : (w1.alloc (.cells #[.int .u8 ((c.toNat : Nat) : Int)] 5)).heap[b]? = some (.cells #[.pointer (some ⟨b, 0, none⟩), v, dv] 84 (0, 0)) := (Lib.alloc_old w1 _ b hlt).trans HB.out
 have hb2 : w2.heap[b]? = some (.cells #[.pointer (some ⟨b, 0, none⟩), v, dv] 84 (0, 0)) := by
  rw [hgrow.block b (by simp; omega) (fun e => hne e.symm)]
  exact hb1'
 have hdn2 : w2.ownsRow B 31 4 dv ds.length (ds.flatMap docCells) := (HD.out.alloc _).kept hgrow (by
  rcases HO.out.2 with ⟨hv, _⟩ | ⟨g, cap, cur, hv, _, hg, _⟩
  · rcases HD.out.2 with ⟨hd, _⟩ | ⟨g2, _, _, hd, _⟩
    · left; rw [hd]; rfl
    · right; rw [hv, hd]; simp [Value.ownBlock]
  · right; rw [hv]; exact row_ne HD.out hg (by decide))
 have d1 : w2.cell? ⟨b, 1, none⟩ = some v := by rw [Lib.cell_of_heap hb2]; rfl
 have f1 : w2.frozen? ⟨b, 1, none⟩ = false := Lib.frozen_of_heap hb2 1
 have hbl2 : Below B w1 w2 := ((Below.refl B w1).alloc (by omega) _).grown hgrow (by simp; omega) (fun k hk => (HO.out.lt k hk).1)
 have hkk : Lib.OthersKept 5 (some b) W w2 := (HK1.out.alloc _).grown hgrow (by
  intro g hg
  rcases HO.out.2 with ⟨hv, _⟩ | ⟨g', cap, cur, hv, _, hgg, _⟩
  · rw [hv] at hg; simp [Value.ownBlock] at hg
  · rw [hv] at hg; simp [Value.ownBlock] at hg; subst hg
    exact ⟨cur, _, (Lib.alloc_old w1 _ _ (Array.getElem?_eq_some_iff.1 hgg).1).trans hgg⟩)
 have HB2 := Lib.hid hb2
 have HO2 := Lib.hid hown'
 have HD2 := Lib.hid hdn2
 have HBL := Lib.hid hbl2
 have HKK := Lib.hid hkk
 clear hb2 hown' hdn2 hgrow hne hbl2 hkk hg hb1'
 go_wp2
 go_ret
 have hs2 := (Below.refl B w2).setCell (p := ⟨b, 1, none⟩) hB (Value.slice (some ⟨g, 0, none⟩) (out.length + 1) cap)
 refine ⟨rfl, ⟨hB, ⟨.slice (some ⟨g, 0, none⟩) (out.length + 1) cap, _, heap_put HB2.out 1 _, .inr rfl, ?_⟩, row_set HD2.out (row_ne HD2.out HB2.out (by decide)) 1 _, fun r hr => ?_, by rw [List.length_append]; omega⟩, others_fr ((HB1.out.trans HBL.out).trans hs2) (HKK.out.setCell ⟨b, 1, none⟩ rfl _)⟩
 · exact row_set HO2.out (row_ne HO2.out HB2.out (by decide)) 1 _
 · obtain ⟨d, hd⟩ := HDT.out r hr
   exact ⟨d, hd.keep fun _ _ _ _ hs => hs.below (HBL.out.trans hs2)⟩

set_option maxHeartbeats 2000000 in
set_option maxRecDepth 100000 in
theorem writeBD {W : World} {B b : Nat} {dv : Value} {out : List UInt8} {ds : List DocV} (h : Wr W B b dv out ds) (c : UInt8) (hlen : out.length + 1 ≤ 140737488355328) (u : FrameMode) :
 CallsD Tryz.prog 81 #[.pointer (some ⟨b, 0, none⟩), .int .u8 ((c.toNat : Nat) : Int)] u W fun e u' w' => u' = u ∧ (e = .returned .nilIface ∧ Wr w' B b dv (out ++ [c]) ds ∧ Fr W w' B b dv dv) := by
 obtain ⟨i0, hi, hz0, hz1, hz2⟩ := info_parts info8
 have CK := Lib.hid (check_any h)
 have hle := h.le
 clear h
 go_enter_d Tryz.func81, Tryz.ntmps81
 go_wp2_with fail
 refine CK.out.mono ?_
 rintro e w1 ⟨rfl, v, ⟨hB, hbk, hown, hdn, hdat, hds⟩, hb1, hk1⟩
 have hw1 : W.heap.size ≤ w1.heap.size := hb1.size
 have c0 : w1.cell? ⟨b, 0, none⟩ = some (.pointer (some ⟨b, 0, none⟩)) := by rw [Lib.cell_of_heap hbk]; rfl
 have c1 : w1.cell? ⟨b, 1, none⟩ = some v := by rw [Lib.cell_of_heap hbk]; rfl
 have HB := Lib.hid hbk
 have HO := Lib.hid hown
 have HD := Lib.hid hdn
 have HDT := Lib.hid hdat
 have HB1 := Lib.hid hb1
 have HK1 := Lib.hid hk1
 clear hbk hown hdn hdat hb1 hk1
 go_wp2_with (at_builtin; refine append_byte_lies (v := v) rfl _ _ rfl rfl (HO.out.alloc _) c rfl (cell_new _ _ _) (by omega) (by simp; omega) ?_)
 intro g cap w2 hown' hgrow hg
 have hlt : b < w1.heap.size := (Array.getElem?_eq_some_iff.1 HB.out).1
 have hne := row_ne HO.out HB.out (by decide)
 have hb1' : (w1.alloc (.cells #[.int .u8 ((c.toNat : Nat) : Int)] 5)).heap[b]? = some (.cells #[.pointer (some ⟨b, 0, none⟩), v, dv] 84 (0, 0)) := (Lib.alloc_old w1 _ b hlt).trans HB.out
 have hb2 : w2.heap[b]? = some (.cells #[.pointer (some ⟨b, 0, none⟩), v, dv] 84 (0, 0)) := by
  rw [hgrow.block b (by simp; omega) (fun e => hne e.symm)]
  exact hb1'
 have hdn2 : w2.ownsRow B 31 4 dv ds.length (ds.flatMap docCells) := (HD.out.alloc _).kept hgrow (by
  rcases HO.out.2 with ⟨hv, _⟩ | ⟨g, cap, cur, hv, _, hg, _⟩
  · rcases HD.out.2 with ⟨hd, _⟩ | ⟨g2, _, _, hd, _⟩
    · left; rw [hd]; rfl
    · right; rw [hv, hd]; simp [Value.ownBlock]
  · right; rw [hv]; exact row_ne HD.out hg (by decide))
 have d1 : w2.cell? ⟨b, 1, none⟩ = some v := by rw [Lib.cell_of_heap hb2]; rfl
 have f1 : w2.frozen? ⟨b, 1, none⟩ = false := Lib.frozen_of_heap hb2 1
 have hbl2 : Below B w1 w2 := ((Below.refl B w1).alloc (by omega) _).grown hgrow (by simp; omega) (fun k hk => (HO.out.lt k hk).1)
 have hkk : Lib.OthersKept 5 (some b) W w2 := (HK1.out.alloc _).grown hgrow (by
  intro g hg
  rcases HO.out.2 with ⟨hv, _⟩ | ⟨g', cap, cur, hv, _, hgg, _⟩
  · rw [hv] at hg; simp [Value.ownBlock] at hg
  · rw [hv] at hg; simp [Value.ownBlock] at hg; subst hg
    exact ⟨cur, _, (Lib.alloc_old w1 _ _ (Array.getElem?_eq_some_iff.1 hgg).1).trans hgg⟩)
 have HB2 := Lib.hid hb2
 have HO2 := Lib.hid hown'
 have HD2 := Lib.hid hdn2
 have HBL := Lib.hid hbl2
 have HKK := Lib.hid hkk
 clear hb2 hown' hdn2 hgrow hne hbl2 hkk hg hb1'
 go_wp2
 go_ret
 have hs2 := (Below.refl B w2).setCell (p := ⟨b, 1, none⟩) hB (Value.slice (some ⟨g, 0, none⟩) (out.length + 1) cap)
 refine ⟨rfl, ⟨hB, ⟨.slice (some ⟨g, 0, none⟩) (out.length + 1) cap, _, heap_put HB2.out 1 _, .inr rfl, ?_⟩, row_set HD2.out (row_ne HD2.out HB2.out (by decide)) 1 _, fun r hr => ?_, by rw [List.length_append]; omega⟩, others_fr ((HB1.out.trans HBL.out).trans hs2) (HKK.out.setCell ⟨b, 1, none⟩ rfl _)⟩
 · exact row_set HO2.out (row_ne HO2.out HB2.out (by decide)) 1 _
 · obtain ⟨d, hd⟩ := HDT.out r hr
   exact ⟨d, hd.keep fun _ _ _ _ hs => hs.below (HBL.out.trans hs2)⟩

set_option maxHeartbeats 2000000 in
set_option maxRecDepth 100000 in
theorem string_any {W : World} {B b : Nat} {dv : Value} {l : List UInt8} {ds : List DocV} (h : Wr W B b dv l ds) (h0 : l ≠ []) :
 Calls Tryz.prog 49 #[.pointer (some ⟨b, 0, none⟩)] W fun e w' => e = .returned (.string (S l)) ∧ Below B W w' := by
 obtain ⟨hB, ⟨v, p, hbk, _, hown⟩, _, _⟩ := h
 have hl0 : l.length ≠ 0 := by simpa using h0
 obtain ⟨g, cap, cur, rfl, hbg, hg, hnc, hcm, hcs, htake⟩ : ∃ g cap cur, v = .slice (some ⟨g, 0, none⟩) l.length cap ∧ B ≤ g ∧ W.heap[g]? = some (.cells cur 5 (0, 0)) ∧ l.length ≤ cap ∧ cap ≤ maxLen ∧ cur.size = cap * 1 ∧ cur.toList.take (l.length * 1) = l.map fun u => Value.int .u8 ((u.toNat : Nat) : Int) := by
  rcases hown.2 with ⟨_, hz⟩ | ⟨g, cap, cur, hv, r⟩
  · exact absurd hz hl0
  · exact ⟨g, cap, cur, hv, r⟩
 have c1 : W.drew.cell? ⟨b, 1, none⟩ = some (.slice (some ⟨g, 0, none⟩) l.length cap) := by
  have : W.drew.heap[b]? = some (.cells #[p, .slice (some ⟨g, 0, none⟩) l.length cap, dv] 84 (0, 0)) := hbk
  rw [Lib.cell_of_heap this]; rfl
 have hSD : (Builtin.unsafeSliceData_ #[76] 107 #[.slice (some ⟨g, 0, none⟩) l.length cap]).run Tryz.prog W.drew = .ok (.pointer (some ⟨g, 0, none⟩)) W.drew :=
  Lib.run_unsafeSliceData_row _ _ _ _ _ _ (by omega)
 have hUS : (Builtin.unsafeString_ #[107, 3] 9 #[.pointer (some ⟨g, 0, none⟩), .int .i64 l.length]).run Tryz.prog W.drew = .ok (.string ⟨l.toArray⟩) (W.drew.freeze ⟨g, 0, none⟩ l.length) := by
  refine Lib.run_unsafeString_row W.drew 107 3 9 5 Tryz.underlying107 (by kernel_rfl) g cur.size (by have hg' : W.drew.heap[g]? = some (.cells cur 5 (0, 0)) := hg; simp [World.shape?, hg']) l h0 (by omega) (by unfold maxLen at hcm; omega) ?_
  intro j x hx
  exact hown.cells (g := g) rfl j (.int .u8 x.toNat) (by simp [hx])
 clear hown hg hcs htake hbk
 go_enter Tryz.func49, Tryz.ntmps49
 go_wp2
 go_region
 all_goals (go_wp2; go_ret; exact ⟨rfl, Lib.below_freeze (Below.drew (Below.refl B W)) (p := ⟨g, 0, none⟩) hbg _⟩)
end Go.Proofs.YtnackmnoldkihaaGreatDoor
namespace Go.Proofs.YtnackmnoldkihaaGreatDoor
open Go.RowKit

/-- What has been written; the here-documents that come. -/
abbrev St := List UInt8 × List Rd
def lim : Nat := 1099511627776
def putS (s : St) (t : List UInt8) : St := (s.1 ++ t, s.2)
/-- A here-document, its tag behind it. -/
def docW (r : Rd) : List UInt8 := docL r.word ++ L r.tag ++ [10]
def lineS (s : St) : St := (s.1 ++ 10 :: s.2.flatMap docW, [])
/-- A text between single quotes. -/
def quoL (l : List UInt8) : List UInt8 := 39 :: ((l.flatMap fun c => if c = 39 then [39, 92, 39, 39] else [c]) ++ [39])
def paramS (ww : St → List Pt → St) (s : St) (p : Pt) : St :=
 bif (L p.op).isEmpty then putS s ([36, 123] ++ L p.text ++ [125]) else bif L p.op == [108, 101, 110] then putS s ([36, 123, 35] ++ L p.text ++ [125]) else putS (ww (putS s ([36, 123] ++ L p.text ++ L p.op)) p.word) [125]
def coreS (ww : St → List Pt → St) (wl : St → List Nd → St) (s : St) (p : Pt) : St :=
 bif p.kind == 2 then paramS ww s p else bif p.kind == 3 then ((wl (s.1 ++ [36, 40, 10], []) p.body).1 ++ [41], s.2) else putS s ([36, 40, 40] ++ L p.text ++ [41, 41])
def partS (ww : St → List Pt → St) (wl : St → List Nd → St) (s : St) (p : Pt) : St :=
 bif p.kind == 1 then putS s (bif p.quoted then quoL (L p.text) else L p.text) else bif p.quoted then putS (coreS ww wl (putS s [34]) p) [34] else coreS ww wl s p
def nextS (s : St) (blank : Bool) : St := bif blank then putS s [32] else s
/-- A number of one digit. -/
def fdL (n : Int) : List UInt8 := [UInt8.ofNat (48 + n.toNat)]
def redirS (wd : St → List Pt → St) (s : St) (r : Rd) : St :=
 bif L r.op == [60, 60] then ((putS (putS s (fdL r.fd ++ L r.op)) (bif litrB r.word then 39 :: (L r.tag ++ [39]) else L r.tag)).1, s.2 ++ [r]) else wd (putS s (fdL r.fd ++ L r.op)) r.word
def redirsS (wd : St → List Pt → St) : St → List Rd → Bool → St
 | s, [], _ => s
 | s, r :: l, blank => redirsS wd (redirS wd (nextS s blank) r) l true
def assignsS (wd : St → List Pt → St) : St → List As → Bool → St
 | s, [], _ => s
 | s, a :: l, blank => assignsS wd (wd (putS (nextS s blank) (L a.name ++ [61])) a.word) l true
def wordsS (wd : St → List Pt → St) : St → List (List Pt) → Bool → St
 | s, [], _ => s
 | s, y :: l, blank => wordsS wd (wd (nextS s blank) y) l true
def simpleS (wd : St → List Pt → St) (s : St) (x : Nd) : St :=
 redirsS wd (wordsS wd (assignsS wd s x.assigns false) x.words (!x.assigns.isEmpty)) x.redirs (!(x.assigns.isEmpty && x.words.isEmpty))
def blockS (ls : St → List Nd → St) (s : St) (head : List UInt8) (l : List Nd) : St := ls (lineS (putS s head)) l
def oneS (nd : St → Nd → St) (s : St) (l : List Nd) : St := match l with | [] => s | x :: _ => nd s x
def joinS (nd : St → Nd → St) (sign : List UInt8) : St → List (List Nd) → Bool → St
 | s, [], _ => s
 | s, y :: l, more => joinS nd sign (oneS nd (bif more then putS s sign else s) y) l true
def barsS (wd : St → List Pt → St) : St → List (List Pt) → Bool → St
 | s, [], _ => s
 | s, y :: l, more => barsS wd (wd (bif more then putS s [32, 124, 32] else s) y) l true
def armS (wd : St → List Pt → St) (ls : St → List Nd → St) (s : St) (a : Ar) : St :=
 lineS (putS (blockS ls (barsS wd (putS s [40]) a.words false) [41] a.body) [59, 59])
def firstW (x : Nd) : List Pt := match x.words with | [] => [] | y :: _ => y
def listAt (x : Nd) (k : Nat) : List Nd := x.lists.getD k []
def caseS (wd : St → List Pt → St) (ls : St → List Nd → St) (s : St) (x : Nd) : St :=
 putS (x.arms.foldl (armS wd ls) (lineS (putS (wd (putS s [99, 97, 115, 101, 32]) (firstW x)) [32, 105, 110]))) [101, 115, 97, 99]
def compS (wd : St → List Pt → St) (ls : St → List Nd → St) (s : St) (x : Nd) : St :=
 bif x.kind == 6 then putS (bif decide (2 < x.lists.length) then blockS ls (blockS ls (blockS ls s [105, 102] (listAt x 0)) [116, 104, 101, 110] (listAt x 1)) [101, 108, 115, 101] (listAt x 2) else blockS ls (blockS ls s [105, 102] (listAt x 0)) [116, 104, 101, 110] (listAt x 1)) [102, 105] else
 bif x.kind == 7 then putS (blockS ls (blockS ls s [119, 104, 105, 108, 101] (listAt x 0)) [100, 111] (listAt x 1)) [100, 111, 110, 101] else
 bif x.kind == 8 then putS (blockS ls (blockS ls s [117, 110, 116, 105, 108] (listAt x 0)) [100, 111] (listAt x 1)) [100, 111, 110, 101] else
 bif x.kind == 9 then putS (blockS ls (lineS (wordsS wd (putS s ([102, 111, 114, 32] ++ L x.name ++ [32, 105, 110])) x.words true)) [100, 111] (listAt x 0)) [100, 111, 110, 101] else
 bif x.kind == 10 then caseS wd ls s x else
 bif x.kind == 12 then putS (blockS ls s [40] (listAt x 0)) [41] else putS (blockS ls s [123] (listAt x 0)) [125]
def bodyS (wd : St → List Pt → St) (ls : St → List Nd → St) (nd : St → Nd → St) (s : St) (x : Nd) : St :=
 bif x.kind == 2 then joinS nd [32, 124, 32] s x.lists false else
 bif x.kind == 3 then joinS nd [32, 38, 38, 32] s x.lists false else
 bif x.kind == 4 then joinS nd [32, 124, 124, 32] s x.lists false else
 bif x.kind == 5 then oneS nd (putS s [33, 32]) (listAt x 0) else
 bif x.kind == 11 then oneS nd (putS s (L x.name ++ [40, 41, 32])) (listAt x 0) else compS wd ls s x
def nodeS (wd : St → List Pt → St) (ls : St → List Nd → St) (nd : St → Nd → St) (s : St) (x : Nd) : St :=
 bif x.kind == 1 then simpleS wd s x else redirsS wd (bodyS wd ls nd s x) x.redirs true
/-- word, list, node, at every depth. -/
def levS : Nat → (St → List Pt → St) × (St → List Nd → St) × (St → Nd → St)
 | 0 => (fun s _ => s, fun s _ => s, nodeS (fun s _ => s) (fun s _ => s) fun s _ => s)
 | d + 1 => (fun s l => l.foldl (partS (levS d).1 (levS d).2.1) s, fun s l => l.foldl (fun s x => lineS ((levS d).2.2 s x)) s,
     nodeS (fun s l => l.foldl (partS (levS d).1 (levS d).2.1) s) (fun s l => l.foldl (fun s x => lineS ((levS d).2.2 s x)) s) (levS d).2.2)
def showL (d : Nat) (l : List Nd) : List UInt8 := ((levS d).2.1 ([], []) l).1

/-! ### what a walk wants of a command -/
def partF (fw : List Pt → Bool) (fl : List Nd → Bool) (p : Pt) : Bool := fw p.word && fl p.body
def redirF (fw : List Pt → Bool) (r : Rd) : Bool := (decide (0 ≤ r.fd) && decide (r.fd ≤ 9)) && fw r.word
def shapeF (x : Nd) : Bool :=
 bif x.kind == 1 then true else bif (x.kind == 2 || x.kind == 3) || x.kind == 4 then x.lists.all (fun l => !l.isEmpty) else bif x.kind == 5 || x.kind == 11 then (match x.lists with | [] => false | y :: _ => !y.isEmpty) else
 bif x.kind == 6 || (x.kind == 7 || x.kind == 8) then decide (2 ≤ x.lists.length) else bif x.kind == 10 then !x.words.isEmpty else decide (1 ≤ x.lists.length)
def nodeF (fw : List Pt → Bool) (fl : List Nd → Bool) (fn : Nd → Bool) (x : Nd) : Bool :=
 shapeF x && (x.assigns.all (fun a => fw a.word) && (x.words.all fw && (x.redirs.all (redirF fw) && (x.lists.all fl && (x.lists.all (fun l => l.all fn) && x.arms.all (fun a => a.words.all fw && fl a.body))))))
def levF : Nat → (List Pt → Bool) × (List Nd → Bool) × (Nd → Bool)
 | 0 => (fun _ => true, fun _ => true, nodeF (fun _ => true) (fun _ => true) fun _ => true)
 | d + 1 => (fun l => l.all (partF (levF d).1 (levF d).2.1), fun l => l.all (levF d).2.2, nodeF (fun l => l.all (partF (levF d).1 (levF d).2.1)) (fun l => l.all (levF d).2.2) (levF d).2.2)

/-! ### it only grows -/
def Grow2 {α : Type} (f : St → α → St) : Prop := ∀ s x, s.1.length ≤ (f s x).1.length
theorem putS_grow (s : St) (t : List UInt8) : s.1.length ≤ (putS s t).1.length := by simp [putS]
theorem lineS_grow (s : St) : s.1.length ≤ (lineS s).1.length := by simp [lineS]
theorem fold_grow {α : Type} {f : St → α → St} (h : Grow2 f) (l : List α) (s : St) : s.1.length ≤ (l.foldl f s).1.length := by
 induction l generalizing s with
 | nil => exact Nat.le_refl _
 | cons x l ih => exact Nat.le_trans (h s x) (ih (f s x))
theorem nextS_grow (s : St) (b : Bool) : s.1.length ≤ (nextS s b).1.length := by cases b <;> simp [nextS, putS]
section
variable {wd : St → List Pt → St} {ls : St → List Nd → St} {nd : St → Nd → St} (hw : Grow2 wd) (hl : Grow2 ls) (hn : Grow2 nd)
include hw
theorem paramS_grow : Grow2 (paramS wd) := fun s p => by
 rw [paramS]
 cases (L p.op).isEmpty
 · cases L p.op == [108, 101, 110]
   · exact Nat.le_trans (putS_grow s _) (Nat.le_trans (hw _ _) (putS_grow _ _))
   · exact putS_grow s _
 · exact putS_grow s _
theorem redirS_grow : Grow2 (redirS wd) := fun s r => by
 rw [redirS]
 cases L r.op == [60, 60]
 · exact Nat.le_trans (putS_grow s _) (hw _ _)
 · exact Nat.le_trans (putS_grow s _) (putS_grow _ _)
theorem redirsS_grow (l : List Rd) : ∀ (s : St) (b : Bool), s.1.length ≤ (redirsS wd s l b).1.length := by
 induction l with
 | nil => exact fun s b => Nat.le_refl _
 | cons r l ih => exact fun s b => Nat.le_trans (nextS_grow s b) (Nat.le_trans (redirS_grow hw _ r) (ih _ _))
theorem assignsS_grow (l : List As) : ∀ (s : St) (b : Bool), s.1.length ≤ (assignsS wd s l b).1.length := by
 induction l with
 | nil => exact fun s b => Nat.le_refl _
 | cons r l ih => exact fun s b => Nat.le_trans (nextS_grow s b) (Nat.le_trans (putS_grow _ _) (Nat.le_trans (hw _ _) (ih _ _)))
theorem wordsS_grow (l : List (List Pt)) : ∀ (s : St) (b : Bool), s.1.length ≤ (wordsS wd s l b).1.length := by
 induction l with
 | nil => exact fun s b => Nat.le_refl _
 | cons r l ih => exact fun s b => Nat.le_trans (nextS_grow s b) (Nat.le_trans (hw _ _) (ih _ _))
theorem barsS_grow (l : List (List Pt)) : ∀ (s : St) (b : Bool), s.1.length ≤ (barsS wd s l b).1.length := by
 induction l with
 | nil => exact fun s b => Nat.le_refl _
 | cons r l ih => exact fun s b => Nat.le_trans (by cases b <;> simp [putS]) (Nat.le_trans (hw _ _) (ih _ _))
theorem simpleS_grow : Grow2 (simpleS wd) := fun s x =>
 Nat.le_trans (assignsS_grow hw _ _ _) (Nat.le_trans (wordsS_grow hw _ _ _) (redirsS_grow hw _ _ _))
omit hw
include hl
theorem blockS_grow (head : List UInt8) : ∀ s l, s.1.length ≤ (blockS ls s head l).1.length := fun s l => Nat.le_trans (putS_grow s head) (Nat.le_trans (lineS_grow _) (hl _ _))
include hw
theorem coreS_grow : Grow2 (coreS wd ls) := fun s p => by
 rw [coreS]
 cases p.kind == 2
 · cases p.kind == 3
   · exact putS_grow s _
   · refine Nat.le_trans ?_ (Nat.le_trans (hl (s.1 ++ [36, 40, 10], []) p.body) ?_) <;> simp
 · exact paramS_grow hw s p
theorem partS_grow : Grow2 (partS wd ls) := fun s p => by
 rw [partS]
 cases p.kind == 1
 · cases p.quoted
   · exact coreS_grow hw hl s p
   · exact Nat.le_trans (putS_grow s _) (Nat.le_trans (coreS_grow hw hl _ p) (putS_grow _ _))
 · exact putS_grow s _
theorem armS_grow : Grow2 (armS wd ls) := fun s a =>
 Nat.le_trans (putS_grow s _) (Nat.le_trans (barsS_grow hw _ _ _) (Nat.le_trans (blockS_grow hl _ _ _) (Nat.le_trans (putS_grow _ _) (lineS_grow _))))
theorem caseS_grow : Grow2 (caseS wd ls) := fun s x =>
 Nat.le_trans (putS_grow s _) (Nat.le_trans (hw _ _) (Nat.le_trans (putS_grow _ _) (Nat.le_trans (lineS_grow _) (Nat.le_trans (fold_grow (armS_grow hw hl) _ _) (putS_grow _ _)))))
theorem compS_grow : Grow2 (compS wd ls) := fun s x => by
 have b := fun h => blockS_grow (ls := ls) hl h
 rw [compS]
 cases x.kind == 6
 · cases x.kind == 7
   · cases x.kind == 8
     · cases x.kind == 9
       · cases x.kind == 10
         · cases x.kind == 12 <;> exact Nat.le_trans (b _ _ _) (putS_grow _ _)
         · exact caseS_grow hw hl s x
       · exact Nat.le_trans (putS_grow s _) (Nat.le_trans (wordsS_grow hw _ _ _) (Nat.le_trans (lineS_grow _) (Nat.le_trans (b _ _ _) (putS_grow _ _))))
     · exact Nat.le_trans (b _ _ _) (Nat.le_trans (b _ _ _) (putS_grow _ _))
   · exact Nat.le_trans (b _ _ _) (Nat.le_trans (b _ _ _) (putS_grow _ _))
 · cases decide (2 < x.lists.length)
   · exact Nat.le_trans (b _ _ _) (Nat.le_trans (b _ _ _) (putS_grow _ _))
   · exact Nat.le_trans (b _ _ _) (Nat.le_trans (b _ _ _) (Nat.le_trans (b _ _ _) (putS_grow _ _)))
omit hw hl
include hn
theorem oneS_grow : Grow2 (oneS nd) := fun s l => by
 cases l with
 | nil => exact Nat.le_refl _
 | cons x r => exact hn s x
theorem joinS_grow (sign : List UInt8) (l : List (List Nd)) : ∀ (s : St) (b : Bool), s.1.length ≤ (joinS nd sign s l b).1.length := by
 induction l with
 | nil => exact fun s b => Nat.le_refl _
 | cons r l ih => exact fun s b => Nat.le_trans (by cases b <;> simp [putS]) (Nat.le_trans (oneS_grow hn _ _) (ih _ _))
include hw hl
theorem bodyS_grow : Grow2 (bodyS wd ls nd) := fun s x => by
 rw [bodyS]
 cases x.kind == 2
 · cases x.kind == 3
   · cases x.kind == 4
     · cases x.kind == 5
       · cases x.kind == 11
         · exact compS_grow hw hl s x
         · exact Nat.le_trans (putS_grow s _) (oneS_grow hn _ _)
       · exact Nat.le_trans (putS_grow s _) (oneS_grow hn _ _)
     · exact joinS_grow hn _ _ _ _
   · exact joinS_grow hn _ _ _ _
 · exact joinS_grow hn _ _ _ _
theorem nodeS_grow : Grow2 (nodeS wd ls nd) := fun s x => by
 rw [nodeS]
 cases x.kind == 1
 · exact Nat.le_trans (bodyS_grow hw hl hn s x) (redirsS_grow hw _ _ _)
 · exact simpleS_grow hw s x
end
theorem levS_grow : ∀ d, Grow2 (levS d).1 ∧ Grow2 (levS d).2.1 ∧ Grow2 (levS d).2.2
 | 0 => ⟨fun _ _ => Nat.le_refl _, fun _ _ => Nat.le_refl _, nodeS_grow (fun _ _ => Nat.le_refl _) (fun _ _ => Nat.le_refl _) fun _ _ => Nat.le_refl _⟩
 | d + 1 => by
   obtain ⟨h1, h2, h3⟩ := levS_grow d
   have hw : Grow2 (levS (d + 1)).1 := fun s l => fold_grow (partS_grow h1 h2) l s
   have hl : Grow2 (levS (d + 1)).2.1 := fun s l => fold_grow (fun s x => Nat.le_trans (h3 s x) (lineS_grow _)) l s
   exact ⟨hw, hl, nodeS_grow hw hl h3⟩
end Go.Proofs.YtnackmnoldkihaaGreatDoor
