/-
  The document's Text, a level on.
-/
import Derived.Test.YtnackmnoldkihaaGreatDoorW31
import Derived.Test.YtnackmnoldkihaaGreatDoorW14
import Derived.Test.YtnackmnoldkihaaGreatDoorW21
import Derived.Deep.RegionHeld3
set_option linter.unusedVariables false
set_option linter.unusedSimpArgs false
/-
  The document's writer: a text and the here-documents that come, by value; its box.
-/
namespace Go.Proofs.YtnackmnoldkihaaGreatDoor
open Go.RowKit

/-- The here-documents that come lie in the slice dv, a row of the call's own. -/
def RW (W : World) (B : Nat) (dv : Value) (out : List UInt8) (ds : List DocV) : Prop :=
 W.ownsRow B 100 4 dv ds.length (ds.flatMap docCells) ∧ (∀ r ∈ ds, ∃ d, RdC W B d r.1 (docCells r)) ∧ (ds.length ≤ out.length ∧ (ds = [] → dv = .slice none 0 0)) ∧ B ≤ W.heap.size
/-- The state that a call hands back. -/
def RS (W : World) (B : Nat) (s : St) (e : Ending) (W' : World) : Prop :=
 ∃ dv ds, e = .returned (.agg #[.string (S s.1), dv]) ∧ ds.map (·.1) = s.2 ∧ RW W' B dv s.1 ds ∧ Below W.heap.size W W'
section
variable {W W' : World} {B : Nat} {dv : Value} {out : List UInt8} {ds : List DocV}
theorem RW.nil (hB : B ≤ W.heap.size) (out : List UInt8) : RW W B (.slice none 0 0) out [] := ⟨World.ownsRow_nil _ _ _ _, by simp, ⟨Nat.zero_le _, fun _ => rfl⟩, hB⟩
theorem RW.below (h : RW W B dv out ds) (hb : Below W.heap.size W W') : RW W' B dv out ds := by
 obtain ⟨h1, h2, h3, h4⟩ := h
 exact ⟨own_below h1 hb, fun r hr => by
  obtain ⟨d, hd⟩ := h2 r hr
  exact ⟨d, hd.keep fun _ _ _ _ hs => hs.below (hb.mono h4)⟩, h3, Nat.le_trans h4 hb.size⟩
theorem RW.shape (h : RW W B dv out ds) : ∃ a cap, dv = .slice a ds.length cap := own_shape h.1
theorem RW.one (h : RW W B dv out ds) : ∀ u ∈ ds.flatMap docCells, u.oneCell' = true := by
 intro u hu
 obtain ⟨r, hr, hu⟩ := List.mem_flatMap.1 hu
 obtain ⟨d, hd⟩ := h.2.1 r hr
 obtain ⟨a, c, e, _⟩ := hd.open
 rw [e] at hu
 simp at hu
 rcases hu with rfl | rfl | rfl | rfl <;> rfl
/-- A here-document more. -/
theorem RW.push (h : RW W B dv out ds) {out' : List UInt8} (ho : ds.length < out'.length) {dv' : Value} {r : DocV} {d : Nat} {U : World} (hlow : Below B W U) (hsz : W.heap.size ≤ U.heap.size) (hr : RdC W B d r.1 (docCells r)) (hown : U.ownsRow B 100 4 dv' (ds.length + 1) (ds.flatMap docCells ++ docCells r)) : RW U B dv' out' (ds ++ [r]) := by
 obtain ⟨h1, h2, h3, h4⟩ := h
 refine ⟨by rw [List.length_append, List.flatMap_append]; simpa using hown, fun q hq => ?_, ⟨by rw [List.length_append]; simp; omega, fun e => by simp at e⟩, by omega⟩
 rcases List.mem_append.1 hq with hq | hq
 · obtain ⟨d, hd⟩ := h2 q hq
   exact ⟨d, hd.keep fun _ _ _ _ hs => hs.below hlow⟩
 · simp at hq
   subst hq
   exact ⟨d, hr.keep fun _ _ _ _ hs => hs.below hlow⟩
/-- A box is written. -/
theorem RW.put (h : RW W B dv out ds) {g : Nat} {t : TypeId} {cs : Array Value} (hk : Blk W g t cs) (ht : t ≠ 100) (hB : B ≤ g) (i : Nat) (u : Value) : RW (W.setCell ⟨g, i, none⟩ u) B dv out ds := by
 obtain ⟨h1, h2, h3, h4⟩ := h
 refine ⟨row_set h1 (row_ne h1 hk ht) i u, fun r hr => ?_, h3, by simpa using h4⟩
 obtain ⟨d, hd⟩ := h2 r hr
 exact ⟨d, hd.keep fun _ _ _ _ hs => hs.below ((Below.refl B W).setCell (p := ⟨g, i, none⟩) hB _)⟩
theorem RW.more (h : RW W B dv out ds) {out' : List UInt8} (ho : out.length ≤ out'.length) : RW W B dv out' ds := ⟨h.1, h.2.1, ⟨Nat.le_trans h.2.2.1.1 ho, h.2.2.1.2⟩, h.2.2.2⟩
/-- A here-document that comes. -/
theorem RW.doc_at (h : RW W B dv out ds) {k : Nat} {r : DocV} (hr : ds[k]? = some r) : ∃ g o a c d, (∀ w' : World, (Instr.indexAt 60 dv (.int .i64 (k : Int))).run Tryz.prog w' = .ok (.pointer (some ⟨g, o, none⟩)) w') ∧ g < W.heap.size ∧
 W.cell? ⟨g, o + 2, none⟩ = some (.string r.1.tag) ∧ W.cell? ⟨g, o + 3, none⟩ = some (.slice a r.1.word.length c) ∧ RdC W B d r.1 [.int .i64 r.1.fd, .string r.1.op, .string r.1.tag, .slice a r.1.word.length c] := by
 have hk := (List.getElem?_eq_some_iff.1 hr).1
 obtain ⟨d, hd⟩ := h.2.1 r (List.mem_of_getElem? hr)
 obtain ⟨a, c, e, _⟩ := hd.open
 obtain ⟨a', cap, g, off, hv, _, _, hi, hlt, hc⟩ := (Sl.of_own h.1).open (P := Tryz.prog) 60 100 Tryz.underlying60 (by kernel_rfl)
 have cell : ∀ j, j < 4 → W.cell? ⟨g, off + k * 4 + j, none⟩ = (docCells r)[j]? := fun j hj => by
  rw [Nat.add_assoc, hc (k * 4 + j) (by omega)]
  exact flat_get docCells 4 (fun _ => rfl) ds k r hr j hj
 rw [e] at cell hd
 exact ⟨g, off + k * 4, a, c, d, fun w' => by rw [hv]; exact hi k w' hk, by omega, cell 2 (by omega), cell 3 (by omega), hd⟩
end

/-- A call's box of the state; the result's box, k blocks behind. -/
structure BW (w V : World) (B k : Nat) (dv : Value) (out : List UInt8) (ds : List DocV) : Prop where
 box : Blk V w.heap.size 87 #[.string (S out), dv]
 res : Blk V (w.heap.size + k) 87 #[.string ⟨#[]⟩, .slice none 0 0]
 rw : RW V B dv out ds
 low : Below w.heap.size w V
 pos : 0 < k ∧ B ≤ w.heap.size
theorem BW.boxw {w V : World} {B k : Nat} {dv : Value} {out : List UInt8} {ds : List DocV} (h : BW w V B k dv out ds) : V.cell? ⟨w.heap.size, 0, none⟩ = some (.string (S out)) ∧ V.cell? ⟨w.heap.size, 1, none⟩ = some dv ∧ V.frozen? ⟨w.heap.size, 0, none⟩ = false ∧ V.frozen? ⟨w.heap.size, 1, none⟩ = false ∧ w.heap.size < V.heap.size ∧
 V.cell? ⟨w.heap.size + k, 0, none⟩ = some (.string ⟨#[]⟩) ∧ V.cell? ⟨w.heap.size + k, 1, none⟩ = some (.slice none 0 0) ∧ V.frozen? ⟨w.heap.size + k, 0, none⟩ = false ∧ V.frozen? ⟨w.heap.size + k, 1, none⟩ = false ∧ w.heap.size + k < V.heap.size :=
 ⟨h.box.cell 0, h.box.cell 1, h.box.free 0, h.box.free 1, h.box.lt, h.res.cell 0, h.res.cell 1, h.res.free 0, h.res.free 1, h.res.lt⟩
section
variable {w V U : World} {B k : Nat} {dv : Value} {out : List UInt8} {ds : List DocV}
theorem BW.later (h : BW w V B k dv out ds) (hb : Below V.heap.size V U) : BW w U B k dv out ds :=
 ⟨h.box.below hb h.box.lt, h.res.below hb h.res.lt, h.rw.below hb, since hb h.low, h.pos⟩
/-- The box is given another state. -/
theorem BW.put (h : BW w V B k dv out ds) (hb : Below V.heap.size V U) {dv' : Value} {out' : List UInt8} {ds' : List DocV} (hr : RW U B dv' out' ds') : BW w ((U.setCell ⟨w.heap.size, 0, none⟩ (.string (S out'))).setCell ⟨w.heap.size, 1, none⟩ dv') B k dv' out' ds' := by
 have h1 := h.later hb
 have hp := h.pos
 refine ⟨(h1.box.put 0 _).put 1 _, (h1.res.far (by simp; omega) _).far (by simp; omega) _, (hr.put h1.box (by decide) hp.2 0 _).put (h1.box.put 0 _) (by decide) hp.2 1 _, (h1.low.setCell (by simp) _).setCell (by simp) _, hp⟩
theorem BW.put0 (h : BW w V B k dv out ds) (hb : Below V.heap.size V U) {out' : List UInt8} (hr : RW U B dv out' ds) : BW w (U.setCell ⟨w.heap.size, 0, none⟩ (.string (S out'))) B k dv out' ds := by
 have h1 := h.later hb
 have hp := h.pos
 exact ⟨h1.box.put 0 _, h1.res.far (by simp; omega) _, hr.put h1.box (by decide) hp.2 0 _, h1.low.setCell (by simp) _, hp⟩
theorem BW.put1 (h : BW w V B k dv out ds) (hb : Below V.heap.size V U) {dv' : Value} {ds' : List DocV} (hr : RW U B dv' out ds') : BW w (U.setCell ⟨w.heap.size, 1, none⟩ dv') B k dv' out ds' := by
 have h1 := h.later hb
 have hp := h.pos
 exact ⟨h1.box.put 1 _, h1.res.far (by simp; omega) _, hr.put h1.box (by decide) hp.2 1 _, h1.low.setCell (by simp) _, hp⟩
/-- It is handed back. -/
theorem BW.back (h : BW w V B k dv out ds) {s : St} (hs : s = (out, ds.map (·.1))) : RS w B s (.returned (.agg #[.string (S out), dv])) ((V.setCell ⟨w.heap.size + k, 0, none⟩ (.string (S out))).setCell ⟨w.heap.size + k, 1, none⟩ dv) := by
 subst hs
 have hp := h.pos
 exact ⟨dv, ds, rfl, rfl, (h.rw.put h.res (by decide) (by omega) 0 _).put (h.res.put 0 _) (by decide) (by omega) 1 _, (h.low.setCell (by simp) _).setCell (by simp) _⟩
theorem BW.back_res (h : BW w V B k dv out ds) : Blk ((V.setCell ⟨w.heap.size + k, 0, none⟩ (.string (S out))).setCell ⟨w.heap.size + k, 1, none⟩ dv) (w.heap.size + k) 87 #[.string (S out), dv] := (h.res.put 0 _).put 1 _
end
theorem BW.start1 {w : World} {B : Nat} {dv : Value} {out : List UInt8} {ds : List DocV} (h : RW w B dv out ds) : BW w ((w.alloc (.cells #[.string (S out), dv] 87)).alloc (.cells #[.string ⟨#[]⟩, .slice none 0 0] 87)) B 1 dv out ds :=
 ⟨(Blk.new _ _ _).alloc _, Blk.at (by simp), h.below bg, bg, by omega, h.2.2.2⟩
theorem BW.start2 {w : World} {B : Nat} {dv : Value} {out : List UInt8} {ds : List DocV} (h : RW w B dv out ds) (t : TypeId) (cs : Array Value) : BW w (((w.alloc (.cells #[.string (S out), dv] 87)).alloc (.cells cs t)).alloc (.cells #[.string ⟨#[]⟩, .slice none 0 0] 87)) B 2 dv out ds :=
 ⟨((Blk.new _ _ _).alloc _).alloc _, Blk.at (by simp), h.below bg, bg, by omega, h.2.2.2⟩
end Go.Proofs.YtnackmnoldkihaaGreatDoor
/-
  The document's writer: put, line; single; digits.
-/
namespace Go.Proofs.YtnackmnoldkihaaGreatDoor
open Go.RowKit

theorem cat_S (a : List UInt8) (t : ByteArray) (h : a.length + t.size ≤ 8796093022208) (V : World) : (Op.stringOp .add (S a) t).run Tryz.prog V = .ok (.string (S (a ++ L t))) V := by
 rw [run_string_add_sum V _ _ (by rw [S_size]; omega), show S a ++ t = S (a ++ L t) from S_append a (L t)]
theorem stOf_put (out : List UInt8) (ds : List DocV) (t : List UInt8) : putS (stOf out ds) t = stOf (out ++ t) ds := rfl
theorem stOf_line (out : List UInt8) (ds : List DocV) : lineS (stOf out ds) = (out ++ 10 :: ds.flatMap (fun r => docW r.1), []) := by
 rw [lineS, show (stOf out ds).2.flatMap docW = ds.flatMap fun r => docW r.1 by rw [stOf, List.flatMap_map]]; rfl

set_option maxHeartbeats 1000000 in
set_option maxRecDepth 100000 in
theorem rput_any {w : World} {B : Nat} {dv : Value} {out : List UInt8} {ds : List DocV} (h : RW w B dv out ds) (t : ByteArray) (hlen : out.length + t.size ≤ lim) :
 Calls Tryz.prog 83 #[.agg #[.string (S out), dv], .string t] w (RS w B (putS (stOf out ds) (L t))) := by
 obtain ⟨a, c, rfl⟩ := h.shape
 obtain ⟨n, hn⟩ : ∃ n, ds.length = n := ⟨_, rfl⟩
 rw [hn] at h ⊢
 have HB0 := Lib.hid (BW.start1 h)
 have C1 := cat_S out t (by unfold lim at hlen; omega)
 have HO := Lib.hid (h.more (out' := out ++ L t) (by simp))
 clear h hn hlen
 go_enter Tryz.func83, Tryz.ntmps83
 go_upto_region 1 with fail
 obtain ⟨V, hV⟩ : ∃ V, V = (w.alloc (.cells #[.string (S out), .slice a n c] 87)).alloc (.cells #[.string ⟨#[]⟩, .slice none 0 0] 87) := ⟨_, rfl⟩
 have HOV : Hid (RW V B (.slice a n c) (out ++ L t) ds) := Lib.hid (by rw [hV]; exact HO.out.below bg)
 rw [← hV] at HB0 ⊢
 clear hV HO
 obtain ⟨p0, p1, pf, pg, pl, pr0, pr1, prf, prg, prl⟩ := HB0.out.boxw
 go_upto_region 2 with fail
 clear p0 p1 pf pg pl pr0 pr1 prf prg prl
 have HB1 := Lib.hid (HB0.out.put0 (Below.refl _ _) HOV.out)
 obtain ⟨V1, hV1⟩ : ∃ V1, V1 = V.setCell ⟨w.heap.size, 0, none⟩ (.string (S (out ++ L t))) := ⟨_, rfl⟩
 rw [← hV1] at HB1 ⊢
 clear hV1
 obtain ⟨z0, z1, zf, zg, zl, zr0, zr1, zrf, zrg, zrl⟩ := HB1.out.boxw
 go_wp2_with fail
 have HRS := Lib.hid (HB1.out.back rfl)
 have HRB := Lib.hid HB1.out.back_res
 clear z0 z1 zf zg zl zr0 zr1 zrf zrg zrl
 obtain ⟨Z, hZ⟩ : ∃ Z, Z = ((V1.setCell ⟨w.heap.size + 1, 0, none⟩ (.string (S (out ++ L t)))).setCell ⟨w.heap.size + 1, 1, none⟩ (.slice a n c)) := ⟨_, rfl⟩
 rw [← hZ] at HRS HRB
 have y0 := HRB.out.cell 0
 have y1 := HRB.out.cell 1
 simp at y0 y1
 try rw [← hZ]
 clear hZ
 refine bodyPost_ret (v := .agg #[.string (S (out ++ L t)), (.slice a n c)]) (by simp [results, Tryz.results83, go_sem, y0, y1]) rfl HRS.out

theorem quoT_snoc (l : List UInt8) (k : Nat) (c : UInt8) (h : l[k]? = some c) : (l.take (k + 1)).flatMap (fun c => if c = 39 then [39, 92, 39, 39] else [c]) = (l.take k).flatMap (fun c => if c = 39 then [39, 92, 39, 39] else [c]) ++ (if c = 39 then [39, 92, 39, 39] else [c]) := by
 rw [List.take_add_one, h]; simp
theorem quoT_len (l : List UInt8) : (l.flatMap (fun c => if c = 39 then [39, 92, 39, 39] else [c])).length ≤ 4 * l.length := by
 induction l with
 | nil => exact Nat.le_refl _
 | cons c l ih =>
   rw [List.flatMap_cons, List.length_append, List.length_cons]
   split <;> simp only [List.length_cons, List.length_nil] <;> omega
set_option maxHeartbeats 1000000 in
set_option maxRecDepth 100000 in
theorem rsingle_any (s : ByteArray) (w : World) (hs : s.size ≤ 1048576) :
 Calls Tryz.prog 106 #[.string s] w fun e w' => e = .returned (.string (S (quoL (L s)))) ∧ w = w' := by
 go_enter Tryz.func106, Tryz.ntmps106
 go_wp2_with fail
 go_loop [3, 4] (fun o i => ∃ (k : Nat) (u : ByteArray), k ≤ s.size ∧ i = .int .i64 k ∧ o = .string u ∧ L u = 39 :: ((L s).take k).flatMap (fun c => if c = 39 then [39, 92, 39, 39] else [c])) (fun _ i => s.size - (intOf i).toNat)
 case atStart => exact ⟨0, ⟨#[39]⟩, Nat.zero_le _, rfl, rfl, rfl⟩
 case round =>
  obtain ⟨k, u, hk, rfl, rfl, hu⟩ := hrel
  have HU := Lib.hid hu
  have huz : u.size ≤ 4194305 := by
   have h1 := quoT_len ((L s).take k)
   have h2 : (L u).length = u.size := L_size u
   rw [hu, List.length_cons] at h2
   have h3 : ((L s).take k).length ≤ s.size := by rw [List.length_take, L_size]; omega
   exact h2 ▸ (by omega : _ ≤ 4194305)
  clear hu
  by_cases hlt : k < s.size
  · have hidx := run_idx (P := Tryz.prog) Tryz.underlying9 s (k := .i64) (k : Int) k rfl hlt
    have hget := getD_get (show k < (L s).length from hlt)
    obtain ⟨c, hc⟩ : ∃ c, c = (L s).getD k 0 := ⟨_, rfl⟩
    rw [← hc] at hidx hget
    have HSN := Lib.hid (quoT_snoc (L s) k c hget)
    have HEX : Hid (L (s.extract k (k + 1)) = [c]) := Lib.hid (by rw [L_extract, show k + 1 - k = 1 by omega, drop_getD (L s) hlt, ← hc]; rfl)
    have hexz : (s.extract k (k + 1)).size = 1 := by rw [← L_size, HEX.out]; rfl
    clear hc hget
    by_cases h39 : c = 39
    · have e39 : (((c.toNat : Nat) : Int) == 39) = true := by rw [h39]; rfl
      have HN : Hid ((if c = 39 then [39, 92, 39, 39] else [c]) = [39, 92, 39] ++ [c]) := Lib.hid (by rw [if_pos h39, h39]; rfl)
      clear h39
      go_wp2_with fail
      go_round
      case rel => exact ⟨k + 1, _, by omega, by go_num, rfl, by rw [HSN.out, HN.out, ← List.cons_append, ← HU.out]; simp [L_append, HEX.out]⟩
      case measure => simp [intOf]; omega
    · have e39 : (((c.toNat : Nat) : Int) == 39) = false := by
       have : c.toNat ≠ 39 := fun e => h39 (by rw [← UInt8.toNat_inj]; exact e)
       simp; omega
      have HN : Hid ((if c = 39 then [39, 92, 39, 39] else [c]) = [c]) := Lib.hid (if_neg h39)
      clear h39
      go_wp2_with fail
      go_round
      case rel => exact ⟨k + 1, _, by omega, by go_num, rfl, by rw [HSN.out, HN.out, ← List.cons_append, ← HU.out]; simp [L_append, HEX.out]⟩
      case measure => simp [intOf]; omega
  · have HR : Hid (S (quoL (L s)) = u ++ ⟨#[39]⟩) := Lib.hid (by
     have h := HU.out
     rw [List.take_of_length_le (by rw [L_size]; omega)] at h
     have h2 : L (u ++ ⟨#[39]⟩) = quoL (L s) := by rw [L_append, h, quoL]; rfl
     rw [← h2, S_L])
    go_wp2_with fail
    go_ret
    exact ⟨by rw [HR.out]; rfl, rfl⟩

@[go_sem] theorem Tryz.convK (w : World) (b off l c : Nat) : (convert 76 9 (.slice (some ⟨b, off, none⟩) l c)).run Tryz.prog w = convK (cellBytes w b off l) w (convFb Tryz.prog w 76 9 b off l c) :=
 run_convK 76 9 5 Tryz.underlying76 Tryz.underlying5 Tryz.underlying9 w b off l c
set_option maxHeartbeats 1000000 in
set_option maxRecDepth 100000 in
theorem rdigit_one (n : Nat) (w : World) (h9 : n ≤ 9) :
 Calls Tryz.prog 116 #[.int .u64 n] w fun e w' => e = .returned (.string (S (fdL n))) ∧ Below w.heap.size w w' := by
 have hg : decide (10 ≤ n) = false := by simp; omega
 go_enter Tryz.func116, Tryz.ntmps116
 go_wp2_with fail
 refine wp_loop_rounds 1 ?_
 rw [rounds_succ]
 go_wp2_with fail
 go_ret
 exact ⟨ret_string (L_inj (by simp [fdL, L_append, L_S])), by go_grown⟩
set_option maxHeartbeats 1000000 in
set_option maxRecDepth 100000 in
theorem rdigits_any (n : Nat) (w : World) (h9 : n ≤ 9) :
 Calls Tryz.prog 107 #[.int .i64 n] w fun e w' => e = .returned (.string (S (fdL n))) ∧ Below w.heap.size w w' := by
 go_enter Tryz.func107, Tryz.ntmps107
 go_wp2_with (go_at_call 116; refine (rdigit_one n _ h9).mono ?_; rintro e w1 ⟨rfl, hb⟩)
 go_ret
 exact ⟨rfl, hb⟩
end Go.Proofs.YtnackmnoldkihaaGreatDoor
/-
  What the document writes is told of what is right: kinds, and how many lists.
-/
namespace Go.Proofs.YtnackmnoldkihaaGreatDoor
open Go.RowKit

def pkindB (p : Pt) : Bool := (decide (1 ≤ p.kind) && decide (p.kind ≤ 4)) && (!(p.kind == 2 && (L p.op).isEmpty) || p.word.isEmpty)
def nkindB (x : Nd) : Bool := (decide (1 ≤ x.kind) && decide (x.kind ≤ 13)) && (!(x.kind == 6) || decide (x.lists.length ≤ 3))
def partG (fw : List Pt → Bool) (fl : List Nd → Bool) (p : Pt) : Bool := pkindB p && partF fw fl p
def nodeG (fw : List Pt → Bool) (fl : List Nd → Bool) (fn : Nd → Bool) (x : Nd) : Bool := nkindB x && nodeF fw fl fn x
def levG : Nat → (List Pt → Bool) × (List Nd → Bool) × (Nd → Bool)
 | 0 => (fun _ => true, fun _ => true, nodeG (fun _ => true) (fun _ => true) fun _ => true)
 | d + 1 => (fun l => l.all (partG (levG d).1 (levG d).2.1), fun l => l.all (levG d).2.2, nodeG (fun l => l.all (partG (levG d).1 (levG d).2.1)) (fun l => l.all (levG d).2.2) (levG d).2.2)
theorem pkind_ok {wd : List Pt → Bool} {ls : List Nd → Bool} {q : Option Pt} {p : Pt} (h : partB wd ls q p = true) : pkindB p = true := by
 rw [partB, Bool.and_eq_true] at h
 have h := h.2
 rw [pkindB]
 cases k1 : (p.kind == 1) with
 | true => rw [eq_of_beq k1]; rfl
 | false =>
 rw [k1, cond_false] at h
 cases k2 : (p.kind == 2) with
 | true =>
   rw [k2, cond_true, paramB, Bool.and_eq_true] at h
   have h3 := h.2
   have e := eq_of_beq k2
   cases ho : (L p.op).isEmpty with
   | true => rw [ho, cond_true] at h3; rw [h3, e]; rfl
   | false => rw [e]; rfl
 | false =>
 rw [k2, cond_false] at h
 cases k3 : (p.kind == 3) with
 | true => rw [eq_of_beq k3]; rfl
 | false =>
 rw [k3, cond_false] at h
 cases k4 : (p.kind == 4) with
 | true => rw [eq_of_beq k4]; rfl
 | false => rw [k4, cond_false] at h; exact Bool.noConfusion h
theorem nkind_ok {wd : List Pt → Bool} {ls : List Nd → Bool} {x : Nd} (h : nodeB wd ls x = true) : nkindB x = true := by
 rw [nodeB, Bool.and_eq_true, Bool.and_eq_true] at h
 have h := h.2.2
 rw [nkindB]
 by_cases hk : x.kind = 6
 · rw [hk] at h ⊢
   simp only [compoundB, hk] at h
   have h2 : (bareN x && (listsB ls x 2 || listsB ls x 3)) = true := h
   rw [Bool.and_eq_true, Bool.or_eq_true, listsB, listsB, Bool.and_eq_true, Bool.and_eq_true] at h2
   have h3 : x.lists.length ≤ 3 := by
    rcases h2.2 with h | h <;> (have := of_decide_eq_true h.1; omega)
   simp [h3]
 · have e6 : (x.kind == 6) = false := by simp [hk]
   rw [e6]
   have hr : 1 ≤ x.kind ∧ x.kind ≤ 13 := by
    cases k1 : (x.kind == 1) with
    | true => rw [eq_of_beq k1]; omega
    | false =>
    rw [k1, cond_false] at h
    cases kj : ((x.kind == 2 || x.kind == 3) || (x.kind == 4 || x.kind == 5)) with
    | true => simp only [Bool.or_eq_true, beq_iff_eq] at kj; omega
    | false =>
    rw [kj, cond_false, compoundB, e6, cond_false] at h
    cases k7 : (x.kind == 7 || x.kind == 8) with
    | true => simp only [Bool.or_eq_true, beq_iff_eq] at k7; omega
    | false =>
    rw [k7, cond_false] at h
    cases kc : (x.kind == 12 || x.kind == 13) with
    | true => simp only [Bool.or_eq_true, beq_iff_eq] at kc; omega
    | false =>
    rw [kc, cond_false] at h
    cases k9 : (x.kind == 9) with
    | true => rw [beq_iff_eq] at k9; omega
    | false =>
    rw [k9, cond_false] at h
    cases k10 : (x.kind == 10) with
    | true => rw [beq_iff_eq] at k10; omega
    | false =>
    rw [k10, cond_false] at h
    cases k11 : (x.kind == 11) with
    | true => rw [beq_iff_eq] at k11; omega
    | false => rw [k11, cond_false] at h; exact Bool.noConfusion h
   simp [hr.1, hr.2]
theorem nodeG_ok {wd : List Pt → Bool} {ls : List Nd → Bool} {fw : List Pt → Bool} {fl : List Nd → Bool} {fn : Nd → Bool} (hw : ∀ y, wd y = true → fw y = true) (hl : ∀ y, ls y = true → fl y = true) (hn : ∀ y, ls y = true → y.all fn = true) {x : Nd} (h : nodeB wd ls x = true) : nodeG fw fl fn x = true := by
 rw [nodeG, Bool.and_eq_true]
 exact ⟨nkind_ok h, nodeF_ok hw hl hn h⟩
/-- Of what is right all can be written by the document. -/
theorem right_levG : ∀ d n, (∀ y, okW n y = true → (levG d).1 y = true) ∧ (∀ l, okL n l = true → (levG d).2.1 l = true) ∧ (∀ l, okL n l = true → l.all (levG d).2.2 = true)
 | 0, n => ⟨fun _ _ => rfl, fun _ _ => rfl, fun l h => okL_all h fun m _ x hx => nodeG_ok (wd := okW m) (ls := okL m) (fun _ _ => rfl) (fun _ _ => rfl) (fun y _ => List.all_eq_true.2 fun _ _ => rfl) hx⟩
 | d + 1, n => by
   have h1 : ∀ n y, okW n y = true → (levG (d + 1)).1 y = true := fun n y h => by
    show y.all (partG (levG d).1 (levG d).2.1) = true
    cases n with
    | zero => rw [okW, List.isEmpty_iff] at h; rw [h]; rfl
    | succ m =>
      rw [okW] at h
      obtain ⟨g1, g2, _⟩ := right_levG d m
      exact parts_all (fun q p hp => by
       rw [partG, Bool.and_eq_true]
       exact ⟨pkind_ok hp, partF_ok g1 g2 (g1 _ (okW_nil m)) (g2 _ (okL_nil m)) hp (lit_bare hp)⟩) y _ h
   have h2 : ∀ n l, okL n l = true → (levG (d + 1)).2.1 l = true := fun n l h => (right_levG d n).2.2 l h
   exact ⟨h1 n, h2 n, fun l h => okL_all h fun m _ x hx => nodeG_ok (h1 m) (h2 m) (right_levG d m).2.2 hx⟩
end Go.Proofs.YtnackmnoldkihaaGreatDoor
namespace Go.Proofs.YtnackmnoldkihaaGreatDoor
open Go.RowKit

def RTextAt (B d : Nat) : Prop := ∀ (W : World) (l : List Pt) (v : Value), B ≤ W.heap.size → PtsIn W B d l v → (levG d).1 l = true → (txtS d l).length ≤ lim →
 Calls Tryz.prog 84 #[v] W fun e w' => e = .returned (.string (S (txtS d l))) ∧ Below W.heap.size W w'
def RShowAt (B d : Nat) : Prop := ∀ (W : World) (l : List Nd) (v : Value), B ≤ W.heap.size → NdsIn W B d l v → (levG d).2.1 l = true → (showL d l).length ≤ lim →
 Calls Tryz.prog 34 #[v] W fun e w' => e = .returned (.string (S (showL d l))) ∧ Below W.heap.size W w'
def RListAtS (B d : Nat) : Prop := ∀ (W : World) (dv : Value) (out : List UInt8) (ds : List DocV) (l : List Nd) (v : Value), RW W B dv out ds → NdsIn W B d l v → (levG d).2.1 l = true → ((levS d).2.1 (stOf out ds) l).1.length ≤ lim →
 Calls Tryz.prog 50 #[.agg #[.string (S out), dv], v] W (RS W B ((levS d).2.1 (stOf out ds) l))

theorem field_out (t : ByteArray) (dv : Value) (w : World) : (Instr.field 87 (.agg #[.string t, dv]) 0).run Tryz.prog w = .ok (.string t) w := by kernel_rfl
set_option maxHeartbeats 1000000 in
set_option maxRecDepth 100000 in
theorem rshow_any {B d : Nat} (hL : RListAtS B d) : RShowAt B d := by
 intro w l v hB hl hg hlen
 have CL : Hid (Calls Tryz.prog 50 #[.agg #[.string ⟨#[]⟩, .slice none 0 0], v] w fun e w' => (∃ dv, e = .returned (.agg #[.string (S (showL d l)), dv])) ∧ Below w.heap.size w w') := Lib.hid
  ((hL w (.slice none 0 0) [] [] l v (RW.nil hB []) hl hg hlen).mono fun e w' ⟨dv, ds, h1, _, _, h4⟩ => ⟨⟨dv, h1⟩, h4⟩)
 obtain ⟨t, ht⟩ : ∃ t, S (showL d l) = t := ⟨_, rfl⟩
 rw [ht] at CL ⊢
 clear hl hg hlen hL ht
 go_enter Tryz.func34, Tryz.ntmps34
 go_wp2_with fail
 refine CL.out.mono ?_
 rintro e w1 ⟨⟨dv, rfl⟩, hb⟩
 have hf := field_out t dv w1
 go_wp2_with fail
 go_ret
 exact ⟨rfl, hb⟩

set_option maxHeartbeats 1000000 in
set_option maxRecDepth 100000 in
theorem rtext_zero (B : Nat) : RTextAt B 0 := by
 intro w l v hB hl hg hlen
 rw [PtsIn] at hl
 obtain ⟨a, cap, rfl⟩ := hl.shape
 obtain rfl := hl.zero
 rw [txtS_nil]
 clear hl hg hlen
 go_enter Tryz.func84, Tryz.ntmps84
 go_wp2_with fail
 refine wp_loop_rounds 1 ?_
 rw [rounds_succ]
 go_wp2_with fail
 go_ret
 exact ⟨rfl, bg⟩

set_option maxHeartbeats 4000000 in
set_option maxRecDepth 100000 in
theorem rtext_succ {B d : Nat} (hT : RTextAt B d) (hS : RShowAt B d) : RTextAt B (d + 1) := by
 intro w l v hBw hl hg hlen
 rw [PtsIn.succ] at hl
 obtain ⟨a, cap, rfl, hz⟩ := hl.len
 obtain ⟨n, hn⟩ : ∃ n, l.length = n := ⟨_, rfl⟩
 rw [txtS_succ] at hlen ⊢
 have HLEN : Hid (∀ k, ((l.take k).flatMap (ptxS d)).length ≤ lim) := Lib.hid fun k => Nat.le_trans (flat_take_le (ptxS d) l k) hlen
 have HG : Hid (∀ x ∈ l, partG (levG d).1 (levG d).2.1 x = true) := Lib.hid (List.all_eq_true.1 hg)
 rw [hn] at hl hz ⊢
 have HL := Lib.hid hl
 have HN := Lib.hid hn
 have HT := Lib.hid hT
 have HSH := Lib.hid hS
 clear hl hn hg hlen hT hS
 go_enter Tryz.func84, Tryz.ntmps84
 go_wp2_with fail
 go_loopw [3, 4] (fun o i W => ∃ (k : Nat) (u : ByteArray), k ≤ n ∧ i = .int .i64 k ∧ o = .string u ∧ L u = (l.take k).flatMap (ptxS d) ∧ Below w.heap.size w W) (fun _ i _ => n - (intOf i).toNat)
 case atStart => exact ⟨0, ⟨#[]⟩, Nat.zero_le _, rfl, rfl, rfl, bg⟩
 case round =>
  obtain ⟨k, u, hk, rfl, rfl, hu, hB⟩ := hrel
  have HU := Lib.hid hu
  clear hu
  by_cases hlt : k < n
  · obtain ⟨x, hx⟩ : ∃ x, l[k]? = .some x := ⟨_, List.getElem?_eq_getElem (by rw [HN.out]; exact hlt)⟩
    obtain ⟨b, o, c, hi, hbB, hce, hC, _⟩ := HL.out.at 41 72 Tryz.underlying41 (by kernel_rfl) hx
    have HX := Lib.hid (flat_snoc (f := ptxS d) hx)
    have hsz : u.size + (ptxS d x).length ≤ 1099511627776 := by
     have h := HLEN.out (k + 1)
     rw [HX.out, List.length_append, ← HU.out, L_size] at h
     exact h
    have hgx := HG.out x (List.mem_of_getElem? hx)
    obtain ⟨h1, h2, wv, bv, rfl, hpw, hpb⟩ := hC
    obtain ⟨a3, c3, rfl, _⟩ := hpw.shape
    obtain ⟨a4, c4, rfl, _⟩ := hpb.shape
    rw [partG, Bool.and_eq_true, partF, Bool.and_eq_true] at hgx
    obtain ⟨hkd, hgw, hgb⟩ := hgx
    have hbw := Nat.lt_of_lt_of_le hbB hBw
    have e0 := (hB.cell hbw).trans (hce 0 _ rfl)
    have e1 := (hB.cell hbw).trans (hce 1 _ rfl)
    have e2 := (hB.cell hbw).trans (hce 2 _ rfl)
    have e3 := (hB.cell hbw).trans (hce 3 _ rfl)
    have e4 := (hB.cell hbw).trans (hce 4 _ rfl)
    have e5 := (hB.cell hbw).trans (hce 5 _ rfl)
    rw [Nat.add_zero] at e0
    have hBz := hB.size
    have hgwr : b < wr.heap.size := by omega
    have CT : Hid ((txtS d x.word).length ≤ lim → ∀ V, Below wr.heap.size wr V → Calls Tryz.prog 84 #[.slice a3 x.word.length c3] V fun e w' => e = .returned (.string (S (txtS d x.word))) ∧ Below V.heap.size V w') := Lib.hid fun hz V hV =>
     HT.out V _ _ (by have := hV.size; omega) (hpw.below ((hB.trans (hV.mono hBz)).mono hBw)) hgw hz
    have CS : Hid ((showL d x.body).length ≤ lim → ∀ V, Below wr.heap.size wr V → Calls Tryz.prog 34 #[.slice a4 x.body.length c4] V fun e w' => e = .returned (.string (S (showL d x.body))) ∧ Below V.heap.size V w') := Lib.hid fun hz V hV =>
     HSH.out V _ _ (by have := hV.size; omega) (hpb.below ((hB.trans (hV.mono hBz)).mono hBw)) hgb hz
    have HPX := Lib.hid (ptxS_eq d x)
    have hwe : pkindB x = true → x.kind = 2 → (L x.op).isEmpty = true → x.word = [] := fun h e1 e2 => by
     rw [pkindB, e1, e2, Bool.and_eq_true] at h
     have h := h.2
     rw [Bool.or_eq_true] at h
     rcases h with h | h
     · cases h
     · exact List.isEmpty_iff.1 h
    have HWE : Hid (x.kind = 2 → (L x.op).isEmpty = true → txtS d x.word = []) := Lib.hid fun e1 e2 => by rw [hwe hkd e1 e2, txtS_nil]
    have hkr : 1 ≤ x.kind ∧ x.kind ≤ 4 := by
     rw [pkindB] at hkd
     simp only [Bool.and_eq_true, decide_eq_true_eq] at hkd
     exact hkd.1
    obtain ⟨tw, htw⟩ : ∃ t, txtS d x.word = t := ⟨_, rfl⟩
    obtain ⟨tb, htb⟩ : ∃ t, showL d x.body = t := ⟨_, rfl⟩
    obtain ⟨px, hpx⟩ : ∃ t, ptxS d x = t := ⟨_, rfl⟩
    obtain ⟨xk, hxk⟩ : ∃ t, x.kind = t := ⟨_, rfl⟩
    obtain ⟨xq, hxq⟩ : ∃ t, x.quoted = t := ⟨_, rfl⟩
    obtain ⟨xt, hxt⟩ : ∃ t, x.text = t := ⟨_, rfl⟩
    obtain ⟨xo, hxo⟩ : ∃ t, x.op = t := ⟨_, rfl⟩
    rw [htw] at CT HPX HWE
    rw [htb] at CS HPX
    rw [hpx] at HPX HX hsz
    rw [hxk] at HPX HWE hkr e0
    rw [hxq] at HPX e1
    rw [hxt] at HPX e2 h1
    rw [hxo] at HPX e3 h2 HWE
    obtain ⟨nw, hnw⟩ : ∃ t, x.word.length = t := ⟨_, rfl⟩
    obtain ⟨nb, hnb⟩ : ∃ t, x.body.length = t := ⟨_, rfl⟩
    rw [hnw] at CT e4
    rw [hnb] at CS e5
    unfold bigN at h1 h2
    clear hx hce hpw hpb hgw hgb hkd hwe htw htb hpx hxk hxq hxt hxo hnw hnb
    go_upto_region 6 with fail
    obtain ⟨X, hX⟩ : ∃ X, X = wr.alloc (.cells #[.int .i64 xk, .bool xq, .string xt, .string xo, .slice a3 nw c3, .slice a4 nb c4] 72) := ⟨_, rfl⟩
    have HBX : Hid (Below wr.heap.size wr X) := Lib.hid (by rw [hX]; exact bg)
    have HKX : Hid (Blk X wr.heap.size 72 #[.int .i64 xk, .bool xq, .string xt, .string xo, .slice a3 nw c3, .slice a4 nb c4]) := Lib.hid (by rw [hX]; exact Blk.new _ _ _)
    rw [← hX]
    clear hX e0 e1 e2 e3 e4 e5 hi hgwr
    have hBX : Below w.heap.size w X := since HBX.out hB
    have hk4 : xk = 1 ∨ xk = 2 ∨ xk = 3 ∨ xk = 4 := by omega
    have huz : u.size ≤ 1099511627776 := by omega
    clear hkr
    rcases hk4 with rfl | rfl | rfl | rfl
    · skip
      have x0 := HKX.out.cell 0
      have x1 := HKX.out.cell 1
      have x2 := HKX.out.cell 2
      have x3 := HKX.out.cell 3
      have x4 := HKX.out.cell 4
      have x5 := HKX.out.cell 5
      have xl := HKX.out.lt
      simp at x0 x1 x2 x3 x4 x5
      cases xq with
      | true =>
        have HE : Hid (px = quoL (L xt)) := Lib.hid HPX.out
        have CSg : Hid (∀ V, Calls Tryz.prog 106 #[.string xt] V fun e w' => e = .returned (.string (S (quoL (L xt)))) ∧ V = w') := Lib.hid fun V => rsingle_any xt V h1
        have hq : u.size + (S (quoL (L xt))).size ≤ 1099511627776 := by rw [S_size, ← HE.out]; exact hsz
        clear HPX HWE CT CS
        go_wp2_with fail
        refine (CSg.out _).mono ?_
        rintro e w2 ⟨rfl, rfl⟩
        go_wp2_with fail
        go_roundw
        case rel => exact ⟨k + 1, _, by omega, by go_num, rfl, by rw [HX.out, HE.out, ← HU.out]; simp [L_append, L_S, L, S], hBX⟩
        case measure => simp [intOf]; omega
      | false =>
        have HE : Hid (px = L xt) := Lib.hid HPX.out
        clear HPX HWE CT CS
        go_wp2_with fail
        go_roundw
        case rel => exact ⟨k + 1, _, by omega, by go_num, rfl, by rw [HX.out, HE.out, ← HU.out]; simp [L_append, L_S, L, S], hBX⟩
        case measure => simp [intOf]; omega
    · skip
      have x0 := HKX.out.cell 0
      have x1 := HKX.out.cell 1
      have x2 := HKX.out.cell 2
      have x3 := HKX.out.cell 3
      have x4 := HKX.out.cell 4
      have x5 := HKX.out.cell 5
      have xl := HKX.out.lt
      simp at x0 x1 x2 x3 x4 x5
      cases hln : (L xo == [108, 101, 110]) with
      | true =>
        have g2 : (xo.toList == [108, 101, 110]) = true := by rw [toList_L]; exact hln
        have heo : (L xo).isEmpty = false := by rw [eq_of_beq hln]; rfl
        cases xq with
        | true =>
          have HE : Hid (px = [34] ++ ([36, 123, 35] ++ L xt ++ [125]) ++ [34]) := Lib.hid (by rw [HPX.out, heo, hln]; rfl)
          clear HPX HWE CT CS hln heo
          go_wp2_with fail
          go_roundw
          case rel => exact ⟨k + 1, _, by omega, by go_num, rfl, by rw [HX.out, HE.out, ← HU.out]; simp [L_append, L_S, L, S], hBX⟩
          case measure => simp [intOf]; omega
        | false =>
          have HE : Hid (px = [36, 123, 35] ++ L xt ++ [125]) := Lib.hid (by rw [HPX.out, heo, hln]; simp)
          clear HPX HWE CT CS hln heo
          go_wp2_with fail
          go_roundw
          case rel => exact ⟨k + 1, _, by omega, by go_num, rfl, by rw [HX.out, HE.out, ← HU.out]; simp [L_append, L_S, L, S], hBX⟩
          case measure => simp [intOf]; omega
      | false =>
        have g2 : (xo.toList == [108, 101, 110]) = false := by rw [toList_L]; exact hln
        have HQ : Hid (px = (bif xq then [34] else []) ++ ([36, 123] ++ L xt ++ L xo ++ tw ++ [125]) ++ (bif xq then [34] else [])) := Lib.hid (by
         rw [HPX.out, hln]
         cases heo : (L xo).isEmpty with
         | true => rw [HWE.out rfl heo, List.isEmpty_iff.1 heo]; simp
         | false => rfl)
        have hpl : 4 + tw.length ≤ px.length + 1 := by rw [HQ.out]; simp; omega
        have CT2 : Hid (∀ V, Below X.heap.size X V → Calls Tryz.prog 84 #[.slice a3 nw c3] V fun e w' => e = .returned (.string (S tw)) ∧ Below X.heap.size X w') := Lib.hid fun V hV => (CT.out (by unfold lim; omega) V (since hV HBX.out)).mono fun e w' h => ⟨h.1, hV.trans (h.2.mono hV.size)⟩
        have hq : u.size + (S tw).size ≤ 1099511627776 := by rw [S_size]; omega
        have htz : (S tw).size ≤ 1099511627776 := by omega
        have k1 : ∀ V : World, (Op.stringOp .add ⟨#[36, 123]⟩ xt).run Tryz.prog V = .ok (.string (⟨#[36, 123]⟩ ++ xt)) V := fun V => run_string_add_sum V _ _ (by simp; omega)
        have k2 : ∀ V : World, (Op.stringOp .add (⟨#[36, 123]⟩ ++ xt) xo).run Tryz.prog V = .ok (.string (⟨#[36, 123]⟩ ++ xt ++ xo)) V := fun V => run_string_add_sum V _ _ (by simp; omega)
        have k3 : ∀ V : World, (Op.stringOp .add (⟨#[36, 123]⟩ ++ xt ++ xo) (S tw)).run Tryz.prog V = .ok (.string (⟨#[36, 123]⟩ ++ xt ++ xo ++ S tw)) V := fun V => run_string_add_sum V _ _ (by simp; omega)
        have k4 : ∀ V : World, (Op.stringOp .add (⟨#[36, 123]⟩ ++ xt ++ xo ++ S tw) ⟨#[125]⟩).run Tryz.prog V = .ok (.string (⟨#[36, 123]⟩ ++ xt ++ xo ++ S tw ++ ⟨#[125]⟩)) V := fun V => run_string_add_sum V _ _ (by simp; omega)
        clear HPX HWE CT CS hln hpl
        go_wp2_with fail
        go_region_held3 (fun w' => w'.cell? ⟨wr.heap.size, 0, none⟩ = some (.int .i64 2) ∧ w'.cell? ⟨wr.heap.size, 1, none⟩ = some (.bool xq) ∧ w'.cell? ⟨wr.heap.size, 2, none⟩ = some (.string xt) ∧ w'.cell? ⟨wr.heap.size, 3, none⟩ = some (.string xo) ∧ w'.cell? ⟨wr.heap.size, 4, none⟩ = some (.slice a3 nw c3)) (first | exact ⟨x0, x1, x2, x3, x4⟩ | exact ⟨d0, d1, d2, d3, d4⟩ | go_keep)
         ((go_at_call 84; with_reducible refine (CT2.out _ bg).mono ?_; rintro e w2 ⟨rfl, hb2⟩; have d0 := (hb2.cell xl).trans x0; have d1 := (hb2.cell xl).trans x1; have d2 := (hb2.cell xl).trans x2; have d3 := (hb2.cell xl).trans x3; have d4 := (hb2.cell xl).trans x4))
        all_goals
         have hBE : Below w.heap.size w w2 := since hb2 hBX
         clear k1 k2 k3 k4 x0 x1 x2 x3 x4 x5
         have hsm : (⟨#[36, 123]⟩ ++ xt ++ xo ++ S tw ++ ⟨#[125]⟩ : ByteArray).size ≤ 2199023255552 := by simp; omega
         cases xq
         · have HE : Hid (px = [36, 123] ++ L xt ++ L xo ++ tw ++ [125]) := Lib.hid (by rw [HQ.out]; simp)
           go_wp2_with fail
           go_roundw
           case rel => exact ⟨k + 1, _, by omega, by go_num, rfl, by rw [HX.out, HE.out, ← HU.out]; simp [L_append, L_S, L, S], hBE⟩
           case measure => simp [intOf]; omega
         · have HE : Hid (px = [34] ++ ([36, 123] ++ L xt ++ L xo ++ tw ++ [125]) ++ [34]) := HQ
           go_wp2_with fail
           go_roundw
           case rel => exact ⟨k + 1, _, by omega, by go_num, rfl, by rw [HX.out, HE.out, ← HU.out]; simp [L_append, L_S, L, S], hBE⟩
           case measure => simp [intOf]; omega
    · skip
      have x0 := HKX.out.cell 0
      have x1 := HKX.out.cell 1
      have x2 := HKX.out.cell 2
      have x3 := HKX.out.cell 3
      have x4 := HKX.out.cell 4
      have x5 := HKX.out.cell 5
      have xl := HKX.out.lt
      simp at x0 x1 x2 x3 x4 x5
      have HQ : Hid (px = (bif xq then [34] else []) ++ ([36, 40, 10] ++ tb ++ [41]) ++ (bif xq then [34] else [])) := Lib.hid HPX.out
      have hpl : 4 + tb.length ≤ px.length := by rw [HQ.out]; simp; omega
      have CS2 : Hid (∀ V, Below X.heap.size X V → Calls Tryz.prog 34 #[.slice a4 nb c4] V fun e w' => e = .returned (.string (S tb)) ∧ Below X.heap.size X w') := Lib.hid fun V hV => (CS.out (by unfold lim; omega) V (since hV HBX.out)).mono fun e w' h => ⟨h.1, hV.trans (h.2.mono hV.size)⟩
      have hq : u.size + (S tb).size ≤ 1099511627776 := by rw [S_size]; omega
      clear HPX HWE CT CS hpl
      cases xq with
      | true =>
        have HE : Hid (px = [34] ++ ([36, 40, 10] ++ tb ++ [41]) ++ [34]) := HQ
        go_wp2_with fail
        refine (CS2.out _ (Below.refl _ _)).mono ?_
        rintro e w2 ⟨rfl, hb2⟩
        have d0 := (hb2.cell xl).trans x0
        have d1 := (hb2.cell xl).trans x1
        have hBE : Below w.heap.size w w2 := since hb2 hBX
        clear x0 x1 x2 x3 x4 x5 hb2
        go_wp2_with fail
        go_roundw
        case rel => exact ⟨k + 1, _, by omega, by go_num, rfl, by rw [HX.out, HE.out, ← HU.out]; simp [L_append, L_S, L, S], hBE⟩
        case measure => simp [intOf]; omega
      | false =>
        have HE : Hid (px = [36, 40, 10] ++ tb ++ [41]) := Lib.hid (by rw [HQ.out]; simp)
        go_wp2_with fail
        refine (CS2.out _ (Below.refl _ _)).mono ?_
        rintro e w2 ⟨rfl, hb2⟩
        have d0 := (hb2.cell xl).trans x0
        have d1 := (hb2.cell xl).trans x1
        have hBE : Below w.heap.size w w2 := since hb2 hBX
        clear x0 x1 x2 x3 x4 x5 hb2
        go_wp2_with fail
        go_roundw
        case rel => exact ⟨k + 1, _, by omega, by go_num, rfl, by rw [HX.out, HE.out, ← HU.out]; simp [L_append, L_S, L, S], hBE⟩
        case measure => simp [intOf]; omega
    · skip
      have x0 := HKX.out.cell 0
      have x1 := HKX.out.cell 1
      have x2 := HKX.out.cell 2
      have x3 := HKX.out.cell 3
      have x4 := HKX.out.cell 4
      have x5 := HKX.out.cell 5
      have xl := HKX.out.lt
      simp at x0 x1 x2 x3 x4 x5
      cases xq with
      | true =>
        have HE : Hid (px = [34] ++ ([36, 40, 40] ++ L xt ++ [41, 41]) ++ [34]) := Lib.hid HPX.out
        clear HPX HWE CT CS
        go_wp2_with fail
        go_roundw
        case rel => exact ⟨k + 1, _, by omega, by go_num, rfl, by rw [HX.out, HE.out, ← HU.out]; simp [L_append, L_S, L, S], hBX⟩
        case measure => simp [intOf]; omega
      | false =>
        have HE : Hid (px = [36, 40, 40] ++ L xt ++ [41, 41]) := Lib.hid (by rw [HPX.out]; simp)
        clear HPX HWE CT CS
        go_wp2_with fail
        go_roundw
        case rel => exact ⟨k + 1, _, by omega, by go_num, rfl, by rw [HX.out, HE.out, ← HU.out]; simp [L_append, L_S, L, S], hBX⟩
        case measure => simp [intOf]; omega
  · have HR : Hid (S (l.flatMap (ptxS d)) = u) := Lib.hid (by
     have h := HU.out
     rw [List.take_of_length_le (by rw [HN.out]; omega)] at h
     rw [← h, S_L])
    go_wp2_with fail
    go_ret
    exact ⟨by rw [HR.out]; rfl, hB⟩
end Go.Proofs.YtnackmnoldkihaaGreatDoor
