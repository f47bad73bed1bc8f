/-
  The document's pieces; its Split: memory, and how many.
-/
import Derived.Test.YtlehofcgkmhgaaaF11
namespace Go.Proofs.Ytlehofcgkmhgaaa
open Go.RowKit

def sC (s : Sg) : List Value := [.int .u8 ((s.b.toNat : Nat) : Int), .bool s.q]
theorem sC_len (s : Sg) : (sC s).length = 2 := rfl
theorem infoS : (Try.prog.info? 68).map (fun i => (i.zero, i.size, i.bytes)) = some (some (.agg #[.int .u8 0, .bool false]), 2, 2) := by kernel_rfl
theorem infoF : (Try.prog.info? 43).map (fun i => (i.zero, i.size, i.bytes)) = some (some (.agg #[.slice none 0 0]), 1, 24) := by kernel_rfl
theorem infoP : (Try.prog.info? 65).map (fun i => (i.zero, i.size, i.bytes)) = some (some (.agg #[.string ⟨#[]⟩, .bool false, .bool false, .bool false]), 4, 24) := by kernel_rfl
theorem ss_one (l : List Sg) : ∀ u ∈ l.flatMap sC, u.oneCell' = true := by
  intro u hu
  obtain ⟨s, _, hs⟩ := List.mem_flatMap.1 hu
  simp [sC] at hs
  rcases hs with rfl | rfl <;> rfl

/-- A block of one kind is no row of another. -/
theorem blk_kind {w : World} {g t : Nat} {cs : Array Value} {B e s n : Nat} {v : Value} {xs : List Value} (h : Blk w g t cs) (h2 : w.ownsRow B e s v n xs) (hne : t ≠ e) : v.ownBlock ≠ some g := by
  rcases h2.2 with ⟨rfl, _⟩ | ⟨g2, c, cur, rfl, _, hg, _⟩
  · simp [Value.ownBlock]
  · intro he
    simp [Value.ownBlock] at he
    subst he
    unfold Blk at h
    rw [h] at hg
    simp at hg
    exact hne hg.2

theorem rin_at {w : World} {B : Nat} {v : Value} {l : List In} (h : Sl w B 4 v l.length (l.flatMap inC)) {k : Nat} {x : In} (hx : l[k]? = some x) (i : Int) (hi : i = k) :
    ∃ b o, (∀ w' : World, (Instr.indexAt 35 v (.int .i64 i)).run Try.prog w' = .ok (.pointer (some ⟨b, o, none⟩)) w') ∧ b < B ∧ w.cell? ⟨b, o, none⟩ = some (.string x.t) ∧ w.cell? ⟨b, o + 1, none⟩ = some (.bool x.q) ∧ w.cell? ⟨b, o + 2, none⟩ = some (.bool x.s) ∧ w.cell? ⟨b, o + 3, none⟩ = some (.bool x.b) := by
  subst hi
  have hk := (List.getElem?_eq_some_iff.1 hx).1
  obtain ⟨a, cap, b, off, rfl, _, _, h1, h2, h3⟩ := h.open (P := Try.prog) 35 65 Try.underlying35 (by kernel_rfl)
  have g := flat_get inC 4 inC_len l k x hx
  refine ⟨b, off + k * 4, fun w' => h1 k w' hk, by omega, ?_, ?_, ?_, ?_⟩
  · rw [show off + k * 4 = off + (k * 4 + 0) by omega, h3 _ (by omega), g 0 (by omega)]; rfl
  · rw [show off + k * 4 + 1 = off + (k * 4 + 1) by omega, h3 _ (by omega), g 1 (by omega)]; rfl
  · rw [show off + k * 4 + 2 = off + (k * 4 + 2) by omega, h3 _ (by omega), g 2 (by omega)]; rfl
  · rw [show off + k * 4 + 3 = off + (k * 4 + 3) by omega, h3 _ (by omega), g 3 (by omega)]; rfl

abbrev Rv := List Sg × Value
def RFields (w : World) (B : Nat) (fv : List Rv) : Prop := ∀ x ∈ fv, w.ownsRow B 68 2 x.2 x.1.length (x.1.flatMap sC)
def ROut (w : World) (B : Nat) (v : Value) (fs : List (List Sg)) : Prop := ∃ fv : List Rv, w.ownsRow B 43 1 v fv.length (fv.map (·.2)) ∧ RFields w B fv ∧ fv.map (·.1) = fs
theorem ROut.below {w w' : World} {B : Nat} {v : Value} {fs : List (List Sg)} (h : ROut w B v fs) (hb : Below w.heap.size w w') : ROut w' B v fs := by
  obtain ⟨fv, h1, h2, h3⟩ := h
  exact ⟨fv, own_below h1 hb, fun x hx => own_below (h2 x hx) hb, h3⟩
theorem ROut.field {w : World} {B : Nat} {v : Value} {fs : List (List Sg)} (h : ROut w B v fs) {k : Nat} {f : List Sg} (hf : fs[k]? = some f) (i : Int) (hi : i = k) :
    ∃ b o x, (∀ w' : World, (Instr.indexAt 38 v (.int .i64 i)).run Try.prog w' = .ok (.pointer (some ⟨b, o, none⟩)) w') ∧ b < w.heap.size ∧ w.cell? ⟨b, o, none⟩ = some x ∧ w.ownsRow B 68 2 x f.length (f.flatMap sC) := by
  obtain ⟨fv, h1, h2, h3⟩ := h
  have hk : k < fv.length := by
    have := (List.getElem?_eq_some_iff.1 hf).1
    rw [← h3, List.length_map] at this; exact this
  obtain ⟨g, cap, rfl, hB, hg, i0, hc⟩ := own_at (P := Try.prog) h1 38 Try.underlying38 (by kernel_rfl) hk i hi
  rw [Nat.mul_one] at i0
  have hx : fv[k]? = some fv[k] := List.getElem?_eq_getElem hk
  have hf2 : fv[k].1 = f := by
    rw [← h3, List.getElem?_map, hx] at hf
    simpa using hf
  refine ⟨g, k, fv[k].2, i0, hg, ?_, ?_⟩
  · rw [(hc k (by omega)).1, List.getElem?_map, hx]; rfl
  · have := h2 fv[k] (List.getElem_mem hk)
    rw [hf2] at this
    exact this
theorem ROut.shape {w : World} {B : Nat} {v : Value} {fs : List (List Sg)} (h : ROut w B v fs) : ∃ a c, v = .slice a fs.length c := by
  obtain ⟨fv, h1, h2, h3⟩ := h
  obtain ⟨a, c, e⟩ := own_shape h1
  exact ⟨a, c, by rw [e, ← h3, List.length_map]⟩

structure Rp (w : World) (g : Nat) (vo vn : Value) (fv : List Rv) (now : List Sg) : Prop where
  blk : Blk w g 43 #[vn]
  out : w.ownsRow (g + 1) 43 1 vo fv.length (fv.map (·.2))
  own : w.ownsRow (g + 1) 68 2 vn now.length (now.flatMap sC)
  fields : RFields w (g + 1) fv
  free : ∀ x ∈ fv, ∀ k, x.2.ownBlock = some k → vn.ownBlock ≠ some k
section
variable {w w' : World} {g : Nat} {vo vn : Value} {fv : List Rv} {now : List Sg}
theorem Rp.below (h : Rp w g vo vn fv now) (hb : Below w.heap.size w w') : Rp w' g vo vn fv now :=
  ⟨h.blk.below hb h.blk.lt, own_below h.out hb, own_below h.own hb, fun x hx => own_below (h.fields x hx) hb, h.free⟩
/-- A byte has been put behind the others. -/
theorem Rp.turn {w1 : World} {vn' : Value} {now' : List Sg} (h : Rp w g vo vn fv now) (hown : w1.ownsRow (g + 1) 68 2 vn' now'.length (now'.flatMap sC)) (hg : w.grownBy w1 vn.ownBlock) (hv : vn'.ownBlock = vn.ownBlock ∨ vn'.ownBlock = some w.heap.size) :
    Rp (w1.setCell ⟨g, 0, none⟩ vn') g vo vn' fv now' := by
  have hb := (h.blk.grown hg (own_ne h.own (by omega))).put 0 vn'
  refine ⟨hb, own_far (World.ownsRow.kept h.out hg (own_kinds h.out h.own (by decide))) (by simp) _, own_far hown (by simp) _, fun x hx => own_far (World.ownsRow.kept (h.fields x hx) hg ?_) (by simp) _, fun x hx k hk => ?_⟩
  · cases hk : x.2.ownBlock with
    | none => exact .inl rfl
    | some k => exact .inr (fun e => h.free x hx k hk e.symm)
  · rcases hv with hv | hv
    · rw [hv]; exact h.free x hx k hk
    · rw [hv]
      intro e
      cases e
      have := (World.ownsRow.lt (h.fields x hx) _ hk).2
      omega
/-- The field has been put behind the others, a new one begins. -/
theorem Rp.push {w1 : World} {vo' : Value} (h : Rp w g vo vn fv now) (hown : w1.ownsRow (g + 1) 43 1 vo' (fv.length + 1) (fv.map (·.2) ++ [vn])) (hg : w.grownBy w1 vo.ownBlock) :
    Rp (w1.setCell ⟨g, 0, none⟩ (.slice none 0 0)) g vo' (.slice none 0 0) (fv ++ [(now, vn)]) [] := by
  have hb := (h.blk.grown hg (own_ne h.out (by omega))).put 0 (.slice none 0 0)
  have key : ∀ {v : Value} {l : List Sg}, w.ownsRow (g + 1) 68 2 v l.length (l.flatMap sC) → w1.ownsRow (g + 1) 68 2 v l.length (l.flatMap sC) := fun hv => World.ownsRow.kept hv hg (own_kinds hv h.out (by decide))
  refine ⟨hb, ?_, World.ownsRow_nil _ _ _ _, fun x hx => ?_, fun x _ k _ => by simp [Value.ownBlock]⟩
  · refine own_far ?_ (by simp) _
    rw [List.length_append, List.map_append]
    exact hown
  · refine own_far ?_ (by simp) _
    rcases List.mem_append.1 hx with hx | hx
    · exact key (h.fields x hx)
    · simp at hx; subst hx
      exact key h.own
/-- The last field has been put behind the others. -/
theorem Rp.last {w1 : World} {vo' : Value} (h : Rp w g vo vn fv now) (hown : w1.ownsRow (g + 1) 43 1 vo' (fv.length + 1) (fv.map (·.2) ++ [vn])) (hg : w.grownBy w1 vo.ownBlock) : ROut w1 (g + 1) vo' (fv.map (·.1) ++ [now]) := by
  have key : ∀ {v : Value} {l : List Sg}, w.ownsRow (g + 1) 68 2 v l.length (l.flatMap sC) → w1.ownsRow (g + 1) 68 2 v l.length (l.flatMap sC) := fun hv => World.ownsRow.kept hv hg (own_kinds hv h.out (by decide))
  refine ⟨fv ++ [(now, vn)], ?_, fun x hx => ?_, by simp⟩
  · rw [List.length_append, List.map_append]
    exact hown
  · rcases List.mem_append.1 hx with hx | hx
    · exact key (h.fields x hx)
    · simp at hx; subst hx
      exact key h.own
theorem Rp.drop (h : Rp w g vo vn fv now) : Rp (w.setCell ⟨g, 0, none⟩ (.slice none 0 0)) g vo (.slice none 0 0) fv [] :=
  ⟨h.blk.put 0 _, own_far h.out (by simp) _, World.ownsRow_nil _ _ _ _, fun x hx => own_far (h.fields x hx) (by simp) _, fun x _ k _ => by simp [Value.ownBlock]⟩
end

/-! ### how many -/
def cntR (s : Rt) : Nat := s.out.length + s.now.length
theorem cntR_step (ifs : List UInt8) (q sp : Bool) (s : Rt) (c : UInt8) : cntR (stepR ifs q sp s c) ≤ cntR s + 1 := by
  unfold stepR
  split
  · simp [cntR]; omega
  · split
    · split
      · simp [cntR]
      · omega
    · split
      · simp [cntR]
      · simp [cntR]
theorem cntR_fold (ifs : List UInt8) (q sp : Bool) : ∀ (t : List UInt8) (s : Rt), cntR (t.foldl (stepR ifs q sp) s) ≤ cntR s + t.length
  | [], _ => Nat.le_refl _
  | c :: t, s => by
    have h1 := cntR_fold ifs q sp t (stepR ifs q sp s c)
    have h2 := cntR_step ifs q sp s c
    rw [List.foldl_cons, List.length_cons]; omega
theorem cntR_open (q : Bool) (s : Rt) : cntR (openR q s) = cntR s := by cases q <;> rfl
def wr1 (p : In) : Nat := 1 + p.t.size
theorem cntR_piece (ifs : List UInt8) (s : Rt) (p : In) : cntR (stepRP ifs s p) ≤ cntR s + wr1 p := by
  unfold stepRP wr1
  split
  · unfold cntR
    split
    · simp; omega
    · simp; omega
  · have := cntR_fold ifs p.q p.s (L p.t) (openR p.q s)
    rw [cntR_open, L_size] at this
    omega
theorem cntR_pieces (ifs : List UInt8) : ∀ (l : List In) (s : Rt), cntR (l.foldl (stepRP ifs) s) ≤ cntR s + (l.map wr1).sum
  | [], _ => by simp
  | p :: l, s => by
    have h1 := cntR_pieces ifs l (stepRP ifs s p)
    have h2 := cntR_piece ifs s p
    rw [List.foldl_cons, List.map_cons, List.sum_cons]; omega
def rK (ifs : List UInt8) (l : List In) (k : Nat) : Rt := (l.take k).foldl (stepRP ifs) Rt0
theorem rK_succ {ifs : List UInt8} {l : List In} {k : Nat} {x : In} (h : l[k]? = some x) : rK ifs l (k + 1) = stepRP ifs (rK ifs l k) x := by
  obtain ⟨hk, rfl⟩ := List.getElem?_eq_some_iff.1 h
  unfold rK
  rw [List.take_succ_eq_append_getElem hk, List.foldl_append]; rfl
theorem rK_cnt (ifs : List UInt8) (l : List In) (k : Nat) : cntR (rK ifs l k) ≤ (l.map wr1).sum := by
  have h1 := cntR_pieces ifs (l.take k) Rt0
  have h2 := sum_take wr1 l k
  have h3 : cntR Rt0 = 0 := rfl
  unfold rK
  omega
def rJ (ifs : List UInt8) (p : In) (s : Rt) (j : Nat) : Rt := ((L p.t).take j).foldl (stepR ifs p.q p.s) (openR p.q s)
theorem rJ_succ {ifs : List UInt8} {p : In} {s : Rt} {j : Nat} (h : j < p.t.size) : rJ ifs p s (j + 1) = stepR ifs p.q p.s (rJ ifs p s j) ((L p.t).getD j 0) := by
  unfold rJ
  rw [take_snoc (show j < (L p.t).length from h), List.foldl_append]; rfl
theorem rJ_cnt (ifs : List UInt8) (p : In) (s : Rt) (j : Nat) : cntR (rJ ifs p s j) ≤ cntR s + p.t.size := by
  have h1 := cntR_fold ifs p.q p.s ((L p.t).take j) (openR p.q s)
  rw [cntR_open, List.length_take, L_size] at h1
  unfold rJ
  omega

/-! ### in, white -/
theorem rwhite_any (c : UInt8) (w : World) : Calls Try.prog 21 #[.int .u8 ((c.toNat : Nat) : Int)] w fun e w' => e = .returned (.bool (isW c)) ∧ w' = w := by
  have e1 : (((c.toNat : Nat) : Int) == 32) = (c == 32) := beq_byte c 32
  have e2 : (((c.toNat : Nat) : Int) == 9) = (c == 9) := beq_byte c 9
  have e3 : (((c.toNat : Nat) : Int) == 10) = (c == 10) := beq_byte c 10
  have hh : isW c = (c == 32 || c == 9 || c == 10) := rfl
  obtain ⟨q1, hq1⟩ : ∃ b, (c == 32) = b := ⟨_, rfl⟩
  obtain ⟨q2, hq2⟩ : ∃ b, (c == 9) = b := ⟨_, rfl⟩
  obtain ⟨q3, hq3⟩ : ∃ b, (c == 10) = b := ⟨_, rfl⟩
  rw [hq1, hq2, hq3] at hh
  rw [hq1] at e1
  rw [hq2] at e2
  rw [hq3] at e3
  rw [hh]
  clear hh hq1 hq2 hq3
  cases q1 <;> cases q2 <;> cases q3
  all_goals
    go_enter Try.func21, Try.ntmps21
    go_wp2
    go_ret
    exact ⟨rfl, rfl⟩
theorem rin_any (s : ByteArray) (c : UInt8) (w : World) (hs : s.size ≤ 100000) : Calls Try.prog 20 #[.string s, .int .u8 ((c.toNat : Nat) : Int)] w fun e w' => e = .returned (.bool (hasB (L s) c)) ∧ w' = w := by
  go_enter Try.func20, Try.ntmps20
  go_wp2_with fail
  go_loop [5] (fun i => ∃ k : Nat, k ≤ s.size ∧ i = .int .i64 k ∧ ∀ d ∈ (L s).take k, d ≠ c) (fun i => s.size - (intOf i).toNat)
  case atStart => exact ⟨0, Nat.zero_le _, rfl, by simp⟩
  case round =>
    obtain ⟨k, hk, rfl, hno⟩ := hrel
    have HNO := Lib.hid hno
    clear hno
    by_cases hlt : k < s.size
    · have hidx := run_idx (P := Try.prog) Try.underlying9 s (k := .i64) (k : Int) k rfl hlt
      have htk := take_snoc (show k < (L s).length from hlt)
      have hmem : (L s).getD k 0 ∈ L s := by
        have : k < (L s).length := hlt
        simp [List.getD, this]
      obtain ⟨d, hd⟩ : ∃ d, d = (L s).getD k 0 := ⟨_, rfl⟩
      rw [← hd] at hidx htk hmem
      have HTK := Lib.hid htk
      have HM := Lib.hid hmem
      clear htk hd hmem
      by_cases hdc : d = c
      · have e1 : (((d.toNat : Nat) : Int) == ((c.toNat : Nat) : Int)) = true := by rw [beq_byte, hdc]; simp
        have HR : Hid (hasB (L s) c = true) := Lib.hid (by rw [← hdc]; exact decide_eq_true HM.out)
        clear hdc
        go_wp2
        go_ret
        exact ⟨ret_bool HR.out.symm, rfl⟩
      · have e1 : (((d.toNat : Nat) : Int) == ((c.toNat : Nat) : Int)) = false := by rw [beq_byte]; simpa using hdc
        have HDC := Lib.hid hdc
        clear hdc
        go_wp2
        go_round
        case rel => exact ⟨k + 1, by omega, by go_num, by
          rw [HTK.out]
          intro z hz
          rcases List.mem_append.1 hz with hz | hz
          · exact HNO.out z hz
          · simp at hz; subst hz; exact HDC.out⟩
        case measure => simp [intOf]; omega
    · have HR : Hid (hasB (L s) c = false) := Lib.hid (by
        have h := HNO.out
        rw [List.take_of_length_le (by rw [L_size]; omega)] at h
        exact decide_eq_false fun hm => h c hm rfl)
      go_wp2
      go_ret
      exact ⟨ret_bool HR.out.symm, rfl⟩
end Go.Proofs.Ytlehofcgkmhgaaa
