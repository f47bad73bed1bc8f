/-
  Calls that came in: how they lie; the walk of small. Plain: variables of an environment of variables.
-/
import Derived.Test.YthfnkgofkdahfaaGreatDoorB12
import Derived.Test.YthfnkgofkdahfaaGreatDoorB11
import Derived.Test.YthfnkgofkdahfaaGreatDoorB10
namespace Go.Proofs.YthfnkgofkdahfaaGreatDoor
open Go.RowKit

/-! ### plain -/
theorem put_last {l : List (Nm × Xd)} {k : Nm} (h : ∀ p ∈ l, p.1 < k) (x : Xd) : putL l k x = l ++ [(k, x)] := by
  rw [putL, List.filter_eq_self.2 fun p hp => by simpa using h p hp, List.filter_eq_nil_iff.2 fun p hp => by simpa using fun q => nm_irrefl _ (nm_trans q (h p hp))]
def asVar (p : Nm × Nm) : Nm × Xd := (p.1, ⟨p.2, true, true, false⟩)
theorem newL_ents {es : List (Nm × Nm)} (hr : es.Pairwise fun p q => p.1 < q.1) (hn : ∀ p ∈ es, nameL p.1 = true) : newL (es.map ent) = es.map asVar := by
  have key : ∀ k, k ≤ es.length → newL ((es.map ent).take k) = (es.take k).map asVar := by
    intro k
    induction k with
    | zero => intro _; simp [newL]
    | succ k ih =>
      intro hk
      have hlt : k < es.length := by omega
      have h1 : (es.map ent)[k]? = some (ent es[k]) := by rw [List.getElem?_map, List.getElem?_eq_getElem hlt]; rfl
      have hnk := hn es[k] (List.getElem_mem hlt)
      rw [newL_succ h1, ih (by omega), addE, ent, cut_ent (nameL_noEq hnk)]
      simp only [Bool.true_and, hnk, if_true]
      rw [put_last, List.take_succ_eq_append_getElem hlt, List.map_append]
      · rfl
      · intro p hp
        obtain ⟨q, hq, rfl⟩ := List.mem_map.1 hp
        rw [List.pairwise_iff_getElem] at hr
        obtain ⟨i, hi, e⟩ := List.getElem_of_mem hq
        rw [List.length_take] at hi
        have h2 := hr i k (by omega) hlt (by omega)
        rw [← e, List.getElem_take]
        exact h2
  have := key es.length (Nat.le_refl _)
  rwa [List.take_of_length_le (by simp), List.take_length] at this
theorem env_asVar (es : List (Nm × Nm)) : envR (es.map asVar) = es := by
  rw [envR, List.filter_eq_self.2 fun p hp => by obtain ⟨q, _, rfl⟩ := List.mem_map.1 hp; rfl, List.map_map]
  conv => rhs; rw [← List.map_id es]
  rfl
theorem env_again {l : List (Nm × Xd)} (hr : Rising l) (hg : Good l) : envR (newL ((envR l).map ent)) = envR l := by
  rw [newL_ents (env_rising hr), env_asVar]
  intro p hp
  rw [envR, List.mem_map] at hp
  obtain ⟨q, hq, rfl⟩ := hp
  exact (hg q (List.mem_filter.1 hq).1).1
theorem putL_len (l : List (Nm × Xd)) (nm : Nm) (x : Xd) : (putL l nm x).length ≤ l.length + 1 := by
  rw [putL, List.length_append, List.length_cons]
  have h3 : (l.filter fun p => decide (p.1 < nm)).length + (l.filter fun p => decide (nm < p.1)).length ≤ l.length := by
    induction l with
    | nil => simp
    | cons p r ih =>
      rw [List.filter_cons, List.filter_cons, List.length_cons]
      by_cases q1 : p.1 < nm
      · have q2 : ¬ nm < p.1 := fun q => nm_irrefl _ (nm_trans q1 q)
        simp only [q1, q2, decide_true, decide_false, if_true, Bool.false_eq_true, if_false, List.length_cons]
        omega
      · by_cases q2 : nm < p.1
        · simp only [q1, q2, decide_true, decide_false, if_true, Bool.false_eq_true, if_false, List.length_cons]
          omega
        · simp only [q1, q2, decide_false, Bool.false_eq_true, if_false]
          omega
  omega
theorem doR_len (l : List (Nm × Xd)) (xs : List ByteArray) (st : Int) (o : Opd) {Z : Nat} (hx : xs.length ≤ Z) (ho : o.args.length ≤ Z) : (doR l xs st o).1.length ≤ l.length + 1 ∧ (doR l xs st o).2.1.length ≤ Z := by
  have p := putL_len l
  unfold doR
  repeat' split
  all_goals first
    | exact ⟨Nat.le_succ _, hx⟩
    | exact ⟨Nat.le_succ _, ho⟩
    | exact ⟨Nat.le_succ _, by rw [List.length_drop]; omega⟩
    | (refine ⟨?_, hx⟩; simp only [setR, unsetR, expR, fixR]; (repeat' split) <;> first | exact Nat.le_succ _ | exact p _ _)

/-! ### in memory -/
def OpC (o : Opd) (x : Option Addr) (c : Nat) : List Value := [.int .i64 o.kind, .string o.name, .string o.text, .int .i64 o.n, .slice x o.args.length c]
def OpsIn (w : World) (B : Nat) (a : Option Addr) (ops : List Opd) : Prop :=
  ops.length ≤ maxLen ∧ (ops = [] ∨ ∃ b off, a = some ⟨b, off, none⟩ ∧ b < B ∧ ∀ (i : Nat) o, ops[i]? = some o → ∃ x c, (∀ (j : Nat) u, (OpC o x c)[j]? = some u → w.cell? ⟨b, off + (i * 5 + j), none⟩ = some u) ∧ EA w B x c o.args)
theorem OpsIn.below {w w' : World} {B : Nat} {a : Option Addr} {ops : List Opd} (h : OpsIn w B a ops) (hb : Below B w w') : OpsIn w' B a ops := by
  obtain ⟨h1, h2⟩ := h
  refine ⟨h1, ?_⟩
  rcases h2 with h2 | ⟨b, off, ha, hbB, h3⟩
  · exact .inl h2
  · refine .inr ⟨b, off, ha, hbB, fun i o ho => ?_⟩
    obtain ⟨x, c, h4, h5⟩ := h3 i o ho
    exact ⟨x, c, fun j u hu => (hb.cell (p := ⟨b, _, none⟩) hbB).trans (h4 j u hu), h5.below hb⟩
theorem op_at {w : World} {B n cap : Nat} {a : Option Addr} {ops : List Opd} (h : OpsIn w B a ops) (hn : n = ops.length) {k : Nat} {o : Opd} (hk : ops[k]? = some o) :
    ∃ b off x c, (∀ w' : World, (Instr.indexAt 23 (.slice a n cap) (.int .i64 (k : Int))).run Tryz.prog w' = .ok (.pointer (some ⟨b, off, none⟩)) w') ∧ b < B ∧
      w.cell? ⟨b, off, none⟩ = some (.int .i64 o.kind) ∧ w.cell? ⟨b, off + 1, none⟩ = some (.string o.name) ∧ w.cell? ⟨b, off + 2, none⟩ = some (.string o.text) ∧ w.cell? ⟨b, off + 3, none⟩ = some (.int .i64 o.n) ∧ w.cell? ⟨b, off + 4, none⟩ = some (.slice x o.args.length c) ∧ EA w B x c o.args := by
  have hkl : k < ops.length := (List.getElem?_eq_some_iff.1 hk).1
  obtain ⟨h1, h2⟩ := h
  rcases h2 with rfl | ⟨b, off, rfl, hb, h3⟩
  · cases hkl
  · obtain ⟨x, c, h4, h5⟩ := h3 k o hk
    refine ⟨b, off + k * 5, x, c, fun w' => ?_, hb, h4 0 _ rfl, by rw [Nat.add_assoc]; exact h4 1 _ rfl, by rw [Nat.add_assoc]; exact h4 2 _ rfl, by rw [Nat.add_assoc]; exact h4 3 _ rfl, by rw [Nat.add_assoc]; exact h4 4 _ rfl, h5⟩
    have he : Tryz.prog.elem 23 = 34 := by simp [Program.elem, Tryz.underlying23]
    obtain ⟨i0, hi, hi1⟩ := Option.map_eq_some_iff.1 (show (Tryz.prog.info? 34).map (·.size) = some 5 by kernel_rfl)
    rw [run_indexAt_slice _ _ _ _ _ _ _ (by rw [he]; exact Tryz.underlying23), if_pos ⟨by omega, by omega⟩, he]
    simp [sizeOf, typeInfo, hi, hi1, Result.andThen, addr_add]
/-- Few calls, and short ones. -/
def FewOps (ops : List Opd) : Prop := ∀ o ∈ ops, o.name.size ≤ 100 ∧ o.text.size ≤ 100 ∧ o.args.length ≤ 50
def SmallP (w : World) (ops : List Opd) (ne na : Nat) (e : Ending) (w' : World) : Prop := ∃ b : Bool, e = .returned (.bool b) ∧ Below w.heap.size w w' ∧ (b = true → FewOps ops ∧ ops.length ≤ 60 ∧ ne ≤ 30 ∧ na ≤ 50)
theorem few_snoc {ops : List Opd} {k : Nat} {o : Opd} (hk : ops[k]? = some o) (h : FewOps (ops.take k)) (h1 : o.name.size ≤ 100) (h2 : o.text.size ≤ 100) (h3 : o.args.length ≤ 50) : FewOps (ops.take (k + 1)) := by
  obtain ⟨hlt, e⟩ := List.getElem?_eq_some_iff.1 hk
  intro p hp
  rw [List.take_succ_eq_append_getElem hlt, List.mem_append, List.mem_singleton, e] at hp
  rcases hp with hp | rfl
  · exact h p hp
  · exact ⟨h1, h2, h3⟩

set_option maxHeartbeats 1000000 in
theorem small_any (a : Option Addr) (cap : Nat) (ops : List Opd) (ae : Option Addr) (ne ce : Nat) (aa : Option Addr) (na ca : Nat) (w : World) (h : OpsIn w w.heap.size a ops) (hne : ne ≤ maxLen) (hna : na ≤ maxLen) (hz : ∀ o ∈ ops, o.name.size ≤ maxLen ∧ o.text.size ≤ maxLen) :
    Calls Tryz.prog 5 #[.slice a ops.length cap, .slice ae ne ce, .slice aa na ca] w (SmallP w ops ne na) := by
  have hml := h.1
  unfold maxLen at hml hne hna
  obtain ⟨m, hm⟩ : ∃ m, m = ops.length := ⟨_, rfl⟩
  have HM := Lib.hid hm
  have HZ := Lib.hid hz
  have HO := Lib.hid h
  rw [← hm] at hml ⊢
  clear hm hz h
  go_enter Tryz.func5, Tryz.ntmps5
  go_wp2_with fail
  go_loopw [11] (fun i wr => ∃ k : Nat, k ≤ m ∧ i = .int .i64 k ∧ FewOps (ops.take k) ∧ Below w.heap.size w wr) (fun i _ => m - (intOf i).toNat)
  case atStart => exact ⟨0, Nat.zero_le _, rfl, fun o ho => by simp at ho, Below.refl _ _⟩
  case round =>
    obtain ⟨k, hk, rfl, hfew, hb⟩ := hrel
    have HFEW := Lib.hid hfew
    have HB := Lib.hid hb
    have hbs := hb.size
    clear hfew hb
    by_cases hlt : k < m
    · obtain ⟨o, hx⟩ : ∃ x, ops[k]? = some x := ⟨_, List.getElem?_eq_getElem (by rw [← HM.out]; exact hlt)⟩
      have hzo := HZ.out o (List.mem_of_getElem? hx)
      obtain ⟨b, off, x, c, i1, hbB, c0, c1, c2, c3, c4, hEA⟩ := op_at (cap := cap) (HO.out.below HB.out) HM.out hx
      obtain ⟨kd, nm, tx, num, ags⟩ := o
      simp only at hzo c0 c1 c2 c3 c4 hEA
      have hbw : b < wr.heap.size := by omega
      have ha := hEA.1.2.1
      obtain ⟨al, hal⟩ : ∃ n, n = ags.length := ⟨_, rfl⟩
      rw [← hal] at c4 ha
      have HAL := Lib.hid hal
      have HX := Lib.hid hx
      unfold maxLen at ha hzo
      obtain ⟨z1, z2⟩ := hzo
      clear hEA hal hx
      by_cases t1 : (100 : Int) < (nm.size : Int)
      ·
        go_wp2_with fail
        go_ret
        exact ⟨false, rfl, HB.out.alloc hbs _, fun h => by cases h⟩
      by_cases t2 : (100 : Int) < (tx.size : Int)
      · have t1' : decide ((100 : Int) < (nm.size : Int)) = false := decide_eq_false t1
        clear t1
        go_wp2_with fail
        go_ret
        exact ⟨false, rfl, HB.out.alloc hbs _, fun h => by cases h⟩
      by_cases t3 : (50 : Int) < (al : Int)
      · have t1' : decide ((100 : Int) < (nm.size : Int)) = false := decide_eq_false t1
        have t2' : decide ((100 : Int) < (tx.size : Int)) = false := decide_eq_false t2
        clear t1 t2
        go_wp2_with fail
        go_ret
        exact ⟨false, rfl, HB.out.alloc hbs _, fun h => by cases h⟩
      have HT : Hid (nm.size ≤ 100 ∧ tx.size ≤ 100 ∧ ags.length ≤ 50) := Lib.hid ⟨by omega, by omega, by rw [← HAL.out]; omega⟩
      have t1' : decide ((100 : Int) < (nm.size : Int)) = false := decide_eq_false t1
      have t2' : decide ((100 : Int) < (tx.size : Int)) = false := decide_eq_false t2
      have t3' : decide ((50 : Int) < (al : Int)) = false := decide_eq_false t3
      clear t1 t2 t3
      go_wp2_with fail
      go_roundw
      case rel => exact ⟨k + 1, by omega, by go_num, few_snoc HX.out HFEW.out HT.out.1 HT.out.2.1 HT.out.2.2, HB.out.alloc hbs _⟩
      case measure => simp [intOf]; omega
    · obtain rfl : k = m := by omega
      have hall : FewOps ops := by
        have := HFEW.out
        rwa [List.take_of_length_le (by rw [← HM.out]; exact Nat.le_refl _)] at this
      have HALL := Lib.hid hall
      clear hall
      by_cases t1 : (k : Int) ≤ 60
      · by_cases t2 : (ne : Int) ≤ 30
        · by_cases t3 : (na : Int) ≤ 50
          ·
            go_wp2_with fail
            go_ret
            exact ⟨true, rfl, HB.out, fun _ => ⟨HALL.out, by rw [← HM.out]; omega, by omega, by omega⟩⟩
          · have t3' : decide ((na : Int) ≤ 50) = false := decide_eq_false t3
            clear t3
            go_wp2_with fail
            go_ret
            exact ⟨false, rfl, HB.out, fun h => by cases h⟩
        · have t2' : decide ((ne : Int) ≤ 30) = false := decide_eq_false t2
          clear t2
          go_wp2_with fail
          go_ret
          exact ⟨false, rfl, HB.out, fun h => by cases h⟩
      · have t1' : decide ((k : Int) ≤ 60) = false := decide_eq_false t1
        clear t1
        go_wp2_with fail
        go_ret
        exact ⟨false, rfl, HB.out, fun h => by cases h⟩
end Go.Proofs.YthfnkgofkdahfaaGreatDoor
