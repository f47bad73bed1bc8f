/-
  The walk of Env.
-/
import Derived.Test.YthfnkgofkdahfaaGreatDoorB6
namespace Go.Proofs.YthfnkgofkdahfaaGreatDoor
open Go.RowKit

def entS (p : Nm × Nm) : ByteArray := S (ent p)
theorem entS_eq (s : ByteArray) (t : Nm) : s ++ ⟨#[61]⟩ ++ ⟨t.toArray⟩ = entS (L s, t) := by
  have : s = S (L s) := (S_L s).symm
  rw [show (⟨#[61]⟩ : ByteArray) = S [61] from rfl, show (⟨t.toArray⟩ : ByteArray) = S t from rfl]
  conv => lhs; rw [this]
  rw [S_append, S_append, entS, ent, List.append_assoc]
  rfl
theorem entS_map (es : List (Nm × Nm)) : (es.map entS).map L = es.map ent := by
  rw [List.map_map]; rfl
theorem MRel.some {m : Nm → Option Value} {l : List (Nm × Xd)} (h : MRel m l) {k : Nm} {u : Value} (hu : m k = some u) : u = VX (find l k) := by
  rcases h k with ⟨h1, _⟩ | h1
  · rw [h1] at hu; cases hu
  · rw [h1] at hu; exact (Option.some.inj hu).symm

/-- The entry that a step has handed out is there as long as nothing old turns. -/
theorem entry_below {P : Program} {w1 w2 : World} {r : Nat} {v : Value} (hb : Below w1.heap.size w1 w2) (h : (Instr.entry (.pointer (some ⟨r, 0, none⟩))).run P w1 = .ok v w1) : (Instr.entry (.pointer (some ⟨r, 0, none⟩))).run P w2 = .ok v w2 := by
  simp only [Instr.entry, getObj, Sem.run_bind, Sem.run] at h ⊢
  cases hr : w1.heap[r]? with
  | none => simp [hr, Result.andThen] at h
  | some o =>
    have hr2 : w2.heap[r]? = some o := (hb.block r (Array.getElem?_eq_some_iff.1 hr).1).trans hr
    simp only [hr, hr2, Result.andThen] at h ⊢
    cases o with
    | mapIter mo since seen c =>
      cases mo with
      | none => simp [stuck, Sem.run] at h
      | some m =>
        simp only at h ⊢
        cases hsb : seen.back? with
        | none => simp [hsb, stuck, Sem.run] at h
        | some b =>
          simp only [hsb, Sem.run_bind, Sem.run] at h ⊢
          cases hm : w1.heap[m]? with
          | none => simp [hm, Result.andThen] at h
          | some om =>
            have hm2 : w2.heap[m]? = some om := (hb.block m (Array.getElem?_eq_some_iff.1 hm).1).trans hm
            simp only [hm, hm2, Result.andThen] at h ⊢
            cases om with
            | map es clock =>
              simp only at h ⊢
              by_cases hc : (clock != c) = true
              · simp [hc, unsupported, Sem.run] at h
              · simp only [hc] at h ⊢
                cases hf : es.find? (fun x => x.born == b) with
                | none => simp [hf, unsupported, Sem.run] at h
                | some e =>
                  simp [hf, Sem.run] at h ⊢
                  exact h
            | _ => simp [stuck, Sem.run] at h
    | _ => simp [stuck, Sem.run] at h
theorem cell_new1 (w : World) (o : Obj) (v : Value) (e : TypeId) : ((w.alloc o).alloc (.cells #[v] e)).cell? ⟨w.heap.size + 1, 0, none⟩ = some v := by simp
/-- append(out, x), the world told. -/
theorem append_string2 {w : World} {ops : Array Oper} {rest : List Oper} {o : Oper} {a : Act} {Q : Exit → Act → World → Prop} (hgd : o.guard = none) (s x : Operand)
    (ho : o.op = .call { callee := .builtin .append, args := #[s, x], argTypes := #[22, 22] }) {B : Nat} {v : Value} {xs : List ByteArray} (hs : a.eval s = v) (hown : OwnS w B v xs)
    {g : Nat} (c : ByteArray) (hx : a.eval x = .slice (some ⟨g, 0, none⟩) 1 1) (hcell : w.cell? ⟨g, 0, none⟩ = some (.string c)) (hlen : xs.length + 1 ≤ 1000000000000) (hB : B ≤ w.heap.size)
    (h : ∀ v' w', OwnS w' B v' (xs ++ [c]) → w.grownBy w' v.ownBlock → wpList Tryz.prog ops Q rest (a.put o.dst v') w') : wpList Tryz.prog ops Q (o :: rest) a w := by
  obtain ⟨i0, hi, hz0, hz1, hz2⟩ := info_parts infoS
  refine wpList_append_own w hgd s x 22 ho B 9 i0 (.string ByteArray.empty) 1 16 Tryz.underlying22 hi hz0 hz1 hz2 rfl (by omega) v xs.length _ hs hown ⟨g, 0, none⟩ 1 1 [.string c] hx (by simp)
    ?_ (by intro u hu; simp at hu; subst hu; rfl) (by unfold maxLen; omega) (by omega) hB ?_
  · intro j u hj
    have hj' : j = 0 := by
      rcases j with _ | j
      · rfl
      · simp at hj
    subst hj'
    simp at hj
    subst hj
    rw [addr_add]
    exact hcell
  · intro v' w' h2 h3 _
    refine h v' w' ?_ h3
    unfold OwnS
    rw [List.length_append, List.map_append]
    exact h2
theorem own_grown {w w' : World} {row : Option Nat} {base : Nat} {v : Value} {xs : List ByteArray} (h : OwnS w base v xs) (hg : w.grownBy w' row) (hr : ∀ q, row = some q → q < base) : OwnS w' base v xs := by
  refine World.ownsRow.kept h hg ?_
  cases hv : v.ownBlock with
  | none => exact .inl rfl
  | some q => exact .inr fun e => by have := (World.ownsRow.lt h q hv).1; have := hr q e.symm; omega

section
variable {lo g mb n : Nat} {l : List (Nm × Xd)} {xs : List ByteArray} {st : Int}
set_option maxHeartbeats 4000000 in
theorem venv_any (w : World) (m0 : Int) (hV : VSt w lo g mb n l xs st) (hlo : 0 < lo) (hn : n ≤ 10000) (hm0 : w.cell? ⟨0, 0, none⟩ = some (.int .i64 m0)) :
    Calls Tryz.prog 34 #[.pointer (some ⟨g, 0, none⟩)] w fun e w' => ∃ v', e = .returned v' ∧ OwnS w' w.heap.size v' ((envR l).map entS) ∧ Below w.heap.size w w' := by
  obtain ⟨v0, m, q1, q2, q3, q4, q5, q6, q7, q8⟩ := hV
  have hlg := q3.lt
  have hlm := q5.lt
  have y0 := q3.cell 0
  simp at y0
  have Q3 := Lib.hid q3
  have Q5 := Lib.hid q5
  have Q6 := Lib.hid q6
  have Q7 := Lib.hid q7
  have Q8 := Lib.hid q8
  have HM0 : Hid (∀ W, Below w.heap.size w W → W.cell? ⟨0, 0, none⟩ = some (.int .i64 m0)) := Lib.hid fun W hW => (hW.cell (p := ⟨0, 0, none⟩) (show 0 < w.heap.size by omega)).trans hm0
  clear q1 q2 q3 q4 q5 q6 q7 q8 hm0
  go_enter Tryz.func34, Tryz.ntmps34
  go_wp2_with (at_range; refine wpList_range_s rfl _ 41 rfl Tryz.underlying41 rfl Q5.out ?_; intro w0 c0 hR0 hc0 hg0 hs0)
  go_frame
  have HB0 : Hid (Below w.heap.size w w0) := Lib.hid ((Below.refl _ _).grown hg0 (Nat.le_refl _) fun _ h => by cases h)
  clear hg0
  go_loopw [3] (fun v3 wr => ∃ (left : Nm → Bool) (cnt : Nat) (es : List (Nm × Nm)), MapR wr mb w.heap.size n m left cnt ∧ cnt ≤ n ∧ es.length + cnt ≤ n ∧ EnvTo l left es ∧ OwnS wr (w.heap.size + 1) v3 (es.map entS) ∧ Below w.heap.size w wr ∧ w.heap.size + 1 ≤ wr.heap.size) (fun _ wr => wr.rangeLeft mb w.heap.size)
  case atStart => exact ⟨_, c0, [], hR0, hc0, by simpa using hc0, EnvTo.start Q6.out, OwnS.nil _ _, HB0.out, by omega⟩
  case round =>
    obtain ⟨left, cnt, es, hR, hcn, hel, hE, hO, hb, hsz⟩ := hrel
    have HR := Lib.hid hR
    have HE := Lib.hid hE
    have HO := Lib.hid hO
    have HB := Lib.hid hb
    clear hR hE hO hb
    go_wp2_with (at_next; refine wpList_next_s rfl _ rfl rfl HR.out ?_ ?_)
    · intro hc0' hl0
      obtain ⟨oa, oc, rfl⟩ := own_shape HO.out
      have hnames := HE.out.names Q8.out.noEq
      have hdone := HE.out.done Q7.out hl0
      have hgood : ∀ p ∈ es, p.1.length ≤ 1048576 ∧ p.2.length ≤ 1048576 := fun p hp => by
        have h1 := (hdone p).1 hp
        rw [envR, List.mem_map] at h1
        obtain ⟨q, hq, rfl⟩ := h1
        exact (Q8.out q (List.mem_filter.1 hq).1).2
      have CS := Lib.hid (sort_call _ _ wr (w.heap.size + 1) m0 HO.out (by omega) (fun s hs => by
        obtain ⟨p, hp, rfl⟩ := List.mem_map.1 hs
        have h1 := hgood p hp
        rw [entS, S_size, ent, List.length_append, List.length_cons]
        omega) (by rw [List.length_map]; omega) (HM0.out wr HB.out))
      have HN := Lib.hid hnames
      have HD := Lib.hid hdone
      obtain ⟨cc, hcc⟩ : ∃ c, c = (es.map entS).length := ⟨_, rfl⟩
      rw [← hcc] at CS ⊢
      have HCC := Lib.hid hcc
      clear hnames hdone hgood hcc hl0
      go_wp2_with fail
      refine CS.out.mono ?_
      rintro e w2 ⟨rfl, d', hp, hs, ho2, hb2, _⟩
      have HO2 := Lib.hid ho2
      have HB2 := Lib.hid hb2
      have HP := Lib.hid hp
      have HS := Lib.hid hs
      clear ho2 hb2 hp hs
      go_wp2_with fail
      go_ret
      refine ⟨_, rfl, ?_, HB.out.trans (HB2.out.mono (by omega))⟩
      have h1 : d'.map L = (envR l).map ent := sorted_env Q7.out (by have := HP.out.map L; rwa [entS_map] at this) HN.out HE.out.1 HD.out (by rw [List.pairwise_map]; exact HS.out.imp fun h => Int.not_lt.2 h)
      have h2 : d' = (envR l).map entS := by
        have : (d'.map L).map S = d' := by
          rw [List.map_map]
          conv => rhs; rw [← List.map_id d']
          exact List.map_congr_left fun x _ => S_L x
        rw [← this, h1, List.map_map]
        rfl
      rw [← h2]
      exact own_from HO2.out (Nat.le_succ _)
    · intro s u w1 cnt1 hs hlk hmu hR1 hlt hg1 hsz1 hen
      obtain rfl := Q6.out.some hmu
      have hen2 := entry_below (w2 := w1.alloc (.cells #[.string ⟨#[]⟩, .bool false, .bool false, .bool false] 49)) ((Below.refl _ _).alloc (Nat.le_refl _) _) hen
      obtain ⟨⟨t0, s0, e0, f0⟩, hx⟩ : ∃ x, find l (L s) = x := ⟨_, rfl⟩
      rw [hx] at hen hen2
      simp only [VX] at hen hen2
      have HX := Lib.hid hx
      have HMU := Lib.hid hmu
      have HLK := Lib.hid hlk
      have HR1 := Lib.hid hR1
      have HG1 := Lib.hid hg1
      have hsz2 : w.heap.size + 1 ≤ w1.heap.size := by omega
      have HB1 : Hid (Below w.heap.size w w1) := Lib.hid (HB.out.grown hg1 (by omega) fun j hj => by cases hj; exact Nat.le_refl _)
      have HO1 : Hid (OwnS w1 (w.heap.size + 1) u3 (es.map entS)) := Lib.hid (own_grown HO.out hg1 fun q hq => by cases hq; omega)
      obtain ⟨oa, oc, rfl⟩ := own_shape HO1.out
      clear hx hmu hlk hR1 hg1 hsz1
      by_cases hin : (s0 && e0) = true
      · have hss : s.size ≤ 1048576 ∧ t0.length ≤ 1048576 := by
          have h1 : find l (L s) ≠ d0 := fun e => by
            rw [HX.out] at e
            rw [show s0 = false from congrArg Xd.set e] at hin
            cases hin
          have h2 := Q8.out _ (find_mem h1)
          rw [HX.out] at h2
          exact ⟨h2.2.1, h2.2.2⟩
        obtain ⟨rfl, rfl⟩ : s0 = true ∧ e0 = true := by simpa using hin
        have HSS := Lib.hid hss
        have cat1 : s.size + 1 ≤ 9223372036854775807 := by omega
        have cat2 : s.size + 1 + t0.length ≤ 9223372036854775807 := by omega
        have HE2 : Hid (EnvTo l (fun t => left t && !decide (t = L s)) (es ++ [(L s, t0)])) := Lib.hid (by
          have := HE.out.snoc HLK.out (by rw [HX.out]; rfl)
          rwa [HX.out] at this)
        clear hss hs
        obtain ⟨cc, hcc⟩ : ∃ c, c = (es.map entS).length := ⟨_, rfl⟩
        rw [← hcc] at HO1 ⊢
        have HCC := Lib.hid hcc
        have hcl : cc + 1 ≤ 1000000000000 := by rw [hcc, List.length_map]; omega
        clear hcc
        go_wp2_with (at_builtin; go_must ((refine append_string2 rfl _ _ rfl (B := w.heap.size + 1) (xs := es.map entS) rfl ((HO1.out.alloc _).alloc _) (entS (L s, t0)) rfl (by rw [← entS_eq, cell_new1]) (by rw [← HCC.out]; exact hcl) (by simp; omega) ?_); intro v' w2 hown hgrow))
        have hrow : ∀ q, (Value.slice oa cc oc).ownBlock = some q → w.heap.size + 1 ≤ q := fun q hq => (World.ownsRow.lt HO1.out q hq).1
        have HR2 : Hid (MapR w2 mb w.heap.size n m (fun t => left t && !decide (t = L s)) cnt1) := Lib.hid (((HR1.out.kept (World.grownBy_alloc _ _ none) (by simp) (by simp)).kept (World.grownBy_alloc _ _ none) (by simp) (by simp)).kept hgrow (fun e => by have := hrow mb e.symm; omega) (fun e => by have := hrow w.heap.size e.symm; omega))
        have HB2 : Hid (Below w.heap.size w w2) := Lib.hid (((HB1.out.alloc (by omega) _).alloc (by simp; omega) _).grown hgrow (by simp; omega) fun q hq => by have := hrow q hq; omega)
        have hsz3 : w.heap.size + 1 ≤ w2.heap.size := by have := hgrow.size; simp at this; omega
        have HO2 : Hid (OwnS w2 (w.heap.size + 1) v' ((es ++ [(L s, t0)]).map entS)) := Lib.hid (by rw [List.map_append]; exact hown)
        clear hown hgrow hrow
        go_roundw
        case rel => exact ⟨_, cnt1, _, HR2.out, by omega, by rw [List.length_append]; simp; omega, HE2.out, HO2.out, HB2.out, hsz3⟩
        case measure => rw [HR2.out.left_eq, HR.out.left_eq]; exact hlt
      · have HE2 : Hid (EnvTo l (fun t => left t && !decide (t = L s)) es) := Lib.hid (HE.out.out (by rw [HX.out]; simpa [inEnv] using hin))
        have HR2 : Hid (MapR (w1.alloc (.cells #[.string ⟨t0.toArray⟩, .bool s0, .bool e0, .bool f0] 49)) mb w.heap.size n m (fun t => left t && !decide (t = L s)) cnt1) := Lib.hid (HR1.out.kept (World.grownBy_alloc _ _ none) (by simp) (by simp))
        have HB2 : Hid (Below w.heap.size w (w1.alloc (.cells #[.string ⟨t0.toArray⟩, .bool s0, .bool e0, .bool f0] 49))) := Lib.hid (HB1.out.alloc (by omega) _)
        have HO2 := Lib.hid (HO1.out.alloc (.cells #[.string ⟨t0.toArray⟩, .bool s0, .bool e0, .bool f0] 49))
        clear hs
        have hse : (s0 = false ∧ e0 = false) ∨ (s0 = false ∧ e0 = true) ∨ (s0 = true ∧ e0 = false) := by cases s0 <;> cases e0 <;> simp_all
        clear hin
        rcases hse with ⟨rfl, rfl⟩ | ⟨rfl, rfl⟩ | ⟨rfl, rfl⟩
        all_goals
          go_wp2_with fail
          go_roundw
          case rel => exact ⟨_, cnt1, es, HR2.out, by omega, by omega, HE2.out, HO2.out, HB2.out, by simp; omega⟩
          case measure => rw [HR2.out.left_eq, HR.out.left_eq]; exact hlt
end
end Go.Proofs.YthfnkgofkdahfaaGreatDoor
