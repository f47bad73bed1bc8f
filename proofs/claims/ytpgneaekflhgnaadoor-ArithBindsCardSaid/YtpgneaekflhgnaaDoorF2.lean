/-
  Plain: how ArithBinds spells a row; Eval of a row of numbers.
-/
import Derived.Test.YtpgneaekflhgnaaDoorA18
import Derived.Test.YtpgneaekflhgnaaDoorD1
import Derived.Test.YtpgneaekflhgnaaDoorD3
import Derived.Test.YtpgneaekflhgnaaDoorD6
import Derived.Test.YtpgneaekflhgnaaDoorD7
namespace Go.Proofs.YtpgneaekflhgnaaDoor
open Go.RowKit

/-- What ArithBinds has spelled behind k numbers. -/
def Pre (bl : Bool) (xs : List Int) (ss : List ByteArray) (k : Nat) (t : ByteArray) : Prop :=
  (k = 0 ∧ t = ⟨#[]⟩) ∨ ∃ (n : Int) (l : List Tok), k = l.length + 1 ∧ xs.take k = n :: l.map (·.2) ∧ ss.take (k - 1) = l.map (fun t => S (opB t.1)) ∧ Num n ∧ Row l ∧ L t = padB bl ++ (Lib.decDigits n.toNat ++ tailS bl l)
theorem tailS_snoc (bl : Bool) (o : Nat) (y : Int) : ∀ l : List Tok, tailS bl (l ++ [(o, y)]) = tailS bl l ++ (opB o ++ (padB bl ++ Lib.decDigits y.toNat))
  | [] => by
    show opB o ++ (padB bl ++ (Lib.decDigits y.toNat ++ [])) = _
    rw [List.append_nil]; rfl
  | (p, z) :: l => by
    rw [List.cons_append, tailS, tailS, tailS_snoc bl o y l]
    simp only [List.append_assoc]
theorem opB_len : ∀ o, o < 18 → (opB o).length ≤ 2 := by decide
theorem pad_len (bl : Bool) : (padB bl).length ≤ 1 := by cases bl <;> decide
theorem num_len {n : Int} (h : Num n) : (Lib.decDigits n.toNat).length ≤ 20 := dec_len20 (by obtain ⟨a, b⟩ := h; omega)
theorem tailS_len (bl : Bool) : ∀ l : List Tok, Row l → (tailS bl l).length ≤ l.length * 23
  | [], _ => Nat.zero_le _
  | (o, y) :: l, h => by
    have h1 := opB_len o (h (o, y) (by simp)).1
    have h2 := pad_len bl
    have h3 : (Lib.decDigits y.toNat).length ≤ 20 := num_len (h (o, y) (by simp)).2
    have h4 := tailS_len bl l fun t ht => h t (by simp [ht])
    rw [tailS, List.length_append, List.length_append, List.length_append, List.length_cons]
    omega
theorem Pre.len {bl : Bool} {xs : List Int} {ss : List ByteArray} {k : Nat} {t : ByteArray} (h : Pre bl xs ss k t) : t.size ≤ k * 23 := by
  rcases h with ⟨rfl, rfl⟩ | ⟨n, l, rfl, _, _, hn, hl, ht⟩
  · exact Nat.zero_le _
  · have h1 := pad_len bl
    have h2 := num_len hn
    have h3 := tailS_len bl l hl
    rw [← L_size, ht, List.length_append, List.length_append]
    omega
theorem take_one {α : Type} {l : List α} {k : Nat} {x : α} (h : l[k]? = some x) : l.take (k + 1) = l.take k ++ [x] := by
  rw [List.take_add_one, h]; rfl
/-- The first number. -/
theorem Pre.first {bl : Bool} {xs : List Int} {ss : List ByteArray} {x : Int} {t : ByteArray} (hx : xs[0]? = some x) (hn : Num x) (ht : L t = padB bl ++ Lib.decDigits x.toNat) : Pre bl xs ss 1 t := by
  refine .inr ⟨x, [], rfl, ?_, by simp, hn, fun t ht => absurd ht (by simp), ?_⟩
  · rw [take_one hx]; rfl
  · rw [ht, tailS, List.append_nil]
/-- One more sign and number. -/
theorem Pre.next {bl : Bool} {xs : List Int} {ss : List ByteArray} {k o : Nat} {x : Int} {s t t' : ByteArray} (h : Pre bl xs ss k t) (hk : 0 < k) (hx : xs[k]? = some x) (hs : ss[k - 1]? = some s) (ho : o < 18) (hso : L s = opB o) (hn : Num x)
    (ht : L t' = L t ++ (opB o ++ (padB bl ++ Lib.decDigits x.toNat))) : Pre bl xs ss (k + 1) t' := by
  rcases h with ⟨h0, _⟩ | ⟨n, l, hk2, h1, h2, h3, h4, h5⟩
  · omega
  · refine .inr ⟨n, l ++ [(o, x)], by simp; omega, ?_, ?_, h3, ?_, ?_⟩
    · rw [take_one hx, h1]; simp
    · have e : k + 1 - 1 = k - 1 + 1 := by omega
      rw [e, take_one hs, h2, List.map_append]
      have : s = S (opB o) := by rw [← hso, S_L]
      rw [this]; rfl
    · intro t ht
      rcases List.mem_append.1 ht with ht | ht
      · exact h4 t ht
      · have : t = (o, x) := by simpa using ht
        subst this
        exact ⟨ho, hn⟩
    · rw [ht, h5, tailS_snoc]
      simp only [List.append_assoc]
theorem eval_num {w : World} {s : ByteArray} {pv : Value} {T : TypeId} {bl : Bool} {n : Int} {l : List Tok} (hs : s.size ≤ 1000) (hn : Num n) (hl : Row l) (ht : L s = padB bl ++ (Lib.decDigits n.toNat ++ tailS bl l)) :
    Calls Tryd.prog 8 #[.string s, .iface T pv] w fun e w' => ((∃ v : Int, e = .returned (.tuple #[.int .i64 v, .int .i64 0]) ∧ worth apO n l = some v) ∨ (worth apO n l = none ∧ e = .returned (.tuple #[.int .i64 0, .int .i64 32]))) ∧ Below w.heap.size w w' := by
  refine (eval_of s T pv w (rest := Lib.decDigits n.toNat ++ tailS bl l) (by omega) (by rw [ht]; exact skip_pad bl n.toNat _) (by
    intro h
    exact dec_ne n.toNat (List.append_eq_nil_iff.1 h).1) (w.heap.size + 1 + 1) (.inr rfl) (fun v _ => worth apO n l = some v) (worth apO n l = none) 32 (fun v W p u _ h => h) ?_).mono ?_
  · intro W hsr hb
    refine (assign_num hsr (by omega) hn hl (by omega) (by omega)).mono ?_
    rintro e w' ⟨⟨v, rfl, h1, h2⟩ | ⟨h1, rfl⟩, h3⟩
    · exact ⟨.inl ⟨v, rfl, h2, h1⟩, h3⟩
    · exact ⟨.inr ⟨h1, rfl⟩, h3⟩
  · rintro e w' ⟨h, hb⟩
    exact ⟨h, hb.below (by omega) (by omega) (Nat.le_refl _)⟩
theorem Num.inI {n : Int} (h : Num n) : inI n := ⟨by obtain ⟨a, b⟩ := h; omega, h.2⟩
/-- The document's worth of a row, through its tree. -/
theorem ev_row {w : World} {n : Int} {l : List Tok} {cs : List Value} {lo : Nat} (hn : Num n) (hl : Row l) (hl12 : l.length ≤ 12) (h : EC w lo (rowT 13 n l) cs) :
    Calls Tryd.prog 9 #[.agg cs.toArray, .slice none 0 0] w fun e w' => e = .returned (evV (worth apO n l)) ∧ Below w.heap.size w w' := by
  have h2 := ev_any (rowT 13 n l) cs lo w h (allI_row 13 n l hn.inI fun t ht => ⟨(hl t ht).1, (hl t ht).2.inI⟩)
  rw [evalT_row 13 n l (by omega), rowV_fuel apO 13 (l.length + 1) n l (by omega) (by omega)] at h2
  exact h2
end Go.Proofs.YtpgneaekflhgnaaDoor
