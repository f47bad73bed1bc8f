/-
  strings.Split at a separator of one byte: its pieces, plain and as a contract.
-/
import Derived.Test.YtdelgbkllnccoaaDoorOwnS
import Derived.Test.YtdelgbkllnccoaaDoorHeld
import Derived.Test.YtdelgbkllnccoaaDoorShelf
import Derived.Lib.SplitLaws
import Derived.Lib.IndexLaws
import Derived.Lib.IndexBytes
namespace Go.Proofs.YtdelgbkllnccoaaDoor
open Go.RowKit

/-- The pieces of a list, cut at a byte. -/
def sp (c : UInt8) : List UInt8 → List (List UInt8)
  | [] => [[]]
  | d :: l => if d = c then [] :: sp c l else match sp c l with
    | [] => [[d]]
    | p :: ps => (d :: p) :: ps

theorem sp_no {c : UInt8} : ∀ {l : List UInt8}, c ∉ l → sp c l = [l]
  | [], _ => rfl
  | d :: l, h => by
    have h1 : d ≠ c := fun e => h (by simp [e])
    rw [sp, if_neg h1, sp_no (fun h' => h (by simp [h']))]
theorem sp_app {c : UInt8} : ∀ {a : List UInt8} (b : List UInt8), c ∉ a → sp c (a ++ c :: b) = a :: sp c b
  | [], b, _ => by rw [List.nil_append, sp, if_pos rfl]
  | d :: a, b, h => by
    have h1 : d ≠ c := fun e => h (by simp [e])
    rw [List.cons_append, sp, if_neg h1, sp_app b (fun h' => h (by simp [h']))]
theorem sp_ne (c : UInt8) : ∀ l, sp c l ≠ []
  | [] => by simp [sp]
  | d :: l => by
    rw [sp]
    split
    · simp
    · split <;> simp

theorem split_sp (c : UInt8) : ∀ (n : Nat) (l : List UInt8), l.length ≤ n → Lib.splitK [c] 0 (Lib.count l [c]) l = sp c l
  | n, l, hn => by
    by_cases h : Lib.indexByte l c < 0
    · have h1 : Lib.indexByte l c = -1 := by have := Lib.indexByte_ge l c; omega
      have hno : c ∉ l := fun hm => by
        obtain ⟨k, hk, e⟩ := List.getElem_of_mem hm
        exact Lib.indexByte_none h1 k (by rw [List.getElem?_eq_getElem hk, e])
      rw [Lib.count_miss (by rw [Lib.index_one]; exact h1), sp_no hno]; rfl
    · obtain ⟨o, ho⟩ := Int.eq_ofNat_of_zero_le (Int.not_lt.1 h)
      obtain ⟨h1, h2⟩ := Lib.indexByte_some ho
      have hidx : Lib.index l [c] = o := by rw [Lib.index_one]; exact ho
      have hol : o < l.length := (List.getElem?_eq_some_iff.1 h1).1
      have el : l = l.take o ++ c :: l.drop (o + 1) := by
        have := (List.getElem?_eq_some_iff.1 h1).2
        rw [← this, ← List.drop_eq_getElem_cons hol, List.take_append_drop]
      have hno : c ∉ l.take o := fun hm => by
        obtain ⟨k, hk, e⟩ := List.getElem_of_mem hm
        have hko : k < o := by rw [List.length_take] at hk; omega
        refine h2 k hko ?_
        rw [List.getElem_take] at e
        rw [List.getElem?_eq_getElem (by omega), e]
      match n, hn with
      | 0, hn => omega
      | n + 1, hn =>
        have ih := split_sp c n (l.drop (o + 1)) (by rw [List.length_drop]; omega)
        rw [Lib.count_hit (by simp) hidx, Nat.add_comm 1, Lib.splitK, if_neg (by rw [hidx]; simp), hidx]
        conv => rhs; rw [el]
        rw [sp_app _ hno]
        have e2 : ((o : Int).toNat + [c].length) = o + 1 := by simp
        rw [e2]
        simp only [Int.toNat_natCast, Nat.add_zero]
        rw [show o + [c].length = o + 1 from rfl, ih]

theorem split_any (s : ByteArray) (c : UInt8) (w : World) (hs : s.size ≤ 100000) (hv : Held w) :
    Calls Tryd.prog 51 #[.string s, .string ⟨#[c]⟩] w fun e w' => ∃ a cap xs, e = .returned (.slice a (xs : List ByteArray).length cap) ∧ xs = (sp c (L s)).map S ∧ Elems w' w'.heap.size a xs.length (xs.map Value.string) ∧ xs.length ≤ s.size + 1 ∧ Below w.heap.size w w' := by
  obtain ⟨m, hm⟩ := hv.1
  have hl := Lib.splitB_all ⟨#[c]⟩ (Nat.le_refl _) 0 _ s rfl
  have hle := Lib.countB_le ⟨#[c]⟩ (Nat.le_refl _) s.size s (Nat.le_refl _)
  refine (Tryd.strings_Split s ⟨#[c]⟩ m w (by omega) hm (Nat.le_refl _)).mono fun e w' ⟨he, hw⟩ => ?_
  refine ⟨some ⟨w.heap.size, 0, none⟩, Lib.countB s ⟨#[c]⟩ + 1, Lib.splitB ⟨#[c]⟩ 0 (Lib.countB s ⟨#[c]⟩) s, ?_, ?_, ?_, ?_, ?_⟩
  · rw [hl]; exact he
  · have h1 := Lib.splitB_data ⟨#[c]⟩ 0 (Lib.countB s ⟨#[c]⟩) s
    have h2 : Lib.splitK [c] 0 (Lib.countB s ⟨#[c]⟩) s.data.toList = sp c (L s) := split_sp c _ (L s) (Nat.le_refl _)
    rw [← h2]
    have h3 := congrArg (List.map S) h1
    rw [List.map_map] at h3
    rw [show (S ∘ fun x : ByteArray => x.data.toList) = id from funext fun x => S_L x, List.map_id] at h3
    exact h3
  · subst hw
    refine ⟨by simp, by unfold maxLen; omega, .inr ⟨w.heap.size, 0, rfl, by simp, fun i hi => ?_⟩⟩
    have hi' : i < ((Lib.splitB ⟨#[c]⟩ 0 (Lib.countB s ⟨#[c]⟩) s).map Value.string).length := by simpa using hi
    rw [Nat.zero_add]
    unfold World.cell?
    rw [heap_alloc_new]
    simp
  · rw [hl]; omega
  · subst hw
    exact Below.alloc (Below.refl _ _) (Nat.le_refl _) _
end Go.Proofs.YtdelgbkllnccoaaDoor
