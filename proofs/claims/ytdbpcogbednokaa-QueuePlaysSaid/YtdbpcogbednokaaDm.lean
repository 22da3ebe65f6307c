/-
  The document's queue, plainly told: things in the order in which they were put; which one is the next; all in order.
-/
import Derived.Test.YtdbpcogbednokaaPl
set_option linter.unusedVariables false
set_option linter.unusedSimpArgs false
namespace Go.Proofs.Ytdbpcogbednokaa

theorem snocInd {α : Type} {P : List α → Prop} (h0 : P []) (h1 : ∀ D e, P D → P (D ++ [e])) (D : List α) : P D := by
  rw [← List.reverse_reverse D]
  generalize D.reverse = R
  induction R with
  | nil => exact h0
  | cons e R ih => rw [List.reverse_cons]; exact h1 _ _ ih

/-- All in order, the first put ahead. -/
def sortS (D : List (Int × Int)) : List (Int × Int) := D.foldl (fun s e => ins e.1 e.2 s) []

theorem sortS_nil : sortS [] = [] := rfl
theorem sortS_snoc (D : List (Int × Int)) (e : Int × Int) : sortS (D ++ [e]) = ins e.1 e.2 (sortS D) := by
  unfold sortS; rw [List.foldl_append]; rfl

theorem perm_sortS (D : List (Int × Int)) : (sortS D).Perm D := by
  induction D using snocInd with
  | h0 => exact List.Perm.refl _
  | h1 D e ih =>
    rw [sortS_snoc]
    exact ((perm_ins _ _ _).trans (ih.cons _)).trans (List.perm_append_singleton e D).symm

theorem length_sortS (D : List (Int × Int)) : (sortS D).length = D.length := (perm_sortS D).length_eq

/-- By rising ticks. -/
def Ups (S : List (Int × Int)) : Prop := S.Pairwise (fun a b => a.1 ≤ b.1)

theorem ups_ins (d x : Int) (S : List (Int × Int)) (h : Ups S) : Ups (ins d x S) := by
  induction S with
  | nil => simp [ins, Ups]
  | cons b r ih =>
    have h' := List.pairwise_cons.1 h
    unfold ins
    split
    · rename_i hle
      refine List.pairwise_cons.2 ⟨?_, ih h'.2⟩
      intro e he
      rcases (mem_ins d x r e).1 he with rfl | he
      · exact hle
      · exact h'.1 e he
    · rename_i hle
      refine List.pairwise_cons.2 ⟨?_, h⟩
      intro e he
      rcases List.mem_cons.1 he with rfl | he
      · show d ≤ e.1; omega
      · have := h'.1 e he
        show d ≤ e.1; omega

theorem ups_sortS (D : List (Int × Int)) : Ups (sortS D) := by
  induction D using snocInd with
  | h0 => exact List.Pairwise.nil
  | h1 D e ih => rw [sortS_snoc]; exact ups_ins _ _ _ ih

theorem ins_front (d x : Int) (S : List (Int × Int)) (h : ∀ e ∈ S, d < e.1) : ins d x S = (d, x) :: S := by
  cases S with
  | nil => rfl
  | cons b r =>
    unfold ins
    rw [if_neg]
    have := h b (by simp)
    omega

theorem filter_ins (p : Int × Int → Bool) (d x : Int) (S : List (Int × Int)) (h : Ups S) : (ins d x S).filter p = if p (d, x) = true then ins d x (S.filter p) else S.filter p := by
  induction S with
  | nil => unfold ins; by_cases hp : p (d, x) = true <;> simp [hp, ins]
  | cons b r ih =>
    have h' := List.pairwise_cons.1 h
    show List.filter p (if b.1 ≤ d then b :: ins d x r else (d, x) :: b :: r) = _
    by_cases hle : b.1 ≤ d
    · rw [if_pos hle]
      by_cases hb : p b = true
      · rw [List.filter_cons_of_pos hb, List.filter_cons_of_pos hb, ih h'.2]
        split
        · show _ = ins d x (b :: _)
          rw [ins, if_pos hle]
        · rfl
      · rw [List.filter_cons_of_neg hb, List.filter_cons_of_neg hb, ih h'.2]
    · rw [if_neg hle]
      have hall : ∀ e ∈ (b :: r).filter p, d < e.1 := by
        intro e he
        have he := (List.mem_filter.1 he).1
        rcases List.mem_cons.1 he with rfl | he
        · omega
        · have := h'.1 e he
          omega
      split
      · rename_i hp
        rw [List.filter_cons_of_pos hp, ins_front _ _ _ hall]
      · rename_i hp
        rw [List.filter_cons_of_neg hp]

theorem sortS_filter (p : Int × Int → Bool) (D : List (Int × Int)) : sortS (D.filter p) = (sortS D).filter p := by
  induction D using snocInd with
  | h0 => rfl
  | h1 D e ih =>
    rw [List.filter_append, sortS_snoc, filter_ins p _ _ _ (ups_sortS D)]
    by_cases hp : p e = true
    · rw [if_pos hp, show List.filter p [e] = [e] from by simp [hp], sortS_snoc, ih]
    · rw [if_neg hp, show List.filter p [e] = [] from by simp [hp], List.append_nil, ih]

/-- Place i holds the next one: none is ahead of it. -/
def NextAt (D : List (Int × Int)) (i : Nat) : Prop := i < D.length ∧ (∀ j, j < D.length → (D.getD i default).1 ≤ (D.getD j default).1) ∧ ∀ j, j < i → (D.getD i default).1 < (D.getD j default).1

theorem getD_snoc_lt (D : List (Int × Int)) (e : Int × Int) {i : Nat} (h : i < D.length) : (D ++ [e]).getD i default = D.getD i default := by
  simp [List.getD_eq_getElem?_getD, List.getElem?_append_left h]
theorem getD_snoc_eq (D : List (Int × Int)) (e : Int × Int) : (D ++ [e]).getD D.length default = e := by
  simp [List.getD_eq_getElem?_getD]

theorem sortS_next (D : List (Int × Int)) : ∀ i, NextAt D i → sortS D = D.getD i default :: sortS (D.eraseIdx i) := by
  induction D using snocInd with
  | h0 => intro i h; exact absurd h.1 (by simp)
  | h1 D e ih =>
    intro i ⟨hi, hall, hlt⟩
    have hlen : (D ++ [e]).length = D.length + 1 := by simp
    by_cases hid : i < D.length
    · rw [getD_snoc_lt D e hid] at hall hlt ⊢
      have hn : NextAt D i := ⟨hid, fun j hj => by have := hall j (by omega); rwa [getD_snoc_lt D e hj] at this, fun j hj => by have := hlt j hj; rwa [getD_snoc_lt D e (by omega)] at this⟩
      have he := hall D.length (by omega)
      rw [getD_snoc_eq] at he
      rw [sortS_snoc, ih i hn, List.eraseIdx_append_of_lt_length hid, sortS_snoc]
      show ins e.1 e.2 (_ :: _) = _
      rw [ins, if_pos he]
    · obtain rfl : i = D.length := by omega
      rw [getD_snoc_eq] at hall hlt ⊢
      rw [sortS_snoc, List.eraseIdx_append_of_length_le (Nat.le_refl _)]
      simp only [Nat.sub_self, List.eraseIdx_cons_zero, List.append_nil]
      refine ins_front _ _ _ fun f hf => ?_
      have hf := (perm_sortS D).mem_iff.1 hf
      obtain ⟨j, hj, rfl⟩ := List.getElem_of_mem hf
      have := hlt j hj
      rw [getD_snoc_lt D e hj, List.getD_eq_getElem?_getD, List.getElem?_eq_getElem hj] at this
      exact this

/-- The document's search: the place of the next one among the first k; -1: none. -/
def firstTo (D : List (Int × Int)) : Nat → Int
  | 0 => -1
  | k + 1 => if firstTo D k < 0 ∨ (D.getD k default).1 < (D.getD (firstTo D k).toNat default).1 then k else firstTo D k

theorem firstTo_spec (D : List (Int × Int)) (k : Nat) : (k = 0 ∧ firstTo D k = -1) ∨ ∃ i : Nat, firstTo D k = i ∧ i < k ∧ (∀ j, j < k → (D.getD i default).1 ≤ (D.getD j default).1) ∧ ∀ j, j < i → (D.getD i default).1 < (D.getD j default).1 := by
  induction k with
  | zero => exact .inl ⟨rfl, rfl⟩
  | succ k ih =>
    right
    unfold firstTo
    rcases ih with ⟨rfl, h⟩ | ⟨i, h, hi, hall, hlt⟩
    · rw [h, if_pos (.inl (by decide))]
      exact ⟨0, rfl, by omega, fun j hj => by obtain rfl : j = 0 := by omega
                                              exact Int.le_refl _, fun j hj => by omega⟩
    · rw [h]
      by_cases hk : (D.getD k default).1 < (D.getD i default).1
      · rw [if_pos (.inr (by simpa using hk))]
        refine ⟨k, rfl, by omega, fun j hj => ?_, fun j hj => ?_⟩
        · rcases Nat.lt_or_ge j k with h1 | h1
          · have := hall j h1; omega
          · obtain rfl : j = k := by omega
            exact Int.le_refl _
        · have := hall j hj; omega
      · rw [if_neg (by simp only [Int.toNat_natCast]; omega)]
        refine ⟨i, rfl, by omega, fun j hj => ?_, hlt⟩
        rcases Nat.lt_or_ge j k with h1 | h1
        · exact hall j h1
        · obtain rfl : j = k := by omega
          omega

theorem firstTo_next {D : List (Int × Int)} (h : D ≠ []) : ∃ i : Nat, firstTo D D.length = i ∧ NextAt D i := by
  rcases firstTo_spec D D.length with ⟨h0, _⟩ | ⟨i, e, hi, hall, hlt⟩
  · exact absurd (List.eq_nil_of_length_eq_zero h0) h
  · exact ⟨i, e, hi, hall, hlt⟩

theorem eraseIdx_take_drop (D : List (Int × Int)) (i : Nat) : D.eraseIdx i = D.take i ++ D.drop (i + 1) := List.eraseIdx_eq_take_drop_succ D i

end Go.Proofs.Ytdbpcogbednokaa
