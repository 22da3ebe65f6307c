/-
  What the laws' first loop puts, plainly told.
-/
import Derived.Test.YtdbpcogbednokaaQs
namespace Go.Proofs.Ytdbpcogbednokaa

def okDue (d : Int) : Bool := decide (0 ≤ d ∧ d ≤ 1099511627776)

/-- What is in the queue when the first k ticks have been put, each with its place. -/
def puts (zs : List Int) : Nat → List (Int × Int)
  | 0 => []
  | k + 1 => if okDue (zs.getD k 0) = true then ins (zs.getD k 0) k (puts zs k) else puts zs k

/-- e comes ahead of f. -/
def Pre (e f : Int × Int) : Prop := e.1 < f.1 ∨ e.1 = f.1 ∧ e.2 < f.2

theorem perm_ins (d x : Int) (S : List (Int × Int)) : (ins d x S).Perm ((d, x) :: S) := by
  induction S with
  | nil => exact List.Perm.refl _
  | cons b r ih =>
    unfold ins
    split
    · exact (ih.cons b).trans (List.Perm.swap _ b r)
    · exact List.Perm.refl _

theorem mem_ins (d x : Int) (S : List (Int × Int)) (e : Int × Int) : e ∈ ins d x S ↔ e = (d, x) ∨ e ∈ S := by
  rw [(perm_ins d x S).mem_iff]; simp

theorem length_ins (d x : Int) (S : List (Int × Int)) : (ins d x S).length = S.length + 1 := by
  rw [(perm_ins d x S).length_eq]; rfl

theorem pre_ins (d x : Int) (S : List (Int × Int)) (h : S.Pairwise Pre) (hx : ∀ e ∈ S, e.2 < x) : (ins d x S).Pairwise Pre := by
  induction S with
  | nil => simp [ins]
  | cons b r ih =>
    have h' := List.pairwise_cons.1 h
    unfold ins
    split
    · rename_i hle
      refine List.pairwise_cons.2 ⟨?_, ih h'.2 fun e he => hx e (by simp [he])⟩
      intro e he
      rcases (mem_ins d x r e).1 he with rfl | he
      · have := hx b (by simp)
        unfold Pre
        by_cases hd : b.1 = d
        · exact .inr ⟨hd, this⟩
        · exact .inl (by show b.1 < d; omega)
      · exact h'.1 e he
    · rename_i hle
      refine List.pairwise_cons.2 ⟨?_, h⟩
      intro e he
      rcases List.mem_cons.1 he with rfl | he
      · exact .inl (by show d < e.1; omega)
      · have := h'.1 e he
        unfold Pre at this ⊢
        left
        show d < e.1
        omega

theorem mem_puts (zs : List Int) (k : Nat) (e : Int × Int) (h : e ∈ puts zs k) : ∃ i : Nat, i < k ∧ e = (zs.getD i 0, (i : Int)) ∧ okDue (zs.getD i 0) = true := by
  induction k with
  | zero => cases h
  | succ k ih =>
    unfold puts at h
    split at h
    · rename_i hok
      rcases (mem_ins _ _ _ _).1 h with rfl | h
      · exact ⟨k, by omega, rfl, hok⟩
      · obtain ⟨i, hi, r⟩ := ih h
        exact ⟨i, by omega, r⟩
    · obtain ⟨i, hi, r⟩ := ih h
      exact ⟨i, by omega, r⟩

theorem pre_puts (zs : List Int) (k : Nat) : (puts zs k).Pairwise Pre := by
  induction k with
  | zero => exact List.Pairwise.nil
  | succ k ih =>
    unfold puts
    split
    · refine pre_ins _ _ _ ih fun e he => ?_
      obtain ⟨i, hi, rfl, _⟩ := mem_puts zs k e he
      show (i : Int) < k
      omega
    · exact ih

theorem length_puts (zs : List Int) (k : Nat) : (puts zs k).length ≤ k := by
  induction k with
  | zero => exact Nat.le_refl _
  | succ k ih =>
    unfold puts
    split
    · rw [length_ins]; omega
    · omega

/-- How many of them are due by now. -/
def soon (now : Int) (S : List (Int × Int)) : Nat := S.countP (fun e => decide (e.1 ≤ now))

theorem soon_ins (now d x : Int) (S : List (Int × Int)) : soon now (ins d x S) = soon now S + if d ≤ now then 1 else 0 := by
  unfold soon
  rw [(perm_ins d x S).countP_eq, List.countP_cons]
  simp

theorem soon_le (now : Int) (S : List (Int × Int)) : soon now S ≤ S.length := List.countP_le_length

/-- In an ordered list the first is due if any is. -/
theorem soon_head (now : Int) (e : Int × Int) (S : List (Int × Int)) (h : (e :: S).Pairwise Pre) (hs : 0 < soon now (e :: S)) : e.1 ≤ now ∧ soon now S + 1 = soon now (e :: S) := by
  have h' := List.pairwise_cons.1 h
  by_cases he : e.1 ≤ now
  · refine ⟨he, ?_⟩
    unfold soon
    rw [List.countP_cons]
    simp [he]
  · exfalso
    have : soon now (e :: S) = 0 := by
      unfold soon
      rw [List.countP_eq_zero]
      intro f hf
      rcases List.mem_cons.1 hf with rfl | hf
      · simpa using he
      · have := h'.1 f hf
        unfold Pre at this
        simp; omega
    omega

theorem soon_none (now : Int) (e : Int × Int) (S : List (Int × Int)) (hs : soon now (e :: S) = 0) : now < e.1 := by
  unfold soon at hs
  rw [List.countP_eq_zero] at hs
  have := hs e (by simp)
  simpa using this

end Go.Proofs.Ytdbpcogbednokaa
