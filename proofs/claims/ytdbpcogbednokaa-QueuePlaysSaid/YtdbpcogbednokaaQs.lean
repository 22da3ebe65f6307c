/-
  What a queue is: a list of ticks and things, in order; a thing more; and how that stands to items with numbers.
-/
import Derived.Test.YtdbpcogbednokaaF
namespace Go.Proofs.Ytdbpcogbednokaa

def ins (d x : Int) : List (Int × Int) → List (Int × Int)
  | [] => [(d, x)]
  | e :: r => if e.1 ≤ d then e :: ins d x r else (d, x) :: e :: r

def insT (a : Item) : List Item → List Item
  | [] => [a]
  | b :: r => if b.due ≤ a.due then b :: insT a r else a :: b :: r

def Item.key (a : Item) : Int × Int := (a.due, a.x)
def Sorted (T : List Item) : Prop := T.Pairwise (fun a b => a.lt b = true)

theorem lt_iff (a b : Item) : a.lt b = true ↔ a.due < b.due ∨ a.due = b.due ∧ a.num < b.num := by simp [Item.lt, ahead2]

theorem perm_insT (a : Item) (T : List Item) : (insT a T).Perm (a :: T) := by
  induction T with
  | nil => exact List.Perm.refl _
  | cons b r ih =>
    unfold insT
    split
    · exact (ih.cons b).trans (List.Perm.swap a b r)
    · exact List.Perm.refl _

theorem map_insT (a : Item) (T : List Item) : (insT a T).map Item.key = ins a.due a.x (T.map Item.key) := by
  induction T with
  | nil => rfl
  | cons b r ih =>
    unfold insT
    simp only [List.map_cons, ins]
    show List.map Item.key (if b.due ≤ a.due then _ else _) = if b.due ≤ a.due then _ else _
    split
    · simp [ih]
    · simp [Item.key]

theorem mem_insT (a : Item) (T : List Item) (b : Item) : b ∈ insT a T ↔ b = a ∨ b ∈ T := by
  rw [(perm_insT a T).mem_iff]; simp

theorem sorted_insT (a : Item) (T : List Item) (h : Sorted T) (hn : ∀ b ∈ T, b.num < a.num) : Sorted (insT a T) := by
  induction T with
  | nil => simp [insT, Sorted]
  | cons b r ih =>
    have h' := List.pairwise_cons.1 h
    unfold insT
    split
    · rename_i hle
      refine List.pairwise_cons.2 ⟨?_, ih h'.2 fun c hc => hn c (by simp [hc])⟩
      intro c hc
      rcases (mem_insT a r c).1 hc with rfl | hc
      · have := hn b (by simp)
        rw [lt_iff]; omega
      · exact h'.1 c hc
    · rename_i hle
      refine List.pairwise_cons.2 ⟨?_, h⟩
      intro c hc
      rw [lt_iff]
      rcases List.mem_cons.1 hc with rfl | hc
      · omega
      · have := (lt_iff _ _).1 (h'.1 c hc)
        omega

/-- The root of a heap is the first of its items in order. -/
theorem root_first {L T : List Item} {t : Item} (hh : Hp.IsHeap Item.lt (at0 L) L.length) (hp : L.Perm (t :: T)) (hs : Sorted (t :: T)) : at0 L 0 = t := by
  have hl : L.length = T.length + 1 := by rw [hp.length_eq]; rfl
  have hr : at0 L 0 ∈ L := by
    have := some_at0 (L := L) (i := 0) (by omega)
    exact List.mem_of_getElem? this
  have ht : t ∈ L := hp.mem_iff.2 (by simp)
  obtain ⟨i, hi, hit⟩ := List.getElem_of_mem ht
  have h1 : at0 L i = t := by
    have := some_at0 (L := L) (i := i) hi
    rw [List.getElem?_eq_getElem hi, hit] at this
    simpa using this.symm
  have h2 := Hp.root_least ordItem hh i i (Nat.le_refl _) hi
  rw [h1] at h2
  rcases List.mem_cons.1 (hp.mem_iff.1 hr) with h3 | h3
  · exact h3
  · have := (List.pairwise_cons.1 hs).1 _ h3
    rw [this] at h2
    cases h2

end Go.Proofs.Ytdbpcogbednokaa
