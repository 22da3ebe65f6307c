/-
  What a core begins anew from, plainly; how long it is.
-/
import Derived.Test.YtilhdelijdkjpaaRd
import Derived.Test.YtilhdelijdkjpaaBy0
set_option linter.unusedVariables false
set_option linter.unusedSimpArgs false
namespace Go.Proofs.Ytilhdelijdkjpaa
open Go Go.RowKit Go.Maps Sac

/-- The last view, and what the core itself told in it. -/
def lastC (me : Int) (m : List (Int × TellM)) : Int × Bs := match m.getLast? with
  | none => (-1, [])
  | some p => (p.1, (lookM p.2 me).getD [])
/-- The core that is read. -/
def readC (n me slot : Int) (view : Nat) (m2 m3 : List (Int × TellM)) (dec : Bool) (value : Bs) : Core :=
  { newCore n me slot with view := view, prepares := m2, commits := m3, lock := (lastC me m3).1, locked := (lastC me m3).2, decided := dec, value := value }
def parseC (n me slot : Int) (b : Bs) : Option Core :=
  match fourR (b, false) with
  | (view, r1) => match fourR r1 with
    | (k2, r2) => match votesR me view k2 (-1) r2 [] with
      | (r3, m2) => match fourR r3 with
        | (k3, r4) => match votesR me view k3 (-1) r4 [] with
          | (r5, m3) => match takeR 1 r5 with
            | (kind, r6) => match fourR r6 with
              | (ln, r7) => match takeR ln r7 with
                | (value, r8) => if r8.2 = true ∨ 1048576 < (view : Int) ∨ kind.length ≠ 1 ∨ 1 < kind.headD 0 then none else some (readC n me slot view m2 m3 (kind.headD 0 == 1) value)
def ofC (n me slot : Int) (b : Bs) : Option Core := (parseC n me slot b).bind fun c => if bytesC c = b then some c else none

theorem takeR_acc {n : Nat} {r : RdS} (h : (takeR n r).2.2 = false) : r.2 = false ∧ (takeR n r).2.1.length + n = r.1.length ∧ (takeR n r).1.length = n := by
  unfold takeR at h ⊢
  split
  · rename_i h1; rw [if_pos h1] at h; cases h
  · rename_i h1
    rw [if_neg h1] at h
    rw [List.length_drop, List.length_take]
    exact ⟨h, by omega, by omega⟩
theorem fourR_acc {r : RdS} (h : (fourR r).2.2 = false) : r.2 = false ∧ (fourR r).2.1.length + 4 = r.1.length := by
  have := takeR_acc (n := 4) (r := r) h
  exact ⟨this.1, this.2.1⟩

/-- How long a core's own votes are. -/
def term (me : Int) (t : TellM) : Nat := match lookM t me with
  | none => 0
  | some v => 8 + v.length
def tot (me : Int) (m : List (Int × TellM)) : Nat := (m.map fun p => term me p.2).sum
theorem tot_put (me k : Int) (t : TellM) : ∀ m, tot me (putM k t m) ≤ tot me m + term me t
  | [] => by simp [tot, putM]
  | p :: m => by
    have ih := tot_put me k t m
    unfold tot at ih ⊢
    unfold putM
    split
    · simp; omega
    · split
      · simp; omega
      · simp; omega
theorem look_put_self {α : Type} (k : Int) (v : α) : ∀ l : List (Int × α), lookM (putM k v l) k = some v
  | [] => by simp [putM, lookM_cons]
  | p :: l => by
    have ih := look_put_self k v l
    unfold putM
    split
    · rw [lookM_cons, if_pos rfl]
    · split
      · rw [lookM_cons, if_pos rfl]
      · rw [lookM_cons, if_neg (by omega)]; exact ih
theorem mine_tot (c : Core) (kind : Int) (m : List (Int × TellM)) : ((mine c kind m).flatMap voteB).length = tot c.me m := by
  induction m with
  | nil => rfl
  | cons p m ih =>
    unfold mine at ih ⊢
    unfold tot at ih ⊢
    rw [List.filterMap_cons, List.map_cons, List.sum_cons, ← ih]
    unfold term
    cases lookM p.2 c.me with
    | none => simp
    | some v => simp [voteB_len]
theorem votesR_acc (me cv : Int) : ∀ (k : Nat) (last : Int) (r : RdS) (m : List (Int × TellM)), (votesR me cv k last r m).1.2 = false → r.2 = false ∧ tot me (votesR me cv k last r m).2 + (votesR me cv k last r m).1.1.length ≤ tot me m + r.1.length
  | 0, _, _, _, h => ⟨h, Nat.le_refl _⟩
  | k + 1, last, r, m, h => by
    unfold votesR at h ⊢
    split at h
    · cases h
    · rename_i hc
      rw [if_neg hc]
      obtain ⟨h1, h2⟩ := votesR_acc me cv k _ _ _ h
      obtain ⟨a1, a2, a3⟩ := takeR_acc h1
      obtain ⟨b1, b2⟩ := fourR_acc a1
      obtain ⟨c1, c2⟩ := fourR_acc b1
      refine ⟨c1, Nat.le_trans h2 ?_⟩
      have key : tot me ((setV m (fourR r).1 me (takeR (fourR (fourR r).2).1 (fourR (fourR r).2).2).1).getD m) ≤ tot me m + (8 + (takeR (fourR (fourR r).2).1 (fourR (fourR r).2).2).1.length) := by
        cases hs : setV m (fourR r).1 me (takeR (fourR (fourR r).2).1 (fourR (fourR r).2).2).1 with
        | none => exact Nat.le_add_right _ _
        | some m' =>
          obtain ⟨_, rfl⟩ := setV_some hs
          refine Nat.le_trans (tot_put _ _ _ _) (Nat.add_le_add_left ?_ _)
          unfold term
          rw [look_put_self]
          exact Nat.le_refl _
      omega
/-- Values are no longer than a number of four bytes tells. -/
theorem votesR_lens (me cv : Int) : ∀ (k : Nat) (last : Int) (r : RdS) (m : List (Int × TellM)), (∀ x ∈ r.1, x < 256) → (∀ q ∈ m, ∀ s ∈ q.2, s.2.length ≤ 4294967295) → ∀ q ∈ (votesR me cv k last r m).2, ∀ s ∈ q.2, s.2.length ≤ 4294967295
  | 0, _, _, _, _, h => h
  | k + 1, last, r, m, hb, h => by
    unfold votesR
    split
    · exact h
    · have sub : ∀ (n : Nat) (r : RdS), (∀ x ∈ r.1, x < 256) → ∀ x ∈ (takeR n r).2.1, x < 256 := fun n r hr => by
        unfold takeR
        split
        · exact hr
        · exact fun x hx => hr x (List.mem_of_mem_drop hx)
      have h1 := sub 4 r hb
      have h2 := sub 4 (fourR r).2 h1
      refine votesR_lens me cv k _ _ _ (sub _ _ h2) ?_
      cases hs : setV m (fourR r).1 me (takeR (fourR (fourR r).2).1 (fourR (fourR r).2).2).1 with
      | none => exact h
      | some m' =>
        obtain ⟨_, rfl⟩ := setV_some hs
        have hv : (takeR (fourR (fourR r).2).1 (fourR (fourR r).2).2).1.length ≤ 4294967295 := by
          have := fourR_lt (r := (fourR r).2) h1
          unfold takeR
          split
          · exact Nat.zero_le _
          · rw [List.length_take]; omega
        intro q hq s hs
        rcases mem_putM _ _ _ hq with rfl | hq
        · rcases mem_putM _ _ _ hs with rfl | hs
          · exact hv
          · unfold inner at hs
            cases hl : lookM m (fourR r).1 with
            | none => rw [hl] at hs; cases hs
            | some t => rw [hl] at hs; exact h _ (lookM_mem hl) s hs
        · exact h q hq s hs
end Go.Proofs.Ytilhdelijdkjpaa
