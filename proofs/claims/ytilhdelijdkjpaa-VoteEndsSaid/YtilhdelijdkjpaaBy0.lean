/-
  What a core's bytes are, plainly; bounds.
-/
import Derived.Test.YtilhdelijdkjpaaVQ
set_option linter.unusedVariables false
set_option linter.unusedSimpArgs false
namespace Go.Proofs.Ytilhdelijdkjpaa
open Go Go.RowKit Go.Maps Sac

/-- One vote's bytes. -/
def voteB (v : Vt) : Bs := four v.view.toNat ++ four v.value.length ++ v.value
theorem four_len (n : Nat) : (four n).length = 4 := rfl
theorem voteB_len (v : Vt) : (voteB v).length = 8 + v.value.length := by
  unfold voteB
  rw [List.length_append, List.length_append, four_len, four_len]
theorem votesB_eq (l : List Vt) : votesB l = four l.length ++ l.flatMap voteB := rfl
theorem votesB_len (l : List Vt) : 8 * l.length + 4 ≤ (votesB l).length := by
  rw [votesB_eq, List.length_append, four_len]
  have : 8 * l.length ≤ (l.flatMap voteB).length := by
    induction l with
    | nil => simp
    | cons a l ih => rw [List.flatMap_cons, List.length_append, voteB_len, List.length_cons]; omega
  omega

/-- Its length is within bounds. -/
structure ByOk (c : Core) : Prop where
  view : 0 ≤ c.view ∧ c.view ≤ 4294967295
  me : 1 ≤ c.me ∧ c.me ≤ 64
  prepares : MapsOk c.prepares
  commits : MapsOk c.commits
  len2 : ∀ q ∈ c.prepares, ∀ r ∈ q.2, r.2.length ≤ 4294967295
  len3 : ∀ q ∈ c.commits, ∀ r ∈ q.2, r.2.length ≤ 4294967295
  len0 : c.value.length ≤ 4294967295
  all : (bytesC c).length ≤ 30000000000

end Go.Proofs.Ytilhdelijdkjpaa
