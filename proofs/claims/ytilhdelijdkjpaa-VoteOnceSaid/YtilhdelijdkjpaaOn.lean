/-
  What is told once of a view stays: the plain law of VoteOnce. No program in sight.
-/
import Derived.Test.YtilhdelijdkjpaaVp
set_option linter.unusedVariables false
set_option linter.unusedSimpArgs false
namespace Go.Proofs.Ytilhdelijdkjpaa
open Go Go.RowKit Go.Maps Sac

/-- What a core itself told, of a kind, in a view. -/
def ownKV (c : Core) (k v : Int) : Option Bs := if k = 2 then ownP c v else if k = 3 then ownC c v else none
/-- What was noted, by peer, kind and view, is what the peers still tell. -/
def SaidOk (S : Int → Int → Int → Option Bs) (l : List Core) : Prop := ∀ i k v s, S i k v = some s → ∃ (j : Nat) (c : Core), i = (j : Int) ∧ l[j]? = some c ∧ ownKV c k v = some s
theorem SaidOk.set {S : Int → Int → Int → Option Bs} {l : List Core} (h : SaidOk S l) {i : Nat} {c c' : Core} (hi : l[i]? = some c) (hm : ∀ k v s, ownKV c k v = some s → ownKV c' k v = some s) : SaidOk S (l.set i c') := by
  intro i' k v s e
  obtain ⟨j, d, rfl, hj, hd⟩ := h i' k v s e
  by_cases hij : i = j
  · subst hij
    rw [hi] at hj
    injection hj with hj
    subst hj
    exact ⟨i, c', rfl, List.getElem?_set_self (List.getElem?_eq_some_iff.1 hi).1, hm k v s hd⟩
  · exact ⟨j, d, rfl, by rw [List.getElem?_set_ne hij]; exact hj, hd⟩
theorem Keep.own {c c' : Core} (h : Keep c c') (k v : Int) (s : Bs) (e : ownKV c k v = some s) : ownKV c' k v = some s := by
  unfold ownKV at e ⊢
  split
  · rename_i h2
    rw [if_pos h2] at e
    exact h.oP v s e
  · rename_i h2
    rw [if_neg h2] at e
    split
    · rename_i h3
      rw [if_pos h3] at e
      exact h.oC v s e
    · rename_i h3
      rw [if_neg h3] at e
      cases e
theorem anew_ownKV {n me slot : Int} {c : Core} (h : Loc n me slot c) (k v : Int) : ownKV (anewC c) k v = ownKV c k v := by
  unfold ownKV
  rw [anew_ownP h, anew_ownC h]
theorem says_ownKV {n me slot : Int} {c : Core} (h : Loc n me slot c) {v : Vt} (hv : v ∈ Sac.says c) (hk : v.kind = 2 ∨ v.kind = 3) : ownKV c v.kind v.view = some v.value := by
  have no : ∀ {k : Int}, v.kind = k → k ≠ 2 → k ≠ 3 → False := fun e h2 h3 => by rcases hk with h | h <;> omega
  unfold Sac.says at hv
  rcases List.mem_append.1 hv with hv | hv
  · rcases List.mem_append.1 hv with hv | hv
    · rcases List.mem_append.1 hv with hv | hv
      · split at hv
        · exact (no (k := 4) (by rw [List.mem_singleton.1 hv]) (by decide) (by decide)).elim
        · exact (no (k := 5) (by rw [List.mem_singleton.1 hv]) (by decide) (by decide)).elim
      · split at hv
        · split at hv
          · exact (no (k := 1) (by rw [List.mem_singleton.1 hv]) (by decide) (by decide)).elim
          · cases hv
        · cases hv
    · obtain ⟨e1, _, _, _, e5⟩ := mem_mine h.srt.prepares.1 hv
      unfold ownKV
      rw [if_pos e1]
      exact e5
  · obtain ⟨e1, _, _, _, e5⟩ := mem_mine h.srt.commits.1 hv
    unfold ownKV
    rw [if_neg (by rw [e1]; decide), if_pos e1]
    exact e5

theorem ownKV_in {n me slot : Int} {c : Core} (h : Loc n me slot c) {k v : Int} {s : Bs} (e : ownKV c k v = some s) : 0 ≤ v ∧ v ≤ 1048576 := by
  have hv := h.view
  unfold ownKV at e
  split at e
  · have := h.oP _ _ e; omega
  · split at e
    · have := h.oC _ _ e; omega
    · cases e
/-- The peers, and what was noted. -/
def OInv (n : Nat) (slot : Int) (wrong : List Bool) (S : Int → Int → Int → Option Bs) (l : List Core) : Prop := LInv n slot wrong notV l ∧ SaidOk S l
theorem OInv.kept (n : Nat) (slot : Int) (wrong : List Bool) (S : Int → Int → Int → Option Bs) : Kept n slot wrong (fun _ => True) (OInv n slot wrong S) (OInv n slot wrong S) (fun l v => TrueV n (rightL wrong) (LTells n slot l) v) where
  inv h := h.1
  keep h := h
  take h hi hv := ⟨⟨(h.1.take hi hv).1, h.2.set hi ((h.1.loc hi).keep_take _).own⟩, fun _ hu => hu.mono (h.1.take hi hv).2⟩
  late h hi := ⟨h.1.late hi, h.2.set hi (h.1.loc hi).keep_late.own⟩
  wish _ h hi := ⟨h.1.wish hi _, h.2.set hi ((h.1.loc hi).keep_wish _).own⟩
  anew h hi := ⟨h.1.anew hi, h.2.set hi (fun k v s e => (anew_ownKV (h.1.loc hi) k v).trans e)⟩
  says h hi _ hv := h.1.says hi hv
  wrongs _ hw hv := trueV_wrong hw hv
/-- One more is noted. -/
def note (S : Int → Int → Int → Option Bs) (i k v : Int) (s : Bs) : Int → Int → Int → Option Bs := fun i' k' v' => if i' = i ∧ k' = k ∧ v' = v then some s else S i' k' v'
theorem SaidOk.note {S : Int → Int → Int → Option Bs} {l : List Core} (h : SaidOk S l) {i : Nat} {c : Core} (hi : l[i]? = some c) {k v : Int} {s : Bs} (ho : ownKV c k v = some s) : SaidOk (note S (i : Int) k v s) l := by
  intro i' k' v' s' e
  unfold Go.Proofs.Ytilhdelijdkjpaa.note at e
  split at e
  · rename_i hh
    obtain ⟨rfl, rfl, rfl⟩ := hh
    injection e with e
    subst e
    exact ⟨i, c, rfl, hi, ho⟩
  · exact h _ _ _ _ e
theorem SaidOk.eq {S : Int → Int → Int → Option Bs} {l : List Core} (h : SaidOk S l) {i : Nat} {c : Core} (hi : l[i]? = some c) {k v : Int} {s t : Bs} (e : S (i : Int) k v = some s) (ho : ownKV c k v = some t) : s = t := by
  obtain ⟨j, d, hj, hd, hs⟩ := h _ _ _ _ e
  obtain rfl : i = j := by omega
  rw [hi] at hd
  injection hd with hd
  subst hd
  rw [ho] at hs
  exact (Option.some.inj hs).symm
end Go.Proofs.Ytilhdelijdkjpaa
