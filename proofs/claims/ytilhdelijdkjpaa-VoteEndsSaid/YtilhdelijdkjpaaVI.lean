/-
  What every step keeps, and that there are not many of them: plainly.
-/
import Derived.Test.YtilhdelijdkjpaaVZ
set_option linter.unusedVariables false
set_option linter.unusedSimpArgs false
namespace Go.Proofs.Ytilhdelijdkjpaa
open Go Go.RowKit Go.Maps Sac

/-- A core in order: CoreIn, and the views seen are views. -/
structure CoreOk (c : Core) : Prop where
  inn : CoreIn c
  seen : ∀ p ∈ c.seen, 0 ≤ p.2 ∧ p.2 ≤ 4294967295
/-- Its maps are sorted. -/
structure CoreSrt (c : Core) : Prop where
  props : Srt c.proposals
  prepares : Srt c.prepares ∧ ∀ p ∈ c.prepares, Srt p.2
  commits : Srt c.commits ∧ ∀ p ∈ c.commits, Srt p.2

theorem CoreAt.srt {acc : Bs → Bool} {col : Colour} {ci b : Nat} {w : World} {c : Core} (h : CoreAt acc col ci w b c) : CoreSrt c := by
  obtain ⟨fv, wi, lo, va, pb, pp, cm, tn, sn, dc, h⟩ := h
  obtain ⟨_, l, hm, hr⟩ := id h.hpb
  exact ⟨hr.srt hm.srt, h.hpp.srts, h.hcm.srts⟩

theorem countP_lt {α : Type} {p q : α → Bool} : ∀ {l : List α}, (∀ x ∈ l, p x = true → q x = true) → (∃ x ∈ l, q x = true ∧ p x = false) → l.countP p < l.countP q
  | [], _, ⟨x, hx, _⟩ => by cases hx
  | a :: l, h, ⟨x, hx, h1, h2⟩ => by
    have hle : l.countP p ≤ l.countP q := List.countP_mono_left (fun y hy => h y (List.mem_cons_of_mem _ hy))
    have ha := h a List.mem_cons_self
    rcases List.mem_cons.1 hx with rfl | hx
    · simp only [List.countP_cons, h1, h2, if_true]
      have : (if (false = true) then 1 else 0) = 0 := rfl
      omega
    · have hlt := countP_lt (fun y hy => h y (List.mem_cons_of_mem _ hy)) ⟨x, hx, h1, h2⟩
      simp only [List.countP_cons]
      cases hp : p a
      · simp only [Bool.false_eq_true, if_false]; exact Nat.lt_of_lt_of_le hlt (Nat.le_add_right _ _)
      · rw [ha hp]; simpa using hlt

theorem turn_some {c c' : Core} (hok : CoreIn c) (h : turnC c = some c') : ∃ v, v ∈ c.seen.map (·.2) ∧ c.view < v ∧ c' = { c with view := v } := by
  unfold turnC at h
  dsimp only at h
  split at h
  · cases h
  · rename_i h1
    split at h
    · cases h
    · rename_i h2
      have hf : 0 ≤ faults c.n := by unfold faults; have := hok.n; omega
      have hlt : (views c).length - 1 - (faults c.n).toNat < (views c).length := by omega
      refine ⟨_, ?_, by omega, (Option.some.inj h).symm⟩
      have hm : (views c).getD ((views c).length - 1 - (faults c.n).toNat) 0 ∈ views c := by
        rw [List.getD_eq_getElem?_getD, List.getElem?_eq_getElem hlt]
        exact List.getElem_mem hlt
      exact (perm_sortI _).mem_iff.1 hm

theorem ite01 (b : Bool) : (if b = true then 0 else 1 : Nat) ≤ 1 := by cases b <;> decide

theorem turn_rest {c c' : Core} (hok : CoreIn c) (h : turnC c = some c') : rest c' < rest c := by
  obtain ⟨v, hv, hlt, rfl⟩ := turn_some hok h
  obtain ⟨p, hp, rfl⟩ := List.mem_map.1 hv
  have h1 : c.seen.countP (fun q => decide (p.2 < q.2)) < c.seen.countP (fun q => decide (c.view < q.2)) :=
    countP_lt (fun x _ hx => by simp at hx ⊢; omega) ⟨p, hp, by simpa using hlt, by simp⟩
  have h2 := ite01 (lookM c.proposals p.2).isSome
  have h3 := ite01 (lookM (inner c.prepares p.2) c.me).isSome
  have h4 := ite01 (lookM (inner c.commits p.2) c.me).isSome
  unfold rest
  dsimp only
  omega

theorem turn_ok {c c' : Core} (hok : CoreOk c) (h : turnC c = some c') : CoreOk c' := by
  obtain ⟨v, hv, hlt, rfl⟩ := turn_some hok.inn h
  obtain ⟨p, hp, rfl⟩ := List.mem_map.1 hv
  have := hok.seen p hp
  have hi := hok.inn
  exact ⟨⟨hi.n, hi.me, hi.slot, this, hi.lock, hi.props, hi.prepares, hi.commits, hi.turns, hi.deciders, hi.seen, hi.len1, hi.len2, hi.len3, hi.len0, hi.len6⟩, hok.seen⟩

theorem propose_some {c c' : Core} (h : proposeC c = some c') : (lookM c.proposals c.view).isSome = false ∧ ∃ p, c' = { c with proposals := putM c.view p c.proposals } ∧ ((∃ r, best c c.view = some r ∧ p = (r.2, r.1)) ∨ p = (c.wish, -1)) := by
  unfold proposeC at h
  split at h
  · cases h
  · rename_i h1
    have hno : (lookM c.proposals c.view).isSome = false := by
      cases hx : (lookM c.proposals c.view).isSome
      · rfl
      · exact absurd (.inl hx) h1
    split at h
    · rename_i view value hb
      exact ⟨hno, _, (Option.some.inj h).symm, .inl ⟨_, hb, rfl⟩⟩
    · split at h
      · exact ⟨hno, _, (Option.some.inj h).symm, .inr rfl⟩
      · cases h

theorem propose_rest {c c' : Core} (hs : CoreSrt c) (h : proposeC c = some c') : rest c' < rest c := by
  obtain ⟨hno, p, rfl, _⟩ := propose_some h
  unfold rest
  dsimp only
  rw [lookM_putM _ _ _ hs.props, if_pos rfl, hno]
  simp only [Option.isSome_some, if_true, Bool.false_eq_true, if_false]
  omega

theorem propose_ok {c c' : Core} (hok : CoreOk c) (h : proposeC c = some c') : CoreOk c' := by
  obtain ⟨hno, p, rfl, hp⟩ := propose_some h
  have hi := hok.inn
  have hpb : p.1.length ≤ 4096 ∧ -1 ≤ p.2 ∧ p.2 ≤ 4294967295 := by
    rcases hp with ⟨r, hr, rfl⟩ | rfl
    · have := best_len hi hr
      exact ⟨this.1, by show -1 ≤ r.1; omega, this.2.2⟩
    · exact ⟨hi.len0.1, by show (-1 : Int) ≤ -1; decide, by show (-1 : Int) ≤ 4294967295; decide⟩
  refine ⟨⟨hi.n, hi.me, hi.slot, hi.view, hi.lock, fun q hq => ?_, hi.prepares, hi.commits, hi.turns, hi.deciders, hi.seen, fun q hq => ?_, hi.len2, hi.len3, hi.len0, hi.len6⟩, hok.seen⟩
  · rcases mem_putM _ _ _ hq with rfl | hq
    · exact hi.view
    · exact hi.props q hq
  · rcases mem_putM _ _ _ hq with rfl | hq
    · exact hpb
    · exact hi.len1 q hq

theorem setV_some {m m' : List (Int × TellM)} {view who : Int} {v : Bs} (h : setV m view who v = some m') : lookM (inner m view) who = none ∧ m' = putM view (putM who v (inner m view)) m := by
  unfold setV at h
  split at h
  · cases h
  · rename_i hn
    exact ⟨hn, (Option.some.inj h).symm⟩

theorem inner_srt {m : List (Int × TellM)} (hs : ∀ p ∈ m, Srt p.2) (view : Int) : Srt (inner m view) := by
  unfold inner
  cases hl : lookM m view with
  | none => exact List.Pairwise.nil
  | some t => exact hs _ (lookM_mem hl)
theorem inner_put {m : List (Int × TellM)} (hs : Srt m) (view : Int) (t : TellM) : inner (putM view t m) view = t := by
  unfold inner
  rw [lookM_putM _ _ _ hs, if_pos rfl]
  rfl
theorem mapsOk_put {m : List (Int × TellM)} (h : MapsOk m) {view who : Int} (hv : 0 ≤ view ∧ view ≤ 4294967295) (hw : 1 ≤ who ∧ who ≤ 64) (v : Bs) : MapsOk (putM view (putM who v (inner m view)) m) := by
  intro q hq
  rcases mem_putM _ _ _ hq with rfl | hq
  · refine ⟨hv.1, hv.2, fun r hr => ?_⟩
    rcases mem_putM _ _ _ hr with rfl | hr
    · exact hw
    · unfold inner at hr
      cases hl : lookM m view with
      | none => rw [hl] at hr; cases hr
      | some t => rw [hl] at hr; exact (h _ (lookM_mem hl)).2.2 r hr
  · exact h q hq
theorem len_put {m : List (Int × TellM)} (h : ∀ p ∈ m, ∀ q ∈ p.2, q.2.length ≤ 4096) {view who : Int} {v : Bs} (hv : v.length ≤ 4096) : ∀ p ∈ putM view (putM who v (inner m view)) m, ∀ q ∈ p.2, q.2.length ≤ 4096 := by
  intro p hp q hq
  rcases mem_putM _ _ _ hp with rfl | hp
  · rcases mem_putM _ _ _ hq with rfl | hq
    · exact hv
    · unfold inner at hq
      cases hl : lookM m view with
      | none => rw [hl] at hq; cases hq
      | some t => rw [hl] at hq; exact h _ (lookM_mem hl) q hq
  · exact h p hp q hq

theorem prepare_some {acc : Bs → Bool} {c c' : Core} (h : prepareC acc c = some c') : ∃ p, lookM c.proposals c.view = some p ∧ lookM (inner c.prepares c.view) c.me = none ∧ c' = { c with prepares := putM c.view (putM c.me p.1 (inner c.prepares c.view)) c.prepares } := by
  unfold prepareC at h
  split at h
  · cases h
  · rename_i p hp
    split at h
    · cases h
    · obtain ⟨m, hm, rfl⟩ := Option.map_eq_some_iff.1 h
      obtain ⟨h1, rfl⟩ := setV_some hm
      exact ⟨p, hp, h1, rfl⟩
theorem prepare_rest {acc : Bs → Bool} {c c' : Core} (hs : CoreSrt c) (h : prepareC acc c = some c') : rest c' < rest c := by
  obtain ⟨p, hp, hno, rfl⟩ := prepare_some h
  unfold rest
  dsimp only
  rw [inner_put hs.prepares.1, lookM_putM _ _ _ (inner_srt hs.prepares.2 _), if_pos rfl, hno]
  simp only [Option.isSome_some, Option.isSome_none, if_true, Bool.false_eq_true, if_false]
  omega
theorem prepare_ok {acc : Bs → Bool} {c c' : Core} (hok : CoreOk c) (h : prepareC acc c = some c') : CoreOk c' := by
  obtain ⟨p, hp, hno, rfl⟩ := prepare_some h
  have hi := hok.inn
  have hn := hi.n
  have hm := hi.me
  exact ⟨⟨hi.n, hi.me, hi.slot, hi.view, hi.lock, hi.props, mapsOk_put hi.prepares hi.view ⟨hm.1, by omega⟩ _, hi.commits, hi.turns, hi.deciders, hi.seen, hi.len1, len_put hi.len2 (hi.len1 _ (lookM_mem hp)).1, hi.len3, hi.len0, hi.len6⟩, hok.seen⟩

theorem commit_some {c c' : Core} (h : commitC c = some c') : ∃ v, prepared c c.view = some v ∧ lookM (inner c.commits c.view) c.me = none ∧ c' = { c with commits := putM c.view (putM c.me v (inner c.commits c.view)) c.commits, lock := c.view, locked := v } := by
  unfold commitC at h
  split at h
  · cases h
  · rename_i v hv
    split at h
    · cases h
    · obtain ⟨m, hm, rfl⟩ := Option.map_eq_some_iff.1 h
      obtain ⟨h1, rfl⟩ := setV_some hm
      exact ⟨v, hv, h1, rfl⟩
theorem commit_rest {c c' : Core} (hs : CoreSrt c) (h : commitC c = some c') : rest c' < rest c := by
  obtain ⟨p, hp, hno, rfl⟩ := commit_some h
  unfold rest
  dsimp only
  rw [inner_put hs.commits.1, lookM_putM _ _ _ (inner_srt hs.commits.2 _), if_pos rfl, hno]
  simp only [Option.isSome_some, Option.isSome_none, if_true, Bool.false_eq_true, if_false]
  omega
theorem commit_ok {c c' : Core} (hok : CoreOk c) (h : commitC c = some c') : CoreOk c' := by
  obtain ⟨v, hv, hno, rfl⟩ := commit_some h
  have hi := hok.inn
  have hn := hi.n
  have hm := hi.me
  have hl := prepared_len hi hv
  exact ⟨⟨hi.n, hi.me, hi.slot, hi.view, ⟨by have := hi.view; show -1 ≤ c.view; omega, hi.view.2⟩, hi.props, hi.prepares, mapsOk_put hi.commits hi.view ⟨hm.1, by omega⟩ _, hi.turns, hi.deciders, hi.seen, hi.len1, hi.len2, len_put hi.len3 hl, ⟨hi.len0.1, hl, hi.len0.2.2⟩, hi.len6⟩, hok.seen⟩

theorem decide_is (c : Core) : ∃ d v, decideC c = { c with decided := d, value := v } ∧ ((∃ q, (∃ p ∈ c.commits, q ∈ p.2) ∧ v = q.2) ∨ (∃ q ∈ c.deciders, v = q.2) ∨ v = []) := by
  unfold decideC
  split
  · rename_i v hv
    refine ⟨_, _, rfl, .inl ?_⟩
    unfold agreed at hv
    obtain ⟨p, hp, h2⟩ := List.exists_of_findSome?_eq_some hv
    obtain ⟨q, hq, rfl⟩ := count_len h2
    exact ⟨q, ⟨p, hp, hq⟩, rfl⟩
  · split
    · rename_i v hv
      obtain ⟨q, hq, rfl⟩ := count_len hv
      exact ⟨_, _, rfl, .inr (.inl ⟨q, hq, rfl⟩)⟩
    · exact ⟨_, _, rfl, .inr (.inr rfl)⟩
theorem decide_rest {c : Core} (h : c.decided = false) (hd : (decideC c).decided = true) : rest (decideC c) < rest c := by
  obtain ⟨d, v, he, _⟩ := decide_is c
  rw [he] at hd ⊢
  dsimp only at hd
  subst hd
  unfold rest
  dsimp only
  rw [h]
  simp only [if_true, Bool.false_eq_true, if_false]
  omega
theorem decide_ok {c : Core} (hok : CoreOk c) : CoreOk (decideC c) := by
  obtain ⟨d, v, he, hv⟩ := decide_is c
  rw [he]
  have hi := hok.inn
  have hl : v.length ≤ 4096 := by
    rcases hv with ⟨q, ⟨p, hp, hq⟩, rfl⟩ | ⟨q, hq, rfl⟩ | rfl
    · exact hi.len3 p hp q hq
    · exact hi.len6 q hq
    · exact Nat.zero_le _
  exact ⟨⟨hi.n, hi.me, hi.slot, hi.view, hi.lock, hi.props, hi.prepares, hi.commits, hi.turns, hi.deciders, hi.seen, hi.len1, hi.len2, hi.len3, ⟨hi.len0.1, hi.len0.2.1, hl⟩, hi.len6⟩, hok.seen⟩

theorem step_ok {acc : Bs → Bool} {c : Core} (hok : CoreOk c) : CoreOk (stepC acc c).1 := by
  unfold stepC
  split
  · rename_i c' h; exact turn_ok hok h
  · split
    · rename_i c' h; exact propose_ok hok h
    · split
      · rename_i c' h; exact prepare_ok hok h
      · split
        · rename_i c' h; exact commit_ok hok h
        · exact decide_ok hok
theorem step_rest {acc : Bs → Bool} {c : Core} (hok : CoreOk c) (hs : CoreSrt c) (hd : c.decided = false) (h : (stepC acc c).2 = true) : rest (stepC acc c).1 < rest c := by
  unfold stepC at h ⊢
  split
  · rename_i c' h; exact turn_rest hok.inn h
  · rename_i e1
    split
    · rename_i c' h; exact propose_rest hs h
    · rename_i e2
      split
      · rename_i c' h; exact prepare_rest hs h
      · rename_i e3
        split
        · rename_i c' h; exact commit_rest hs h
        · rename_i e4
          rw [e1, e2, e3, e4] at h
          exact decide_rest hd h

end Go.Proofs.Ytilhdelijdkjpaa
