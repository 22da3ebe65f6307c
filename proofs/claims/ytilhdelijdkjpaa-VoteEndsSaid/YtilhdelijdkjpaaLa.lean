import Derived.Test.YtilhdelijdkjpaaVp
set_option linter.unusedVariables false
set_option linter.unusedSimpArgs false
/-
  What whatever happens keeps of peers of whom none is wrong: nothing is left to be done, and nothing is known of views in which nobody has been. No program in sight.
-/
namespace Go.Proofs.Ytilhdelijdkjpaa
open Go Go.RowKit Go.Maps Sac

/-- Nothing can be done. -/
def Still (acc : Bs → Bool) (c : Core) : Prop := c.decided = true ∨ (turnC c = none ∧ proposeC c = none ∧ prepareC acc c = none ∧ commitC c = none ∧ (decideC c).decided = false)

section
variable {n me slot : Int} {c c' : Core} {acc : Bs → Bool}
theorem Loc.decide_same (h : Loc n me slot c) (hd : c.decided = false) (h2 : (decideC c).decided = false) : decideC c = c := by
  have hv := h.val hd
  unfold decideC at h2 ⊢
  split
  · rename_i v e; rw [e] at h2; cases h2
  · rename_i e
    rw [e] at h2
    split
    · rename_i v e2
      dsimp only at h2
      rw [e2] at h2; cases h2
    · rw [← hd, ← hv]
theorem step_false {r : Core} (h : stepC acc c = (r, false)) : turnC c = none ∧ proposeC c = none ∧ prepareC acc c = none ∧ commitC c = none ∧ r = decideC c ∧ (decideC c).decided = false := by
  unfold stepC at h
  split at h
  · cases h
  · rename_i e1
    split at h
    · cases h
    · rename_i e2
      split at h
      · cases h
      · rename_i e3
        split at h
        · cases h
        · rename_i e4
          injection h with h1 h2
          exact ⟨e1, e2, e3, e4, h1.symm, h2⟩
theorem Loc.actN_still : ∀ {k : Nat} {c : Core}, Loc n me slot c → rest c < k → Still acc (Sac.actN acc k c)
  | 0, _, _, h => absurd h (Nat.not_lt_zero _)
  | k + 1, c, hl, h => by
    unfold Sac.actN
    split
    · rename_i hd
      exact .inl hd
    · rename_i hd
      have hd : c.decided = false := by cases e : c.decided; rfl; exact absurd e hd
      have hl2 := Loc.step (acc := acc) hl
      split
      · rename_i c' e
        have hr := step_rest (acc := acc) hl.ok hl.srt hd (by rw [e])
        rw [e] at hr hl2
        exact hl2.actN_still (by omega)
      · rename_i c' e
        obtain ⟨e1, e2, e3, e4, rfl, e6⟩ := step_false e
        rw [hl.decide_same hd e6]
        exact .inr ⟨e1, e2, e3, e4, e6⟩
theorem Loc.act_still (h : Loc n me slot c) : Still acc (Sac.act acc c) := h.actN_still (Nat.lt_succ_self _)

/-- What acting leaves of a core. -/
structure Acts (c c' : Core) : Prop where
  seen : c'.seen = c.seen
  wish : c'.wish = c.wish ∧ c'.wishes = c.wishes
  props : ∀ p ∈ c'.proposals, p ∈ c.proposals ∨ p.1 ≤ c'.view
  view : c'.view = c.view ∨ ∃ p ∈ c.seen, c'.view = p.2
theorem Acts.refl (c : Core) : Acts c c := ⟨rfl, ⟨rfl, rfl⟩, fun _ h => .inl h, .inl rfl⟩
theorem Loc.acts_step (h : Loc n me slot c) : Acts c (stepC acc c).1 := by
  unfold stepC
  split
  · rename_i c' e
    obtain ⟨v, hv, hlt, rfl⟩ := turn_some h.ok.inn e
    obtain ⟨p, hp, rfl⟩ := List.mem_map.1 hv
    exact ⟨rfl, ⟨rfl, rfl⟩, fun _ h => .inl h, .inr ⟨p, hp, rfl⟩⟩
  · split
    · rename_i c' e
      obtain ⟨_, p, rfl, _⟩ := propose_some e
      refine ⟨rfl, ⟨rfl, rfl⟩, fun q hq => ?_, .inl rfl⟩
      rcases mem_putM _ _ _ hq with rfl | hq
      · exact .inr (Int.le_refl _)
      · exact .inl hq
    · split
      · rename_i c' e
        obtain ⟨p, _, _, rfl⟩ := prepare_some e
        exact ⟨rfl, ⟨rfl, rfl⟩, fun _ h => .inl h, .inl rfl⟩
      · split
        · rename_i c' e
          obtain ⟨v, _, _, rfl⟩ := commit_some e
          exact ⟨rfl, ⟨rfl, rfl⟩, fun _ h => .inl h, .inl rfl⟩
        · obtain ⟨d, v, he, _⟩ := decide_is c
          show Acts c (decideC c)
          rw [he]
          exact ⟨rfl, ⟨rfl, rfl⟩, fun _ h => .inl h, .inl rfl⟩
theorem Acts.trans {a b d : Core} (h : Acts a b) (k : Acts b d) (hv : b.view ≤ d.view) : Acts a d := by
  refine ⟨k.seen.trans h.seen, ⟨k.wish.1.trans h.wish.1, k.wish.2.trans h.wish.2⟩, fun p hp => ?_, ?_⟩
  · rcases k.props p hp with e | e
    · rcases h.props p e with e | e
      · exact .inl e
      · exact .inr (Int.le_trans e hv)
    · exact .inr e
  · rcases k.view with e | ⟨p, hp, e⟩
    · rcases h.view with e2 | ⟨p, hp, e2⟩
      · exact .inl (e.trans e2)
      · exact .inr ⟨p, hp, e.trans e2⟩
    · exact .inr ⟨p, h.seen ▸ hp, e⟩
theorem Loc.acts : ∀ {k : Nat} {c : Core}, Loc n me slot c → Acts c (Sac.actN acc k c)
  | 0, c, _ => Acts.refl c
  | k + 1, c, h => by
    unfold Sac.actN
    split
    · exact Acts.refl c
    · rename_i hd
      have hd : c.decided = false := by cases e : c.decided; rfl; exact absurd e hd
      have hs := Loc.step (acc := acc) h
      have ha := h.acts_step (acc := acc)
      split
      · rename_i e
        rw [e] at hs ha
        exact ha.trans hs.acts (hs.keep_act (acc := acc) (k := k)).view
      · rename_i e
        rw [e] at ha
        exact ha

/-- With little known there is nothing to be done. -/
theorem still_few (hn : 4 ≤ c.n) (hs : c.seen = []) (hp : c.proposals = []) (hw : c.wishes = false) (h2 : ∀ w, prepared c w = none) (h3 : agreed c = none) (hd : c.deciders = []) : Still acc c := by
  have hf : 0 ≤ faults c.n := by unfold faults; omega
  have hb : best c c.view = none := by
    unfold best
    rw [List.findSome?_eq_none_iff]
    intro p _
    rw [h2]
  refine .inr ⟨?_, ?_, ?_, ?_, ?_⟩
  · unfold turnC views
    rw [hs]
    exact if_pos hf
  · unfold proposeC
    split
    · rfl
    · rw [hb, hw]
      rfl
  · unfold prepareC
    rw [hp]
    rfl
  · unfold commitC
    rw [h2]
  · unfold decideC
    rw [h3, hd]
    rfl
theorem newCore_still (hn : 4 ≤ n) : Still acc (newCore n me slot) := still_few hn rfl rfl rfl (fun _ => rfl) rfl rfl
theorem count_one {k : Int} {v : Bs} {q : Int} (hq : 2 ≤ q) : count [(k, v)] q = none := by
  unfold count howMany
  rw [Option.map_eq_none_iff, List.find?_eq_none]
  intro p hp
  rw [List.mem_singleton.1 hp]
  simp
  omega
theorem quorum_two (hn : 4 ≤ n) : 2 ≤ quorum n := by unfold quorum; omega
theorem anew_still (h : Loc n me slot c) : Still acc (anewC c) := by
  have hn := h.ok.inn.n
  by_cases hd : c.decided = true
  · exact .inl hd
  · refine still_few (c := anewC c) hn.1 rfl rfl rfl (fun w => ?_) ?_ rfl
    · show count (inner (ownM c.me (mine c 2 c.prepares)) w) (quorum c.n) = none
      rw [inner_own c 2 w _ h.srt.prepares.1]
      split
      · rfl
      · exact count_one (quorum_two hn.1)
    · show (ownM c.me (mine c 3 c.commits)).findSome? (fun p => count p.2 (quorum c.n)) = none
      rw [List.findSome?_eq_none_iff]
      intro p hp
      obtain ⟨x, _, rfl⟩ := List.mem_map.1 hp
      exact count_one (quorum_two hn.1)
end

/-- What is kept among peers of whom none is wrong. -/
structure EInv (n : Nat) (slot : Int) (wrong : List Bool) (k : Int) (l : List Core) : Prop where
  inv : LInv n slot wrong notV l
  nowrong : ∀ i : Nat, wrong[i]? ≠ some true
  still : ∀ c ∈ l, Still notV c
  wish : ∀ c ∈ l, c.wishes = true → notV c.wish = true
  view : ∀ c ∈ l, c.view ≤ k
  props : ∀ c ∈ l, ∀ p ∈ c.proposals, ∃ d ∈ l, p.1 ≤ d.view
  seen : ∀ c ∈ l, ∀ p ∈ c.seen, ∃ d ∈ l, p.2 ≤ d.view
/-- What may come. -/
def ETrue (n : Nat) (slot : Int) (wrong : List Bool) (l : List Core) (v : Vt) : Prop := TrueV n (rightL wrong) (LTells n slot l) v ∧ ∃ d ∈ l, v.view ≤ d.view

theorem up_view {l : List Core} {i : Nat} {c c' : Core} (hi : l[i]? = some c) (hv : c.view ≤ c'.view) {x : Int} (h : ∃ d ∈ l, x ≤ d.view) : ∃ d ∈ l.set i c', x ≤ d.view := by
  obtain ⟨d, hd, hx⟩ := h
  have hil := (List.getElem?_eq_some_iff.1 hi).1
  obtain ⟨j, hj⟩ := List.mem_iff_getElem?.1 hd
  by_cases e : i = j
  · subst e
    rw [hi] at hj
    injection hj with hj
    subst hj
    exact ⟨c', List.mem_iff_getElem?.2 ⟨i, List.getElem?_set_self hil⟩, by omega⟩
  · exact ⟨d, List.mem_iff_getElem?.2 ⟨j, by rw [List.getElem?_set_ne e]; exact hj⟩, hx⟩
/-- A core acts, behind a change that taught it what is true. -/
theorem EInv.set {n : Nat} {slot : Int} {wrong : List Bool} {k k' : Int} {l : List Core} (h : EInv n slot wrong k l) {i : Nat} {c c1 c' : Core} (hi : l[i]? = some c) (hL : LInv n slot wrong notV (l.set i c')) (hk : k ≤ k')
    (hs : Still notV c') (ha : Acts c1 c') (hv : c.view ≤ c1.view) (hvk : c1.view ≤ k') (hv2 : c1.view ≤ c'.view) (hw : c1.wishes = true → notV c1.wish = true) (hp : ∀ p ∈ c1.proposals, ∃ d ∈ l, p.1 ≤ d.view) (hse : ∀ p ∈ c1.seen, ∃ d ∈ l, p.2 ≤ d.view) : EInv n slot wrong k' (l.set i c') := by
  have hil := (List.getElem?_eq_some_iff.1 hi).1
  have hcc : c.view ≤ c'.view := by omega
  have me : c' ∈ l.set i c' := List.mem_iff_getElem?.2 ⟨i, List.getElem?_set_self hil⟩
  refine ⟨hL, h.nowrong, fun d hd => ?_, fun d hd => ?_, fun d hd => ?_, fun d hd p hpp => ?_, fun d hd p hpp => ?_⟩
  all_goals rcases List.mem_or_eq_of_mem_set hd with hd | hd
  · exact h.still d hd
  · rw [hd]; exact hs
  · exact h.wish d hd
  · rw [hd, ha.wish.1, ha.wish.2]; exact hw
  · have := h.view d hd; omega
  · rw [hd]
    rcases ha.view with e | ⟨p, hpp, e⟩
    · omega
    · obtain ⟨d2, hd2, hx⟩ := hse p hpp
      have := h.view d2 hd2
      omega
  · exact up_view hi hcc (h.props d hd p hpp)
  · rw [hd] at hpp
    rcases ha.props p hpp with e | e
    · exact up_view hi hcc (hp p e)
    · exact ⟨c', me, e⟩
  · exact up_view hi hcc (h.seen d hd p hpp)
  · rw [hd, ha.seen] at hpp
    exact up_view hi hcc (hse p hpp)
theorem EInv.same {n : Nat} {slot : Int} {wrong : List Bool} {k k' : Int} {l : List Core} (h : EInv n slot wrong k l) (hk : k ≤ k') : EInv n slot wrong k' l :=
  ⟨h.inv, h.nowrong, h.still, h.wish, fun c hc => Int.le_trans (h.view c hc) hk, h.props, h.seen⟩
theorem set_same {l : List Core} {i : Nat} {c : Core} (hi : l[i]? = some c) : l.set i c = l := by
  obtain ⟨h1, h2⟩ := List.getElem?_eq_some_iff.1 hi
  rw [← h2]
  exact List.set_getElem_self h1

theorem know_props {c c' : Core} {v : Vt} (ht : Sac.know c v = some c') : (∀ p ∈ c'.proposals, p ∈ c.proposals ∨ p.1 = v.view) ∧ c'.seen = c.seen ∧ c'.wish = c.wish ∧ c'.wishes = c.wishes ∧ c'.view = c.view := by
  unfold Sac.know at ht
  split at ht
  · split at ht
    · cases ht
    · obtain rfl := Option.some.inj ht
      refine ⟨fun p hp => ?_, rfl, rfl, rfl, rfl⟩
      rcases mem_putM _ _ _ hp with rfl | hp
      · exact .inr rfl
      · exact .inl hp
  · split at ht
    · obtain ⟨m, hm, rfl⟩ := Option.map_eq_some_iff.1 ht
      exact ⟨fun p hp => .inl hp, rfl, rfl, rfl, rfl⟩
    · split at ht
      · obtain ⟨m, hm, rfl⟩ := Option.map_eq_some_iff.1 ht
        exact ⟨fun p hp => .inl hp, rfl, rfl, rfl, rfl⟩
      · split at ht
        · obtain ⟨m, hm, rfl⟩ := Option.map_eq_some_iff.1 ht
          exact ⟨fun p hp => .inl hp, rfl, rfl, rfl, rfl⟩
        · split at ht
          · cases ht
          · obtain rfl := Option.some.inj ht
            exact ⟨fun p hp => .inl hp, rfl, rfl, rfl, rfl⟩
theorem says_view {n me slot : Int} {c : Core} (h : Loc n me slot c) {v : Vt} (hv : v ∈ Sac.says c) : v.view ≤ c.view := by
  obtain ⟨o2, o3⟩ := own_in h
  have hi := h.ok.inn.view
  unfold Sac.says at hv
  rcases List.mem_append.1 hv with hv | hv
  · rcases List.mem_append.1 hv with hv | hv
    · rcases List.mem_append.1 hv with hv | hv
      · split at hv
        · rw [List.mem_singleton.1 hv]; exact hi.1
        · rw [List.mem_singleton.1 hv]; exact Int.le_refl _
      · split at hv
        · split at hv
          · rw [List.mem_singleton.1 hv]; exact Int.le_refl _
          · cases hv
        · cases hv
    · exact (o2 v hv).2.1
  · exact (o3 v hv).2.1
section
variable {n : Nat} {slot : Int} {wrong : List Bool} {k : Int} {l : List Core} {i : Nat} {c : Core}
theorem EInv.take (h : EInv n slot wrong k l) (hi : l[i]? = some c) {v : Vt} (hv : ETrue n slot wrong l v) : EInv n slot wrong k (l.set i (takeC notV c v).1) ∧ ∀ u, ETrue n slot wrong l u → ETrue n slot wrong (l.set i (takeC notV c v).1) u := by
  have hl := h.inv.loc hi
  have hmem : c ∈ l := List.mem_of_getElem? hi
  obtain ⟨hL, hT⟩ := h.inv.take hi hv.1
  have hkeep := (hl.keep_take (acc := notV) v)
  refine ⟨?_, fun u hu => ⟨hu.1.mono hT, up_view hi hkeep.view hu.2⟩⟩
  rcases takeC_cases notV c v with e | ⟨_, h2, h3, h4, c', h5, h6⟩
  · rw [e]
    show EInv n slot wrong k (l.set i c)
    rw [set_same hi]; exact h
  · have hin := (encOk_in h4).2
    obtain ⟨hl', _, _, _, _, _⟩ := hl.know hin (by rw [← hl.hn]; exact h2) (by rw [← hl.hme]; exact h3) h5
    obtain ⟨k1, k2, k3, k4, k5⟩ := know_props h5
    have hh := hl'.heard hin
    have e1 : (heard c' v).view = c.view ∧ (heard c' v).wish = c.wish ∧ (heard c' v).wishes = c.wishes ∧ (heard c' v).proposals = c'.proposals := by
      unfold heard
      split
      · exact ⟨k5, k3, k4, rfl⟩
      · exact ⟨k5, k3, k4, rfl⟩
    have e2 : ∀ p ∈ (heard c' v).seen, p ∈ c.seen ∨ p.2 ≤ v.view ∨ ∃ q ∈ c.seen, p.2 = q.2 := by
      unfold heard
      split
      · rw [k2]; exact fun p hp => .inl hp
      · intro p hp
        rcases mem_putM _ _ _ hp with rfl | hp
        · rw [k2]
          have hv0 := hin.view
          cases hq : lookM c.seen v.frm with
          | none => exact .inr (.inl (by show max ((none : Option Int).getD 0) v.view ≤ v.view; simp only [Option.getD_none]; omega))
          | some x =>
            by_cases hx : x ≤ v.view
            · exact .inr (.inl (by show max ((some x).getD 0) v.view ≤ v.view; simp only [Option.getD_some]; omega))
            · exact .inr (.inr ⟨_, lookM_mem hq, by show max ((some x).getD 0) v.view = x; simp only [Option.getD_some]; omega⟩)
        · rw [k2] at hp; exact .inl hp
    rw [h6] at hL ⊢
    refine h.set (c1 := heard c' v) hi hL (Int.le_refl _) hh.act_still hh.acts (by rw [e1.1]; exact Int.le_refl _) (by rw [e1.1]; exact h.view c hmem) (hh.keep_act (acc := notV)).view (by rw [e1.2.1, e1.2.2.1]; exact h.wish c hmem) (fun p hp => ?_) (fun p hp => ?_)
    · rw [e1.2.2.2] at hp
      rcases k1 p hp with e | e
      · exact h.props c hmem p e
      · rw [e]; exact hv.2
    · rcases e2 p hp with e | e | ⟨q, hq, e⟩
      · exact h.seen c hmem p e
      · obtain ⟨d, hd, hx⟩ := hv.2
        exact ⟨d, hd, by omega⟩
      · obtain ⟨d, hd, hx⟩ := h.seen c hmem q hq
        exact ⟨d, hd, by omega⟩
theorem EInv.late (h : EInv n slot wrong k l) (hi : l[i]? = some c) : EInv n slot wrong (k + 1) (l.set i (lateC notV c)) := by
  have hl := h.inv.loc hi
  have hmem : c ∈ l := List.mem_of_getElem? hi
  have hL := h.inv.late hi
  have hvk := h.view c hmem
  unfold lateC at hL ⊢
  split
  · rename_i e
    rw [if_pos e] at hL
    have hr := hl.rise (v := c.view + 1) (by omega) (by omega)
    exact h.set (c1 := { c with view := c.view + 1 }) hi hL (by omega) hr.act_still hr.acts (by show c.view ≤ c.view + 1; omega) (by show c.view + 1 ≤ k + 1; omega) (hr.keep_act (acc := notV)).view (h.wish c hmem) (h.props c hmem) (h.seen c hmem)
  · rw [set_same hi]; exact h.same (by omega)
theorem EInv.wishes (h : EInv n slot wrong k l) (hi : l[i]? = some c) {x : Bs} (hx : notV x = true) : EInv n slot wrong k (l.set i (wishC notV c x)) := by
  have hl := h.inv.loc hi
  have hmem : c ∈ l := List.mem_of_getElem? hi
  have hL := h.inv.wish hi x
  unfold wishC at hL ⊢
  split
  · rw [set_same hi]; exact h
  · rename_i e
    rw [if_neg e] at hL
    have hr := hl.wish (v := x) (Nat.le_of_not_lt fun y => e (.inr y))
    exact h.set (c1 := { c with wish := x, wishes := true }) hi hL (Int.le_refl _) hr.act_still hr.acts (Int.le_refl _) (h.view c hmem) (hr.keep_act (acc := notV)).view (fun _ => hx) (h.props c hmem) (h.seen c hmem)
theorem EInv.anew (h : EInv n slot wrong k l) (hi : l[i]? = some c) : EInv n slot wrong k (l.set i (anewC c)) := by
  have hl := h.inv.loc hi
  have hmem : c ∈ l := List.mem_of_getElem? hi
  have hv := hl.ok.inn.view
  have ev : (anewC c).view = c.view := by show ((c.view.toNat : Nat) : Int) = c.view; omega
  exact h.set (c1 := anewC c) hi (h.inv.anew hi) (Int.le_refl _) (anew_still hl) (Acts.refl _) (by rw [ev]; exact Int.le_refl _) (by rw [ev]; exact h.view c hmem) (Int.le_refl _) (fun e => by cases e) (fun p hp => by cases hp) (fun p hp => by cases hp)
theorem EInv.says (h : EInv n slot wrong k l) (hi : l[i]? = some c) {v : Vt} (hv : v ∈ Sac.says c) : ETrue n slot wrong l v :=
  ⟨h.inv.says hi hv, c, List.mem_of_getElem? hi, says_view (h.inv.loc hi) hv⟩
theorem EInv.kept (n : Nat) (slot : Int) (wrong : List Bool) (k : Int) : Kept n slot wrong (fun x => notV x = true) (EInv n slot wrong k) (EInv n slot wrong (k + 1)) (ETrue n slot wrong) where
  inv h := h.inv
  keep h := h.same (by omega)
  take h hi hv := h.take hi hv
  late h hi := h.late hi
  wish hx h hi := h.wishes hi hx
  anew h hi := h.anew hi
  says h hi _ hv := h.says hi hv
  wrongs h hw _ := absurd hw (h.nowrong _)
theorem EInv.start (hn : 4 ≤ n ∧ n ≤ 64) (hs : 0 ≤ slot ∧ slot ≤ 256) (hw : wrong.length = n) (hf : wrong.countP id = 0) : EInv n slot wrong 0 ((List.range n).map fun i : Nat => newCore n ((i : Int) + 1) slot) := by
  have hm : ∀ c ∈ (List.range n).map fun i : Nat => newCore n ((i : Int) + 1) slot, ∃ i : Nat, c = newCore n ((i : Int) + 1) slot := fun c hc => by
    obtain ⟨i, _, rfl⟩ := List.mem_map.1 hc
    exact ⟨i, rfl⟩
  refine ⟨LInv.start hn hs hw (by rw [hf]; exact Nat.zero_le _), fun i e => ?_, fun c hc => ?_, fun c hc => ?_, fun c hc => ?_, fun c hc => ?_, fun c hc => ?_⟩
  · have := List.countP_eq_zero.1 hf true (List.mem_of_getElem? e)
    exact this rfl
  all_goals obtain ⟨j, rfl⟩ := hm c hc
  · exact newCore_still (by omega)
  · intro e; cases e
  · exact Int.le_refl _
  · intro p hp; cases hp
  · intro p hp; cases hp
end
end Go.Proofs.Ytilhdelijdkjpaa
/-
  What is told in a round is known behind it: plainly.
-/
namespace Go.Proofs.Ytilhdelijdkjpaa
open Go Go.RowKit Go.Maps Sac

/-- What is known only grows. -/
structure Grow (c c' : Core) : Prop where
  keep : Keep c c'
  gp : ∀ w k y, lookM (inner c.prepares w) k = some y → lookM (inner c'.prepares w) k = some y
  gc : ∀ w k y, lookM (inner c.commits w) k = some y → lookM (inner c'.commits w) k = some y
  gr : ∀ w y, lookM c.proposals w = some y → lookM c'.proposals w = some y
  gw : c.wishes = true → c'.wishes = true
theorem Grow.refl (c : Core) : Grow c c := ⟨Keep.refl c, fun _ _ _ h => h, fun _ _ _ h => h, fun _ _ h => h, fun h => h⟩
theorem Grow.trans {a b d : Core} (h : Grow a b) (k : Grow b d) : Grow a d :=
  ⟨h.keep.trans k.keep, fun w i y e => k.gp w i y (h.gp w i y e), fun w i y e => k.gc w i y (h.gc w i y e), fun w y e => k.gr w y (h.gr w y e), fun e => k.gw (h.gw e)⟩
theorem grow_set {m : List (Int × TellM)} (hs : Srt m ∧ ∀ p ∈ m, Srt p.2) {view who : Int} {v : Bs} (hno : lookM (inner m view) who = none) (w k : Int) (y : Bs) (e : lookM (inner m w) k = some y) : lookM (inner (putM view (putM who v (inner m view)) m) w) k = some y := by
  rw [look_set hs.1 hs.2]
  split
  · rename_i h
    rw [← h.1, ← h.2, hno] at e; cases e
  · exact e
theorem grow_put {α : Type} {m : List (Int × α)} (hs : Srt m) {k : Int} {a : α} (hno : lookM m k = none) (w : Int) (y : α) (e : lookM m w = some y) : lookM (putM k a m) w = some y := by
  rw [lookM_putM _ _ _ hs]
  split
  · rename_i h
    rw [← h, hno] at e; cases e
  · exact e

section
variable {n me slot : Int} {c c' : Core} {acc : Bs → Bool}
theorem Loc.grow_step (h : Loc n me slot c) (hd : c.decided = false) : Grow c (stepC acc c).1 := by
  have hk := h.keep_step (acc := acc) hd
  unfold stepC at hk ⊢
  split
  · rename_i c' e
    rw [e] at hk
    obtain ⟨_, v, hv, rfl⟩ := h.turn e
    exact ⟨hk, fun _ _ _ h => h, fun _ _ _ h => h, fun _ _ h => h, fun h => h⟩
  · rename_i e1
    rw [e1] at hk
    split
    · rename_i c' e
      simp only [e] at hk
      obtain ⟨hno, p, rfl, _⟩ := propose_some e
      have hno : lookM c.proposals c.view = none := by
        cases hx : lookM c.proposals c.view with
        | none => rfl
        | some x => rw [hx] at hno; cases hno
      exact ⟨hk, fun _ _ _ h => h, fun _ _ _ h => h, fun w y e => grow_put h.srt.props hno w y e, fun h => h⟩
    · rename_i e2
      simp only [e2] at hk
      split
      · rename_i c' e
        simp only [e] at hk
        obtain ⟨p, _, hno, rfl⟩ := prepare_some e
        exact ⟨hk, fun w k y e => grow_set h.srt.prepares hno w k y e, fun _ _ _ h => h, fun _ _ h => h, fun h => h⟩
      · rename_i e3
        simp only [e3] at hk
        split
        · rename_i c' e
          simp only [e] at hk
          obtain ⟨v, _, hno, rfl⟩ := commit_some e
          exact ⟨hk, fun _ _ _ h => h, fun w k y e => grow_set h.srt.commits hno w k y e, fun _ _ h => h, fun h => h⟩
        · rename_i e4
          simp only [e4] at hk
          obtain ⟨d, v, he, _⟩ := decide_is c
          have hk : Keep c (decideC c) := hk
          show Grow c (decideC c)
          rw [he] at hk ⊢
          exact ⟨hk, fun _ _ _ h => h, fun _ _ _ h => h, fun _ _ h => h, fun h => h⟩
theorem Loc.grow_act : ∀ {k : Nat} {c : Core}, Loc n me slot c → Grow c (Sac.actN acc k c)
  | 0, c, _ => Grow.refl c
  | k + 1, c, h => by
    unfold Sac.actN
    split
    · exact Grow.refl c
    · rename_i hd
      have hd : c.decided = false := by cases e : c.decided; rfl; exact absurd e hd
      have hs := Loc.step (acc := acc) h
      have hk := h.grow_step (acc := acc) hd
      split
      · rename_i e
        rw [e] at hs hk
        exact hk.trans hs.grow_act
      · rename_i e
        rw [e] at hk
        exact hk
theorem Loc.grow_late (h : Loc n me slot c) : Grow c (lateC acc c) := by
  have hk := h.keep_late (acc := acc)
  unfold lateC at hk ⊢
  split
  · rename_i e
    have hr := h.rise (v := c.view + 1) (by omega) (by omega)
    have hg := hr.grow_act (acc := acc) (k := rest { c with view := c.view + 1 } + 1)
    exact ⟨by rw [if_pos e] at hk; exact hk, hg.gp, hg.gc, hg.gr, hg.gw⟩
  · exact Grow.refl c
theorem Loc.grow_wish (h : Loc n me slot c) (v : Bs) : Grow c (wishC acc c v) := by
  have hk := h.keep_wish (acc := acc) v
  unfold wishC at hk ⊢
  split
  · exact Grow.refl c
  · rename_i e
    have hr := h.wish (v := v) (Nat.le_of_not_lt fun x => e (.inr x))
    have hg := hr.grow_act (acc := acc) (k := rest { c with wish := v, wishes := true } + 1)
    exact ⟨by rw [if_neg e] at hk; exact hk, hg.gp, hg.gc, hg.gr, fun _ => hg.gw rfl⟩
theorem wish_wishes (h : Loc n me slot c) {v : Bs} (hv : v.length ≤ 4096) : (wishC acc c v).wishes = true := by
  unfold wishC
  split
  · rename_i e
    rcases e with e | e
    · exact e
    · omega
  · have hr := h.wish hv
    exact (hr.grow_act (acc := acc)).gw rfl

/-- A vote is known. -/
def Heard (c : Core) (v : Vt) : Prop :=
  (v.kind = 2 → lookM (inner c.prepares v.view) v.frm = some v.value) ∧ (v.kind = 3 → lookM (inner c.commits v.view) v.frm = some v.value) ∧ (v.kind = 1 → (lookM c.proposals v.view).isSome = true)
theorem Heard.grow (h : Grow c c') {v : Vt} (k : Heard c v) : Heard c' v :=
  ⟨fun e => h.gp _ _ _ (k.1 e), fun e => h.gc _ _ _ (k.2.1 e), fun e => by
    have := k.2.2 e
    cases hx : lookM c.proposals v.view with
    | none => rw [hx] at this; cases this
    | some x => rw [h.gr _ _ hx]; rfl⟩
theorem heard_rest {v : Vt} : (heard c v).prepares = c.prepares ∧ (heard c v).commits = c.commits ∧ (heard c v).proposals = c.proposals ∧ (heard c v).wishes = c.wishes := by
  unfold heard
  split <;> exact ⟨rfl, rfl, rfl, rfl⟩
theorem know_none {v : Vt} (hk : 1 ≤ v.kind ∧ v.kind ≤ 5) (h : Sac.know c v = none) (h1 : v.kind = 1 → v.frm = proposer c v.view) (h2 : v.kind = 2 → ∀ y, lookM (inner c.prepares v.view) v.frm = some y → y = v.value) (h3 : v.kind = 3 → ∀ y, lookM (inner c.commits v.view) v.frm = some y → y = v.value) : Heard c v := by
  have set_none : ∀ {m : List (Int × TellM)} {view who : Int} {x : Bs}, setV m view who x = none → ∃ y, lookM (inner m view) who = some y := fun {m view who x} e => by
    unfold setV at e
    split at e
    · rename_i y hy; exact ⟨y, hy⟩
    · cases e
  unfold Sac.know at h
  split at h
  · rename_i k1
    refine ⟨fun e => by omega, fun e => by omega, fun _ => ?_⟩
    split at h
    · rename_i hx
      rcases hx with hx | hx
      · exact hx
      · exact absurd (h1 k1) hx
    · cases h
  · split at h
    · rename_i k2
      obtain ⟨y, hy⟩ := set_none (Option.map_eq_none_iff.1 h)
      refine ⟨fun _ => ?_, fun e => by omega, fun e => by omega⟩
      rw [hy, h2 k2 y hy]
    · split at h
      · rename_i k3
        obtain ⟨y, hy⟩ := set_none (Option.map_eq_none_iff.1 h)
        refine ⟨fun e => by omega, fun _ => ?_, fun e => by omega⟩
        rw [hy, h3 k3 y hy]
      · exact ⟨fun e => by omega, fun e => by omega, fun e => by omega⟩
theorem know_grow (hs : CoreSrt c) {v : Vt} (h : Sac.know c v = some c') : (∀ w k y, lookM (inner c.prepares w) k = some y → lookM (inner c'.prepares w) k = some y) ∧ (∀ w k y, lookM (inner c.commits w) k = some y → lookM (inner c'.commits w) k = some y) ∧ (∀ w y, lookM c.proposals w = some y → lookM c'.proposals w = some y) ∧ c'.wishes = c.wishes ∧ Heard c' v := by
  unfold Sac.know at h
  split at h
  · rename_i k1
    split at h
    · cases h
    · rename_i hx
      have hno : lookM c.proposals v.view = none := by
        cases hq : lookM c.proposals v.view with
        | none => rfl
        | some x => exact absurd (.inl (by rw [hq]; rfl)) hx
      obtain rfl := Option.some.inj h
      refine ⟨fun _ _ _ h => h, fun _ _ _ h => h, fun w y e => grow_put hs.props hno w y e, rfl, fun e => by omega, fun e => by omega, fun _ => ?_⟩
      show (lookM (putM v.view (v.value, v.valid) c.proposals) v.view).isSome = true
      rw [lookM_putM _ _ _ hs.props, if_pos rfl]; rfl
  · split at h
    · rename_i k1 k2
      obtain ⟨m, hm, rfl⟩ := Option.map_eq_some_iff.1 h
      obtain ⟨hno, rfl⟩ := setV_some hm
      refine ⟨fun w k y e => grow_set hs.prepares hno w k y e, fun _ _ _ h => h, fun _ _ h => h, rfl, fun _ => ?_, fun e => by omega, fun e => by omega⟩
      show lookM (inner (putM v.view (putM v.frm v.value (inner c.prepares v.view)) c.prepares) v.view) v.frm = some v.value
      rw [look_set hs.prepares.1 hs.prepares.2, if_pos ⟨rfl, rfl⟩]
    · split at h
      · rename_i k1 k2 k3
        obtain ⟨m, hm, rfl⟩ := Option.map_eq_some_iff.1 h
        obtain ⟨hno, rfl⟩ := setV_some hm
        refine ⟨fun _ _ _ h => h, fun w k y e => grow_set hs.commits hno w k y e, fun _ _ h => h, rfl, fun e => by omega, fun _ => ?_, fun e => by omega⟩
        show lookM (inner (putM v.view (putM v.frm v.value (inner c.commits v.view)) c.commits) v.view) v.frm = some v.value
        rw [look_set hs.commits.1 hs.commits.2, if_pos ⟨rfl, rfl⟩]
      · split at h
        · rename_i k1 k2 k3 k5
          obtain ⟨m, hm, rfl⟩ := Option.map_eq_some_iff.1 h
          exact ⟨fun _ _ _ h => h, fun _ _ _ h => h, fun _ _ h => h, rfl, fun e => by omega, fun e => by omega, fun e => by omega⟩
        · rename_i k1 k2 k3 k5
          split at h
          · cases h
          · obtain rfl := Option.some.inj h
            exact ⟨fun _ _ _ h => h, fun _ _ _ h => h, fun _ _ h => h, rfl, fun e => by omega, fun e => by omega, fun e => by omega⟩
theorem Loc.grow_take (h : Loc n me slot c) (v : Vt) : Grow c (takeC acc c v).1 := by
  have hk := h.keep_take (acc := acc) v
  rcases takeC_cases acc c v with e | ⟨_, h2, h3, h4, c', h5, h6⟩
  · rw [e]; exact Grow.refl c
  · have hin := (encOk_in h4).2
    obtain ⟨hl', _⟩ := h.know hin (by rw [← h.hn]; exact h2) (by rw [← h.hme]; exact h3) h5
    obtain ⟨g1, g2, g3, g4, _⟩ := know_grow h.srt h5
    obtain ⟨r1, r2, r3, r4⟩ := heard_rest (c := c') (v := v)
    have hg := (hl'.heard hin).grow_act (acc := acc) (k := rest (Go.Proofs.Ytilhdelijdkjpaa.heard c' v) + 1)
    rw [h6] at hk ⊢
    refine ⟨hk, fun w k y e => hg.gp w k y ?_, fun w k y e => hg.gc w k y ?_, fun w y e => hg.gr w y ?_, fun e => hg.gw ?_⟩
    · rw [r1]; exact g1 w k y e
    · rw [r2]; exact g2 w k y e
    · rw [r3]; exact g3 w y e
    · rw [r4, g4]; exact e
/-- What is told, and may be believed, is known. -/
theorem Loc.take_heard (h : Loc n me slot c) {v : Vt} (hs : v.slot = slot) (hf : v.frm ≤ n) (hm : v.frm ≠ me) (he : encOk v = true) (h1 : v.kind = 1 → v.frm = proposer c v.view) (h2 : v.kind = 2 → ∀ y, lookM (inner c.prepares v.view) v.frm = some y → y = v.value) (h3 : v.kind = 3 → ∀ y, lookM (inner c.commits v.view) v.frm = some y → y = v.value) : Heard (takeC acc c v).1 v := by
  obtain ⟨_, hin⟩ := encOk_in he
  have hkd := of_decide_eq_true he
  unfold takeC
  rw [if_neg (by rw [h.hslot, h.hn, h.hme, he]; rintro (a | a | a | a); exact a hs; omega; exact hm a; cases a)]
  cases hk : Sac.know c v with
  | none => exact know_none ⟨hkd.1, hkd.2.1⟩ hk h1 h2 h3
  | some c' =>
    obtain ⟨hl', _⟩ := h.know hin hf hm hk
    obtain ⟨_, _, _, _, g5⟩ := know_grow h.srt hk
    obtain ⟨r1, r2, r3, _⟩ := heard_rest (c := c') (v := v)
    have hg := (hl'.heard hin).grow_act (acc := acc) (k := rest (Go.Proofs.Ytilhdelijdkjpaa.heard c' v) + 1)
    have g6 : Heard (Go.Proofs.Ytilhdelijdkjpaa.heard c' v) v := by
      unfold Heard at g5 ⊢
      rw [r1, r2, r3]; exact g5
    exact g6.grow hg
end
end Go.Proofs.Ytilhdelijdkjpaa
/-
  A round in which all tell all: plainly.
-/
namespace Go.Proofs.Ytilhdelijdkjpaa
open Go Go.RowKit Go.Maps Sac

/-- The first k hear a vote. -/
def takeAt (l : List Core) (v : Vt) (i : Nat) : List Core := match l[i]? with | some c => l.set i (takeC notV c v).1 | none => l
def tellN (l : List Core) (v : Vt) (k : Nat) : List Core := (List.range k).foldl (fun l i => takeAt l v i) l
/-- All hear the first q votes. -/
def votesN (l : List Core) (vs : List Vt) : List Core := vs.foldl (fun l v => tellN l v l.length) l
/-- The first k tell all. -/
def tellsAt (l : List Core) (i : Nat) : List Core := match l[i]? with | some c => votesN l (Sac.says c) | none => l
def roundN (l : List Core) (k : Nat) : List Core := (List.range k).foldl tellsAt l
theorem tellN_succ (l : List Core) (v : Vt) (k : Nat) : tellN l v (k + 1) = takeAt (tellN l v k) v k := by
  unfold tellN
  rw [List.range_succ, List.foldl_append]
  rfl
theorem roundN_succ (l : List Core) (k : Nat) : roundN l (k + 1) = tellsAt (roundN l k) k := by
  unfold roundN
  rw [List.range_succ, List.foldl_append]
  rfl
theorem takeAt_len (l : List Core) (v : Vt) (i : Nat) : (takeAt l v i).length = l.length := by
  unfold takeAt
  split
  · exact List.length_set
  · rfl
theorem tellN_len (l : List Core) (v : Vt) : ∀ k, (tellN l v k).length = l.length
  | 0 => rfl
  | k + 1 => by rw [tellN_succ, takeAt_len, tellN_len l v k]
theorem votesN_len : ∀ (vs : List Vt) (l : List Core), (votesN l vs).length = l.length
  | [], _ => rfl
  | v :: vs, l => by
    show (votesN (tellN l v l.length) vs).length = _
    rw [votesN_len vs, tellN_len]
theorem roundN_len (l : List Core) : ∀ k, (roundN l k).length = l.length
  | 0 => rfl
  | k + 1 => by
    rw [roundN_succ]
    unfold tellsAt
    split
    · rw [votesN_len, roundN_len l k]
    · exact roundN_len l k

/-- What each Take keeps. -/
structure TC (I : List Core → Prop) (T : List Core → Vt → Prop) : Prop where
  take : ∀ {l : List Core} {i : Nat} {c : Core} {v : Vt}, I l → l[i]? = some c → T l v → I (l.set i (takeC notV c v).1) ∧ ∀ u, T l u → T (l.set i (takeC notV c v).1) u
  says : ∀ {l : List Core} {i : Nat} {c : Core} {v : Vt}, I l → l[i]? = some c → v ∈ Sac.says c → T l v
section
variable {I : List Core → Prop} {T : List Core → Vt → Prop} {l : List Core}
theorem TC.at_ (h : TC I T) {v : Vt} (hI : I l) (hT : T l v) (i : Nat) : I (takeAt l v i) ∧ ∀ u, T l u → T (takeAt l v i) u := by
  unfold takeAt
  split
  · rename_i c hc
    exact h.take hI hc hT
  · exact ⟨hI, fun _ h => h⟩
theorem TC.tellN (h : TC I T) {v : Vt} (hI : I l) (hT : T l v) : ∀ k, I (tellN l v k) ∧ ∀ u, T l u → T (tellN l v k) u
  | 0 => ⟨hI, fun _ h => h⟩
  | k + 1 => by
    obtain ⟨h1, h2⟩ := h.tellN hI hT k
    rw [tellN_succ]
    obtain ⟨h3, h4⟩ := h.at_ h1 (h2 v hT) k
    exact ⟨h3, fun u hu => h4 u (h2 u hu)⟩
theorem TC.votesN (h : TC I T) : ∀ {vs : List Vt} {l : List Core}, I l → (∀ v ∈ vs, T l v) → I (votesN l vs) ∧ ∀ u, T l u → T (votesN l vs) u
  | [], _, hI, _ => ⟨hI, fun _ h => h⟩
  | v :: vs, l, hI, hT => by
    obtain ⟨h1, h2⟩ := h.tellN hI (hT v List.mem_cons_self) l.length
    obtain ⟨h3, h4⟩ := h.votesN h1 (fun u hu => h2 u (hT u (List.mem_cons_of_mem _ hu)))
    exact ⟨h3, fun u hu => h4 u (h2 u hu)⟩
theorem TC.tellsAt (h : TC I T) (hI : I l) (i : Nat) : I (tellsAt l i) ∧ ∀ u, T l u → T (tellsAt l i) u := by
  unfold Go.Proofs.Ytilhdelijdkjpaa.tellsAt
  split
  · rename_i c hc
    exact h.votesN hI (fun v hv => h.says hI hc hv)
  · exact ⟨hI, fun _ h => h⟩
theorem TC.roundN (h : TC I T) (hI : I l) : ∀ k, I (roundN l k)
  | 0 => hI
  | k + 1 => by rw [roundN_succ]; exact (h.tellsAt (h.roundN hI k) k).1
end

/-- What is kept in the last rounds. -/
structure FInv (n : Nat) (slot : Int) (wrong : List Bool) (k : Int) (l : List Core) : Prop where
  e : EInv n slot wrong k l
  pv : ∀ c ∈ l, PvOk c
  wi : ∀ c ∈ l, c.wishes = true
def prop1 (n : Nat) (slot : Int) (view : Int) : Int := 1 + (slot + view) % (n : Int)
/-- What is told in them. -/
structure FTrue (n : Nat) (slot : Int) (wrong : List Bool) (l : List Core) (v : Vt) : Prop where
  e : ETrue n slot wrong l v
  sl : v.slot = slot
  enc : encOk v = true
  prop : v.kind = 1 → v.frm = prop1 n slot v.view
  own : ∃ (a : Nat) (c : Core), l[a]? = some c ∧ v.frm = (a : Int) + 1 ∧ Heard c v
theorem Loc.prop1 {n : Nat} {me slot : Int} {c : Core} (h : Loc n me slot c) (w : Int) : proposer c w = Go.Proofs.Ytilhdelijdkjpaa.prop1 n slot w := by
  unfold proposer Go.Proofs.Ytilhdelijdkjpaa.prop1
  rw [h.hn, h.hslot]
theorem mem_set_all {l : List Core} {i : Nat} {c' : Core} {P : Core → Prop} (h : ∀ c ∈ l, P c) (hc : P c') : ∀ c ∈ l.set i c', P c := fun c hm => by
  rcases List.mem_or_eq_of_mem_set hm with hm | hm
  · exact h c hm
  · rw [hm]; exact hc
theorem says_heard {n : Nat} {me slot : Int} {c : Core} (h : Loc n me slot c) {v : Vt} (hv : v ∈ Sac.says c) : Heard c v ∧ (v.kind = 1 → v.frm = proposer c v.view) := by
  unfold Sac.says at hv
  rcases List.mem_append.1 hv with hv | hv
  · rcases List.mem_append.1 hv with hv | hv
    · rcases List.mem_append.1 hv with hv | hv
      · split at hv
        · rw [List.mem_singleton.1 hv]; exact ⟨⟨fun e => absurd (show (4 : Int) = 2 from e) (by decide), fun e => absurd (show (4 : Int) = 3 from e) (by decide), fun e => absurd (show (4 : Int) = 1 from e) (by decide)⟩, fun e => absurd (show (4 : Int) = 1 from e) (by decide)⟩
        · rw [List.mem_singleton.1 hv]; exact ⟨⟨fun e => absurd (show (5 : Int) = 2 from e) (by decide), fun e => absurd (show (5 : Int) = 3 from e) (by decide), fun e => absurd (show (5 : Int) = 1 from e) (by decide)⟩, fun e => absurd (show (5 : Int) = 1 from e) (by decide)⟩
      · split at hv
        · rename_i p hp
          split at hv
          · rename_i hx
            rw [List.mem_singleton.1 hv]
            exact ⟨⟨fun e => absurd (show (1 : Int) = 2 from e) (by decide), fun e => absurd (show (1 : Int) = 3 from e) (by decide), fun _ => by show (lookM c.proposals c.view).isSome = true; rw [hp]; rfl⟩, fun _ => hx.2.symm⟩
          · cases hv
        · cases hv
    · obtain ⟨e1, e2, e3, e4, e5⟩ := mem_mine h.srt.prepares.1 hv
      exact ⟨⟨fun _ => by rw [e2]; exact e5, fun e => by omega, fun e => by omega⟩, fun e => by omega⟩
  · obtain ⟨e1, e2, e3, e4, e5⟩ := mem_mine h.srt.commits.1 hv
    exact ⟨⟨fun e => by omega, fun _ => by rw [e2]; exact e5, fun e => by omega⟩, fun e => by omega⟩

section
variable {n : Nat} {slot : Int} {wrong : List Bool} {k : Int} {l : List Core} {i : Nat} {c : Core}
theorem FInv.tc (n : Nat) (slot : Int) (wrong : List Bool) (k : Int) : TC (FInv n slot wrong k) (FTrue n slot wrong) where
  take {l i c v} h hi hv := by
    have hl := h.e.inv.loc hi
    have hg := hl.grow_take (acc := notV) v
    have hm := List.mem_of_getElem? hi
    obtain ⟨h1, h2⟩ := h.e.take hi hv.e
    refine ⟨⟨h1, mem_set_all h.pv (hg.keep.pv (h.pv c hm)), mem_set_all h.wi (hg.gw (h.wi c hm))⟩, fun u hu => ⟨h2 u hu.e, hu.sl, hu.enc, hu.prop, ?_⟩⟩
    obtain ⟨a, d, ha, hf, hh⟩ := hu.own
    by_cases e : i = a
    · subst e
      rw [hi] at ha
      injection ha with ha
      subst ha
      exact ⟨i, _, List.getElem?_set_self (List.getElem?_eq_some_iff.1 hi).1, hf, hh.grow hg⟩
    · exact ⟨a, d, by rw [List.getElem?_set_ne e]; exact ha, hf, hh⟩
  says {l i c v} h hi hv := by
    have hl := h.e.inv.loc hi
    obtain ⟨s1, s2, s3, s4⟩ := hl.says_own (h.pv c (List.mem_of_getElem? hi)) hv
    obtain ⟨s5, s6⟩ := says_heard hl hv
    exact ⟨h.e.says hi hv, s2, s4, fun e => by rw [s6 e, hl.prop1], i, c, hi, s1, s5⟩
/-- Who hears a vote knows it. -/
theorem FInv.heard (h : FInv n slot wrong k l) (hi : l[i]? = some c) {v : Vt} (hv : FTrue n slot wrong l v) : Heard (takeC notV c v).1 v := by
  have hl := h.e.inv.loc hi
  obtain ⟨a, d, ha, hf, hh⟩ := hv.own
  have han : a < n := h.e.inv.lt ha
  by_cases e : a = i
  · subst e
    rw [hi] at ha
    injection ha with ha
    subst ha
    exact hh.grow (hl.grow_take v)
  · have hr : rightL wrong a = true := by
      unfold rightL
      rw [List.getD_eq_getElem?_getD]
      have hwl := h.e.inv.wlen
      cases hw : wrong[a]? with
      | none => rw [List.getElem?_eq_none_iff] at hw; omega
      | some b =>
        cases b
        · rfl
        · exact absurd hw (h.e.nowrong a)
    have ht := hv.e.1 a han hr hf
    have hkn := h.e.inv.inv.know i (h.e.inv.lt hi)
    rw [fl_at hi] at hkn
    refine hl.take_heard hv.sl (by omega) (by omega) hv.enc (fun e1 => by rw [hl.prop1]; exact hv.prop e1) (fun e2 y hy => ?_) (fun e3 y hy => ?_)
    · rw [hf] at hy
      have := hkn.p a han hr _ _ hy
      rw [ht.1 e2] at this
      exact (Option.some.inj this).symm
    · rw [hf] at hy
      have := hkn.c a han hr _ _ hy
      rw [ht.2.1 e3] at this
      exact (Option.some.inj this).symm
/-- From one list of cores to a later one. -/
def Grows (l l' : List Core) : Prop := l'.length = l.length ∧ ∀ (i : Nat) (c c' : Core), l[i]? = some c → l'[i]? = some c' → Grow c c'
theorem Grows.refl (l : List Core) : Grows l l := ⟨rfl, fun i c c' h h' => by rw [h] at h'; injection h' with h'; rw [h']; exact Grow.refl _⟩
theorem Grows.trans {l1 l2 l3 : List Core} (h : Grows l1 l2) (k : Grows l2 l3) : Grows l1 l3 := ⟨k.1.trans h.1, fun i c c' h1 h3 => by
  obtain ⟨d, hd⟩ : ∃ d, l2[i]? = some d := ⟨_, List.getElem?_eq_getElem (by rw [h.1]; exact (List.getElem?_eq_some_iff.1 h1).1)⟩
  exact (h.2 i c d h1 hd).trans (k.2 i d c' hd h3)⟩
theorem grows_set {c' : Core} (hi : l[i]? = some c) (hg : Grow c c') : Grows l (l.set i c') := ⟨List.length_set, fun j d d' h h' => by
  by_cases e : i = j
  · subst e
    rw [List.getElem?_set_self (List.getElem?_eq_some_iff.1 hi).1] at h'
    rw [hi] at h
    injection h with h
    injection h' with h'
    rw [← h, ← h']; exact hg
  · rw [List.getElem?_set_ne e, h] at h'
    injection h' with h'
    rw [h']; exact Grow.refl _⟩
theorem FInv.takeAt_grows (h : FInv n slot wrong k l) (v : Vt) (i : Nat) : Grows l (takeAt l v i) := by
  unfold takeAt
  split
  · rename_i c hc
    exact grows_set hc ((h.e.inv.loc hc).grow_take v)
  · exact Grows.refl l
theorem FInv.tellN_grows (h : FInv n slot wrong k l) {v : Vt} (hv : FTrue n slot wrong l v) : ∀ q, Grows l (tellN l v q)
  | 0 => Grows.refl l
  | q + 1 => by
    rw [tellN_succ]
    exact (h.tellN_grows hv q).trans (((FInv.tc n slot wrong k).tellN h hv q).1.takeAt_grows v q)
/-- Behind the telling of a vote all know it. -/
theorem FInv.tellN_heard (h : FInv n slot wrong k l) {v : Vt} (hv : FTrue n slot wrong l v) : ∀ q, ∀ (b : Nat) (c : Core), b < q → (tellN l v q)[b]? = some c → Heard c v
  | 0, _, _, hb, _ => absurd hb (Nat.not_lt_zero _)
  | q + 1, b, c, hb, hc => by
    obtain ⟨h1, h2⟩ := (FInv.tc n slot wrong k).tellN h hv q
    have hlen : (tellN l v (q + 1)).length = l.length := tellN_len l v _
    rw [tellN_succ] at hc
    by_cases e : b = q
    · subst e
      unfold takeAt at hc
      split at hc
      · rename_i d hd
        rw [List.getElem?_set_self (List.getElem?_eq_some_iff.1 hd).1] at hc
        injection hc with hc
        rw [← hc]
        exact h1.heard hd (h2 v hv)
      · rename_i hd
        rw [hd] at hc; cases hc
    · have hc2 : (tellN l v q)[b]? = some c := by
        unfold takeAt at hc
        split at hc
        · rw [List.getElem?_set_ne (fun x => e x.symm)] at hc; exact hc
        · exact hc
      exact h.tellN_heard hv q b c (by omega) hc2
theorem FInv.votesN_grows : ∀ {vs : List Vt} {l : List Core}, FInv n slot wrong k l → (∀ v ∈ vs, FTrue n slot wrong l v) → Grows l (votesN l vs)
  | [], l, _, _ => Grows.refl l
  | v :: vs, l, h, hv => by
    obtain ⟨h1, h2⟩ := (FInv.tc n slot wrong k).tellN h (hv v List.mem_cons_self) l.length
    exact (h.tellN_grows (hv v List.mem_cons_self) _).trans (FInv.votesN_grows h1 (fun u hu => h2 u (hv u (List.mem_cons_of_mem _ hu))))
theorem FInv.votesN_heard : ∀ {vs : List Vt} {l : List Core}, FInv n slot wrong k l → (∀ v ∈ vs, FTrue n slot wrong l v) → ∀ v ∈ vs, ∀ (b : Nat) (c : Core), (votesN l vs)[b]? = some c → Heard c v
  | v :: vs, l, h, hv, u, hu, b, c, hc => by
    obtain ⟨h1, h2⟩ := (FInv.tc n slot wrong k).tellN h (hv v List.mem_cons_self) l.length
    have hv2 : ∀ u ∈ vs, FTrue n slot wrong (tellN l v l.length) u := fun u hu => h2 u (hv u (List.mem_cons_of_mem _ hu))
    rcases List.mem_cons.1 hu with rfl | hu
    · have hbl : b < l.length := by
        have := (List.getElem?_eq_some_iff.1 hc).1
        rw [votesN_len] at this; exact this
      obtain ⟨d, hd⟩ : ∃ d, (tellN l u l.length)[b]? = some d := ⟨_, List.getElem?_eq_getElem (by rw [tellN_len]; exact hbl)⟩
      exact (h.tellN_heard (hv u List.mem_cons_self) _ b d hbl hd).grow ((FInv.votesN_grows h1 hv2).2 b d c hd hc)
    · exact FInv.votesN_heard h1 hv2 u hu b c hc
theorem FInv.tellsAt_grows (h : FInv n slot wrong k l) (i : Nat) : Grows l (tellsAt l i) := by
  unfold tellsAt
  split
  · rename_i c hc
    exact FInv.votesN_grows h (fun v hv => (FInv.tc n slot wrong k).says h hc hv)
  · exact Grows.refl l
theorem FInv.roundN (h : FInv n slot wrong k l) (q : Nat) : FInv n slot wrong k (roundN l q) := (FInv.tc n slot wrong k).roundN h q
theorem FInv.roundN_grows (h : FInv n slot wrong k l) : ∀ q, Grows l (Go.Proofs.Ytilhdelijdkjpaa.roundN l q)
  | 0 => Grows.refl l
  | q + 1 => by
    rw [roundN_succ]
    exact (h.roundN_grows q).trans ((h.roundN q).tellsAt_grows q)
/-- Behind a round all know what each says when its turn comes. -/
theorem FInv.roundN_heard (h : FInv n slot wrong k l) : ∀ q, ∀ (a : Nat) (c : Core), a < q → (Go.Proofs.Ytilhdelijdkjpaa.roundN l a)[a]? = some c → ∀ v ∈ Sac.says c, ∀ (b : Nat) (d : Core), (Go.Proofs.Ytilhdelijdkjpaa.roundN l q)[b]? = some d → Heard d v
  | 0, _, _, ha, _ => absurd ha (Nat.not_lt_zero _)
  | q + 1, a, c, ha, hc => by
    intro v hv b d hd
    have hq := h.roundN q
    rw [roundN_succ] at hd
    by_cases e : a = q
    · subst e
      unfold tellsAt at hd
      rw [hc] at hd
      exact FInv.votesN_heard hq (fun u hu => (FInv.tc n slot wrong k).says hq hc hu) v hv b d hd
    · obtain ⟨d0, hd0⟩ : ∃ d0, (Go.Proofs.Ytilhdelijdkjpaa.roundN l q)[b]? = some d0 := ⟨_, List.getElem?_eq_getElem (by
        have := (List.getElem?_eq_some_iff.1 hd).1
        rw [(hq.tellsAt_grows q).1] at this; exact this)⟩
      exact (h.roundN_heard q a c (by omega) hc v hv b d0 hd0).grow ((hq.tellsAt_grows q).2 b d0 d hd0 hd)
/-- **A round**: what each told by itself at its start all know at its end. -/
theorem FInv.round_own (h : FInv n slot wrong k l) {a b : Nat} {c d : Core} (ha : l[a]? = some c) (hb : (Go.Proofs.Ytilhdelijdkjpaa.roundN l n)[b]? = some d) :
    (∀ w y, ownP c w = some y → lookM (inner d.prepares w) ((a : Int) + 1) = some y) ∧ (∀ w y, ownC c w = some y → lookM (inner d.commits w) ((a : Int) + 1) = some y) := by
  have han := h.e.inv.lt ha
  have hq := h.roundN a
  have hg := h.roundN_grows a
  obtain ⟨e, he⟩ : ∃ e, (Go.Proofs.Ytilhdelijdkjpaa.roundN l a)[a]? = some e := ⟨_, List.getElem?_eq_getElem (by rw [hg.1, h.e.inv.len]; exact han)⟩
  have hge := hg.2 a c e ha he
  have hle := hq.e.inv.loc he
  refine ⟨fun w y hy => ?_, fun w y hy => ?_⟩
  · have h1 := hge.keep.oP w y hy
    have h2 := mem_mine_of (k := 2) h1
    have h3 := h.roundN_heard n a e han he _ (by unfold Sac.says; exact List.mem_append_left _ (List.mem_append_right _ h2)) b d hb
    have h4 : lookM (inner d.prepares w) e.me = some y := h3.1 rfl
    rw [hle.hme] at h4; exact h4
  · have h1 := hge.keep.oC w y hy
    have h2 := mem_mine_of (k := 3) h1
    have h3 := h.roundN_heard n a e han he _ (by unfold Sac.says; exact List.mem_append_right _ h2) b d hb
    have h4 : lookM (inner d.commits w) e.me = some y := h3.2.1 rfl
    rw [hle.hme] at h4; exact h4
/-- .. and what the view's proposer proposed, unless it has decided, or gone on. -/
theorem FInv.round_prop (h : FInv n slot wrong k l) {a b : Nat} {c d e : Core} (ha : l[a]? = some c) (hb : (Go.Proofs.Ytilhdelijdkjpaa.roundN l n)[b]? = some d) (he : (Go.Proofs.Ytilhdelijdkjpaa.roundN l n)[a]? = some e) (hd : e.decided = false) (hv : e.view = c.view) (hp : proposer c c.view = c.me) (hs : (lookM c.proposals c.view).isSome = true) : (lookM d.proposals c.view).isSome = true := by
  have han := h.e.inv.lt ha
  have hq := h.roundN a
  have hg := h.roundN_grows a
  obtain ⟨f, hf⟩ : ∃ f, (Go.Proofs.Ytilhdelijdkjpaa.roundN l a)[a]? = some f := ⟨_, List.getElem?_eq_getElem (by rw [hg.1, h.e.inv.len]; exact han)⟩
  have hgf := hg.2 a c f ha hf
  have hlf := hq.e.inv.loc hf
  have hlc := h.e.inv.loc ha
  have hrest : ∀ j, Grows (Go.Proofs.Ytilhdelijdkjpaa.roundN l a) (Go.Proofs.Ytilhdelijdkjpaa.roundN l (a + j)) := fun j => by
    induction j with
    | zero => exact Grows.refl _
    | succ j ih =>
      rw [← Nat.add_assoc, roundN_succ]
      exact ih.trans ((h.roundN (a + j)).tellsAt_grows _)
  have hfe := (hrest (n - a)).2 a f e hf (by rw [show a + (n - a) = n by omega]; exact he)
  have hfv : f.view = c.view := by
    have := hgf.keep.view
    have := hfe.keep.view
    omega
  have hfd : f.decided = false := by
    cases hx : f.decided with
    | false => rfl
    | true => rw [(hfe.keep.dec hx).1] at hd; cases hd
  obtain ⟨p, hp1⟩ : ∃ p, lookM c.proposals c.view = some p := by
    cases hx : lookM c.proposals c.view with
    | none => rw [hx] at hs; cases hs
    | some p => exact ⟨p, rfl⟩
  have hp2 := hgf.gr _ _ hp1
  have hmem : (⟨1, f.me, f.slot, f.view, p.2, p.1⟩ : Vt) ∈ Sac.says f := by
    unfold Sac.says
    refine List.mem_append_left _ (List.mem_append_left _ (List.mem_append_right _ ?_))
    rw [hfv, hp2]
    dsimp only
    rw [if_pos ⟨hfd, by rw [hlf.prop1, hlf.hme, ← hlc.hme, ← hp, hlc.prop1]⟩]
    exact List.mem_singleton.2 rfl
  have h3 := h.roundN_heard n a f han hf _ hmem b d hb
  have h4 : (lookM d.proposals f.view).isSome = true := h3.2.2 rfl
  rw [hfv] at h4; exact h4
end
end Go.Proofs.Ytilhdelijdkjpaa
/-
  If one has decided, all have behind a round: plainly.
-/
namespace Go.Proofs.Ytilhdelijdkjpaa
open Go Go.RowKit Go.Maps Sac

theorem cnt_howMany {n : Nat} (y : Bs) : ∀ t : TellM, cnt n (fun _ => true) (fun j : Nat => lookM t ((j : Int) + 1) == some y) ≤ howMany t y
  | [] => by
    refine Nat.le_of_eq (show _ = 0 from ?_)
    unfold cnt
    rw [List.countP_eq_zero]
    intro j _
    show ¬ (true && ((none : Option Bs) == some y)) = true
    simp
  | (k, v) :: t => by
    have ih := cnt_howMany (n := n) y t
    have e : howMany ((k, v) :: t) y = howMany t y + (if (v == y) = true then 1 else 0) := by
      unfold howMany
      rw [List.countP_cons]
    rw [e]
    by_cases hv : (v == y) = true
    · rw [if_pos hv]
      refine Nat.le_trans (cnt_except (i := (k - 1).toNat) (p := fun j : Nat => lookM t ((j : Int) + 1) == some y) (fun j hj hq => ?_)) (by omega)
      rw [lookM_cons] at hq
      by_cases hk : k = (j : Int) + 1
      · exfalso; omega
      · rw [if_neg hk] at hq; exact hq
    · rw [if_neg hv]
      refine Nat.le_trans (cnt_mono fun j _ _ hq => ?_) (by omega : cnt n (fun _ => true) (fun j : Nat => lookM t ((j : Int) + 1) == some y) ≤ _)
      rw [lookM_cons] at hq
      by_cases hk : k = (j : Int) + 1
      · rw [if_pos hk] at hq
        exfalso
        have := eq_of_beq hq
        injection this with this
        exact hv (by have this : v = y := this; rw [this]; exact beq_self_eq_true _)
      · rw [if_neg hk] at hq; exact hq
theorem count_some_of {t : TellM} {least : Int} {y : Bs} (h : least ≤ (howMany t y : Int)) (h1 : 1 ≤ least) : ∃ z, count t least = some z := by
  cases hc : count t least with
  | some z => exact ⟨z, rfl⟩
  | none =>
    exfalso
    unfold count at hc
    rw [Option.map_eq_none_iff, List.find?_eq_none] at hc
    have hp : 0 < howMany t y := by omega
    obtain ⟨p, hp1, hp2⟩ := List.countP_pos_iff.1 (show 0 < t.countP (fun p => p.2 == y) from hp)
    have := hc p hp1
    rw [eq_of_beq hp2] at this
    simp only [decide_eq_true_eq] at this
    exact this h
theorem right_all {wrong : List Bool} {n : Nat} (hw : wrong.length = n) (h : ∀ i : Nat, wrong[i]? ≠ some true) {a : Nat} (ha : a < n) : rightL wrong a = true := by
  unfold rightL
  rw [List.getD_eq_getElem?_getD]
  cases hx : wrong[a]? with
  | none => rw [List.getElem?_eq_none_iff] at hx; omega
  | some b =>
    cases b
    · rfl
    · exact absurd hx (h a)
theorem cnt_full {n : Nat} {right p : Nat → Bool} (hr : ∀ a, a < n → right a = true) (hp : ∀ a, a < n → p a = true) : cnt n right p = n := by
  unfold cnt
  rw [List.countP_eq_length.2, List.length_range]
  intro a ha
  have := List.mem_range.1 ha
  rw [hr a this, hp a this]
  rfl
theorem cnt_right {n : Nat} {right p : Nat → Bool} (hr : ∀ a, a < n → right a = true) : cnt n right p = cnt n (fun _ => true) p := by
  unfold cnt
  exact List.countP_congr fun a ha => by rw [hr a (List.mem_range.1 ha)]

section
variable {n : Nat} {slot : Int} {wrong : List Bool} {k : Int} {l : List Core} {i : Nat} {c : Core}
theorem FInv.right (h : FInv n slot wrong k l) {a : Nat} (ha : a < n) : rightL wrong a = true := right_all h.e.inv.wlen h.e.nowrong ha
theorem FInv.qk_is (h : FInv n slot wrong k l) : (qk n (rightL wrong) : Int) = quorum n := by
  have hn := h.e.inv.inv.hn
  unfold qk quorum
  rw [cnt_full (fun a ha => h.right ha) (fun _ _ => rfl)]
  omega
theorem FInv.at_ (h : FInv n slot wrong k l) {a : Nat} (ha : a < n) : ∃ c, l[a]? = some c := ⟨_, List.getElem?_eq_getElem (by rw [h.e.inv.len]; exact ha)⟩
theorem FInv.tellsP (_ : FInv n slot wrong k l) {a : Nat} {c : Core} (ha : l[a]? = some c) (w : Int) : (LTells n slot l).P a w = ownP c w := by
  show ownP (fl n slot l a) w = _
  rw [fl_at ha]
theorem FInv.tellsC (_ : FInv n slot wrong k l) {a : Nat} {c : Core} (ha : l[a]? = some c) (w : Int) : (LTells n slot l).C a w = ownC c w := by
  show ownC (fl n slot l a) w = _
  rw [fl_at ha]
theorem FInv.tellsD (_ : FInv n slot wrong k l) {a : Nat} {c : Core} (ha : l[a]? = some c) : (LTells n slot l).D a = if c.decided then some c.value else none := by
  show (if (fl n slot l a).decided then some (fl n slot l a).value else none) = _
  rw [fl_at ha]
/-- Where so many commits are known there is a decision. -/
theorem Still.decides {n : Nat} {me : Int} {d : Core} (hl : Loc n me slot d) (hs : Still notV d) (hn : 4 ≤ n) {v : Int} {x : Bs} (h : quorum n ≤ (howMany (inner d.commits v) x : Int)) : d.decided = true := by
  rcases hs with hd | ⟨_, _, _, _, hd⟩
  · exact hd
  · exfalso
    have hq : 1 ≤ quorum (n : Int) := by unfold quorum; omega
    obtain ⟨z, hz⟩ := count_some_of h hq
    have hpos : 0 < (inner d.commits v).length := by
      have h1 : howMany (inner d.commits v) x ≤ (inner d.commits v).length := List.countP_le_length
      omega
    cases hl2 : lookM d.commits v with
    | none =>
      unfold inner at hpos
      rw [hl2] at hpos
      simp at hpos
    | some t =>
      have hin : inner d.commits v = t := by unfold inner; rw [hl2]; rfl
      rw [hin] at hz
      have hag : ∃ z', agreed d = some z' := by
        cases hx : agreed d with
        | some z' => exact ⟨z', rfl⟩
        | none =>
          exfalso
          unfold agreed at hx
          rw [List.findSome?_eq_none_iff] at hx
          have := hx (v, t) (lookM_mem hl2)
          rw [hl.hn] at this
          rw [show count (v, t).2 (quorum n) = count t (quorum n) from rfl, hz] at this
          cases this
      obtain ⟨z', hz'⟩ := hag
      unfold decideC at hd
      rw [hz'] at hd
      cases hd
/-- **If one has decided, all have behind a round.** -/
theorem FInv.all_decided (h : FInv n slot wrong k l) {a : Nat} (ha : l[a]? = some c) (hd : c.decided = true) : ∀ d ∈ Go.Proofs.Ytilhdelijdkjpaa.roundN l n, d.decided = true := by
  intro d hm
  obtain ⟨b, hb⟩ := List.mem_iff_getElem?.1 hm
  have hq := h.roundN n
  have hl := hq.e.inv.loc hb
  have han := h.e.inv.lt ha
  obtain ⟨v, hv⟩ := h.e.inv.inv.safe.dec a c.value han (h.right han) (by rw [h.tellsD ha, if_pos hd])
  have h1 : cnt n (rightL wrong) (fun i => (LTells n slot l).C i v == some c.value) ≤ howMany (inner d.commits v) c.value := by
    refine Nat.le_trans (Nat.le_trans (Nat.le_of_eq (cnt_right (fun a ha => h.right ha))) (cnt_mono fun j hj _ e => ?_)) (cnt_howMany (n := n) c.value _)
    obtain ⟨cj, hcj⟩ := h.at_ hj
    have e := eq_of_beq e
    rw [h.tellsC hcj] at e
    rw [(h.round_own hcj hb).2 v _ e]
    exact beq_self_eq_true _
  have h2 := h.qk_is
  have hv : qk n (rightL wrong) ≤ cnt n (rightL wrong) (fun i => (LTells n slot l).C i v == some c.value) := hv
  exact Still.decides hl (hq.e.still d hm) h.e.inv.inv.hn.1 (v := v) (x := c.value) (by omega)
theorem FInv.stay_decided (h : FInv n slot wrong k l) (hd : ∀ c ∈ l, c.decided = true) : ∀ d ∈ Go.Proofs.Ytilhdelijdkjpaa.roundN l n, d.decided = true := by
  have hn := h.e.inv.inv.hn
  obtain ⟨c, hc⟩ := h.at_ (a := 0) (by omega)
  exact h.all_decided hc (hd c (List.mem_of_getElem? hc))
end
end Go.Proofs.Ytilhdelijdkjpaa
/-
  What a core keeps within a view, step by step and Take by Take: plainly.
-/
namespace Go.Proofs.Ytilhdelijdkjpaa
open Go Go.RowKit Go.Maps Sac

theorem srt_ext {α : Type} : ∀ {l m : List (Int × α)}, Srt l → Srt m → (∀ k, lookM l k = lookM m k) → l = m
  | [], [], _, _, _ => rfl
  | [], y :: m, _, _, h => by
    have := h y.1
    rw [lookM_cons, if_pos rfl] at this
    cases this
  | x :: l, [], _, _, h => by
    have := h x.1
    rw [lookM_cons, if_pos rfl] at this
    cases this
  | x :: l, y :: m, hl, hm, h => by
    have hl' := List.pairwise_cons.1 hl
    have hm' := List.pairwise_cons.1 hm
    have hx := h x.1
    have hy := h y.1
    rw [lookM_cons, if_pos rfl, lookM_cons] at hx
    rw [lookM_cons, lookM_cons, if_pos rfl] at hy
    have he : x.1 = y.1 := by
      by_cases e : x.1 = y.1
      · exact e
      · exfalso
        rw [if_neg (fun a => e a.symm)] at hx
        rw [if_neg e] at hy
        have h1 := hm'.1 _ (lookM_mem hx.symm)
        have h2 := hl'.1 _ (lookM_mem hy)
        simp only at h1 h2
        omega
    rw [if_pos he.symm] at hx
    have hxy : x = y := by
      obtain ⟨a, b⟩ := x
      obtain ⟨a', b'⟩ := y
      simp only at he hx
      rw [he, Option.some.inj hx]
    rw [hxy, srt_ext hl'.2 hm'.2 fun k => ?_]
    have hk := h k
    rw [lookM_cons, lookM_cons] at hk
    by_cases e : x.1 = k
    · have n1 : lookM l k = none := by
        cases hq : lookM l k with
        | none => rfl
        | some z => have := hl'.1 _ (lookM_mem hq); simp only at this; omega
      have n2 : lookM m k = none := by
        cases hq : lookM m k with
        | none => rfl
        | some z => have := hm'.1 _ (lookM_mem hq); simp only at this; omega
      rw [n1, n2]
    · rw [if_neg e, if_neg (by rw [← he]; exact e)] at hk
      exact hk

section
variable {n me slot : Int} {c c' : Core} {acc : Bs → Bool}
theorem Loc.turn_none (h : Loc n me slot c) (hs : ∀ p ∈ c.seen, p.2 ≤ c.view) : turnC c = none := by
  cases ht : turnC c with
  | none => rfl
  | some c' =>
    obtain ⟨v, hv, hlt, _⟩ := turn_some h.ok.inn ht
    obtain ⟨p, hp, rfl⟩ := List.mem_map.1 hv
    have := hs p hp
    omega
/-- What a step is, where it is no going on. -/
theorem Loc.step_cases (h : Loc n me slot c) (ht : turnC c = none) :
    (∃ p, (stepC acc c).1 = { c with proposals := putM c.view p c.proposals } ∧ lookM c.proposals c.view = none ∧ proposer c c.view = c.me) ∨
    (∃ p, lookM c.proposals c.view = some p ∧ fit acc c p = true ∧ ownP c c.view = none ∧ (stepC acc c).1 = { c with prepares := putM c.view (putM c.me p.1 (inner c.prepares c.view)) c.prepares }) ∨
    (∃ v, prepared c c.view = some v ∧ ownC c c.view = none ∧ (stepC acc c).1 = { c with commits := putM c.view (putM c.me v (inner c.commits c.view)) c.commits, lock := c.view, locked := v }) ∨
    (∃ d v, (stepC acc c).1 = { c with decided := d, value := v }) := by
  unfold stepC
  rw [ht]
  dsimp only
  cases h1 : proposeC c with
  | some c' =>
    left
    obtain ⟨hno, p, rfl, _⟩ := propose_some h1
    refine ⟨p, rfl, ?_, ?_⟩
    · cases hx : lookM c.proposals c.view with
      | none => rfl
      | some x => rw [hx] at hno; cases hno
    · unfold proposeC at h1
      split at h1
      · cases h1
      · rename_i hx
        exact Decidable.byContradiction fun e => hx (.inr e)
  | none =>
    right
    dsimp only
    cases h2 : prepareC acc c with
    | some c' =>
      left
      obtain ⟨_, p, hp, hf, hno, _, rfl⟩ := h.prepare h2
      exact ⟨p, hp, hf, hno, rfl⟩
    | none =>
      right
      dsimp only
      cases h3 : commitC c with
      | some c' =>
        left
        obtain ⟨_, v, hv, hno, _, rfl⟩ := h.commit h3
        exact ⟨v, hv, hno, rfl⟩
      | none =>
        right
        obtain ⟨d, v, he, _⟩ := decide_is c
        exact ⟨d, v, he⟩
theorem actN_keeps {Q : Core → Prop} (hQ : ∀ {c : Core}, Loc n me slot c → Q c → c.decided = false → Q (stepC acc c).1) : ∀ {k : Nat} {c : Core}, Loc n me slot c → Q c → Q (Sac.actN acc k c)
  | 0, _, _, h => h
  | k + 1, c, hl, h => by
    unfold Sac.actN
    split
    · exact h
    · rename_i hd
      have hd : c.decided = false := by cases e : c.decided; rfl; exact absurd e hd
      have h1 := hQ hl h hd
      have h2 := Loc.step (acc := acc) hl
      split
      · rename_i e
        rw [e] at h1 h2
        exact actN_keeps hQ h2 h1
      · rename_i e
        rw [e] at h1
        exact h1
theorem know_cases {v : Vt} (h : Sac.know c v = some c') :
    (v.kind = 1 ∧ lookM c.proposals v.view = none ∧ c' = { c with proposals := putM v.view (v.value, v.valid) c.proposals }) ∨
    (v.kind = 2 ∧ lookM (inner c.prepares v.view) v.frm = none ∧ c' = { c with prepares := putM v.view (putM v.frm v.value (inner c.prepares v.view)) c.prepares }) ∨
    ∃ cm tn dc, c' = { c with commits := cm, turns := tn, deciders := dc } := by
  unfold Sac.know at h
  split at h
  · rename_i k1
    split at h
    · cases h
    · rename_i hx
      refine .inl ⟨k1, ?_, (Option.some.inj h).symm⟩
      cases hq : lookM c.proposals v.view with
      | none => rfl
      | some x => exact absurd (.inl (by rw [hq]; rfl)) hx
  · split at h
    · rename_i k2
      obtain ⟨m, hm, rfl⟩ := Option.map_eq_some_iff.1 h
      obtain ⟨hno, rfl⟩ := setV_some hm
      exact .inr (.inl ⟨k2, hno, rfl⟩)
    · split at h
      · obtain ⟨m, hm, rfl⟩ := Option.map_eq_some_iff.1 h
        exact .inr (.inr ⟨_, _, _, rfl⟩)
      · split at h
        · obtain ⟨m, hm, rfl⟩ := Option.map_eq_some_iff.1 h
          exact .inr (.inr ⟨_, _, _, rfl⟩)
        · split at h
          · cases h
          · obtain rfl := Option.some.inj h
            exact .inr (.inr ⟨_, _, _, rfl⟩)
theorem heard_is {v : Vt} {V : Int} (h0 : 0 ≤ v.view) (hv : v.view ≤ V) (hs : ∀ p ∈ c.seen, p.2 ≤ V) : ∃ s, heard c v = { c with seen := s } ∧ ∀ p ∈ s, p.2 ≤ V := by
  unfold heard
  split
  · exact ⟨c.seen, rfl, hs⟩
  · refine ⟨_, rfl, fun p hp => ?_⟩
    rcases mem_putM _ _ _ hp with rfl | hp
    · cases hq : lookM c.seen v.frm with
      | none => show max ((none : Option Int).getD 0) v.view ≤ V; simp only [Option.getD_none]; omega
      | some x => have := hs _ (lookM_mem hq); show max ((some x).getD 0) v.view ≤ V; simp only [Option.getD_some] at this ⊢; omega
    · exact hs p hp
/-- What each step keeps, and what the hearing of a vote keeps, a Take keeps. -/
theorem Loc.take_keeps {Q : Core → Prop} (hl : Loc n me slot c) {v : Vt} (hQ : ∀ {c : Core}, Loc n me slot c → Q c → c.decided = false → Q (stepC acc c).1) (hK : ∀ c', Sac.know c v = some c' → v.frm ≠ me → Q (Go.Proofs.Ytilhdelijdkjpaa.heard c' v)) (h : Q c) : Q (takeC acc c v).1 := by
  rcases takeC_cases acc c v with e | ⟨_, h2, h3, h4, c', h5, h6⟩
  · rw [e]; exact h
  · rw [h6]
    have hin := (encOk_in h4).2
    have h3 : v.frm ≠ me := by rw [← hl.hme]; exact h3
    obtain ⟨hl', _⟩ := hl.know hin (by rw [← hl.hn]; exact h2) h3 h5
    exact actN_keeps hQ (hl'.heard hin) (hK c' h5 h3)
theorem fit_same {p : Bs × Int} (h1 : c'.lock = c.lock) (h2 : c'.locked = c.locked) (h3 : c'.view = c.view) (h4 : c'.n = c.n) (h5 : ∀ w, w < c.view → inner c'.prepares w = inner c.prepares w) : fit acc c' p = fit acc c p := by
  unfold fit
  rw [h1, h2, h3]
  by_cases hp : p.2 < c.view
  · have : prepared c' p.2 = prepared c p.2 := by unfold prepared; rw [h5 _ hp, h4]
    rw [this]
  · have e : decide (c.lock ≤ p.2 ∧ p.2 < c.view) = false := decide_eq_false (fun h => hp h.2)
    rw [e]
    rfl
theorem inner_low {m : List (Int × TellM)} (hs : Srt m) {view w : Int} (t : TellM) (h : w < view) : inner (putM view t m) w = inner m w := inner_other hs t (by omega)

/-! ### the first view's rounds -/
/-- Within a view: nobody goes on, and nothing is prepared in an earlier one. -/
structure QB (V : Int) (c0 c : Core) : Prop where
  view : c.view = V
  own : ∀ w, w < V → ownP c w = ownP c0 w
  seen : ∀ p ∈ c.seen, p.2 ≤ V
theorem QB.step {V : Int} {c0 : Core} (hl : Loc n me slot c) (h : QB V c0 c) (_ : c.decided = false) : QB V c0 (stepC acc c).1 := by
  have hV := h.view
  rcases hl.step_cases (acc := acc) (hl.turn_none (by rw [hV]; exact h.seen)) with ⟨p, e, _⟩ | ⟨p, _, _, _, e⟩ | ⟨v, _, _, e⟩ | ⟨d, v, e⟩
  · rw [e]; exact ⟨hV, h.own, h.seen⟩
  · rw [e]
    refine ⟨hV, fun w hw => ?_, h.seen⟩
    rw [← h.own w hw]
    show lookM (inner (putM c.view (putM c.me p.1 (inner c.prepares c.view)) c.prepares) w) c.me = _
    rw [inner_low hl.srt.prepares.1 _ (by omega)]
    rfl
  · rw [e]; exact ⟨hV, h.own, h.seen⟩
  · rw [e]; exact ⟨hV, h.own, h.seen⟩
theorem QB.take {V : Int} {c0 : Core} (hl : Loc n me slot c) (h : QB V c0 c) {v : Vt} (h0 : 0 ≤ v.view) (hv : v.view ≤ V) : QB V c0 (takeC acc c v).1 := by
  refine hl.take_keeps (Q := QB V c0) (fun hl h hd => QB.step hl h hd) (fun c' hk hm => ?_) h
  have hme := hl.hme
  have hh : QB V c0 c' := by
    rcases know_cases hk with ⟨_, _, rfl⟩ | ⟨_, _, rfl⟩ | ⟨cm, tn, dc, rfl⟩
    · exact ⟨h.view, h.own, h.seen⟩
    · refine ⟨h.view, fun w hw => ?_, h.seen⟩
      rw [← h.own w hw]
      show lookM (inner (putM v.view (putM v.frm v.value (inner c.prepares v.view)) c.prepares) w) c.me = _
      rw [look_set hl.srt.prepares.1 hl.srt.prepares.2, if_neg (fun e => hm (by rw [e.2, hme]))]
      rfl
    · exact ⟨h.view, h.own, h.seen⟩
  obtain ⟨s, e, hs⟩ := heard_is h0 hv hh.seen
  rw [e]
  exact ⟨hh.view, hh.own, hs⟩

/-! ### the first view's rounds, if nobody prepares any more -/
structure QD (n : Nat) (V : Int) (M : Int → TellM) (P : Nat → Option Bs) (c1 c : Core) : Prop where
  view : c.view = V
  own : ∀ w, ownP c w = ownP c1 w
  lock : c.lock = c1.lock ∧ c.locked = c1.locked
  prop : lookM c.proposals V = lookM c1.proposals V
  low : ∀ w, w < V → inner c.prepares w = M w
  high : ∀ j : Nat, j < n → ∀ y, lookM (inner c.prepares V) ((j : Int) + 1) = some y → P j = some y
  seen : ∀ p ∈ c.seen, p.2 ≤ V
/-- What is so at their start. -/
structure QD1 (n : Nat) (acc : Bs → Bool) (V : Int) (M : Int → TellM) (P : Nat → Option Bs) (c1 : Core) : Prop where
  few : ∀ z, (cnt n (fun _ => true) (fun j => P j == some z) : Int) < quorum n
  stuck : ∃ p, lookM c1.proposals V = some p ∧ ((ownP c1 V).isSome = true ∨ fit acc c1 p = false)
  low : ∀ w, w < V → inner c1.prepares w = M w
  view : c1.view = V
theorem QD.prepared_none {n : Nat} {me : Int} {V : Int} {M : Int → TellM} {P : Nat → Option Bs} {c1 : Core} (hl : Loc n me slot c) (h1 : QD1 n acc V M P c1) (h : QD n V M P c1 c) : prepared c V = none := by
  cases hp : prepared c V with
  | none => rfl
  | some z =>
    exfalso
    have h2 := count_told hp
    rw [hl.hn] at h2
    have h3 := howMany_cnt (n := n) z (inner c.prepares V) (inner_srt hl.srt.prepares.2 V) (keys_inner hl.kp V)
    have h4 : cnt n (fun _ => true) (fun j : Nat => lookM (inner c.prepares V) ((j : Int) + 1) == some z) ≤ cnt n (fun _ => true) (fun j => P j == some z) := cnt_mono fun j hj _ e => by rw [h.high j hj z (eq_of_beq e)]; exact beq_self_eq_true _
    have h5 := h1.few z
    omega
theorem QD.step {n : Nat} {me : Int} {V : Int} {M : Int → TellM} {P : Nat → Option Bs} {c1 : Core} (hl1 : c1.n = n) (h1 : QD1 n acc V M P c1) (hl : Loc n me slot c) (h : QD n V M P c1 c) (_ : c.decided = false) : QD n V M P c1 (stepC acc c).1 := by
  have hV := h.view
  obtain ⟨p1, hp1, hst⟩ := h1.stuck
  rcases hl.step_cases (acc := acc) (hl.turn_none (by rw [hV]; exact h.seen)) with ⟨p, _, e, _⟩ | ⟨p, e1, e2, e3, _⟩ | ⟨v, e, _⟩ | ⟨d, v, e⟩
  · rw [hV, h.prop, hp1] at e; cases e
  · exfalso
    rw [hV, h.prop, hp1] at e1
    injection e1 with e1
    subst e1
    rcases hst with hst | hst
    · rw [hV, h.own] at e3
      rw [e3] at hst; cases hst
    · rw [fit_same (c := c1) h.lock.1 h.lock.2 (by rw [hV, h1.view]) (by rw [hl.hn, hl1]) (fun w hw => by rw [h1.view] at hw; rw [h.low w hw, h1.low w hw]), hst] at e2
      cases e2
  · rw [hV, QD.prepared_none hl h1 h] at e; cases e
  · rw [e]; exact ⟨hV, h.own, h.lock, h.prop, h.low, h.high, h.seen⟩
theorem QD.take {n : Nat} {me : Int} {V : Int} {M : Int → TellM} {P : Nat → Option Bs} {c1 : Core} (hl1 : c1.n = n) (h1 : QD1 n acc V M P c1) (hl : Loc n me slot c) (h : QD n V M P c1 c) {v : Vt} (h0 : 0 ≤ v.view) (hv : v.view ≤ V) (h2 : v.kind = 2 → v.view < V → (lookM (M v.view) v.frm).isSome = true) (h3 : v.kind = 2 → v.view = V → ∃ j : Nat, j < n ∧ v.frm = (j : Int) + 1 ∧ P j = some v.value) : QD n V M P c1 (takeC acc c v).1 := by
  refine hl.take_keeps (Q := QD n V M P c1) (fun hl h hd => QD.step hl1 h1 hl h hd) (fun c' hk hm => ?_) h
  have hme := hl.hme
  have hh : QD n V M P c1 c' := by
    rcases know_cases hk with ⟨_, hno, rfl⟩ | ⟨hk2, hno, rfl⟩ | ⟨cm, tn, dc, rfl⟩
    · refine ⟨h.view, h.own, h.lock, ?_, h.low, h.high, h.seen⟩
      rw [← h.prop]
      show lookM (putM v.view (v.value, v.valid) c.proposals) V = _
      rw [lookM_putM _ _ _ hl.srt.props, if_neg]
      intro e
      obtain ⟨p1, hp1, _⟩ := h1.stuck
      rw [e, h.prop, hp1] at hno; cases hno
    · by_cases hlt : v.view < V
      · exfalso
        have := h2 hk2 hlt
        rw [h.low _ hlt] at hno
        rw [hno] at this; cases this
      · have hveq : v.view = V := by omega
        refine ⟨h.view, fun w => ?_, h.lock, h.prop, fun w hw => ?_, fun j hj y e => ?_, h.seen⟩
        · rw [← h.own w]
          show lookM (inner (putM v.view (putM v.frm v.value (inner c.prepares v.view)) c.prepares) w) c.me = _
          rw [look_set hl.srt.prepares.1 hl.srt.prepares.2, if_neg (fun e => hm (by rw [e.2, hme]))]
          rfl
        · show inner (putM v.view (putM v.frm v.value (inner c.prepares v.view)) c.prepares) w = _
          rw [inner_low hl.srt.prepares.1 _ (by omega)]
          exact h.low w hw
        · have e9 : lookM (inner (putM v.view (putM v.frm v.value (inner c.prepares v.view)) c.prepares) V) ((j : Int) + 1) = some y := e
          rw [look_set hl.srt.prepares.1 hl.srt.prepares.2] at e9
          split at e9
          · rename_i hx
            obtain ⟨j', hj', e1, e2⟩ := h3 hk2 hveq
            have hjj : j' = j := by have := hx.2; omega
            rw [← hjj, e2, Option.some.inj e9]
          · exact h.high j hj y e9
    · exact ⟨h.view, h.own, h.lock, h.prop, h.low, h.high, h.seen⟩
  obtain ⟨s, e, hs⟩ := heard_is h0 hv hh.seen
  rw [e]
  exact ⟨hh.view, hh.own, hh.lock, hh.prop, hh.low, hh.high, hs⟩

/-! ### the second view's rounds -/
structure QE (acc : Bs → Bool) (V : Int) (M : Int → TellM) (yu : Bs × Int) (c : Core) : Prop where
  view : c.view = V
  prop : ∀ p, lookM c.proposals V = some p → p = yu
  mine : lookM c.proposals V = none → proposer c V ≠ c.me
  low : ∀ w, w < V → inner c.prepares w = M w
  high : ∀ k z, lookM (inner c.prepares V) k = some z → z = yu.1
  fit : fit acc c yu = true
  seen : ∀ p ∈ c.seen, p.2 ≤ V
theorem fit_acc {p : Bs × Int} (h : fit acc c p = true) : acc p.1 = true := by
  unfold fit at h
  rw [Bool.and_eq_true] at h
  exact h.1
theorem QE.prepared_is {V : Int} {M : Int → TellM} {yu : Bs × Int} (hl : Loc n me slot c) (h : QE acc V M yu c) {z : Bs} (hp : prepared c V = some z) : z = yu.1 := by
  obtain ⟨q, hq, rfl⟩ := count_len hp
  exact h.high q.1 q.2 (lookM_of_mem (inner_srt hl.srt.prepares.2 V) (show (q.1, q.2) ∈ _ from hq))
theorem QE.step {V : Int} {M : Int → TellM} {yu : Bs × Int} (hl : Loc n me slot c) (h : QE acc V M yu c) (_ : c.decided = false) : QE acc V M yu (stepC acc c).1 := by
  have hV := h.view
  rcases hl.step_cases (acc := acc) (hl.turn_none (by rw [hV]; exact h.seen)) with ⟨p, _, e1, e2⟩ | ⟨p, e1, e2, e3, e⟩ | ⟨v, e1, _, e⟩ | ⟨d, v, e⟩
  · rw [hV] at e1 e2
    exact absurd e2 (h.mine e1)
  · rw [e]
    rw [hV] at e1
    obtain rfl := h.prop p e1
    refine ⟨hV, h.prop, h.mine, fun w hw => ?_, fun k z e => ?_, ?_, h.seen⟩
    · show inner (putM c.view (putM c.me p.1 (inner c.prepares c.view)) c.prepares) w = _
      rw [inner_low hl.srt.prepares.1 _ (by omega)]
      exact h.low w hw
    · have e : lookM (inner (putM c.view (putM c.me p.1 (inner c.prepares c.view)) c.prepares) V) k = some z := e
      rw [look_set hl.srt.prepares.1 hl.srt.prepares.2] at e
      split at e
      · exact (Option.some.inj e).symm
      · exact h.high k z e
    · rw [← h.fit]
      exact fit_same rfl rfl rfl rfl (fun w hw => inner_low hl.srt.prepares.1 _ hw)
  · rw [e]
    rw [hV] at e1
    obtain rfl := h.prepared_is hl e1
    refine ⟨hV, h.prop, h.mine, h.low, h.high, ?_, h.seen⟩
    have ha := fit_acc h.fit
    unfold Sac.fit
    rw [ha]
    have : (yu.1 == yu.1) = true := beq_self_eq_true _
    rw [this]
    simp
  · rw [e]
    exact ⟨hV, h.prop, h.mine, h.low, h.high, h.fit, h.seen⟩
theorem QE.take {V : Int} {M : Int → TellM} {yu : Bs × Int} (hl : Loc n me slot c) (h : QE acc V M yu c) {v : Vt} (h0 : 0 ≤ v.view) (hv : v.view ≤ V) (h1 : v.kind = 1 → v.view = V → (v.value, v.valid) = yu) (h2 : v.kind = 2 → v.view < V → (lookM (M v.view) v.frm).isSome = true) (h3 : v.kind = 2 → v.view = V → v.value = yu.1) : QE acc V M yu (takeC acc c v).1 := by
  refine hl.take_keeps (Q := QE acc V M yu) (fun hl h hd => QE.step hl h hd) (fun c' hk hm => ?_) h
  have hh : QE acc V M yu c' := by
    rcases know_cases hk with ⟨hk1, hno, rfl⟩ | ⟨hk2, hno, rfl⟩ | ⟨cm, tn, dc, rfl⟩
    · refine ⟨h.view, fun p hp => ?_, fun hp => ?_, h.low, h.high, h.fit, h.seen⟩
      · have hp : lookM (putM v.view (v.value, v.valid) c.proposals) V = some p := hp
        rw [lookM_putM _ _ _ hl.srt.props] at hp
        split at hp
        · rename_i e
          rw [← Option.some.inj hp]
          exact h1 hk1 e
        · exact h.prop p hp
      · have hp : lookM (putM v.view (v.value, v.valid) c.proposals) V = none := hp
        rw [lookM_putM _ _ _ hl.srt.props] at hp
        split at hp
        · cases hp
        · exact h.mine hp
    · by_cases hlt : v.view < V
      · exfalso
        have := h2 hk2 hlt
        rw [h.low _ hlt] at hno
        rw [hno] at this; cases this
      · have hveq : v.view = V := by omega
        refine ⟨h.view, h.prop, h.mine, fun w hw => ?_, fun k z e => ?_, ?_, h.seen⟩
        · show inner (putM v.view (putM v.frm v.value (inner c.prepares v.view)) c.prepares) w = _
          rw [inner_low hl.srt.prepares.1 _ (by omega)]
          exact h.low w hw
        · have e : lookM (inner (putM v.view (putM v.frm v.value (inner c.prepares v.view)) c.prepares) V) k = some z := e
          rw [look_set hl.srt.prepares.1 hl.srt.prepares.2] at e
          split at e
          · rw [← Option.some.inj e]
            exact h3 hk2 hveq
          · exact h.high k z e
        · rw [← h.fit]
          exact fit_same rfl rfl rfl rfl (fun w hw => inner_low hl.srt.prepares.1 _ (by have := h.view; omega))
    · exact ⟨h.view, h.prop, h.mine, h.low, h.high, h.fit, h.seen⟩
  obtain ⟨s, e, hs⟩ := heard_is h0 hv hh.seen
  rw [e]
  exact ⟨hh.view, hh.prop, hh.mine, hh.low, hh.high, hh.fit, hs⟩
end
end Go.Proofs.Ytilhdelijdkjpaa
/-
  The first view's rounds: behind them one has decided, or all know what all prepared. Plainly.
-/
namespace Go.Proofs.Ytilhdelijdkjpaa
open Go Go.RowKit Go.Maps Sac

/-- What each core keeps, all keep. -/
theorem tc_core {n : Nat} {slot : Int} {wrong : List Bool} {V : Int} {Q : Nat → Core → Prop} {X : Vt → Prop}
    (hs : ∀ {l : List Core} {a : Nat} {d : Core} {v : Vt}, FInv n slot wrong V l → l[a]? = some d → Q a d → v ∈ Sac.says d → X v)
    (ht : ∀ {l : List Core} {i : Nat} {c : Core} {v : Vt}, FInv n slot wrong V l → l[i]? = some c → Q i c → FTrue n slot wrong l v → X v → Q i (takeC notV c v).1) :
    TC (fun l => FInv n slot wrong V l ∧ ∀ (i : Nat) (c : Core), l[i]? = some c → Q i c) (fun l v => FTrue n slot wrong l v ∧ X v) where
  take {l i c v} h hi hv := by
    obtain ⟨h1, h2⟩ := (FInv.tc n slot wrong V).take h.1 hi hv.1
    refine ⟨⟨h1, fun j d hj => ?_⟩, fun u hu => ⟨h2 u hu.1, hu.2⟩⟩
    by_cases e : i = j
    · subst e
      rw [List.getElem?_set_self (List.getElem?_eq_some_iff.1 hi).1] at hj
      injection hj with hj
      rw [← hj]
      exact ht h.1 hi (h.2 i c hi) hv.1 hv.2
    · rw [List.getElem?_set_ne e] at hj
      exact h.2 j d hj
  says {l i c v} h hi hv := ⟨(FInv.tc n slot wrong V).says h.1 hi hv, hs h.1 hi (h.2 i c hi) hv⟩

/-- All know what all prepared in a view. -/
def Full (l : List Core) (w : Int) : Prop := ∀ (a b : Nat) (c d : Core) (y : Bs), l[a]? = some c → l[b]? = some d → ownP c w = some y → lookM (inner d.prepares w) ((a : Int) + 1) = some y
def AllAt (V : Int) (l : List Core) : Prop := ∀ c ∈ l, c.view = V ∧ c.decided = false
def Some1 (l : List Core) : Prop := ∃ c ∈ l, c.decided = true
def All1 (l : List Core) : Prop := ∀ c ∈ l, c.decided = true
/-- Behind the first of the last views. -/
def Ready (V : Int) (l : List Core) : Prop := Some1 l ∨ (AllAt V l ∧ ∀ w, Full l w)

section
variable {n : Nat} {slot : Int} {wrong : List Bool} {V : Int} {l : List Core}
theorem FInv.view_le (h : FInv n slot wrong V l) {v : Vt} (hv : FTrue n slot wrong l v) : 0 ≤ v.view ∧ v.view ≤ V := by
  obtain ⟨d, hd, hx⟩ := hv.e.2
  have h1 := h.e.view d hd
  have h2 := (encOk_in hv.enc).2.view
  omega
theorem FInv.seen_le (h : FInv n slot wrong V l) {c : Core} (hc : c ∈ l) : ∀ p ∈ c.seen, p.2 ≤ V := fun p hp => by
  obtain ⟨d, hd, hx⟩ := h.e.seen c hc p hp
  have h1 := h.e.view d hd
  omega
/-- Nothing that is told is told twice: what all know is the same. -/
theorem FInv.full_same (h : FInv n slot wrong V l) {w : Int} (hf : Full l w) {b b' : Nat} {d d' : Core} (hb : l[b]? = some d) (hb' : l[b']? = some d') : inner d.prepares w = inner d'.prepares w := by
  have hl := h.e.inv.loc hb
  have hl' := h.e.inv.loc hb'
  have one : ∀ {b b' : Nat} {d d' : Core}, l[b]? = some d → l[b']? = some d' → ∀ k y, lookM (inner d.prepares w) k = some y → lookM (inner d'.prepares w) k = some y := fun {b b' d d'} hb hb' k y e => by
    have hl := h.e.inv.loc hb
    have hk := (keys_inner hl.kp w) _ (lookM_mem e)
    simp only at hk
    have hj : (k - 1).toNat < n := by omega
    have hkk : k = ((k - 1).toNat : Int) + 1 := by omega
    have hkn := h.e.inv.inv.know b (h.e.inv.lt hb)
    rw [fl_at hb] at hkn
    rw [hkk] at e
    have h1 := hkn.p _ hj (h.right hj) w y e
    obtain ⟨c, hc⟩ := h.at_ hj
    rw [h.tellsP hc] at h1
    rw [hkk]
    exact hf _ _ c d' y hc hb' h1
  refine srt_ext (inner_srt hl.srt.prepares.2 w) (inner_srt hl'.srt.prepares.2 w) fun k => ?_
  cases e : lookM (inner d.prepares w) k with
  | some y => exact (one hb hb' k y e).symm
  | none =>
    cases e' : lookM (inner d'.prepares w) k with
    | none => rfl
    | some y => rw [one hb' hb k y e'] at e; cases e
theorem undecided_back {l l' : List Core} (hg : Grows l l') (h : ∀ c ∈ l', c.decided = false) : ∀ c ∈ l, c.decided = false := fun c hc => by
  obtain ⟨i, hi⟩ := List.mem_iff_getElem?.1 hc
  obtain ⟨d, hd⟩ : ∃ d, l'[i]? = some d := ⟨_, List.getElem?_eq_getElem (by rw [hg.1]; exact (List.getElem?_eq_some_iff.1 hi).1)⟩
  cases hx : c.decided with
  | false => rfl
  | true =>
    have := ((hg.2 i c d hi hd).keep.dec hx).1
    rw [h d (List.mem_of_getElem? hd)] at this; cases this
/-- The round, within a view. -/
theorem FInv.round_QB (h0 : FInv n slot wrong V l) {l' : List Core} (h : FInv n slot wrong V l') (hb : ∀ (i : Nat) (c0 c : Core), l[i]? = some c0 → l'[i]? = some c → QB V c0 c) : ∀ (i : Nat) (c0 c : Core), l[i]? = some c0 → (Go.Proofs.Ytilhdelijdkjpaa.roundN l' n)[i]? = some c → QB V c0 c := by
  have tc := tc_core (n := n) (slot := slot) (wrong := wrong) (V := V) (Q := fun i c => ∀ c0, l[i]? = some c0 → QB V c0 c) (X := fun _ => True) (fun _ _ _ _ => trivial)
    (fun {l i c v} hF hi hq hv _ c0 hc0 => (hq c0 hc0).take (hF.e.inv.loc hi) (hF.view_le hv).1 (hF.view_le hv).2)
  have := tc.roundN ⟨h, fun i c hc c0 hc0 => hb i c0 c hc0 hc⟩ n
  exact fun i c0 c hc0 hc => this.2 i c hc c0 hc0
theorem Still.proposed {me : Int} {c : Core} (hl : Loc n me slot c) (hs : Still notV c) (hd : c.decided = false) (hw : c.wishes = true) (hp : proposer c c.view = c.me) : (lookM c.proposals c.view).isSome = true := by
  rcases hs with h | ⟨_, h, _⟩
  · rw [hd] at h; cases h
  · cases hx : (lookM c.proposals c.view).isSome with
    | true => rfl
    | false =>
      exfalso
      unfold proposeC at h
      rw [if_neg (by rw [hx]; rintro (a | a); cases a; exact a hp)] at h
      split at h
      · cases h
      · rw [hw] at h; cases h
theorem Still.committed {me : Int} {c : Core} (hs : Still notV c) (hd : c.decided = false) {z : Bs} (hp : prepared c c.view = some z) : ∃ y, ownC c c.view = some y := by
  rcases hs with h | ⟨_, _, _, h, _⟩
  · rw [hd] at h; cases h
  · cases hx : ownC c c.view with
    | some y => exact ⟨y, rfl⟩
    | none =>
      exfalso
      unfold commitC at h
      rw [hp] at h
      dsimp only at h
      have hx : lookM (inner c.commits c.view) c.me = none := hx
      rw [hx] at h
      unfold setV at h
      rw [hx] at h
      cases h
theorem Still.prepares {c : Core} (hs : Still notV c) (hd : c.decided = false) {p : Bs × Int} (hp : lookM c.proposals c.view = some p) : (ownP c c.view).isSome = true ∨ fit notV c p = false := by
  rcases hs with h | ⟨_, _, h, _⟩
  · rw [hd] at h; cases h
  · cases hx : ownP c c.view with
    | some y => exact .inl rfl
    | none =>
      right
      unfold prepareC at h
      rw [hp] at h
      dsimp only at h
      have hx : lookM (inner c.prepares c.view) c.me = none := hx
      cases hf : fit notV c p with
      | false => rfl
      | true =>
        exfalso
        rw [hx, hf] at h
        unfold setV at h
        rw [hx] at h
        simp at h
/-- The proposer of a view. -/
theorem prop1_at (hn : 4 ≤ n ∧ n ≤ 64) (w : Int) : ∃ a : Nat, a < n ∧ prop1 n slot w = (a : Int) + 1 := by
  have h1 := Int.emod_nonneg (slot + w) (show (n : Int) ≠ 0 by omega)
  have h2 := Int.emod_lt_of_pos (slot + w) (show (0 : Int) < (n : Int) by omega)
  exact ⟨((slot + w) % (n : Int)).toNat, by omega, by unfold prop1; omega⟩
/-- Where all have committed in a view, all have decided behind a round. -/
theorem FInv.commits_decide (h : FInv n slot wrong V l) {w : Int} (hc : ∀ c ∈ l, ∃ y, ownC c w = some y) : All1 (Go.Proofs.Ytilhdelijdkjpaa.roundN l n) := by
  have hn := h.e.inv.inv.hn
  obtain ⟨c0, hc0⟩ := h.at_ (a := 0) (by omega)
  obtain ⟨y, hy⟩ := hc c0 (List.mem_of_getElem? hc0)
  have hsame : ∀ (a : Nat) (c : Core), l[a]? = some c → ownC c w = some y := fun a c hca => by
    obtain ⟨y', hy'⟩ := hc c (List.mem_of_getElem? hca)
    have q1 := h.e.inv.inv.safe.comm a w y' (h.e.inv.lt hca) (h.right (h.e.inv.lt hca)) (by rw [h.tellsC hca]; exact hy')
    have q2 := h.e.inv.inv.safe.comm 0 w y (h.e.inv.lt hc0) (h.right (h.e.inv.lt hc0)) (by rw [h.tellsC hc0]; exact hy)
    rw [hy', Sac.Qp.uniq h.e.inv.inv.many q1 q2]
  intro d hm
  obtain ⟨b, hb⟩ := List.mem_iff_getElem?.1 hm
  have hq := h.roundN n
  have h1 : cnt n (fun _ => true) (fun j : Nat => lookM (inner d.commits w) ((j : Int) + 1) == some y) = n := cnt_full (fun _ _ => rfl) (fun j hj => by
    obtain ⟨cj, hcj⟩ := h.at_ hj
    rw [(h.round_own hcj hb).2 w y (hsame j cj hcj)]
    exact beq_self_eq_true _)
  have h2 := cnt_howMany (n := n) y (inner d.commits w)
  exact Still.decides (hq.e.inv.loc hb) (hq.e.still d hm) hn.1 (v := w) (x := y) (by unfold quorum; omega)
theorem FInv.prepared_of (_ : FInv n slot wrong V l) {b : Nat} {d : Core} (hl : Loc n ((b : Int) + 1) slot d) (hn : 4 ≤ n) {w : Int} {z : Bs} {P : Nat → Option Bs} (hk : ∀ j, j < n → P j = some z → lookM (inner d.prepares w) ((j : Int) + 1) = some z) (hq : quorum n ≤ (cnt n (fun _ => true) (fun j => P j == some z) : Int)) : ∃ z', prepared d w = some z' := by
  have h1 : cnt n (fun _ => true) (fun j => P j == some z) ≤ cnt n (fun _ => true) (fun j : Nat => lookM (inner d.prepares w) ((j : Int) + 1) == some z) := cnt_mono fun j hj _ e => by rw [hk j hj (eq_of_beq e)]; exact beq_self_eq_true _
  have h2 := cnt_howMany (n := n) z (inner d.prepares w)
  unfold prepared
  rw [hl.hn]
  exact count_some_of (y := z) (by omega) (by unfold quorum; omega)
end
end Go.Proofs.Ytilhdelijdkjpaa
/-
  Four rounds in a view: plainly.
-/
namespace Go.Proofs.Ytilhdelijdkjpaa
open Go Go.RowKit Go.Maps Sac

section
variable {n : Nat} {slot : Int} {wrong : List Bool} {V : Int} {l : List Core}
def rounds4 (n : Nat) (l : List Core) : List Core := Go.Proofs.Ytilhdelijdkjpaa.roundN (Go.Proofs.Ytilhdelijdkjpaa.roundN (Go.Proofs.Ytilhdelijdkjpaa.roundN (Go.Proofs.Ytilhdelijdkjpaa.roundN l n) n) n) n
theorem FInv.four (h : FInv n slot wrong V l) : FInv n slot wrong V (rounds4 n l) := (((h.roundN n).roundN n).roundN n).roundN n
theorem FInv.four_grows (h : FInv n slot wrong V l) : Grows l (rounds4 n l) :=
  (((h.roundN_grows n).trans ((h.roundN n).roundN_grows n)).trans (((h.roundN n).roundN n).roundN_grows n)).trans ((((h.roundN n).roundN n).roundN n).roundN_grows n)
theorem not_some1 {l : List Core} (h : ¬ Some1 l) : ∀ c ∈ l, c.decided = false := fun c hc => by
  cases hx : c.decided with
  | false => rfl
  | true => exact absurd ⟨c, hc, hx⟩ h
/-- **The first view.** -/
theorem FInv.first_view (h0 : FInv n slot wrong V l) (hu : AllAt V l) : Ready V (rounds4 n l) := by
  have hn := h0.e.inv.inv.hn
  have h1 := h0.roundN n
  have h2 := h1.roundN n
  have h3 := h2.roundN n
  have h4 := h3.roundN n
  obtain ⟨l1, e1⟩ : ∃ x, Go.Proofs.Ytilhdelijdkjpaa.roundN l n = x := ⟨_, rfl⟩
  have g1 := h0.roundN_grows n
  rw [e1] at h1 h2 h3 h4 g1
  have g2 := h1.roundN_grows n
  obtain ⟨l2, e2⟩ : ∃ x, Go.Proofs.Ytilhdelijdkjpaa.roundN l1 n = x := ⟨_, rfl⟩
  rw [e2] at h2 h3 h4 g2
  have g3 := h2.roundN_grows n
  obtain ⟨l3, e3⟩ : ∃ x, Go.Proofs.Ytilhdelijdkjpaa.roundN l2 n = x := ⟨_, rfl⟩
  rw [e3] at h3 h4 g3
  have g4 := h3.roundN_grows n
  obtain ⟨l4, e4⟩ : ∃ x, Go.Proofs.Ytilhdelijdkjpaa.roundN l3 n = x := ⟨_, rfl⟩
  rw [e4] at h4 g4
  have e5 : rounds4 n l = l4 := by unfold rounds4; rw [e1, e2, e3, e4]
  rw [e5]
  by_cases hd : Some1 l4
  · exact .inl hd
  have u4 := not_some1 hd
  have u3 := undecided_back g4 u4
  have u2 := undecided_back g3 u3
  have u1 := undecided_back g2 u2
  -- within the view
  have b0 : ∀ (i : Nat) (c0 c : Core), l[i]? = some c0 → l[i]? = some c → QB V c0 c := fun i c0 c hc0 hc => by
    rw [hc0] at hc; injection hc with hc; subst hc
    exact ⟨(hu c0 (List.mem_of_getElem? hc0)).1, fun _ _ => rfl, h0.seen_le (List.mem_of_getElem? hc0)⟩
  have b1 := h0.round_QB h0 b0
  rw [e1] at b1
  have b2 := h0.round_QB h1 b1
  rw [e2] at b2
  have back : ∀ {l' : List Core}, l'.length = l.length → ∀ {i : Nat} {c : Core}, l'[i]? = some c → ∃ c0, l[i]? = some c0 := fun {l'} hlen {i c} hc => ⟨_, List.getElem?_eq_getElem (by rw [← hlen]; exact (List.getElem?_eq_some_iff.1 hc).1)⟩
  have v1 : ∀ c ∈ l1, c.view = V := fun c hc => by
    obtain ⟨i, hi⟩ := List.mem_iff_getElem?.1 hc
    obtain ⟨c0, hc0⟩ := back g1.1 hi
    exact (b1 i c0 c hc0 hi).view
  have v2 : ∀ c ∈ l2, c.view = V := fun c hc => by
    obtain ⟨i, hi⟩ := List.mem_iff_getElem?.1 hc
    obtain ⟨c0, hc0⟩ := back (g2.1.trans g1.1) hi
    exact (b2 i c0 c hc0 hi).view
  -- all that was prepared in earlier views is known behind the first round
  have f1 : ∀ w, w < V → Full l1 w := fun w hw a b c d y ha hb hy => by
    obtain ⟨c0, hc0⟩ := back g1.1 ha
    rw [(b1 a c0 c hc0 ha).own w hw] at hy
    rw [← e1] at hb
    exact (h0.round_own hc0 hb).1 w y hy
  obtain ⟨p0, hp0⟩ := h1.at_ (a := 0) (by omega)
  obtain ⟨M, hM⟩ : ∃ M : Int → TellM, M = fun w => inner p0.prepares w := ⟨_, rfl⟩
  have low1 : ∀ (i : Nat) (c : Core), l1[i]? = some c → ∀ w, w < V → inner c.prepares w = M w := fun i c hc w hw => by rw [hM]; exact h1.full_same (f1 w hw) hc hp0
  -- .. and what is proposed
  obtain ⟨ap, hap, hpr⟩ := prop1_at (n := n) (slot := slot) hn V
  have hprop : ∀ d ∈ l1, (lookM d.proposals V).isSome = true := fun d hm => by
    obtain ⟨b, hb⟩ := List.mem_iff_getElem?.1 hm
    obtain ⟨c, hc⟩ := h0.at_ hap
    have hcm := List.mem_of_getElem? hc
    have hl := h0.e.inv.loc hc
    obtain ⟨hcv, hcd⟩ := hu c hcm
    obtain ⟨e, he⟩ := h1.at_ hap
    have hpp : proposer c c.view = c.me := by rw [hl.prop1, hcv, hpr, hl.hme]
    have hs := Still.proposed hl (h0.e.still c hcm) hcd (h0.wi c hcm) hpp
    have := h0.round_prop hc (by rw [e1]; exact hb) (by rw [e1]; exact he) (u1 e (List.mem_of_getElem? he)) ((v1 e (List.mem_of_getElem? he)).trans hcv.symm) hpp hs
    rw [hcv] at this; exact this
  obtain ⟨P, hP⟩ : ∃ P : Nat → Option Bs, P = fun j => (LTells n slot l1).P j V := ⟨_, rfl⟩
  have hPat : ∀ (j : Nat) (c : Core), l1[j]? = some c → P j = ownP c V := fun j c hc => by rw [hP]; exact h1.tellsP hc V
  by_cases hq : ∃ z, quorum n ≤ (cnt n (fun _ => true) (fun j => P j == some z) : Int)
  · -- a quorum has prepared: all commit, and decide
    exfalso
    obtain ⟨z, hz⟩ := hq
    have hc2 : ∀ c ∈ l2, ∃ y, ownC c V = some y := fun d hm => by
      obtain ⟨b, hb⟩ := List.mem_iff_getElem?.1 hm
      have hl := h2.e.inv.loc hb
      obtain ⟨z', hz'⟩ := h2.prepared_of (w := V) (z := z) hl hn.1 (fun j hj hPj => by
        obtain ⟨cj, hcj⟩ := h1.at_ hj
        rw [hPat j cj hcj] at hPj
        exact (h1.round_own hcj (by rw [e2]; exact hb)).1 V z hPj) hz
      have hv := v2 d hm
      have := Still.committed (me := (b : Int) + 1) (h2.e.still d hm) (u2 d hm) (z := z') (by rw [hv]; exact hz')
      rw [hv] at this; exact this
    have hall := h2.commits_decide hc2
    rw [e3] at hall
    obtain ⟨c3, hc3⟩ := h3.at_ (a := 0) (by omega)
    have := hall c3 (List.mem_of_getElem? hc3)
    rw [u3 c3 (List.mem_of_getElem? hc3)] at this; cases this
  · -- none has: nobody prepares any more
    have few : ∀ z, (cnt n (fun _ => true) (fun j => P j == some z) : Int) < quorum n := fun z => Int.not_le.1 fun h => hq ⟨z, h⟩
    have hQ1 : ∀ (i : Nat) (c : Core), l1[i]? = some c → QD1 n notV V M P c := fun i c hc => by
      have hm := List.mem_of_getElem? hc
      have hv := v1 c hm
      have hs := hprop c hm
      cases hx : lookM c.proposals V with
      | none => rw [hx] at hs; cases hs
      | some p =>
        have := Still.prepares (h1.e.still c hm) (u1 c hm) (p := p) (by rw [hv]; exact hx)
        rw [hv] at this
        exact ⟨few, ⟨p, hx, this⟩, low1 i c hc, hv⟩
    have tc := tc_core (n := n) (slot := slot) (wrong := wrong) (V := V) (Q := fun i c => ∀ c1, l1[i]? = some c1 → QD n V M P c1 c)
      (X := fun v => (v.kind = 2 → v.view < V → (lookM (M v.view) v.frm).isSome = true) ∧ (v.kind = 2 → v.view = V → ∃ j : Nat, j < n ∧ v.frm = (j : Int) + 1 ∧ P j = some v.value))
      (fun {l a d v} hF ha hQ hv => by
        have hl := hF.e.inv.loc ha
        have han := hF.e.inv.lt ha
        obtain ⟨c1, hc1⟩ := h1.at_ han
        have hq := hQ c1 hc1
        have h2 := (says_heard hl hv).1.1
        have hfrm : v.frm = (a : Int) + 1 := (hl.says_own (hF.pv d (List.mem_of_getElem? ha)) hv).1
        refine ⟨fun hk hlt => ?_, fun hk heq => ⟨a, han, hfrm, ?_⟩⟩
        · have := h2 hk
          rw [hq.low _ hlt] at this
          rw [this]; rfl
        · have := h2 hk
          rw [hPat a c1 hc1, ← hq.own V]
          rw [heq, hfrm, ← hl.hme] at this
          exact this)
      (fun {l i c v} hF hi hQ hv hX c1 hc1 => by
        have hl := hF.e.inv.loc hi
        exact QD.take (h1.e.inv.loc hc1).hn (hQ1 i c1 hc1) hl (hQ c1 hc1) (hF.view_le hv).1 (hF.view_le hv).2 hX.1 hX.2)
    have start : ∀ (i : Nat) (c : Core), l1[i]? = some c → ∀ c1, l1[i]? = some c1 → QD n V M P c1 c := fun i c hc c1 hc1 => by
      rw [hc] at hc1; injection hc1 with hc1; subst hc1
      have hm := List.mem_of_getElem? hc
      have hkn := h1.e.inv.inv.know i (h1.e.inv.lt hc)
      rw [fl_at hc] at hkn
      exact ⟨v1 c hm, fun _ => rfl, ⟨rfl, rfl⟩, rfl, low1 i c hc, fun j hj y e => by rw [hP]; exact hkn.p j hj (h1.right hj) V y e, h1.seen_le hm⟩
    have d2 := tc.roundN ⟨h1, start⟩ n
    rw [e2] at d2
    have d3 := tc.roundN d2 n
    rw [e3] at d3
    have d4 := tc.roundN d3 n
    rw [e4] at d4
    refine .inr ⟨fun c hc => ?_, fun w a b c d y ha hb hy => ?_⟩
    · obtain ⟨i, hi⟩ := List.mem_iff_getElem?.1 hc
      obtain ⟨c1, hc1⟩ := h1.at_ (h4.e.inv.lt hi)
      exact ⟨(d4.2 i c hi c1 hc1).view, u4 c hc⟩
    · obtain ⟨c1, hc1⟩ := h1.at_ (h4.e.inv.lt ha)
      rw [(d4.2 a c ha c1 hc1).own w] at hy
      obtain ⟨db, hdb⟩ := h2.at_ (h4.e.inv.lt hb)
      exact ((g3.trans g4).2 b db d hdb hb).gp _ _ _ ((h1.round_own hc1 (by rw [e2]; exact hdb)).1 w y hy)
end
end Go.Proofs.Ytilhdelijdkjpaa
/-
  All go on to a view; the second view's rounds; the end: plainly.
-/
namespace Go.Proofs.Ytilhdelijdkjpaa
open Go Go.RowKit Go.Maps Sac

theorem best_prepared {c : Core} {below : Int} {r : Int × Bs} (h : best c below = some r) : prepared c r.1 = some r.2 := by
  unfold best at h
  obtain ⟨p, hp, h2⟩ := List.exists_of_findSome?_eq_some h
  split at h2
  · rename_i v hv
    split at h2
    · cases h2; exact hv
    · cases h2
  · cases h2
theorem best_from {c : Core} {below : Int} {p0 : Int × TellM} {z : Bs} (hz : prepared c p0.1 = some z) (hb : p0.1 < below) : ∀ L : List (Int × TellM), L.Pairwise (fun a b => b.1 < a.1) → p0 ∈ L → ∃ r, (L.findSome? fun p => match prepared c p.1 with
    | some v => if p.1 < below then some (p.1, v) else none
    | none => none) = some r ∧ p0.1 ≤ r.1
  | x :: L, hL, hm => by
    have hL' := List.pairwise_cons.1 hL
    rw [List.findSome?_cons]
    rcases List.mem_cons.1 hm with e | hm
    · rw [← e, hz]
      dsimp only
      rw [if_pos hb]
      exact ⟨_, rfl, Int.le_refl _⟩
    · have hlt := hL'.1 p0 hm
      split
      · rename_i r hr
        split at hr
        · split at hr
          · injection hr with hr
            rw [← hr]
            exact ⟨_, rfl, by show p0.1 ≤ x.1; omega⟩
          · cases hr
        · cases hr
      · exact best_from hz hb L hL'.2 hm
theorem best_max {c : Core} (hs : Srt c.prepares) {w below : Int} {z : Bs} (hz : prepared c w = some z) (hb : w < below) : ∃ r, best c below = some r ∧ w ≤ r.1 := by
  cases hl : lookM c.prepares w with
  | none =>
    exfalso
    unfold prepared inner at hz
    rw [hl] at hz
    cases hz
  | some t =>
    have hm := lookM_mem hl
    unfold best
    exact best_from (p0 := (w, t)) hz hb _ (List.pairwise_reverse.2 hs) (List.mem_reverse.2 hm)
theorem says_prop {c : Core} {n me slot : Int} (h : Loc n me slot c) {v : Vt} (hv : v ∈ Sac.says c) (hk : v.kind = 1) : v.view = c.view ∧ lookM c.proposals c.view = some (v.value, v.valid) := by
  unfold Sac.says at hv
  rcases List.mem_append.1 hv with hv | hv
  · rcases List.mem_append.1 hv with hv | hv
    · rcases List.mem_append.1 hv with hv | hv
      · split at hv
        · rw [List.mem_singleton.1 hv] at hk; exact absurd (show (4 : Int) = 1 from hk) (by decide)
        · rw [List.mem_singleton.1 hv] at hk; exact absurd (show (5 : Int) = 1 from hk) (by decide)
      · split at hv
        · rename_i p hp
          split at hv
          · rw [List.mem_singleton.1 hv]
            exact ⟨rfl, hp⟩
          · cases hv
        · cases hv
    · have := (mem_mine h.srt.prepares.1 hv).1; omega
  · have := (mem_mine h.srt.commits.1 hv).1; omega

/-- So many times late. -/
def lateN : Nat → Core → Core
  | 0, c => c
  | k + 1, c => lateC notV (lateN k c)
/-- A core has gone on to a view, or has decided. -/
def Gone (V : Int) (c c' : Core) : Prop := ∃ k, c' = lateN k c ∧ (∀ j, j < k → (lateN j c).decided = false ∧ (lateN j c).view < V) ∧ (c'.decided = true ∨ V ≤ c'.view)
/-- The first i have gone on. -/
def GoSt (V : Int) (l0 : List Core) (i : Nat) (l : List Core) : Prop := l.length = l0.length ∧ ∀ (j : Nat) (c0 c : Core), l0[j]? = some c0 → l[j]? = some c → (j < i → Gone V c0 c) ∧ (i ≤ j → c = c0)
section
variable {n : Nat} {slot : Int} {wrong : List Bool} {V : Int} {l l0 lg : List Core}
theorem FInv.up (h : FInv n slot wrong V l) {V' : Int} (hV : V ≤ V') : FInv n slot wrong V' l := ⟨h.e.same hV, h.pv, h.wi⟩
theorem FInv.late (h : FInv n slot wrong V l) {i : Nat} {c : Core} (hi : l[i]? = some c) (hlt : c.view < V) : FInv n slot wrong V (l.set i (lateC notV c)) := by
  have hl := h.e.inv.loc hi
  have hmem : c ∈ l := List.mem_of_getElem? hi
  have hg := hl.grow_late (acc := notV)
  refine ⟨?_, mem_set_all h.pv (hg.keep.pv (h.pv c hmem)), mem_set_all h.wi (hg.gw (h.wi c hmem))⟩
  have hL := h.e.inv.late hi
  unfold lateC at hL ⊢
  split
  · rename_i e
    rw [if_pos e] at hL
    have hr := hl.rise (v := c.view + 1) (by omega) (by omega)
    exact h.e.set (c1 := { c with view := c.view + 1 }) hi hL (Int.le_refl _) hr.act_still hr.acts (by show c.view ≤ c.view + 1; omega) (by show c.view + 1 ≤ V; omega) (hr.keep_act (acc := notV)).view (h.e.wish c hmem) (h.e.props c hmem) (h.e.seen c hmem)
  · rw [set_same hi]; exact h.e
theorem FInv.lateN (h : FInv n slot wrong V l) {i : Nat} {c : Core} (hi : l[i]? = some c) : ∀ k, (∀ j, j < k → (Go.Proofs.Ytilhdelijdkjpaa.lateN j c).decided = false ∧ (Go.Proofs.Ytilhdelijdkjpaa.lateN j c).view < V) → FInv n slot wrong V (l.set i (Go.Proofs.Ytilhdelijdkjpaa.lateN k c)) ∧ Grow c (Go.Proofs.Ytilhdelijdkjpaa.lateN k c)
  | 0, _ => ⟨by show FInv n slot wrong V (l.set i c); rw [set_same hi]; exact h, Grow.refl c⟩
  | k + 1, hk => by
    obtain ⟨h1, h2⟩ := h.lateN hi k (fun j hj => hk j (by omega))
    have hil := (List.getElem?_eq_some_iff.1 hi).1
    have hi2 : (l.set i (Go.Proofs.Ytilhdelijdkjpaa.lateN k c))[i]? = some (Go.Proofs.Ytilhdelijdkjpaa.lateN k c) := List.getElem?_set_self hil
    have h3 := h1.late hi2 (hk k (by omega)).2
    rw [List.set_set] at h3
    exact ⟨h3, h2.trans (h1.e.inv.loc hi2).grow_late⟩
theorem GoSt.start (V : Int) (l0 : List Core) : GoSt V l0 0 l0 := ⟨rfl, fun j c0 c h h' => ⟨fun hj => absurd hj (Nat.not_lt_zero _), fun _ => by rw [h] at h'; exact (Option.some.inj h').symm⟩⟩
theorem GoSt.next {i : Nat} {c0 c' : Core} (h : GoSt V l0 i l) (hi : l0[i]? = some c0) (hg : Gone V c0 c') : GoSt V l0 (i + 1) (l.set i c') := by
  refine ⟨by rw [List.length_set]; exact h.1, fun j d0 d hd0 hd => ?_⟩
  by_cases e : i = j
  · subst e
    rw [List.getElem?_set_self (by rw [h.1]; exact (List.getElem?_eq_some_iff.1 hi).1)] at hd
    injection hd with hd
    rw [hi] at hd0
    injection hd0 with hd0
    subst hd hd0
    exact ⟨fun _ => hg, fun hj => by omega⟩
  · rw [List.getElem?_set_ne e] at hd
    have := h.2 j d0 d hd0 hd
    exact ⟨fun hj => this.1 (by omega), fun hj => this.2 (by omega)⟩
theorem GoSt.back {i : Nat} {c0 : Core} (h : GoSt V l0 (i + 1) l) (hi : l0[i]? = some c0) : GoSt V l0 i (l.set i c0) := by
  refine ⟨by rw [List.length_set]; exact h.1, fun j d0 d hd0 hd => ?_⟩
  by_cases e : i = j
  · subst e
    rw [List.getElem?_set_self (by rw [h.1]; exact (List.getElem?_eq_some_iff.1 hi).1)] at hd
    injection hd with hd
    rw [hi] at hd0
    injection hd0 with hd0
    exact ⟨fun hj => by omega, fun _ => by rw [← hd, ← hd0]⟩
  · rw [List.getElem?_set_ne e] at hd
    have := h.2 j d0 d hd0 hd
    exact ⟨fun hj => this.1 (by omega), fun hj => this.2 (by omega)⟩
theorem FInv.gone (h0 : FInv n slot wrong V l0) : ∀ (i : Nat) {l : List Core}, GoSt V l0 i l → FInv n slot wrong V l ∧ Grows l0 l
  | 0, l, h => by
    have : l = l0 := List.ext_getElem? fun j => by
      cases hj : l0[j]? with
      | none => rw [List.getElem?_eq_none_iff] at hj ⊢; rw [h.1]; exact hj
      | some c0 =>
        obtain ⟨c, hc⟩ : ∃ c, l[j]? = some c := ⟨_, List.getElem?_eq_getElem (by rw [h.1]; exact (List.getElem?_eq_some_iff.1 hj).1)⟩
        rw [hc, (h.2 j c0 c hj hc).2 (Nat.zero_le _)]
    rw [this]
    exact ⟨h0, Grows.refl _⟩
  | i + 1, l, h => by
    cases hi : l0[i]? with
    | none =>
      refine h0.gone i ⟨h.1, fun j c0 c hc0 hc => ?_⟩
      have hj := (List.getElem?_eq_some_iff.1 hc0).1
      rw [List.getElem?_eq_none_iff] at hi
      exact ⟨fun hji => (h.2 j c0 c hc0 hc).1 (by omega), fun hij => by omega⟩
    | some c0 =>
      have hil := (List.getElem?_eq_some_iff.1 hi).1
      obtain ⟨c, hc⟩ : ∃ c, l[i]? = some c := ⟨_, List.getElem?_eq_getElem (by rw [h.1]; exact hil)⟩
      obtain ⟨h1, h2⟩ := h0.gone i (h.back hi)
      obtain ⟨k, rfl, hk, _⟩ := (h.2 i c0 c hi hc).1 (by omega)
      have hi2 : (l.set i c0)[i]? = some c0 := List.getElem?_set_self (by rw [h.1]; exact hil)
      obtain ⟨h3, h4⟩ := h1.lateN hi2 k hk
      rw [List.set_set, set_same hc] at h3
      refine ⟨h3, h2.trans ?_⟩
      have h5 := grows_set hi2 h4
      rw [List.set_set, set_same hc] at h5
      exact h5
end
end Go.Proofs.Ytilhdelijdkjpaa
/-
  The plain law of VoteEnds: within two views all have decided.
-/
namespace Go.Proofs.Ytilhdelijdkjpaa
open Go Go.RowKit Go.Maps Sac

section
variable {n : Nat} {slot : Int} {wrong : List Bool} {V : Int} {l lg : List Core}
/-- What is proposed in the second view. -/
def yuOf (cp : Core) (below : Int) : Bs × Int := match best cp below with | some r => (r.2, r.1) | none => (cp.wish, -1)
/-- It may be prepared by all. -/
theorem FInv.fits (h : FInv n slot wrong V l) (ha : AllAt V l) (hf : ∀ w, Full l w) {i ap : Nat} {c cp : Core} (hi : l[i]? = some c) (hp : l[ap]? = some cp) : fit notV { c with view := V + 1 } (yuOf cp (V + 1)) = true := by
  have hn := h.e.inv.inv.hn
  have hl := h.e.inv.loc hi
  have hlp := h.e.inv.loc hp
  have hcv := (ha c (List.mem_of_getElem? hi)).1
  have hin : ∀ w, inner c.prepares w = inner cp.prepares w := fun w => h.full_same (hf w) hi hp
  have hacc : notV (yuOf cp (V + 1)).1 = true := by
    unfold yuOf
    cases hb : best cp (V + 1) with
    | none => exact h.e.wish cp (List.mem_of_getElem? hp) (h.wi cp (List.mem_of_getElem? hp))
    | some r =>
      have h1 := best_prepared hb
      have hk := h.e.inv.inv.prepared (h.e.inv.lt hp) (w := r.1) (y := r.2) (by rw [fl_at hp]; exact h1)
      obtain ⟨j, hj, rj, e⟩ := cnt_one (Nat.le_trans h.e.inv.inv.many.pos hk)
      exact h.e.inv.inv.safe.acc j r.1 r.2 hj rj (eq_of_beq e)
  unfold fit
  rw [hacc]
  rcases hl.lock with ⟨h1, _, _⟩ | ⟨h1, h2, _⟩
  · have : decide (c.lock < 0) = true := decide_eq_true (by omega)
    rw [this]
    rfl
  · have hle := (hl.oC c.lock c.locked h2).2
    have hqp := h.e.inv.inv.safe.comm i c.lock c.locked (h.e.inv.lt hi) (h.right (h.e.inv.lt hi)) (by rw [h.tellsC hi]; exact h2)
    have hqk := h.qk_is
    have hqp : qk n (rightL wrong) ≤ cnt n (rightL wrong) (fun j => (LTells n slot l).P j c.lock == some c.locked) := hqp
    rw [cnt_right (fun a ha => h.right ha)] at hqp
    obtain ⟨z, hz⟩ := h.prepared_of (w := c.lock) (z := c.locked) hlp hn.1 (P := fun j => (LTells n slot l).P j c.lock) (fun j hj e => by
      obtain ⟨cj, hcj⟩ := h.at_ hj
      rw [h.tellsP hcj] at e
      exact hf c.lock j ap cj cp _ hcj hp e) (by omega)
    obtain ⟨r, hr, hrl⟩ := best_max (below := V + 1) hlp.srt.prepares.1 hz (by omega)
    have hrb := best_lt hr
    have hrp := best_prepared hr
    have e1 : yuOf cp (V + 1) = (r.2, r.1) := by unfold yuOf; rw [hr]
    have e2 : prepared { c with view := V + 1 } r.1 = some r.2 := by
      rw [← hrp]
      unfold prepared
      show count (inner c.prepares r.1) (quorum c.n) = _
      rw [hin, hl.hn, hlp.hn]
    rw [e1]
    dsimp only
    rw [e2]
    have e3 : decide (c.lock ≤ r.1 ∧ r.1 < V + 1) = true := decide_eq_true ⟨hrl, hrb⟩
    rw [e3]
    have e4 : (r.2 == r.2) = true := beq_self_eq_true _
    simp only [e4, Bool.and_self, Bool.or_true]
/-- All have gone on: each is as the second view wants it. -/
theorem FInv.second_start (h : FInv n slot wrong V l) (ha : AllAt V l) (hf : ∀ w, Full l w) (hV : V < 1048576) {ap : Nat} {cp : Core} (hp : l[ap]? = some cp) (hap : prop1 n slot (V + 1) = (ap : Int) + 1) {i : Nat} {c : Core} (hi : l[i]? = some c) :
    QE notV (V + 1) (fun w => inner cp.prepares w) (yuOf cp (V + 1)) (lateC notV c) := by
  have hl := h.e.inv.loc hi
  have hm := List.mem_of_getElem? hi
  obtain ⟨hcv, hcd⟩ := ha c hm
  have hseen := h.seen_le hm
  have hfit := h.fits ha hf hi hp
  have hin : ∀ w, inner c.prepares w = inner cp.prepares w := fun w => h.full_same (hf w) hi hp
  have hnop : lookM c.proposals (V + 1) = none := by
    cases hx : lookM c.proposals (V + 1) with
    | none => rfl
    | some p =>
      obtain ⟨d, hd, hle⟩ := h.e.props c hm _ (lookM_mem hx)
      have := h.e.view d hd
      simp only at hle
      omega
  have hnok : ∀ k z, lookM (inner c.prepares (V + 1)) k = some z → z = (yuOf cp (V + 1)).1 := fun k z e => by
    exfalso
    have hk := (keys_inner hl.kp (V + 1)) _ (lookM_mem e)
    simp only at hk
    have hkk : k = ((k - 1).toNat : Int) + 1 := by omega
    have hj : (k - 1).toNat < n := by omega
    have hkn := h.e.inv.inv.know i (h.e.inv.lt hi)
    rw [fl_at hi] at hkn
    rw [hkk] at e
    have h1 := hkn.p _ hj (h.right hj) (V + 1) z e
    obtain ⟨d, hd⟩ := h.at_ hj
    rw [h.tellsP hd] at h1
    have h2 := ((h.e.inv.loc hd).oP _ _ h1).2
    have h3 := h.e.view d (List.mem_of_getElem? hd)
    omega
  have hr := hl.rise (v := V + 1) (by omega) (by omega)
  unfold lateC
  rw [if_pos ⟨hcd, by omega⟩]
  have ev : ({ c with view := c.view + 1 } : Core) = { c with view := V + 1 } := by rw [hcv]
  rw [ev]
  by_cases e : i = ap
  · subst e
    rw [hp] at hi
    injection hi with hi
    subst hi
    have htn : turnC { cp with view := V + 1 } = none := hr.turn_none (fun p hp => by have := hseen p hp; show p.2 ≤ V + 1; omega)
    have hpc : proposeC { cp with view := V + 1 } = some { cp with view := V + 1, proposals := putM (V + 1) (yuOf cp (V + 1)) cp.proposals } := by
      have hb : best { cp with view := V + 1 } (V + 1) = best cp (V + 1) := rfl
      unfold proposeC
      dsimp only
      rw [hnop, hb]
      rw [if_neg (by
        rintro (a | a)
        · cases a
        · refine a ?_
          rw [hr.prop1, hap, ← hl.hme])]
      unfold yuOf
      cases hx : best cp (V + 1) with
      | some r => rfl
      | none => show (if cp.wishes then _ else none) = _; rw [if_pos (h.wi cp hm)]
    show QE notV (V + 1) _ _ (Sac.actN notV (rest { cp with view := V + 1 } + 1) { cp with view := V + 1 })
    unfold Sac.actN
    rw [if_neg (by show ¬ cp.decided = true; rw [hcd]; decide)]
    have hst : stepC notV { cp with view := V + 1 } = ({ cp with view := V + 1, proposals := putM (V + 1) (yuOf cp (V + 1)) cp.proposals }, true) := by
      unfold stepC
      rw [htn, hpc]
    rw [hst]
    dsimp only
    have hl2 := (hr.propose hpc).1
    refine actN_keeps (n := n) (me := (i : Int) + 1) (slot := slot) (Q := QE notV (V + 1) (fun w => inner cp.prepares w) (yuOf cp (V + 1))) (fun hl h hd => QE.step hl h hd) hl2 ?_
    refine ⟨rfl, fun p hp => ?_, fun hp => ?_, fun w _ => rfl, hnok, hfit, fun p hp => by have := hseen p hp; omega⟩
    · have hp : lookM (putM (V + 1) (yuOf cp (V + 1)) cp.proposals) (V + 1) = some p := hp
      rw [lookM_putM _ _ _ hl.srt.props, if_pos rfl] at hp
      exact (Option.some.inj hp).symm
    · have hp : lookM (putM (V + 1) (yuOf cp (V + 1)) cp.proposals) (V + 1) = none := hp
      rw [lookM_putM _ _ _ hl.srt.props, if_pos rfl] at hp
      cases hp
  · refine actN_keeps (n := n) (me := (i : Int) + 1) (slot := slot) (Q := QE notV (V + 1) (fun w => inner cp.prepares w) (yuOf cp (V + 1))) (fun hl h hd => QE.step hl h hd) hr ?_
    refine ⟨rfl, fun p hp => ?_, fun _ hx => ?_, fun w _ => hin w, hnok, hfit, fun p hp => by have := hseen p hp; omega⟩
    · have hp : lookM c.proposals (V + 1) = some p := hp
      rw [hnop] at hp; cases hp
    · rw [hr.prop1, hap] at hx
      have hx : (ap : Int) + 1 = c.me := hx
      rw [hl.hme] at hx
      omega
/-- **The second view.** -/
theorem FInv.second_view (hg : FInv n slot wrong V lg) {M : Int → TellM} {yu : Bs × Int} (hQ : ∀ (i : Nat) (c : Core), lg[i]? = some c → QE notV V M yu c) : All1 (rounds4 n lg) := by
  have hn := hg.e.inv.inv.hn
  have h1 := hg.roundN n
  obtain ⟨l1, e1⟩ : ∃ x, Go.Proofs.Ytilhdelijdkjpaa.roundN lg n = x := ⟨_, rfl⟩
  have g1 := hg.roundN_grows n
  rw [e1] at h1 g1
  have h2 := h1.roundN n
  have g2 := h1.roundN_grows n
  obtain ⟨l2, e2⟩ : ∃ x, Go.Proofs.Ytilhdelijdkjpaa.roundN l1 n = x := ⟨_, rfl⟩
  rw [e2] at h2 g2
  have h3 := h2.roundN n
  have g3 := h2.roundN_grows n
  obtain ⟨l3, e3⟩ : ∃ x, Go.Proofs.Ytilhdelijdkjpaa.roundN l2 n = x := ⟨_, rfl⟩
  rw [e3] at h3 g3
  have e5 : rounds4 n lg = Go.Proofs.Ytilhdelijdkjpaa.roundN l3 n := by unfold rounds4; rw [e1, e2, e3]
  rw [e5]
  by_cases hd : Some1 l3
  · obtain ⟨c, hc, hcd⟩ := hd
    obtain ⟨i, hi⟩ := List.mem_iff_getElem?.1 hc
    exact h3.all_decided hi hcd
  exfalso
  have u3 := not_some1 hd
  have u2 := undecided_back g3 u3
  have u1 := undecided_back g2 u2
  have u0 := undecided_back g1 u1
  have tc := tc_core (n := n) (slot := slot) (wrong := wrong) (V := V) (Q := fun _ c => QE notV V M yu c)
    (X := fun v => (v.kind = 1 → v.view = V → (v.value, v.valid) = yu) ∧ (v.kind = 2 → v.view < V → (lookM (M v.view) v.frm).isSome = true) ∧ (v.kind = 2 → v.view = V → v.value = yu.1))
    (fun {l a d v} hF ha hq hv => by
      have hl := hF.e.inv.loc ha
      have h2 := (says_heard hl hv).1.1
      refine ⟨fun hk hV => ?_, fun hk hlt => ?_, fun hk heq => ?_⟩
      · have := (says_prop hl hv hk).2
        rw [hq.view] at this
        exact hq.prop _ this
      · have := h2 hk
        rw [hq.low _ hlt] at this
        rw [this]; rfl
      · have := h2 hk
        rw [heq] at this
        exact hq.high _ _ this)
    (fun {l i c v} hF hi hq hv hX => QE.take (hF.e.inv.loc hi) hq (hF.view_le hv).1 (hF.view_le hv).2 hX.1 hX.2.1 hX.2.2)
  have d1 := tc.roundN ⟨hg, hQ⟩ n
  rw [e1] at d1
  have d2 := tc.roundN d1 n
  rw [e2] at d2
  obtain ⟨ap, hap, hpr⟩ := prop1_at (n := n) (slot := slot) hn V
  have hown1 : ∀ (j : Nat) (d : Core), l1[j]? = some d → ownP d V = some yu.1 := fun b d hb => by
    have hm := List.mem_of_getElem? hb
    obtain ⟨c, hc⟩ := hg.at_ hap
    have hl := hg.e.inv.loc hc
    have hqc := hQ ap c hc
    have hpp : proposer c c.view = c.me := by rw [hl.prop1, hqc.view, hpr, hl.hme]
    have hs : (lookM c.proposals c.view).isSome = true := by
      rw [hqc.view]
      cases hx : lookM c.proposals V with
      | some p => rfl
      | none => exact absurd (by rw [← hqc.view]; exact hpp) (hqc.mine hx)
    obtain ⟨e, he⟩ := h1.at_ hap
    have hqe := d1.2 ap e he
    have h5 := hg.round_prop hc (by rw [e1]; exact hb) (by rw [e1]; exact he) (u1 e (List.mem_of_getElem? he)) (hqe.view.trans hqc.view.symm) hpp hs
    rw [hqc.view] at h5
    have hqd := d1.2 b d hb
    cases hx : lookM d.proposals V with
    | none => rw [hx] at h5; cases h5
    | some p =>
      obtain rfl := hqd.prop p hx
      have h6 := Still.prepares (h1.e.still d hm) (u1 d hm) (p := p) (by rw [hqd.view]; exact hx)
      rw [hqd.view, hqd.fit] at h6
      rcases h6 with h6 | h6
      · cases hy : ownP d V with
        | none => rw [hy] at h6; cases h6
        | some y => rw [hqd.high _ y hy]
      · cases h6
  have hc2 : ∀ c ∈ l2, ∃ y, ownC c V = some y := fun d hm => by
    obtain ⟨b, hb⟩ := List.mem_iff_getElem?.1 hm
    have hl := h2.e.inv.loc hb
    have hcn : cnt n (fun _ => true) (fun j => (LTells n slot l1).P j V == some yu.1) = n := cnt_full (fun _ _ => rfl) (fun j hj => by
      obtain ⟨cj, hcj⟩ := h1.at_ hj
      rw [h1.tellsP hcj, hown1 j cj hcj]
      exact beq_self_eq_true _)
    obtain ⟨z', hz'⟩ := h2.prepared_of (w := V) (z := yu.1) hl hn.1 (P := fun j => (LTells n slot l1).P j V) (fun j hj hPj => by
      obtain ⟨cj, hcj⟩ := h1.at_ hj
      rw [h1.tellsP hcj] at hPj
      exact (h1.round_own hcj (by rw [e2]; exact hb)).1 V _ hPj) (by rw [hcn]; unfold quorum; omega)
    have hqd := d2.2 b d hb
    have := Still.committed (me := (b : Int) + 1) (h2.e.still d hm) (u2 d hm) (z := z') (by rw [hqd.view]; exact hz')
    rw [hqd.view] at this; exact this
  have hall := h2.commits_decide hc2
  rw [e3] at hall
  obtain ⟨c3, hc3⟩ := h3.at_ (a := 0) (by omega)
  have := hall c3 (List.mem_of_getElem? hc3)
  rw [u3 c3 (List.mem_of_getElem? hc3)] at this; cases this

theorem FInv.some_all (h : FInv n slot wrong V l) (hd : Some1 l) : All1 (rounds4 n l) := by
  obtain ⟨c, hc, hcd⟩ := hd
  obtain ⟨i, hi⟩ := List.mem_iff_getElem?.1 hc
  have h1 := h.all_decided hi hcd
  have h2 := (h.roundN n).stay_decided h1
  have h3 := ((h.roundN n).roundN n).stay_decided h2
  exact (((h.roundN n).roundN n).roundN n).stay_decided h3
theorem some_grows {l l' : List Core} (hg : Grows l l') (h : Some1 l) : Some1 l' := by
  obtain ⟨c, hc, hcd⟩ := h
  obtain ⟨i, hi⟩ := List.mem_iff_getElem?.1 hc
  obtain ⟨d, hd⟩ : ∃ d, l'[i]? = some d := ⟨_, List.getElem?_eq_getElem (by rw [hg.1]; exact (List.getElem?_eq_some_iff.1 hi).1)⟩
  exact ⟨d, List.mem_of_getElem? hd, ((hg.2 i c d hi hd).keep.dec hcd).1⟩
/-- Where things stand behind so many of the last views. -/
def Stage (V : Int) : Nat → List Core → Prop
  | 0, _ => True
  | 1, l => Ready V l
  | _ + 2, l => All1 l
/-- **One of the last views.** -/
theorem FInv.view_on (h : FInv n slot wrong V l) (hV : V < 1048576) {t : Nat} (hs : Stage V t l) (hg : GoSt (V + 1) l n lg) : FInv n slot wrong (V + 1) (rounds4 n lg) ∧ Stage (V + 1) (t + 1) (rounds4 n lg) := by
  have hu := h.up (V' := V + 1) (by omega)
  obtain ⟨hF, hG⟩ := hu.gone n hg
  refine ⟨hF.four, ?_⟩
  have gone : ∀ {i : Nat} {c0 c : Core}, l[i]? = some c0 → lg[i]? = some c → Gone (V + 1) c0 c := fun {i c0 c} h0 h1 => (hg.2 i c0 c h0 h1).1 (h.e.inv.lt h0)
  match t, hs with
  | 0, _ =>
    show Ready (V + 1) (rounds4 n lg)
    by_cases hd : Some1 lg
    · left
      obtain ⟨c, hc⟩ := hF.four.at_ (a := 0) (by have := hF.e.inv.inv.hn; omega)
      exact ⟨c, List.mem_of_getElem? hc, hF.some_all hd c (List.mem_of_getElem? hc)⟩
    · refine hF.first_view fun c hc => ⟨?_, not_some1 hd c hc⟩
      obtain ⟨i, hi⟩ := List.mem_iff_getElem?.1 hc
      obtain ⟨c0, hc0⟩ := h.at_ (hF.e.inv.lt hi)
      obtain ⟨k, _, _, hk⟩ := gone hc0 hi
      have h2 := hF.e.view c hc
      rcases hk with hk | hk
      · rw [not_some1 hd c hc] at hk; cases hk
      · omega
  | 1, hs =>
    show All1 (rounds4 n lg)
    rcases hs with hs | ⟨ha, hf⟩
    · exact hF.some_all (some_grows hG hs)
    · by_cases hd : Some1 lg
      · exact hF.some_all hd
      · obtain ⟨ap, hap, hpr⟩ := prop1_at (n := n) (slot := slot) h.e.inv.inv.hn (V + 1)
        obtain ⟨cp, hcp⟩ := h.at_ hap
        refine hF.second_view (M := fun w => inner cp.prepares w) (yu := yuOf cp (V + 1)) fun i c hi => ?_
        obtain ⟨c0, hc0⟩ := h.at_ (hF.e.inv.lt hi)
        obtain ⟨hv0, hd0⟩ := ha c0 (List.mem_of_getElem? hc0)
        obtain ⟨k, rfl, hk1, hk2⟩ := gone hc0 hi
        have hstart := h.second_start ha hf hV hcp hpr hc0
        have hk : k = 1 := by
          rcases Nat.lt_or_ge k 1 with hk | hk
          · exfalso
            have : k = 0 := by omega
            subst this
            rcases hk2 with e | e
            · have e : c0.decided = true := e
              rw [hd0] at e; cases e
            · have e : V + 1 ≤ c0.view := e
              omega
          · rcases Nat.lt_or_ge 1 k with hk3 | hk3
            · exfalso
              have := (hk1 1 hk3).2
              have e : Go.Proofs.Ytilhdelijdkjpaa.lateN 1 c0 = lateC notV c0 := rfl
              rw [e, hstart.view] at this
              omega
            · omega
        subst hk
        exact hstart
  | t + 2, hs =>
    show All1 (rounds4 n lg)
    have hall : All1 lg := fun c hc => by
      obtain ⟨i, hi⟩ := List.mem_iff_getElem?.1 hc
      obtain ⟨c0, hc0⟩ := h.at_ (hF.e.inv.lt hi)
      exact ((hG.2 i c0 c hc0 hi).keep.dec (hs c0 (List.mem_of_getElem? hc0))).1
    obtain ⟨c, hc⟩ := hF.at_ (a := 0) (by have := hF.e.inv.inv.hn; omega)
    exact hF.some_all ⟨c, List.mem_of_getElem? hc, hall c (List.mem_of_getElem? hc)⟩
end
end Go.Proofs.Ytilhdelijdkjpaa
