/-
  The peers, plainly: what they are told, and why no two of the right ones decide unlike values.
-/
import Derived.Test.YtilhdelijdkjpaaPA
import Derived.Test.YtilhdelijdkjpaaPB
set_option linter.unusedVariables false
set_option linter.unusedSimpArgs false
namespace Go.Proofs.Ytilhdelijdkjpaa
open Go Go.RowKit Go.Maps Sac

def tellsOf (f : Nat → Core) : Tells := ⟨fun i w => ownP (f i) w, fun i w => ownC (f i) w, fun i => if (f i).decided then some (f i).value else none⟩
def upd (f : Nat → Core) (i : Nat) (c : Core) : Nat → Core := fun j => if j = i then c else f j
theorem upd_at (f : Nat → Core) (i : Nat) (c : Core) : upd f i c i = c := if_pos rfl
theorem upd_ne (f : Nat → Core) {i j : Nat} (c : Core) (h : j ≠ i) : upd f i c j = f j := if_neg h
theorem upd_upd (f : Nat → Core) (i : Nat) (c c' : Core) : upd (upd f i c) i c' = upd f i c' := by
  funext j
  unfold upd
  split <;> rfl
theorem upd_self (f : Nat → Core) (i : Nat) : upd f i (f i) = f := by
  funext j
  unfold upd
  split
  · rename_i h; rw [h]
  · rfl

/-- More has been told. -/
structure Tle (T T' : Tells) : Prop where
  p : ∀ i w y, T.P i w = some y → T'.P i w = some y
  c : ∀ i w y, T.C i w = some y → T'.C i w = some y
  d : ∀ i y, T.D i = some y → T'.D i = some y
theorem Tle.refl (T : Tells) : Tle T T := ⟨fun _ _ _ h => h, fun _ _ _ h => h, fun _ _ h => h⟩
theorem Tle.trans {T T' T'' : Tells} (h : Tle T T') (k : Tle T' T'') : Tle T T'' := ⟨fun i w y e => k.p i w y (h.p i w y e), fun i w y e => k.c i w y (h.c i w y e), fun i y e => k.d i y (h.d i y e)⟩

/-- What a core knows of the right ones is what they told. -/
structure Knows (n : Nat) (right : Nat → Bool) (T : Tells) (k : Core) : Prop where
  p : ∀ j : Nat, j < n → right j = true → ∀ w y, lookM (inner k.prepares w) ((j : Int) + 1) = some y → T.P j w = some y
  c : ∀ j : Nat, j < n → right j = true → ∀ w y, lookM (inner k.commits w) ((j : Int) + 1) = some y → T.C j w = some y
  d : ∀ j : Nat, j < n → right j = true → ∀ y, lookM k.deciders ((j : Int) + 1) = some y → T.D j = some y
theorem Knows.mono {n : Nat} {right : Nat → Bool} {T T' : Tells} {c : Core} (h : Knows n right T c) (k : Tle T T') : Knows n right T' c :=
  ⟨fun j hj rj w y e => k.p j w y (h.p j hj rj w y e), fun j hj rj w y e => k.c j w y (h.c j hj rj w y e), fun j hj rj y e => k.d j y (h.d j hj rj y e)⟩

/-- With the wrong ones, a quorum. -/
def qk (n : Nat) (right : Nat → Bool) : Nat := cnt n right (fun _ => true) - (n - 1) / 3

structure PInv (n : Nat) (slot : Int) (right : Nat → Bool) (acc : Bs → Bool) (f : Nat → Core) : Prop where
  hn : 4 ≤ n ∧ n ≤ 64
  few : n ≤ cnt n right (fun _ => true) + (n - 1) / 3
  loc : ∀ i, i < n → Loc n ((i : Int) + 1) slot (f i)
  know : ∀ i, i < n → Knows n right (tellsOf f) (f i)
  safe : Sac.Safe n right (qk n right) acc (tellsOf f)

theorem cnt_all (n : Nat) (right : Nat → Bool) : cnt n right (fun _ => true) ≤ n := by
  have := List.countP_le_length (p := fun i => right i && true) (l := List.range n)
  rw [List.length_range] at this
  exact this

theorem howMany_cnt {n : Nat} (y : Bs) : ∀ (t : TellM), Srt t → KeysIn 1 n t → howMany t y ≤ cnt n (fun _ => true) (fun j : Nat => lookM t ((j : Int) + 1) == some y)
  | [], _, _ => Nat.zero_le _
  | (k, v) :: t, hs, hk => by
    have hs' := List.pairwise_cons.1 hs
    have ih := howMany_cnt (n := n) y t hs'.2 (fun p hp => hk p (List.mem_cons_of_mem _ hp))
    have hk1 := hk (k, v) List.mem_cons_self
    have up : ∀ j : Nat, (lookM t ((j : Int) + 1) == some y) = true → (lookM ((k, v) :: t) ((j : Int) + 1) == some y) = true := fun j h => by
      have hm := lookM_mem (eq_of_beq h)
      have := hs'.1 _ hm
      rw [lookM_cons, if_neg (by show ¬ k = _; simp only at this; omega)]
      exact h
    have e : howMany ((k, v) :: t) y = howMany t y + (if (v == y) = true then 1 else 0) := by
      unfold howMany
      rw [List.countP_cons]
    rw [e]
    by_cases hv : (v == y) = true
    · rw [if_pos hv]
      have h1 := cnt_more (n := n) (right := fun _ => true) (p := fun j => lookM t ((j : Int) + 1) == some y) (q := fun j => lookM ((k, v) :: t) ((j : Int) + 1) == some y) (i := (k - 1).toNat) (by simp only at hk1; omega) rfl
        (by
          have hn : lookM t (((k - 1).toNat : Int) + 1) = none := by
            cases hl : lookM t (((k - 1).toNat : Int) + 1) with
            | none => rfl
            | some x =>
              have := hs'.1 _ (lookM_mem hl)
              simp only at this hk1
              omega
          simp only [hn]
          rfl)
        (by
          simp only [lookM_cons]
          rw [if_pos (by simp only at hk1 ⊢; omega), eq_of_beq hv]
          exact beq_self_eq_true _)
        up
      omega
    · rw [if_neg hv]
      exact Nat.le_trans ih (cnt_mono fun j _ _ h => up j h)

theorem told_many {n : Nat} {right p : Nat → Bool} {t : TellM} {y : Bs} (hs : Srt t) (hk : KeysIn 1 n t) (h : ∀ j, j < n → right j = true → lookM t ((j : Int) + 1) = some y → p j = true) : howMany t y + cnt n right (fun _ => true) ≤ cnt n right p + n := by
  have h1 := howMany_cnt (n := n) y t hs hk
  have key : ∀ l : List Nat, (∀ j ∈ l, j < n) → l.countP (fun j : Nat => true && (lookM t ((j : Int) + 1) == some y)) + l.countP (fun j => right j && true) ≤ l.countP (fun j => right j && p j) + l.length := by
    intro l
    induction l with
    | nil => intro _; simp
    | cons x l ih =>
      intro hl
      have hi := ih (fun j hj => hl j (List.mem_cons_of_mem _ hj))
      have hx : right x = true → (lookM t ((x : Int) + 1) == some y) = true → p x = true := fun a b => h x (hl x List.mem_cons_self) a (eq_of_beq b)
      simp only [List.countP_cons, List.length_cons]
      revert hx hi
      generalize l.countP (fun j : Nat => true && (lookM t ((j : Int) + 1) == some y)) = n1
      generalize l.countP (fun j => right j && true) = n2
      generalize l.countP (fun j => right j && p j) = n3
      generalize (lookM t ((x : Int) + 1) == some y) = u
      generalize right x = r
      generalize p x = s
      cases u <;> cases r <;> cases s <;> simp <;> omega
  have h2 := key (List.range n) (fun j hj => List.mem_range.1 hj)
  rw [List.length_range] at h2
  have e1 : cnt n (fun _ => true) (fun j => lookM t ((j : Int) + 1) == some y) = (List.range n).countP (fun j : Nat => true && (lookM t ((j : Int) + 1) == some y)) := rfl
  have e2 : cnt n right (fun _ => true) = (List.range n).countP (fun j => right j && true) := rfl
  have e3 : cnt n right p = (List.range n).countP (fun j => right j && p j) := rfl
  omega

section
variable {n : Nat} {slot : Int} {right : Nat → Bool} {acc : Bs → Bool} {f : Nat → Core} {i : Nat}

theorem PInv.many (h : PInv n slot right acc f) : Many n right (qk n right) := by
  have h1 := h.hn
  have h2 := h.few
  have h3 := cnt_all n right
  unfold qk
  exact ⟨by omega, by omega⟩

theorem count_told {t : TellM} {least : Int} {v : Bs} (h : count t least = some v) : least ≤ (howMany t v : Int) := by
  unfold count at h
  obtain ⟨p, hp, rfl⟩ := Option.map_eq_some_iff.1 h
  have := List.find?_some hp
  exact of_decide_eq_true this

/-- What is prepared, a quorum prepared. -/
theorem PInv.prepared (h : PInv n slot right acc f) (hi : i < n) {w : Int} {y : Bs} (hp : prepared (f i) w = some y) : Qp n right (qk n right) (tellsOf f) w y := by
  have hl := h.loc i hi
  have h1 := count_told hp
  have h2 := told_many (n := n) (right := right) (p := fun j => (tellsOf f).P j w == some y) (y := y) (inner_srt hl.srt.prepares.2 w) (keys_inner hl.kp w) (fun j hj rj e => by rw [(h.know i hi).p j hj rj w y e]; exact beq_self_eq_true _)
  rw [hl.hn] at h1
  unfold quorum at h1
  have h3 := h.hn
  have h4 := h.few
  unfold Qp qk
  omega
theorem PInv.agreed (h : PInv n slot right acc f) (hi : i < n) {p : Int × TellM} (hp : p ∈ (f i).commits) {y : Bs} (hc : count p.2 (quorum (f i).n) = some y) : Qc n right (qk n right) (tellsOf f) p.1 y := by
  have hl := h.loc i hi
  have h1 := count_told hc
  have hin : inner (f i).commits p.1 = p.2 := by
    unfold inner
    rw [lookM_of_mem hl.srt.commits.1 (show (p.1, p.2) ∈ _ from hp)]
    rfl
  have h2 := told_many (n := n) (right := right) (p := fun j => (tellsOf f).C j p.1 == some y) (y := y) (hl.srt.commits.2 p hp) (hl.kc p hp) (fun j hj rj e => by rw [(h.know i hi).c j hj rj p.1 y (by rw [hin]; exact e)]; exact beq_self_eq_true _)
  rw [hl.hn] at h1
  unfold quorum at h1
  have h3 := h.hn
  have h4 := h.few
  unfold Qc qk
  omega
theorem PInv.deciders (h : PInv n slot right acc f) (hi : i < n) {y : Bs} (hc : count (f i).deciders (faults (f i).n + 1) = some y) : ∃ v, Qc n right (qk n right) (tellsOf f) v y := by
  have hl := h.loc i hi
  have h1 := count_told hc
  have h2 := told_many (n := n) (right := right) (p := fun j => (tellsOf f).D j == some y) (y := y) hl.srt2.1 hl.kd (fun j hj rj e => by rw [(h.know i hi).d j hj rj y e]; exact beq_self_eq_true _)
  rw [hl.hn] at h1
  unfold faults at h1
  have h3 := h.hn
  have h4 := h.few
  have h5 := cnt_all n right
  obtain ⟨j, hj, rj, e⟩ := cnt_one (n := n) (right := right) (p := fun j => (tellsOf f).D j == some y) (by omega)
  exact h.safe.dec j y hj rj (eq_of_beq e)

/-- One core has become another one. -/
theorem PInv.set (h : PInv n slot right acc f) {c : Core} (hl : i < n → Loc n ((i : Int) + 1) slot c) (ht : Tle (tellsOf f) (tellsOf (upd f i c))) (hk : i < n → Knows n right (tellsOf (upd f i c)) c) (hs : Sac.Safe n right (qk n right) acc (tellsOf (upd f i c))) : PInv n slot right acc (upd f i c) ∧ Tle (tellsOf f) (tellsOf (upd f i c)) := by
  refine ⟨⟨h.hn, h.few, fun j hj => ?_, fun j hj => ?_, hs⟩, ht⟩
  · by_cases e : j = i
    · subst e; rw [upd_at]; exact hl hj
    · rw [upd_ne _ _ e]; exact h.loc j hj
  · by_cases e : j = i
    · subst e
      have := hk hj
      rw [upd_at]; exact this
    · rw [upd_ne _ _ e]
      exact (h.know j hj).mono ht

theorem tells_same {c : Core} (h1 : ∀ w, ownP c w = ownP (f i) w) (h2 : ∀ w, ownC c w = ownC (f i) w) (h3 : c.decided = (f i).decided) (h4 : c.decided = true → c.value = (f i).value) : tellsOf (upd f i c) = tellsOf f := by
  have e1 : (fun j w => ownP (upd f i c j) w) = fun j w => ownP (f j) w := by
    funext j w
    by_cases e : j = i
    · subst e; rw [upd_at]; exact h1 w
    · rw [upd_ne _ _ e]
  have e2 : (fun j w => ownC (upd f i c j) w) = fun j w => ownC (f j) w := by
    funext j w
    by_cases e : j = i
    · subst e; rw [upd_at]; exact h2 w
    · rw [upd_ne _ _ e]
  have e3 : (fun j => if (upd f i c j).decided then some (upd f i c j).value else none) = fun j => if (f j).decided then some (f j).value else none := by
    funext j
    by_cases e : j = i
    · subst e
      rw [upd_at]
      by_cases hd : c.decided = true
      · rw [h4 hd, h3]
      · rw [if_neg hd, if_neg (by rw [← h3]; exact hd)]
    · rw [upd_ne _ _ e]
  unfold tellsOf
  rw [e1, e2, e3]
theorem PInv.same (h : PInv n slot right acc f) {c : Core} (hl : i < n → Loc n ((i : Int) + 1) slot c) (hk : i < n → Knows n right (tellsOf f) c) (h1 : ∀ w, ownP c w = ownP (f i) w) (h2 : ∀ w, ownC c w = ownC (f i) w) (h3 : c.decided = (f i).decided) (h4 : c.decided = true → c.value = (f i).value) :
    PInv n slot right acc (upd f i c) ∧ Tle (tellsOf f) (tellsOf (upd f i c)) := by
  have e := tells_same h1 h2 h3 h4
  refine h.set hl ?_ ?_ ?_
  · rw [e]; exact Tle.refl _
  · rw [e]; exact hk
  · rw [e]; exact h.safe

theorem PInv.step (h : PInv n slot right acc f) (hi : i < n) (hd : (f i).decided = false) : PInv n slot right acc (upd f i (stepC acc (f i)).1) ∧ Tle (tellsOf f) (tellsOf (upd f i (stepC acc (f i)).1)) := by
  have hl := h.loc i hi
  have hkn := h.know i hi
  have hme := hl.hme
  have hD : ∀ c : Core, c.decided = false → ∀ j y, (tellsOf f).D j = some y → (tellsOf (upd f i c)).D j = some y := fun c hc j y e => by
    show (if (upd f i c j).decided then some (upd f i c j).value else none) = _
    by_cases e2 : j = i
    · subst e2
      have : (if (f j).decided then some (f j).value else none) = some y := e
      rw [hd] at this; cases this
    · rw [upd_ne _ _ e2]; exact e
  unfold stepC
  cases h1 : turnC (f i) with
  | some c' =>
    obtain ⟨hl', v, hv, rfl⟩ := hl.turn h1
    exact h.same (fun _ => hl') (fun _ => ⟨hkn.p, hkn.c, hkn.d⟩) (fun _ => rfl) (fun _ => rfl) rfl (fun _ => rfl)
  | none =>
    cases h2 : proposeC (f i) with
    | some c' =>
      obtain ⟨hl', m, rfl⟩ := hl.propose h2
      exact h.same (fun _ => hl') (fun _ => ⟨hkn.p, hkn.c, hkn.d⟩) (fun _ => rfl) (fun _ => rfl) rfl (fun _ => rfl)
    | none =>
      cases h3 : prepareC acc (f i) with
      | some c' =>
        obtain ⟨hl', p, hp, hfit, hno, hown, hc'⟩ := hl.prepare h3
        have hP : ∀ j u, (tellsOf (upd f i c')).P j u = if j = i ∧ u = (f i).view then some p.1 else (tellsOf f).P j u := fun j u => by
          show ownP (upd f i c' j) u = _
          by_cases e : j = i
          · subst e
            rw [upd_at, hown]
            by_cases e2 : u = (f j).view
            · rw [if_pos e2, if_pos ⟨rfl, e2⟩]
            · rw [if_neg e2, if_neg (fun x => e2 x.2)]; rfl
          · rw [upd_ne _ _ e, if_neg (fun x => e x.1)]; rfl
        have hC : (tellsOf (upd f i c')).C = (tellsOf f).C := by
          show (fun j w => ownC (upd f i c' j) w) = fun j w => ownC (f j) w
          funext j w
          by_cases e : j = i
          · subst e; rw [upd_at, hc']; rfl
          · rw [upd_ne _ _ e]
        have hDD : (tellsOf (upd f i c')).D = (tellsOf f).D := by
          show (fun j => if (upd f i c' j).decided then some (upd f i c' j).value else none) = fun j => if (f j).decided then some (f j).value else none
          funext j
          by_cases e : j = i
          · subst e; rw [upd_at, hc']
          · rw [upd_ne _ _ e]
        have hT : Tle (tellsOf f) (tellsOf (upd f i c')) := by
          refine ⟨fun j w y e => ?_, fun j w y e => by rw [hC]; exact e, fun j y e => by rw [hDD]; exact e⟩
          rw [hP]
          split
          · rename_i e2
            rw [e2.1, e2.2] at e
            have : ownP (f i) (f i).view = some y := e
            rw [hno] at this; cases this
          · exact e
        refine h.set (fun _ => hl') hT (fun _ => ⟨fun j hj rj w y e => ?_, fun j hj rj w y e => hT.c j w y (hkn.c j hj rj w y (by rw [hc'] at e; exact e)), fun j hj rj y e => hT.d j y (hkn.d j hj rj y (by rw [hc'] at e; exact e))⟩) ?_
        · rw [hc'] at e
          have e : lookM (inner (putM (f i).view (putM (f i).me p.1 (inner (f i).prepares (f i).view)) (f i).prepares) w) ((j : Int) + 1) = some y := e
          rw [look_set hl.srt.prepares.1 hl.srt.prepares.2] at e
          split at e
          · rename_i e2
            rw [hP, if_pos ⟨by have := e2.2; rw [hme] at this; omega, e2.1.symm⟩]
            exact e
          · exact hT.p j w y (hkn.p j hj rj w y e)
        · have ha : acc p.1 = true ∧ (decide ((f i).lock < 0) || p.1 == (f i).locked || (decide ((f i).lock ≤ p.2 ∧ p.2 < (f i).view) && (match Sac.prepared (f i) p.2 with | some v => v == p.1 | none => false))) = true := by
            unfold fit at hfit
            rw [Bool.and_eq_true] at hfit
            exact hfit
          refine h.safe.prepare h.many (i := i) (w := (f i).view) (y := p.1) hno ha.1 hP hC hDD (fun _ _ => ⟨fun v x e => (hl.oC v x e).2, ?_⟩)
          rcases hl.lock with ⟨_, _, e⟩ | ⟨e1, e2, e3⟩
          · exact .inl e
          · refine .inr ⟨(f i).lock, e3, ?_⟩
            have h4 := ha.2
            rw [Bool.or_eq_true, Bool.or_eq_true, Bool.and_eq_true] at h4
            rcases h4 with (h4 | h4) | ⟨h4, h5⟩
            · have := of_decide_eq_true h4; omega
            · refine .inl ?_
              rw [eq_of_beq h4]; exact e2
            · refine .inr ⟨⟨_, e2⟩, p.2, (of_decide_eq_true h4).1, (of_decide_eq_true h4).2, ?_⟩
              cases hpp : Sac.prepared (f i) p.2 with
              | none => rw [hpp] at h5; cases h5
              | some v =>
                rw [hpp] at h5
                have h5 : v = p.1 := eq_of_beq h5
                rw [← h5]
                exact h.prepared hi hpp
      | none =>
        cases h4 : commitC (f i) with
        | some c' =>
          obtain ⟨hl', v, hv, hno, hown, hc'⟩ := hl.commit h4
          have hC : ∀ j u, (tellsOf (upd f i c')).C j u = if j = i ∧ u = (f i).view then some v else (tellsOf f).C j u := fun j u => by
            show ownC (upd f i c' j) u = _
            by_cases e : j = i
            · subst e
              rw [upd_at, hown]
              by_cases e2 : u = (f j).view
              · rw [if_pos e2, if_pos ⟨rfl, e2⟩]
              · rw [if_neg e2, if_neg (fun x => e2 x.2)]; rfl
            · rw [upd_ne _ _ e, if_neg (fun x => e x.1)]; rfl
          have hP : (tellsOf (upd f i c')).P = (tellsOf f).P := by
            show (fun j w => ownP (upd f i c' j) w) = fun j w => ownP (f j) w
            funext j w
            by_cases e : j = i
            · subst e; rw [upd_at, hc']; rfl
            · rw [upd_ne _ _ e]
          have hDD : (tellsOf (upd f i c')).D = (tellsOf f).D := by
            show (fun j => if (upd f i c' j).decided then some (upd f i c' j).value else none) = fun j => if (f j).decided then some (f j).value else none
            funext j
            by_cases e : j = i
            · subst e; rw [upd_at, hc']
            · rw [upd_ne _ _ e]
          have hT : Tle (tellsOf f) (tellsOf (upd f i c')) := by
            refine ⟨fun j w y e => by rw [hP]; exact e, fun j w y e => ?_, fun j y e => by rw [hDD]; exact e⟩
            rw [hC]
            split
            · rename_i e2
              rw [e2.1, e2.2] at e
              have : ownC (f i) (f i).view = some y := e
              rw [hno] at this; cases this
            · exact e
          refine h.set (fun _ => hl') hT (fun _ => ⟨fun j hj rj w y e => hT.p j w y (hkn.p j hj rj w y (by rw [hc'] at e; exact e)), fun j hj rj w y e => ?_, fun j hj rj y e => hT.d j y (hkn.d j hj rj y (by rw [hc'] at e; exact e))⟩) ?_
          · rw [hc'] at e
            have e : lookM (inner (putM (f i).view (putM (f i).me v (inner (f i).commits (f i).view)) (f i).commits) w) ((j : Int) + 1) = some y := e
            rw [look_set hl.srt.commits.1 hl.srt.commits.2] at e
            split at e
            · rename_i e2
              rw [hC, if_pos ⟨by have := e2.2; rw [hme] at this; omega, e2.1.symm⟩]
              exact e
            · exact hT.c j w y (hkn.c j hj rj w y e)
          · exact h.safe.commit (i := i) (v := (f i).view) (x := v) hno hC hP hDD (fun _ _ => h.prepared hi hv) (fun _ _ w y e => (hl.oP w y e).2)
        | none =>
          have hl' := hl.decide
          have hdec : (decideC (f i)).decided = true → ∃ v, Qc n right (qk n right) (tellsOf f) v (decideC (f i)).value := by
            unfold decideC
            split
            · rename_i v hv
              intro _
              unfold Sac.agreed at hv
              obtain ⟨p, hp, h2⟩ := List.exists_of_findSome?_eq_some hv
              exact ⟨p.1, h.agreed hi hp h2⟩
            · split
              · rename_i v hv
                intro _
                exact h.deciders hi hv
              · intro e; cases e
          obtain ⟨d, v, he, _⟩ := decide_is (f i)
          show PInv n slot right acc (upd f i (decideC (f i))) ∧ Tle (tellsOf f) (tellsOf (upd f i (decideC (f i))))
          obtain ⟨c', hc'⟩ : ∃ c', decideC (f i) = c' := ⟨_, rfl⟩
          rw [hc'] at hl' hdec he ⊢
          have hP : (tellsOf (upd f i c')).P = (tellsOf f).P := by
            show (fun j w => ownP (upd f i c' j) w) = fun j w => ownP (f j) w
            funext j w
            by_cases e : j = i
            · subst e; rw [upd_at, he]; rfl
            · rw [upd_ne _ _ e]
          have hC : (tellsOf (upd f i c')).C = (tellsOf f).C := by
            show (fun j w => ownC (upd f i c' j) w) = fun j w => ownC (f j) w
            funext j w
            by_cases e : j = i
            · subst e; rw [upd_at, he]; rfl
            · rw [upd_ne _ _ e]
          have hT : Tle (tellsOf f) (tellsOf (upd f i c')) := by
            refine ⟨fun j w y e => by rw [hP]; exact e, fun j w y e => by rw [hC]; exact e, fun j y e => ?_⟩
            show (if (upd f i c' j).decided then some (upd f i c' j).value else none) = _
            by_cases e2 : j = i
            · subst e2
              have : (if (f j).decided then some (f j).value else none) = some y := e
              rw [hd] at this; cases this
            · rw [upd_ne _ _ e2]; exact e
          refine h.set (fun _ => hl') hT (fun _ => ⟨fun j hj rj w y e => hT.p j w y (hkn.p j hj rj w y (by rw [he] at e; exact e)), fun j hj rj w y e => hT.c j w y (hkn.c j hj rj w y (by rw [he] at e; exact e)), fun j hj rj y e => hT.d j y (hkn.d j hj rj y (by rw [he] at e; exact e))⟩) ?_
          refine h.safe.decide hC hP (fun j x hj rj e => ?_)
          have e : (if (upd f i c' j).decided then some (upd f i c' j).value else none) = some x := e
          by_cases e2 : j = i
          · subst e2
            rw [upd_at] at e
            split at e
            · rename_i e3
              have := hdec e3
              rw [Option.some.inj e] at this
              exact .inr this
            · cases e
          · rw [upd_ne _ _ e2] at e
            exact .inl e

theorem PInv.actN : ∀ (k : Nat) {f : Nat → Core}, PInv n slot right acc f → i < n → PInv n slot right acc (upd f i (actN acc k (f i))) ∧ Tle (tellsOf f) (tellsOf (upd f i (actN acc k (f i))))
  | 0, f, h, _ => by
    rw [show Sac.actN acc 0 (f i) = f i from rfl, upd_self]
    exact ⟨h, Tle.refl _⟩
  | k + 1, f, h, hi => by
    unfold Sac.actN
    split
    · rw [upd_self]; exact ⟨h, Tle.refl _⟩
    · rename_i hd
      have hd : (f i).decided = false := by cases hx : (f i).decided; rfl; exact absurd hx hd
      obtain ⟨h1, h2⟩ := h.step hi hd
      split
      · rename_i c' e
        rw [e] at h1 h2
        obtain ⟨h3, h4⟩ := h1.actN k hi
        rw [upd_at, upd_upd] at h3 h4
        exact ⟨h3, h2.trans h4⟩
      · rename_i c' e
        rw [e] at h1 h2
        exact ⟨h1, h2⟩

/-- What a vote says of a right one is what it told. -/
def TrueV (n : Nat) (right : Nat → Bool) (T : Tells) (v : Vt) : Prop := ∀ j, j < n → right j = true → v.frm = (j : Int) + 1 → (v.kind = 2 → T.P j v.view = some v.value) ∧ (v.kind = 3 → T.C j v.view = some v.value) ∧ (v.kind = 4 → T.D j = some v.value)
theorem TrueV.mono {T T' : Tells} {v : Vt} (h : TrueV n right T v) (k : Tle T T') : TrueV n right T' v := fun j hj rj e =>
  ⟨fun a => k.p _ _ _ ((h j hj rj e).1 a), fun a => k.c _ _ _ ((h j hj rj e).2.1 a), fun a => k.d _ _ ((h j hj rj e).2.2 a)⟩

theorem PInv.take (h : PInv n slot right acc f) (hi : i < n) {v : Vt} (hv : TrueV n right (tellsOf f) v) : PInv n slot right acc (upd f i (takeC acc (f i) v).1) ∧ Tle (tellsOf f) (tellsOf (upd f i (takeC acc (f i) v).1)) := by
  have hl := h.loc i hi
  have hkn := h.know i hi
  rcases takeC_cases acc (f i) v with e | ⟨_, h2, h3, h4, c', h5, h6⟩
  · rw [e, upd_self]; exact ⟨h, Tle.refl _⟩
  · rw [h6]
    obtain ⟨hk5, hin⟩ := encOk_in h4
    obtain ⟨hl', g1, g2, g3, g4, g5⟩ := hl.know hin (by rw [← hl.hn]; exact h2) (by rw [← hl.hme]; exact h3) h5
    have hkn' : Knows n right (tellsOf f) c' := by
      unfold Sac.know at h5
      split at h5
      · split at h5
        · cases h5
        · obtain rfl := Option.some.inj h5
          exact ⟨hkn.p, hkn.c, hkn.d⟩
      · split at h5
        · rename_i k2
          obtain ⟨m, hm, rfl⟩ := Option.map_eq_some_iff.1 h5
          obtain ⟨_, rfl⟩ := setV_some hm
          refine ⟨fun j hj rj w y e => ?_, hkn.c, hkn.d⟩
          rw [look_set hl.srt.prepares.1 hl.srt.prepares.2] at e
          split at e
          · rename_i e2
            rw [← Option.some.inj e, ← e2.1]
            exact (hv j hj rj e2.2).1 k2
          · exact hkn.p j hj rj w y e
        · split at h5
          · rename_i k2
            obtain ⟨m, hm, rfl⟩ := Option.map_eq_some_iff.1 h5
            obtain ⟨_, rfl⟩ := setV_some hm
            refine ⟨hkn.p, fun j hj rj w y e => ?_, hkn.d⟩
            rw [look_set hl.srt.commits.1 hl.srt.commits.2] at e
            split at e
            · rename_i e2
              rw [← Option.some.inj e, ← e2.1]
              exact (hv j hj rj e2.2).2.1 k2
            · exact hkn.c j hj rj w y e
          · split at h5
            · obtain ⟨m, hm, rfl⟩ := Option.map_eq_some_iff.1 h5
              exact ⟨hkn.p, hkn.c, hkn.d⟩
            · rename_i k1 k2 k3 k5
              split at h5
              · cases h5
              · obtain rfl := Option.some.inj h5
                refine ⟨hkn.p, hkn.c, fun j hj rj y e => ?_⟩
                rw [lookM_putM _ _ _ hl.srt2.1] at e
                split at e
                · rename_i e2
                  rw [← Option.some.inj e]
                  exact (hv j hj rj e2).2.2 (by omega)
                · exact hkn.d j hj rj y e
    have hh : ∀ w, ownP (heard c' v) w = ownP (f i) w := fun w => by
      rw [← g1 w]
      unfold heard
      split <;> rfl
    have hh2 : ∀ w, ownC (heard c' v) w = ownC (f i) w := fun w => by
      rw [← g2 w]
      unfold heard
      split <;> rfl
    have hh3 : (heard c' v).decided = (f i).decided ∧ (heard c' v).value = (f i).value := by
      rw [← g3, ← g4]
      unfold heard
      split <;> exact ⟨rfl, rfl⟩
    have hh4 : Knows n right (tellsOf f) (heard c' v) := by
      unfold heard
      split
      · exact hkn'
      · exact ⟨hkn'.p, hkn'.c, hkn'.d⟩
    obtain ⟨a1, a2⟩ := h.same (c := heard c' v) (fun _ => hl'.heard hin) (fun _ => hh4) hh hh2 hh3.1 (fun _ => hh3.2)
    obtain ⟨b1, b2⟩ := a1.actN (rest (heard c' v) + 1) hi
    rw [upd_at, upd_upd] at b1 b2
    exact ⟨b1, a2.trans b2⟩

theorem PInv.late (h : PInv n slot right acc f) (hi : i < n) : PInv n slot right acc (upd f i (lateC acc (f i))) ∧ Tle (tellsOf f) (tellsOf (upd f i (lateC acc (f i)))) := by
  have hl := h.loc i hi
  have hkn := h.know i hi
  unfold lateC
  split
  · rename_i e
    obtain ⟨a1, a2⟩ := h.same (c := { f i with view := (f i).view + 1 }) (fun _ => hl.rise (by omega) (by omega)) (fun _ => ⟨hkn.p, hkn.c, hkn.d⟩) (fun _ => rfl) (fun _ => rfl) rfl (fun _ => rfl)
    obtain ⟨b1, b2⟩ := a1.actN (rest { f i with view := (f i).view + 1 } + 1) hi
    rw [upd_at, upd_upd] at b1 b2
    exact ⟨b1, a2.trans b2⟩
  · rw [upd_self]; exact ⟨h, Tle.refl _⟩
theorem PInv.wish (h : PInv n slot right acc f) (hi : i < n) (v : Bs) : PInv n slot right acc (upd f i (wishC acc (f i) v)) ∧ Tle (tellsOf f) (tellsOf (upd f i (wishC acc (f i) v))) := by
  have hl := h.loc i hi
  have hkn := h.know i hi
  unfold wishC
  split
  · rw [upd_self]; exact ⟨h, Tle.refl _⟩
  · rename_i e
    obtain ⟨a1, a2⟩ := h.same (c := { f i with wish := v, wishes := true }) (fun _ => hl.wish (Nat.le_of_not_lt fun x => e (.inr x))) (fun _ => ⟨hkn.p, hkn.c, hkn.d⟩) (fun _ => rfl) (fun _ => rfl) rfl (fun _ => rfl)
    obtain ⟨b1, b2⟩ := a1.actN (rest { f i with wish := v, wishes := true } + 1) hi
    rw [upd_at, upd_upd] at b1 b2
    exact ⟨b1, a2.trans b2⟩

theorem mem_mine {c : Core} {k : Int} {m : List (Int × TellM)} (hs : Srt m) {v : Vt} (h : v ∈ mine c k m) : v.kind = k ∧ v.frm = c.me ∧ v.slot = c.slot ∧ v.valid = -1 ∧ lookM (inner m v.view) c.me = some v.value := by
  unfold mine at h
  obtain ⟨p, hp, h2⟩ := List.mem_filterMap.1 h
  obtain ⟨y, hy, rfl⟩ := Option.map_eq_some_iff.1 h2
  refine ⟨rfl, rfl, rfl, rfl, ?_⟩
  show lookM (inner m p.1) c.me = some y
  unfold inner
  rw [lookM_of_mem hs (show (p.1, p.2) ∈ m from hp)]
  exact hy
/-- What a peer tells is so. -/
theorem PInv.says (h : PInv n slot right acc f) (hi : i < n) {v : Vt} (hv : v ∈ says (f i)) : TrueV n right (tellsOf f) v := by
  have hl := h.loc i hi
  intro j hj rj e
  unfold Sac.says at hv
  rw [List.mem_append, List.mem_append, List.mem_append] at hv
  rcases hv with ((hv | hv) | hv) | hv
  · split at hv
    · rename_i hd
      obtain rfl := List.mem_singleton.1 hv
      refine ⟨fun k => absurd (show (4 : Int) = 2 from k) (by decide), fun k => absurd (show (4 : Int) = 3 from k) (by decide), fun _ => ?_⟩
      have e : (f i).me = (j : Int) + 1 := e
      have : j = i := by rw [hl.hme] at e; omega
      subst this
      show (if (f j).decided then some (f j).value else none) = some (f j).value
      rw [if_pos hd]
    · obtain rfl := List.mem_singleton.1 hv
      exact ⟨fun k => absurd (show (5 : Int) = 2 from k) (by decide), fun k => absurd (show (5 : Int) = 3 from k) (by decide), fun k => absurd (show (5 : Int) = 4 from k) (by decide)⟩
  · split at hv
    · split at hv
      · obtain rfl := List.mem_singleton.1 hv
        exact ⟨fun k => absurd (show (1 : Int) = 2 from k) (by decide), fun k => absurd (show (1 : Int) = 3 from k) (by decide), fun k => absurd (show (1 : Int) = 4 from k) (by decide)⟩
      · cases hv
    · cases hv
  · obtain ⟨k1, k2, _, _, k3⟩ := mem_mine hl.srt.prepares.1 hv
    have : j = i := by rw [k2, hl.hme] at e; omega
    subst this
    exact ⟨fun _ => k3, fun k => by omega, fun k => by omega⟩
  · obtain ⟨k1, k2, _, _, k3⟩ := mem_mine hl.srt.commits.1 hv
    have : j = i := by rw [k2, hl.hme] at e; omega
    subst this
    exact ⟨fun k => by omega, fun _ => k3, fun k => by omega⟩

theorem PInv.start (hn : 4 ≤ n ∧ n ≤ 64) (hs : 0 ≤ slot ∧ slot ≤ 256) (hf : n ≤ cnt n right (fun _ => true) + (n - 1) / 3) : PInv n slot right acc (fun i => newCore n ((i : Int) + 1) slot) := by
  refine ⟨hn, hf, fun i hi => newCore_loc (by omega) (by omega) hs, fun i hi => ⟨fun j _ _ w y e => (by cases e), fun j _ _ w y e => (by cases e), fun j _ _ y e => (by cases e)⟩, ⟨fun i v x _ _ e => (by cases e), fun w y => .inr ?_, fun i x _ _ e => (by cases e), fun i w y _ _ e => (by cases e)⟩⟩
  have : cnt n right (fun i => (tellsOf fun i => newCore n ((i : Int) + 1) slot).P i w == some y) = 0 := by
    unfold cnt
    rw [List.countP_eq_zero]
    intro i _
    have : (tellsOf fun i => newCore n ((i : Int) + 1) slot).P i w = none := rfl
    show ¬ (right i && ((tellsOf fun i => newCore n ((i : Int) + 1) slot).P i w == some y)) = true
    rw [this]
    simp
  omega

/-- No two right ones decide unlike values, and none one that isn't accepted. -/
theorem PInv.agree (h : PInv n slot right acc f) {i j : Nat} (hi : i < n) (hj : j < n) (ri : right i = true) (rj : right j = true) (di : (f i).decided = true) (dj : (f j).decided = true) : (f i).value = (f j).value ∧ acc (f i).value = true :=
  h.safe.agree h.many hi hj ri rj (by show (if (f i).decided then some (f i).value else none) = _; rw [if_pos di]) (by show (if (f j).decided then some (f j).value else none) = _; rw [if_pos dj])
end
end Go.Proofs.Ytilhdelijdkjpaa
