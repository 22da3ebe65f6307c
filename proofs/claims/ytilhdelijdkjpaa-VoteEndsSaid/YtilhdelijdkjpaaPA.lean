/-
  Why no two right peers decide unlike values: the bare argument, of who told what in which view. No program in sight.
-/
import Derived.Test.YtilhdelijdkjpaaVP
set_option linter.unusedVariables false
set_option linter.unusedSimpArgs false
namespace Sac

/-- Who told what: Prepares and Commits by peer and view, and what is decided. -/
structure Tells where
  P : Nat → Int → Option Bs
  C : Nat → Int → Option Bs
  D : Nat → Option Bs

/-- How many of the right ones are so. -/
def cnt (n : Nat) (right : Nat → Bool) (p : Nat → Bool) : Nat := (List.range n).countP (fun i => right i && p i)

theorem cnt_mono {n : Nat} {right : Nat → Bool} {p q : Nat → Bool} (h : ∀ i, i < n → right i = true → p i = true → q i = true) : cnt n right p ≤ cnt n right q := by
  refine List.countP_mono_left (fun i hi hp => ?_)
  rw [Bool.and_eq_true] at hp ⊢
  exact ⟨hp.1, h i (List.mem_range.1 hi) hp.1 hp.2⟩
theorem countP_both {α : Type} (a b c : α → Bool) : ∀ l : List α, (∀ x ∈ l, a x = true → c x = true) → (∀ x ∈ l, b x = true → c x = true) → (∀ x ∈ l, ¬ (a x = true ∧ b x = true)) → l.countP a + l.countP b ≤ l.countP c
  | [], _, _, _ => by simp
  | x :: l, h1, h2, h3 => by
    have ih := countP_both a b c l (fun y hy => h1 y (List.mem_cons_of_mem _ hy)) (fun y hy => h2 y (List.mem_cons_of_mem _ hy)) (fun y hy => h3 y (List.mem_cons_of_mem _ hy))
    have k1 := h1 x List.mem_cons_self
    have k2 := h2 x List.mem_cons_self
    have k3 := h3 x List.mem_cons_self
    simp only [List.countP_cons]
    cases ha : a x <;> cases hb : b x <;> cases hc : c x <;> simp_all <;> omega
/-- Two that are many have one in common. -/
theorem cnt_meet {n : Nat} {right p q : Nat → Bool} {a b : Nat} (hp : a ≤ cnt n right p) (hq : b ≤ cnt n right q) (h : cnt n right (fun _ => true) < a + b) : ∃ i, i < n ∧ right i = true ∧ p i = true ∧ q i = true := by
  by_cases hx : ∃ i, i < n ∧ right i = true ∧ p i = true ∧ q i = true
  · exact hx
  · exfalso
    have := countP_both (fun i => right i && p i) (fun i => right i && q i) (fun i => right i && true) (List.range n) (fun i _ h => by simp at h ⊢; exact h.1) (fun i _ h => by simp at h ⊢; exact h.1) (fun i hi h => hx ⟨i, List.mem_range.1 hi, by simp at h; exact ⟨h.1.1, h.1.2, h.2.2⟩⟩)
    have e1 : cnt n right (fun _ => true) = (List.range n).countP (fun i => right i && true) := rfl
    have e2 : cnt n right p = (List.range n).countP (fun i => right i && p i) := rfl
    have e3 : cnt n right q = (List.range n).countP (fun i => right i && q i) := rfl
    omega
theorem cnt_one {n : Nat} {right p : Nat → Bool} (h : 1 ≤ cnt n right p) : ∃ i, i < n ∧ right i = true ∧ p i = true := by
  obtain ⟨i, hi, h2⟩ := List.countP_pos_iff.1 (show 0 < cnt n right p from h)
  rw [Bool.and_eq_true] at h2
  exact ⟨i, List.mem_range.1 hi, h2.1, h2.2⟩
/-- One more. -/
theorem cnt_more {n : Nat} {right p q : Nat → Bool} {i : Nat} (hi : i < n) (hr : right i = true) (hp : p i = false) (hq : q i = true) (h : ∀ j, p j = true → q j = true) : cnt n right p + 1 ≤ cnt n right q := by
  unfold cnt
  obtain ⟨a, b, hab⟩ := List.append_of_mem (List.mem_range.2 hi)
  rw [hab]
  simp only [List.countP_append, List.countP_cons, hr, hp, hq]
  have h1 : a.countP (fun i => right i && p i) ≤ a.countP (fun i => right i && q i) := List.countP_mono_left (fun j _ h2 => by rw [Bool.and_eq_true] at h2 ⊢; exact ⟨h2.1, h _ h2.2⟩)
  have h2 : b.countP (fun i => right i && p i) ≤ b.countP (fun i => right i && q i) := List.countP_mono_left (fun j _ h2 => by rw [Bool.and_eq_true] at h2 ⊢; exact ⟨h2.1, h _ h2.2⟩)
  simp
  omega
theorem cnt_except {n : Nat} {right p q : Nat → Bool} {i : Nat} (h : ∀ j, j ≠ i → q j = true → p j = true) : cnt n right q ≤ cnt n right p + 1 := by
  have key : ∀ l : List Nat, l.Nodup → l.countP (fun j => right j && q j) ≤ l.countP (fun j => right j && p j) + 1 := by
    intro l
    induction l with
    | nil => simp
    | cons x l ih =>
      intro hn
      have hn' := List.nodup_cons.1 hn
      simp only [List.countP_cons]
      by_cases hx : x = i
      · have : l.countP (fun j => right j && q j) ≤ l.countP (fun j => right j && p j) := List.countP_mono_left (fun j hj h2 => by
          rw [Bool.and_eq_true] at h2 ⊢
          exact ⟨h2.1, h j (fun e => hn'.1 (by rw [hx, ← e]; exact hj)) h2.2⟩)
        cases (right x && q x) <;> cases (right x && p x) <;> simp <;> omega
      · have := ih hn'.2
        have hle : (right x && q x) = true → (right x && p x) = true := fun h2 => by
          rw [Bool.and_eq_true] at h2 ⊢
          exact ⟨h2.1, h x hx h2.2⟩
        cases hq : (right x && q x) <;> cases hp : (right x && p x) <;> simp_all <;> omega
  exact key _ List.nodup_range

section
variable (n : Nat) (right : Nat → Bool) (q : Nat) (acc : Bs → Bool)

/-- So many right ones prepared a value in a view that with the wrong ones there can be a quorum. -/
def Qp (s : Tells) (w : Int) (y : Bs) : Prop := q ≤ cnt n right (fun i => s.P i w == some y)
def Qc (s : Tells) (v : Int) (x : Bs) : Prop := q ≤ cnt n right (fun i => s.C i v == some x)
/-- Whoever prepares against its own earlier commit has seen a later quorum for it. -/
def Good (s : Tells) (i : Nat) (w : Int) (y : Bs) : Prop := ∀ v x, v < w → x ≠ y → s.C i v = some x → ∃ u, v < u ∧ u < w ∧ Qp n right q s u y
open Classical in
noncomputable def goods (s : Tells) (w : Int) (y : Bs) : Nat := cnt n right (fun i => (s.P i w == some y) && decide (Good n right q s i w y))

/-- What always holds. -/
structure Safe (s : Tells) : Prop where
  comm : ∀ i v x, i < n → right i = true → s.C i v = some x → Qp n right q s v x
  good : ∀ w y, q ≤ goods n right q s w y ∨ cnt n right (fun i => s.P i w == some y) ≤ goods n right q s w y
  dec : ∀ i x, i < n → right i = true → s.D i = some x → ∃ v, Qc n right q s v x
  acc : ∀ i w y, i < n → right i = true → s.P i w = some y → acc y = true

/-- Two quorums meet. -/
structure Many : Prop where
  pos : 1 ≤ q
  two : cnt n right (fun _ => true) < q + q

variable {n right q acc} {s s' : Tells}

theorem Qp.uniq (hm : Many n right q) {w : Int} {x y : Bs} (h1 : Qp n right q s w x) (h2 : Qp n right q s w y) : x = y := by
  obtain ⟨i, _, _, a, b⟩ := cnt_meet h1 h2 hm.two
  have a := eq_of_beq a
  have b := eq_of_beq b
  exact Option.some.inj (a.symm.trans b)
theorem Qp.mono (h : ∀ i w y, s.P i w = some y → s'.P i w = some y) {w : Int} {y : Bs} (h1 : Qp n right q s w y) : Qp n right q s' w y :=
  Nat.le_trans h1 (cnt_mono fun i _ _ hi => by rw [h i w y (eq_of_beq hi)]; exact beq_self_eq_true _)
theorem Qc.mono (h : ∀ i v y, s.C i v = some y → s'.C i v = some y) {w : Int} {y : Bs} (h1 : Qc n right q s w y) : Qc n right q s' w y :=
  Nat.le_trans h1 (cnt_mono fun i _ _ hi => by rw [h i w y (eq_of_beq hi)]; exact beq_self_eq_true _)

open Classical in
/-- Behind a quorum of commits there is no quorum for another value. -/
theorem Safe.later (hs : Safe n right q acc s) (hm : Many n right q) {v : Int} {x : Bs} (hc : Qc n right q s v x) : ∀ (k : Nat) (w : Int) (y : Bs), w = v + k → Qp n right q s w y → v < w → y = x := by
  intro k
  induction k using Nat.strongRecOn with
  | ind k ih =>
    intro w y hw hq hvw
    by_cases hy : y = x
    · exact hy
    · exfalso
      have hg : q ≤ goods n right q s w y := by
        rcases hs.good w y with h | h
        · exact h
        · exact Nat.le_trans hq h
      obtain ⟨i, hi, hr, h1, h2⟩ := cnt_meet hc hg hm.two
      rw [Bool.and_eq_true] at h2
      have hgood := of_decide_eq_true h2.2
      obtain ⟨u, hu1, hu2, hu3⟩ := hgood v x hvw (fun e => hy e.symm) (eq_of_beq h1)
      exact hy (ih (u - v).toNat (by omega) u y (by omega) hu3 hu1)

theorem Safe.agree (hs : Safe n right q acc s) (hm : Many n right q) {i j : Nat} {x y : Bs} (hi : i < n) (hj : j < n) (ri : right i = true) (rj : right j = true) (h1 : s.D i = some x) (h2 : s.D j = some y) : x = y ∧ acc x = true := by
  obtain ⟨v, hv⟩ := hs.dec i x hi ri h1
  obtain ⟨v', hv'⟩ := hs.dec j y hj rj h2
  have toP : ∀ {v x}, Qc n right q s v x → Qp n right q s v x := fun {v x} h => by
    obtain ⟨a, ha, ra, hc⟩ := cnt_one (Nat.le_trans hm.pos h)
    exact hs.comm a v x ha ra (eq_of_beq hc)
  refine ⟨?_, ?_⟩
  · by_cases e : v = v'
    · subst e
      exact Qp.uniq hm (toP hv) (toP hv')
    · by_cases lt : v < v'
      · exact (hs.later hm hv (v' - v).toNat v' y (by omega) (toP hv') lt).symm
      · exact hs.later hm hv' (v - v').toNat v x (by omega) (toP hv) (by omega)
  · obtain ⟨a, ha, ra, hp⟩ := cnt_one (Nat.le_trans hm.pos (toP hv))
    exact hs.acc a v x ha ra (eq_of_beq hp)

open Classical in
/-- Peer i prepares y in view w. -/
theorem Safe.prepare (hs : Safe n right q acc s) (hm : Many n right q) {i : Nat} {w : Int} {y : Bs} (h0 : s.P i w = none) (ha : acc y = true)
    (hP : ∀ j u, s'.P j u = if j = i ∧ u = w then some y else s.P j u) (hC : s'.C = s.C) (hD : s'.D = s.D)
    (hlock : i < n → right i = true → (∀ v x, s.C i v = some x → v ≤ w) ∧ ((∀ v, s.C i v = none) ∨ ∃ L, (∀ v x, s.C i v = some x → v ≤ L) ∧ (s.C i L = some y ∨ ((∃ x, s.C i L = some x) ∧ ∃ u, L ≤ u ∧ u < w ∧ Qp n right q s u y)))) : Safe n right q acc s' := by
  have mono : ∀ j u z, s.P j u = some z → s'.P j u = some z := fun j u z h => by
    rw [hP]
    split
    · rename_i e
      rw [e.1, e.2, h0] at h; cases h
    · exact h
  have gmono : ∀ j u z, Good n right q s j u z → Good n right q s' j u z := fun j u z h v x hv hx hc => by
    rw [hC] at hc
    obtain ⟨t, h1, h2, h3⟩ := h v x hv hx hc
    exact ⟨t, h1, h2, h3.mono mono⟩
  have gs : ∀ u z, goods n right q s u z ≤ goods n right q s' u z := fun u z => by
    refine cnt_mono fun j _ _ hj => ?_
    rw [Bool.and_eq_true] at hj ⊢
    exact ⟨by rw [mono j u z (eq_of_beq hj.1)]; exact beq_self_eq_true _, decide_eq_true (gmono j u z (of_decide_eq_true hj.2))⟩
  refine ⟨fun j v x hj rj hc => ?_, fun u z => ?_, fun j x hj rj hd => ?_, fun j u z hj rj hp => ?_⟩
  · rw [hC] at hc
    exact (hs.comm j v x hj rj hc).mono mono
  · rcases hs.good u z with h | h
    · exact .inl (Nat.le_trans h (gs u z))
    · by_cases hq : q ≤ cnt n right (fun i => s.P i u == some z)
      · exact .inl (Nat.le_trans (Nat.le_trans hq h) (gs u z))
      · refine .inr ?_
        by_cases hwy : u = w ∧ z = y ∧ i < n ∧ right i = true
        · obtain ⟨rfl, rfl, hin, hri⟩ := hwy
          have h1 : cnt n right (fun j => s'.P j u == some z) ≤ cnt n right (fun j => s.P j u == some z) + 1 := cnt_except (i := i) fun j hj h2 => by
            rw [hP, if_neg (fun e => hj e.1)] at h2; exact h2
          have hgood : Good n right q s' i u z := by
            intro v x hv hx hc
            rw [hC] at hc
            obtain ⟨hle, hl⟩ := hlock hin hri
            rcases hl with hl | ⟨L, hmax, hl⟩
            · rw [hl v] at hc; cases hc
            · have hvL := hmax v x hc
              rcases hl with hl | ⟨⟨xl, hxl⟩, t, ht1, ht2, ht3⟩
              · have hLu := hle L z hl
                have hne : v ≠ L := fun e => by rw [e, hl] at hc; exact hx (Option.some.inj hc).symm
                have hqL := hs.comm i L z hin hri hl
                by_cases hLe : L = u
                · rw [hLe] at hqL; exact absurd hqL hq
                · exact ⟨L, by omega, by omega, hqL.mono mono⟩
              · by_cases hvt : v = t
                · exfalso
                  have hqv := hs.comm i v x hin hri hc
                  rw [hvt] at hqv
                  exact hx (Qp.uniq hm hqv ht3)
                · exact ⟨t, by omega, ht2, ht3.mono mono⟩
          have h2 : goods n right q s u z + 1 ≤ goods n right q s' u z := by
            refine cnt_more (i := i) hin hri ?_ ?_ (fun j hj => ?_)
            · rw [h0]; rfl
            · rw [Bool.and_eq_true]
              exact ⟨by rw [hP, if_pos ⟨rfl, rfl⟩]; exact beq_self_eq_true _, decide_eq_true hgood⟩
            · rw [Bool.and_eq_true] at hj ⊢
              exact ⟨by rw [mono j u z (eq_of_beq hj.1)]; exact beq_self_eq_true _, decide_eq_true (gmono j u z (of_decide_eq_true hj.2))⟩
          omega
        · have h1 : cnt n right (fun j => s'.P j u == some z) ≤ cnt n right (fun j => s.P j u == some z) := cnt_mono fun j hj rj h2 => by
            rw [hP] at h2
            split at h2
            · rename_i e
              exact absurd ⟨e.2, (Option.some.inj (eq_of_beq h2)).symm, e.1 ▸ hj, e.1 ▸ rj⟩ hwy
            · exact h2
          exact Nat.le_trans h1 (Nat.le_trans h (gs u z))
  · rw [hD] at hd
    obtain ⟨v, hv⟩ := hs.dec j x hj rj hd
    exact ⟨v, hv.mono (fun _ _ _ h => by rw [hC]; exact h)⟩
  · rw [hP] at hp
    split at hp
    · rw [← Option.some.inj hp]; exact ha
    · exact hs.acc j u z hj rj hp

open Classical in
/-- Peer i commits x in view v. -/
theorem Safe.commit (hs : Safe n right q acc s) {i : Nat} {v : Int} {x : Bs} (h0 : s.C i v = none)
    (hC : ∀ j u, s'.C j u = if j = i ∧ u = v then some x else s.C j u) (hP : s'.P = s.P) (hD : s'.D = s.D)
    (hq : i < n → right i = true → Qp n right q s v x) (hlate : i < n → right i = true → ∀ w y, s.P i w = some y → w ≤ v) : Safe n right q acc s' := by
  have mono : ∀ j u z, s.C j u = some z → s'.C j u = some z := fun j u z h => by
    rw [hC]
    split
    · rename_i e
      rw [e.1, e.2, h0] at h; cases h
    · exact h
  have qmono : ∀ {u z}, Qp n right q s u z → Qp n right q s' u z := fun h => h.mono (fun _ _ _ h => by rw [hP]; exact h)
  refine ⟨fun j u z hj rj hc => ?_, fun u z => ?_, fun j z hj rj hd => ?_, fun j u z hj rj hp => ?_⟩
  · rw [hC] at hc
    split at hc
    · rename_i e
      rw [e.2, ← Option.some.inj hc]
      exact qmono (hq (e.1 ▸ hj) (e.1 ▸ rj))
    · exact qmono (hs.comm j u z hj rj hc)
  · have gs : goods n right q s u z ≤ goods n right q s' u z := by
      refine cnt_mono fun j hj rj h => ?_
      rw [Bool.and_eq_true] at h ⊢
      refine ⟨by rw [hP]; exact h.1, decide_eq_true fun v' x' hv' hx' hc => ?_⟩
      rw [hC] at hc
      split at hc
      · rename_i e
        have := hlate (e.1 ▸ hj) (e.1 ▸ rj) u z (e.1 ▸ eq_of_beq h.1)
        omega
      · obtain ⟨t, h1, h2, h3⟩ := (of_decide_eq_true h.2 : Good n right q s j u z) v' x' hv' hx' hc
        exact ⟨t, h1, h2, qmono h3⟩
    rw [hP]
    rcases hs.good u z with h | h
    · exact .inl (Nat.le_trans h gs)
    · exact .inr (Nat.le_trans h gs)
  · rw [hD] at hd
    obtain ⟨v, hv⟩ := hs.dec j z hj rj hd
    exact ⟨v, hv.mono mono⟩
  · rw [hP] at hp
    exact hs.acc j u z hj rj hp

open Classical in
/-- Somebody decides. -/
theorem Safe.decide (hs : Safe n right q acc s) (hC : s'.C = s.C) (hP : s'.P = s.P)
    (hD : ∀ j x, j < n → right j = true → s'.D j = some x → s.D j = some x ∨ ∃ v, Qc n right q s v x) : Safe n right q acc s' := by
  have e : ∀ {v x}, Qc n right q s v x → Qc n right q s' v x := fun h => h.mono (fun _ _ _ h => by rw [hC]; exact h)
  have e2 : ∀ {v x}, Qp n right q s v x → Qp n right q s' v x := fun h => h.mono (fun _ _ _ h => by rw [hP]; exact h)
  refine ⟨fun j u z hj rj hc => e2 (hs.comm j u z hj rj (by rw [← hC]; exact hc)), fun u z => ?_, fun j x hj rj hd => ?_, fun j u z hj rj hp => hs.acc j u z hj rj (by rw [← hP]; exact hp)⟩
  · have gs : goods n right q s u z ≤ goods n right q s' u z := by
      refine cnt_mono fun j hj rj h => ?_
      rw [Bool.and_eq_true] at h ⊢
      refine ⟨by rw [hP]; exact h.1, decide_eq_true fun v' x' hv' hx' hc => ?_⟩
      rw [hC] at hc
      obtain ⟨t, h1, h2, h3⟩ := (of_decide_eq_true h.2 : Good n right q s j u z) v' x' hv' hx' hc
      exact ⟨t, h1, h2, e2 h3⟩
    rw [hP]
    rcases hs.good u z with h | h
    · exact .inl (Nat.le_trans h gs)
    · exact .inr (Nat.le_trans h gs)
  · rcases hD j x hj rj hd with h | ⟨v, hv⟩
    · obtain ⟨v, hv⟩ := hs.dec j x hj rj h
      exact ⟨v, e hv⟩
    · exact ⟨v, e hv⟩
end
end Sac
