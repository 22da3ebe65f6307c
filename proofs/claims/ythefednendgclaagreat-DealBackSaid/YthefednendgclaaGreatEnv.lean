/-
  What a walk knows at a point: blocks of its own, known whole, and facts that stay while only such blocks are written. No program in sight.
-/
import Derived.Test.YthefednendgclaaGreatBase
set_option linter.unusedVariables false
set_option linter.unusedSimpArgs false
namespace Sac
open Go Go.RowKit

/-- The blocks below B are as they were; of the others only rows of type T may have changed; none has gone. -/
structure KT (B : Nat) (T : TypeId) (w w' : World) : Prop where
  size : w.heap.size ≤ w'.heap.size
  low : ∀ k, k < B → w'.heap[k]? = w.heap[k]?
  high : ∀ k, k < w.heap.size → (∀ cs fr, w.heap[k]? ≠ some (.cells cs T fr)) → w'.heap[k]? = w.heap[k]?

theorem KT.refl (B : Nat) (T : TypeId) (w : World) : KT B T w w := ⟨Nat.le_refl _, fun _ _ => rfl, fun _ _ _ => rfl⟩
theorem KT.below {B : Nat} {T : TypeId} {w w' : World} (hB : B ≤ w.heap.size) (h : Below w.heap.size w w') : KT B T w w' :=
  ⟨h.size, fun k hk => h.block k (by omega), fun k hk _ => h.block k hk⟩
theorem KT.set {B : Nat} {T : TypeId} {w : World} {k : Nat} {cs : List Value} (hk : Blk w k T cs) (hB : B ≤ k) (o : Nat) (v : Value) : KT B T w (w.setCell ⟨k, o, none⟩ v) := by
  refine ⟨by simp [World.setCell], fun j hj => heap_setCell_other _ _ _ _ (by show j ≠ k; omega), fun j hj hn => heap_setCell_other _ _ _ _ ?_⟩
  rintro rfl
  exact hn _ _ hk
theorem KT.alloc {B : Nat} {T : TypeId} {w : World} (hB : B ≤ w.heap.size) (o : Obj) : KT B T w (w.alloc o) :=
  KT.below hB ((Below.refl _ _).alloc (Nat.le_refl _) _)
theorem KT.ety {B : Nat} {T e : TypeId} {w w' : World} (h : KT B T w w') (hne : e ≠ T) {k : Nat} (hk : Ety w k e) : w'.heap[k]? = w.heap[k]? := by
  refine h.high k hk.lt ?_
  obtain ⟨cs, fr, hc⟩ := hk
  intro cs' fr' h'
  rw [hc] at h'
  injection h' with h'
  injection h' with _ he _
  exact hne he
theorem KT.rd {B : Nat} {T e : TypeId} {w w' : World} (h : KT B T w w') (hne : e ≠ T) {a : Option Addr} {vs : List Value} (hr : Rd w e a vs) : Rd w' e a vs :=
  hr.same fun _ hk => h.ety hne hk
theorem KT.blk {B : Nat} {T e : TypeId} {w w' : World} (h : KT B T w w') (hne : e ≠ T) {k : Nat} {cs : List Value} (hb : Blk w k e cs) : Blk w' k e cs :=
  hb.same (h.ety hne hb.ety)
theorem KT.blkLow {B : Nat} {T e : TypeId} {w w' : World} (h : KT B T w w') {k : Nat} {cs : List Value} (hb : Blk w k e cs) (hk : k < B) : Blk w' k e cs :=
  hb.same (h.low k hk)

/-- A fact that stays. -/
def Stays (B : Nat) (T : TypeId) (P : World → Prop) : Prop := ∀ w w', KT B T w w' → P w → P w'

/-- What is known at the world wr of a walk that began at w with B blocks: the blocks L, the facts F. -/
structure Env (B : Nat) (T : TypeId) (w wr : World) (L : List (Nat × TypeId × List Value)) (F : List (World → Prop)) : Prop where
  bel : Below B w wr
  blk : ∀ (i k : Nat) (e : TypeId) (cs : List Value), L[i]? = some (k, e, cs) → Blk wr k e cs ∧ B ≤ k
  apart : ∀ (i j : Nat) (s t : Nat × TypeId × List Value), L[i]? = some s → L[j]? = some t → i ≠ j → s.1 ≠ t.1
  stay : ∀ (i : Nat) (P : World → Prop), F[i]? = some P → Stays B T P
  fact : ∀ (i : Nat) (P : World → Prop), F[i]? = some P → P wr
  base : B ≤ wr.heap.size

namespace Env
variable {B : Nat} {T : TypeId} {w wr w' : World} {L : List (Nat × TypeId × List Value)} {F : List (World → Prop)}

theorem init (T : TypeId) (w : World) : Env w.heap.size T w w [] [] :=
  ⟨Below.refl _ _, fun i k e cs h => by simp at h, fun i j s t h => by simp at h, fun i P h => by simp at h, fun i P h => by simp at h, Nat.le_refl _⟩

theorem get (h : Env B T w wr L F) (i : Nat) {k : Nat} {e : TypeId} {cs : List Value} (hi : L[i]? = some (k, e, cs)) : Blk wr k e cs := (h.blk i k e cs hi).1
theorem ge (h : Env B T w wr L F) (i : Nat) {k : Nat} {e : TypeId} {cs : List Value} (hi : L[i]? = some (k, e, cs)) : B ≤ k := (h.blk i k e cs hi).2
theorem lt (h : Env B T w wr L F) (i : Nat) {k : Nat} {e : TypeId} {cs : List Value} (hi : L[i]? = some (k, e, cs)) : k < wr.heap.size := (h.get i hi).lt
theorem has (h : Env B T w wr L F) (i : Nat) {P : World → Prop} (hi : F[i]? = some P) : P wr := h.fact i P hi
theorem ne (h : Env B T w wr L F) (i j : Nat) {s t : Nat × TypeId × List Value} (hi : L[i]? = some s) (hj : L[j]? = some t) (hn : i ≠ j) : s.1 ≠ t.1 := h.apart i j s t hi hj hn

theorem below (h : Env B T w wr L F) (hb : Below wr.heap.size wr w') : Env B T w w' L F :=
  ⟨h.bel.trans (hb.mono h.base), fun i k e cs hi => ⟨(h.get i hi).below hb (h.lt i hi), h.ge i hi⟩, h.apart, h.stay,
    fun i P hi => h.stay i P hi _ _ (KT.below h.base hb) (h.fact i P hi), Nat.le_trans h.base hb.size⟩

theorem drew (h : Env B T w wr L F) : Env B T w wr.drew L F :=
  h.below ⟨rfl, rfl, rfl, Nat.le_refl _, fun _ _ => rfl⟩

theorem alloc (h : Env B T w wr L F) (cs : List Value) (e : TypeId) : Env B T w (wr.alloc (.cells cs.toArray e)) (L ++ [(wr.heap.size, e, cs)]) F := by
  have h1 := h.below ((Below.refl _ wr).alloc (Nat.le_refl _) (.cells cs.toArray e))
  have key : ∀ (i : Nat) (t : Nat × TypeId × List Value), (L ++ [(wr.heap.size, e, cs)])[i]? = some t → (i < L.length ∧ L[i]? = some t) ∨ (i = L.length ∧ t = (wr.heap.size, e, cs)) := by
    intro i t hi
    rcases Nat.lt_or_ge i L.length with hl | hl
    · exact .inl ⟨hl, by rwa [List.getElem?_append_left hl] at hi⟩
    · rw [List.getElem?_append_right hl] at hi
      have : i - L.length = 0 := by
        rcases Nat.eq_zero_or_pos (i - L.length) with h0 | h0
        · exact h0
        · rw [List.getElem?_eq_none (by simp only [List.length_cons, List.length_nil]; omega)] at hi; cases hi
      rw [this] at hi
      exact .inr ⟨by omega, by simpa using hi.symm⟩
  refine ⟨h1.bel, ?_, ?_, h1.stay, h1.fact, h1.base⟩
  · intro i k e' cs' hi
    rcases key i _ hi with ⟨_, hi⟩ | ⟨_, hi⟩
    · exact h1.blk i k e' cs' hi
    · injection hi with h2 h3
      injection h3 with h3 h4
      subst h2 h3 h4
      exact ⟨Blk.new _ _ _, h.base⟩
  · intro i j s t hi hj hn
    rcases key i _ hi with ⟨li, hi⟩ | ⟨li, rfl⟩ <;> rcases key j _ hj with ⟨lj, hj⟩ | ⟨lj, rfl⟩
    · exact h.apart i j s t hi hj hn
    · exact Nat.ne_of_lt (h.lt i (k := s.1) (e := s.2.1) (cs := s.2.2) hi)
    · exact (Nat.ne_of_lt (h.lt j (k := t.1) (e := t.2.1) (cs := t.2.2) hj)).symm
    · omega

theorem set (h : Env B T w wr L F) (i : Nat) {k : Nat} {cs : List Value} (hi : L[i]? = some (k, T, cs)) (o : Nat) (v : Value) : Env B T w (wr.setCell ⟨k, o, none⟩ v) (L.set i (k, T, cs.set o v)) F := by
  have hk := KT.set (h.get i hi) (h.ge i hi) o v
  have hl : i < L.length := by
    rcases Nat.lt_or_ge i L.length with hl | hl
    · exact hl
    · rw [List.getElem?_eq_none hl] at hi; cases hi
  refine ⟨h.bel.setCell (h.ge i hi) _, ?_, ?_, h.stay, fun j P hj => h.stay j P hj _ _ hk (h.fact j P hj), Nat.le_trans h.base hk.size⟩
  · intro j k' e' cs' hj
    rw [List.getElem?_set] at hj
    by_cases hij : i = j
    · rw [if_pos hij, if_pos hl] at hj
      injection hj with hj
      injection hj with h2 h3
      injection h3 with h3 h4
      subst h2 h3 h4
      exact ⟨(h.get i hi).set o v, h.ge i hi⟩
    · rw [if_neg hij] at hj
      have hne := h.apart i j _ _ hi hj hij
      exact ⟨(h.get j hj).other ⟨k, o, none⟩ v (fun e => hne e.symm), h.ge j hj⟩
  · have key : ∀ (j : Nat) (t : Nat × TypeId × List Value), (L.set i (k, T, cs.set o v))[j]? = some t → ∃ t' : Nat × TypeId × List Value, L[j]? = some t' ∧ t'.1 = t.1 := by
      intro j t hj
      rw [List.getElem?_set] at hj
      by_cases hij : i = j
      · rw [if_pos hij, if_pos hl] at hj
        injection hj with hj
        subst hj hij
        exact ⟨_, hi, rfl⟩
      · rw [if_neg hij] at hj
        exact ⟨t, hj, rfl⟩
    intro a b s t ha hb hn
    obtain ⟨s', hs, es⟩ := key a s ha
    obtain ⟨t', ht, et⟩ := key b t hb
    rw [← es, ← et]
    exact h.apart a b s' t' hs ht hn

theorem add (h : Env B T w wr L F) {P : World → Prop} (hs : Stays B T P) (hP : P wr) : Env B T w wr L (F ++ [P]) := by
  have key : ∀ (i : Nat) (Q : World → Prop), (F ++ [P])[i]? = some Q → F[i]? = some Q ∨ Q = P := by
    intro i Q hi
    rcases Nat.lt_or_ge i F.length with hl | hl
    · exact .inl (by rwa [List.getElem?_append_left hl] at hi)
    · rw [List.getElem?_append_right hl] at hi
      rcases Nat.eq_zero_or_pos (i - F.length) with h0 | h0
      · rw [h0] at hi; exact .inr (by simpa using hi.symm)
      · rw [List.getElem?_eq_none (by simp only [List.length_cons, List.length_nil]; omega)] at hi; cases hi
  refine ⟨h.bel, h.blk, h.apart, ?_, ?_, h.base⟩
  · intro i Q hi
    rcases key i Q hi with hi | rfl
    · exact h.stay i Q hi
    · exact hs
  · intro i Q hi
    rcases key i Q hi with hi | rfl
    · exact h.fact i Q hi
    · exact hP

/-- Other lists of the same. -/
theorem sub (h : Env B T w wr L F) {L' : List (Nat × TypeId × List Value)} {F' : List (World → Prop)} (f g : List Nat) (hL : ∀ i, i < L'.length → L'[i]? = L[f.getD i 0]?) (hf : ∀ i j, i < L'.length → j < L'.length → f.getD i 0 = f.getD j 0 → i = j)
    (hF : ∀ i, i < F'.length → F'[i]? = F[g.getD i 0]?) : Env B T w wr L' F' := by
  have kl : ∀ i t, L'[i]? = some t → i < L'.length := fun i t hi => (List.getElem?_eq_some_iff.1 hi).1
  have kf : ∀ i t, F'[i]? = some t → i < F'.length := fun i t hi => (List.getElem?_eq_some_iff.1 hi).1
  refine ⟨h.bel, ?_, ?_, ?_, ?_, h.base⟩
  · intro i k e cs hi
    exact h.blk _ k e cs ((hL i (kl i _ hi)).symm.trans hi)
  · intro i j s t hi hj hn
    exact h.apart _ _ s t ((hL i (kl i _ hi)).symm.trans hi) ((hL j (kl j _ hj)).symm.trans hj) fun e => hn (hf i j (kl i _ hi) (kl j _ hj) e)
  · intro i P hi
    exact h.stay _ P ((hF i (kf i _ hi)).symm.trans hi)
  · intro i P hi
    exact h.fact _ P ((hF i (kf i _ hi)).symm.trans hi)
theorem app {α : Type} {L : List α} {t s : α} {i : Nat} (hi : L[i]? = some s) : (L ++ [t])[i]? = some s := by
  rw [List.getElem?_append_left (List.getElem?_eq_some_iff.1 hi).1]; exact hi
/-- Without the last block. -/
theorem pop {t : Nat × TypeId × List Value} (h : Env B T w wr (L ++ [t]) F) : Env B T w wr L F :=
  ⟨h.bel, fun i k e cs hi => h.blk i k e cs (app hi), fun i j s t hi hj hn => h.apart i j s t (app hi) (app hj) hn, h.stay, h.fact, h.base⟩
/-- Without the last fact. -/
theorem popF {P : World → Prop} (h : Env B T w wr L (F ++ [P])) : Env B T w wr L F :=
  ⟨h.bel, h.blk, h.apart, fun i P hi => h.stay i P (app hi), fun i P hi => h.fact i P (app hi), h.base⟩
end Env
end Sac
