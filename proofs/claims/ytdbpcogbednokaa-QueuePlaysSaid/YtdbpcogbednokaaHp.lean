/-
  Heaps: a function on places, ordered by a test 'lt'; what sifting up and down does.
-/
namespace Go.Proofs.Ytdbpcogbednokaa
namespace Hp

structure Ord {α : Type} (lt : α → α → Bool) : Prop where
  irrefl : ∀ a, lt a a = false
  trans : ∀ a b c, lt b a = false → lt c b = false → lt c a = false
  asymm : ∀ a b, lt a b = true → lt b a = false

section
variable {α : Type} {lt : α → α → Bool}

def IsHeap (lt : α → α → Bool) (h : Nat → α) (n : Nat) : Prop := ∀ i, 0 < i → i < n → lt (h i) (h ((i - 1) / 2)) = false

def UpInv (lt : α → α → Bool) (h : Nat → α) (n k : Nat) : Prop :=
  (∀ i, 0 < i → i < n → i ≠ k → lt (h i) (h ((i - 1) / 2)) = false) ∧
  (∀ i, 0 < i → i < n → (i - 1) / 2 = k → 0 < k → lt (h i) (h ((k - 1) / 2)) = false)

def swapf (h : Nat → α) (p k : Nat) : Nat → α := fun i => if i = p then h k else if i = k then h p else h i

theorem up_done {h : Nat → α} {n k : Nat} (hu : UpInv lt h n k) (hk : k = 0 ∨ lt (h k) (h ((k - 1) / 2)) = false) : IsHeap lt h n := by
  intro i hi hn
  by_cases e : i = k
  · subst e
    rcases hk with hk | hk
    · omega
    · exact hk
  · exact hu.1 i hi hn e

theorem up_start {h : Nat → α} {n k : Nat} (hh : IsHeap lt h k) (hn : n = k + 1) : UpInv lt h n k := by
  subst hn
  refine ⟨fun i hi hin hne => hh i hi (by omega), fun i hi hin hp hk => by omega⟩

theorem up_step (O : Ord lt) {h : Nat → α} {n k : Nat} (hu : UpInv lt h n k) (h0 : 0 < k) (hkn : k < n) (hl : lt (h k) (h ((k - 1) / 2)) = true) :
    UpInv lt (swapf h ((k - 1) / 2) k) n ((k - 1) / 2) := by
  obtain ⟨u1, u2⟩ := hu
  have hp : (k - 1) / 2 < k := by omega
  have hpn : (k - 1) / 2 ≠ k := by omega
  constructor
  · intro i hi hin hne
    unfold swapf
    rw [if_neg hne]
    by_cases e : i = k
    · subst e
      rw [if_pos rfl, if_pos rfl]
      exact O.asymm _ _ hl
    · rw [if_neg e]
      by_cases e1 : (i - 1) / 2 = (k - 1) / 2
      · rw [if_pos e1]
        have a := u1 i hi hin e
        rw [e1] at a
        exact O.trans _ _ _ (O.asymm _ _ hl) a
      · rw [if_neg e1]
        by_cases e2 : (i - 1) / 2 = k
        · rw [if_pos e2]
          exact u2 i hi hin e2 h0
        · rw [if_neg e2]
          exact u1 i hi hin e
  · intro i hi hin hpar hp0
    unfold swapf
    have g1 : ((k - 1) / 2 - 1) / 2 ≠ (k - 1) / 2 := by omega
    have g2 : ((k - 1) / 2 - 1) / 2 ≠ k := by omega
    rw [if_neg g1, if_neg g2]
    have pp := u1 ((k - 1) / 2) hp0 (by omega) hpn
    by_cases e : i = (k - 1) / 2
    · omega
    · rw [if_neg e]
      by_cases e1 : i = k
      · rw [if_pos e1]
        exact pp
      · rw [if_neg e1]
        have a := u1 i hi hin e1
        rw [hpar] at a
        exact O.trans _ _ _ pp a

def HeapFrom (lt : α → α → Bool) (h : Nat → α) (n i0 : Nat) : Prop := ∀ c, 0 < c → c < n → i0 ≤ (c - 1) / 2 → lt (h c) (h ((c - 1) / 2)) = false

def DownInv (lt : α → α → Bool) (h : Nat → α) (n i0 i : Nat) : Prop :=
  (∀ c, 0 < c → c < n → i0 ≤ (c - 1) / 2 → (c - 1) / 2 ≠ i → lt (h c) (h ((c - 1) / 2)) = false) ∧
  (∀ c, 0 < c → c < n → (c - 1) / 2 = i → 0 < i → i0 ≤ (i - 1) / 2 → lt (h c) (h ((i - 1) / 2)) = false)

theorem down_start {h : Nat → α} {n i0 : Nat} (hh : HeapFrom lt h n (i0 + 1)) : DownInv lt h n i0 i0 :=
  ⟨fun c hc hn hi hne => hh c hc hn (by omega), fun c hc hn hp h0 hi => by omega⟩

theorem down_done1 {h : Nat → α} {n i0 i : Nat} (hd : DownInv lt h n i0 i) (hj : n ≤ 2 * i + 1) : HeapFrom lt h n i0 :=
  fun c hc hn hi => hd.1 c hc hn hi (by omega)

/-- j: the lesser child of i; o: the other one. -/
theorem down_done2 (O : Ord lt) {h : Nat → α} {n i0 i j : Nat} (hd : DownInv lt h n i0 i) (_hj : j = 2 * i + 1 ∨ j = 2 * i + 2) (_hjn : j < n)
    (ho : ∀ o, (o = 2 * i + 1 ∨ o = 2 * i + 2) → o < n → lt (h o) (h j) = false) (hl : lt (h j) (h i) = false) : HeapFrom lt h n i0 := by
  intro c hc hn hi
  by_cases e : (c - 1) / 2 = i
  · rw [e]
    exact O.trans _ _ _ hl (ho c (by omega) hn)
  · exact hd.1 c hc hn hi e

theorem down_step (O : Ord lt) {h : Nat → α} {n i0 i j : Nat} (hd : DownInv lt h n i0 i) (hii : i0 ≤ i) (hj : j = 2 * i + 1 ∨ j = 2 * i + 2) (hjn : j < n)
    (ho : ∀ o, (o = 2 * i + 1 ∨ o = 2 * i + 2) → o < n → lt (h o) (h j) = false) (hl : lt (h j) (h i) = true) : DownInv lt (swapf h i j) n i0 j := by
  obtain ⟨d1, d2⟩ := hd
  have hpj : (j - 1) / 2 = i := by omega
  have hji : j ≠ i := by omega
  constructor
  · intro c hc hn hi hne
    unfold swapf
    by_cases e : c = i
    · subst e
      rw [if_pos rfl]
      by_cases e1 : (c - 1) / 2 = c
      · omega
      · rw [if_neg e1, if_neg hne]
        exact d2 j (by omega) hjn hpj hc hi
    · rw [if_neg e]
      by_cases e1 : c = j
      · subst e1
        rw [if_pos rfl, hpj, if_pos rfl]
        exact O.asymm _ _ hl
      · rw [if_neg e1]
        by_cases e2 : (c - 1) / 2 = i
        · rw [if_pos e2]
          exact ho c (by omega) hn
        · rw [if_neg e2, if_neg hne]
          exact d1 c hc hn hi e2
  · intro c hc hn hp h0 hi
    unfold swapf
    rw [hpj]
    have e : c ≠ i := by omega
    have e1 : c ≠ j := by omega
    rw [if_neg e, if_neg e1, if_pos rfl]
    have := d1 c hc hn (by omega) (by omega)
    rw [hp] at this
    exact this

theorem heap_of_from {h : Nat → α} {n : Nat} (hf : HeapFrom lt h n 0) : IsHeap lt h n := fun i hi hn => hf i hi hn (Nat.zero_le _)
theorem from_of_heap {h : Nat → α} {n i0 : Nat} (hf : IsHeap lt h n) : HeapFrom lt h n i0 := fun i hi hn _ => hf i hi hn
theorem from_all {h : Nat → α} {n i0 : Nat} (hi : n ≤ 2 * i0 + 1) : HeapFrom lt h n i0 := fun c hc hn h => by omega

theorem root_least (O : Ord lt) {h : Nat → α} {n : Nat} (hh : IsHeap lt h n) : ∀ (m i : Nat), i ≤ m → i < n → lt (h i) (h 0) = false := by
  intro m
  induction m with
  | zero =>
    intro i hi _
    obtain rfl : i = 0 := by omega
    exact O.irrefl _
  | succ m ih =>
    intro i hi hn
    by_cases e : i = 0
    · subst e; exact O.irrefl _
    · exact O.trans _ _ _ (ih ((i - 1) / 2) (by omega) (by omega)) (hh i (by omega) hn)

/-! ### Lists -/
def at_ (L : List α) (d : α) (i : Nat) : α := L.getD i d

theorem at_some {L : List α} {d : α} {i : Nat} {a : α} (h : L[i]? = some a) : at_ L d i = a := by simp [at_, h]
theorem some_at {L : List α} {d : α} {i : Nat} (h : i < L.length) : L[i]? = some (at_ L d i) := by
  simp [at_, h]

def swapl (L : List α) (d : α) (i j : Nat) : List α := (L.set i (at_ L d j)).set j (at_ L d i)

theorem length_swapl (L : List α) (d : α) (i j : Nat) : (swapl L d i j).length = L.length := by simp [swapl]

theorem at_swapl (L : List α) (d : α) (i j : Nat) (hi : i < L.length) (hj : j < L.length) : at_ (swapl L d i j) d = swapf (at_ L d) i j := by
  funext k
  simp only [swapl, swapf, at_, List.getD_eq_getElem?_getD, List.getElem?_set]
  by_cases e1 : j = k
  · subst e1
    by_cases e2 : j = i
    · subst e2; simp [hj]
    · simp [hj, e2]
  · by_cases e2 : i = k
    · subst e2; simp [e1, hi]
    · simp [e1, e2, Ne.symm e1, Ne.symm e2]

theorem perm_swapl (L : List α) (d : α) (i j : Nat) (hi : i < L.length) (hj : j < L.length) : (swapl L d i j).Perm L := by
  unfold swapl
  have ai : at_ L d i = L[i] := by simp [at_, hi]
  have aj : at_ L d j = L[j] := by simp [at_, hj]
  rw [ai, aj]
  exact List.set_set_perm hi hj
end
end Hp
end Go.Proofs.Ytdbpcogbednokaa
