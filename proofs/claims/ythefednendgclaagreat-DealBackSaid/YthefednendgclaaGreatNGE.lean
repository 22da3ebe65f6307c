import Derived.Test.YthefednendgclaaGreatNats
import Derived.Test.YthefednendgclaaGreatModExp
import Derived.Laws.AppendOwn
import Derived.Laws.AppendOwnNone
set_option linter.unusedVariables false
set_option linter.unusedSimpArgs false
/-
  What a walk over numbers knows: boxes of its own, each with a number; facts that stay while only such boxes are written. And the contracts of the numbers' functions for numbers of no more than a thousand words.
-/
namespace Go.Proofs.YthefednendgclaaGreat
open Go Go.RowKit Sac

/-- Block k is a box with the number n. -/
def NB (w : World) (k n : Nat) : Prop := ∃ (a : Option Addr) (l c : Nat), Blk w k 36 [.slice a l c] ∧ NatS w a l n
theorem NB.lt {w : World} {k n : Nat} (h : NB w k n) : k < w.heap.size := by obtain ⟨_, _, _, h, _⟩ := h; exact h.lt
theorem NB.below {w w' : World} {k n : Nat} (h : NB w k n) (hb : Below w.heap.size w w') : NB w' k n := by
  obtain ⟨a, l, c, h1, h2⟩ := h
  exact ⟨a, l, c, h1.below hb h1.lt, h2.below hb⟩
theorem NB.box {w : World} {k n : Nat} (h : NB w k n) : ∃ (a : Option Addr) (l c : Nat), w.cell? ⟨k, 0, none⟩ = some (.slice a l c) ∧ w.frozen? ⟨k, 0, none⟩ = false ∧ NatS w a l n := by
  obtain ⟨a, l, c, h1, h2⟩ := h
  exact ⟨a, l, c, h1.cell 0, h1.frozen 0, h2⟩
/-- A cell that is read at any world that grew out of this one. -/
theorem NB.get {w : World} {k n : Nat} (h : NB w k n) : ∃ (a : Option Addr) (l c : Nat), (∀ w', BB w w' → w'.cell? ⟨k, 0, none⟩ = some (.slice a l c)) ∧ NatS w a l n := by
  obtain ⟨a, l, c, h1, h2⟩ := h
  exact ⟨a, l, c, fun w' hb => (BB.cell hb h1.lt).trans (h1.cell 0), h2⟩
theorem natS_nil (w : World) : NatS w none 0 0 := ⟨NatAt.nil w, by decide⟩

/-- What is known at the world wr of a walk that began at w with s blocks: boxes L with their numbers, the facts F. -/
structure NE (w wr : World) (s : Nat) (L : List (Nat × Nat)) (F : List (World → Prop)) : Prop where
  bel : Below s w wr
  nb : ∀ (i k n : Nat), L[i]? = some (k, n) → NB wr k n ∧ s ≤ k
  apart : ∀ (i j : Nat) (p q : Nat × Nat), L[i]? = some p → L[j]? = some q → i ≠ j → p.1 ≠ q.1
  stay : ∀ (i : Nat) (P : World → Prop), F[i]? = some P → Stays s 36 P
  fact : ∀ (i : Nat) (P : World → Prop), F[i]? = some P → P wr
  base : s ≤ wr.heap.size

namespace NE
variable {w wr w' : World} {s : Nat} {L : List (Nat × Nat)} {F : List (World → Prop)}

theorem init (w : World) (s : Nat) (hs : s = w.heap.size) : NE w w s [] [] :=
  ⟨Below.refl _ _, fun i k n h => by simp at h, fun i j p q h => by simp at h, fun i P h => by simp at h, fun i P h => by simp at h, by omega⟩
theorem at_ (h : NE w wr s L F) (i : Nat) {k n : Nat} (hi : L[i]? = some (k, n)) : NB wr k n := (h.nb i k n hi).1
theorem ge (h : NE w wr s L F) (i : Nat) {k n : Nat} (hi : L[i]? = some (k, n)) : s ≤ k := (h.nb i k n hi).2
theorem lt (h : NE w wr s L F) (i : Nat) {k n : Nat} (hi : L[i]? = some (k, n)) : k < wr.heap.size := (h.at_ i hi).lt
theorem has (h : NE w wr s L F) (i : Nat) {P : World → Prop} (hi : F[i]? = some P) : P wr := h.fact i P hi
theorem box (h : NE w wr s L F) (i : Nat) {k n : Nat} (hi : L[i]? = some (k, n)) : ∃ (a : Option Addr) (l c : Nat), wr.cell? ⟨k, 0, none⟩ = some (.slice a l c) ∧ wr.frozen? ⟨k, 0, none⟩ = false ∧ NatS wr a l n := (h.at_ i hi).box
theorem get (h : NE w wr s L F) (i : Nat) {k n : Nat} (hi : L[i]? = some (k, n)) : ∃ (a : Option Addr) (l c : Nat), (∀ w', BB wr w' → w'.cell? ⟨k, 0, none⟩ = some (.slice a l c)) ∧ NatS wr a l n := (h.at_ i hi).get
theorem ne (h : NE w wr s L F) (i j : Nat) {k n k' n' : Nat} (hi : L[i]? = some (k, n)) (hj : L[j]? = some (k', n')) (hn : i ≠ j) : k ≠ k' := h.apart i j _ _ hi hj hn

theorem below (h : NE w wr s L F) (hb : Below wr.heap.size wr w') : NE w w' s L F :=
  ⟨h.bel.trans (hb.mono h.base), fun i k n hi => ⟨(h.at_ i hi).below hb, h.ge i hi⟩, h.apart, h.stay,
    fun i P hi => h.stay i P hi _ _ (KT.below h.base hb) (h.fact i P hi), Nat.le_trans h.base hb.size⟩
theorem drew (h : NE w wr s L F) : NE w wr.drew s L F := h.below ⟨rfl, rfl, rfl, Nat.le_refl _, fun _ _ => rfl⟩

theorem key {α : Type} {L : List α} {x t : α} {i : Nat} (hi : (L ++ [x])[i]? = some t) : (i < L.length ∧ L[i]? = some t) ∨ (i = L.length ∧ t = x) := by
  rcases Nat.lt_or_ge i L.length with hl | hl
  · exact .inl ⟨hl, by rwa [List.getElem?_append_left hl] at hi⟩
  · rw [List.getElem?_append_right hl] at hi
    rcases Nat.eq_zero_or_pos (i - L.length) with h0 | h0
    · rw [h0] at hi
      exact .inr ⟨by omega, by simpa using hi.symm⟩
    · rw [List.getElem?_eq_none (by simp only [List.length_cons, List.length_nil]; omega)] at hi; cases hi

/-- A new box. -/
theorem alloc (h : NE w wr s L F) {a : Option Addr} {l c n : Nat} (k : Nat) (hk : k = wr.heap.size) (hn : NatS wr a l n) : NE w (wr.alloc (.cells #[.slice a l c] 36)) s (L ++ [(k, n)]) F := by
  have hb : Below wr.heap.size wr (wr.alloc (.cells #[.slice a l c] 36)) := (Below.refl _ wr).alloc (Nat.le_refl _) _
  have h1 := h.below hb
  refine ⟨h1.bel, ?_, ?_, h1.stay, h1.fact, h1.base⟩
  · intro i k' n' hi
    rcases key hi with ⟨_, hi⟩ | ⟨_, hi⟩
    · exact h1.nb i k' n' hi
    · injection hi with h2 h3
      subst h2 h3
      exact ⟨⟨a, l, c, Blk.new' wr _ _ _ hk, hn.below hb⟩, hk ▸ h.base⟩
  · intro i j p q hi hj hn
    rcases key hi with ⟨li, hi⟩ | ⟨li, rfl⟩ <;> rcases key hj with ⟨lj, hj⟩ | ⟨lj, rfl⟩
    · exact h.apart i j p q hi hj hn
    · exact Nat.ne_of_lt (hk ▸ h.lt i (k := p.1) (n := p.2) hi)
    · exact (Nat.ne_of_lt (hk ▸ h.lt j (k := q.1) (n := q.2) hj)).symm
    · omega

/-- A number put into a box. -/
theorem set (h : NE w wr s L F) (i : Nat) {k n₀ : Nat} (hi : L[i]? = some (k, n₀)) {a : Option Addr} {l c n : Nat} (hn : NatS wr a l n) : NE w (wr.setCell ⟨k, 0, none⟩ (.slice a l c)) s (L.set i (k, n)) F := by
  obtain ⟨⟨a0, l0, c0, hB, _⟩, hsk⟩ := h.nb i k n₀ hi
  have hk := KT.set hB hsk 0 (.slice a l c)
  have hl : i < L.length := (List.getElem?_eq_some_iff.1 hi).1
  refine ⟨h.bel.setCell hsk _, ?_, ?_, h.stay, fun j P hj => h.stay j P hj _ _ hk (h.fact j P hj), Nat.le_trans h.base hk.size⟩
  · intro j k' n' hj
    rw [List.getElem?_set] at hj
    by_cases hij : i = j
    · rw [if_pos hij, if_pos hl] at hj
      injection hj with hj
      injection hj with h2 h3
      subst h2 h3
      exact ⟨⟨a, l, c, hB.set 0 _, hn.set hB 0 _⟩, hsk⟩
    · rw [if_neg hij] at hj
      have hne := h.apart i j _ _ hi hj hij
      obtain ⟨⟨a1, l1, c1, hB1, hN1⟩, h2⟩ := h.nb j k' n' hj
      exact ⟨⟨a1, l1, c1, hB1.other ⟨k, 0, none⟩ _ (fun e => hne e.symm), hN1.set hB 0 _⟩, h2⟩
  · have kk : ∀ (j : Nat) (t : Nat × Nat), (L.set i (k, n))[j]? = some t → ∃ t' : Nat × Nat, L[j]? = some t' ∧ t'.1 = t.1 := by
      intro j t hj
      rw [List.getElem?_set] at hj
      by_cases hij : i = j
      · rw [if_pos hij, if_pos hl] at hj
        injection hj with hj
        subst hj hij
        exact ⟨_, hi, rfl⟩
      · rw [if_neg hij] at hj
        exact ⟨t, hj, rfl⟩
    intro x y p q hx hy hn
    obtain ⟨p', hp, ep⟩ := kk x p hx
    obtain ⟨q', hq, eq⟩ := kk y q hy
    rw [← ep, ← eq]
    exact h.apart x y p' q' hp hq hn
/-- What a number is behind such a store. -/
theorem natSet (h : NE w wr s L F) (i : Nat) {k n₀ : Nat} (hi : L[i]? = some (k, n₀)) {a : Option Addr} {l n : Nat} (hn : NatS wr a l n) (v : Value) : NatS (wr.setCell ⟨k, 0, none⟩ v) a l n := by
  obtain ⟨a0, l0, c0, hB, _⟩ := h.at_ i hi
  exact hn.set hB 0 _

theorem add (h : NE w wr s L F) {P : World → Prop} (hs : Stays s 36 P) (hP : P wr) : NE w wr s L (F ++ [P]) := by
  refine ⟨h.bel, h.nb, h.apart, ?_, ?_, h.base⟩
  · intro i Q hi
    rcases key hi with ⟨_, hi⟩ | ⟨_, rfl⟩
    · exact h.stay i Q hi
    · exact hs
  · intro i Q hi
    rcases key hi with ⟨_, hi⟩ | ⟨_, rfl⟩
    · exact h.fact i Q hi
    · exact hP
theorem pop {t : Nat × Nat} (h : NE w wr s (L ++ [t]) F) : NE w wr s L F :=
  ⟨h.bel, fun i k n hi => h.nb i k n (Env.app hi), fun i j p q hi hj hn => h.apart i j p q (Env.app hi) (Env.app hj) hn, h.stay, h.fact, h.base⟩
theorem popF {P : World → Prop} (h : NE w wr s L (F ++ [P])) : NE w wr s L F :=
  ⟨h.bel, h.nb, h.apart, fun i P hi => h.stay i P (Env.app hi), fun i P hi => h.fact i P (Env.app hi), h.base⟩
/-- The first n boxes. -/
theorem take (h : NE w wr s L F) (n : Nat) : NE w wr s (L.take n) F := by
  have kk : ∀ (i : Nat) (t : Nat × Nat), (L.take n)[i]? = some t → L[i]? = some t := fun i t hi => by
    rw [List.getElem?_take] at hi
    split at hi
    · exact hi
    · cases hi
  exact ⟨h.bel, fun i k n hi => h.nb i k n (kk _ _ hi), fun i j p q hi hj hn => h.apart i j p q (kk _ _ hi) (kk _ _ hj) hn, h.stay, h.fact, h.base⟩
end NE

/-! ### A box handed back -/
theorem NE.ret {fn : Func} {p : Tmp} {tmps : Array Value} {w wr : World} {s i k n : Nat} {L : List (Nat × Nat)} {F : List (World → Prop)} (h : NE w wr s L F) (hs : s = w.heap.size) (hi : L[i]? = some (k, n))
    (hr : fn.results = #[.cell p 36]) (hp : tmps.getD p undef = .pointer (some ⟨k, 0, none⟩)) : bodyPost Tryz.prog fn (RetS n w) .ret { tmps, defers := [] } wr := by
  obtain ⟨a, l, c, hB, hN⟩ := h.at_ i hi
  exact ret_nat hr hp hB ⟨a, l, c, rfl, hN, hs ▸ h.bel⟩

/-! ### The contracts -/
theorem new_s (n : Nat) (w : World) (hn : n < 18446744073709551616) : Calls Tryz.prog 13 #[.int .u64 (n : Int)] w (RetS n w) :=
  (new_any n w hn).mono fun e w' ⟨a, l, c, h1, h2, h3⟩ => ⟨a, l, c, h1, NatS.fit (k := 2) h2 (Nat.lt_of_lt_of_le hn (by decide)) (by decide), h3⟩
theorem add_s (a b : Option Addr) (len cap lenb capb n m : Nat) (w : World) (hn : NatS w a len n) (hm : NatS w b lenb m) (hlt : n + m < W ^ 1000) :
    Calls Tryz.prog 81 #[.agg #[.slice a len cap], .agg #[.slice b lenb capb]] w (RetS (n + m) w) :=
  (add_any a b len cap lenb capb n m w hn.1 hm.1 (by have := hn.2; omega) (by have := hm.2; omega)).mono fun e w' ⟨a, l, c, h1, h2, h3⟩ => ⟨a, l, c, h1, NatS.fit h2 hlt (Nat.le_refl _), h3⟩
theorem mul_s (a b : Option Addr) (len cap lenb capb n m : Nat) (w : World) (hn : NatS w a len n) (hm : NatS w b lenb m) (hlt : n * m < W ^ 1000) :
    Calls Tryz.prog 91 #[.agg #[.slice a len cap], .agg #[.slice b lenb capb]] w (RetS (n * m) w) :=
  (mul_any a b len cap lenb capb n m w hn.1 hm.1 (by have := hn.2; omega) (by have := hm.2; omega)).mono fun e w' ⟨a, l, c, h1, h2, h3⟩ => ⟨a, l, c, h1, NatS.fit h2 hlt (Nat.le_refl _), h3⟩
theorem sub_s (a b : Option Addr) (len cap lenb capb n m : Nat) (w : World) (hn : NatS w a len n) (hm : NatS w b lenb m) :
    Calls Tryz.prog 86 #[.agg #[.slice a len cap], .agg #[.slice b lenb capb]] w fun e w' => ∃ ra rl rc, e = .returned (.tuple #[.agg #[.slice ra rl rc], .bool (decide (m ≤ n))]) ∧ NatS w' ra rl (n - m) ∧ Below w.heap.size w w' :=
  (sub_any a b len cap lenb capb n m w hn.1 hm.1 (by have := hn.2; omega) (by have := hm.2; omega)).mono fun e w' ⟨a, l, c, h1, h2, h3⟩ => ⟨a, l, c, h1, ⟨h2, by have := h2.len_le hn.1 (Nat.sub_le _ _); have := hn.2; omega⟩, h3⟩
theorem div_s (a b : Option Addr) (len cap lenb capb n m : Nat) (w : World) (hn : NatS w a len n) (hm : NatS w b lenb m) (h0 : m ≠ 0) :
    Calls Tryz.prog 67 #[.agg #[.slice a len cap], .agg #[.slice b lenb capb]] w fun e w' => ∃ ra rl rc sa sl sc, e = .returned (.tuple #[.agg #[.slice ra rl rc], .agg #[.slice sa sl sc], .int .i64 0]) ∧
      NatS w' ra rl (n / m) ∧ NatS w' sa sl (n % m) ∧ Below w.heap.size w w' := by
  have := div_any a b len cap lenb capb n m w hn.1 hm.1 (by have := hn.2; omega) (by have := hm.2; omega)
  unfold DivPost at this
  rw [if_neg h0, if_neg h0] at this
  refine this.mono fun e w' ⟨ra, rl, rc, sa, sl, sc, h1, h2, h3, h4⟩ => ⟨ra, rl, rc, sa, sl, sc, h1, ⟨h2, ?_⟩, ⟨h3, ?_⟩, h4⟩
  · have := h2.len_le hn.1 (Nat.div_le_self _ _); have := hn.2; omega
  · have := h3.len_le hm.1 (Nat.le_of_lt (Nat.mod_lt _ (by omega))); have := hm.2; omega
theorem gcd_s (a b : Option Addr) (len cap lenb capb n m : Nat) (w : World) (hn : NatS w a len n) (hm : NatS w b lenb m) (h0 : 0 < m) :
    Calls Tryz.prog 153 #[.agg #[.slice a len cap], .agg #[.slice b lenb capb]] w (RetS (Nat.gcd n m) w) :=
  (gcd_any a b len cap lenb capb n m w hn.1 hm.1 (by have := hn.2; omega) (by have := hm.2; omega)).mono fun e w' ⟨a, l, c, h1, h2, h3⟩ => ⟨a, l, c, h1, ⟨h2, by have := h2.len_le hm.1 (Nat.gcd_le_right _ h0); have := hm.2; omega⟩, h3⟩
theorem cmp_s (a b : Option Addr) (len cap lenb capb n m : Nat) (w : World) (hn : NatS w a len n) (hm : NatS w b lenb m) :
    Calls Tryz.prog 31 #[.agg #[.slice a len cap], .agg #[.slice b lenb capb]] w fun e w' => e = .returned (.int .i64 (cmpNat n m)) ∧ Below w.heap.size w w' :=
  cmp_any a b len cap lenb capb n m w hn.1 hm.1 (by have := hn.2; omega) (by have := hm.2; omega)
theorem zero_s (a : Option Addr) (len cap n : Nat) (w : World) (h : NatS w a len n) :
    Calls Tryz.prog 18 #[.agg #[.slice a len cap]] w fun e w' => e = .returned (.bool (n == 0)) ∧ Below w.heap.size w w' := zero_any a len cap n w h.1
theorem of_s (r m : Nat) (a : Option Addr) (len cap n : Nat) (w : World) (h : RingAt w r m) (hn : NatS w a len n) :
    Calls Tryz.prog 25 #[.pointer (some ⟨r, 0, none⟩), .agg #[.slice a len cap]] w (RetS (n % m) w) := of_any r m a len cap n w h hn.1 (by have := hn.2; omega)
end Go.Proofs.YthefednendgclaaGreat
/-
  What a walk over numbers knows, with rows: boxes of its own, each with a number; rows of its own, each with numbers; facts that stay while only such are written.
-/
namespace Go.Proofs.YthefednendgclaaGreat
open Go Go.RowKit Sac

/-! ### Rows of numbers that are owned -/
def NatsOwn (w : World) (base : Nat) (v : Value) (ns : List Nat) : Prop := ∃ xs : List Value, w.ownsRow base 36 1 v ns.length xs ∧ ∀ i, i < ns.length → ∃ (x : Option Addr) (l c : Nat), xs[i]? = some (.slice x l c) ∧ NatS w x l (ns.getD i 0)
theorem NatsOwn.nil (w : World) (base : Nat) : NatsOwn w base (.slice none 0 0) [] := ⟨[], World.ownsRow_nil _ _ _ _, fun i hi => by simp at hi⟩
theorem NatsOwn.lt {w : World} {base : Nat} {v : Value} {ns : List Nat} (h : NatsOwn w base v ns) {k : Nat} (hk : v.ownBlock = some k) : base ≤ k ∧ k < w.heap.size := by
  obtain ⟨xs, ho, _⟩ := h
  exact ho.lt k hk
theorem NatsOwn.form {w : World} {base : Nat} {v : Value} {ns : List Nat} (h : NatsOwn w base v ns) : ∃ (a : Option Addr) (cap : Nat), v = .slice a ns.length cap ∧ ns.length ≤ cap ∧ (cap : Int) ≤ 9223372036854775807 ∧ NatsAt w a ns ∧ (ns ≠ [] → ∃ g, a = some ⟨g, 0, none⟩ ∧ v.ownBlock = some g) := by
  obtain ⟨xs, ho, hv⟩ := h
  obtain ⟨hx, ⟨rfl, h0, h1⟩ | ⟨g, cap, rest, rfl, hb, hB, hn, hc, hl⟩⟩ := own_elim ho
  · have : ns = [] := List.eq_nil_of_length_eq_zero h0
    subst this
    exact ⟨none, 0, rfl, Nat.le_refl _, by decide, NatsAt.nil _ _, fun h => absurd rfl h⟩
  · refine ⟨some ⟨g, 0, none⟩, cap, rfl, hn, by unfold maxLen at hc; omega, ⟨xs, by omega, Rd.of_own ho, hv⟩, fun _ => ⟨g, rfl, rfl⟩⟩
theorem NatsOwn.ety {w : World} {base : Nat} {v : Value} {ns : List Nat} (h : NatsOwn w base v ns) {k : Nat} (hk : v.ownBlock = some k) : ∃ cs, w.heap[k]? = some (.cells cs 36 (0, 0)) := by
  obtain ⟨xs, ho, hv⟩ := h
  obtain ⟨hx, ⟨rfl, h0, h1⟩ | ⟨g, cap, rest, rfl, hb, hB, hn, hc, hl⟩⟩ := own_elim ho
  · cases hk
  · injection hk with hk
    subst hk
    exact ⟨_, hB⟩
theorem NatsOwn.base {w : World} {b b' : Nat} {v : Value} {ns : List Nat} (h : NatsOwn w b v ns) (hb : b' ≤ b) : NatsOwn w b' v ns := by
  obtain ⟨xs, ⟨h1, h2⟩, hv⟩ := h
  refine ⟨xs, ⟨h1, ?_⟩, hv⟩
  rcases h2 with h2 | ⟨g, cap, cur, e1, e2, e3⟩
  · exact .inl h2
  · exact .inr ⟨g, cap, cur, e1, by omega, e3⟩
theorem NatsOwn.kt {s : Nat} {w w' : World} {base : Nat} {v : Value} {ns : List Nat} (h : NatsOwn w base v ns) (k : KT s 36 w w') (hs : ∀ j, v.ownBlock = some j → w'.heap[j]? = w.heap[j]?) : NatsOwn w' base v ns := by
  obtain ⟨xs, ⟨h1, h2⟩, hv⟩ := h
  refine ⟨xs, ⟨h1, ?_⟩, fun i hi => ?_⟩
  · rcases h2 with h2 | ⟨g, cap, cur, e1, e2, e3, e4⟩
    · exact .inl h2
    · exact .inr ⟨g, cap, cur, e1, e2, (hs g (by rw [e1]; rfl)).trans e3, e4⟩
  · obtain ⟨x, l, c, h3, h4⟩ := hv i hi
    exact ⟨x, l, c, h3, h4.kt (by decide) k⟩
/-- Cell j of it. -/
theorem NatsOwn.get {w : World} {base : Nat} {g n cap : Nat} {ns : List Nat} (h : NatsOwn w base (.slice (some ⟨g, 0, none⟩) n cap) ns) {j : Nat} (hj : j < ns.length) :
    ∃ (x : Option Addr) (l c : Nat), w.cell? ⟨g, j, none⟩ = some (.slice x l c) ∧ w.frozen? ⟨g, j, none⟩ = false ∧ NatS w x l (ns.getD j 0) := by
  obtain ⟨xs, ho, hv⟩ := h
  obtain ⟨x, l, c, h3, h4⟩ := hv j hj
  obtain ⟨hx, ⟨h0, _⟩ | ⟨g', cap', rest, e, hb, hB, hn, hc, hl⟩⟩ := own_elim ho
  · cases h0
  · injection e with e1 e2 e3
    injection e1 with e1
    injection e1 with e1
    subst e1
    refine ⟨x, l, c, ?_, hB.frozen _, h4⟩
    rw [hB.cell, List.getElem?_append_left (by omega)]; exact h3
/-- A number put into cell j. -/
theorem NatsOwn.set {w : World} {base : Nat} {g n cap : Nat} {ns : List Nat} (h : NatsOwn w base (.slice (some ⟨g, 0, none⟩) n cap) ns) {j : Nat} (hj : j < ns.length) {x : Option Addr} {l c m : Nat} (hm : NatS w x l m) :
    NatsOwn (w.setCell ⟨g, j, none⟩ (.slice x l c)) base (.slice (some ⟨g, 0, none⟩) n cap) (ns.set j m) := by
  obtain ⟨xs, ho, hv⟩ := h
  obtain ⟨hx, ⟨h0, _⟩ | ⟨g', cap', rest, e, hb, hB, hn, hc, hl⟩⟩ := own_elim ho
  · cases h0
  · injection e with e1 e2 e3
    injection e1 with e1
    injection e1 with e1
    subst e1 e2 e3
    have hB' := hB.set j (.slice x l c)
    rw [List.set_append_left _ _ (by omega)] at hB'
    refine ⟨xs.set j (.slice x l c), ?_, fun i hi => ?_⟩
    · rw [List.length_set]
      exact own_intro hb hB' hn hc (by simpa using hl) (by simpa using hx)
    · rw [List.length_set] at hi
      by_cases hij : j = i
      · subst hij
        refine ⟨x, l, c, by rw [List.getElem?_set_self (by omega)], ?_⟩
        have : (ns.set j m).getD j 0 = m := by simp [List.getD_eq_getElem?_getD, hj]
        rw [this]
        exact hm.set hB j _
      · obtain ⟨y, l', c', h3, h4⟩ := hv i hi
        refine ⟨y, l', c', by rw [List.getElem?_set_ne hij]; exact h3, ?_⟩
        have : (ns.set j m).getD i 0 = ns.getD i 0 := by simp [List.getD_eq_getElem?_getD, List.getElem?_set_ne hij]
        rw [this]
        exact h4.set hB j _
/-- A row that is new, with one number. -/
theorem NatsOwn.lit {w : World} {x : Option Addr} {l c m : Nat} (base k : Nat) (hk : k = w.heap.size) (hb : base ≤ k) (hm : NatS w x l m) : NatsOwn (w.alloc (.cells #[.slice x l c] 36)) base (.slice (some ⟨k, 0, none⟩) 1 1) [m] := by
  have hB := Blk.new' w [.slice x l c] 36 k hk
  refine ⟨[.slice x l c], own_intro hb (rest := []) hB (Nat.le_refl 1) (by decide) rfl rfl, fun i hi => ?_⟩
  obtain rfl : i = 0 := by simp at hi; omega
  exact ⟨x, l, c, rfl, hm.below ((Below.refl _ w).alloc (Nat.le_refl _) _)⟩

theorem Tryz.infoNat : (Tryz.prog.info? 36).map (fun i => (i.zero, i.size, i.bytes)) = some (some (.agg #[.slice none 0 0]), 1, 24) := by kernel_rfl

/-- One number more. -/
theorem append_nat (w : World) (base : Nat) (ty : TypeId) (v : Value) (ns : List Nat) (hown : NatsOwn w base v ns) (ad : Addr) (c n : Nat) (xa : Option Addr) (xl xc : Nat) (hc : w.cell? ad = some (.slice xa xl xc)) (hn : NatS w xa xl n) (hlen : ns.length ≤ 100000) (hbase : base ≤ w.heap.size) :
    ∃ v' w', (Builtin.append_ #[32, 32] ty #[v, .slice (some ad) 1 c]).run Tryz.prog w = .ok v' w' ∧ NatsOwn w' base v' (ns ++ [n]) ∧ w.grownBy w' v.ownBlock ∧ (∀ k, v'.ownBlock = some k → v.ownBlock = some k ∨ w.heap.size ≤ k) := by
  obtain ⟨i, hi, hz1, hz2, hz3⟩ := info_parts Tryz.infoNat
  obtain ⟨xs, ho, hv⟩ := hown
  have hx : xs.length = ns.length := by have := ho.1; omega
  obtain ⟨v', w', hr, ho', hg, hf⟩ := append_own (P := Tryz.prog) w base 32 ty 36 i _ 1 24 Tryz.underlying32 hi hz1 hz2 hz3 rfl (by decide) v ns.length xs ho ad 1 c [.slice xa xl xc] rfl
    (fun j u hj => by
      rcases j with _ | j
      · obtain rfl : Value.slice xa xl xc = u := by simpa using hj
        show w.cell? (ad.add 0) = _
        unfold Addr.add; simpa using hc
      · simp at hj) (fun u hu => by rw [List.mem_singleton.1 hu]; rfl) (by unfold maxLen; omega) (by omega) hbase
  refine ⟨v', w', hr, ⟨xs ++ [.slice xa xl xc], by simpa using ho', fun j hj => ?_⟩, hg, hf⟩
  have hst : ∀ {a : Option Addr} {l m : Nat}, NatS w a l m → NatS w' a l m := by
    intro a l m h
    obtain ⟨⟨ll, h1, h2, h3, h4, h5⟩, h6⟩ := h
    refine ⟨⟨ll, h1, h2, h3, h4, h5.same fun k hk => hg.block k hk.lt ?_⟩, h6⟩
    intro hrow
    obtain ⟨cs, hcs⟩ := NatsOwn.ety ⟨xs, ho, hv⟩ hrow.symm
    obtain ⟨cs', fr, hk⟩ := hk
    rw [hcs] at hk
    injection hk with hk
    injection hk with _ he _
    exact absurd he (by decide)
  rw [List.length_append, List.length_singleton] at hj
  rcases Nat.lt_or_ge j ns.length with h | h
  · obtain ⟨x, l, c', h3, h4⟩ := hv j h
    refine ⟨x, l, c', by rw [List.getElem?_append_left (by omega)]; exact h3, ?_⟩
    rw [show (ns ++ [n]).getD j 0 = ns.getD j 0 by simp [List.getD_eq_getElem?_getD, List.getElem?_append_left h]]
    exact hst h4
  · obtain rfl : j = ns.length := by omega
    refine ⟨xa, xl, xc, by rw [← hx, List.getElem?_append_right (Nat.le_refl _), Nat.sub_self]; rfl, ?_⟩
    rw [show (ns ++ [n]).getD ns.length 0 = n by simp [List.getD_eq_getElem?_getD]]
    exact hst hn

theorem wpList_append_nat (w : World) {ops : Array Oper} {rest : List Oper} {o : Oper} {a : Act} {Q : Exit → Act → World → Prop} (hg : o.guard = none) (s x : Operand)
    (hop : o.op = Op.call { callee := Callee.builtin Builtin.append, args := #[s, x], argTypes := #[32, 32] })
    (base : Nat) (v : Value) (ns : List Nat) (hs : a.eval s = v) (hown : NatsOwn w base v ns) (ad : Addr) (c n : Nat) (xa : Option Addr) (xl xc : Nat) (hx : a.eval x = .slice (some ad) 1 c) (hc : w.cell? ad = some (.slice xa xl xc)) (hn : NatS w xa xl n)
    (hlen : ns.length ≤ 100000) (hbase : base ≤ w.heap.size)
    (h : ∀ v' w', NatsOwn w' base v' (ns ++ [n]) → w.grownBy w' v.ownBlock → (∀ k, v'.ownBlock = some k → v.ownBlock = some k ∨ w.heap.size ≤ k) → wpList Tryz.prog ops Q rest (a.put o.dst v') w') :
    wpList Tryz.prog ops Q (o :: rest) a w := by
  refine wpList_plain hg fun K hK' => ?_
  obtain ⟨v', w', hr, h1, h2, h3⟩ := append_nat w base o.type v ns hown ad c n xa xl xc hc hn hlen hbase
  unfold Oper.wp execOp
  simp only [hop, resolve, invoke, builtin, Sem.run_bind, Sem.run_pure, Result.andThen_ok, List.map_toArray, List.map_cons, List.map_nil, hs, hx, hr]
  exact hK' _ _ (h v' w' h1 h2 h3)
theorem step_append_nat {ops : Array Oper} {o : Oper} {a : Act} {w : World} {K : Act → World → Prop} {Q : Exit → Act → World → Prop} {E : Prop} (hg : o.guard = none) (s x : Operand)
    (hop : o.op = Op.call { callee := Callee.builtin Builtin.append, args := #[s, x], argTypes := #[32, 32] })
    (base : Nat) (v : Value) (ns : List Nat) (hs : a.eval s = v) (hown : NatsOwn w base v ns) (ad : Addr) (c n : Nat) (xa : Option Addr) (xl xc : Nat) (hx : a.eval x = .slice (some ad) 1 c) (hc : w.cell? ad = some (.slice xa xl xc)) (hn : NatS w xa xl n)
    (hlen : ns.length ≤ 100000) (hbase : base ≤ w.heap.size)
    (h : ∀ v' w', NatsOwn w' base v' (ns ++ [n]) → w.grownBy w' v.ownBlock → (∀ k, v'.ownBlock = some k → v.ownBlock = some k ∨ w.heap.size ≤ k) → K (a.put o.dst v') w') :
    if Region.wanted o (yielded ops a.tmps) = true then Oper.wp Tryz.prog o a w K Q else E := by
  rw [if_pos (by simp [Region.wanted, hg])]
  obtain ⟨v', w', hr, h1, h2, h3⟩ := append_nat w base o.type v ns hown ad c n xa xl xc hc hn hlen hbase
  unfold Oper.wp execOp
  simp only [hop, resolve, invoke, builtin, Sem.run_bind, Sem.run_pure, Result.andThen_ok, List.map_toArray, List.map_cons, List.map_nil, hs, hx, hr]
  exact h v' w' h1 h2 h3

/-- Numbers more. -/
theorem append_nats (w : World) (base : Nat) (ty : TypeId) (v : Value) (ns : List Nat) (hown : NatsOwn w base v ns) (ad : Addr) (m c : Nat) (ms : List Nat) (hm : ms.length = m) (hat : NatsAt w (some ad) ms) (hlen : ns.length + m ≤ 100000) (hbase : base ≤ w.heap.size) :
    ∃ v' w', (Builtin.append_ #[32, 32] ty #[v, .slice (some ad) m c]).run Tryz.prog w = .ok v' w' ∧ NatsOwn w' base v' (ns ++ ms) ∧ w.grownBy w' v.ownBlock ∧ (∀ k, v'.ownBlock = some k → v.ownBlock = some k ∨ w.heap.size ≤ k) := by
  obtain ⟨i, hi, hz1, hz2, hz3⟩ := info_parts Tryz.infoNat
  obtain ⟨xs, ho, hv⟩ := hown
  obtain ⟨ys, hyl, hyr, hyv⟩ := hat
  have hx : xs.length = ns.length := by have := ho.1; omega
  have hcell : ∀ j u, ys[j]? = some u → w.cell? (ad.add j) = some u := fun j u hj => by
    obtain ⟨ad', h1, _, h3⟩ := hyr (by rintro rfl; simp at hj)
    obtain rfl := Option.some.inj h1
    exact h3 j u hj
  obtain ⟨v', w', hr, ho', hg, hf⟩ := append_own (P := Tryz.prog) w base 32 ty 36 i _ 1 24 Tryz.underlying32 hi hz1 hz2 hz3 rfl (by decide) v ns.length xs ho ad m c ys (by omega) hcell
    (fun u hu => by
      obtain ⟨j, hj, rfl⟩ := List.getElem_of_mem hu
      obtain ⟨x, l, c', h3, _⟩ := hyv j (by omega)
      rw [List.getElem?_eq_getElem hj] at h3
      rw [Option.some.inj h3]; rfl) (by unfold maxLen; omega) (by omega) hbase
  have hst : ∀ {a : Option Addr} {l m : Nat}, NatS w a l m → NatS w' a l m := by
    intro a l m h
    obtain ⟨⟨ll, h1, h2, h3, h4, h5⟩, h6⟩ := h
    refine ⟨⟨ll, h1, h2, h3, h4, h5.same fun k hk => hg.block k hk.lt ?_⟩, h6⟩
    intro hrow
    obtain ⟨cs, hcs⟩ := NatsOwn.ety ⟨xs, ho, hv⟩ hrow.symm
    obtain ⟨cs', fr, hk⟩ := hk
    rw [hcs] at hk
    injection hk with hk
    injection hk with _ he _
    exact absurd he (by decide)
  refine ⟨v', w', hr, ⟨xs ++ ys, by rw [List.length_append, hm]; exact ho', fun j hj => ?_⟩, hg, hf⟩
  rw [List.length_append] at hj
  rcases Nat.lt_or_ge j ns.length with h | h
  · obtain ⟨x, l, c', h3, h4⟩ := hv j h
    refine ⟨x, l, c', by rw [List.getElem?_append_left (by omega)]; exact h3, ?_⟩
    rw [show (ns ++ ms).getD j 0 = ns.getD j 0 by simp [List.getD_eq_getElem?_getD, List.getElem?_append_left h]]
    exact hst h4
  · obtain ⟨x, l, c', h3, h4⟩ := hyv (j - ns.length) (by omega)
    refine ⟨x, l, c', by rw [List.getElem?_append_right (by omega), hx]; exact h3, ?_⟩
    rw [show (ns ++ ms).getD j 0 = ms.getD (j - ns.length) 0 by simp [List.getD_eq_getElem?_getD, List.getElem?_append_right h]]
    exact hst h4
theorem wpList_append_nats (w : World) {ops : Array Oper} {rest : List Oper} {o : Oper} {a : Act} {Q : Exit → Act → World → Prop} (hg : o.guard = none) (s x : Operand)
    (hop : o.op = Op.call { callee := Callee.builtin Builtin.append, args := #[s, x], argTypes := #[32, 32] })
    (base : Nat) (v : Value) (ns : List Nat) (hs : a.eval s = v) (hown : NatsOwn w base v ns) (ad : Addr) (m c : Nat) (ms : List Nat) (hx : a.eval x = .slice (some ad) m c) (hm : ms.length = m) (hat : NatsAt w (some ad) ms)
    (hlen : ns.length + m ≤ 100000) (hbase : base ≤ w.heap.size)
    (h : ∀ v' w', NatsOwn w' base v' (ns ++ ms) → w.grownBy w' v.ownBlock → (∀ k, v'.ownBlock = some k → v.ownBlock = some k ∨ w.heap.size ≤ k) → wpList Tryz.prog ops Q rest (a.put o.dst v') w') :
    wpList Tryz.prog ops Q (o :: rest) a w := by
  refine wpList_plain hg fun K hK' => ?_
  obtain ⟨v', w', hr, h1, h2, h3⟩ := append_nats w base o.type v ns hown ad m c ms hm hat hlen hbase
  unfold Oper.wp execOp
  simp only [hop, resolve, invoke, builtin, Sem.run_bind, Sem.run_pure, Result.andThen_ok, List.map_toArray, List.map_cons, List.map_nil, hs, hx, hr]
  exact hK' _ _ (h v' w' h1 h2 h3)
/-- A row that is new, with two numbers. -/
theorem NatsOwn.lit2 {w : World} {x y : Option Addr} {l c l' c' m m' : Nat} (base k : Nat) (hk : k = w.heap.size) (hb : base ≤ k) (hm : NatS w x l m) (hm' : NatS w y l' m') : NatsOwn (w.alloc (.cells #[.slice x l c, .slice y l' c'] 36)) base (.slice (some ⟨k, 0, none⟩) 2 2) [m, m'] := by
  have hB := Blk.new' w [.slice x l c, .slice y l' c'] 36 k hk
  have hbel := (Below.refl _ w).alloc (Nat.le_refl _) (.cells #[.slice x l c, .slice y l' c'] 36)
  refine ⟨[.slice x l c, .slice y l' c'], own_intro hb (rest := []) hB (Nat.le_refl 2) (by decide) rfl rfl, fun i hi => ?_⟩
  have hi' : i < 2 := hi
  match i, hi' with
  | 0, _ => exact ⟨x, l, c, rfl, hm.below hbel⟩
  | 1, _ => exact ⟨y, l', c', rfl, hm'.below hbel⟩

/-! ### The environment -/
/-- A thing of the walk's own: its block, and what is known of it. -/
abbrev Itm := Option Nat × (World → Prop)
def boxI (k n : Nat) : Itm := (some k, fun w => NB w k n)
def rowI (s : Nat) (v : Value) (ns : List Nat) : Itm := (v.ownBlock, fun w => NatsOwn w s v ns)
/-- What is known of it stays while its block is not written. -/
def StaysB (s : Nat) (i : Itm) : Prop := ∀ w w', KT s 36 w w' → (∀ k, i.1 = some k → w'.heap[k]? = w.heap[k]?) → i.2 w → i.2 w'
theorem boxI_stays (s k n : Nat) : StaysB s (boxI k n) := fun w w' h hk ⟨a, l, c, hB, hN⟩ => ⟨a, l, c, hB.same (hk k rfl), hN.kt (by decide) h⟩
theorem rowI_stays (s : Nat) (v : Value) (ns : List Nat) : StaysB s (rowI s v ns) := fun w w' h hk hr => NatsOwn.kt hr h hk

structure GE (w wr : World) (s : Nat) (L : List Itm) (F : List (World → Prop)) : Prop where
  bel : Below s w wr
  its : ∀ (i : Nat) (t : Itm), L[i]? = some t → t.2 wr ∧ (∀ k, t.1 = some k → s ≤ k ∧ k < wr.heap.size ∧ ∃ cs, wr.heap[k]? = some (.cells cs 36 (0, 0))) ∧ StaysB s t
  apart : ∀ (i j : Nat) (p q : Itm), L[i]? = some p → L[j]? = some q → i ≠ j → ∀ k, p.1 = some k → q.1 ≠ some k
  stay : ∀ (i : Nat) (P : World → Prop), F[i]? = some P → Stays s 36 P
  fact : ∀ (i : Nat) (P : World → Prop), F[i]? = some P → P wr
  base : s ≤ wr.heap.size

namespace GE
variable {w wr w' : World} {s : Nat} {L : List Itm} {F : List (World → Prop)}

theorem init (w : World) (s : Nat) (hs : s = w.heap.size) : GE w w s [] [] :=
  ⟨Below.refl _ _, fun i t h => by simp at h, fun i j p q h => by simp at h, fun i P h => by simp at h, fun i P h => by simp at h, by omega⟩
theorem has (h : GE w wr s L F) (i : Nat) {P : World → Prop} (hi : F[i]? = some P) : P wr := h.fact i P hi

theorem below (h : GE w wr s L F) (hb : Below wr.heap.size wr w') : GE w w' s L F := by
  refine ⟨h.bel.trans (hb.mono h.base), fun i t hi => ?_, h.apart, h.stay, fun i P hi => h.stay i P hi _ _ (KT.below h.base hb) (h.fact i P hi), Nat.le_trans h.base hb.size⟩
  obtain ⟨h1, h2, h3⟩ := h.its i t hi
  refine ⟨h3 _ _ (KT.below h.base hb) (fun k hk => hb.block k (h2 k hk).2.1) h1, fun k hk => ?_, h3⟩
  obtain ⟨e1, e2, cs, e3⟩ := h2 k hk
  exact ⟨e1, Nat.lt_of_lt_of_le e2 hb.size, cs, (hb.block k e2).trans e3⟩
theorem drew (h : GE w wr s L F) : GE w wr.drew s L F := h.below ⟨rfl, rfl, rfl, Nat.le_refl _, fun _ _ => rfl⟩

/-- A new thing, in a new block. -/
theorem push (h : GE w wr s L F) (hb : Below wr.heap.size wr w') (t : Itm) (ht : t.2 w') (hk : ∀ k, t.1 = some k → wr.heap.size ≤ k ∧ k < w'.heap.size ∧ ∃ cs, w'.heap[k]? = some (.cells cs 36 (0, 0))) (hs : StaysB s t) : GE w w' s (L ++ [t]) F := by
  have h1 := h.below hb
  refine ⟨h1.bel, ?_, ?_, h1.stay, h1.fact, h1.base⟩
  · intro i u hi
    rcases NE.key hi with ⟨_, hi⟩ | ⟨_, rfl⟩
    · exact h1.its i u hi
    · refine ⟨ht, fun k hk' => ?_, hs⟩
      obtain ⟨e1, e2, e3⟩ := hk k hk'
      have := h.base
      exact ⟨by omega, e2, e3⟩
  · intro i j p q hi hj hn k hp hq
    rcases NE.key hi with ⟨li, hi1⟩ | ⟨li, rfl⟩ <;> rcases NE.key hj with ⟨lj, hj1⟩ | ⟨lj, rfl⟩
    · exact h.apart i j p q hi1 hj1 hn k hp hq
    · have h2 := ((h.its i p hi1).2.1 k hp).2.1
      have := (hk k hq).1
      omega
    · have h2 := ((h.its j q hj1).2.1 k hq).2.1
      have := (hk k hp).1
      omega
    · omega
/-- A thing changed: only its block is written (and blocks may be new). -/
theorem upd (h : GE w wr s L F) (i : Nat) {t t' : Itm} (hi : L[i]? = some t) (hkt : KT s 36 wr w') (hbl : Below s wr w') (hoth : ∀ k, k < wr.heap.size → t.1 ≠ some k → w'.heap[k]? = wr.heap[k]?)
    (ht : t'.2 w') (hk : ∀ k, t'.1 = some k → (t.1 = some k ∨ wr.heap.size ≤ k) ∧ k < w'.heap.size ∧ ∃ cs, w'.heap[k]? = some (.cells cs 36 (0, 0))) (hs : StaysB s t') : GE w w' s (L.set i t') F := by
  have hl : i < L.length := (List.getElem?_eq_some_iff.1 hi).1
  refine ⟨h.bel.trans hbl, ?_, ?_, h.stay, fun j P hj => h.stay j P hj _ _ hkt (h.fact j P hj), Nat.le_trans h.base hkt.size⟩
  · intro j u hj
    rw [List.getElem?_set] at hj
    by_cases hij : i = j
    · rw [if_pos hij, if_pos hl] at hj
      injection hj with hj
      subst hj
      refine ⟨ht, fun k hk' => ?_, hs⟩
      obtain ⟨e1, e2, e3⟩ := hk k hk'
      refine ⟨?_, e2, e3⟩
      rcases e1 with e1 | e1
      · exact ((h.its i t hi).2.1 k e1).1
      · exact Nat.le_trans h.base e1
    · rw [if_neg hij] at hj
      obtain ⟨e1, e2, e3⟩ := h.its j u hj
      have hsame : ∀ k, u.1 = some k → w'.heap[k]? = wr.heap[k]? := fun k hk' => hoth k (e2 k hk').2.1 (fun hc => h.apart i j t u hi hj hij k hc hk')
      refine ⟨e3 _ _ hkt hsame e1, fun k hk' => ?_, e3⟩
      obtain ⟨a1, a2, cs, a3⟩ := e2 k hk'
      exact ⟨a1, Nat.lt_of_lt_of_le a2 hkt.size, cs, (hsame k hk').trans a3⟩
  · have key : ∀ x y p q, (L.set i t')[x]? = some p → (L.set i t')[y]? = some q → x ≠ y → x = i → ∀ k, p.1 = some k → q.1 ≠ some k := by
      intro x y p q hx hy hn hxi k hp hq
      subst hxi
      rw [List.getElem?_set, if_pos rfl, if_pos hl] at hx
      injection hx with hx
      subst hx
      rw [List.getElem?_set, if_neg hn] at hy
      obtain ⟨e1, _⟩ := hk k hp
      rcases e1 with e1 | e1
      · exact h.apart x y t q hi hy hn k e1 hq
      · have := ((h.its y q hy).2.1 k hq).2.1
        omega
    intro x y p q hx hy hn k hp hq
    by_cases hxi : x = i
    · exact key x y p q hx hy hn hxi k hp hq
    · by_cases hyi : y = i
      · exact key y x q p hy hx (Ne.symm hn) hyi k hq hp
      · rw [List.getElem?_set, if_neg (Ne.symm hxi)] at hx
        rw [List.getElem?_set, if_neg (Ne.symm hyi)] at hy
        exact h.apart x y p q hx hy hn k hp hq

theorem add (h : GE w wr s L F) {P : World → Prop} (hs : Stays s 36 P) (hP : P wr) : GE w wr s L (F ++ [P]) := by
  refine ⟨h.bel, h.its, h.apart, ?_, ?_, h.base⟩
  · intro i Q hi
    rcases NE.key hi with ⟨_, hi⟩ | ⟨_, rfl⟩
    · exact h.stay i Q hi
    · exact hs
  · intro i Q hi
    rcases NE.key hi with ⟨_, hi⟩ | ⟨_, rfl⟩
    · exact h.fact i Q hi
    · exact hP
/-- The first n things. -/
theorem take (h : GE w wr s L F) (n : Nat) : GE w wr s (L.take n) F := by
  have kk : ∀ (i : Nat) (t : Itm), (L.take n)[i]? = some t → L[i]? = some t := fun i t hi => by
    rw [List.getElem?_take] at hi
    split at hi
    · exact hi
    · cases hi
  exact ⟨h.bel, fun i t hi => h.its i t (kk _ _ hi), fun i j p q hi hj hn => h.apart i j p q (kk _ _ hi) (kk _ _ hj) hn, h.stay, h.fact, h.base⟩
/-- Some of the things, in another order. -/
theorem sub (h : GE w wr s L F) {L' : List Itm} (f : List Nat) (hL : ∀ i, i < L'.length → L'[i]? = L[f.getD i 0]?) (hf : ∀ i j, i < L'.length → j < L'.length → f.getD i 0 = f.getD j 0 → i = j) : GE w wr s L' F := by
  have kl : ∀ (i : Nat) (t : Itm), L'[i]? = some t → i < L'.length := fun i t hi => (List.getElem?_eq_some_iff.1 hi).1
  refine ⟨h.bel, ?_, ?_, h.stay, h.fact, h.base⟩
  · intro i t hi
    exact h.its _ t ((hL i (kl i _ hi)).symm.trans hi)
  · intro i j p q hi hj hn
    exact h.apart _ _ p q ((hL i (kl i _ hi)).symm.trans hi) ((hL j (kl j _ hj)).symm.trans hj) fun e => hn (hf i j (kl i _ hi) (kl j _ hj) e)

/-! boxes -/
theorem nb (h : GE w wr s L F) (i : Nat) {k n : Nat} (hi : L[i]? = some (boxI k n)) : NB wr k n := (h.its i _ hi).1
theorem lt (h : GE w wr s L F) (i : Nat) {k n : Nat} (hi : L[i]? = some (boxI k n)) : k < wr.heap.size := (h.nb i hi).lt
theorem ge (h : GE w wr s L F) (i : Nat) {k n : Nat} (hi : L[i]? = some (boxI k n)) : s ≤ k := ((h.its i _ hi).2.1 k rfl).1
theorem box (h : GE w wr s L F) (i : Nat) {k n : Nat} (hi : L[i]? = some (boxI k n)) : ∃ (a : Option Addr) (l c : Nat), wr.cell? ⟨k, 0, none⟩ = some (.slice a l c) ∧ wr.frozen? ⟨k, 0, none⟩ = false ∧ NatS wr a l n := (h.nb i hi).box
theorem get (h : GE w wr s L F) (i : Nat) {k n : Nat} (hi : L[i]? = some (boxI k n)) : ∃ (a : Option Addr) (l c : Nat), (∀ w', BB wr w' → w'.cell? ⟨k, 0, none⟩ = some (.slice a l c)) ∧ NatS wr a l n := (h.nb i hi).get
theorem ne (h : GE w wr s L F) (i j : Nat) {k n k' n' : Nat} (hi : L[i]? = some (boxI k n)) (hj : L[j]? = some (boxI k' n')) (hn : i ≠ j) : k ≠ k' := fun e => h.apart i j _ _ hi hj hn k rfl (by rw [e]; rfl)
theorem alloc (h : GE w wr s L F) {a : Option Addr} {l c n : Nat} (k : Nat) (hk : k = wr.heap.size) (hn : NatS wr a l n) : GE w (wr.alloc (.cells #[.slice a l c] 36)) s (L ++ [boxI k n]) F := by
  have hb : Below wr.heap.size wr (wr.alloc (.cells #[.slice a l c] 36)) := (Below.refl _ wr).alloc (Nat.le_refl _) _
  have hB := Blk.new' wr [.slice a l c] 36 k hk
  refine h.push hb _ ⟨a, l, c, hB, hn.below hb⟩ (fun j hj => ?_) (boxI_stays _ _ _)
  injection hj with hj
  subst hj
  exact ⟨by omega, hB.lt, _, hB⟩
theorem set (h : GE w wr s L F) (i : Nat) {k n₀ : Nat} (hi : L[i]? = some (boxI k n₀)) {a : Option Addr} {l c n : Nat} (hn : NatS wr a l n) : GE w (wr.setCell ⟨k, 0, none⟩ (.slice a l c)) s (L.set i (boxI k n)) F := by
  obtain ⟨a0, l0, c0, hB, hN0⟩ := h.nb i hi
  have hsk := h.ge i hi
  refine h.upd i hi (KT.set hB hsk 0 _) ((Below.refl _ _).setCell hsk _) (fun j hj hne => heap_setCell_other _ _ _ _ (fun e => hne (by show some k = some j; rw [e]))) ⟨a, l, c, hB.set 0 _, hn.set hB 0 _⟩ (fun j hj => ?_) (boxI_stays _ _ _)
  injection hj with hj
  subst hj
  exact ⟨.inl rfl, (hB.set 0 _).lt, _, hB.set 0 _⟩
theorem natSet (h : GE w wr s L F) (i : Nat) {k n₀ : Nat} (hi : L[i]? = some (boxI k n₀)) {a : Option Addr} {l n : Nat} (hn : NatS wr a l n) (v : Value) : NatS (wr.setCell ⟨k, 0, none⟩ v) a l n := by
  obtain ⟨a0, l0, c0, hB, _⟩ := h.nb i hi
  exact hn.set hB 0 _
/-! rows -/
theorem row (h : GE w wr s L F) (i : Nat) {v : Value} {ns : List Nat} (hi : L[i]? = some (rowI s v ns)) : NatsOwn wr s v ns := (h.its i _ hi).1
theorem pushRow (h : GE w wr s L F) (hb : Below wr.heap.size wr w') {v : Value} {ns : List Nat} (ho : NatsOwn w' wr.heap.size v ns) : GE w w' s (L ++ [rowI s v ns]) F :=
  h.push hb _ (ho.base h.base) (fun k hk => ⟨(ho.lt hk).1, (ho.lt hk).2, ho.ety hk⟩) (rowI_stays _ _ _)
theorem pushNil (h : GE w wr s L F) : GE w wr s (L ++ [rowI s (.slice none 0 0) []]) F := h.pushRow (Below.refl _ _) (NatsOwn.nil _ _)
theorem append (h : GE w wr s L F) (i : Nat) {v v' : Value} {ns ns' : List Nat} (hi : L[i]? = some (rowI s v ns)) (hg : wr.grownBy w' v.ownBlock) (hf : ∀ k, v'.ownBlock = some k → v.ownBlock = some k ∨ wr.heap.size ≤ k) (ho : NatsOwn w' s v' ns') : GE w w' s (L.set i (rowI s v' ns')) F := by
  have hr := h.row i hi
  refine h.upd i hi ⟨hg.size, fun k hk => hg.block k (Nat.lt_of_lt_of_le hk h.base) fun e => ?_, fun k hk hn => hg.block k hk fun e => ?_⟩ ⟨hg.os, hg.tape, hg.output, hg.size, fun k hk => hg.block k (Nat.lt_of_lt_of_le hk h.base) fun e => ?_⟩ (fun k hk hne => hg.block k hk fun e => hne e.symm) ho (fun k hk => ⟨hf k hk, (ho.lt hk).2, ho.ety hk⟩) (rowI_stays _ _ _)
  · have := (hr.lt e.symm).1; omega
  · obtain ⟨cs, hc⟩ := hr.ety e.symm
    exact hn _ _ hc
  · have := (hr.lt e.symm).1; omega
theorem setRow (h : GE w wr s L F) (i : Nat) {g n cap : Nat} {ns : List Nat} (hi : L[i]? = some (rowI s (.slice (some ⟨g, 0, none⟩) n cap) ns)) {j : Nat} (hj : j < ns.length) {x : Option Addr} {l c m : Nat} (hm : NatS wr x l m) :
    GE w (wr.setCell ⟨g, j, none⟩ (.slice x l c)) s (L.set i (rowI s (.slice (some ⟨g, 0, none⟩) n cap) (ns.set j m))) F := by
  have hr := h.row i hi
  obtain ⟨cs, hc⟩ := hr.ety (k := g) rfl
  have hsg := (hr.lt (k := g) rfl).1
  have hB : Blk wr g 36 cs.toList := by unfold Blk; rw [Array.toArray_toList]; exact hc
  have ho := hr.set hj hm (c := c)
  refine h.upd i hi (KT.set hB hsg j _) ((Below.refl _ _).setCell hsg _) (fun k hk hne => heap_setCell_other _ _ _ _ (fun e => hne (by show some g = some k; rw [e]))) ho (fun k hk => ?_) (rowI_stays _ _ _)
  injection hk with hk
  subst hk
  exact ⟨.inl rfl, (ho.lt rfl).2, ho.ety rfl⟩
end GE

/-- A box handed back. -/
theorem GE.ret {fn : Func} {p : Tmp} {tmps : Array Value} {w wr : World} {s i k n : Nat} {L : List Itm} {F : List (World → Prop)} (h : GE w wr s L F) (hs : s = w.heap.size) (hi : L[i]? = some (boxI k n))
    (hr : fn.results = #[.cell p 36]) (hp : tmps.getD p undef = .pointer (some ⟨k, 0, none⟩)) : bodyPost Tryz.prog fn (RetS n w) .ret { tmps, defers := [] } wr := by
  obtain ⟨a, l, c, hB, hN⟩ := h.nb i hi
  exact ret_nat hr hp hB ⟨a, l, c, rfl, hN, hs ▸ h.bel⟩
/-- A function that hands back a row of numbers of its own. -/
def RetRow (ns : List Nat) (w : World) (e : Ending) (w' : World) : Prop := ∃ v, e = .returned v ∧ NatsOwn w' w.heap.size v ns ∧ Below w.heap.size w w'
end Go.Proofs.YthefednendgclaaGreat
