/-
  Rows of numbers in memory; facts of a walk that stay.
-/
import Derived.Test.YthefednendgclaaGreatModA
import Derived.Test.YthefednendgclaaGreatEnv
set_option linter.unusedVariables false
set_option linter.unusedSimpArgs false
namespace Go.Proofs.YthefednendgclaaGreat
open Go Go.RowKit Sac

/-- The slice at a holds the numbers ns, one behind the other. -/
def NatsAt (w : World) (a : Option Addr) (ns : List Nat) : Prop := ∃ vs : List Value, vs.length = ns.length ∧ Rd w 36 a vs ∧ ∀ i, i < ns.length → ∃ x l c, vs[i]? = some (.slice x l c) ∧ NatS w x l (ns.getD i 0)
theorem NatsAt.get {w : World} {a : Option Addr} {ns : List Nat} (h : NatsAt w a ns) {k : Nat} (hk : k < ns.length) : ∃ ad x l c, a = some ad ∧ Ety w ad.block 36 ∧ w.cell? (ad.add k) = some (.slice x l c) ∧ NatS w x l (ns.getD k 0) := by
  obtain ⟨vs, hl, hr, hv⟩ := h
  obtain ⟨ad, h1, h2, h3⟩ := hr.at_ (k := k) (by omega)
  obtain ⟨x, l, c, h4, h5⟩ := hv k hk
  refine ⟨ad, x, l, c, h1, h2, ?_, h5⟩
  rw [h3, ← h4, List.getElem?_eq_getElem (by omega)]
theorem NatsAt.nil (w : World) (a : Option Addr) : NatsAt w a [] := ⟨[], rfl, Rd.nil _ _ _, fun i hi => by simp at hi⟩
theorem NatsAt.below {w w' : World} {a : Option Addr} {ns : List Nat} (h : NatsAt w a ns) (hb : Below w.heap.size w w') : NatsAt w' a ns := by
  obtain ⟨vs, hl, hr, hv⟩ := h
  refine ⟨vs, hl, hr.below hb, fun i hi => ?_⟩
  obtain ⟨x, l, c, h4, h5⟩ := hv i hi
  exact ⟨x, l, c, h4, h5.below hb⟩

/-- A row of numbers that lies below block B. -/
def NatsLow (B : Nat) (w : World) (a : Option Addr) (ns : List Nat) : Prop := NatsAt w a ns ∧ ∀ ad, a = some ad → ns ≠ [] → ad.block < B
theorem NatsAt.toLow {w : World} {a : Option Addr} {ns : List Nat} (h : NatsAt w a ns) : NatsLow w.heap.size w a ns := by
  refine ⟨h, fun ad ha hn => ?_⟩
  obtain ⟨ad', _, _, _, h1, h2, _⟩ := h.get (k := 0) (by cases ns with | nil => exact absurd rfl hn | cons _ _ => simp)
  rw [h1] at ha
  injection ha with ha
  exact ha ▸ h2.lt

theorem NatS.kt {B : Nat} {T : TypeId} {w w' : World} {a : Option Addr} {len n : Nat} (hT : 106 ≠ T) (h : NatS w a len n) (k : KT B T w w') : NatS w' a len n := by
  obtain ⟨⟨l, h1, h2, h3, h4, h5⟩, h6⟩ := h
  exact ⟨⟨l, h1, h2, h3, h4, k.rd hT h5⟩, h6⟩
theorem RingAt.kt {B : Nat} {T : TypeId} {w w' : World} {r m : Nat} (hT : 106 ≠ T) (hR : 121 ≠ T) (h : RingAt w r m) (k : KT B T w w') : RingAt w' r m := by
  obtain ⟨a, len, cap, h1, h2, h3⟩ := h
  exact ⟨a, len, cap, k.blk hR h1, h2.kt hT k, h3⟩
theorem NatsLow.kt {B B' : Nat} {T : TypeId} {w w' : World} {a : Option Addr} {ns : List Nat} (hT : 106 ≠ T) (h : NatsLow B' w a ns) (hB : B' ≤ B) (k : KT B T w w') : NatsLow B' w' a ns := by
  obtain ⟨⟨vs, hl, hr, hv⟩, hlow⟩ := h
  refine ⟨⟨vs, hl, ?_, fun i hi => ?_⟩, hlow⟩
  · intro hn
    obtain ⟨ad, h1, h2, h3⟩ := hr hn
    have hb : ad.block < B' := hlow ad h1 (by rintro rfl; exact hn (List.eq_nil_of_length_eq_zero hl))
    have hs := k.low ad.block (Nat.lt_of_lt_of_le hb hB)
    refine ⟨ad, h1, h2.same hs, fun j u hu => ?_⟩
    rw [World.cell?_of_block (w := w) (by rw [block_add]; exact hs)]
    exact h3 j u hu
  · obtain ⟨x, l, c, h4, h5⟩ := hv i hi
    exact ⟨x, l, c, h4, h5.kt hT k⟩

theorem natS_stays {B : Nat} {T : TypeId} {a : Option Addr} {len n : Nat} (hT : 106 ≠ T) : Stays B T (fun w => NatS w a len n) := fun _ _ k h => h.kt hT k
theorem ringAt_stays {B : Nat} {T : TypeId} {r m : Nat} (hT : 106 ≠ T) (hR : 121 ≠ T) : Stays B T (fun w => RingAt w r m) := fun _ _ k h => h.kt hT hR k
theorem natsLow_stays {B : Nat} {T : TypeId} {a : Option Addr} {ns : List Nat} (hT : 106 ≠ T) : Stays B T (fun w => NatsLow B w a ns) := fun _ _ k h => h.kt hT (Nat.le_refl _) k

theorem NatS.fit {w : World} {a : Option Addr} {len n k : Nat} (h : NatAt w a len n) (hn : n < W ^ k) (hk : k ≤ 1000) : NatS w a len n := ⟨h, by have := h.fit hn; omega⟩
end Go.Proofs.YthefednendgclaaGreat
