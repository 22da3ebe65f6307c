/-
  The queue's methods on its items: Push, Pop.
-/
import Derived.Test.YtdbpcogbednokaaB
import Derived.Deep.RegionLaw
import Derived.Deep.RegionLawGrows
import Derived.Deep.AppendLies
import Derived.Lib.Hide
namespace Go.Proofs.Ytdbpcogbednokaa
open Go.RowKit

set_option maxHeartbeats 1000000 in
theorem pop_any (bq bi cap n : Nat) (L : List Item) (rest : List Value) (last : Int) (a : Item) (hn : L.length = n) (w : World)
    (_hne : bq ≠ bi) (hlen : (n : Int) ≤ 100000) (hcap : (n : Int) + 1 ≤ cap)
    (hQ : Blk w bq 54 [.slice (some ⟨bi, 0, none⟩) (n + 1 : Nat) cap, .int .i64 last])
    (hB : Blk w bi 58 (flat (L ++ [a]) ++ rest)) :
    Calls Try.prog 83 #[.pointer (some ⟨bq, 0, none⟩)] w fun e w' =>
      e = .returned (.iface 58 (.agg #[.int .i64 a.due, .int .i64 a.num, .int .i64 a.x])) ∧ Only (· = bq) w w' ∧ Blk w' bq 54 [.slice (some ⟨bi, 0, none⟩) n cap, .int .i64 last] := by
  have q0 := hQ.cell 0
  have qf := hQ.frozen 0
  simp only [List.getElem?_cons_zero] at q0
  have hql := hQ.lt
  have hbl := hB.lt
  obtain ⟨p0, p1, p2⟩ := flat_get (L ++ [a]) rest n a (by subst hn; simp)
  rw [← hB.cell] at p0 p1 p2
  have HQ : Hid (Blk w bq 54 [.slice (some ⟨bi, 0, none⟩) (n + 1 : Nat) cap, .int .i64 last]) := hQ
  clear hB hQ hn
  have hne' : ¬ (w.heap.size = bq) := by omega
  go_enter Try.func83, Try.ntmps83
  go_wp2_with fail
  go_ret
  exact ⟨rfl, ((Only.refl (· = bq) w).setCell (fun _ => rfl) _).alloc _, (HQ.out.set 0 _).alloc _⟩

theorem enc_one (a : Item) : ∀ u ∈ a.enc, u.oneCell' = true := by
  intro u hu
  simp only [Item.enc, List.mem_cons, List.not_mem_nil, or_false] at hu
  rcases hu with rfl | rfl | rfl <;> rfl

theorem info58 : (Try.prog.info? 58).map (fun i => (i.zero, i.size, i.bytes)) = some (some (.agg #[.int .i64 0, .int .i64 0, .int .i64 0]), 3, 24) := by kernel_rfl

/-- What (*items).Push leaves. -/
structure Pushed (bq n : Nat) (v : Value) (L : List Item) (last : Int) (a : Item) (w : World) (v' : Value) (w' : World) : Prop where
  blk : Blk w' bq 54 [v', .int .i64 last]
  own : w'.ownsRow 0 58 3 v' (n + 1) (flat (L ++ [a]))
  ne : ∀ k, v'.ownBlock = some k → k ≠ bq
  fresh : ∀ k, v'.ownBlock = some k → v.ownBlock = some k ∨ w.heap.size ≤ k
  only : Only (fun k => k = bq ∨ v.ownBlock = some k) w w'

def PushPost (bq n : Nat) (v : Value) (L : List Item) (last : Int) (a : Item) (w : World) (e : Ending) (w' : World) : Prop :=
  e = .returned (.tuple #[]) ∧ ∃ v', Pushed bq n v L last a w v' w'

theorem pushed_mk (bq n : Nat) (v : Value) (L : List Item) (last : Int) (a : Item) (w : World) (o1 o2 : Obj) (w1 : World) (g cap' : Nat) (rest' : List Value)
    (hql : bq < w.heap.size) (hn : L.length = n) (hne : ∀ k, v.ownBlock = some k → k ≠ bq)
    (hg1 : (((w.alloc o1).alloc o2).drew).grownBy w1 v.ownBlock) (HQ1 : Hid (Blk w1 bq 54 [v, .int .i64 last]))
    (hB1 : Blk w1 g 58 (flat L ++ a.enc ++ rest')) (hn1 : n + 1 ≤ cap') (hc1 : cap' ≤ maxLen) (hl1 : (flat L ++ a.enc ++ rest').length = cap' * 3)
    (hf : ∀ k, (Value.slice (some ⟨g, 0, none⟩) (n + 1) cap').ownBlock = some k → v.ownBlock = some k ∨ ((w.alloc o1).alloc o2).drew.heap.size ≤ k) :
    Pushed bq n v L last a w (.slice (some ⟨g, 0, none⟩) (n + 1 : Nat) cap') (w1.setCell ⟨bq, 0, none⟩ (.slice (some ⟨g, 0, none⟩) (n + 1) cap')) := by
  have hne2 : g ≠ bq := by
    rintro rfl
    have h1 := HQ1.out
    unfold Blk at h1 hB1
    rw [h1] at hB1
    injection hB1 with h2
    injection h2 with _ h3 _
    exact absurd h3 (by decide)
  have e1 : flat L ++ a.enc = flat (L ++ [a]) := by rw [flat_append]; simp [flat]
  refine ⟨HQ1.out.set 0 _, ?_, ?_, ?_, ?_⟩
  · rw [← e1]
    refine own_intro (Nat.zero_le _) (hB1.other _ _ hne2) hn1 hc1 hl1 ?_
    rw [e1, length_flat]; simp [hn]
  · intro k hk
    simp [Value.ownBlock] at hk
    subst hk; exact hne2
  · intro k hk
    rcases hf k hk with h | h
    · exact .inl h
    · exact .inr (by simp at h; omega)
  · refine Only.setCell ?_ (fun _ => .inl rfl) _
    refine Only.grown ((((Only.refl _ w).alloc o1).alloc o2).drew) hg1 ?_
    intro k hk _
    exact .inr hk

set_option maxRecDepth 100000 in
set_option maxHeartbeats 1000000 in
theorem push_any (bq n : Nat) (v : Value) (L : List Item) (last : Int) (a : Item) (hn : L.length = n) (w : World)
    (hlen : (n : Int) ≤ 100000)
    (hQ : Blk w bq 54 [v, .int .i64 last]) (hne : ∀ k, v.ownBlock = some k → k ≠ bq)
    (hown : w.ownsRow 0 58 3 v n (flat L)) :
    Calls Try.prog 84 #[.pointer (some ⟨bq, 0, none⟩), .iface 58 (.agg #[.int .i64 a.due, .int .i64 a.num, .int .i64 a.x])] w (PushPost bq n v L last a w) := by
  obtain ⟨i0, hi, hz0, hz1, hz2⟩ := info_parts info58
  have q0 := hQ.cell 0
  have qf := hQ.frozen 0
  simp only [List.getElem?_cons_zero] at q0
  have hql := hQ.lt
  have HQ : Hid (Blk w bq 54 [v, .int .i64 last]) := hQ
  have HN : Hid (L.length = n) := hn
  clear hQ hn
  have hne' : ¬ (w.heap.size = bq) := by omega
  have hta : ∀ (x : Value) (w : World), (Instr.typeAssert (.iface 58 x) 20 58 true).run Try.prog w = .ok (.tuple #[x, .bool true]) w := fun _ _ => by kernel_rfl
  go_enter Try.func84, Try.ntmps84
  go_wp2_with fail
  go_region_law (refine step_append_own rfl (.tmp 15) (.tmp 17) 52 rfl 0 58 i0 _ 3 24 Try.underlying52 hi hz0 hz1 hz2 rfl (by decide) v n (flat L) rfl ((hown.alloc _).alloc _) _ 1 1 a.enc rfl rfl (Blk.news (e := 58) (Blk.new' (w.alloc _) a.enc 58 _ (by simp)).drew) (enc_one a) (by unfold maxLen; omega) (by omega) (Nat.zero_le _) ?_; intro v' w1 hown1 hg1 hf; obtain ⟨h1, ⟨_, h0, _⟩ | ⟨g, cap', rest', rfl, _, hB1, hn1, hc1, hl1⟩⟩ := own_elim hown1; (exfalso; omega); have HQ1 : Hid (Blk w1 bq 54 [v, .int .i64 last]) := ((HQ.out.alloc _).alloc _).same (hg1.block bq (by simp; omega) (fun h => hne bq h.symm rfl)); have q1 : w1.cell? ⟨bq, 0, none⟩ = some v := HQ1.out.cell 0; have f1 := HQ1.out.frozen 0; have HF := Lib.hid hf; have HB1 := Lib.hid hB1; have HL1 := Lib.hid hl1; clear hf hB1 hl1 h1 hown1)
  all_goals
    go_end0
    exact ⟨rfl, _, pushed_mk bq n v L last a w _ _ w1 g cap' rest' hql HN.out hne hg1 HQ1 HB1.out hn1 hc1 HL1.out HF.out⟩

end Go.Proofs.Ytdbpcogbednokaa
