/-
  The law QueuePlays: what stands between two acts.
-/
import Derived.Test.YtdbpcogbednokaaDt
import Derived.Test.YtdbpcogbednokaaDf
set_option linter.unusedVariables false
set_option linter.unusedSimpArgs false
namespace Go.Proofs.Ytdbpcogbednokaa
open Go.RowKit

theorem QAt.narrow2 {F : Nat → Prop} {bq : Nat} {S : List (Int × Int)} {m : Nat} {w : World} (hQ : QAt F bq S m w) : QAt (fun k => F k ∧ k < w.heap.size) bq S m w := by
  obtain ⟨v, L, last, T, hR, h⟩ := hQ
  exact ⟨v, L, last, T, ⟨hR.blk, hR.own, hR.ne, ⟨⟨hR.mine.1, hR.blk.lt⟩, fun k hk => ⟨hR.mine.2 k hk, (hR.own.lt k hk).2⟩⟩, hR.heap⟩, h⟩

/-- Both queues: the program's, of the blocks F, and the document's, of others; all from B on. -/
structure BothF (F : Nat → Prop) (v : Value) (B bq bw : Nat) (S D : List (Int × Int)) (m : Nat) (w : World) : Prop where
  q : QAt F bq S m w
  d : DAt (fun k => ¬ F k ∧ B ≤ k) bw v D w
  lo : ∀ k, F k → B ≤ k ∧ k < w.heap.size
  sz : B ≤ w.heap.size

variable {F : Nat → Prop} {v : Value} {B bq bw m : Nat} {S D : List (Int × Int)} {w w' : World}

theorem DAt.only {G H : Nat → Prop} (h : DAt G bw v D w) (ho : Only H w w') (hg : ∀ k, G k → ¬ H k) : DAt G bw v D w' :=
  ⟨h.blk.only ho (hg _ h.mine.1), own_only h.own ho (fun k hk => hg k (h.mine.2 k hk)), h.ne, h.mine⟩

theorem BothF.below (h : BothF F v B bq bw S D m w) (hb : Below w.heap.size w w') : BothF F v B bq bw S D m w' :=
  ⟨h.q.only (Only.below (F := fun _ => False) hb) (fun _ _ h => h), h.d.only (Only.below (F := fun _ => False) hb) (fun _ _ h => h), fun k hk => ⟨(h.lo k hk).1, Nat.lt_of_lt_of_le (h.lo k hk).2 hb.size⟩, Nat.le_trans h.sz hb.size⟩

theorem BothF.put {d x : Int} (h : BothF F v B bq bw S D m w) (hp : PutOk F bq S m d x w w') : BothF (fun k => F k ∨ w.heap.size ≤ k ∧ k < w'.heap.size) v B bq bw (ins d x S) D (m + 1) w' ∧ Below B w w' := by
  obtain ⟨ho, hq⟩ := hp
  refine ⟨⟨hq.narrow2.mono (fun k hk => ?_), ?_, fun k hk => ?_, Nat.le_trans h.sz ho.size⟩, ho.toBelow h.sz (fun k hk => (h.lo k hk).1)⟩
  · rcases hk with ⟨h1 | h1, h2⟩
    · exact .inl h1
    · exact .inr ⟨h1, h2⟩
  · have hd := h.d.only ho (fun k hk => hk.1)
    refine ⟨hd.blk, hd.own, hd.ne, ⟨fun e => ?_, hd.mine.1.2⟩, fun k hk => ⟨fun e => ?_, (hd.mine.2 k hk).2⟩⟩
    · rcases e with e | e
      · exact hd.mine.1.1 e
      · have := h.d.blk.lt; omega
    · rcases e with e | e
      · exact (hd.mine.2 k hk).1 e
      · have := (h.d.own.lt k hk).2; omega
  · rcases hk with hk | hk
    · exact ⟨(h.lo k hk).1, Nat.lt_of_lt_of_le (h.lo k hk).2 ho.size⟩
    · exact ⟨Nat.le_trans h.sz hk.1, hk.2⟩

theorem BothF.take {S' : List (Int × Int)} (h : BothF F v B bq bw S D m w) (ho : Only F w w') (hq : QAt F bq S' m w') : BothF F v B bq bw S' D m w' ∧ Below B w w' :=
  ⟨⟨hq, h.d.only ho (fun k hk => hk.1), fun k hk => ⟨(h.lo k hk).1, Nat.lt_of_lt_of_le (h.lo k hk).2 ho.size⟩, Nat.le_trans h.sz ho.size⟩, ho.toBelow h.sz (fun k hk => (h.lo k hk).1)⟩

theorem BothF.doc {v' : Value} {D' : List (Int × Int)} (h : BothF F v B bq bw S D m w) (ho : Only (fun k => k = bw ∨ v.ownBlock = some k) w w') (hb : Blk w' bw 40 [v']) (hown : DOwn w' 0 v' D') (hf : ∀ k, v'.ownBlock = some k → v.ownBlock = some k ∨ w.heap.size ≤ k) :
    BothF F v' B bq bw S D' m w' ∧ Below B w w' := by
  refine ⟨⟨h.q.only ho (fun k hk e => ?_), ⟨hb, hown, fun k hk => ?_, h.d.mine.1, fun k hk => ?_⟩, fun k hk => ⟨(h.lo k hk).1, Nat.lt_of_lt_of_le (h.lo k hk).2 ho.size⟩, Nat.le_trans h.sz ho.size⟩, ho.toBelow h.sz (fun k hk => ?_)⟩
  · rcases e with rfl | e
    · exact h.d.mine.1.1 hk
    · exact (h.d.mine.2 k e).1 hk
  · rcases hf k hk with e | e
    · exact h.d.ne k e
    · have := h.d.blk.lt; omega
  · rcases hf k hk with e | e
    · exact h.d.mine.2 k e
    · refine ⟨fun hF => ?_, Nat.le_trans h.sz e⟩
      have := (h.lo k hF).2; omega
  · rcases hk with rfl | e
    · exact h.d.mine.1.2
    · exact (h.d.mine.2 k e).2

theorem BothF.step {v' : Value} {D' : List (Int × Int)} (h : BothF F v B bq bw S D m w) (hs : DStep bw v' D' w w') : BothF F v' B bq bw S D' m w' ∧ Below B w w' :=
  h.doc (hs.only.mono (fun k e => .inl e)) hs.blk hs.own (fun k hk => .inr (hs.fresh k hk))

theorem BothF.push {W : World} {e : Int × Int} {w6 : World} {a6 : Option Addr} {n6 c6 : Nat} (h : BothF F v B bq bw S D m w) (hW : Only (fun _ => False) w W) (hg : W.grownBy w6 v.ownBlock) (hown : w6.ownsRow 0 44 2 (.slice a6 n6 c6) n6 (enc2 D ++ enc2 [e])) (hn : n6 = D.length + 1)
    (hf : ∀ k, (Value.slice a6 n6 c6).ownBlock = some k → v.ownBlock = some k ∨ W.heap.size ≤ k) : BothF F (.slice a6 n6 c6) B bq bw S (D ++ [e]) m (w6.setCell ⟨bw, 0, none⟩ (.slice a6 n6 c6)) ∧ Below B w (w6.setCell ⟨bw, 0, none⟩ (.slice a6 n6 c6)) := by
  subst hn
  have hO : Only (fun k => v.ownBlock = some k) w w6 := (hW.mono (fun _ h => h.elim)).grown hg (fun k e _ => e)
  have hs := hW.size
  have hne : ∀ k, (Value.slice a6 (D.length + 1) c6).ownBlock = some k → k ≠ bw := fun k hk => by
    rcases hf k hk with e | e
    · exact h.d.ne k e
    · have := h.d.blk.lt; omega
  refine h.doc (Only.setCell (hO.mono (fun k e => .inr e)) (p := ⟨bw, 0, none⟩) (fun _ => .inl rfl) _) ((h.d.blk.only hO (fun e => h.d.ne bw e rfl)).set 0 _) ?_ (fun k hk => ?_)
  · show World.ownsRow _ 0 44 2 _ (D ++ [e]).length (enc2 (D ++ [e]))
    rw [List.length_append, enc2_append]
    exact own_only hown (Only.setCell (Only.refl (· = bw) w6) (p := ⟨bw, 0, none⟩) (fun _ => rfl) _) (fun k hk e => hne k hk e)
  · rcases hf k hk with e | e
    · exact .inl e
    · exact .inr (by omega)

theorem BothF.blk {k : Nat} {e : TypeId} {cs : List Value} {W : World} (ho : Only F w W) (hF : ¬ F k) (h : Blk w k e cs) : Blk W k e cs := h.only ho hF

set_option maxHeartbeats 400000 in
theorem each_nil (w : World) (f : Value) : Calls Try.prog 13 #[.pointer none, f] w fun e w' => e = .returned (.tuple #[]) ∧ w' = w := by
  go_enter Try.func13, Try.ntmps13
  go_wp2_with fail
  refine bodyPost_ret (results_none rfl _ _ _) rfl ?_
  exact ⟨rfl, rfl⟩

set_option maxHeartbeats 400000 in
theorem drop_nil (w : World) : Calls Try.prog 17 #[.pointer none, .nilFunc] w fun e w' => e = .returned (.int .i64 0) ∧ Below w.heap.size w w' := by
  go_enter Try.func17, Try.ntmps17
  go_wp2_with (go_at_call 12; refine (qlen_nil _).mono ?_; rintro e w2 ⟨rfl, rfl⟩)
  go_ret
  exact ⟨rfl, (Below.refl _ w).alloc (Nat.le_refl _) _⟩

/-- The acts that came in. -/
def Acts (w : World) (a : Option Addr) (len : Nat) (K U X : Nat → Int) : Prop :=
  len = 0 ∨ ∃ b off, a = some ⟨b, off, none⟩ ∧ b < w.heap.size ∧ ∀ i, i < len → w.cell? ⟨b, off + i * 3, none⟩ = some (.int .i64 (K i)) ∧ w.cell? ⟨b, off + i * 3 + 1, none⟩ = some (.int .i64 (U i)) ∧ w.cell? ⟨b, off + i * 3 + 2, none⟩ = some (.int .i64 (X i))

/-- When the next one is due: both queues say the same. -/
theorem dues_any (h : BothF F v B bq bw (sortS D) D m w) (hlen : (D.length : Int) ≤ 100000) : ∃ (dv : Int) (ok : Bool),
    Calls Try.prog 19 #[.pointer (some ⟨bq, 0, none⟩)] w (fun e w' => e = .returned (.tuple #[.int .i64 dv, .bool ok]) ∧ w = w') ∧
    Calls Try.prog 20 #[.pointer (some ⟨bw, 0, none⟩)] w (fun e w' => e = .returned (.tuple #[.int .i64 dv, .bool ok]) ∧ Below w.heap.size w w') := by
  obtain ⟨a, cap, rfl, hc, hbw, hD⟩ := h.d.read rfl
  by_cases hz : D = []
  · subst hz
    exact ⟨0, false, qdue_nil h.q, rdue_nil bw a cap w hc hbw⟩
  · obtain ⟨i, hi, hn⟩ := firstTo_next hz
    have hs := sortS_next D i hn
    have hq := h.q
    rw [hs] at hq
    refine ⟨(D.getD i default).1, true, qdue_cons (d := (D.getD i default).1) (x := (D.getD i default).2) hq, rdue_some bw a D.length cap D w rfl hlen (Nat.lt_of_le_of_lt (Nat.zero_le _) hn.1) hc hbw hD i hi hn.1 _ rfl⟩

end Go.Proofs.Ytdbpcogbednokaa
