/-
  One core, and what VoteViews knows of it between its rounds.
-/
import Derived.Test.YtilhdelijdkjpaaVp
import Derived.Test.YtilhdelijdkjpaaGr
import Derived.Test.YtilhdelijdkjpaaLi
import Derived.Test.YtilhdelijdkjpaaFa
import Derived.Test.YtilhdelijdkjpaaMx
import Derived.DeepKeys4
set_option linter.unusedVariables false
set_option linter.unusedSimpArgs false
namespace Go.Proofs.Ytilhdelijdkjpaa
open Go Go.RowKit Go.Maps Sac

structure VwAt (n me slot : Int) (w0 : World) (b : Nat) (c : Core) (col : Colour) (wr : World) : Prop where
  tint : Tinted col wr
  core : CoreAt notV col 0 wr b c
  loc : Loc n me slot c
  pv : PvOk c
  fresh : Fresh0 w0 col wr
section
variable {n me slot : Int} {w0 : World} {b : Nat} {c c' : Core} {col col' : Colour} {wr wx : World}
theorem VwAt.moved (h : VwAt n me slot w0 b c col wr) (hb : Below wr.heap.size wr wx) : VwAt n me slot w0 b c col wx :=
  ⟨h.tint.below hb, h.core.below h.tint hb, h.loc, h.pv, h.fresh.moved (hb.mono h.fresh.below.size)⟩
theorem VwAt.step (h : VwAt n me slot w0 b c col wr) (hE : Ext (fun q => q.1 = 0) col wr col' wx) (hC : CoreAt notV col' 0 wx b c') (hl : Loc n me slot c') (hp : PvOk c') : VwAt n me slot w0 b c' col' wx :=
  ⟨hE.tint, hC, hl, hp, h.fresh.step hE⟩
theorem VwAt.bytes (h : VwAt n me slot w0 b c col wr) : Calls Try.prog 16 #[.pointer (some ⟨b, 0, none⟩)] wr fun e w' => ∃ v, e = .returned v ∧ RB w' v (bytesC c) ∧ Below wr.heap.size wr w' :=
  (bytes_any h.tint h.core h.loc.byOk).mono fun _ _ ⟨v, e, hb, h2⟩ => ⟨v, e, hb.rb, h2⟩
theorem VwAt.grown (h : VwAt n me slot w0 b c col wr) : Calls Try.prog 17 #[.pointer (some ⟨b, 0, none⟩)] wr fun e w' => e = .returned (grownV c) ∧ Below wr.heap.size wr w' := grown_any h.tint h.core h.loc.ok
end
/-- Where a block made in a region, and filled there, stands. -/
def B14 (W : World) (cs : List Value) (l : Nat → Bool) (g : Nat → Value) (w' : World) : Prop :=
  Below W.heap.size W w' ∧ (l 6 = true → ∃ k ks, g 17 = .pointer (some ⟨k, 0, none⟩) ∧ W.heap.size ≤ k ∧ Blk w' k 35 ks ∧ ks.length = 3 ∧ (l 8 = true → ks = cs))
theorem B14.keep {W w w' : World} {cs : List Value} {l : Nat → Bool} {g : Nat → Value} (h : B14 W cs l g w) (hb : Below w.heap.size w w') {k d : Nat} (h6 : 6 ≠ k) (h8 : 8 ≠ k) (hd : 17 ≠ d) (v : Value) : B14 W cs (setL l k) (updG g (some d) v) w' :=
  ⟨h.1.trans (hb.mono h.1.size), fun hl => by
    rw [setL_ne h6] at hl
    obtain ⟨q, ks, e, h1, h2, h3, h4⟩ := h.2 hl
    exact ⟨q, ks, by rw [updG_ne hd]; exact e, h1, h2.below hb h2.lt, h3, fun hl8 => h4 (by rwa [setL_ne h8] at hl8)⟩⟩
theorem B14.alloc {W w : World} {cs : List Value} {l : Nat → Bool} {g : Nat → Value} (h : B14 W cs l g w) (h8 : l 8 = false) : B14 W cs (setL l 6) (updG g (some 17) (.pointer (some ⟨w.heap.size, 0, none⟩))) (w.alloc (.cells #[.int .i64 0, .int .i64 0, .int .i64 0] 35)) :=
  ⟨h.1.alloc h.1.size _, fun _ => ⟨w.heap.size, _, updG_eq _ _ _, h.1.size, Blk.new w [.int .i64 0, .int .i64 0, .int .i64 0] _, rfl, fun hl => by rw [setL_ne (by decide), h8] at hl; cases hl⟩⟩
theorem B14.store {W w : World} {c0 c1 c2 : Value} {l : Nat → Bool} {g : Nat → Value} (h : B14 W [c0, c1, c2] l g w) (h6 : l 6 = true) : ∃ k ks, g 17 = .pointer (some ⟨k, 0, none⟩) ∧ Blk w k 35 ks ∧ ks.length = 3 ∧ B14 W [c0, c1, c2] (setL l 8) g (((w.setCell ⟨k, 0, none⟩ c0).setCell ⟨k, 1, none⟩ c1).setCell ⟨k, 2, none⟩ c2) := by
  obtain ⟨k, ks, e, h1, h2, h3, _⟩ := h.2 h6
  refine ⟨k, ks, e, h2, h3, ((h.1.setCell (p := ⟨k, 0, none⟩) h1 _).setCell (p := ⟨k, 1, none⟩) h1 _).setCell (p := ⟨k, 2, none⟩) h1 _, fun _ => ⟨k, _, e, h1, ((h2.set 0 c0).set 1 c1).set 2 c2, by simp [h3], fun _ => ?_⟩⟩
  match ks, h3 with
  | [a, b, c], _ => rfl
/-- Rows of bytes stay. -/
def KpR (w w' : World) : Prop := ∀ (v : Value) (bs : Bs), RB w v bs → RB w' v bs
theorem KpR.store {w : World} {k : Nat} {ks : List Value} (hB : Blk w k 35 ks) (c0 c1 c2 : Value) : KpR w (((w.setCell ⟨k, 0, none⟩ c0).setCell ⟨k, 1, none⟩ c1).setCell ⟨k, 2, none⟩ c2) := fun _ _ h =>
  ((h.boxed hB (by decide) 0 c0).boxed (hB.set 0 c0) (by decide) 1 c1).boxed ((hB.set 0 c0).set 1 c1) (by decide) 2 c2
def Fk.rb (bs : Bs) : Fk KpR := ⟨fun v w => RB w v bs, fun _ _ _ hb h => h.below hb, true, fun _ v _ _ hk h => hk v bs h⟩
/-- Behind a world. -/
def BB (w w' : World) : Prop := Below w.heap.size w w'
theorem BB.refl (w : World) : BB w w := Below.refl _ _
theorem BB.drew {w w' : World} (h : BB w w') : BB w w'.drew := Below.drew h
theorem BB.step {w w' w2 : World} (h : BB w w') (hb : Below w'.heap.size w' w2) : BB w w2 := Below.trans h (hb.mono h.size)
def arrV (a b c : Int) : Value := .agg #[.int .i64 a, .int .i64 b, .int .i64 c]
theorem arr_law : WideMaps.KeyLaw Try.prog 35 := deep_law_laid (m := 3) (by kernel_rfl) (by decide) (of_decide_eq_true (by kernel_rfl)) (by kernel_rfl) (by kernel_rfl)
set_option maxRecDepth 100000 in
theorem arr_key {i k v : Int} (hi : (Lit.int .i64 i).wf = true) (hk : (Lit.int .i64 k).wf = true) (hv : (Lit.int .i64 v).wf = true) : ∃ kl, keyOf Try.prog 35 (arrV i k v) = some kl := by
  have hkt : Try.prog.keyType 35 = true := by kernel_rfl
  have c3 : Try.prog.cellsOf 35 = 3 := by kernel_rfl
  have hf : (arrV i k v).formed Try.prog 35 = true := by
    unfold arrV Value.formed
    rw [Try.underlying35, c3]
    rfl
  obtain ⟨m, hm⟩ : ∃ m, Try.prog.types.size = m + 1 := ⟨Try.prog.types.size - 1, by kernel_rfl⟩
  have c1 : Try.prog.cellsOf 3 = 1 := by kernel_rfl
  have hint : ∀ x : Int, (Lit.int .i64 x).wf = true → Try.prog.keyLits (m + 1) 3 [.int .i64 x] = some [.int .i64 x] := fun x hx => by
    unfold Program.keyLits
    rw [Try.underlying3]
    simp [hx]
  unfold keyOf
  rw [Try.underlying35]
  dsimp only
  rw [hkt, hf, hm]
  unfold Program.keyLits
  rw [Try.underlying35]
  simp [c3, c1, arrV, Value.cells, hint _ hi, hint _ hk, hint _ hv, List.range, List.range.loop]
/-- Rows of three numbers are the same, or not. -/
theorem arr_eq {a b c d e f : Int} (w : World) (ha : (Lit.int .i64 a).wf = true) (hb : (Lit.int .i64 b).wf = true) (hc : (Lit.int .i64 c).wf = true) (hd : (Lit.int .i64 d).wf = true) (he : (Lit.int .i64 e).wf = true) (hf : (Lit.int .i64 f).wf = true) :
    (Op.equal 35 (arrV a b c) (arrV d e f)).run Try.prog w = .ok (decide (a = d ∧ b = e ∧ c = f)) w := by
  obtain ⟨lx, hx⟩ := arr_key ha hb hc
  obtain ⟨ly, hy⟩ := arr_key hd he hf
  obtain ⟨r, hr, hiff⟩ := run_equal_deep w (m := 3) (by decide) (k := 35) (by kernel_rfl) (by kernel_rfl) hx hy
  rw [hr]
  have : r = decide (a = d ∧ b = e ∧ c = f) := by
    by_cases h : a = d ∧ b = e ∧ c = f
    · obtain ⟨rfl, rfl, rfl⟩ := h
      rw [hx] at hy
      rw [hiff.2 (Option.some.inj hy)]
      simp
    · rw [decide_eq_false h]
      cases r with
      | false => rfl
      | true =>
        exfalso
        have e1 := hiff.1 rfl
        subst e1
        have e2 := arr_law.inj hx hy
        unfold arrV at e2
        exact h (by simpa using e2)
  rw [this]
theorem arr_op {x y : Value} {r : Bool} (w : World) (h : (Op.equal 35 x y).run Try.prog w = .ok r w) (hx : ∃ a, x = .agg a) (hy : ∃ a, y = .agg a) : (binOp .eql 35 x y).run Try.prog w = .ok (.bool r) w ∧ (binOp .neq 35 x y).run Try.prog w = .ok (.bool (!r)) w := by
  obtain ⟨a, rfl⟩ := hx
  obtain ⟨b, rfl⟩ := hy
  exact ⟨by simp [binOp, Sem.run_bind, h, Result.andThen], by simp [binOp, Sem.run_bind, h, Result.andThen]⟩
end Go.Proofs.Ytilhdelijdkjpaa
