/-
  QueueEach's two function values: what they do when they are told of one thing.
-/
import Derived.Test.YtdbpcogbednokaaAps
namespace Go.Proofs.Ytdbpcogbednokaa
open Go.RowKit

theorem info3 : (Try.prog.info? 3).map (fun i => (i.zero, i.size, i.bytes)) = some (some (.int .i64 0), 1, 8) := by kernel_rfl
/-- A row of ints of the walk's own. -/
abbrev NOwn (w : World) (base : Nat) (v : Value) (xs : List Int) : Prop := w.ownsRow base 3 1 v xs.length (xs.map (Value.int .i64))
theorem wpList_append_i (w : World) {ops : Array Oper} {rest : List Oper} {o : Oper} {a : Act} {Q : Exit → Act → World → Prop} (hg : o.guard = none) (s x : Operand)
    (hop : o.op = Op.call { callee := Callee.builtin Builtin.append, args := #[s, x], argTypes := #[22, 22] })
    (base : Nat) (v : Value) (xs : List Int) (hs : a.eval s = v) (hown : NOwn w base v xs) (q : Nat) (y : Int) (hx : a.eval x = .slice (some ⟨q, 0, none⟩) 1 1) (hq : Blk w q 3 [.int .i64 y])
    (hlen : xs.length ≤ 100000) (hbase : base ≤ w.heap.size)
    (h : ∀ v' w', NOwn w' base v' (xs ++ [y]) → w.grownBy w' v.ownBlock → wpList Try.prog ops Q rest (a.put o.dst v') w') :
    wpList Try.prog ops Q (o :: rest) a w := by
  refine wpList_plain hg fun K hK' => ?_
  obtain ⟨i, hi, hz1, hz2, hz3⟩ := info_parts info3
  obtain ⟨v', w', hr, ho', hgr, hf⟩ := append_own (P := Try.prog) w base 22 o.type 3 i _ 1 8 Try.underlying22 hi hz1 hz2 hz3 rfl (by decide) v xs.length (xs.map (Value.int .i64)) hown ⟨q, 0, none⟩ 1 1 [.int .i64 y] rfl
    hq.news (fun u hu => by
      simp at hu
      rw [hu]; rfl) (by unfold maxLen; omega) (by omega) hbase
  unfold Oper.wp execOp
  simp only [hop, resolve, invoke, builtin, Sem.run_bind, Sem.run_pure, Result.andThen_ok, List.map_toArray, List.map_cons, List.map_nil, hs, hx, hr]
  refine hK' _ _ (h v' w' ?_ hgr)
  show w'.ownsRow base 3 1 v' (xs ++ [y]).length ((xs ++ [y]).map _)
  rw [List.length_append, List.map_append]
  exact ho'
/-- Only the box and what lies from Z on may have changed. -/
abbrev Told (ba Z : Nat) : World → World → Prop := Only (fun k => k = ba ∨ Z ≤ k)
theorem told_append {w w1 : World} {ba Z : Nat} {v v' : Value} {xs ys : List Int} {o : Obj} (hb : Blk w ba 22 [v]) (hba : ba < Z) (hr : NOwn w Z v xs) (hg : (w.alloc o).grownBy w1 v.ownBlock) (ho : NOwn w1 Z v' ys) :
    Blk w1 ba 22 [v] ∧ Blk (w1.setCell ⟨ba, 0, none⟩ v') ba 22 [v'] ∧ NOwn (w1.setCell ⟨ba, 0, none⟩ v') Z v' ys ∧ Told ba Z w (w1.setCell ⟨ba, 0, none⟩ v') := by
  have hbl := hb.lt
  have hne : some ba ≠ v.ownBlock := fun e => by
    have := (hr.lt ba e.symm).1
    omega
  have hb1 : Blk w1 ba 22 [v] := (hb.alloc o).same (hg.block ba (by simp; omega) hne)
  refine ⟨hb1, hb1.set 0 v', own_only ho ((Only.refl (· = ba) w1).setCell (fun _ => rfl) _) (fun k hk e => ?_), ?_⟩
  · have := (ho.lt k hk).1
    omega
  · refine Only.setCell ((Only.alloc (Only.refl _ w) o).grown hg fun k hk _ => ?_) (fun _ => .inl rfl) _
    exact .inr (hr.lt k hk).1

theorem NOwn.form {w : World} {base : Nat} {v : Value} {xs : List Int} {m : Nat} (h : NOwn w base v xs) (hm : xs.length = m) : ∃ (a : Option Addr) (cap : Nat), v = .slice a m cap := by
  obtain ⟨_, ⟨rfl, h0, _⟩ | ⟨g, cap, rest, rfl, _⟩⟩ := own_elim h
  · exact ⟨none, 0, by rw [← hm, h0]⟩
  · exact ⟨_, cap, by rw [← hm]⟩

set_option maxHeartbeats 1000000 in
theorem tell1_any (ba Z : Nat) (v : Value) (xs : List Int) (d x : Int) (w : World) (hb : Blk w ba 22 [v]) (hba : ba < Z) (hz : Z ≤ w.heap.size) (hr : NOwn w Z v xs) (hlen : xs.length ≤ 100000) :
    Calls Try.prog 14 #[.int .i64 d, .int .i64 x, .pointer (some ⟨ba, 0, none⟩)] w fun e w' => e = .returned (.bool true) ∧ (∃ v', Blk w' ba 22 [v'] ∧ NOwn w' Z v' (xs ++ [x])) ∧ Told ba Z w w' := by
  have c0 := hb.cell 0
  simp only [List.getElem?_cons_zero] at c0
  go_enter Try.func14, Try.ntmps14
  go_wp2_with (refine wpList_append_i _ rfl (.tmp 6) (.tmp 8) rfl Z v xs rfl (hr.alloc _) w.heap.size x rfl (Blk.new w [.int .i64 x] 3) hlen (by rw [World.size_alloc]; omega) ?_; intro v' w1 hown hg; obtain ⟨ga, gc, rfl⟩ := hown.form (m := xs.length + 1) (by simp); obtain ⟨hb1, hb2, hr2, ho2⟩ := told_append hb hba hr hg hown; have d0 := hb1.cell 0; have f0 := hb1.frozen 0; simp only [List.getElem?_cons_zero] at d0)
  go_ret
  exact ⟨rfl, ⟨_, hb2, hr2⟩, ho2⟩

set_option maxRecDepth 100000 in
set_option maxHeartbeats 2000000 in
theorem tell2_any (bn ba bs Z : Nat) (n stop : Int) (v : Value) (xs : List Int) (d x : Int) (w : World) (hn : Blk w bn 3 [.int .i64 n]) (hs : Blk w bs 3 [.int .i64 stop]) (hb : Blk w ba 22 [v]) (hba : ba < Z) (hbn : bn < Z) (hbs : bs < Z) (h1 : bn ≠ ba) (h2 : bs ≠ ba) (h3 : bs ≠ bn) (hz : Z ≤ w.heap.size) (hr : NOwn w Z v xs) (hlen : xs.length ≤ 100000) (hnx : n = xs.length) :
    Calls Try.prog 15 #[.int .i64 d, .int .i64 x, .pointer (some ⟨bn, 0, none⟩), .pointer (some ⟨ba, 0, none⟩), .pointer (some ⟨bs, 0, none⟩)] w fun e w' => e = .returned (.bool (decide (((xs.length + 1 : Nat) : Int) < stop))) ∧ (∃ v', Blk w' ba 22 [v'] ∧ NOwn w' Z v' (xs ++ [x])) ∧ Blk w' bn 3 [.int .i64 (((xs.length + 1 : Nat) : Int))] ∧ Blk w' bs 3 [.int .i64 stop] ∧ Only (fun k => k = bn ∨ k = ba ∨ Z ≤ k) w w' := by
  obtain ⟨m, hm⟩ : ∃ m, xs.length = m := ⟨_, rfl⟩
  obtain ⟨M, hM⟩ : ∃ M, m + 1 = M := ⟨_, rfl⟩
  have hO : Only (· = bn) w (w.setCell ⟨bn, 0, none⟩ (.int .i64 (M : Int))) := (Only.refl (· = bn) w).setCell (fun _ => rfl) _
  have hn1 : Blk (w.setCell ⟨bn, 0, none⟩ (.int .i64 (M : Int))) bn 3 [.int .i64 (M : Int)] := hn.set 0 _
  have hb1 : Blk (w.setCell ⟨bn, 0, none⟩ (.int .i64 (M : Int))) ba 22 [v] := hb.only hO fun e => h1 e.symm
  have hs1 : Blk (w.setCell ⟨bn, 0, none⟩ (.int .i64 (M : Int))) bs 3 [.int .i64 stop] := hs.only hO h3
  have hr1 : NOwn (w.setCell ⟨bn, 0, none⟩ (.int .i64 (M : Int))) Z v xs := own_only hr hO fun k hk e => by have := (hr.lt k hk).1; omega
  have hz1 : Z ≤ (w.setCell ⟨bn, 0, none⟩ (.int .i64 (M : Int))).heap.size := Nat.le_trans hz hO.size
  have hwr : IntKind.i64.wrap (n + 1) = (M : Int) := by rw [IntKind.wrap_i64]; omega
  have c0 := hn.cell 0
  have f0 := hn.frozen 0
  have c1 := hb1.cell 0
  simp only [List.getElem?_cons_zero] at c0 c1
  rw [hm, hM]
  clear hb hs hr hn hnx
  go_enter Try.func15, Try.ntmps15
  go_wp2_with (refine wpList_append_i _ rfl (.tmp 10) (.tmp 12) rfl Z v xs rfl (hr1.alloc _) w.heap.size x rfl (Blk.new' (w.setCell ⟨bn, 0, none⟩ (.int .i64 (M : Int))) [.int .i64 x] 3 w.heap.size (by simp)) hlen (by rw [World.size_alloc]; omega) ?_; intro v' w2 hown hg; obtain ⟨ga, gc, rfl⟩ := hown.form (m := M) (by simp [hm, hM]); obtain ⟨hb2, hb3, hr2, ho2⟩ := told_append hb1 hba hr1 hg hown; have d0 := hb2.cell 0; have d1 := hb2.frozen 0; have d2 := hb3.cell 0; have e0 := (hs1.only ho2 (fun e => by omega)).cell 0; simp only [List.getElem?_cons_zero] at d0 d2 e0)
  go_ret
  exact ⟨rfl, ⟨_, hb3, hr2⟩, hn1.only ho2 (fun e => by omega), hs1.only ho2 (fun e => by omega), (hO.mono fun _ e => .inl e).trans (ho2.mono fun _ e => .inr e)⟩
end Go.Proofs.Ytdbpcogbednokaa
