/-
  Peers: a row of cores; votes that are told.
-/
import Derived.Test.YtilhdelijdkjpaaAc
set_option linter.unusedVariables false
set_option linter.unusedSimpArgs false
namespace Go.Proofs.Ytilhdelijdkjpaa
open Go Go.RowKit Go.Maps Sac

abbrev ptr (b : Nat) : Value := .pointer (some ⟨b, 0, none⟩)
/-- A row of pointers to cores. -/
abbrev POwn (w : World) (base : Nat) (v : Value) (bl : List Nat) : Prop := w.ownsRow base 26 1 v bl.length (bl.map ptr)
theorem Try.infoCoreP : (Try.prog.info? 26).map (fun i => (i.zero, i.size, i.bytes)) = some (some (.pointer none), 1, 8) := by kernel_rfl
theorem POwn.form {w : World} {base : Nat} {v : Value} {bl : List Nat} (h : POwn w base v bl) : ∃ (a : Option Addr) (cap : Nat), v = .slice a bl.length cap ∧ (bl.length : Int) ≤ cap ∧ (cap : Int) ≤ 9223372036854775807 := by
  obtain ⟨hx, ⟨rfl, h0, h1⟩ | ⟨g, cap, rest, rfl, hb, hB, hn, hc, hl⟩⟩ := own_elim h
  · exact ⟨none, 0, by rw [h0], by omega, by decide⟩
  · exact ⟨some ⟨g, 0, none⟩, cap, rfl, by omega, by unfold maxLen at hc; omega⟩
theorem POwn.at_ {w : World} {base : Nat} {v : Value} {bl : List Nat} (h : POwn w base v bl) {i : Nat} (hi : i < bl.length) : ∃ g cap, v = .slice (some ⟨g, 0, none⟩) bl.length cap ∧ w.cell? ⟨g, i, none⟩ = some (ptr bl[i]) := by
  obtain ⟨hx, ⟨rfl, h0, h1⟩ | ⟨g, cap, rest, rfl, hb, hB, hn, hc, hl⟩⟩ := own_elim h
  · omega
  · refine ⟨g, cap, rfl, ?_⟩
    rw [hB.cell, List.getElem?_append_left (by rw [List.length_map]; exact hi), List.getElem?_map, List.getElem?_eq_getElem hi]
    rfl
/-- One core more; what was the row's block still is a row of pointers. -/
theorem append_core (w : World) (base : Nat) (ty : TypeId) (v : Value) (bl : List Nat) (hown : POwn w base v bl) (g b : Nat) (hg : Blk w g 26 [ptr b]) (hlen : bl.length ≤ 1000) (hbase : base ≤ w.heap.size) :
    ∃ v' w', (Builtin.append_ #[61, 61] ty #[v, .slice (some ⟨g, 0, none⟩) 1 1]).run Try.prog w = .ok v' w' ∧ POwn w' base v' (bl ++ [b]) ∧ w.grownBy w' v.ownBlock ∧ (∀ k, v'.ownBlock = some k → v.ownBlock = some k ∨ w.heap.size ≤ k) ∧ (∀ k, v.ownBlock = some k → Ety w' k 26) := by
  obtain ⟨i, hi, hz1, hz2, hz3⟩ := info_parts Try.infoCoreP
  have hnews : ∀ j u, ([ptr b] : List Value)[j]? = some u → w.cell? ((⟨g, 0, none⟩ : Addr).add j) = some u := fun j u hj => by
    rw [add_zero, hg.cell, Nat.zero_add]
    exact hj
  obtain ⟨v', w', hr, ho', hg', hf⟩ := append_own (P := Try.prog) w base 61 ty 26 i _ 1 8 Try.underlying61 hi hz1 hz2 hz3 rfl (by decide) v bl.length (bl.map ptr) hown ⟨g, 0, none⟩ 1 1 [ptr b] rfl hnews (fun u hu => by rw [List.mem_singleton.1 hu]; rfl) (by unfold maxLen; omega) (by omega) hbase
  refine ⟨v', w', hr, ?_, hg', hf, fun k hk => ?_⟩
  · unfold POwn
    rw [List.map_append, List.length_append]
    exact ho'
  · obtain ⟨hx, ⟨rfl, _, _⟩ | ⟨g0, cap, rest, rfl, _, hB, hnc, hcm, hlr⟩⟩ := own_elim hown
    · cases hk
    · injection hk with hk
      subst hk
      by_cases hroom : bl.length + 1 ≤ cap
      · have hr2 := run_append_room_cells (P := Try.prog) w 61 ty 26 i Try.underlying61 hi g0 0 bl.length cap ⟨g, 0, none⟩ 1 1 [ptr b] (by rw [hz2]; rfl) hnews (fun u hu => by rw [List.mem_singleton.1 hu]; rfl) hroom
          (by
            intro j hj
            rw [Nat.zero_add, hB.cell]
            have hz2' : i.size = 1 := hz2
            have : bl.length * i.size + j < (bl.map ptr ++ rest).length := by
              rw [hlr, hz2']
              have : [ptr b].length = 1 := rfl
              omega
            rw [List.getElem?_eq_getElem this]; rfl)
          (fun j _ => hB.frozen _)
        rw [hr] at hr2
        injection hr2 with e1 _
        have hv : v'.ownBlock = some g0 := by rw [e1]; rfl
        obtain ⟨_, h0 | ⟨g1, c1, r1, e2, _, hB1, _⟩⟩ := own_elim ho'
        · rw [h0.1] at hv; cases hv
        · rw [e2] at hv
          injection hv with hv
          subst hv
          exact hB1.ety
      · obtain ⟨v2, w2, hr2, _, hg2⟩ := run_append_arg_grows (P := Try.prog) (w := w) 61 ty 26 i _ 1 8 Try.underlying61 hi hz1 hz2 hz3 rfl (by decide) ⟨g0, 0, none⟩ bl.length cap (bl.map ptr) hx (hown.cells rfl) ⟨g, 0, none⟩ 1 1 [ptr b] rfl hnews (by omega) (by unfold maxLen; omega) (by omega)
        rw [hr] at hr2
        obtain ⟨rfl, rfl⟩ : v' = v2 ∧ w' = w2 := by simpa using hr2
        exact hB.ety.same (hg2.block g0 hB.lt (fun e => by cases e))
theorem wpList_append_core (w : World) {ops : Array Oper} {rest : List Oper} {o : Oper} {a : Act} {Q : Exit → Act → World → Prop} (hg : o.guard = none) (s x : Operand)
    (hop : o.op = Op.call { callee := Callee.builtin Builtin.append, args := #[s, x], argTypes := #[61, 61] })
    (base : Nat) (v : Value) (bl : List Nat) (hs : a.eval s = v) (hown : POwn w base v bl) (g b : Nat) (hx : a.eval x = .slice (some ⟨g, 0, none⟩) 1 1) (hgb : Blk w g 26 [ptr b]) (hlen : bl.length ≤ 1000) (hbase : base ≤ w.heap.size)
    (h : ∀ v' w', POwn w' base v' (bl ++ [b]) → w.grownBy w' v.ownBlock → (∀ k, v'.ownBlock = some k → v.ownBlock = some k ∨ w.heap.size ≤ k) → (∀ k, v.ownBlock = some k → Ety w' k 26) → wpList Try.prog ops Q rest (a.put o.dst v') w') :
    wpList Try.prog ops Q (o :: rest) a w := by
  refine wpList_plain hg fun K hK' => ?_
  obtain ⟨v', w', hr, h1, h2, h3, h4⟩ := append_core w base o.type v bl hown g b hgb hlen hbase
  unfold Oper.wp execOp
  simp only [hop, resolve, invoke, builtin, Sem.run_bind, Sem.run_pure, Result.andThen_ok, List.map_toArray, List.map_cons, List.map_nil, hs, hx, hr]
  exact hK' _ _ (h v' w' h1 h2 h3 h4)

/-- Another colouring in which the core's blocks have the same colours. -/
theorem CoreAt.recol {acc : Bs → Bool} {col col2 : Colour} {ci b : Nat} {w : World} {c : Core} (h : CoreAt acc col ci w b c) (hc : ∀ k p, col k = some (ci, p) → col2 k = some (ci, p)) : CoreAt acc col2 ci w b c := by
  obtain ⟨fv, wi, lo, va, pb, pp, cm, tn, sn, dc, h⟩ := h
  have hv : ∀ {p ob : Nat} {m : List (Int × TellM)}, ViewsAt col ci p w ob m → ViewsAt col2 ci p w ob m := fun {p ob m} ⟨h1, l, h2, h3, h4⟩ =>
    ⟨hc _ _ h1, l, h2, h3.mono (fun v y ⟨ib, e1, e2, e3, e4, l2, e5, e6⟩ => ⟨ib, e1, e2, e3, hc _ _ e4, l2, e5, e6⟩), h4⟩
  exact ⟨fv, wi, lo, va, pb, pp, cm, tn, sn, dc, h.hblk, hc _ _ h.hcol, h.hacc, h.hwi, h.hlo, h.hva, ⟨hc _ _ h.hpb.1, h.hpb.2⟩, hv h.hpp, hv h.hcm, hv h.htn, ⟨hc _ _ h.hsn.1, h.hsn.2⟩, ⟨hc _ _ h.hdc.1, h.hdc.2⟩⟩
open Classical in
/-- A step that writes only blocks of no core, which hold no bytes: the cores stay. -/
theorem CoreAt.kept {acc : Bs → Bool} {col : Colour} {ci b : Nat} {w w' : World} {c : Core} {F : Nat → Prop} (h : CoreAt acc col ci w b c) (ht : Tinted col w) (hO : Only F w w') (hF : ∀ k, F k → col k = none ∧ k < w.heap.size ∧ ¬ Ety w k 5 ∧ ¬ Ety w' k 5) : CoreAt acc col ci w' b c ∧ Tinted col w' := by
  have tint2 : Tinted col w' := ⟨fun k q e => Nat.lt_of_lt_of_le (ht.lo k q e) hO.size, fun k q e hE => by
    by_cases hk : F k
    · rw [(hF k hk).1] at e; cases e
    · exact ht.nb k q e (hE.same (hO.block k (ht.lo k q e) hk).symm)⟩
  have hX : Tinted (fun k => if F k then some (ci + 1, 0) else col k) w := ⟨fun k q e => by
    split at e
    · rename_i hk; exact (hF k hk).2.1
    · exact ht.lo k q e, fun k q e => by
    split at e
    · rename_i hk; exact (hF k hk).2.2.1
    · exact ht.nb k q e⟩
  have hE : Ext (· = (ci + 1, 0)) (fun k => if F k then some (ci + 1, 0) else col k) w (fun k => if F k then some (ci + 1, 0) else col k) w' := by
    refine ⟨fun _ _ => rfl, hO.mono (fun k hk => ⟨_, if_pos hk, rfl⟩), fun k q hk e => ?_, ⟨fun k q e => ?_, fun k q e hEt => ?_⟩⟩
    · have := hX.lo k q e; omega
    · exact Nat.lt_of_lt_of_le (hX.lo k q e) hO.size
    · skip
      split at e
      · rename_i hk; exact (hF k hk).2.2.2 hEt
      · exact tint2.nb k q e hEt
  have h1 : CoreAt acc (fun k => if F k then some (ci + 1, 0) else col k) ci w b c := h.recol (fun k p e => by
    show (if F k then _ else _) = _
    rw [if_neg (fun hk => by rw [(hF k hk).1] at e; cases e)]
    exact e)
  refine ⟨(h1.ext hE hX (fun p e => by simp at e)).recol (fun k p e => ?_), tint2⟩
  split at e
  · injection e with e; injection e with e1 _; omega
  · exact e

/-- The peers: a row of pointers, the cores behind them. -/
structure Peers (acc : Bs → Bool) (col : Colour) (w : World) (v : Value) (bl : List Nat) (l : List Core) : Prop where
  row : ∃ base, POwn w base v bl
  unc : ∀ k, v.ownBlock = some k → col k = none
  tint : Tinted col w
  len : bl.length = l.length
  core : ∀ i c b, l[i]? = some c → bl[i]? = some b → CoreAt acc col i w b c
  ok : ∀ c ∈ l, CoreOk c
theorem own_ext {col col' : Colour} {w w' : World} {G : Nat × Nat → Prop} {base e size n : Nat} {v : Value} {xs : List Value} (h : w.ownsRow base e size v n xs) (hE : Ext G col w col' w') (hu : ∀ k, v.ownBlock = some k → col k = none) : w'.ownsRow base e size v n xs := by
  refine own_only h hE.only (fun k hk => ?_)
  rintro ⟨q, e, _⟩
  rw [hu k hk] at e; cases e
theorem Peers.step {acc : Bs → Bool} {col col' : Colour} {w w' : World} {v : Value} {bl : List Nat} {l : List Core} (h : Peers acc col w v bl l) {i b : Nat} {c : Core} (hi : i < l.length) (hb : bl[i]? = some b) (hE : Ext (fun q => q.1 = i) col w col' w') (hc : CoreAt acc col' i w' b c) (hok : CoreOk c) : Peers acc col' w' v bl (l.set i c) := by
  obtain ⟨base, hrow⟩ := h.row
  refine ⟨⟨base, own_ext hrow hE h.unc⟩, fun k hk => ?_, hE.tint, by rw [List.length_set]; exact h.len, fun j cj bj hj hbj => ?_, fun c' hc' => ?_⟩
  · rw [hE.old k (own_block_lt hrow hk)]; exact h.unc k hk
  · rw [List.getElem?_set] at hj
    by_cases e : i = j
    · subst e
      rw [if_pos rfl, if_pos hi] at hj
      rw [hb] at hbj
      rw [← Option.some.inj hj, ← Option.some.inj hbj]
      exact hc
    · rw [if_neg e] at hj
      exact (h.core j cj bj hj hbj).ext hE h.tint (fun p hp => e hp.symm)
  · rcases List.mem_or_eq_of_mem_set hc' with h2 | h2
    · exact h.ok c' h2
    · rw [h2]; exact hok
theorem Peers.moved {acc : Bs → Bool} {col : Colour} {w w' : World} {v : Value} {bl : List Nat} {l : List Core} (h : Peers acc col w v bl l) (hb : Below w.heap.size w w') : Peers acc col w' v bl l := by
  obtain ⟨base, hrow⟩ := h.row
  have hE : Ext (fun _ => False) col w col w' := Ext.below h.tint hb
  exact ⟨⟨base, own_ext hrow hE h.unc⟩, h.unc, hE.tint, h.len, fun j cj bj hj hbj => (h.core j cj bj hj hbj).ext hE h.tint (fun _ hp => hp), h.ok⟩
/-- The pointer at a place. -/
theorem Peers.at_ {acc : Bs → Bool} {col : Colour} {w : World} {v : Value} {bl : List Nat} {l : List Core} (h : Peers acc col w v bl l) {i : Nat} (hi : i < l.length) : ∃ (g cap b : Nat) (c : Core), v = .slice (some ⟨g, 0, none⟩) l.length cap ∧ w.cell? ⟨g, i, none⟩ = some (ptr b) ∧ bl[i]? = some b ∧ l[i]? = some c ∧ CoreAt acc col i w b c ∧ CoreOk c := by
  obtain ⟨base, hrow⟩ := h.row
  have hi2 : i < bl.length := by rw [h.len]; exact hi
  obtain ⟨g, cap, e, hc⟩ := hrow.at_ hi2
  rw [h.len] at e
  exact ⟨g, cap, bl[i], l[i], e, hc, List.getElem?_eq_getElem hi2, List.getElem?_eq_getElem hi, h.core i _ _ (List.getElem?_eq_getElem hi) (List.getElem?_eq_getElem hi2), h.ok _ (List.getElem_mem hi)⟩
theorem Peers.form {acc : Bs → Bool} {col : Colour} {w : World} {v : Value} {bl : List Nat} {l : List Core} (h : Peers acc col w v bl l) : ∃ (a : Option Addr) (cap : Nat), v = .slice a l.length cap ∧ (l.length : Int) ≤ cap := by
  obtain ⟨base, hrow⟩ := h.row
  obtain ⟨a, cap, e, h1, h2⟩ := hrow.form
  rw [h.len] at e h1
  exact ⟨a, cap, e, h1⟩

/-- Votes that were told: a row of their own, of no core. -/
structure Told (col : Colour) (w : World) (v : Value) (vs : List Vt) : Prop where
  row : ∃ base L, VOwn w base v L ∧ VGood w L ∧ L.map (·.vt) = vs
  unc : ∀ k, v.ownBlock = some k → col k = none
theorem Told.ext {col col' : Colour} {w w' : World} {G : Nat × Nat → Prop} {v : Value} {vs : List Vt} (h : Told col w v vs) (hE : Ext G col w col' w') (ht : Tinted col w) : Told col' w' v vs := by
  obtain ⟨base, L, h1, h2, h3⟩ := h.row
  exact ⟨⟨base, L, own_ext h1 hE h.unc, fun p hp => (h2 p hp).ext hE ht, h3⟩, fun k hk => by rw [hE.old k (own_block_lt h1 hk)]; exact h.unc k hk⟩
theorem Told.of {col : Colour} {w w' : World} {v : Value} {vs : List Vt} (h : RowAt w w' v vs) (ht : Tinted col w) : Told col w' v vs := by
  obtain ⟨L, h1, h2, h3⟩ := h.row
  refine ⟨⟨w.heap.size, L, h1, h2, h3⟩, fun k hk => ?_⟩
  have h4 := (h1.lt k hk).1
  cases hc : col k with
  | none => rfl
  | some q => have := ht.lo k q hc; omega
theorem Told.form {col : Colour} {w : World} {v : Value} {vs : List Vt} (h : Told col w v vs) : ∃ (a : Option Addr) (cap : Nat), v = .slice a vs.length cap ∧ (vs.length : Int) ≤ cap := by
  obtain ⟨base, L, h1, h2, h3⟩ := h.row
  obtain ⟨a, cap, e, h4, _⟩ := h1.form
  rw [← h3, List.length_map]
  exact ⟨a, cap, e, h4⟩
theorem says_len {c : Core} (hok : CoreOk c) (hs : CoreSrt c) : (says c).length ≤ 30000000000 := by
  have h1 := srt_length hs.prepares.1 (a := 0) (b := 4294967295) (fun q hq => ⟨(hok.inn.prepares q hq).1, (hok.inn.prepares q hq).2.1⟩) (by omega)
  have h2 := srt_length hs.commits.1 (a := 0) (b := 4294967295) (fun q hq => ⟨(hok.inn.commits q hq).1, (hok.inn.commits q hq).2.1⟩) (by omega)
  have h3 := mine_length c 2 c.prepares
  have h4 := mine_length c 3 c.commits
  have e : says c = says0 c ++ says1 c ++ mine c 2 c.prepares ++ mine c 3 c.commits := rfl
  have e0 : (says0 c).length = 1 := by unfold says0; split <;> rfl
  have e1 : (says1 c).length ≤ 1 := by
    unfold says1
    split
    · split
      · exact Nat.le_refl _
      · exact Nat.zero_le _
    · exact Nat.zero_le _
  rw [e, List.length_append, List.length_append, List.length_append]
  omega
/-- One of them. -/
theorem Told.at_ {col : Colour} {w : World} {v : Value} {vs : List Vt} (h : Told col w v vs) {i : Nat} (hi : i < vs.length) : ∃ (g cap : Nat) (p : VV), v = .slice (some ⟨g, 0, none⟩) vs.length cap ∧ vs[i]? = some p.vt ∧ (∀ k, k < 6 → w.cell? ⟨g, i * 6 + k, none⟩ = p.enc[k]?) ∧ RB w p.sl p.vt.value := by
  obtain ⟨base, L, h1, h2, h3⟩ := h.row
  have hil : i < L.length := by rw [← h3, List.length_map] at hi; exact hi
  obtain ⟨g, cap, e, _, _, hc⟩ := h1.at_ hil
  rw [← h3, List.length_map]
  refine ⟨g, cap, L.getD i default, e, ?_, hc, ?_⟩
  · rw [List.getElem?_map, List.getD_eq_getElem?_getD, List.getElem?_eq_getElem hil]; rfl
  · exact h2 _ (by rw [List.getD_eq_getElem?_getD, List.getElem?_eq_getElem hil]; exact List.getElem_mem hil)

theorem Ety.uniq {w : World} {k : Nat} {e e' : TypeId} (h : Ety w k e) (h' : Ety w k e') : e = e' := by
  obtain ⟨_, _, h⟩ := h
  obtain ⟨_, _, h'⟩ := h'
  rw [h] at h'
  injection h' with h'
  injection h'
theorem Peers.other {acc : Bs → Bool} {col col' : Colour} {w w' : World} {v : Value} {bl : List Nat} {l : List Core} {G : Nat × Nat → Prop} (h : Peers acc col w v bl l) (hE : Ext G col w col' w') (hg : ∀ j p, j < l.length → ¬ G (j, p)) : Peers acc col' w' v bl l := by
  obtain ⟨base, hrow⟩ := h.row
  exact ⟨⟨base, own_ext hrow hE h.unc⟩, fun k hk => by rw [hE.old k (own_block_lt hrow hk)]; exact h.unc k hk, hE.tint, h.len, fun j cj bj hj hbj => (h.core j cj bj hj hbj).ext hE h.tint (fun p => hg j p (List.getElem?_eq_some_iff.1 hj).1), h.ok⟩
theorem Peers.snoc {acc : Bs → Bool} {col : Colour} {w w' : World} {v v' : Value} {bl : List Nat} {l : List Core} {b base : Nat} {c : Core} (h : Peers acc col w v bl l) (hc : CoreAt acc col l.length w b c) (hok : CoreOk c) (hown : POwn w' base v' (bl ++ [b])) (hg : w.grownBy w' v.ownBlock) (hf : ∀ k, v'.ownBlock = some k → v.ownBlock = some k ∨ w.heap.size ≤ k) (hety : ∀ k, v.ownBlock = some k → Ety w' k 26) : Peers acc col w' v' (bl ++ [b]) (l ++ [c]) := by
  obtain ⟨base0, hrow⟩ := h.row
  have hO : Only (fun k => v.ownBlock = some k) w w' := (Only.refl _ w).grown hg (fun k e _ => e)
  have hF : ∀ k, v.ownBlock = some k → col k = none ∧ k < w.heap.size ∧ ¬ Ety w k 5 ∧ ¬ Ety w' k 5 := fun k hk => by
    refine ⟨h.unc k hk, own_block_lt hrow hk, fun hE => ?_, fun hE => absurd (Ety.uniq hE (hety k hk)) (by decide)⟩
    obtain ⟨_, h0 | ⟨g, c1, r1, e2, _, hB1, _⟩⟩ := own_elim hrow
    · rw [h0.1] at hk; cases hk
    · rw [e2] at hk
      injection hk with hk
      subst hk
      exact absurd (Ety.uniq hE (Blk.ety hB1)) (by decide)
  have hk : ∀ {i b c}, CoreAt acc col i w b c → CoreAt acc col i w' b c := fun {i b c} hc => (hc.kept h.tint hO hF).1
  refine ⟨⟨base, hown⟩, fun k hk2 => ?_, (hc.kept h.tint hO hF).2, by rw [List.length_append, List.length_append, h.len]; rfl, fun i ci bi hi hbi => ?_, fun c' hc' => ?_⟩
  · rcases hf k hk2 with e | e
    · exact h.unc k e
    · cases hcc : col k with
      | none => rfl
      | some q => have := h.tint.lo k q hcc; omega
  · by_cases hlt : i < l.length
    · rw [List.getElem?_append_left hlt] at hi
      rw [List.getElem?_append_left (by rw [h.len]; exact hlt)] at hbi
      exact hk (h.core i ci bi hi hbi)
    · have hlen := (List.getElem?_eq_some_iff.1 hi).1
      rw [List.length_append, List.length_singleton] at hlen
      obtain rfl : i = l.length := by omega
      rw [List.getElem?_append_right (Nat.le_refl _), Nat.sub_self] at hi
      rw [List.getElem?_append_right (by rw [h.len]; exact Nat.le_refl _), h.len, Nat.sub_self] at hbi
      injection hi with hi
      injection hbi with hbi
      subst hi hbi
      exact hk hc
  · rcases List.mem_append.1 hc' with h2 | h2
    · exact h.ok c' h2
    · rw [List.mem_singleton.1 h2]; exact hok
/-- Nothing that was there at the start has changed, and it bears no colour. -/
structure Fresh0 (w0 : World) (col : Colour) (w : World) : Prop where
  below : Below w0.heap.size w0 w
  none : ∀ k, k < w0.heap.size → col k = none
theorem Fresh0.step {w0 w w' : World} {col col' : Colour} {G : Nat × Nat → Prop} (h : Fresh0 w0 col w) (hE : Ext G col w col' w') : Fresh0 w0 col' w' := by
  refine ⟨h.below.trans (hE.only.toBelow h.below.size (fun k ⟨q, e, _⟩ => ?_)), fun k hk => by rw [hE.old k (Nat.lt_of_lt_of_le hk h.below.size)]; exact h.none k hk⟩
  exact Nat.le_of_not_lt (fun hk => by rw [h.none k hk] at e; cases e)
theorem Fresh0.moved {w0 w w' : World} {col : Colour} (h : Fresh0 w0 col w) (hb : Below w0.heap.size w w') : Fresh0 w0 col w' := ⟨h.below.trans hb, h.none⟩
theorem tint_none (w : World) : Tinted (fun _ => none) w := ⟨fun k q e => (by cases e), fun k q e => (by cases e)⟩

theorem vtWf_of {v : Vt} (h1 : -9223372036854775808 ≤ v.kind ∧ v.kind ≤ 9223372036854775807) (h2 : -9223372036854775808 ≤ v.frm ∧ v.frm ≤ 9223372036854775807) (h3 : -9223372036854775808 ≤ v.slot ∧ v.slot ≤ 9223372036854775807) (h4 : -9223372036854775808 ≤ v.view ∧ v.view ≤ 9223372036854775807) (h5 : -9223372036854775808 ≤ v.valid ∧ v.valid ≤ 9223372036854775807) : VtWf v :=
  ⟨by rw [IntKind.wrap_i64]; omega, by rw [IntKind.wrap_i64]; omega, by rw [IntKind.wrap_i64]; omega, by rw [IntKind.wrap_i64]; omega, by rw [IntKind.wrap_i64]; omega⟩
theorem mine_wf {c : Core} (hok : CoreOk c) {kind : Int} (hk : 0 ≤ kind ∧ kind ≤ 5) {m : List (Int × TellM)} (hm : MapsOk m) {v : Vt} (h : v ∈ mine c kind m) : VtWf v := by
  unfold mine at h
  obtain ⟨p, hp, h2⟩ := List.mem_filterMap.1 h
  obtain ⟨y, hy, rfl⟩ := Option.map_eq_some_iff.1 h2
  have h1 := hm p hp
  have hme := hok.inn.me
  have hn := hok.inn.n
  have hs := hok.inn.slot
  exact vtWf_of (by show _ ≤ kind ∧ kind ≤ _; omega) (by show _ ≤ c.me ∧ c.me ≤ _; omega) (by show _ ≤ c.slot ∧ c.slot ≤ _; omega) (by show _ ≤ p.1 ∧ p.1 ≤ _; omega) (by show -9223372036854775808 ≤ (-1 : Int) ∧ (-1 : Int) ≤ _; omega)
theorem says_wf {c : Core} (hok : CoreOk c) {v : Vt} (h : v ∈ says c) : VtWf v := by
  have hme := hok.inn.me
  have hn := hok.inn.n
  have hs := hok.inn.slot
  have hv := hok.inn.view
  unfold Sac.says at h
  rw [List.mem_append, List.mem_append, List.mem_append] at h
  rcases h with ((h | h) | h) | h
  · split at h
    · obtain rfl := List.mem_singleton.1 h
      exact vtWf_of (by show -9223372036854775808 ≤ (4 : Int) ∧ (4 : Int) ≤ _; omega) (by show _ ≤ c.me ∧ c.me ≤ _; omega) (by show _ ≤ c.slot ∧ c.slot ≤ _; omega) (by show -9223372036854775808 ≤ (0 : Int) ∧ (0 : Int) ≤ _; omega) (by show -9223372036854775808 ≤ (-1 : Int) ∧ (-1 : Int) ≤ _; omega)
    · obtain rfl := List.mem_singleton.1 h
      exact vtWf_of (by show -9223372036854775808 ≤ (5 : Int) ∧ (5 : Int) ≤ _; omega) (by show _ ≤ c.me ∧ c.me ≤ _; omega) (by show _ ≤ c.slot ∧ c.slot ≤ _; omega) (by show _ ≤ c.view ∧ c.view ≤ _; omega) (by show -9223372036854775808 ≤ (-1 : Int) ∧ (-1 : Int) ≤ _; omega)
  · split at h
    · rename_i p hp
      have hl := hok.inn.len1 _ (lookM_mem hp)
      split at h
      · obtain rfl := List.mem_singleton.1 h
        exact vtWf_of (by show -9223372036854775808 ≤ (1 : Int) ∧ (1 : Int) ≤ _; omega) (by show _ ≤ c.me ∧ c.me ≤ _; omega) (by show _ ≤ c.slot ∧ c.slot ≤ _; omega) (by show _ ≤ c.view ∧ c.view ≤ _; omega) (by show _ ≤ p.2 ∧ p.2 ≤ _; dsimp only at hl; omega)
      · cases h
    · cases h
  · exact mine_wf hok (by decide) hok.inn.prepares h
  · exact mine_wf hok (by decide) hok.inn.commits h
end Go.Proofs.Ytilhdelijdkjpaa
