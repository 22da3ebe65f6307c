import Derived.Test.YtilhdelijdkjpaaVP
import Derived.Test.YtilhdelijdkjpaaVB
import Derived.Test.YtilhdelijdkjpaaVE
import Derived.Deep.Slices
import Derived.ProofKit
set_option linter.unusedVariables false
set_option linter.unusedSimpArgs false
/-
  What the frame tells of arguments that are rows of structs with bytes in them.
-/
namespace Go.Proofs.Ytilhdelijdkjpaa
open Go Go.RowKit Go.Maps Sac Go.Deep Go.ChangeShapes Go.WideShapes Go.ChangeAt

/-- What the frame tells of a slice of bytes that came in. -/
theorem bytes_in {w : World} {a : Option Addr} {len cap : Nat} {zs : List Int}
    (h : (a = none ∧ len = 0 ∧ cap = 0 ∧ zs = []) ∨ ∃ x, a = some x ∧ len ≤ cap ∧ cap ≤ maxLen ∧ zs.length = cap ∧ (∀ i, i < zs.length → w.cell? (x.add i) = some (.int .u8 (zs.getD i 0))) ∧ ∀ n ∈ zs, (Lit.int .u8 n).wf = true) :
    ∃ l : List Nat, l.length = len ∧ IB w (.slice a len cap) l := by
  rcases h with ⟨rfl, rfl, rfl, rfl⟩ | ⟨x, rfl, h1, h2, h3, h4, h5⟩
  · exact ⟨[], rfl, (RB.nil w).ib⟩
  · have hw : ∀ n ∈ zs, 0 ≤ n ∧ n < 256 := fun n hn => by
      have := h5 n hn
      simp only [Lit.wf, Bool.and_eq_true, decide_eq_true_eq] at this
      have e1 : IntKind.u8.min = 0 := rfl
      have e2 : IntKind.u8.max = 255 := rfl
      omega
    have hl : ((zs.take len).map Int.toNat).length = len := by rw [List.length_map, List.length_take]; omega
    refine ⟨(zs.take len).map Int.toNat, hl, some x, cap, by rw [hl], by omega, by unfold maxLen at h2; omega, (fun e => by cases e), fun _ => ⟨x, rfl, fun j u hj => ?_⟩, fun y hy => ?_⟩
    · rw [List.map_map, List.getElem?_map] at hj
      obtain ⟨z, hz, hzu⟩ := Option.map_eq_some_iff.1 hj
      have hzz : zs[j]? = some z := by rw [List.getElem?_take] at hz; split at hz; exact hz; cases hz
      obtain ⟨hjl, hje⟩ := List.getElem?_eq_some_iff.1 hzz
      rw [h4 j hjl, ← hzu, List.getD_eq_getElem?_getD, hzz]
      have := hw z (List.mem_of_getElem? hzz)
      show some (Value.int .u8 z) = some (Value.int .u8 ((z.toNat : Nat) : Int))
      rw [Int.toNat_of_nonneg this.1]
    · obtain ⟨z, hz, rfl⟩ := List.mem_map.1 hy
      have := hw z (List.mem_of_mem_take hz)
      omega

/-- An act, and a step, plainly. -/
structure ActP where
  kind : Int
  vote : Vt
  value : Bs
structure StpP where
  kind : Int
  frm : Int
  to : Int
  nn : Int
  vote : Vt
  value : Bs
instance : Inhabited ActP := ⟨⟨0, ⟨0, 0, 0, 0, 0, []⟩, []⟩⟩
instance : Inhabited StpP := ⟨⟨0, 0, 0, 0, ⟨0, 0, 0, 0, 0, []⟩, []⟩⟩
section
variable {H : Type} {enc : TypeId × Value → H} {w : World} {base : Nat} {spare : Nat → Bool} {held : Bool}
theorem open_bytes {fuel : Nat} {cs : List Value} {x : DataW H × List MemPlace} (h : DataW.trod enc Try.prog w base spare held fuel 29 cs = some x) : ∃ (s : Value) (l : List Nat), cs = [s] ∧ IB w s l := by
  rcases open_ints Try.underlying29 Try.underlying5 (by kernel_rfl) h with ⟨rfl, _⟩ | ⟨a, len, cap, zs, rfl, _, hl, hm, hz, _, hc, hw⟩
  · exact ⟨_, [], rfl, (RB.nil w).ib⟩
  · have hzl : len ≤ zs.length := by rw [hz]; split <;> omega
    have hwz : ∀ n ∈ zs, 0 ≤ n ∧ n < 256 := fun n hn => by
      have := hw n hn
      simp only [Lit.wf, Bool.and_eq_true, decide_eq_true_eq] at this
      have e1 : IntKind.u8.min = 0 := rfl
      have e2 : IntKind.u8.max = 255 := rfl
      omega
    have hln : ((zs.take len).map Int.toNat).length = len := by rw [List.length_map, List.length_take]; omega
    refine ⟨_, (zs.take len).map Int.toNat, rfl, some a, cap, by rw [hln], by omega, by unfold maxLen at hm; omega, (fun e => by cases e), fun _ => ⟨a, rfl, fun j u hj => ?_⟩, fun y hy => ?_⟩
    · rw [List.map_map, List.getElem?_map] at hj
      obtain ⟨z, hz2, hzu⟩ := Option.map_eq_some_iff.1 hj
      have hzz : zs[j]? = some z := by rw [List.getElem?_take] at hz2; split at hz2; exact hz2; cases hz2
      obtain ⟨hjl, hje⟩ := List.getElem?_eq_some_iff.1 hzz
      rw [hc j hjl, ← hzu, List.getD_eq_getElem?_getD, hzz]
      have := hwz z (List.mem_of_getElem? hzz)
      show some (Value.int .u8 z) = some (Value.int .u8 ((z.toNat : Nat) : Int))
      rw [Int.toNat_of_nonneg this.1]
    · obtain ⟨z, hz2, rfl⟩ := List.mem_map.1 hy
      have := hwz z (List.mem_of_mem_take hz2)
      omega
/-- A vote that came in. -/
structure VoteIn (w : World) (cs : List Value) (v : Vt) : Prop where
  is : ∃ s, cs = [.int .i64 v.kind, .int .i64 v.frm, .int .i64 v.slot, .int .i64 v.view, .int .i64 v.valid, s] ∧ IB w s v.value
  wf : (Lit.int .i64 v.kind).wf = true ∧ (Lit.int .i64 v.frm).wf = true ∧ (Lit.int .i64 v.slot).wf = true ∧ (Lit.int .i64 v.view).wf = true ∧ (Lit.int .i64 v.valid).wf = true
set_option maxRecDepth 100000 in
theorem open_vote {fuel : Nat} {cs : List Value} {x : DataW H × List MemPlace} (h : DataW.trod enc Try.prog w base spare held fuel 31 cs = some x) : ∃ v, VoteIn w cs v := by
  obtain ⟨xs, n, _, _, hlen, hxl, hf⟩ := DataW.trod_struct Try.underlying31 h
  have hlen6 : cs.length = 6 := hlen.trans (by kernel_rfl)
  match cs, hlen6 with
  | [c0, c1, c2, c3, c4, c5], _ =>
    have h0 := hf 0 _ rfl
    have h1 := hf 1 _ rfl
    have h2 := hf 2 _ rfl
    have h3 := hf 3 _ rfl
    have h4 := hf 4 _ rfl
    have h5 := hf 5 _ rfl
    have k3 : Try.prog.cellsOf 3 = 1 := by kernel_rfl
    have k29 : Try.prog.cellsOf 29 = 1 := by kernel_rfl
    obtain ⟨x0, e0⟩ : ∃ y, xs[0]? = some y := ⟨_, List.getElem?_eq_getElem (by rw [hxl]; decide)⟩
    obtain ⟨x1, e1⟩ : ∃ y, xs[1]? = some y := ⟨_, List.getElem?_eq_getElem (by rw [hxl]; decide)⟩
    obtain ⟨x2, e2⟩ : ∃ y, xs[2]? = some y := ⟨_, List.getElem?_eq_getElem (by rw [hxl]; decide)⟩
    obtain ⟨x3, e3⟩ : ∃ y, xs[3]? = some y := ⟨_, List.getElem?_eq_getElem (by rw [hxl]; decide)⟩
    obtain ⟨x4, e4⟩ : ∃ y, xs[4]? = some y := ⟨_, List.getElem?_eq_getElem (by rw [hxl]; decide)⟩
    obtain ⟨x5, e5⟩ : ∃ y, xs[5]? = some y := ⟨_, List.getElem?_eq_getElem (by rw [hxl]; decide)⟩
    have g0 : DataW.trod enc Try.prog w base spare held n 3 [c0] = some x0 := by rw [← e0, ← h0]; rfl
    have g1 : DataW.trod enc Try.prog w base spare held n 3 [c1] = some x1 := by rw [← e1, ← h1]; rfl
    have g2 : DataW.trod enc Try.prog w base spare held n 3 [c2] = some x2 := by rw [← e2, ← h2]; rfl
    have g3 : DataW.trod enc Try.prog w base spare held n 3 [c3] = some x3 := by rw [← e3, ← h3]; rfl
    have g4 : DataW.trod enc Try.prog w base spare held n 3 [c4] = some x4 := by rw [← e4, ← h4]; rfl
    have g5 : DataW.trod enc Try.prog w base spare held n 29 [c5] = some x5 := by rw [← e5, ← h5]; rfl
    obtain ⟨m0, q0, _, w0⟩ := DataW.trod_int Try.underlying3 g0
    obtain ⟨m1, q1, _, w1⟩ := DataW.trod_int Try.underlying3 g1
    obtain ⟨m2, q2, _, w2⟩ := DataW.trod_int Try.underlying3 g2
    obtain ⟨m3, q3, _, w3⟩ := DataW.trod_int Try.underlying3 g3
    obtain ⟨m4, q4, _, w4⟩ := DataW.trod_int Try.underlying3 g4
    obtain ⟨s, l, q5, hs⟩ := open_bytes g5
    injection q0 with q0
    injection q1 with q1
    injection q2 with q2
    injection q3 with q3
    injection q4 with q4
    injection q5 with q5
    exact ⟨⟨m0, m1, m2, m3, m4, l⟩, ⟨s, by rw [q0, q1, q2, q3, q4, q5], hs⟩, w0, w1, w2, w3, w4⟩
/-- A Act that came in, at p. -/
structure ActIn (w : World) (p : Addr) (s : ActP) : Prop where
  is : ∃ vs ss, w.cell? (p.add 0) = some (.int .i64 s.kind) ∧ w.cell? (p.add 1) = some (.int .i64 s.vote.kind) ∧ w.cell? (p.add 2) = some (.int .i64 s.vote.frm) ∧ w.cell? (p.add 3) = some (.int .i64 s.vote.slot) ∧ w.cell? (p.add 4) = some (.int .i64 s.vote.view) ∧ w.cell? (p.add 5) = some (.int .i64 s.vote.valid) ∧ w.cell? (p.add 6) = some vs ∧ w.cell? (p.add 7) = some ss ∧ IB w vs s.vote.value ∧ IB w ss s.value
  wf : (Lit.int .i64 s.kind).wf = true
  wfv : (Lit.int .i64 s.vote.kind).wf = true ∧ (Lit.int .i64 s.vote.frm).wf = true ∧ (Lit.int .i64 s.vote.slot).wf = true ∧ (Lit.int .i64 s.vote.view).wf = true ∧ (Lit.int .i64 s.vote.valid).wf = true
set_option maxRecDepth 100000 in
theorem open_act {fuel : Nat} {cs : List Value} {x : DataW H × List MemPlace} {p : Addr} (hc : ∀ j, j < 8 → w.cell? (p.add j) = cs[j]?) (h : DataW.trod enc Try.prog w base spare held fuel 33 cs = some x) : ∃ s, ActIn w p s := by
  obtain ⟨xs, n, _, _, hlen, hxl, hf⟩ := DataW.trod_struct Try.underlying33 h
  have hlen6 : cs.length = 8 := hlen.trans (by kernel_rfl)
  match cs, hlen6 with
  | [c0, c1, c2, c3, c4, c5, c6, c7], _ =>
    have h0 := hf 0 _ rfl
    have h1 := hf 1 _ rfl
    have h2 := hf 2 _ rfl
    obtain ⟨x0, e0⟩ : ∃ y, xs[0]? = some y := ⟨_, List.getElem?_eq_getElem (by rw [hxl]; decide)⟩
    obtain ⟨x1, e1⟩ : ∃ y, xs[1]? = some y := ⟨_, List.getElem?_eq_getElem (by rw [hxl]; decide)⟩
    obtain ⟨x2, e2⟩ : ∃ y, xs[2]? = some y := ⟨_, List.getElem?_eq_getElem (by rw [hxl]; decide)⟩
    have g0 : DataW.trod enc Try.prog w base spare held n 3 [c0] = some x0 := by rw [← e0, ← h0]; rfl
    have gv : DataW.trod enc Try.prog w base spare held n 31 [c1, c2, c3, c4, c5, c6] = some x1 := by rw [← e1, ← h1]; rfl
    have gs : DataW.trod enc Try.prog w base spare held n 29 [c7] = some x2 := by rw [← e2, ← h2]; rfl
    obtain ⟨m0, q0, _, w0⟩ := DataW.trod_int Try.underlying3 g0
    injection q0 with q0
    obtain ⟨v, ⟨vs, qv, hvs⟩, wv⟩ := open_vote gv
    obtain ⟨ss, l, qs, hss⟩ := open_bytes gs
    injection qs with qs
    simp only [List.cons.injEq, and_true] at qv
    obtain ⟨z0, z1, z2, z3, z4, z5⟩ := qv
    refine ⟨⟨m0, v, l⟩, ⟨vs, ss, ?_, ?_, ?_, ?_, ?_, ?_, ?_, ?_, hvs, hss⟩, w0, wv⟩
    · rw [hc 0 (by decide)]; show some c0 = _; rw [q0]
    · rw [hc 1 (by decide)]; show some c1 = _; rw [z0]
    · rw [hc 2 (by decide)]; show some c2 = _; rw [z1]
    · rw [hc 3 (by decide)]; show some c3 = _; rw [z2]
    · rw [hc 4 (by decide)]; show some c4 = _; rw [z3]
    · rw [hc 5 (by decide)]; show some c5 = _; rw [z4]
    · rw [hc 6 (by decide)]; show some c6 = _; rw [z5]
    · rw [hc 7 (by decide)]; show some c7 = _; rw [qs]
theorem open_acts {fuel : Nat} {v : Value} {x : DataW H × List MemPlace} (h : DataW.trod enc Try.prog w base spare held fuel 22 [v] = some x) :
    v = .slice none 0 0 ∨ ∃ (a : Addr) (len cap : Nat) (F : Nat → ActP), v = .slice (some a) len cap ∧ len ≤ cap ∧ cap ≤ maxLen ∧ ∀ i, i < len → ActIn w (a.add (i * 8)) (F i) := by
  rcases open_slice Try.underlying22 h with ⟨hcs, _⟩ | ⟨a, len, cap, m, n, D, Pl, hcs, _, hl, hm, hmm, _, hx⟩
  · injection hcs with hcs
    exact .inl hcs
  · injection hcs with hcs
    have k11 : Try.prog.cellsOf 33 = 8 := by kernel_rfl
    rw [k11] at hx
    obtain ⟨F, hF⟩ := choose_lt (α := ActP) (p := fun i s => ActIn w (a.add (i * 8)) s) (n := len) (fun i hi => by
      obtain ⟨cs', h1, h2⟩ := hx i (by rw [hmm]; split <;> omega)
      obtain ⟨_, _, h3⟩ := World.cells?_some h1
      exact open_act h3 h2)
    exact .inr ⟨a, len, cap, F, hcs, hl, hm, hF⟩
/-- A Stp that came in, at p. -/
structure StpAt (w : World) (p : Addr) (s : StpP) : Prop where
  is : ∃ vs ss, w.cell? (p.add 0) = some (.int .i64 s.kind) ∧ w.cell? (p.add 1) = some (.int .i64 s.frm) ∧ w.cell? (p.add 2) = some (.int .i64 s.to) ∧ w.cell? (p.add 3) = some (.int .i64 s.nn) ∧ w.cell? (p.add 4) = some (.int .i64 s.vote.kind) ∧ w.cell? (p.add 5) = some (.int .i64 s.vote.frm) ∧ w.cell? (p.add 6) = some (.int .i64 s.vote.slot) ∧ w.cell? (p.add 7) = some (.int .i64 s.vote.view) ∧ w.cell? (p.add 8) = some (.int .i64 s.vote.valid) ∧ w.cell? (p.add 9) = some vs ∧ w.cell? (p.add 10) = some ss ∧ IB w vs s.vote.value ∧ IB w ss s.value
  wf : (Lit.int .i64 s.kind).wf = true ∧ (Lit.int .i64 s.frm).wf = true ∧ (Lit.int .i64 s.to).wf = true ∧ (Lit.int .i64 s.nn).wf = true
  wfv : (Lit.int .i64 s.vote.kind).wf = true ∧ (Lit.int .i64 s.vote.frm).wf = true ∧ (Lit.int .i64 s.vote.slot).wf = true ∧ (Lit.int .i64 s.vote.view).wf = true ∧ (Lit.int .i64 s.vote.valid).wf = true
set_option maxRecDepth 100000 in
theorem open_stp {fuel : Nat} {cs : List Value} {x : DataW H × List MemPlace} {p : Addr} (hc : ∀ j, j < 11 → w.cell? (p.add j) = cs[j]?) (h : DataW.trod enc Try.prog w base spare held fuel 57 cs = some x) : ∃ s, StpAt w p s := by
  obtain ⟨xs, n, _, _, hlen, hxl, hf⟩ := DataW.trod_struct Try.underlying57 h
  have hlen6 : cs.length = 11 := hlen.trans (by kernel_rfl)
  match cs, hlen6 with
  | [c0, c1, c2, c3, c4, c5, c6, c7, c8, c9, c10], _ =>
    have h0 := hf 0 _ rfl
    have h1 := hf 1 _ rfl
    have h2 := hf 2 _ rfl
    have h3 := hf 3 _ rfl
    have h4 := hf 4 _ rfl
    have h5 := hf 5 _ rfl
    obtain ⟨x0, e0⟩ : ∃ y, xs[0]? = some y := ⟨_, List.getElem?_eq_getElem (by rw [hxl]; decide)⟩
    obtain ⟨x1, e1⟩ : ∃ y, xs[1]? = some y := ⟨_, List.getElem?_eq_getElem (by rw [hxl]; decide)⟩
    obtain ⟨x2, e2⟩ : ∃ y, xs[2]? = some y := ⟨_, List.getElem?_eq_getElem (by rw [hxl]; decide)⟩
    obtain ⟨x3, e3⟩ : ∃ y, xs[3]? = some y := ⟨_, List.getElem?_eq_getElem (by rw [hxl]; decide)⟩
    obtain ⟨x4, e4⟩ : ∃ y, xs[4]? = some y := ⟨_, List.getElem?_eq_getElem (by rw [hxl]; decide)⟩
    obtain ⟨x5, e5⟩ : ∃ y, xs[5]? = some y := ⟨_, List.getElem?_eq_getElem (by rw [hxl]; decide)⟩
    have g0 : DataW.trod enc Try.prog w base spare held n 3 [c0] = some x0 := by rw [← e0, ← h0]; rfl
    have g1 : DataW.trod enc Try.prog w base spare held n 3 [c1] = some x1 := by rw [← e1, ← h1]; rfl
    have g2 : DataW.trod enc Try.prog w base spare held n 3 [c2] = some x2 := by rw [← e2, ← h2]; rfl
    have g3 : DataW.trod enc Try.prog w base spare held n 3 [c3] = some x3 := by rw [← e3, ← h3]; rfl
    have gv : DataW.trod enc Try.prog w base spare held n 31 [c4, c5, c6, c7, c8, c9] = some x4 := by rw [← e4, ← h4]; rfl
    have gs : DataW.trod enc Try.prog w base spare held n 29 [c10] = some x5 := by rw [← e5, ← h5]; rfl
    obtain ⟨m0, q0, _, w0⟩ := DataW.trod_int Try.underlying3 g0
    injection q0 with q0
    obtain ⟨m1, q1, _, w1⟩ := DataW.trod_int Try.underlying3 g1
    injection q1 with q1
    obtain ⟨m2, q2, _, w2⟩ := DataW.trod_int Try.underlying3 g2
    injection q2 with q2
    obtain ⟨m3, q3, _, w3⟩ := DataW.trod_int Try.underlying3 g3
    injection q3 with q3
    obtain ⟨v, ⟨vs, qv, hvs⟩, wv⟩ := open_vote gv
    obtain ⟨ss, l, qs, hss⟩ := open_bytes gs
    injection qs with qs
    simp only [List.cons.injEq, and_true] at qv
    obtain ⟨z0, z1, z2, z3, z4, z5⟩ := qv
    refine ⟨⟨m0, m1, m2, m3, v, l⟩, ⟨vs, ss, ?_, ?_, ?_, ?_, ?_, ?_, ?_, ?_, ?_, ?_, ?_, hvs, hss⟩, ⟨w0, w1, w2, w3⟩, wv⟩
    · rw [hc 0 (by decide)]; show some c0 = _; rw [q0]
    · rw [hc 1 (by decide)]; show some c1 = _; rw [q1]
    · rw [hc 2 (by decide)]; show some c2 = _; rw [q2]
    · rw [hc 3 (by decide)]; show some c3 = _; rw [q3]
    · rw [hc 4 (by decide)]; show some c4 = _; rw [z0]
    · rw [hc 5 (by decide)]; show some c5 = _; rw [z1]
    · rw [hc 6 (by decide)]; show some c6 = _; rw [z2]
    · rw [hc 7 (by decide)]; show some c7 = _; rw [z3]
    · rw [hc 8 (by decide)]; show some c8 = _; rw [z4]
    · rw [hc 9 (by decide)]; show some c9 = _; rw [z5]
    · rw [hc 10 (by decide)]; show some c10 = _; rw [qs]
theorem open_stps {fuel : Nat} {v : Value} {x : DataW H × List MemPlace} (h : DataW.trod enc Try.prog w base spare held fuel 52 [v] = some x) :
    v = .slice none 0 0 ∨ ∃ (a : Addr) (len cap : Nat) (F : Nat → StpP), v = .slice (some a) len cap ∧ len ≤ cap ∧ cap ≤ maxLen ∧ ∀ i, i < len → StpAt w (a.add (i * 11)) (F i) := by
  rcases open_slice Try.underlying52 h with ⟨hcs, _⟩ | ⟨a, len, cap, m, n, D, Pl, hcs, _, hl, hm, hmm, _, hx⟩
  · injection hcs with hcs
    exact .inl hcs
  · injection hcs with hcs
    have k11 : Try.prog.cellsOf 57 = 11 := by kernel_rfl
    rw [k11] at hx
    obtain ⟨F, hF⟩ := choose_lt (α := StpP) (p := fun i s => StpAt w (a.add (i * 11)) s) (n := len) (fun i hi => by
      obtain ⟨cs', h1, h2⟩ := hx i (by rw [hmm]; split <;> omega)
      obtain ⟨_, _, h3⟩ := World.cells?_some h1
      exact open_stp h3 h2)
    exact .inr ⟨a, len, cap, F, hcs, hl, hm, hF⟩
end
end Go.Proofs.Ytilhdelijdkjpaa
/-
  fewSteps, few: are steps few, and their values short?
-/
namespace Go.Proofs.Ytilhdelijdkjpaa
open Go Go.RowKit Go.Maps Sac

theorem cell_moved {w wr : World} {p : Addr} {u : Value} (h : w.cell? p = some u) (hb : Below w.heap.size w wr) : wr.cell? p = some u :=
  (World.cell?_of_block (w := w) (hb.block _ (cell_lt h))).trans h
theorem StpAt.moved {w wr : World} {p : Addr} {s : StpP} (h : StpAt w p s) (hb : Below w.heap.size w wr) : StpAt wr p s := by
  obtain ⟨⟨vs, ss, c0, c1, c2, c3, c4, c5, c6, c7, c8, c9, c10, hvs, hss⟩, h2, h3⟩ := h
  exact ⟨⟨vs, ss, cell_moved c0 hb, cell_moved c1 hb, cell_moved c2 hb, cell_moved c3 hb, cell_moved c4 hb, cell_moved c5 hb, cell_moved c6 hb, cell_moved c7 hb, cell_moved c8 hb, cell_moved c9 hb, cell_moved c10 hb, hvs.below hb, hss.below hb⟩, h2, h3⟩
/-- A step's cells, as the walk asks for them. -/
theorem StpAt.cells {w : World} {p : Addr} {s : StpP} (h : StpAt w p s) : ∃ vs ss, (w.cell? p = some (.int .i64 s.kind) ∧ w.cell? ⟨p.block, p.off + 1, none⟩ = some (.int .i64 s.frm) ∧ w.cell? ⟨p.block, p.off + 2, none⟩ = some (.int .i64 s.to) ∧ w.cell? ⟨p.block, p.off + 3, none⟩ = some (.int .i64 s.nn) ∧ w.cell? ⟨p.block, p.off + 4, none⟩ = some (.int .i64 s.vote.kind) ∧ w.cell? ⟨p.block, p.off + 5, none⟩ = some (.int .i64 s.vote.frm) ∧ w.cell? ⟨p.block, p.off + 6, none⟩ = some (.int .i64 s.vote.slot) ∧ w.cell? ⟨p.block, p.off + 7, none⟩ = some (.int .i64 s.vote.view) ∧ w.cell? ⟨p.block, p.off + 8, none⟩ = some (.int .i64 s.vote.valid) ∧ w.cell? ⟨p.block, p.off + 9, none⟩ = some (vs) ∧ w.cell? ⟨p.block, p.off + 10, none⟩ = some (ss)) ∧ IB w vs s.vote.value ∧ IB w ss s.value := by
  obtain ⟨⟨vs, ss, c0, c1, c2, c3, c4, c5, c6, c7, c8, c9, c10, hvs, hss⟩, h2, h3⟩ := h
  exact ⟨vs, ss, ⟨c0, c1, c2, c3, c4, c5, c6, c7, c8, c9, c10⟩, hvs, hss⟩

/-- Steps that came in. -/
def StpsAt (w : World) (a : Option Addr) (len cap : Nat) (F : Nat → StpP) : Prop := len ≤ cap ∧ cap ≤ maxLen ∧ (a = none → len = 0 ∧ cap = 0) ∧ ∀ ad, a = some ad → ∀ i, i < len → StpAt w (ad.add (i * 11)) (F i)

def FewPost (len : Nat) (F : Nat → StpP) (w : World) (e : Ending) (w' : World) : Prop := ∃ r, e = .returned (.bool r) ∧ Below w.heap.size w w' ∧ (r = true → len ≤ 250 ∧ ∀ i, i < len → (F i).value.length ≤ 50 ∧ (F i).vote.value.length ≤ 50)

set_option maxRecDepth 100000 in
set_option maxHeartbeats 4000000 in
theorem fewSteps_any (a : Option Addr) (len cap : Nat) (F : Nat → StpP) (w : World) (h : StpsAt w a len cap F) :
    Calls Try.prog 27 #[.slice a len cap] w (FewPost len F w) := by
  obtain ⟨h1, h2, h3, h4⟩ := h
  have H4 := Lib.hid h4
  by_cases hlong : (250 : Int) < (len : Int)
  · have hd : decide ((250 : Int) < (len : Int)) = true := decide_eq_true hlong
    go_enter Try.func27, Try.ntmps27
    go_wp2_with fail
    go_ret
    exact ⟨false, rfl, Below.refl _ _, fun e => by cases e⟩
  · have hd : decide ((250 : Int) < (len : Int)) = false := decide_eq_false hlong
    clear h4
    go_enter Try.func27, Try.ntmps27
    go_wp2_with fail
    go_loopw [10] (fun u wr => ∃ i : Nat, i ≤ len ∧ u = .int .i64 (i : Int) ∧ Hid (Below w.heap.size w wr) ∧ Hid (∀ j, j < i → (F j).value.length ≤ 50 ∧ (F j).vote.value.length ≤ 50)) (fun u _ => len - (intOf u).toNat)
    case atStart => exact ⟨0, Nat.zero_le _, rfl, Below.refl _ _, fun j hj => absurd hj (Nat.not_lt_zero _)⟩
    case round =>
      obtain ⟨i, hi, rfl, HB, HA⟩ := hrel
      by_cases hlt : (i : Int) < (len : Int)
      · obtain ⟨ad, rfl⟩ : ∃ ad, a = some ad := by
          cases a with
          | none => have := h3 rfl; omega
          | some ad => exact ⟨ad, rfl⟩
        have hat := H4.out ad rfl i (by omega)
        obtain ⟨vs, ss, ⟨c0, c1, c2, c3, c4, c5, c6, c7, c8, c9, c10⟩, hvs, hss⟩ := (hat.moved HB.out).cells
        obtain ⟨va, vc, rfl, _⟩ := hvs
        obtain ⟨sa, sc, rfl, _⟩ := hss
        obtain ⟨vn, hvn⟩ : ∃ vn, (F i).vote.value.length = vn := ⟨_, rfl⟩
        obtain ⟨sn, hsn⟩ : ∃ sn, (F i).value.length = sn := ⟨_, rfl⟩
        rw [hvn] at c9
        rw [hsn] at c10
        have HVN := Lib.hid hvn
        have HSN := Lib.hid hsn
        have hba : Below wr.heap.size wr (wr.alloc (.cells #[.int .i64 (F i).kind, .int .i64 (F i).frm, .int .i64 (F i).to, .int .i64 (F i).nn, .int .i64 (F i).vote.kind, .int .i64 (F i).vote.frm, .int .i64 (F i).vote.slot, .int .i64 (F i).vote.view, .int .i64 (F i).vote.valid, .slice va vn vc, .slice sa sn sc] 57)) := (Below.refl _ wr).alloc (Nat.le_refl _) _
        have HBA := Lib.hid (HB.out.trans (hba.mono HB.out.size))
        clear hat hvn hsn hba
        by_cases h5 : (50 : Int) < (sn : Int)
        · have hd5 : decide ((50 : Int) < (sn : Int)) = true := decide_eq_true h5
          go_wp2_with fail
          go_ret
          exact ⟨false, rfl, HBA.out, fun e => by cases e⟩
        · have hd5 : decide ((50 : Int) < (sn : Int)) = false := decide_eq_false h5
          by_cases h6 : (50 : Int) < (vn : Int)
          · have hd6 : decide ((50 : Int) < (vn : Int)) = true := decide_eq_true h6
            go_wp2_with fail
            go_ret
            exact ⟨false, rfl, HBA.out, fun e => by cases e⟩
          · have hd6 : decide ((50 : Int) < (vn : Int)) = false := decide_eq_false h6
            go_wp2_with fail
            exact ⟨⟨i + 1, by omega, by push_cast; rfl, HBA, fun j hj => by
              rcases Nat.lt_or_ge j i with hji | hji
              · exact HA.out j hji
              · obtain rfl : j = i := by omega
                rw [HVN.out, HSN.out]
                exact ⟨by omega, by omega⟩⟩, by simp [intOf]; omega⟩
      · obtain rfl : i = len := by omega
        go_wp2_with fail
        go_ret
        exact ⟨true, rfl, HB.out, fun _ => ⟨by omega, HA.out⟩⟩
end Go.Proofs.Ytilhdelijdkjpaa
