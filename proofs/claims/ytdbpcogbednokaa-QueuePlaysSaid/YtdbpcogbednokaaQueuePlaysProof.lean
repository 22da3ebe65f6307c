/- The statement QueuePlays of sacristy/sacristylaw20.QueuePlays is proved: for every input the law returns true and its arguments read as they did; no condition. The frame follows the kit's proof-skeleton, the walk is YtdbpcogbednokaaDq's. -/
import Derived.Test.YtdbpcogbednokaaRows
import Derived.Test.YtdbpcogbednokaaDq
import Derived.WalkKit
import Derived.ProofKit
import Derived.OpenShut
import Derived.ShutString
import Derived.ChangeOld
import Derived.Below
import Derived.Deep.SlicePairs
namespace Go.Proofs.Ytdbpcogbednokaa.queuePlays
open Go.ChangeShapes Go.WideShapes Go.ChangeAt Go.RowKit
open Go.ChangeMaps (open_string shut_string)
set_option linter.unusedVariables false
set_option linter.unusedSimpArgs false

theorem own : ownKnob Try.prog.godebug = none := by kernel_rfl
theorem laidOut : laidOutB Try.prog = true := by kernel_rfl

/-- A slice of structs of three integers, opened: its cells. -/
theorem open_trips {H : Type} {enc : TypeId × Value → H} {P : Program} {w : World} {base : Nat} {spare : Nat → Bool} {held : Bool} {t e ti : TypeId} {f0 f1 f2 : Field} {k : IntKind} {fuel : Nat} {cs : List Value} {x : DataW H × List MemPlace}
    (ht : P.underlying t = some (.slice e)) (he : P.underlying e = some (.struct #[f0, f1, f2])) (ce : P.cellsOf e = 3) (o0 : f0.offset = 0) (o1 : f1.offset = 1) (o2 : f2.offset = 2)
    (c0 : P.cellsOf f0.type = 1) (c1 : P.cellsOf f1.type = 1) (c2 : P.cellsOf f2.type = 1) (u0 : P.underlying f0.type = some (.int k)) (u1 : P.underlying f1.type = some (.int k)) (u2 : P.underlying f2.type = some (.int k))
    (h : DataW.trod enc P w base spare held fuel t cs = some x) :
    cs = [.slice none 0 0] ∨ ∃ (a : Addr) (len cap : Nat), cs = [.slice (some a) len cap] ∧
      ∀ i, i < len → ∃ x0 x1 x2 : Int, w.cell? (a.add (i * 3)) = some (.int k x0) ∧ w.cell? (a.add (i * 3 + 1)) = some (.int k x1) ∧ w.cell? (a.add (i * 3 + 2)) = some (.int k x2) := by
  rcases Go.Deep.open_slice ht h with h0 | ⟨a, len, cap, m, n, D, Pl, rfl, hb, hl, hm, hmm, rfl, hx⟩
  · exact .inl h0.1
  refine .inr ⟨a, len, cap, rfl, fun i hi => ?_⟩
  have hlm : len ≤ m := by rw [hmm]; split <;> omega
  obtain ⟨cs', h1, h2⟩ := hx i (by omega)
  rw [ce] at h1
  obtain ⟨_, hlen, hcell⟩ := World.cells?_some h1
  obtain ⟨xs, k', hk, hxy, _, hxl, hf⟩ := DataW.trod_struct he h2
  match xs, hxl, cs', hlen with
  | [y0, y1, y2], _, [v0, v1, v2], _ =>
    have g0 := hf 0 f0 rfl
    have g1 := hf 1 f1 rfl
    have g2 := hf 2 f2 rfl
    simp [o0, o1, o2, c0, c1, c2] at g0 g1 g2
    have e0 := hcell 0 (by omega)
    have e1 := hcell 1 (by omega)
    have e2 := hcell 2 (by omega)
    rw [Go.Deep.add_add] at e0 e1 e2
    obtain ⟨n0, q0, _, _⟩ := DataW.trod_int u0 g0
    obtain ⟨n1, q1, _, _⟩ := DataW.trod_int u1 g1
    obtain ⟨n2, q2, _, _⟩ := DataW.trod_int u2 g2
    injection q0 with q0
    injection q1 with q1
    injection q2 with q2
    subst q0 q1 q2
    exact ⟨n0, n1, n2, by simpa using e0, by simpa using e1, by simpa using e2⟩

theorem walk (a0 : Option Addr) (len0 cap0 : Nat) (K U X : Nat → Int) (w : World) (w0 : Acts w a0 len0 K U X) :
    Calls Try.prog 7 #[.slice a0 len0 cap0] w fun e w' => e = .returned (.bool true) ∧ Below w.heap.size w w' := by
  exact plays_any a0 len0 cap0 K U X w w0

set_option maxRecDepth 100000 in
theorem lifted (os : Os) (started : os.Started) (H : Type) (enc : TypeId × Value → H) :
    ReturnsInHanded {} Try.checked os 7 .any (Rows.queuePlaysSpec.pre6 enc Try.prog Try.f7 Rows.queuePlaysRow.domain false) (Rows.queuePlaysSpec.post enc Try.prog Try.f7 false true false false) := by
  refine returnsInHanded_of_change (C := Try.checked) own started (by kernel_rfl) Try.func7
    (ChangeSpec.witness6 (enc := enc) (C := Try.checked) false ⟨#[], #[.slice none 0 0], []⟩ 8 (by kernel_rfl) (by kernel_rfl) (by kernel_rfl) (by kernel_rfl)) ?_
  intro W base args ds gs before hval0 hW hcnd _
  have hval : ∀ (j : Nat) t v, Try.f7.params[j]? = some t → args[j]? = some v → Value.okWide Try.prog W .any base t v := hval0
  have hW' := hW
  obtain ⟨p, q, hA0, hV, rfl, hfz, hnd⟩ := hW
  have hA : DataW.TrodAll enc Try.prog W 0 (fun _ => true) true Try.f7.params.toList args.toList ds p := hA0
  rw [Try.params7] at hA hval
  obtain ⟨v0, vs0, d0, ds0, p0, q0, hargs, rfl, rfl, h0, r0⟩ := trodAll_cons hA
  obtain ⟨rfl, rfl, rfl⟩ := trodAll_nil r0
  obtain rfl : args = #[v0] := by cases args; simp_all
  obtain ⟨rfl, rfl⟩ := trodVars_none hV
  obtain ⟨a0, len0, cap0, rfl⟩ := okWide_slice Try.underlying36 (hval 0 36 v0 rfl rfl)
  have k0 := h0
  have lt0 : ∀ x ∈ p0, x.block < W.heap.size := by obtain ⟨m, hm⟩ := k0; exact DataW.trod_lt m _ _ _ hm
  obtain ⟨K, U, X, w0⟩ : ∃ K U X, Acts W a0 len0 K U X := by
    obtain ⟨fuel, hf⟩ := h0
    rcases open_trips (k := .i64) (ti := 3) Try.underlying36 Try.underlying42 (by kernel_rfl) rfl rfl rfl (by kernel_rfl) (by kernel_rfl) (by kernel_rfl) Try.underlying3 Try.underlying3 Try.underlying3 hf with hcs | ⟨x, l, c, hcs, hcell⟩
    · simp [Value.cells] at hcs
      obtain ⟨rfl, rfl, rfl⟩ := hcs
      exact ⟨fun _ => 0, fun _ => 0, fun _ => 0, .inl rfl⟩
    · simp [Value.cells] at hcs
      obtain ⟨rfl, rfl, rfl⟩ := hcs
      by_cases hz : len0 = 0
      · exact ⟨fun _ => 0, fun _ => 0, fun _ => 0, .inl hz⟩
      · obtain ⟨b, off, spot⟩ := x
        obtain ⟨_, _, _, s0, _, _⟩ := hcell 0 (by omega)
        have hspot : spot = none := by simpa [Addr.add] using World.cell?_spot s0
        subst hspot
        have hch : ∀ i, ∃ y : Int × Int × Int, i < len0 → W.cell? ⟨b, off + i * 3, none⟩ = some (.int .i64 y.1) ∧ W.cell? ⟨b, off + i * 3 + 1, none⟩ = some (.int .i64 y.2.1) ∧ W.cell? ⟨b, off + i * 3 + 2, none⟩ = some (.int .i64 y.2.2) := fun i => by
          by_cases hi : i < len0
          · obtain ⟨x0, x1, x2, e0, e1, e2⟩ := hcell i hi
            rw [add_plain] at e0 e1 e2
            exact ⟨(x0, x1, x2), fun _ => ⟨e0, e1, e2⟩⟩
          · exact ⟨(0, 0, 0), fun h => absurd h hi⟩
        refine ⟨fun i => (hch i).choose.1, fun i => (hch i).choose.2.1, fun i => (hch i).choose.2.2, .inr ⟨b, off, rfl, World.block_lt_of_cell? W ⟨b, off + 0 * 3, none⟩ ((hch 0).choose_spec (by omega)).1, fun i hi => (hch i).choose_spec hi⟩⟩
  clear hA0 hval0
  refine (walk a0 len0 cap0 K U X W w0).mono fun e W' ⟨he, bel⟩ => ?_
  subst he
  exact ⟨_, rfl, _, _, _, [], _, [], hW', trodAll_mk1 (shut_bool Try.underlying4 _), (trodAll_cons_mk (Below.trod laidOut (by kernel_rfl) (of_decide_eq_true (by kernel_rfl)) k0 bel lt0) trodAll_mk0), rfl, bel.frame _, fun h => by cases h⟩

theorem over : Rows.queuePlaysRow.holds Try.pinned (OpenSpec.ofChange Rows.queuePlaysSpec) :=
  OpenClaim.holds_of_wide 7 Try.f7 rfl rfl rfl rfl rfl rfl rfl ⟨rfl, rfl, rfl, rfl, rfl⟩ rfl rfl rfl rfl rfl (by kernel_rfl) Try.func7 (by kernel_rfl)
    (of_decide_eq_true (by kernel_rfl)) (by unfold Func.isWrapper; first | (rw [if_pos (by decide +kernel)]; kernel_rfl) | (rw [if_neg (by decide +kernel)]; exact ⟨rfl, rfl⟩))
    (fun os started H enc _ => lifted os started H enc)

theorem proved : Rows.QueuePlaysSaid := over
#print axioms proved
end Go.Proofs.Ytdbpcogbednokaa.queuePlays
