/-
  A core's reading functions: proposer, quorum, prepared, View.
-/
import Derived.Test.YtilhdelijdkjpaaVT
set_option linter.unusedVariables false
set_option linter.unusedSimpArgs false
namespace Go.Proofs.Ytilhdelijdkjpaa
open Go Go.RowKit Go.Maps Sac

theorem ViewsAt.look {col : Colour} {ci p ob : Nat} {w : World} {m : List (Int × TellM)} (h : ViewsAt col ci p w ob m) {view : Int} (hv : (Lit.int .i64 view).wf = true) :
    ∃ mv, (Instr.lookup 105 (.map (some ob)) (.int .i64 view) false).run Try.prog w = .ok mv w ∧ TMap w mv (inner m view) := by
  obtain ⟨hc, lo, hmo, hr, hinj⟩ := h
  have l1 := hmo.lookOne Try.underlying3 Try.underlying105 (Try.zeroValue108 w) hv
  refine ⟨_, l1, ?_⟩
  unfold inner
  rcases hr.lookM view with ⟨h1, h2⟩ | ⟨x, t, h1, h2, ib, rfl, hne, htn, hci, li, hmi, hri⟩
  · rw [h1, h2]
    exact .inl ⟨rfl, rfl⟩
  · rw [h1, h2]
    exact .inr ⟨ib, li, rfl, hmi, hri⟩
theorem ViewsAt.drew {col : Colour} {ci p ob : Nat} {w : World} {m : List (Int × TellM)} (ht : Tinted col w) (h : ViewsAt col ci p w ob m) : ViewsAt col ci p w.drew ob m :=
  h.ext (G := fun _ => False) (Ext.below ht (Below.refl _ w).drew) ht (fun h => h)
theorem Tinted.below {col : Colour} {w w' : World} (ht : Tinted col w) (hb : Below w.heap.size w w') : Tinted col w' := (Ext.below (G := fun _ => False) ht hb).tint
theorem CoreAt.below {acc : Bs → Bool} {col : Colour} {w w' : World} {ci b : Nat} {c : Core} (ht : Tinted col w) (h : CoreAt acc col ci w b c) (hb : Below w.heap.size w w') : CoreAt acc col ci w' b c :=
  h.ext (G := fun _ => False) (Ext.below ht hb) ht (fun _ h => h)
theorem inner_small {m : List (Int × TellM)} (h : MapsOk m) (hs : ∀ p ∈ m, Srt p.2) (view : Int) : (inner m view).length ≤ 1000 := by
  unfold inner
  cases hl : lookM m view with
  | none => simp
  | some t =>
    have := lookM_mem hl
    have h2 := srt_length (hs _ this) (h _ this).2.2 (by omega)
    simp only [Option.getD_some]
    have h3 : (t.length : Int) ≤ 64 - 1 + 1 := h2
    omega
theorem ViewsAt.srts {col : Colour} {ci p ob : Nat} {w : World} {m : List (Int × TellM)} (h : ViewsAt col ci p w ob m) : Srt m ∧ ∀ q ∈ m, Srt q.2 := by
  obtain ⟨hc, lo, hmo, hr, hinj⟩ := h
  have hs := hr.srt hmo.srt
  refine ⟨hs, fun q hq => ?_⟩
  have := lookM_of_mem hs (show (q.1, q.2) ∈ m from hq)
  rcases hr.lookM q.1 with ⟨h1, h2⟩ | ⟨x, t, h1, h2, ib, rfl, hne, htn, hci, li, hmi, hri⟩
  · rw [this] at h2; cases h2
  · rw [this] at h2
    rw [Option.some.inj h2]
    exact hri.srt hmi.srt

set_option maxHeartbeats 400000 in
theorem quorum_any (n : Int) (w : World) (h : 1 ≤ n ∧ n ≤ 64) : Calls Try.prog 113 #[.int .i64 n] w fun e w' => e = .returned (.int .i64 (quorum n)) ∧ w' = w := by
  have h1 : IntKind.i64.wrap (n - 1) = n - 1 := by rw [IntKind.wrap_i64]; omega
  have h2 : (n - 1).tdiv 3 = (n - 1) / 3 := by rw [Int.tdiv_eq_ediv_of_nonneg (by omega)]
  have h3 : IntKind.i64.wrap ((n - 1) / 3) = (n - 1) / 3 := by rw [IntKind.wrap_i64]; omega
  have h4 : IntKind.i64.wrap (n - (n - 1) / 3) = n - (n - 1) / 3 := by rw [IntKind.wrap_i64]; omega
  go_enter Try.func113, Try.ntmps113
  go_wp2_with fail
  go_ret
  exact ⟨by first | rfl | (unfold quorum; simp_all), rfl⟩

set_option maxRecDepth 100000 in
set_option maxHeartbeats 400000 in
theorem proposer_raw (b : Nat) (n slot view : Int) (w : World) (c0 : w.cell? ⟨b, 0, none⟩ = some (.int .i64 n)) (c2 : w.cell? ⟨b, 2, none⟩ = some (.int .i64 slot)) (hn : 4 ≤ n ∧ n ≤ 64) (hs : 0 ≤ slot ∧ slot ≤ 256) (hv : 0 ≤ view ∧ view ≤ 4294967295) :
    Calls Try.prog 63 #[.pointer (some ⟨b, 0, none⟩), .int .i64 view] w fun e w' => e = .returned (.int .i64 (1 + (slot + view) % n)) ∧ Below w.heap.size w w' := by
  have h1 : IntKind.i64.wrap (slot + view) = slot + view := by rw [IntKind.wrap_i64]; omega
  have h2 : (slot + view).tmod n = (slot + view) % n := by rw [Int.tmod_eq_emod_of_nonneg (by omega)]
  have h5 : 0 ≤ (slot + view) % n ∧ (slot + view) % n < n := ⟨Int.emod_nonneg _ (by omega), Int.emod_lt_of_pos _ (by omega)⟩
  have h3 : IntKind.i64.wrap ((slot + view) % n) = (slot + view) % n := by rw [IntKind.wrap_i64]; omega
  have h4 : IntKind.i64.wrap (1 + (slot + view) % n) = 1 + (slot + view) % n := by rw [IntKind.wrap_i64]; omega
  have hn0 : n ≠ 0 := by omega
  have hn1 : ¬ n = 0 := hn0
  have hnb : (n == 0) = false := by rw [beq_eq_false_iff_ne]; exact hn0
  have hnm : ¬ n = -1 := by omega
  go_enter Try.func63, Try.ntmps63
  go_wp2_with fail
  go_region
  all_goals
    go_wp2_with fail
    go_ret
    exact ⟨rfl, (Below.refl _ w).drew⟩

/-- A core's block, taken apart: each of its cells. -/
theorem CoreRaw.cells {acc : Bs → Bool} {col : Colour} {ci b : Nat} {w : World} {c : Core} {fv wi lo va : Value} {pb pp cm tn sn dc : Nat} (h : CoreRaw acc col ci w b c fv wi lo va pb pp cm tn sn dc) :
    w.cell? ⟨b, 0, none⟩ = some (.int .i64 c.n) ∧ w.cell? ⟨b, 1, none⟩ = some (.int .i64 c.me) ∧ w.cell? ⟨b, 2, none⟩ = some (.int .i64 c.slot) ∧ w.cell? ⟨b, 3, none⟩ = some fv ∧ w.cell? ⟨b, 4, none⟩ = some (.int .i64 c.view) ∧ w.cell? ⟨b, 5, none⟩ = some wi ∧
    w.cell? ⟨b, 6, none⟩ = some (.bool c.wishes) ∧ w.cell? ⟨b, 7, none⟩ = some (.map (some pb)) ∧ w.cell? ⟨b, 8, none⟩ = some (.map (some pp)) ∧ w.cell? ⟨b, 9, none⟩ = some (.map (some cm)) ∧ w.cell? ⟨b, 10, none⟩ = some (.map (some tn)) ∧ w.cell? ⟨b, 11, none⟩ = some (.map (some sn)) ∧
    w.cell? ⟨b, 12, none⟩ = some (.map (some dc)) ∧ w.cell? ⟨b, 13, none⟩ = some (.int .i64 c.lock) ∧ w.cell? ⟨b, 14, none⟩ = some lo ∧ w.cell? ⟨b, 15, none⟩ = some (.bool c.decided) ∧ w.cell? ⟨b, 16, none⟩ = some va :=
  ⟨h.hblk.cell 0, h.hblk.cell 1, h.hblk.cell 2, h.hblk.cell 3, h.hblk.cell 4, h.hblk.cell 5, h.hblk.cell 6, h.hblk.cell 7, h.hblk.cell 8, h.hblk.cell 9, h.hblk.cell 10, h.hblk.cell 11, h.hblk.cell 12, h.hblk.cell 13, h.hblk.cell 14, h.hblk.cell 15, h.hblk.cell 16⟩

/-- What its numbers and keys are in bounds of. -/
structure CoreIn (c : Core) : Prop where
  n : 4 ≤ c.n ∧ c.n ≤ 64
  me : 1 ≤ c.me ∧ c.me ≤ c.n
  slot : 0 ≤ c.slot ∧ c.slot ≤ 256
  view : 0 ≤ c.view ∧ c.view ≤ 4294967295
  lock : -1 ≤ c.lock ∧ c.lock ≤ 4294967295
  props : KeysIn 0 4294967295 c.proposals
  prepares : MapsOk c.prepares
  commits : MapsOk c.commits
  turns : MapsOk c.turns
  deciders : KeysIn 1 64 c.deciders
  seen : KeysIn 1 64 c.seen
  len1 : ∀ p ∈ c.proposals, p.2.1.length ≤ 4096 ∧ -1 ≤ p.2.2 ∧ p.2.2 ≤ 4294967295
  len2 : ∀ p ∈ c.prepares, ∀ q ∈ p.2, q.2.length ≤ 4096
  len3 : ∀ p ∈ c.commits, ∀ q ∈ p.2, q.2.length ≤ 4096
  len0 : c.wish.length ≤ 4096 ∧ c.locked.length ≤ 4096 ∧ c.value.length ≤ 4096
  len6 : ∀ q ∈ c.deciders, q.2.length ≤ 4096

set_option maxRecDepth 100000 in
set_option maxHeartbeats 1000000 in
theorem prepared_any {acc : Bs → Bool} {col : Colour} {ci b : Nat} {w : World} {c : Core} (view : Int) (ht : Tinted col w) (h : CoreAt acc col ci w b c) (hok : CoreIn c) (hv : -1 ≤ view ∧ view ≤ 4294967295) :
    Calls Try.prog 111 #[.pointer (some ⟨b, 0, none⟩), .int .i64 view] w (CountPost (prepared c view) w) := by
  obtain ⟨fv, wi, lo, va, pb, pp, cm, tn, sn, dc, h⟩ := h
  obtain ⟨c0, c1, c2, c3, c4, c5, c6, c7, c8, c9, c10, c11, c12, c13, c14, c15, c16⟩ := h.cells
  have hpp := h.hpp
  have hsm := inner_small hok.prepares hpp.srts.2 view
  obtain ⟨mv, hl, hT⟩ := (hpp.drew ht).look (view := view) (wf64_mk (by omega) (by omega))
  have hq := quorum_any c.n w.drew (by have := hok.n; omega)
  have hc := count_any (quorum c.n) hT hsm
  have HQ := Lib.hid hq
  have HC := Lib.hid hc
  clear c1 c2 c3 c4 c5 c6 c7 c9 c10 c11 c12 c13 c14 c15 c16 hpp h hok hsm hT hq hc ht hv
  unfold prepared
  go_enter Try.func111, Try.ntmps111
  go_wp2_with fail
  rename_i Kc hKc
  go_region_law (first
      | (go_simp; go_at_call 113; refine HQ.out.mono ?_; rintro e wq ⟨rfl, rfl⟩)
      | (go_simp; go_at_call 112; refine HC.out.mono ?_; rintro e w2 ⟨hb2, v2, rfl, hrb⟩))
  all_goals
    refine hKc _ _ ?_
    go_wp2_with fail
    go_ret2
    exact ⟨(Below.refl _ w).drew.trans hb2, _, rfl, hrb⟩

end Go.Proofs.Ytilhdelijdkjpaa
