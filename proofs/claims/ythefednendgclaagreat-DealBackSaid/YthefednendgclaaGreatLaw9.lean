import Derived.Test.YthefednendgclaaGreatGrpNew
import Derived.Test.YthefednendgclaaGreatCertB
import Derived.Test.YthefednendgclaaGreatInvF
import Derived.Deep.MidRow
set_option linter.unusedVariables false
set_option linter.unusedSimpArgs false
/-
  The law's numbers: the parameters and chains of the three groups.
-/
namespace Go.Proofs.YthefednendgclaaGreat
open Go Go.RowKit Sac NT

theorem StepsAt.below {w w' : World} {g : Nat} {st : List Stp} (h : StepsAt w w.heap.size g st) (hb : Below w.heap.size w w') : StepsAt w' w'.heap.size g st := by
  have h1 := h.kt (B := w.heap.size) (T := 36) (by decide) (by decide) (Nat.le_refl _) (KT.below (Nat.le_refl _) hb)
  refine ⟨h1.1, fun i hi => ?_⟩
  obtain ⟨na, nl, nc, ba, bl, bc, pa, pc, c0, c1, c2, n0, n1, n2, n3⟩ := h1.2 i hi
  exact ⟨na, nl, nc, ba, bl, bc, pa, pc, c0, c1, c2, n0, n1, ⟨n2.1, fun ad h1 h2 => Nat.lt_of_lt_of_le (n2.2 ad h1 h2) hb.size⟩, n3⟩

/-- The chain cv shows that n is a prime. -/
def PrF (w : World) (cv : Value) (n : Nat) : Prop := ∀ w' a l c, Below w.heap.size w w' → NatS w' a l n → Calls Tryz.prog 85 #[.agg #[.slice a l c], cv] w' fun e w'' => e = .returned (.bool true) ∧ Below w'.heap.size w' w''
theorem PrF.small {w : World} {cv : Value} {n : Nat} (h : SmallP n) : PrF w cv n := fun w' a l c _ hn => prime_small a l c n cv w' hn h
theorem PrF.chain {w : World} {g len cap n : Nat} {st : List Stp} (hst : StepsAt w w.heap.size g st) (hlen : st.length = len) (hcap : (len : Int) ≤ cap) (hok : ChainOk st) (hbig : 65536 ≤ n) (hmem : ∃ t ∈ st, t.N = n) : PrF w (.slice (some ⟨g, 0, none⟩) len cap) n :=
  fun w' a l c hb hn => prime_chain a l c n g cap len st w' hn hbig (hst.below hb) hlen hcap hok hmem

def st1 : List Stp := [⟨655211, 2, [65521], [65521]⟩]
def st2 : List Stp := [⟨Q60, 13, [2, 3, 11, 683, 2971], [32, 3, 121, 683, 2971]⟩, ⟨20752587082923246163, 2, [Q60], [Q60]⟩]
theorem st1_ok : ChainOk st1 where
  le := by decide
  ok := fun i h => by
    obtain rfl : i = 0 := by simp [st1] at h; omega
    exact step1
  small := fun t ht => by
    obtain rfl := List.mem_singleton.1 ht
    exact ⟨by decide, by decide, fun p hp => by rw [List.mem_singleton.1 hp]; decide⟩
theorem st2_ok : ChainOk st2 where
  le := by decide
  ok := fun i h => by
    have h' : i < 2 := h
    match i, h' with
    | 0, _ => exact step2
    | 1, _ => exact step3
  small := fun t ht => by
    simp only [st2, List.mem_cons, List.not_mem_nil, or_false] at ht
    rcases ht with rfl | rfl
    · exact ⟨by decide, by decide, by decide⟩
    · exact ⟨by decide, by decide, by decide⟩

/-- What the law's numbers hand back. -/
def NumPost (k : Nat) (sv : Value) (w : World) (e : Ending) (w' : World) : Prop := ∃ (pa : Option Addr) (pl pc : Nat) (qa : Option Addr) (ql qc : Nat) (ga : Option Addr) (gl gc : Nat) (cv : Value),
  e = .returned (.tuple #[.agg #[.slice pa pl pc, .slice qa ql qc, .slice ga gl gc, sv], cv]) ∧ NatS w' pa pl (gP k) ∧ NatS w' qa ql (gQ k) ∧ NatS w' ga gl (gG k) ∧ PrF w' cv (gP k) ∧ PrF w' cv (gQ k) ∧ Below w.heap.size w w'

theorem ret_params {fn : Func} {p t : Tmp} {R : Ending → World → Prop} {tmps : Array Value} {w : World} {g : Nat} {cs : List Value} {v : Value} (hl : cs.length = 4) (h : fn.results = #[.cell p 95, .tmp t]) (hp : tmps.getD p undef = .pointer (some ⟨g, 0, none⟩)) (ht : tmps.getD t undef = v)
    (hB : Blk w g 95 cs) (hR : R (.returned (.tuple #[.agg cs.toArray, v])) w) : bodyPost Tryz.prog fn R .ret { tmps, defers := [] } w := by
  refine bodyPost_ret (v := .tuple #[.agg cs.toArray, v]) ?_ rfl hR
  obtain ⟨a, b, c, d, rfl⟩ : ∃ a b c d, cs = [a, b, c, d] := by
    match cs, hl with
    | [a, b, c, d], _ => exact ⟨a, b, c, d, rfl⟩
  have hl := run_loadVar_row (P := Tryz.prog) (ty := 95) w g 95 #[a, b, c, d] (0, 0) _ hB Tryz.underlying95 rfl (by kernel_rfl)
  rw [results_cell_tmp h]
  simp only [hp, ht, asAddr, Sem.run_pure, Result.andThen_ok, hl]

theorem store4 {w : World} {s : Nat} {a b c d a0 b0 c0 d0 : Value} (h : Blk w s 95 [a0, b0, c0, d0]) : Blk ((((w.setCell ⟨s, 0, none⟩ a).setCell ⟨s, 1, none⟩ b).setCell ⟨s, 2, none⟩ c).setCell ⟨s, 3, none⟩ d) s 95 [a, b, c, d] :=
  (((h.set 0 a).set 1 b).set 2 c).set 3 d
theorem NatS.store4 {w : World} {s : Nat} {a b c d a0 b0 c0 d0 : Value} (h : Blk w s 95 [a0, b0, c0, d0]) {x : Option Addr} {l n : Nat} (hn : NatS w x l n) : NatS ((((w.setCell ⟨s, 0, none⟩ a).setCell ⟨s, 1, none⟩ b).setCell ⟨s, 2, none⟩ c).setCell ⟨s, 3, none⟩ d) x l n :=
  (((hn.set h 0 a).set (h.set 0 a) 1 b).set ((h.set 0 a).set 1 b) 2 c).set (((h.set 0 a).set 1 b).set 2 c) 3 d
theorem below_store4 {w0 w : World} {B s : Nat} {a b c d : Value} (h : Below B w0 w) (hs : B ≤ s) : Below B w0 ((((w.setCell ⟨s, 0, none⟩ a).setCell ⟨s, 1, none⟩ b).setCell ⟨s, 2, none⟩ c).setCell ⟨s, 3, none⟩ d) :=
  (((h.setCell (p := ⟨s, 0, none⟩) hs _).setCell (p := ⟨s, 1, none⟩) hs _).setCell (p := ⟨s, 2, none⟩) hs _).setCell (p := ⟨s, 3, none⟩) hs _

set_option maxRecDepth 100000 in
set_option maxHeartbeats 4000000 in
theorem numbers0 (n : Int) (w : World) (hk : (IntKind.u64.wrap n).tmod 3 = 0) :
    Calls Tryz.prog 41 #[.int .i64 n, .slice none 0 0] w (NumPost 0 (.slice none 0 0) w) := by
  obtain ⟨s, hs⟩ : ∃ s, s = w.heap.size := ⟨_, rfl⟩
  have hB0 : Blk (w.alloc (Obj.cells #[Value.slice none 0 0, Value.slice none 0 0, Value.slice none 0 0, Value.slice none 0 0] 95)) s 95 [.slice none 0 0, .slice none 0 0, .slice none 0 0, .slice none 0 0] := Blk.new' w _ _ s hs
  have hb0 : Below w.heap.size w (w.alloc (Obj.cells #[Value.slice none 0 0, Value.slice none 0 0, Value.slice none 0 0, Value.slice none 0 0] 95)) := (Below.refl _ w).alloc (Nat.le_refl _) _
  have HB0 := Lib.hid hB0
  have HW0 := Lib.hid hb0
  have HS := Lib.hid hs
  clear hB0 hb0
  go_enter Tryz.func41, Tryz.ntmps41
  go_wp2_with fail
  rw [← hs]
  clear hs
  generalize w.alloc (Obj.cells #[Value.slice none 0 0, Value.slice none 0 0, Value.slice none 0 0, Value.slice none 0 0] 95) = w1 at HB0 HW0 ⊢
  refine (new_s 607 w1 (by decide)).mono ?_
  rintro e w2 ⟨pa, pl, pc, rfl, hP, hb2⟩
  have HP := Lib.hid hP
  have hbb2 : BB w1 w2 := hb2
  clear hP hb2
  go_wp2_with fail
  refine (new_s 101 w2 (by decide)).mono ?_
  rintro e w3 ⟨qa, ql, qc, rfl, hQ, hb3⟩
  have HP3 := Lib.hid (HP.out.below hb3)
  have HQ := Lib.hid hQ
  have hbb3 : BB w1 w3 := BB.step hbb2 hb3
  clear hQ hb3
  go_wp2_with fail
  refine (new_s 64 w3 (by decide)).mono ?_
  rintro e w4 ⟨ga, gl, gc, rfl, hG, hb4⟩
  have HP4 := Lib.hid (HP3.out.below hb4)
  have HQ4 := Lib.hid (HQ.out.below hb4)
  have HG := Lib.hid hG
  have hbb4 : BB w1 w4 := BB.step hbb3 hb4
  have HB4 := Lib.hid (HB0.out.below hbb4 HB0.out.lt)
  have d0 := HB4.out.cell 0
  have d1 := HB4.out.cell 1
  have d2 := HB4.out.cell 2
  have d3 := HB4.out.cell 3
  have e0 := HB4.out.frozen 0
  have e1 := HB4.out.frozen 1
  have e2 := HB4.out.frozen 2
  have e3 := HB4.out.frozen 3
  simp only [List.getElem?_cons_zero, List.getElem?_cons_succ] at d0 d1 d2 d3
  clear hG hb4 HP HP3 HQ
  go_wp2_with fail
  refine ret_params rfl rfl rfl rfl (store4 HB4.out) ⟨pa, pl, pc, qa, ql, qc, ga, gl, gc, .slice none 0 0, rfl, HP4.out.store4 HB4.out, HQ4.out.store4 HB4.out, HG.out.store4 HB4.out, PrF.small small607, PrF.small small101, ?_⟩
  exact below_store4 (HW0.out.trans (Below.mono hbb4 HW0.out.size)) (by rw [HS.out]; exact Nat.le_refl _)

theorem NatsOwn.toAt {w : World} {base n cap : Nat} {a : Option Addr} {ns : List Nat} (h : NatsOwn w base (.slice a n cap) ns) : NatsAt w a ns := by
  obtain ⟨a', c', e, _, _, h1, _⟩ := h.form
  injection e with e1 _ _
  exact e1 ▸ h1

theorem NatsAt.setOther {w : World} {a : Option Addr} {ns : List Nat} {k : Nat} {e : TypeId} {cs : List Value} (h : NatsAt w a ns) (hB : Blk w k e cs) (he : 36 ≠ e) (he' : 106 ≠ e) (o : Nat) (v : Value) : NatsAt (w.setCell ⟨k, o, none⟩ v) a ns := by
  obtain ⟨vs, hl, hr, hv⟩ := h
  refine ⟨vs, hl, hr.setCell hB he o v, fun i hi => ?_⟩
  obtain ⟨x, l, c, h1, h2⟩ := hv i hi
  exact ⟨x, l, c, h1, h2.set hB o v he'⟩
theorem StepsAt.setOther {w : World} {s g k : Nat} {st : List Stp} {cs : List Value} (h : StepsAt w s g st) (hB : Blk w k 95 cs) (o : Nat) (v : Value) : StepsAt (w.setCell ⟨k, o, none⟩ v) s g st := by
  obtain ⟨h1, h2⟩ := h
  have hne : g ≠ k := h1.ne hB (by decide)
  have hs := heap_setCell_other w ⟨k, o, none⟩ g v hne
  refine ⟨h1.same hs, fun i hi => ?_⟩
  obtain ⟨na, nl, nc, ba, bl, bc, pa, pc, c0, c1, c2, n0, n1, n2, n3⟩ := h2 i hi
  have hc : ∀ o', (w.setCell ⟨k, o, none⟩ v).cell? ⟨g, o', none⟩ = w.cell? ⟨g, o', none⟩ := fun o' => World.cell?_of_block hs
  exact ⟨na, nl, nc, ba, bl, bc, pa, pc, (hc _).trans c0, (hc _).trans c1, (hc _).trans c2, n0.set hB o v, n1.set hB o v, ⟨n2.1.setOther hB (by decide) (by decide) o v, n2.2⟩, n3⟩
theorem StepsAt.store4 {w : World} {s g k : Nat} {st : List Stp} {a b c d a0 b0 c0 d0 : Value} (h : StepsAt w w.heap.size g st) (hB : Blk w k 95 [a0, b0, c0, d0]) : StepsAt ((((w.setCell ⟨k, 0, none⟩ a).setCell ⟨k, 1, none⟩ b).setCell ⟨k, 2, none⟩ c).setCell ⟨k, 3, none⟩ d) ((((w.setCell ⟨k, 0, none⟩ a).setCell ⟨k, 1, none⟩ b).setCell ⟨k, 2, none⟩ c).setCell ⟨k, 3, none⟩ d).heap.size g st := by
  have hz : ((((w.setCell ⟨k, 0, none⟩ a).setCell ⟨k, 1, none⟩ b).setCell ⟨k, 2, none⟩ c).setCell ⟨k, 3, none⟩ d).heap.size = w.heap.size := by simp [World.setCell]
  rw [hz]
  exact (((h.setOther hB 0 a).setOther (hB.set 0 a) 1 b).setOther ((hB.set 0 a).set 1 b) 2 c).setOther (((hB.set 0 a).set 1 b).set 2 c) 3 d

set_option maxRecDepth 100000 in
set_option maxHeartbeats 4000000 in
theorem numbers1 (n : Int) (w : World) (hk : (IntKind.u64.wrap n).tmod 3 = 1) :
    Calls Tryz.prog 41 #[.int .i64 n, .slice none 0 0] w (NumPost 1 (.slice none 0 0) w) := by
  obtain ⟨s, hs⟩ : ∃ s, s = w.heap.size := ⟨_, rfl⟩
  have hB0 : Blk (w.alloc (Obj.cells #[Value.slice none 0 0, Value.slice none 0 0, Value.slice none 0 0, Value.slice none 0 0] 95)) s 95 [.slice none 0 0, .slice none 0 0, .slice none 0 0, .slice none 0 0] := Blk.new' w _ _ s hs
  have hb0 : Below w.heap.size w (w.alloc (Obj.cells #[Value.slice none 0 0, Value.slice none 0 0, Value.slice none 0 0, Value.slice none 0 0] 95)) := (Below.refl _ w).alloc (Nat.le_refl _) _
  have HB0 := Lib.hid hB0
  have HW0 := Lib.hid hb0
  have HS := Lib.hid hs
  clear hB0 hb0
  go_enter Tryz.func41, Tryz.ntmps41
  go_wp2_with fail
  rw [← hs]
  clear hs
  generalize w.alloc (Obj.cells #[Value.slice none 0 0, Value.slice none 0 0, Value.slice none 0 0, Value.slice none 0 0] 95) = w1 at HB0 HW0 ⊢
  refine (new_s 655211 w1 (by decide)).mono ?_
  rintro e w2 ⟨pa, pl, pc, rfl, hP, hb2⟩
  have HP := Lib.hid hP
  have HBB2 : Hid (BB w1 w2) := hb2
  clear hP hb2
  go_wp2_with fail
  refine (new_s 65521 w2 (by decide)).mono ?_
  rintro e w3 ⟨qa, ql, qc, rfl, hQ, hb3⟩
  have HP3 := Lib.hid (HP.out.below hb3)
  have HQ := Lib.hid hQ
  have HBB3 : Hid (BB w1 w3) := BB.step HBB2.out hb3
  clear hQ hb3
  go_wp2_with fail
  refine (new_s 1024 w3 (by decide)).mono ?_
  rintro e w4 ⟨ga, gl, gc, rfl, hG, hb4⟩
  have HP4 := Lib.hid (HP3.out.below hb4)
  have HQ4 := Lib.hid (HQ.out.below hb4)
  have HG4 := Lib.hid hG
  have HBB4 : Hid (BB w1 w4) := BB.step HBB3.out hb4
  clear hG hb4
  go_wp2_with fail
  refine (new_s 655211 w4 (by decide)).mono ?_
  rintro e w5 ⟨na, nl, nc, rfl, hn, hb5⟩
  have HG5 := Lib.hid (HG4.out.below hb5)
  have HP5 := Lib.hid (HP4.out.below hb5)
  have HQ5 := Lib.hid (HQ4.out.below hb5)
  have HN5 := Lib.hid hn
  have HBB5 : Hid (BB w1 w5) := BB.step HBB4.out hb5
  clear hn hb5
  go_wp2_with fail
  refine (new_s 2 w5 (by decide)).mono ?_
  rintro e w6 ⟨ba, bl, bc, rfl, hb', hb6⟩
  have HG6 := Lib.hid (HG5.out.below hb6)
  have HP6 := Lib.hid (HP5.out.below hb6)
  have HQ6 := Lib.hid (HQ5.out.below hb6)
  have HN6 := Lib.hid (HN5.out.below hb6)
  have HB6 := Lib.hid hb'
  have HBB6 : Hid (BB w1 w6) := BB.step HBB5.out hb6
  clear hb' hb6
  go_wp2_with fail
  refine (new_s 65521 w6 (by decide)).mono ?_
  rintro e w7 ⟨ra, rl, rc, rfl, hr, hb7⟩
  have HG7 := Lib.hid (HG6.out.below hb7)
  have HP7 := Lib.hid (HP6.out.below hb7)
  have HQ7 := Lib.hid (HQ6.out.below hb7)
  have HN7 := Lib.hid (HN6.out.below hb7)
  have HB7 := Lib.hid (HB6.out.below hb7)
  have HR7 := Lib.hid hr
  have HBB7 : Hid (BB w1 w7) := BB.step HBB6.out hb7
  obtain ⟨w8, hw8⟩ : ∃ w8 : World, (w7.alloc (Obj.cells #[Value.slice ra rl rc] 36)).alloc (Obj.cells #[Value.slice na nl nc, Value.slice ba bl bc, Value.slice (some ⟨w7.heap.size, 0, none⟩) 1 1] 150) = w8 := ⟨_, rfl⟩
  have hb8a : Below w7.heap.size w7 (w7.alloc (Obj.cells #[Value.slice ra rl rc] 36)) := (Below.refl _ _).alloc (Nat.le_refl _) _
  have hb8b : BB (w7.alloc (Obj.cells #[Value.slice ra rl rc] 36)) w8 := hw8 ▸ BB.alloc (BB.refl _)
  have hb8 : BB w7 w8 := BB.step hb8a hb8b
  have HC8 : Hid (Blk w8 (w7.heap.size + 1) 150 [.slice na nl nc, .slice ba bl bc, .slice (some ⟨w7.heap.size, 0, none⟩) 1 1]) := by
    show Blk _ _ _ _
    rw [← hw8]
    exact Blk.new' _ [.slice na nl nc, .slice ba bl bc, .slice (some ⟨w7.heap.size, 0, none⟩) 1 1] _ _ (by simp)
  have HA8 := Lib.hid ((NatsOwn.lit (w := w7) (c := rc) w7.heap.size w7.heap.size rfl (Nat.le_refl _) hr).toAt.below hb8b)
  have HG8 := Lib.hid (HG7.out.below hb8)
  have HP8 := Lib.hid (HP7.out.below hb8)
  have HQ8 := Lib.hid (HQ7.out.below hb8)
  have HN8 := Lib.hid (HN7.out.below hb8)
  have HB8 := Lib.hid (HB7.out.below hb8)
  have HBB8 : Hid (BB w1 w8) := BB.step HBB7.out hb8
  have HBs := Lib.hid (HB0.out.below HBB8.out HB0.out.lt)
  have hlt : w7.heap.size < w8.heap.size := by rw [← hw8]; simp; omega
  have hss : s < w7.heap.size := Nat.lt_of_lt_of_le HB0.out.lt HBB7.out.size
  have HLT := Lib.hid hlt
  have HSS := Lib.hid hss
  have d0 := HBs.out.cell 0
  have d1 := HBs.out.cell 1
  have d2 := HBs.out.cell 2
  have d3 := HBs.out.cell 3
  have e0 := HBs.out.frozen 0
  have e1 := HBs.out.frozen 1
  have e2 := HBs.out.frozen 2
  have e3 := HBs.out.frozen 3
  simp only [List.getElem?_cons_zero, List.getElem?_cons_succ] at d0 d1 d2 d3
  clear hr hb7 hb8 hb8a hb8b hlt hss
  go_wp2_with fail
  have hst : StepsAt w8 w8.heap.size (w7.heap.size + 1) st1 := by
    refine ⟨HC8.out.ety, fun i hi => ?_⟩
    obtain rfl : i = 0 := by simp [st1] at hi; omega
    exact ⟨na, nl, nc, ba, bl, bc, _, 1, HC8.out.cell 0, HC8.out.cell 1, HC8.out.cell 2, HN8.out, HB8.out, ⟨HA8.out, fun ad h _ => by obtain rfl := Option.some.inj h; exact HLT.out⟩, by show ((1 : Nat) : Int) ≤ ((1 : Nat) : Int); exact Int.le_refl _⟩
  refine ret_params rfl rfl rfl rfl (store4 HBs.out) ⟨pa, pl, pc, qa, ql, qc, ga, gl, gc, _, rfl, HP8.out.store4 HBs.out, HQ8.out.store4 HBs.out, HG8.out.store4 HBs.out, PrF.chain (hst.store4 (s := 0) HBs.out) rfl (by decide) st1_ok (by decide) ⟨_, List.mem_singleton.2 rfl, rfl⟩, PrF.small small65521, ?_⟩
  exact below_store4 (HW0.out.trans (Below.mono HBB8.out HW0.out.size)) (by rw [HS.out]; exact Nat.le_refl _)
end Go.Proofs.YthefednendgclaaGreat
/-
  The law's numbers: what the third group's walk needs.
-/
namespace Go.Proofs.YthefednendgclaaGreat
open Go Go.RowKit Sac NT

set_option maxRecDepth 100000 in
set_option maxHeartbeats 4000000 in
theorem big_any (h l : Nat) (w : World) (hh : h < 18446744073709551616) (hl : l < 18446744073709551616) :
    Calls Tryz.prog 93 #[.int .u64 (h : Int), .int .u64 (l : Int)] w (RetS (h * 4294967296 + l) w) := by
  have HH := Lib.hid hh
  have HL := Lib.hid hl
  have hm1 : h * 4294967296 < W ^ 1000 := @lt_wpow _ 3 1000 (Nat.lt_of_lt_of_le (m := 79228162514264337593543950336) (by omega) (by decide)) (by decide)
  have hm2 : h * 4294967296 + l < W ^ 1000 := by
    have h1 : h * 4294967296 + l < h * 4294967296 + 18446744073709551616 := Nat.add_lt_add_left hl _
    have h2 : h * 4294967296 + 18446744073709551616 ≤ 18446744073709551616 * 4294967296 + 18446744073709551616 := Nat.add_le_add_right (Nat.mul_le_mul_right _ (Nat.le_of_lt hh)) _
    exact @lt_wpow _ 4 1000 (Nat.lt_of_lt_of_le (Nat.lt_of_lt_of_le h1 h2) (by decide)) (by decide)
  have HM1 := Lib.hid hm1
  have HM2 := Lib.hid hm2
  obtain ⟨s, hs⟩ : ∃ s, s = w.heap.size := ⟨_, rfl⟩
  have HE0 := Lib.hid ((NE.init w s hs).alloc s hs (natS_nil w) (c := 0))
  have HS := Lib.hid hs
  clear hh hl hm1 hm2
  go_enter Tryz.func93, Tryz.ntmps93
  go_wp2_with fail
  rw [← hs]
  clear hs
  generalize w.alloc (Obj.cells #[Value.slice none 0 0] 36) = w1 at HE0 ⊢
  refine (new_s h w1 HH.out).mono ?_
  rintro e w2 ⟨aa, al, ac, rfl, ha, hb2⟩
  have HE2 := Lib.hid (HE0.out.below hb2)
  have HA2 := Lib.hid ha
  clear ha hb2
  go_wp2_with fail
  refine (new_s 4294967296 w2 (by decide)).mono ?_
  rintro e w3 ⟨ba, bl, bc, rfl, hb, hb3⟩
  have HE3 := Lib.hid (HE2.out.below hb3)
  have HA3 := Lib.hid (HA2.out.below hb3)
  have HB3 := Lib.hid hb
  clear hb hb3
  go_wp2_with fail
  refine (mul_s aa ba al ac bl bc h 4294967296 w3 HA3.out HB3.out HM1.out).mono ?_
  rintro e w4 ⟨ca, cl, cc, rfl, hc, hb4⟩
  have HE4 := Lib.hid (HE3.out.below hb4)
  have HC4 := Lib.hid hc
  clear hc hb4
  go_wp2_with fail
  refine (new_s l w4 HL.out).mono ?_
  rintro e w5 ⟨da, dl, dc, rfl, hd, hb5⟩
  have HE5 := Lib.hid (HE4.out.below hb5)
  have HC5 := Lib.hid (HC4.out.below hb5)
  have HD5 := Lib.hid hd
  clear hd hb5
  go_wp2_with fail
  refine (add_s ca da cl cc dl dc _ l w5 HC5.out HD5.out HM2.out).mono ?_
  rintro e w6 ⟨xa, xl, xc, rfl, hx, hb6⟩
  have HE6 := Lib.hid (HE5.out.below hb6)
  have HX6 := Lib.hid hx
  obtain ⟨_, _, _, c0, f0, _⟩ := HE6.out.box 0 rfl
  clear hx hb6
  go_wp2_with fail
  exact (HE6.out.set 0 rfl HX6.out (c := xc)).ret HS.out (i := 0) rfl rfl rfl

/-- Of the old blocks only s may have changed, which still is a row of parameters. -/
def SB (s : Nat) (w w' : World) : Prop := Only (· = s) w w' ∧ ∃ a b c d : Value, Blk w' s 95 [a, b, c, d]
theorem SB.drew {s : Nat} {w w' : World} (h : SB s w w') : SB s w w'.drew := ⟨h.1.drew, h.2⟩
theorem SB.alloc {s : Nat} {w w' : World} (h : SB s w w') {o : Obj} : SB s w (w'.alloc o) := by
  obtain ⟨h1, a, b, c, d, h2⟩ := h
  exact ⟨h1.alloc o, a, b, c, d, h2.alloc o⟩
theorem SB.step {s : Nat} {w w' w'' : World} (h : SB s w w') (hb : Below w'.heap.size w' w'') : SB s w w'' := by
  obtain ⟨h1, a, b, c, d, h2⟩ := h
  exact ⟨h1.trans' (Only.below hb (F := fun _ => False)) (fun i hf _ => hf.elim), a, b, c, d, h2.below hb h2.lt⟩
theorem SB.store4 {s : Nat} {w w' : World} {a b c d : Value} (h : SB s w w') : SB s w ((((w'.setCell ⟨s, 0, none⟩ a).setCell ⟨s, 1, none⟩ b).setCell ⟨s, 2, none⟩ c).setCell ⟨s, 3, none⟩ d) := by
  obtain ⟨h1, a0, b0, c0, d0, h2⟩ := h
  exact ⟨(((h1.setCell (p := ⟨s, 0, none⟩) (fun _ => rfl) _).setCell (p := ⟨s, 1, none⟩) (fun _ => rfl) _).setCell (p := ⟨s, 2, none⟩) (fun _ => rfl) _).setCell (p := ⟨s, 3, none⟩) (fun _ => rfl) _, a, b, c, d, Go.Proofs.YthefednendgclaaGreat.store4 h2⟩
/-- What a cell holds. -/
def cvl (w : World) (s i : Nat) : Value := (w.cell? ⟨s, i, none⟩).getD undef
theorem SB.cell {s : Nat} {w w' : World} (h : SB s w w') (i : Nat) (hi : i < 4) : w'.cell? ⟨s, i, none⟩ = some (cvl w' s i) := by
  obtain ⟨_, a, b, c, d, h2⟩ := h
  unfold cvl
  rw [h2.cell]
  match i, hi with
  | 0, _ | 1, _ | 2, _ | 3, _ => rfl
theorem SB.frozen {s : Nat} {w w' : World} (h : SB s w w') (i : Nat) : w'.frozen? ⟨s, i, none⟩ = false := by
  obtain ⟨_, a, b, c, d, h2⟩ := h
  exact h2.frozen i
theorem SB.other {s k : Nat} {w w' : World} {e : TypeId} {cs : List Value} (h : SB s w w') (hB : Blk w k e cs) (hne : k ≠ s) : Blk w' k e cs := hB.only h.1 hne
theorem blk_store4' {s : Nat} {w w' : World} {a b c d : Value} (h : SB s w w') : Blk ((((w'.setCell ⟨s, 0, none⟩ a).setCell ⟨s, 1, none⟩ b).setCell ⟨s, 2, none⟩ c).setCell ⟨s, 3, none⟩ d) s 95 [a, b, c, d] := by
  obtain ⟨_, a0, b0, c0, d0, h2⟩ := h
  exact Go.Proofs.YthefednendgclaaGreat.store4 h2
theorem natS_store4' {s : Nat} {w w' : World} {a b c d : Value} (h : SB s w w') {x : Option Addr} {l n : Nat} (hn : NatS w' x l n) : NatS ((((w'.setCell ⟨s, 0, none⟩ a).setCell ⟨s, 1, none⟩ b).setCell ⟨s, 2, none⟩ c).setCell ⟨s, 3, none⟩ d) x l n := by
  obtain ⟨_, a0, b0, c0, d0, h2⟩ := h
  exact hn.store4 h2
theorem stepsAt_store4' {s g : Nat} {w w' : World} {st : List Stp} {a b c d : Value} (h : SB s w w') (hn : StepsAt w' w'.heap.size g st) : StepsAt ((((w'.setCell ⟨s, 0, none⟩ a).setCell ⟨s, 1, none⟩ b).setCell ⟨s, 2, none⟩ c).setCell ⟨s, 3, none⟩ d) ((((w'.setCell ⟨s, 0, none⟩ a).setCell ⟨s, 1, none⟩ b).setCell ⟨s, 2, none⟩ c).setCell ⟨s, 3, none⟩ d).heap.size g st := by
  obtain ⟨_, a0, b0, c0, d0, h2⟩ := h
  exact hn.store4 (s := 0) h2
theorem natS_alloc {w : World} {x : Option Addr} {l n : Nat} {o : Obj} (hn : NatS w x l n) : NatS (w.alloc o) x l n := hn.below ((Below.refl _ w).alloc (Nat.le_refl _) _)
theorem natsAt_alloc {w : World} {x : Option Addr} {ns : List Nat} {o : Obj} (hn : NatsAt w x ns) : NatsAt (w.alloc o) x ns := hn.below ((Below.refl _ w).alloc (Nat.le_refl _) _)
theorem natsAt_lit1 {w : World} {x : Option Addr} {l c m k : Nat} (hk : k = w.heap.size) (hm : NatS w x l m) : NatsAt (w.alloc (.cells #[.slice x l c] 36)) (some ⟨k, 0, none⟩) [m] :=
  (NatsOwn.lit (c := c) k k hk (Nat.le_refl _) hm).toAt
theorem natsAt_lit5 {w : World} {x0 x1 x2 x3 x4 : Option Addr} {l0 l1 l2 l3 l4 c0 c1 c2 c3 c4 m0 m1 m2 m3 m4 k : Nat} (hk : k = w.heap.size) (h0 : NatS w x0 l0 m0) (h1 : NatS w x1 l1 m1) (h2 : NatS w x2 l2 m2) (h3 : NatS w x3 l3 m3) (h4 : NatS w x4 l4 m4) :
    NatsAt (w.alloc (.cells #[.slice x0 l0 c0, .slice x1 l1 c1, .slice x2 l2 c2, .slice x3 l3 c3, .slice x4 l4 c4] 36)) (some ⟨k, 0, none⟩) [m0, m1, m2, m3, m4] := by
  have hB := Blk.new' w [.slice x0 l0 c0, .slice x1 l1 c1, .slice x2 l2 c2, .slice x3 l3 c3, .slice x4 l4 c4] 36 k hk
  refine ⟨[.slice x0 l0 c0, .slice x1 l1 c1, .slice x2 l2 c2, .slice x3 l3 c3, .slice x4 l4 c4], rfl, Blk.rd (rest := []) hB, fun i hi => ?_⟩
  have hi' : i < 5 := hi
  match i, hi' with
  | 0, _ => exact ⟨_, _, _, rfl, natS_alloc h0⟩
  | 1, _ => exact ⟨_, _, _, rfl, natS_alloc h1⟩
  | 2, _ => exact ⟨_, _, _, rfl, natS_alloc h2⟩
  | 3, _ => exact ⟨_, _, _, rfl, natS_alloc h3⟩
  | 4, _ => exact ⟨_, _, _, rfl, natS_alloc h4⟩
theorem steps2 {X : World} {C kA kB : Nat} {qa ba pa ta : Option Addr} {ql qc bl bc pl pc tl tc : Nat} (hC : C = X.heap.size) (hq : NatS X qa ql Q60) (hb : NatS X ba bl 13) (hA : NatsAt X (some ⟨kA, 0, none⟩) [2, 3, 11, 683, 2971]) (hp : NatS X pa pl 20752587082923246163) (ht : NatS X ta tl 2) (hB : NatsAt X (some ⟨kB, 0, none⟩) [Q60]) (hkA : kA < X.heap.size) (hkB : kB < X.heap.size) :
    StepsAt (X.alloc (.cells #[.slice qa ql qc, .slice ba bl bc, .slice (some ⟨kA, 0, none⟩) 5 5, .slice pa pl pc, .slice ta tl tc, .slice (some ⟨kB, 0, none⟩) 1 1] 150)) (X.alloc (.cells #[.slice qa ql qc, .slice ba bl bc, .slice (some ⟨kA, 0, none⟩) 5 5, .slice pa pl pc, .slice ta tl tc, .slice (some ⟨kB, 0, none⟩) 1 1] 150)).heap.size C st2 := by
  have hBk := Blk.new' X [.slice qa ql qc, .slice ba bl bc, .slice (some ⟨kA, 0, none⟩) 5 5, .slice pa pl pc, .slice ta tl tc, .slice (some ⟨kB, 0, none⟩) 1 1] 150 C hC
  have hsz : X.heap.size < (X.alloc (.cells #[.slice qa ql qc, .slice ba bl bc, .slice (some ⟨kA, 0, none⟩) 5 5, .slice pa pl pc, .slice ta tl tc, .slice (some ⟨kB, 0, none⟩) 1 1] 150)).heap.size := by simp
  refine ⟨hBk.ety, fun i hi => ?_⟩
  have hi' : i < 2 := hi
  match i, hi' with
  | 0, _ => exact ⟨_, _, _, _, _, _, _, 5, hBk.cell 0, hBk.cell 1, hBk.cell 2, natS_alloc hq, natS_alloc hb, ⟨natsAt_alloc hA, fun ad h _ => by obtain rfl := Option.some.inj h; exact Nat.lt_trans hkA hsz⟩, by show ((5 : Nat) : Int) ≤ ((5 : Nat) : Int); exact Int.le_refl _⟩
  | 1, _ => exact ⟨_, _, _, _, _, _, _, 1, hBk.cell 3, hBk.cell 4, hBk.cell 5, natS_alloc hp, natS_alloc ht, ⟨natsAt_alloc hB, fun ad h _ => by obtain rfl := Option.some.inj h; exact Nat.lt_trans hkB hsz⟩, by show ((1 : Nat) : Int) ≤ ((1 : Nat) : Int); exact Int.le_refl _⟩

theorem natS_drew {w : World} {x : Option Addr} {l n : Nat} (h : NatS w x l n) : NatS w.drew x l n := h
theorem SB.toBelow {s : Nat} {w w' : World} (h : SB s w w') (hs : s ≤ w.heap.size) : Below s w w' := h.1.toBelow hs (fun k hk => by subst hk; exact Nat.le_refl _)
theorem natsAt_lt {w : World} {k n : Nat} {ns : List Nat} (h : NatsAt w (some ⟨k, 0, none⟩) (n :: ns)) : k < w.heap.size := by
  obtain ⟨ad, _, _, _, e, he, _, _⟩ := h.get (k := 0) (by simp)
  obtain rfl := Option.some.inj e
  exact he.lt

/-! ### The store of a whole row of parameters, as one step -/
def S4 (w : World) (s : Nat) (a b c d : Value) : World := (((w.setCell ⟨s, 0, none⟩ a).setCell ⟨s, 1, none⟩ b).setCell ⟨s, 2, none⟩ c).setCell ⟨s, 3, none⟩ d
def Row4 (w : World) (s : Nat) : Prop := ∃ a b c d : Value, Blk w s 95 [a, b, c, d]
def StoreHere (w : World) (p : Value) : Prop := ∃ s, p = .pointer (some ⟨s, 0, none⟩) ∧ Row4 w s
def IsRow4 (v : Value) : Prop := ∃ (x0 x1 x2 x3 : Option Addr) (l0 l1 l2 l3 c0 c1 c2 c3 : Nat), v = .agg #[.slice x0 l0 c0, .slice x1 l1 c1, .slice x2 l2 c2, .slice x3 l3 c3]
theorem isRow4 (x0 x1 x2 x3 : Option Addr) (l0 l1 l2 l3 c0 c1 c2 c3 : Nat) : IsRow4 (.agg #[.slice x0 l0 c0, .slice x1 l1 c1, .slice x2 l2 c2, .slice x3 l3 c3]) := ⟨x0, x1, x2, x3, l0, l1, l2, l3, c0, c1, c2, c3, rfl⟩
def S4p (w : World) : Value → Value → World
  | .pointer (some ad), .agg cs => S4 w ad.block (cs.getD 0 undef) (cs.getD 1 undef) (cs.getD 2 undef) (cs.getD 3 undef)
  | _, _ => w
theorem run_store4 {w : World} {p v : Value} (h : StoreHere w p) (hv : IsRow4 v) : (Instr.storeAt 95 p v).run Tryz.prog w = .ok () (S4p w p v) := by
  obtain ⟨s, rfl, a, b, c, d, hB⟩ := h
  obtain ⟨x0, x1, x2, x3, l0, l1, l2, l3, c0, c1, c2, c3, rfl⟩ := hv
  have ht : w.there s 0 4 := by
    intro j hj
    refine ⟨?_, ?_⟩
    · rw [Nat.zero_add, hB.cell]
      match j, hj with
      | 0, _ | 1, _ | 2, _ | 3, _ => rfl
    · rw [Nat.zero_add]; exact hB.frozen j
  exact run_storeAt_mid (P := Tryz.prog) w s 0 95 #[.slice x0 l0 c0, .slice x1 l1 c1, .slice x2 l2 c2, .slice x3 l3 c3] ht (by kernel_rfl) (by simp [Value.oneCell'])
theorem exec_store4 {w : World} {a : Act} (dst : Option Tmp) (x y : Operand) (ty : TypeId) (pos : String) (after : Array Edge) (guard : Option (Nat × Bool)) (h : StoreHere w (a.eval x)) (hv : IsRow4 (a.eval y)) :
    (execOp a.eval { dst, op := .store 95 x y, type := ty, pos, after, guard }).run Tryz.prog w = .ok .skip (S4p w (a.eval x) (a.eval y)) := by
  have := run_store4 h hv
  simp only [execOp, Sem.run_bind, this, Result.andThen_ok, Sem.run_pure]
theorem SB.row {s : Nat} {w w' : World} (h : SB s w w') : Row4 w' s := h.2
theorem SB.here {s : Nat} {w w' : World} (h : SB s w w') : StoreHere w' (.pointer (some ⟨s, 0, none⟩)) := ⟨s, rfl, h.2⟩
theorem SB.s4 {s : Nat} {w w' : World} {a b c d : Value} (h : SB s w w') : SB s w (S4p w' (.pointer (some ⟨s, 0, none⟩)) (.agg #[a, b, c, d])) := h.store4
theorem natS_s4 {w : World} {s : Nat} {x : Option Addr} {l n : Nat} {a b c d : Value} (h : Row4 w s) (hn : NatS w x l n) : NatS (S4p w (.pointer (some ⟨s, 0, none⟩)) (.agg #[a, b, c, d])) x l n := by
  obtain ⟨a0, b0, c0, d0, h⟩ := h
  exact hn.store4 h
theorem natsAt_s4 {w : World} {s : Nat} {x : Option Addr} {ns : List Nat} {a b c d : Value} (h : Row4 w s) (hn : NatsAt w x ns) : NatsAt (S4p w (.pointer (some ⟨s, 0, none⟩)) (.agg #[a, b, c, d])) x ns := by
  obtain ⟨a0, b0, c0, d0, h⟩ := h
  exact (((hn.setOther h (by decide) (by decide) 0 a).setOther (h.set 0 a) (by decide) (by decide) 1 b).setOther ((h.set 0 a).set 1 b) (by decide) (by decide) 2 c).setOther (((h.set 0 a).set 1 b).set 2 c) (by decide) (by decide) 3 d
theorem stepsAt_s4 {w : World} {s g : Nat} {st : List Stp} {a b c d : Value} (h : Row4 w s) (hn : StepsAt w w.heap.size g st) : StepsAt (S4p w (.pointer (some ⟨s, 0, none⟩)) (.agg #[a, b, c, d])) (S4p w (.pointer (some ⟨s, 0, none⟩)) (.agg #[a, b, c, d])).heap.size g st := by
  obtain ⟨a0, b0, c0, d0, h⟩ := h
  exact hn.store4 (s := 0) h
theorem blk_s4 {w : World} {s : Nat} {a b c d : Value} (h : Row4 w s) : Blk (S4p w (.pointer (some ⟨s, 0, none⟩)) (.agg #[a, b, c, d])) s 95 [a, b, c, d] := by
  obtain ⟨a0, b0, c0, d0, h⟩ := h
  exact Go.Proofs.YthefednendgclaaGreat.store4 h
theorem natsAt_drew {w : World} {x : Option Addr} {ns : List Nat} (h : NatsAt w x ns) : NatsAt w.drew x ns := h
theorem stepsAt_alloc {w : World} {g : Nat} {st : List Stp} {o : Obj} (h : StepsAt w w.heap.size g st) : StepsAt (w.alloc o) (w.alloc o).heap.size g st := h.below ((Below.refl _ w).alloc (Nat.le_refl _) _)
theorem steps2b {X : World} {C kA kB : Nat} {qa ba pa ta : Option Addr} {ql qc bl bc pl pc tl tc : Nat} (hC : C = X.heap.size) (hq : NatS X qa ql 1152921504606847009) (hb : NatS X ba bl 13) (hA : NatsAt X (some ⟨kA, 0, none⟩) [2, 3, 11, 683, 2971]) (hp : NatS X pa pl 20752587082923246163) (ht : NatS X ta tl 2) (hB : NatsAt X (some ⟨kB, 0, none⟩) [1152921504606847009]) :
    StepsAt (X.alloc (.cells #[.slice qa ql qc, .slice ba bl bc, .slice (some ⟨kA, 0, none⟩) 5 5, .slice pa pl pc, .slice ta tl tc, .slice (some ⟨kB, 0, none⟩) 1 1] 150)) (X.alloc (.cells #[.slice qa ql qc, .slice ba bl bc, .slice (some ⟨kA, 0, none⟩) 5 5, .slice pa pl pc, .slice ta tl tc, .slice (some ⟨kB, 0, none⟩) 1 1] 150)).heap.size C st2 :=
  steps2 hC hq hb hA hp ht hB (natsAt_lt hA) (natsAt_lt hB)
theorem blk_new {w : World} {k : Nat} {e : TypeId} {cs : List Value} {o : Obj} (h : Blk w k e cs) : Blk (w.alloc o) k e cs := h.alloc o
end Go.Proofs.YthefednendgclaaGreat
/-
  The law's numbers: what is known of many numbers, carried from world to world.
-/
namespace Go.Proofs.YthefednendgclaaGreat
open Go Go.RowKit Sac NT

/-! ### What is known of many numbers, carried from world to world -/
def AllN (w : World) (L : List (Option Addr × Nat × Nat)) : Prop := ∀ (i : Nat) (a : Option Addr) (l n : Nat), L[i]? = some (a, l, n) → NatS w a l n
theorem AllN.nil (w : World) : AllN w [] := fun i a l n hi => by simp at hi
theorem AllN.below {w w' : World} {L : List (Option Addr × Nat × Nat)} (h : AllN w L) (hb : Below w.heap.size w w') : AllN w' L := fun i a l n hi => (h i a l n hi).below hb
theorem AllN.snoc {w : World} {L : List (Option Addr × Nat × Nat)} {a : Option Addr} {l n : Nat} (h : AllN w L) (hn : NatS w a l n) : AllN w (L ++ [(a, l, n)]) := fun i a' l' n' hi => by
  rcases NE.key hi with ⟨_, hi⟩ | ⟨_, he⟩
  · exact h i _ _ _ hi
  · injection he with h1 h2
    injection h2 with h2 h3
    subst h1 h2 h3
    exact hn
theorem AllN.alloc {w : World} {L : List (Option Addr × Nat × Nat)} {o : Obj} (h : AllN w L) : AllN (w.alloc o) L := h.below ((Below.refl _ w).alloc (Nat.le_refl _) _)
theorem AllN.drew {w : World} {L : List (Option Addr × Nat × Nat)} (h : AllN w L) : AllN w.drew L := h
section
variable {w w' : World} {L : List (Option Addr × Nat × Nat)} {a : Option Addr} {l n : Nat} {A B : Obj}
theorem an0 (h : AllN w L) (hb : Below w.heap.size w w') (hn : NatS w' a l n) : AllN w' (L ++ [(a, l, n)]) := (h.below hb).snoc hn
theorem an0d (h : AllN w L) (hb : Below w.drew.heap.size w.drew w') (hn : NatS w' a l n) : AllN w' (L ++ [(a, l, n)]) := (h.drew.below hb).snoc hn
theorem an1 (h : AllN w L) (hb : Below (w.alloc A).heap.size (w.alloc A) w') (hn : NatS w' a l n) : AllN w' (L ++ [(a, l, n)]) := (h.alloc.below hb).snoc hn
theorem an1d (h : AllN w L) (hb : Below (w.alloc A).drew.heap.size (w.alloc A).drew w') (hn : NatS w' a l n) : AllN w' (L ++ [(a, l, n)]) := (h.alloc.drew.below hb).snoc hn
theorem an2 (h : AllN w L) (hb : Below ((w.alloc A).alloc B).heap.size ((w.alloc A).alloc B) w') (hn : NatS w' a l n) : AllN w' (L ++ [(a, l, n)]) := (h.alloc.alloc.below hb).snoc hn
end
section
variable {w w' : World} {y : Option Addr} {ns : List Nat} {A B : Obj}
theorem nc0 (h : NatsAt w y ns) (hb : Below w.heap.size w w') : NatsAt w' y ns := h.below hb
theorem nc1 (h : NatsAt w y ns) (hb : Below (w.alloc A).heap.size (w.alloc A) w') : NatsAt w' y ns := (natsAt_alloc h).below hb
end
section
variable {w w' : World} {x : Option Addr} {l c m : Nat} {A : Obj}
theorem n17 (h : NatS w x l m) (hb : Below (w.alloc (.cells #[.slice x l c] 36)).heap.size (w.alloc (.cells #[.slice x l c] 36)) w') : NatsAt w' (some ⟨w.heap.size, 0, none⟩) [m] := (natsAt_lit1 (c := c) rfl h).below hb
theorem n17d (h : NatS w x l m) (hb : Below (w.alloc (.cells #[.slice x l c] 36)).drew.heap.size (w.alloc (.cells #[.slice x l c] 36)).drew w') : NatsAt w' (some ⟨w.heap.size, 0, none⟩) [m] := (natsAt_drew (natsAt_lit1 (c := c) rfl h)).below hb
theorem n17b (h : NatS w x l m) (hb : Below ((w.alloc A).alloc (.cells #[.slice x l c] 36)).heap.size ((w.alloc A).alloc (.cells #[.slice x l c] 36)) w') : NatsAt w' (some ⟨w.heap.size + 1, 0, none⟩) [m] := (natsAt_lit1 (c := c) (by simp) (natS_alloc h)).below hb
theorem n17c (h : NatS w x l m) (hb : Below ((w.alloc (.cells #[.slice x l c] 36)).alloc A).heap.size ((w.alloc (.cells #[.slice x l c] 36)).alloc A) w') : NatsAt w' (some ⟨w.heap.size, 0, none⟩) [m] := (natsAt_alloc (natsAt_lit1 (c := c) rfl h)).below hb
end
section
variable {w w' : World} {x0 x1 x2 x3 x4 : Option Addr} {l0 l1 l2 l3 l4 c0 c1 c2 c3 c4 : Nat} {m0 m1 m2 m3 m4 : Nat} {A : Obj}
theorem n12 (h0 : NatS w x0 l0 m0) (h1 : NatS w x1 l1 m1) (h2 : NatS w x2 l2 m2) (h3 : NatS w x3 l3 m3) (h4 : NatS w x4 l4 m4) (hb : Below (w.alloc (.cells #[.slice x0 l0 c0, .slice x1 l1 c1, .slice x2 l2 c2, .slice x3 l3 c3, .slice x4 l4 c4] 36)).heap.size (w.alloc (.cells #[.slice x0 l0 c0, .slice x1 l1 c1, .slice x2 l2 c2, .slice x3 l3 c3, .slice x4 l4 c4] 36)) w') : NatsAt w' (some ⟨w.heap.size, 0, none⟩) [m0, m1, m2, m3, m4] := (natsAt_lit5 rfl h0 h1 h2 h3 h4).below hb
theorem n12b (h0 : NatS w x0 l0 m0) (h1 : NatS w x1 l1 m1) (h2 : NatS w x2 l2 m2) (h3 : NatS w x3 l3 m3) (h4 : NatS w x4 l4 m4) (hb : Below ((w.alloc A).alloc (.cells #[.slice x0 l0 c0, .slice x1 l1 c1, .slice x2 l2 c2, .slice x3 l3 c3, .slice x4 l4 c4] 36)).heap.size ((w.alloc A).alloc (.cells #[.slice x0 l0 c0, .slice x1 l1 c1, .slice x2 l2 c2, .slice x3 l3 c3, .slice x4 l4 c4] 36)) w') : NatsAt w' (some ⟨w.heap.size + 1, 0, none⟩) [m0, m1, m2, m3, m4] := (natsAt_lit5 (by simp) (natS_alloc h0) (natS_alloc h1) (natS_alloc h2) (natS_alloc h3) (natS_alloc h4)).below hb
theorem n12c (h0 : NatS w x0 l0 m0) (h1 : NatS w x1 l1 m1) (h2 : NatS w x2 l2 m2) (h3 : NatS w x3 l3 m3) (h4 : NatS w x4 l4 m4) (hb : Below ((w.alloc (.cells #[.slice x0 l0 c0, .slice x1 l1 c1, .slice x2 l2 c2, .slice x3 l3 c3, .slice x4 l4 c4] 36)).alloc A).heap.size ((w.alloc (.cells #[.slice x0 l0 c0, .slice x1 l1 c1, .slice x2 l2 c2, .slice x3 l3 c3, .slice x4 l4 c4] 36)).alloc A) w') : NatsAt w' (some ⟨w.heap.size, 0, none⟩) [m0, m1, m2, m3, m4] := (natsAt_alloc (natsAt_lit5 rfl h0 h1 h2 h3 h4)).below hb
end
/-- The third group's numbers are handed back. -/
theorem leaf2 {fn : Func} {p t : Tmp} {tmps : Array Value} {w W : World} {s C : Nat} {pa : Option Addr} {pl pc : Nat} {qa : Option Addr} {ql qc : Nat} {ga : Option Addr} {gl gc : Nat} (hr : fn.results = #[.cell p 95, .tmp t]) (hp : tmps.getD p undef = .pointer (some ⟨s, 0, none⟩)) (ht : tmps.getD t undef = .slice (some ⟨C, 0, none⟩) 2 2)
    (hB : Blk W s 95 [.slice pa pl pc, .slice qa ql qc, .slice ga gl gc, .slice none 0 0]) (hP : NatS W pa pl 20752587082923246163) (hQ : NatS W qa ql 1152921504606847009) (hG : NatS W ga gl 262144) (hst : StepsAt W W.heap.size C st2) (hbel : Below w.heap.size w W) :
    bodyPost Tryz.prog fn (NumPost 2 (.slice none 0 0) w) .ret { tmps, defers := [] } W :=
  ret_params (cs := [.slice pa pl pc, .slice qa ql qc, .slice ga gl gc, .slice none 0 0]) rfl hr hp ht hB ⟨pa, pl, pc, qa, ql, qc, ga, gl, gc, _, rfl, hP, hQ, hG,
    PrF.chain (st := st2) hst rfl (by decide) st2_ok (by decide) ⟨⟨20752587082923246163, 2, [Q60], [Q60]⟩, by simp [st2], rfl⟩,
    PrF.chain (st := st2) hst rfl (by decide) st2_ok (by decide) ⟨⟨Q60, 13, [2, 3, 11, 683, 2971], [32, 3, 121, 683, 2971]⟩, by simp [st2], rfl⟩, hbel⟩
end Go.Proofs.YthefednendgclaaGreat
/-
  The law's numbers: the third group.
-/
namespace Go.Proofs.YthefednendgclaaGreat
open Go Go.RowKit Sac NT

attribute [local go_sem ↓] exec_store4
attribute [local go_sem] isRow4

/-- What a store into the parameters leaves as it is. -/
def KpA (w w' : World) : Prop := KpN w w' ∧ (∀ (y : Option Addr) (ns : List Nat), NatsAt w y ns → NatsAt w' y ns) ∧ ∀ (C : Nat) (st : List Stp), StepsAt w w.heap.size C st → StepsAt w' w'.heap.size C st
theorem kpA_s4 {w : World} {s : Nat} {a b c d : Value} (h : Row4 w s) : KpA w (S4p w (.pointer (some ⟨s, 0, none⟩)) (.agg #[a, b, c, d])) := ⟨fun _ _ _ hn => natS_s4 h hn, fun _ _ hn => natsAt_s4 h hn, fun _ _ hn => stepsAt_s4 h hn⟩
def fNat (n : Nat) : Fk KpA := Fk.nat (fun _ _ h => h.1) n
def IsNats (n : Nat) (ns : List Nat) (v : Value) (w : World) : Prop := ∃ k : Nat, v = .slice (some ⟨k, 0, none⟩) n n ∧ NatsAt w (some ⟨k, 0, none⟩) ns
def fNats (n : Nat) (ns : List Nat) : Fk KpA := ⟨IsNats n ns, fun _ _ _ hb ⟨k, e, h⟩ => ⟨k, e, h.below hb⟩, true, fun _ _ _ _ hk ⟨k, e, h⟩ => ⟨k, e, hk.2.1 _ _ h⟩⟩
def IsSteps (n : Nat) (st : List Stp) (v : Value) (w : World) : Prop := ∃ C : Nat, v = .slice (some ⟨C, 0, none⟩) n n ∧ StepsAt w w.heap.size C st
def fSteps (n : Nat) (st : List Stp) : Fk KpA := ⟨IsSteps n st, fun _ _ _ hb ⟨C, e, h⟩ => ⟨C, e, h.below hb⟩, true, fun _ _ _ _ hk ⟨C, e, h⟩ => ⟨C, e, hk.2.2 _ _ h⟩⟩
/-- One step of a certificate, as a value: the number x stands as it is. -/
def IsStep (x : Value) (b n : Nat) (ns : List Nat) (v : Value) (w : World) : Prop := ∃ (ba : Option Addr) (bl bc k : Nat), v = .agg #[x, .slice ba bl bc, .slice (some ⟨k, 0, none⟩) n n] ∧ NatS w ba bl b ∧ NatsAt w (some ⟨k, 0, none⟩) ns
def fStep (x : Value) (b n : Nat) (ns : List Nat) : Fk KpA := ⟨IsStep x b n ns, fun _ _ _ hb ⟨ba, bl, bc, k, e, h1, h2⟩ => ⟨ba, bl, bc, k, e, h1.below hb, h2.below hb⟩, true, fun _ _ _ _ hk ⟨ba, bl, bc, k, e, h1, h2⟩ => ⟨ba, bl, bc, k, e, hk.1 _ _ _ h1, hk.2.1 _ _ h2⟩⟩
/-- The parameters, as a value. -/
def IsPar (x y : Value) (n : Nat) (v : Value) (w : World) : Prop := ∃ (ga : Option Addr) (gl gc : Nat), v = .agg #[x, y, .slice ga gl gc, .slice none 0 0] ∧ NatS w ga gl n
def fPar (x y : Value) (n : Nat) : Fk KpA := ⟨IsPar x y n, fun _ _ _ hb ⟨ga, gl, gc, e, h⟩ => ⟨ga, gl, gc, e, h.below hb⟩, true, fun _ _ _ _ hk ⟨ga, gl, gc, e, h⟩ => ⟨ga, gl, gc, e, hk.1 _ _ _ h⟩⟩
/-- The parameters stand in their block. -/
def InRow (s : Nat) (x y : Value) (n : Nat) (_ : Value) (w : World) : Prop := ∃ (ga : Option Addr) (gl gc : Nat), Blk w s 95 [x, y, .slice ga gl gc, .slice none 0 0] ∧ NatS w ga gl n
def fRow (s : Nat) (x y : Value) (n : Nat) : Fk KpA := .rel (InRow s x y n) (fun _ _ _ hb ⟨ga, gl, gc, h1, h2⟩ => ⟨ga, gl, gc, h1.below hb h1.lt, h2.below hb⟩)
def tab2 (s : Nat) (p q : Value) : List (Fk KpA) := [.val (.agg #[p]), .val (.agg #[q]), fNat 262144, .val (.slice none 0 0), fPar p q 262144, .val (.agg #[q]), fNat 13, fNat 2, fNat 3, fNat 11, fNat 683, fNat 2971, fNats 5 [2, 3, 11, 683, 2971],
  fStep q 13 5 [2, 3, 11, 683, 2971], .val (.agg #[p]), fNat 2, .val (.agg #[q]), fNats 1 [1152921504606847009], fStep p 2 1 [1152921504606847009], fSteps 2 st2, fRow s p q 262144, fSteps 2 st2]
def dst2 : List (Option Tmp) := [some 33, some 34, some 35, some 36, some 37, some 38, some 39, some 40, some 41, some 42, some 43, some 44, some 45, some 46, some 47, some 48, some 49, some 50, some 51, some 52, none, some 5]
def mask2 : List Bool := [false, false, false, false, false, true, false, false, false, false, false, false, false, false, false, false, false, false, false, false, false, false, false, false, false, false, false, false, false, false, false, false, false, true, true, true, true, true, true, true, true, true, true, true, true, true, true, true, true, true, true, true, true]
def pre2 : List (List Nat) := [[], [], [], [], [0, 1, 2, 3], [], [], [], [], [], [], [], [7, 8, 9, 10, 11], [5, 6, 12], [], [], [], [16], [14, 15, 17], [13, 18], [4], [19]]
def BW (s : Nat) (w5 : World) (pa : Option Addr) (pl : Nat) (qa : Option Addr) (ql : Nat) (w' : World) : Prop := SB s w5 w' ∧ NatS w' pa pl 20752587082923246163 ∧ NatS w' qa ql 1152921504606847009
theorem BW.below {s : Nat} {w5 : World} {pa : Option Addr} {pl : Nat} {qa : Option Addr} {ql : Nat} {w' w'' : World} (h : BW s w5 pa pl qa ql w') (hb : Below w'.heap.size w' w'') : BW s w5 pa pl qa ql w'' := ⟨h.1.step hb, h.2.1.below hb, h.2.2.below hb⟩
theorem BW.alloc {s : Nat} {w5 : World} {pa : Option Addr} {pl : Nat} {qa : Option Addr} {ql : Nat} {w' : World} {o : Obj} (h : BW s w5 pa pl qa ql w') : BW s w5 pa pl qa ql (w'.alloc o) := h.below ((Below.refl _ w').alloc (Nat.le_refl _) _)
theorem BW.s4 {s : Nat} {w5 : World} {pa : Option Addr} {pl : Nat} {qa : Option Addr} {ql : Nat} {w' : World} {a b c d : Value} (h : BW s w5 pa pl qa ql w') : BW s w5 pa pl qa ql (S4p w' (.pointer (some ⟨s, 0, none⟩)) (.agg #[a, b, c, d])) := ⟨h.1.s4, natS_s4 h.1.row h.2.1, natS_s4 h.1.row h.2.2⟩

set_option maxRecDepth 100000 in
set_option maxHeartbeats 20000000 in
theorem numbers2 (n : Int) (w : World) (hk : (IntKind.u64.wrap n).tmod 3 = 2) :
    Calls Tryz.prog 41 #[.int .i64 n, .slice none 0 0] w (NumPost 2 (.slice none 0 0) w) := by
  obtain ⟨s, hs⟩ : ∃ s, s = w.heap.size := ⟨_, rfl⟩
  have hB0 : Blk (w.alloc (Obj.cells #[Value.slice none 0 0, Value.slice none 0 0, Value.slice none 0 0, Value.slice none 0 0] 95)) s 95 [.slice none 0 0, .slice none 0 0, .slice none 0 0, .slice none 0 0] := Blk.new' w _ _ s hs
  have hb0 : Below w.heap.size w (w.alloc (Obj.cells #[Value.slice none 0 0, Value.slice none 0 0, Value.slice none 0 0, Value.slice none 0 0] 95)) := (Below.refl _ w).alloc (Nat.le_refl _) _
  have HB0 := Lib.hid hB0
  have HW0 := Lib.hid hb0
  have HS := Lib.hid hs
  clear hB0 hb0
  go_enter Tryz.func41, Tryz.ntmps41
  go_wp2_with fail
  rw [← hs]
  clear hs
  generalize w.alloc (Obj.cells #[Value.slice none 0 0, Value.slice none 0 0, Value.slice none 0 0, Value.slice none 0 0] 95) = w1 at HB0 HW0 ⊢
  refine (new_s 1152921504606847009 w1 (by decide)).mono ?_
  rintro e w2 ⟨qa, ql, qc, rfl, hQ, hb2⟩
  have HQ2 := Lib.hid hQ
  have HBB2 : Hid (BB w1 w2) := hb2
  obtain ⟨w3, hw3⟩ : ∃ w3, w2.alloc (Obj.cells #[Value.slice qa ql qc] 36) = w3 := ⟨_, rfl⟩
  obtain ⟨QB, hQB⟩ : ∃ QB, QB = w2.heap.size := ⟨_, rfl⟩
  have hb3 : BB w2 w3 := hw3 ▸ BB.alloc (BB.refl _)
  have HBQ3 : Hid (Blk w3 QB 36 [.slice qa ql qc]) := by show Blk _ _ _ _; rw [← hw3, hQB]; exact Blk.new w2 _ _
  have HQ3 := Lib.hid (HQ2.out.below hb3)
  have HBB3 : Hid (BB w1 w3) := BB.step HBB2.out hb3
  clear hQ hb2 hb3 HQ2
  go_wp2_with fail
  try rw [hw3]
  try rw [← hQB]
  clear hw3 hQB
  refine (big_any 4831838208 595 w3 (by decide) (by decide)).mono ?_
  rintro e w4 ⟨pa, pl, pc, rfl, hP, hb4⟩
  have HP4 := Lib.hid hP
  have HBQ4 := Lib.hid (HBQ3.out.below hb4 HBQ3.out.lt)
  have HQ4 := Lib.hid (HQ3.out.below hb4)
  obtain ⟨w5, hw5⟩ : ∃ w5, w4.alloc (Obj.cells #[Value.slice pa pl pc] 36) = w5 := ⟨_, rfl⟩
  obtain ⟨PB, hPB⟩ : ∃ PB, PB = w4.heap.size := ⟨_, rfl⟩
  have hb5 : BB w4 w5 := hw5 ▸ BB.alloc (BB.refl _)
  have HBP5 : Hid (Blk w5 PB 36 [.slice pa pl pc]) := by show Blk _ _ _ _; rw [← hw5, hPB]; exact Blk.new w4 _ _
  have HBQ5 := Lib.hid (HBQ4.out.below hb5 HBQ4.out.lt)
  have HQ5 := Lib.hid (HQ4.out.below hb5)
  have HP5 := Lib.hid (HP4.out.below hb5)
  have HBB5 : Hid (BB w1 w5) := BB.step (BB.step HBB3.out hb4) hb5
  clear hP hb4 hb5 HP4 HBQ4 HQ4 HBQ3 HQ3
  go_wp2_with fail
  try rw [hw5]
  try rw [← hPB]
  clear hw5 hPB
  have bP := HBP5.out
  have bQ := HBQ5.out
  have hb5s := HB0.out.below HBB5.out HB0.out.lt
  have hsP : PB ≠ s := fun e => ety_ne bP hb5s (by decide) e
  have hsQ : QB ≠ s := fun e => ety_ne bQ hb5s (by decide) e
  have SP : ∀ w', SB s w5 w' → w'.cell? ⟨PB, 0, none⟩ = some (.slice pa pl pc) := fun w' h => (h.other bP hsP).cell 0
  have SQ : ∀ w', SB s w5 w' → w'.cell? ⟨QB, 0, none⟩ = some (.slice qa ql qc) := fun w' h => (h.other bQ hsQ).cell 0
  have RW : ∀ w', SB s w5 w' → StoreHere w' (.pointer (some ⟨s, 0, none⟩)) := fun w' h => h.here
  have hs50 : SB s w5 w5 := ⟨Only.refl _ _, _, _, _, _, hb5s⟩
  have hs5 : SB s w5 w5.drew := ⟨(Only.refl _ _).drew, _, _, _, _, hb5s⟩
  have N2h : ∀ w', Calls Tryz.prog 13 #[.int .u64 2] w' (RetS 2 w') := fun w' => new_s 2 w' (by decide)
  have N3h : ∀ w', Calls Tryz.prog 13 #[.int .u64 3] w' (RetS 3 w') := fun w' => new_s 3 w' (by decide)
  have N11h : ∀ w', Calls Tryz.prog 13 #[.int .u64 11] w' (RetS 11 w') := fun w' => new_s 11 w' (by decide)
  have N13h : ∀ w', Calls Tryz.prog 13 #[.int .u64 13] w' (RetS 13 w') := fun w' => new_s 13 w' (by decide)
  have N683h : ∀ w', Calls Tryz.prog 13 #[.int .u64 683] w' (RetS 683 w') := fun w' => new_s 683 w' (by decide)
  have N2971h : ∀ w', Calls Tryz.prog 13 #[.int .u64 2971] w' (RetS 2971 w') := fun w' => new_s 2971 w' (by decide)
  have N262144h : ∀ w', Calls Tryz.prog 13 #[.int .u64 262144] w' (RetS 262144 w') := fun w' => new_s 262144 w' (by decide)
  have HSL := Lib.hid (Nat.le_trans (Nat.le_of_lt HB0.out.lt) HBB5.out.size)
  clear bP bQ hb5s
  have hBW : BW s w5 pa pl qa ql w5.drew := ⟨hs5, HP5.out.drew, HQ5.out.drew⟩
  have HN := Lib.hid (And.intro N2h (And.intro N3h (And.intro N11h (And.intro N13h (And.intro N683h (And.intro N2971h N262144h))))))
  have HSS := Lib.hid (And.intro SP (And.intro SQ RW))
  clear N2h N3h N11h N13h N683h N2971h N262144h SP SQ RW hs50 hs5 HP5 HQ5 HB0 HBP5 HBQ5
  refine wp_region_mix (fun _ w' => BW s w5 pa pl qa ql w') (GF (tab2 s (.slice pa pl pc) (.slice qa ql qc))) mask2 dst2 pre2 (by kernel_rfl) (by kernel_rfl) rfl (by kernel_rfl) (by kernel_rfl) (by kernel_rfl) (by kernel_rfl) hBW ?_ ?_
  · clear hBW
    refine StepsM.cons (fun l g w' hB hl hn hp K hK => ?_) ?_
    · clear hl hn; have hc := HSS.out.1 _ hB.1; simp only [mkM, mask2, mixM, Nat.reduceAdd] at hK ⊢; simp only [Act.put, List.setIfInBounds_toArray, List.set_cons_zero, List.set_cons_succ] at hK; go_simp; clear hc; exact hK.out _ _ hB GF.same rfl
    refine StepsM.cons (fun l g w' hB hl hn hp K hK => ?_) ?_
    · clear hl hn; have hc := HSS.out.2.1 _ hB.1; simp only [mkM, mask2, mixM, Nat.reduceAdd] at hK ⊢; simp only [Act.put, List.setIfInBounds_toArray, List.set_cons_zero, List.set_cons_succ] at hK; go_simp; clear hc; exact hK.out _ _ hB GF.same rfl
    refine StepsM.cons (fun l g w' hB hl hn hp K hK => ?_) ?_
    · clear hl hn; simp only [mkM, mask2, mixM, Nat.reduceAdd] at hK ⊢; simp only [Act.put, List.setIfInBounds_toArray, List.set_cons_zero, List.set_cons_succ] at hK; go_simp; refine (HN.out.2.2.2.2.2.2 _).mono ?_; rintro e w7 ⟨xa, xl, xc, rfl, hx, hb⟩; go_wp2_with fail; exact hK.out _ _ (hB.below hb) (GF.below hb) ⟨xa, xl, xc, rfl, hx⟩
    refine StepsM.cons (fun l g w' hB hl hn hp K hK => ?_) ?_
    · clear hl hn; simp only [mkM, mask2, mixM, Nat.reduceAdd] at hK ⊢; simp only [Act.put, List.setIfInBounds_toArray, List.set_cons_zero, List.set_cons_succ] at hK; go_simp; exact hK.out _ _ hB GF.same rfl
    refine StepsM.cons (fun l g w' hB hl hn hp K hK => ?_) ?_
    · clear hl hn; have e0 : g 33 = .agg #[.slice pa pl pc] := (hp 0 (by decide)).2; have e1 : g 34 = .agg #[.slice qa ql qc] := (hp 1 (by decide)).2; obtain ⟨x2, l2, c2, e2, h2⟩ := (hp 2 (by decide)).2; have e2 : g 35 = .agg #[.slice x2 l2 c2] := e2; have e3 : g 36 = .slice none 0 0 := (hp 3 (by decide)).2; simp only [mkM, mask2, mixM, Nat.reduceAdd, e0, e1, e2, e3] at hK ⊢; clear e0 e1 e2 e3; simp only [Act.put, List.setIfInBounds_toArray, List.set_cons_zero, List.set_cons_succ] at hK; go_simp; exact hK.out _ _ hB GF.same ⟨x2, l2, c2, rfl, h2⟩
    refine StepsM.cons (fun l g w' hB hl hn hp K hK => ?_) ?_
    · clear hl hn; have hc := HSS.out.2.1 _ hB.1; simp only [mkM, mask2, mixM, Nat.reduceAdd] at hK ⊢; simp only [Act.put, List.setIfInBounds_toArray, List.set_cons_zero, List.set_cons_succ] at hK; go_simp; clear hc; exact hK.out _ _ hB GF.same rfl
    refine StepsM.cons (fun l g w' hB hl hn hp K hK => ?_) ?_
    · clear hl hn; simp only [mkM, mask2, mixM, Nat.reduceAdd] at hK ⊢; simp only [Act.put, List.setIfInBounds_toArray, List.set_cons_zero, List.set_cons_succ] at hK; go_simp; refine (HN.out.2.2.2.1 _).mono ?_; rintro e w7 ⟨xa, xl, xc, rfl, hx, hb⟩; go_wp2_with fail; exact hK.out _ _ (hB.below hb) (GF.below hb) ⟨xa, xl, xc, rfl, hx⟩
    refine StepsM.cons (fun l g w' hB hl hn hp K hK => ?_) ?_
    · clear hl hn; simp only [mkM, mask2, mixM, Nat.reduceAdd] at hK ⊢; simp only [Act.put, List.setIfInBounds_toArray, List.set_cons_zero, List.set_cons_succ] at hK; go_simp; refine (HN.out.1 _).mono ?_; rintro e w7 ⟨xa, xl, xc, rfl, hx, hb⟩; go_wp2_with fail; exact hK.out _ _ (hB.below hb) (GF.below hb) ⟨xa, xl, xc, rfl, hx⟩
    refine StepsM.cons (fun l g w' hB hl hn hp K hK => ?_) ?_
    · clear hl hn; simp only [mkM, mask2, mixM, Nat.reduceAdd] at hK ⊢; simp only [Act.put, List.setIfInBounds_toArray, List.set_cons_zero, List.set_cons_succ] at hK; go_simp; refine (HN.out.2.1 _).mono ?_; rintro e w7 ⟨xa, xl, xc, rfl, hx, hb⟩; go_wp2_with fail; exact hK.out _ _ (hB.below hb) (GF.below hb) ⟨xa, xl, xc, rfl, hx⟩
    refine StepsM.cons (fun l g w' hB hl hn hp K hK => ?_) ?_
    · clear hl hn; simp only [mkM, mask2, mixM, Nat.reduceAdd] at hK ⊢; simp only [Act.put, List.setIfInBounds_toArray, List.set_cons_zero, List.set_cons_succ] at hK; go_simp; refine (HN.out.2.2.1 _).mono ?_; rintro e w7 ⟨xa, xl, xc, rfl, hx, hb⟩; go_wp2_with fail; exact hK.out _ _ (hB.below hb) (GF.below hb) ⟨xa, xl, xc, rfl, hx⟩
    refine StepsM.cons (fun l g w' hB hl hn hp K hK => ?_) ?_
    · clear hl hn; simp only [mkM, mask2, mixM, Nat.reduceAdd] at hK ⊢; simp only [Act.put, List.setIfInBounds_toArray, List.set_cons_zero, List.set_cons_succ] at hK; go_simp; refine (HN.out.2.2.2.2.1 _).mono ?_; rintro e w7 ⟨xa, xl, xc, rfl, hx, hb⟩; go_wp2_with fail; exact hK.out _ _ (hB.below hb) (GF.below hb) ⟨xa, xl, xc, rfl, hx⟩
    refine StepsM.cons (fun l g w' hB hl hn hp K hK => ?_) ?_
    · clear hl hn; simp only [mkM, mask2, mixM, Nat.reduceAdd] at hK ⊢; simp only [Act.put, List.setIfInBounds_toArray, List.set_cons_zero, List.set_cons_succ] at hK; go_simp; refine (HN.out.2.2.2.2.2.1 _).mono ?_; rintro e w7 ⟨xa, xl, xc, rfl, hx, hb⟩; go_wp2_with fail; exact hK.out _ _ (hB.below hb) (GF.below hb) ⟨xa, xl, xc, rfl, hx⟩
    refine StepsM.cons (fun l g w' hB hl hn hp K hK => ?_) ?_
    · clear hl hn; obtain ⟨x0, l0, c0, e0, h0⟩ := (hp 7 (by decide)).2; have e0 : g 40 = .agg #[.slice x0 l0 c0] := e0; obtain ⟨x1, l1, c1, e1, h1⟩ := (hp 8 (by decide)).2; have e1 : g 41 = .agg #[.slice x1 l1 c1] := e1; obtain ⟨x2, l2, c2, e2, h2⟩ := (hp 9 (by decide)).2; have e2 : g 42 = .agg #[.slice x2 l2 c2] := e2; obtain ⟨x3, l3, c3, e3, h3⟩ := (hp 10 (by decide)).2; have e3 : g 43 = .agg #[.slice x3 l3 c3] := e3; obtain ⟨x4, l4, c4, e4, h4⟩ := (hp 11 (by decide)).2; have e4 : g 44 = .agg #[.slice x4 l4 c4] := e4; simp only [mkM, mask2, mixM, Nat.reduceAdd, e0, e1, e2, e3, e4] at hK ⊢; clear e0 e1 e2 e3 e4; simp only [Act.put, List.setIfInBounds_toArray, List.set_cons_zero, List.set_cons_succ] at hK; go_simp; exact hK.out _ _ hB.alloc GF.alloc ⟨_, rfl, natsAt_lit5 rfl h0 h1 h2 h3 h4⟩
    refine StepsM.cons (fun l g w' hB hl hn hp K hK => ?_) ?_
    · clear hl hn; have e0 : g 38 = .agg #[.slice qa ql qc] := (hp 5 (by decide)).2; obtain ⟨x1, l1, c1, e1, h1⟩ := (hp 6 (by decide)).2; have e1 : g 39 = .agg #[.slice x1 l1 c1] := e1; obtain ⟨k2, e2, h2⟩ := (hp 12 (by decide)).2; have e2 : g 45 = .slice (some ⟨k2, 0, none⟩) 5 5 := e2; simp only [mkM, mask2, mixM, Nat.reduceAdd, e0, e1, e2] at hK ⊢; clear e0 e1 e2; simp only [Act.put, List.setIfInBounds_toArray, List.set_cons_zero, List.set_cons_succ] at hK; go_simp; exact hK.out _ _ hB GF.same ⟨x1, l1, c1, k2, rfl, h1, h2⟩
    refine StepsM.cons (fun l g w' hB hl hn hp K hK => ?_) ?_
    · clear hl hn; have hc := HSS.out.1 _ hB.1; simp only [mkM, mask2, mixM, Nat.reduceAdd] at hK ⊢; simp only [Act.put, List.setIfInBounds_toArray, List.set_cons_zero, List.set_cons_succ] at hK; go_simp; clear hc; exact hK.out _ _ hB GF.same rfl
    refine StepsM.cons (fun l g w' hB hl hn hp K hK => ?_) ?_
    · clear hl hn; simp only [mkM, mask2, mixM, Nat.reduceAdd] at hK ⊢; simp only [Act.put, List.setIfInBounds_toArray, List.set_cons_zero, List.set_cons_succ] at hK; go_simp; refine (HN.out.1 _).mono ?_; rintro e w7 ⟨xa, xl, xc, rfl, hx, hb⟩; go_wp2_with fail; exact hK.out _ _ (hB.below hb) (GF.below hb) ⟨xa, xl, xc, rfl, hx⟩
    refine StepsM.cons (fun l g w' hB hl hn hp K hK => ?_) ?_
    · clear hl hn; have hc := HSS.out.2.1 _ hB.1; simp only [mkM, mask2, mixM, Nat.reduceAdd] at hK ⊢; simp only [Act.put, List.setIfInBounds_toArray, List.set_cons_zero, List.set_cons_succ] at hK; go_simp; clear hc; exact hK.out _ _ hB GF.same rfl
    refine StepsM.cons (fun l g w' hB hl hn hp K hK => ?_) ?_
    · clear hl hn; have e0 : g 49 = .agg #[.slice qa ql qc] := (hp 16 (by decide)).2; simp only [mkM, mask2, mixM, Nat.reduceAdd, e0] at hK ⊢; clear e0; simp only [Act.put, List.setIfInBounds_toArray, List.set_cons_zero, List.set_cons_succ] at hK; go_simp; exact hK.out _ _ hB.alloc GF.alloc ⟨_, rfl, natsAt_lit1 rfl hB.2.2⟩
    refine StepsM.cons (fun l g w' hB hl hn hp K hK => ?_) ?_
    · clear hl hn; have e0 : g 47 = .agg #[.slice pa pl pc] := (hp 14 (by decide)).2; obtain ⟨x1, l1, c1, e1, h1⟩ := (hp 15 (by decide)).2; have e1 : g 48 = .agg #[.slice x1 l1 c1] := e1; obtain ⟨k2, e2, h2⟩ := (hp 17 (by decide)).2; have e2 : g 50 = .slice (some ⟨k2, 0, none⟩) 1 1 := e2; simp only [mkM, mask2, mixM, Nat.reduceAdd, e0, e1, e2] at hK ⊢; clear e0 e1 e2; simp only [Act.put, List.setIfInBounds_toArray, List.set_cons_zero, List.set_cons_succ] at hK; go_simp; exact hK.out _ _ hB GF.same ⟨x1, l1, c1, k2, rfl, h1, h2⟩
    refine StepsM.cons (fun l g w' hB hl hn hp K hK => ?_) ?_
    · clear hl hn; obtain ⟨xa, xl, xc, kA, e0, hx, hA⟩ := (hp 13 (by decide)).2; have e0 : g 46 = .agg #[.slice qa ql qc, .slice xa xl xc, .slice (some ⟨kA, 0, none⟩) 5 5] := e0; obtain ⟨ya, yl, yc, kB, e1, hy, hBs⟩ := (hp 18 (by decide)).2; have e1 : g 51 = .agg #[.slice pa pl pc, .slice ya yl yc, .slice (some ⟨kB, 0, none⟩) 1 1] := e1; simp only [mkM, mask2, mixM, Nat.reduceAdd, e0, e1] at hK ⊢; clear e0 e1; simp only [Act.put, List.setIfInBounds_toArray, List.set_cons_zero, List.set_cons_succ] at hK; go_simp; exact hK.out _ _ hB.alloc GF.alloc ⟨_, rfl, steps2b rfl hB.2.2 hx hA hB.2.1 hy hBs⟩
    refine StepsM.cons (fun l g w' hB hl hn hp K hK => ?_) ?_
    · clear hl hn; have hrw := HSS.out.2.2 _ hB.1; obtain ⟨xa, xl, xc, e0, hx⟩ := (hp 4 (by decide)).2; have e0 : g 37 = .agg #[.slice pa pl pc, .slice qa ql qc, .slice xa xl xc, .slice none 0 0] := e0; simp only [mkM, mask2, mixM, Nat.reduceAdd, e0] at hK ⊢; clear e0; simp only [Act.put, List.setIfInBounds_toArray, List.set_cons_zero, List.set_cons_succ] at hK; go_simp; exact hK.out undef _ hB.s4 (GF.kept rfl (kpA_s4 hB.1.row)) ⟨xa, xl, xc, blk_s4 hB.1.row, natS_s4 hB.1.row hx⟩
    refine StepsM.cons (fun l g w' hB hl hn hp K hK => ?_) ?_
    · clear hl hn; obtain ⟨C, e0, hst⟩ := (hp 19 (by decide)).2; have e0 : g 52 = .slice (some ⟨C, 0, none⟩) 2 2 := e0; simp only [mkM, mask2, mixM, Nat.reduceAdd, e0] at hK ⊢; clear e0; simp only [Act.put, List.setIfInBounds_toArray, List.set_cons_zero, List.set_cons_succ] at hK; go_simp; exact hK.out _ _ hB GF.same ⟨C, rfl, hst⟩
    exact StepsM.nil
  · intro l g W _ hB hG
    obtain ⟨C, e5, hst⟩ := hG 21 (by decide)
    have e5 : g 5 = .slice (some ⟨C, 0, none⟩) 2 2 := e5
    obtain ⟨ga, gl, gc, hR, hg⟩ := hG 20 (by decide)
    simp only [mkM, mask2, mixM, Nat.reduceAdd, e5]
    clear e5 hG hBW HN HSS
    go_wp2_with fail
    exact leaf2 (C := C) (pa := pa) (pl := pl) (pc := pc) (qa := qa) (ql := ql) (qc := qc) (ga := ga) (gl := gl) (gc := gc) rfl rfl rfl hR hB.2.1 hB.2.2 hg hst
      (HW0.out.trans (Below.trans (Below.mono HBB5.out HW0.out.size) (HS.out ▸ SB.toBelow (w := w5) hB.1 HSL.out)))
end Go.Proofs.YthefednendgclaaGreat
