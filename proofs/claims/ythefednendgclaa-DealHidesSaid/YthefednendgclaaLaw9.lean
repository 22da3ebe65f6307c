/-
  The law's numbers: the parameters and chains of the three groups.
-/
import Derived.Test.YthefednendgclaaGrpNew
import Derived.Test.YthefednendgclaaCertB
set_option linter.unusedVariables false
set_option linter.unusedSimpArgs false
namespace Go.Proofs.Ythefednendgclaa
open Go Go.RowKit Sac NT

theorem StepsAt.below {w w' : World} {g : Nat} {st : List Stp} (h : StepsAt w w.heap.size g st) (hb : Below w.heap.size w w') : StepsAt w' w'.heap.size g st := by
  have h1 := h.kt (B := w.heap.size) (T := 33) (by decide) (by decide) (Nat.le_refl _) (KT.below (Nat.le_refl _) hb)
  refine ⟨h1.1, fun i hi => ?_⟩
  obtain ⟨na, nl, nc, ba, bl, bc, pa, pc, c0, c1, c2, n0, n1, n2, n3⟩ := h1.2 i hi
  exact ⟨na, nl, nc, ba, bl, bc, pa, pc, c0, c1, c2, n0, n1, ⟨n2.1, fun ad h1 h2 => Nat.lt_of_lt_of_le (n2.2 ad h1 h2) hb.size⟩, n3⟩

/-- The chain cv shows that n is a prime. -/
def PrF (w : World) (cv : Value) (n : Nat) : Prop := ∀ w' a l c, Below w.heap.size w w' → NatS w' a l n → Calls Try.prog 121 #[.agg #[.slice a l c], cv] w' fun e w'' => e = .returned (.bool true) ∧ Below w'.heap.size w' w''
theorem PrF.small {w : World} {cv : Value} {n : Nat} (h : SmallP n) : PrF w cv n := fun w' a l c _ hn => prime_small a l c n cv w' hn h
theorem PrF.chain {w : World} {g len cap n : Nat} {st : List Stp} (hst : StepsAt w w.heap.size g st) (hlen : st.length = len) (hcap : (len : Int) ≤ cap) (hok : ChainOk st) (hbig : 65536 ≤ n) (hmem : ∃ t ∈ st, t.N = n) : PrF w (.slice (some ⟨g, 0, none⟩) len cap) n :=
  fun w' a l c hb hn => prime_chain a l c n g cap len st w' hn hbig (hst.below hb) hlen hcap hok hmem

def st1 : List Stp := [⟨655211, 2, [65521], [65521]⟩]
def st2 : List Stp := [⟨Q60, 13, [2, 3, 11, 683, 2971], [32, 3, 121, 683, 2971]⟩, ⟨20752587082923246163, 2, [Q60], [Q60]⟩]
theorem st1_ok : ChainOk st1 where
  le := by decide
  ok := fun i h => by
    obtain rfl : i = 0 := by simp [st1] at h; omega
    exact step1
  small := fun t ht => by
    obtain rfl := List.mem_singleton.1 ht
    exact ⟨by decide, by decide, fun p hp => by rw [List.mem_singleton.1 hp]; decide⟩
theorem st2_ok : ChainOk st2 where
  le := by decide
  ok := fun i h => by
    have h' : i < 2 := h
    match i, h' with
    | 0, _ => exact step2
    | 1, _ => exact step3
  small := fun t ht => by
    simp only [st2, List.mem_cons, List.not_mem_nil, or_false] at ht
    rcases ht with rfl | rfl
    · exact ⟨by decide, by decide, by decide⟩
    · exact ⟨by decide, by decide, by decide⟩

/-- What the law's numbers hand back. -/
def NumPost (k : Nat) (sv : Value) (w : World) (e : Ending) (w' : World) : Prop := ∃ (pa : Option Addr) (pl pc : Nat) (qa : Option Addr) (ql qc : Nat) (ga : Option Addr) (gl gc : Nat) (cv : Value),
  e = .returned (.tuple #[.agg #[.slice pa pl pc, .slice qa ql qc, .slice ga gl gc, sv], cv]) ∧ NatS w' pa pl (gP k) ∧ NatS w' qa ql (gQ k) ∧ NatS w' ga gl (gG k) ∧ PrF w' cv (gP k) ∧ PrF w' cv (gQ k) ∧ Below w.heap.size w w'

theorem ret_params {fn : Func} {p t : Tmp} {R : Ending → World → Prop} {tmps : Array Value} {w : World} {g : Nat} {cs : List Value} {v : Value} (hl : cs.length = 4) (h : fn.results = #[.cell p 123, .tmp t]) (hp : tmps.getD p undef = .pointer (some ⟨g, 0, none⟩)) (ht : tmps.getD t undef = v)
    (hB : Blk w g 123 cs) (hR : R (.returned (.tuple #[.agg cs.toArray, v])) w) : bodyPost Try.prog fn R .ret { tmps, defers := [] } w := by
  refine bodyPost_ret (v := .tuple #[.agg cs.toArray, v]) ?_ rfl hR
  obtain ⟨a, b, c, d, rfl⟩ : ∃ a b c d, cs = [a, b, c, d] := by
    match cs, hl with
    | [a, b, c, d], _ => exact ⟨a, b, c, d, rfl⟩
  have hl := run_loadVar_row (P := Try.prog) (ty := 123) w g 123 #[a, b, c, d] (0, 0) _ hB Try.underlying123 rfl (by kernel_rfl)
  rw [results_cell_tmp h]
  simp only [hp, ht, asAddr, Sem.run_pure, Result.andThen_ok, hl]

theorem store4 {w : World} {s : Nat} {a b c d a0 b0 c0 d0 : Value} (h : Blk w s 123 [a0, b0, c0, d0]) : Blk ((((w.setCell ⟨s, 0, none⟩ a).setCell ⟨s, 1, none⟩ b).setCell ⟨s, 2, none⟩ c).setCell ⟨s, 3, none⟩ d) s 123 [a, b, c, d] :=
  (((h.set 0 a).set 1 b).set 2 c).set 3 d
theorem NatS.store4 {w : World} {s : Nat} {a b c d a0 b0 c0 d0 : Value} (h : Blk w s 123 [a0, b0, c0, d0]) {x : Option Addr} {l n : Nat} (hn : NatS w x l n) : NatS ((((w.setCell ⟨s, 0, none⟩ a).setCell ⟨s, 1, none⟩ b).setCell ⟨s, 2, none⟩ c).setCell ⟨s, 3, none⟩ d) x l n :=
  (((hn.set h 0 a).set (h.set 0 a) 1 b).set ((h.set 0 a).set 1 b) 2 c).set (((h.set 0 a).set 1 b).set 2 c) 3 d
theorem below_store4 {w0 w : World} {B s : Nat} {a b c d : Value} (h : Below B w0 w) (hs : B ≤ s) : Below B w0 ((((w.setCell ⟨s, 0, none⟩ a).setCell ⟨s, 1, none⟩ b).setCell ⟨s, 2, none⟩ c).setCell ⟨s, 3, none⟩ d) :=
  (((h.setCell (p := ⟨s, 0, none⟩) hs _).setCell (p := ⟨s, 1, none⟩) hs _).setCell (p := ⟨s, 2, none⟩) hs _).setCell (p := ⟨s, 3, none⟩) hs _

set_option maxRecDepth 100000 in
set_option maxHeartbeats 4000000 in
theorem numbers0 (n : Int) (w : World) (hk : (IntKind.u64.wrap n).tmod 3 = 0) :
    Calls Try.prog 83 #[.int .i64 n, .slice none 0 0] w (NumPost 0 (.slice none 0 0) w) := by
  obtain ⟨s, hs⟩ : ∃ s, s = w.heap.size := ⟨_, rfl⟩
  have hB0 : Blk (w.alloc (Obj.cells #[Value.slice none 0 0, Value.slice none 0 0, Value.slice none 0 0, Value.slice none 0 0] 123)) s 123 [.slice none 0 0, .slice none 0 0, .slice none 0 0, .slice none 0 0] := Blk.new' w _ _ s hs
  have hb0 : Below w.heap.size w (w.alloc (Obj.cells #[Value.slice none 0 0, Value.slice none 0 0, Value.slice none 0 0, Value.slice none 0 0] 123)) := (Below.refl _ w).alloc (Nat.le_refl _) _
  have HB0 := Lib.hid hB0
  have HW0 := Lib.hid hb0
  have HS := Lib.hid hs
  clear hB0 hb0
  go_enter Try.func83, Try.ntmps83
  go_wp2_with fail
  rw [← hs]
  clear hs
  generalize w.alloc (Obj.cells #[Value.slice none 0 0, Value.slice none 0 0, Value.slice none 0 0, Value.slice none 0 0] 123) = w1 at HB0 HW0 ⊢
  refine (new_s 607 w1 (by decide)).mono ?_
  rintro e w2 ⟨pa, pl, pc, rfl, hP, hb2⟩
  have HP := Lib.hid hP
  have hbb2 : BB w1 w2 := hb2
  clear hP hb2
  go_wp2_with fail
  refine (new_s 101 w2 (by decide)).mono ?_
  rintro e w3 ⟨qa, ql, qc, rfl, hQ, hb3⟩
  have HP3 := Lib.hid (HP.out.below hb3)
  have HQ := Lib.hid hQ
  have hbb3 : BB w1 w3 := BB.step hbb2 hb3
  clear hQ hb3
  go_wp2_with fail
  refine (new_s 64 w3 (by decide)).mono ?_
  rintro e w4 ⟨ga, gl, gc, rfl, hG, hb4⟩
  have HP4 := Lib.hid (HP3.out.below hb4)
  have HQ4 := Lib.hid (HQ.out.below hb4)
  have HG := Lib.hid hG
  have hbb4 : BB w1 w4 := BB.step hbb3 hb4
  have HB4 := Lib.hid (HB0.out.below hbb4 HB0.out.lt)
  have d0 := HB4.out.cell 0
  have d1 := HB4.out.cell 1
  have d2 := HB4.out.cell 2
  have d3 := HB4.out.cell 3
  have e0 := HB4.out.frozen 0
  have e1 := HB4.out.frozen 1
  have e2 := HB4.out.frozen 2
  have e3 := HB4.out.frozen 3
  simp only [List.getElem?_cons_zero, List.getElem?_cons_succ] at d0 d1 d2 d3
  clear hG hb4 HP HP3 HQ
  go_wp2_with fail
  refine ret_params rfl rfl rfl rfl (store4 HB4.out) ⟨pa, pl, pc, qa, ql, qc, ga, gl, gc, .slice none 0 0, rfl, HP4.out.store4 HB4.out, HQ4.out.store4 HB4.out, HG.out.store4 HB4.out, PrF.small small607, PrF.small small101, ?_⟩
  exact below_store4 (HW0.out.trans (Below.mono hbb4 HW0.out.size)) (by rw [HS.out]; exact Nat.le_refl _)

theorem NatsOwn.toAt {w : World} {base n cap : Nat} {a : Option Addr} {ns : List Nat} (h : NatsOwn w base (.slice a n cap) ns) : NatsAt w a ns := by
  obtain ⟨a', c', e, _, _, h1, _⟩ := h.form
  injection e with e1 _ _
  exact e1 ▸ h1

theorem NatsAt.setOther {w : World} {a : Option Addr} {ns : List Nat} {k : Nat} {e : TypeId} {cs : List Value} (h : NatsAt w a ns) (hB : Blk w k e cs) (he : 33 ≠ e) (he' : 130 ≠ e) (o : Nat) (v : Value) : NatsAt (w.setCell ⟨k, o, none⟩ v) a ns := by
  obtain ⟨vs, hl, hr, hv⟩ := h
  refine ⟨vs, hl, hr.setCell hB he o v, fun i hi => ?_⟩
  obtain ⟨x, l, c, h1, h2⟩ := hv i hi
  exact ⟨x, l, c, h1, h2.set hB o v he'⟩
theorem StepsAt.setOther {w : World} {s g k : Nat} {st : List Stp} {cs : List Value} (h : StepsAt w s g st) (hB : Blk w k 123 cs) (o : Nat) (v : Value) : StepsAt (w.setCell ⟨k, o, none⟩ v) s g st := by
  obtain ⟨h1, h2⟩ := h
  have hne : g ≠ k := h1.ne hB (by decide)
  have hs := heap_setCell_other w ⟨k, o, none⟩ g v hne
  refine ⟨h1.same hs, fun i hi => ?_⟩
  obtain ⟨na, nl, nc, ba, bl, bc, pa, pc, c0, c1, c2, n0, n1, n2, n3⟩ := h2 i hi
  have hc : ∀ o', (w.setCell ⟨k, o, none⟩ v).cell? ⟨g, o', none⟩ = w.cell? ⟨g, o', none⟩ := fun o' => World.cell?_of_block hs
  exact ⟨na, nl, nc, ba, bl, bc, pa, pc, (hc _).trans c0, (hc _).trans c1, (hc _).trans c2, n0.set hB o v, n1.set hB o v, ⟨n2.1.setOther hB (by decide) (by decide) o v, n2.2⟩, n3⟩
theorem StepsAt.store4 {w : World} {s g k : Nat} {st : List Stp} {a b c d a0 b0 c0 d0 : Value} (h : StepsAt w w.heap.size g st) (hB : Blk w k 123 [a0, b0, c0, d0]) : StepsAt ((((w.setCell ⟨k, 0, none⟩ a).setCell ⟨k, 1, none⟩ b).setCell ⟨k, 2, none⟩ c).setCell ⟨k, 3, none⟩ d) ((((w.setCell ⟨k, 0, none⟩ a).setCell ⟨k, 1, none⟩ b).setCell ⟨k, 2, none⟩ c).setCell ⟨k, 3, none⟩ d).heap.size g st := by
  have hz : ((((w.setCell ⟨k, 0, none⟩ a).setCell ⟨k, 1, none⟩ b).setCell ⟨k, 2, none⟩ c).setCell ⟨k, 3, none⟩ d).heap.size = w.heap.size := by simp [World.setCell]
  rw [hz]
  exact (((h.setOther hB 0 a).setOther (hB.set 0 a) 1 b).setOther ((hB.set 0 a).set 1 b) 2 c).setOther (((hB.set 0 a).set 1 b).set 2 c) 3 d

set_option maxRecDepth 100000 in
set_option maxHeartbeats 4000000 in
theorem numbers1 (n : Int) (w : World) (hk : (IntKind.u64.wrap n).tmod 3 = 1) :
    Calls Try.prog 83 #[.int .i64 n, .slice none 0 0] w (NumPost 1 (.slice none 0 0) w) := by
  obtain ⟨s, hs⟩ : ∃ s, s = w.heap.size := ⟨_, rfl⟩
  have hB0 : Blk (w.alloc (Obj.cells #[Value.slice none 0 0, Value.slice none 0 0, Value.slice none 0 0, Value.slice none 0 0] 123)) s 123 [.slice none 0 0, .slice none 0 0, .slice none 0 0, .slice none 0 0] := Blk.new' w _ _ s hs
  have hb0 : Below w.heap.size w (w.alloc (Obj.cells #[Value.slice none 0 0, Value.slice none 0 0, Value.slice none 0 0, Value.slice none 0 0] 123)) := (Below.refl _ w).alloc (Nat.le_refl _) _
  have HB0 := Lib.hid hB0
  have HW0 := Lib.hid hb0
  have HS := Lib.hid hs
  clear hB0 hb0
  go_enter Try.func83, Try.ntmps83
  go_wp2_with fail
  rw [← hs]
  clear hs
  generalize w.alloc (Obj.cells #[Value.slice none 0 0, Value.slice none 0 0, Value.slice none 0 0, Value.slice none 0 0] 123) = w1 at HB0 HW0 ⊢
  refine (new_s 655211 w1 (by decide)).mono ?_
  rintro e w2 ⟨pa, pl, pc, rfl, hP, hb2⟩
  have HP := Lib.hid hP
  have HBB2 : Hid (BB w1 w2) := hb2
  clear hP hb2
  go_wp2_with fail
  refine (new_s 65521 w2 (by decide)).mono ?_
  rintro e w3 ⟨qa, ql, qc, rfl, hQ, hb3⟩
  have HP3 := Lib.hid (HP.out.below hb3)
  have HQ := Lib.hid hQ
  have HBB3 : Hid (BB w1 w3) := BB.step HBB2.out hb3
  clear hQ hb3
  go_wp2_with fail
  refine (new_s 1024 w3 (by decide)).mono ?_
  rintro e w4 ⟨ga, gl, gc, rfl, hG, hb4⟩
  have HP4 := Lib.hid (HP3.out.below hb4)
  have HQ4 := Lib.hid (HQ.out.below hb4)
  have HG4 := Lib.hid hG
  have HBB4 : Hid (BB w1 w4) := BB.step HBB3.out hb4
  clear hG hb4
  go_wp2_with fail
  refine (new_s 655211 w4 (by decide)).mono ?_
  rintro e w5 ⟨na, nl, nc, rfl, hn, hb5⟩
  have HG5 := Lib.hid (HG4.out.below hb5)
  have HP5 := Lib.hid (HP4.out.below hb5)
  have HQ5 := Lib.hid (HQ4.out.below hb5)
  have HN5 := Lib.hid hn
  have HBB5 : Hid (BB w1 w5) := BB.step HBB4.out hb5
  clear hn hb5
  go_wp2_with fail
  refine (new_s 2 w5 (by decide)).mono ?_
  rintro e w6 ⟨ba, bl, bc, rfl, hb', hb6⟩
  have HG6 := Lib.hid (HG5.out.below hb6)
  have HP6 := Lib.hid (HP5.out.below hb6)
  have HQ6 := Lib.hid (HQ5.out.below hb6)
  have HN6 := Lib.hid (HN5.out.below hb6)
  have HB6 := Lib.hid hb'
  have HBB6 : Hid (BB w1 w6) := BB.step HBB5.out hb6
  clear hb' hb6
  go_wp2_with fail
  refine (new_s 65521 w6 (by decide)).mono ?_
  rintro e w7 ⟨ra, rl, rc, rfl, hr, hb7⟩
  have HG7 := Lib.hid (HG6.out.below hb7)
  have HP7 := Lib.hid (HP6.out.below hb7)
  have HQ7 := Lib.hid (HQ6.out.below hb7)
  have HN7 := Lib.hid (HN6.out.below hb7)
  have HB7 := Lib.hid (HB6.out.below hb7)
  have HR7 := Lib.hid hr
  have HBB7 : Hid (BB w1 w7) := BB.step HBB6.out hb7
  obtain ⟨w8, hw8⟩ : ∃ w8 : World, (w7.alloc (Obj.cells #[Value.slice ra rl rc] 33)).alloc (Obj.cells #[Value.slice na nl nc, Value.slice ba bl bc, Value.slice (some ⟨w7.heap.size, 0, none⟩) 1 1] 172) = w8 := ⟨_, rfl⟩
  have hb8a : Below w7.heap.size w7 (w7.alloc (Obj.cells #[Value.slice ra rl rc] 33)) := (Below.refl _ _).alloc (Nat.le_refl _) _
  have hb8b : BB (w7.alloc (Obj.cells #[Value.slice ra rl rc] 33)) w8 := hw8 ▸ BB.alloc (BB.refl _)
  have hb8 : BB w7 w8 := BB.step hb8a hb8b
  have HC8 : Hid (Blk w8 (w7.heap.size + 1) 172 [.slice na nl nc, .slice ba bl bc, .slice (some ⟨w7.heap.size, 0, none⟩) 1 1]) := by
    show Blk _ _ _ _
    rw [← hw8]
    exact Blk.new' _ [.slice na nl nc, .slice ba bl bc, .slice (some ⟨w7.heap.size, 0, none⟩) 1 1] _ _ (by simp)
  have HA8 := Lib.hid ((NatsOwn.lit (w := w7) (c := rc) w7.heap.size w7.heap.size rfl (Nat.le_refl _) hr).toAt.below hb8b)
  have HG8 := Lib.hid (HG7.out.below hb8)
  have HP8 := Lib.hid (HP7.out.below hb8)
  have HQ8 := Lib.hid (HQ7.out.below hb8)
  have HN8 := Lib.hid (HN7.out.below hb8)
  have HB8 := Lib.hid (HB7.out.below hb8)
  have HBB8 : Hid (BB w1 w8) := BB.step HBB7.out hb8
  have HBs := Lib.hid (HB0.out.below HBB8.out HB0.out.lt)
  have hlt : w7.heap.size < w8.heap.size := by rw [← hw8]; simp; omega
  have hss : s < w7.heap.size := Nat.lt_of_lt_of_le HB0.out.lt HBB7.out.size
  have HLT := Lib.hid hlt
  have HSS := Lib.hid hss
  have d0 := HBs.out.cell 0
  have d1 := HBs.out.cell 1
  have d2 := HBs.out.cell 2
  have d3 := HBs.out.cell 3
  have e0 := HBs.out.frozen 0
  have e1 := HBs.out.frozen 1
  have e2 := HBs.out.frozen 2
  have e3 := HBs.out.frozen 3
  simp only [List.getElem?_cons_zero, List.getElem?_cons_succ] at d0 d1 d2 d3
  clear hr hb7 hb8 hb8a hb8b hlt hss
  go_wp2_with fail
  have hst : StepsAt w8 w8.heap.size (w7.heap.size + 1) st1 := by
    refine ⟨HC8.out.ety, fun i hi => ?_⟩
    obtain rfl : i = 0 := by simp [st1] at hi; omega
    exact ⟨na, nl, nc, ba, bl, bc, _, 1, HC8.out.cell 0, HC8.out.cell 1, HC8.out.cell 2, HN8.out, HB8.out, ⟨HA8.out, fun ad h _ => by obtain rfl := Option.some.inj h; exact HLT.out⟩, by show ((1 : Nat) : Int) ≤ ((1 : Nat) : Int); exact Int.le_refl _⟩
  refine ret_params rfl rfl rfl rfl (store4 HBs.out) ⟨pa, pl, pc, qa, ql, qc, ga, gl, gc, _, rfl, HP8.out.store4 HBs.out, HQ8.out.store4 HBs.out, HG8.out.store4 HBs.out, PrF.chain (hst.store4 (s := 0) HBs.out) rfl (by decide) st1_ok (by decide) ⟨_, List.mem_singleton.2 rfl, rfl⟩, PrF.small small65521, ?_⟩
  exact below_store4 (HW0.out.trans (Below.mono HBB8.out HW0.out.size)) (by rw [HS.out]; exact Nat.le_refl _)
end Go.Proofs.Ythefednendgclaa
