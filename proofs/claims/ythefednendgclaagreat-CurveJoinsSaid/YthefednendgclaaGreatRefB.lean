import Derived.Test.YthefednendgclaaGreatRefA
import Derived.Test.YthefednendgclaaGreatNGE
import Derived.Test.YthefednendgclaaGreatInvF
import Derived.Deep.RegionHeld3
import Derived.Deep.RegionLaw
import Derived.Laws.BytesArg
set_option linter.unusedVariables false
set_option linter.unusedSimpArgs false
/-
  Numbers of the program as the document's; rows of the document's numbers.
-/
namespace Go.Proofs.YthefednendgclaaGreat
open Go Go.RowKit Sac

/-! ### Bytes as a string -/
def strB (l : List Nat) : ByteArray := strOfNums (l.map Int.ofNat)
theorem strB_inj {l m : List Nat} (hl : ∀ x ∈ l, x < 256) (hm : ∀ x ∈ m, x < 256) (h : strB l = strB m) : l = m := by
  have h1 := congrArg (fun b : ByteArray => b.data.toList) h
  simp only [strB, strOfNums_data, List.map_map] at h1
  have key : ∀ (l m : List Nat), (∀ x ∈ l, x < 256) → (∀ x ∈ m, x < 256) → l.map ((fun n : Int => UInt8.ofNat n.toNat) ∘ Int.ofNat) = m.map ((fun n : Int => UInt8.ofNat n.toNat) ∘ Int.ofNat) → l = m := by
    intro l
    induction l with
    | nil => intro m _ _ h; cases m with
      | nil => rfl
      | cons _ _ => simp at h
    | cons x l ih => intro m hl hm h; cases m with
      | nil => simp at h
      | cons y m =>
        rw [List.map_cons, List.map_cons] at h
        injection h with h1 h2
        have hx := hl x List.mem_cons_self
        have hy := hm y List.mem_cons_self
        have e : x = y := by
          have h3 := congrArg UInt8.toNat h1
          simp only [Function.comp, Int.ofNat_eq_natCast, Int.toNat_natCast, UInt8.toNat_ofNat'] at h3
          omega
        rw [e, ih m (fun z hz => hl z (List.mem_cons_of_mem _ hz)) (fun z hz => hm z (List.mem_cons_of_mem _ hz)) h2]
  exact key l m hl hm h1
theorem blk_str {w : World} {g n : Nat} {l : List Nat} (h : Blk w g 5 (l.map by8)) (hl : l.length = n) (c : Nat) : (convert 91 9 (.slice (some ⟨g, 0, none⟩) n c)).run Tryz.prog w = .ok (.string (strB l)) w := by
  refine run_convert_bytes_arg w 91 5 Tryz.underlying91 Tryz.underlying5 g 0 n c (l.map Int.ofNat) (by simpa using hl) (fun i hi => ?_) 9 Tryz.underlying9
  rw [Nat.zero_add, h.cell, List.getElem?_map]
  have hil : i < l.length := by omega
  rw [List.getElem?_eq_getElem hil]
  show some (by8 _) = _
  simp [by8, List.getD_eq_getElem?_getD, hil]

/-- The least row of bytes that a number is. -/
def lb (n : Nat) : List Nat := be (nbytes n) n
theorem lb_length (n : Nat) : (lb n).length = nbytes n := be_length _ _
theorem be_lt (sz n : Nat) : ∀ x ∈ be sz n, x < 256 := fun x hx => by
  obtain ⟨j, _, rfl⟩ := List.mem_map.1 hx
  exact Nat.mod_lt _ (by decide)
theorem be_inj {sz n m : Nat} (hn : n < 256 ^ sz) (hm : m < 256 ^ sz) (h : be sz n = be sz m) : n = m := by
  apply Nat.eq_of_testBit_eq
  intro t
  have hbit : ∀ x, x < 256 ^ sz → sz * 8 ≤ t → x.testBit t = false := fun x hx ht => Nat.testBit_lt_two_pow (Nat.lt_of_lt_of_le hx (by
    rw [show (256 : Nat) = 2 ^ 8 by decide, ← Nat.pow_mul]; exact Nat.pow_le_pow_right (by decide) (by omega)))
  rcases Nat.lt_or_ge t (sz * 8) with ht | ht
  · have e := byte_bit n (t / 8) (t % 8) (Nat.mod_lt _ (by decide))
    have e' := byte_bit m (t / 8) (t % 8) (Nat.mod_lt _ (by decide))
    have g := be_get sz n (sz - 1 - t / 8) (by omega)
    have g' := be_get sz m (sz - 1 - t / 8) (by omega)
    have hs : sz - 1 - (sz - 1 - t / 8) = t / 8 := by omega
    rw [hs] at g g'
    rw [← g, h, g', e', show 8 * (t / 8) + t % 8 = t by omega, ← Bt.bit_eq, ← Bt.bit_eq] at e
    cases hx : n.testBit t <;> cases hy : m.testBit t <;> simp [hx, hy] at e ⊢
  · rw [hbit n hn ht, hbit m hm ht]
theorem lb_inj {n m : Nat} (h : lb n = lb m) : n = m := by
  have hl := congrArg List.length h
  rw [lb_length, lb_length] at hl
  unfold lb at h
  rw [hl] at h
  exact be_inj (by rw [← hl]; exact (nbytes_le n _).1 (Nat.le_refl _)) ((nbytes_le m _).1 (Nat.le_refl _)) h
theorem lb_str (n m : Nat) : decide (strB (lb n) = strB (lb m)) = decide (n = m) := by
  apply decide_eq_decide.2
  constructor
  · intro h; exact lb_inj (strB_inj (be_lt _ _) (be_lt _ _) h)
  · rintro rfl; rfl

set_option maxRecDepth 100000 in
set_option maxHeartbeats 2000000 in
theorem least_any (a : Option Addr) (len cap n : Nat) (w : World) (h : NatS w a len n) :
    Calls Tryz.prog 60 #[.agg #[.slice a len cap]] w fun e w' => ∃ g, w.heap.size ≤ g ∧ e = .returned (.slice (some ⟨g, 0, none⟩) (nbytes n) (nbytes n)) ∧ Blk w' g 5 ((lb n).map by8) ∧ Below w.heap.size w w' := by
  have HN := Lib.hid h
  have hlen : (len : Int) ≤ 100000 := by have := h.2; omega
  have hbl : ((blen n : Nat) : Int) ≤ 32000 := by
    obtain ⟨⟨l, h1, h2, h3, h4, h5⟩, h6⟩ := h
    have := val_lt h2
    rw [W_pow, h4, h1] at this
    have := blen_le this
    omega
  have hnb : ((blen n : Int) + 7) / 8 = ((nbytes n : Nat) : Int) := by unfold nbytes; omega
  have hnb2 : ((nbytes n : Nat) : Int) ≤ 1000000 := by unfold nbytes; omega
  have hwr : IntKind.i64.wrap ((IntKind.i64.wrap (((blen n : Nat) : Int) + 7)).tdiv 8) = ((nbytes n : Nat) : Int) := by
    rw [i64_small (((blen n : Nat) : Int) + 7) (by omega) (by omega), Int.tdiv_eq_ediv_of_nonneg (by omega), hnb, i64_small _ (by omega) (by omega)]
  have HLT : Hid (n < 256 ^ nbytes n) := (nbytes_le n _).1 (Nat.le_refl _)
  clear h
  go_enter Tryz.func60, Tryz.ntmps60
  go_wp2_with fail
  have hbA := (Below.refl _ w).alloc (Nat.le_refl _) (Obj.cells #[Value.slice a len cap] 36)
  have HN1 := Lib.hid (HN.out.below hbA)
  have hB : Blk (w.alloc (Obj.cells #[Value.slice a len cap] 36)) w.heap.size 36 [.slice a len cap] := Blk.new w _ _
  have gA : ∀ w', BB (w.alloc (Obj.cells #[Value.slice a len cap] 36)) w' → w'.cell? ⟨w.heap.size, 0, none⟩ = some (.slice a len cap) := fun w' hb => (BB.cell hb hB.lt).trans (hB.cell 0)
  have HB1 := Lib.hid hbA
  clear hbA hB
  generalize w.alloc (Obj.cells #[Value.slice a len cap] 36) = w1 at HN1 HB1 gA ⊢
  go_region_held3 (fun w' => BB w1 w') (first | assumption | exact BB.drew (BB.refl _))
    (first
      | (go_at_call 99; (try rw [hwr]); refine (bytes_any a len cap n (nbytes n) w2 (HN1.out.below hbb2).1 hlen hnb2).mono ?_; rintro e w3 ⟨hb3, hy, _⟩; obtain ⟨g, hg, rfl, hB3⟩ := hy HLT.out; have hbb3 : BB w1 w3 := BB.step hbb2 hb3; have HG := Lib.hid (And.intro hg hB3); clear hb3 hg hB3 hy)
      | (go_at_call 87; refine (bits_any a len cap n w1.drew HN1.out.drew.1 hlen).mono ?_; rintro e w2 ⟨rfl, hb2⟩; have hbb2 : BB w1 w2 := BB.step (BB.drew (BB.refl w1)) hb2; clear hb2))
  go_wp2_with fail
  go_ret
  refine ⟨g, ?_, rfl, HG.out.2, HB1.out.trans (Below.mono hbb3 HB1.out.size)⟩
  have h1 := HG.out.1
  have h2 := HB1.out.size
  have h3 := hbb2.size
  omega

set_option maxRecDepth 100000 in
set_option maxHeartbeats 2000000 in
theorem num_any (a : Option Addr) (len cap n : Nat) (w : World) (h : NatS w a len n) (hn : nbytes n ≤ 120) :
    Calls Tryz.prog 42 #[.agg #[.slice a len cap]] w (RetB n w) := by
  have HN := Lib.hid h
  have HL := Lib.hid hn
  clear h hn
  go_enter Tryz.func42, Tryz.ntmps42
  go_wp2_with fail
  have hbA := (Below.refl _ w).alloc (Nat.le_refl _) (Obj.cells #[Value.slice a len cap] 36)
  have HN1 := Lib.hid (HN.out.below hbA)
  have HB1 := Lib.hid hbA
  clear hbA
  generalize w.alloc (Obj.cells #[Value.slice a len cap] 36) = w1 at HN1 HB1 ⊢
  refine (least_any a len cap n w1 HN1.out).mono ?_
  rintro e w2 ⟨g, hg, rfl, hB, hb⟩
  have HG := Lib.hid hB
  have HB2 := Lib.hid (HB1.out.trans (hb.mono HB1.out.size))
  clear hg hB hb
  go_wp2_with fail
  refine (bof_any (some ⟨g, 0, none⟩) (nbytes n) (nbytes n) n w2 (Blk.rd (rest := []) (by rw [List.append_nil]; exact HG.out)) (by omega) (by have := HL.out; omega) ((nbytes_le n _).1 (Nat.le_refl _))).mono ?_
  rintro e w3 ⟨z, rfl, hz, hb⟩
  have HZ := Lib.hid hz
  have HB3 := Lib.hid (HB2.out.trans (hb.mono HB2.out.size))
  clear hz hb
  go_wp2_with fail
  go_ret
  exact ⟨_, rfl, HZ.out, HB3.out⟩

theorem len_blen (n : Nat) : Bt.len n = blen n := rfl

set_option maxRecDepth 100000 in
set_option maxHeartbeats 4000000 in
theorem same_any (a : Option Addr) (len cap n : Nat) (v : Value) (m : Nat) (w : World) (h : NatS w a len n) (h' : BN w v m) :
    Calls Tryz.prog 20 #[.agg #[.slice a len cap], v] w fun e w' => e = .returned (.bool (decide (n = m))) ∧ Below w.heap.size w w' := by
  have HM := Lib.hid h'
  have hbA := (Below.refl _ w).alloc (Nat.le_refl _) (Obj.cells #[Value.slice a len cap] 36)
  have HN1 := Lib.hid (h.below hbA)
  have HM1 := Lib.hid (h'.below hbA)
  have hB : Blk (w.alloc (Obj.cells #[Value.slice a len cap] 36)) w.heap.size 36 [.slice a len cap] := Blk.new w _ _
  have gA : ∀ w', BB (w.alloc (Obj.cells #[Value.slice a len cap] 36)) w' → w'.cell? ⟨w.heap.size, 0, none⟩ = some (.slice a len cap) := fun w' hb => (BB.cell hb hB.lt).trans (hB.cell 0)
  have GA := Lib.hid gA
  obtain ⟨ma, mc, rfl, m1, m2, m3, m4⟩ := h'
  obtain ⟨k, hk⟩ : ∃ k, Bt.len m = k := ⟨_, rfl⟩
  rw [hk] at m1 m3 m4 HM HM1 ⊢
  have hnb : ((k : Int) + 7) / 8 = ((nbytes m : Nat) : Int) := by unfold nbytes; rw [← len_blen, hk]; omega
  have hnb2 : ((nbytes m : Nat) : Int) ≤ 1000 := by unfold nbytes; rw [← len_blen, hk]; omega
  have hk1 : (k : Int) ≤ 1000 := by omega
  have HLT : Hid (m < 256 ^ nbytes m) := (nbytes_le m _).1 (Nat.le_refl _)
  have HB1 := Lib.hid hbA
  clear h hbA hB gA m1 m2 m3 m4 hk
  go_enter Tryz.func20, Tryz.ntmps20
  go_wp2_with fail
  rw [hnb]
  generalize w.alloc (Obj.cells #[Value.slice a len cap] 36) = w1 at HN1 HM1 GA HB1 ⊢
  refine (bbytes_any (.slice ma k mc) m (nbytes m) w1 HM1.out hnb2 HLT.out).mono ?_
  rintro e w2 ⟨g, hg, rfl, hB2, hb⟩
  have HN2 := Lib.hid (HN1.out.below hb)
  have HB2 := Lib.hid (HB1.out.trans (hb.mono HB1.out.size))
  have GA2 : Hid (∀ w', BB w2 w' → w'.cell? ⟨w.heap.size, 0, none⟩ = some (.slice a len cap)) := fun w' h => GA.out w' (BB.step hb h)
  have cv : ∀ w', BB w2 w' → (convert 91 9 (.slice (some ⟨g, 0, none⟩) (nbytes m) (nbytes m))).run Tryz.prog w' = .ok (.string (strB (lb m))) w' := fun w' h => blk_str (hB2.below h hB2.lt) (lb_length m) _
  have CV := Lib.hid cv
  have gA := GA2.out w2.drew (BB.drew (BB.refl _))
  have cv0 := cv w2.drew (BB.drew (BB.refl _))
  have hstr := lb_str n m
  clear hb hB2 hg HM1 GA HB1 cv
  go_wp2_with fail
  go_region_law (first | (go_simp; go_at_call 60; refine (least_any a len cap n w2.drew HN2.out.drew).mono ?_; rintro e w3 ⟨g3, hg3, rfl, hB3, hb3⟩; have hbb3 : BB w2 w3 := BB.step (BB.drew (BB.refl w2)) hb3; have cv3 := CV.out w3 hbb3; have cw3 := blk_str hB3 (lb_length n) (nbytes n); clear hb3 hg3 hB3))
  all_goals (go_wp2_with fail; go_ret)
  all_goals
     refine ⟨ret_bool ?_, HB2.out.trans (Below.mono hbb3 HB2.out.size)⟩
     rw [← hstr, ByteArray.toList_eq, ByteArray.toList_eq]
     by_cases he : strB (lb n) = strB (lb m)
     · rw [he]; simp
     · rw [decide_eq_false he, beq_eq_false_iff_ne]
       intro h
       apply he
       cases h1 : strB (lb n)
       cases h2 : strB (lb m)
       rw [h1, h2] at h
       congr 1
       exact Array.toList_inj.1 h
end Go.Proofs.YthefednendgclaaGreat
/-
  The document's group: its numbers as a value; Mul, Exp, the pledge of a value with a mask.
-/
namespace Go.Proofs.YthefednendgclaaGreat
open Go Go.RowKit Sac

/-- The value g is the document's group of these numbers. -/
def BG (w : World) (g : Value) (P Q G H : Nat) : Prop := ∃ (pa : Option Addr) (pl pc : Nat) (qa : Option Addr) (ql qc : Nat) (ga : Option Addr) (gl gc : Nat) (ja : Option Addr) (jl jc : Nat), g = .agg #[.slice pa pl pc, .slice qa ql qc, .slice ga gl gc, .slice ja jl jc] ∧
  BN w (.slice pa pl pc) P ∧ BN w (.slice qa ql qc) Q ∧ BN w (.slice ga gl gc) G ∧ BN w (.slice ja jl jc) H
theorem BG.below {w w' : World} {g : Value} {P Q G H : Nat} (h : BG w g P Q G H) (hb : Below w.heap.size w w') : BG w' g P Q G H := by
  obtain ⟨pa, pl, pc, qa, ql, qc, ga, gl, gc, ja, jl, jc, e, h1, h2, h3, h4⟩ := h
  exact ⟨pa, pl, pc, qa, ql, qc, ga, gl, gc, ja, jl, jc, e, h1.below hb, h2.below hb, h3.below hb, h4.below hb⟩

set_option maxRecDepth 100000 in
set_option maxHeartbeats 1000000 in
theorem bgmul_any (g v u : Value) (P Q G H x y : Nat) (w : World) (hg : BG w g P Q G H) (hv : BN w v x) (hu : BN w u y) (hP0 : 0 < P) (hL : Bt.len P ≤ 400) (hx : Bt.len x ≤ 400) (hy : Bt.len y ≤ 400) :
    Calls Tryz.prog 64 #[g, v, u] w (RetB ((x * y) % P) w) := by
  obtain ⟨pa, pl, pc, qa, ql, qc, ga, gl, gc, ja, jl, jc, rfl, hP, hQ, hG, hH⟩ := hg
  have hbA := (Below.refl _ w).alloc (Nat.le_refl _) (Obj.cells #[Value.slice pa pl pc, Value.slice qa ql qc, Value.slice ga gl gc, Value.slice ja jl jc] 30)
  have hB : Blk (w.alloc (Obj.cells #[Value.slice pa pl pc, Value.slice qa ql qc, Value.slice ga gl gc, Value.slice ja jl jc] 30)) w.heap.size 30 [.slice pa pl pc, .slice qa ql qc, .slice ga gl gc, .slice ja jl jc] := Blk.new w _ _
  obtain ⟨s, hs⟩ : ∃ s, s = w.heap.size := ⟨_, rfl⟩
  rw [← hs] at hB
  have HP1 := Lib.hid (hP.below hbA)
  have HQ1 := Lib.hid (hQ.below hbA)
  have HG1 := Lib.hid (hG.below hbA)
  have HH1 := Lib.hid (hH.below hbA)
  have HB1 := Lib.hid hbA
  clear hP hQ hG hH hbA
  have HV1 := Lib.hid (hv.below HB1.out)
  have HU1 := Lib.hid (hu.below HB1.out)
  clear hv hu
  go_enter Tryz.func64, Tryz.ntmps64
  go_wp2_with fail
  rw [← hs]
  clear hs
  generalize w.alloc (Obj.cells #[Value.slice pa pl pc, Value.slice qa ql qc, Value.slice ga gl gc, Value.slice ja jl jc] 30) = w1 at hB HP1 HQ1 HG1 HH1 HB1 HV1 HU1 ⊢
  have gP : ∀ w', BB w1 w' → w'.cell? ⟨s, 0, none⟩ = some (.slice pa pl pc) := fun w' hb => (BB.cell hb hB.lt).trans (hB.cell 0)
  have gQ : ∀ w', BB w1 w' → w'.cell? ⟨s, 1, none⟩ = some (.slice qa ql qc) := fun w' hb => (BB.cell hb hB.lt).trans (hB.cell 1)
  have gG : ∀ w', BB w1 w' → w'.cell? ⟨s, 2, none⟩ = some (.slice ga gl gc) := fun w' hb => (BB.cell hb hB.lt).trans (hB.cell 2)
  have gH : ∀ w', BB w1 w' → w'.cell? ⟨s, 3, none⟩ = some (.slice ja jl jc) := fun w' hb => (BB.cell hb hB.lt).trans (hB.cell 3)
  clear hB
  have cP := gP w1 (BB.refl _)
  clear gP gQ gG gH
  first
    | (refine (brmul_any v u (.slice pa pl pc) x y P w1 HV1.out HU1.out HP1.out hP0 hL hx hy).mono ?_)
    | (go_wp2_with fail; refine (brmul_any v u (.slice pa pl pc) x y P w1 HV1.out HU1.out HP1.out hP0 hL hx hy).mono ?_)
  rintro e w2 ⟨z, rfl, hz, hb⟩
  have HZ := Lib.hid hz
  have HB2 := Lib.hid (HB1.out.trans (hb.mono HB1.out.size))
  clear hz hb
  go_wp2_with fail
  go_ret
  exact ⟨_, rfl, HZ.out, HB2.out⟩
set_option maxRecDepth 100000 in
set_option maxHeartbeats 1000000 in
theorem bgexp_any (g v u : Value) (P Q G H x y : Nat) (w : World) (hg : BG w g P Q G H) (hv : BN w v x) (hu : BN w u y) (hP0 : 0 < P) (hL : Bt.len P ≤ 400)  :
    Calls Tryz.prog 65 #[g, v, u] w (RetB (x ^ y % P) w) := by
  obtain ⟨pa, pl, pc, qa, ql, qc, ga, gl, gc, ja, jl, jc, rfl, hP, hQ, hG, hH⟩ := hg
  have hbA := (Below.refl _ w).alloc (Nat.le_refl _) (Obj.cells #[Value.slice pa pl pc, Value.slice qa ql qc, Value.slice ga gl gc, Value.slice ja jl jc] 30)
  have hB : Blk (w.alloc (Obj.cells #[Value.slice pa pl pc, Value.slice qa ql qc, Value.slice ga gl gc, Value.slice ja jl jc] 30)) w.heap.size 30 [.slice pa pl pc, .slice qa ql qc, .slice ga gl gc, .slice ja jl jc] := Blk.new w _ _
  obtain ⟨s, hs⟩ : ∃ s, s = w.heap.size := ⟨_, rfl⟩
  rw [← hs] at hB
  have HP1 := Lib.hid (hP.below hbA)
  have HQ1 := Lib.hid (hQ.below hbA)
  have HG1 := Lib.hid (hG.below hbA)
  have HH1 := Lib.hid (hH.below hbA)
  have HB1 := Lib.hid hbA
  clear hP hQ hG hH hbA
  have HV1 := Lib.hid (hv.below HB1.out)
  have HU1 := Lib.hid (hu.below HB1.out)
  clear hv hu
  go_enter Tryz.func65, Tryz.ntmps65
  go_wp2_with fail
  rw [← hs]
  clear hs
  generalize w.alloc (Obj.cells #[Value.slice pa pl pc, Value.slice qa ql qc, Value.slice ga gl gc, Value.slice ja jl jc] 30) = w1 at hB HP1 HQ1 HG1 HH1 HB1 HV1 HU1 ⊢
  have gP : ∀ w', BB w1 w' → w'.cell? ⟨s, 0, none⟩ = some (.slice pa pl pc) := fun w' hb => (BB.cell hb hB.lt).trans (hB.cell 0)
  have gQ : ∀ w', BB w1 w' → w'.cell? ⟨s, 1, none⟩ = some (.slice qa ql qc) := fun w' hb => (BB.cell hb hB.lt).trans (hB.cell 1)
  have gG : ∀ w', BB w1 w' → w'.cell? ⟨s, 2, none⟩ = some (.slice ga gl gc) := fun w' hb => (BB.cell hb hB.lt).trans (hB.cell 2)
  have gH : ∀ w', BB w1 w' → w'.cell? ⟨s, 3, none⟩ = some (.slice ja jl jc) := fun w' hb => (BB.cell hb hB.lt).trans (hB.cell 3)
  clear hB
  have cP := gP w1 (BB.refl _)
  clear gP gQ gG gH
  first
    | (refine (brexp_any v u (.slice pa pl pc) x y P w1 HV1.out HU1.out HP1.out hP0 hL ).mono ?_)
    | (go_wp2_with fail; refine (brexp_any v u (.slice pa pl pc) x y P w1 HV1.out HU1.out HP1.out hP0 hL ).mono ?_)
  rintro e w2 ⟨z, rfl, hz, hb⟩
  have HZ := Lib.hid hz
  have HB2 := Lib.hid (HB1.out.trans (hb.mono HB1.out.size))
  clear hz hb
  go_wp2_with fail
  go_ret
  exact ⟨_, rfl, HZ.out, HB2.out⟩
def tabBP (v0 : Value) (v1 : Value) (v2 : Value) (v3 : Value) (v4 : Value) (p5 : Fk KpN) (v6 : Value) (v7 : Value) (v8 : Value) (v9 : Value) (p10 : Fk KpN) (p11 : Fk KpN) (p12 : Fk KpN) : List (Fk KpN) := [.val v0, .val v1, .val v2, .val v3, .val v4, p5, .val v6, .val v7, .val v8, .val v9, p10, p11, p12]
def dstBP : List (Option Tmp) := [some 7, some 8, some 9, some 10, some 11, some 12, some 13, some 14, some 15, some 16, some 17, some 18, some 6]
def preBP : List (List Nat) := [[], [], [], [2], [], [1, 2, 3, 4], [], [], [7], [], [1, 2, 3, 4, 5, 6, 7, 8, 9], [0, 1, 2, 3, 4, 5, 6, 7, 8, 9, 10], [0, 1, 2, 3, 4, 5, 6, 7, 8, 9, 10, 11]]
def maskBP : List Bool := [false, false, false, false, false, false, true, true, true, true, true, true, true, true, true, true, true, true, true]

set_option maxRecDepth 100000 in
set_option maxHeartbeats 2000000 in
theorem bpof_any (g v u : Value) (P Q G H x y : Nat) (w : World) (hg : BG w g P Q G H) (hv : BN w v x) (hu : BN w u y) (hP0 : 0 < P) (hL : Bt.len P ≤ 400) :
    Calls Tryz.prog 119 #[g, v, u] w (RetB (G ^ x % P * (H ^ y % P) % P) w) := by
  obtain ⟨pa, pl, pc, qa, ql, qc, ga, gl, gc, ja, jl, jc, rfl, hP, hQ, hG, hH⟩ := hg
  have hbA := (Below.refl _ w).alloc (Nat.le_refl _) (Obj.cells #[Value.slice pa pl pc, Value.slice qa ql qc, Value.slice ga gl gc, Value.slice ja jl jc] 30)
  have hB : Blk (w.alloc (Obj.cells #[Value.slice pa pl pc, Value.slice qa ql qc, Value.slice ga gl gc, Value.slice ja jl jc] 30)) w.heap.size 30 [.slice pa pl pc, .slice qa ql qc, .slice ga gl gc, .slice ja jl jc] := Blk.new w _ _
  obtain ⟨s, hs⟩ : ∃ s, s = w.heap.size := ⟨_, rfl⟩
  rw [← hs] at hB
  have HP1 := Lib.hid (hP.below hbA)
  have HQ1 := Lib.hid (hQ.below hbA)
  have HG1 := Lib.hid (hG.below hbA)
  have HH1 := Lib.hid (hH.below hbA)
  have HB1 := Lib.hid hbA
  clear hP hQ hG hH hbA
  have HV1 := Lib.hid (hv.below HB1.out)
  have HU1 := Lib.hid (hu.below HB1.out)
  clear hv hu
  go_enter Tryz.func119, Tryz.ntmps119
  go_wp2_with fail
  rw [← hs]
  clear hs
  generalize w.alloc (Obj.cells #[Value.slice pa pl pc, Value.slice qa ql qc, Value.slice ga gl gc, Value.slice ja jl jc] 30) = w1 at hB HP1 HQ1 HG1 HH1 HB1 HV1 HU1 ⊢
  have gP : ∀ w', BB w1 w' → w'.cell? ⟨s, 0, none⟩ = some (.slice pa pl pc) := fun w' hb => (BB.cell hb hB.lt).trans (hB.cell 0)
  have gQ : ∀ w', BB w1 w' → w'.cell? ⟨s, 1, none⟩ = some (.slice qa ql qc) := fun w' hb => (BB.cell hb hB.lt).trans (hB.cell 1)
  have gG : ∀ w', BB w1 w' → w'.cell? ⟨s, 2, none⟩ = some (.slice ga gl gc) := fun w' hb => (BB.cell hb hB.lt).trans (hB.cell 2)
  have gH : ∀ w', BB w1 w' → w'.cell? ⟨s, 3, none⟩ = some (.slice ja jl jc) := fun w' hb => (BB.cell hb hB.lt).trans (hB.cell 3)
  clear hB
  refine wp_region_mix (fun _ w' => BB w1 w') (GF (tabBP (.agg #[.slice pa pl pc, .slice qa ql qc, .slice ga gl gc, .slice ja jl jc]) (.agg #[.slice pa pl pc, .slice qa ql qc, .slice ga gl gc, .slice ja jl jc]) (.pointer (some ⟨s, 2, none⟩)) (.slice ga gl gc) (v) (Fk.rel (fun v w => BN w v (G ^ x % P)) (fun _ _ _ hb h => h.below hb)) (.agg #[.slice pa pl pc, .slice qa ql qc, .slice ga gl gc, .slice ja jl jc]) (.pointer (some ⟨s, 3, none⟩)) (.slice ja jl jc) (u) (Fk.rel (fun v w => BN w v (H ^ y % P)) (fun _ _ _ hb h => h.below hb)) (Fk.rel (fun v w => BN w v (G ^ x % P * (H ^ y % P) % P)) (fun _ _ _ hb h => h.below hb)) (Fk.rel (fun v w => BN w v (G ^ x % P * (H ^ y % P) % P)) (fun _ _ _ hb h => h.below hb)))) maskBP dstBP preBP (by kernel_rfl) (by kernel_rfl) rfl (by kernel_rfl) (by kernel_rfl) (by kernel_rfl) (by kernel_rfl) (BB.drew (BB.refl _)) ?_ ?_
  · refine StepsM.cons (fun l g' wu hB hl hn hp K hK => ?_) ?_
    · have hbb := hB; have c0 := gP _ hbb; have c1 := gQ _ hbb; have c2 := gG _ hbb; have c3 := gH _ hbb; simp only [mkM, maskBP, mixM, Nat.reduceAdd] at hK ⊢; simp only [Act.put, List.setIfInBounds_toArray, List.set_cons_zero, List.set_cons_succ] at hK; go_simp; exact hK.out _ _ hB GF.same rfl
    refine StepsM.cons (fun l g' wu hB hl hn hp K hK => ?_) ?_
    · have hbb := hB; have c0 := gP _ hbb; have c1 := gQ _ hbb; have c2 := gG _ hbb; have c3 := gH _ hbb; simp only [mkM, maskBP, mixM, Nat.reduceAdd] at hK ⊢; simp only [Act.put, List.setIfInBounds_toArray, List.set_cons_zero, List.set_cons_succ] at hK; go_simp; exact hK.out _ _ hB GF.same rfl
    refine StepsM.cons (fun l g' wu hB hl hn hp K hK => ?_) ?_
    · simp only [mkM, maskBP, mixM, Nat.reduceAdd] at hK ⊢; simp only [Act.put, List.setIfInBounds_toArray, List.set_cons_zero, List.set_cons_succ] at hK; go_simp; exact hK.out _ _ hB GF.same rfl
    refine StepsM.cons (fun l g' wu hB hl hn hp K hK => ?_) ?_
    · have hbb := hB; have e2 : g' 9 = .pointer (some ⟨s, 2, none⟩) := (hp 2 (by decide)).2; have c2 := gG _ hbb; simp only [mkM, maskBP, mixM, Nat.reduceAdd, e2] at hK ⊢; clear e2; simp only [Act.put, List.setIfInBounds_toArray, List.set_cons_zero, List.set_cons_succ] at hK; go_simp; exact hK.out _ _ hB GF.same rfl
    refine StepsM.cons (fun l g' wu hB hl hn hp K hK => ?_) ?_
    · simp only [mkM, maskBP, mixM, Nat.reduceAdd] at hK ⊢; simp only [Act.put, List.setIfInBounds_toArray, List.set_cons_zero, List.set_cons_succ] at hK; go_simp; exact hK.out _ _ hB GF.same rfl
    refine StepsM.cons (fun l g' wu hB hl hn hp K hK => ?_) ?_
    · have hbb := hB; have e1 : g' 8 = .agg #[.slice pa pl pc, .slice qa ql qc, .slice ga gl gc, .slice ja jl jc] := (hp 1 (by decide)).2; have e3 : g' 10 = .slice ga gl gc := (hp 3 (by decide)).2; have e4 : g' 11 = v := (hp 4 (by decide)).2; simp only [mkM, maskBP, mixM, Nat.reduceAdd, e1, e3, e4] at hK ⊢; clear e1 e3 e4; simp only [Act.put, List.setIfInBounds_toArray, List.set_cons_zero, List.set_cons_succ] at hK; go_simp; go_at_call 65; refine (bgexp_any _ _ _ P Q G H G x _ ⟨pa, pl, pc, qa, ql, qc, ga, gl, gc, ja, jl, jc, rfl, HP1.out.below hbb, HQ1.out.below hbb, HG1.out.below hbb, HH1.out.below hbb⟩ (HG1.out.below hbb) (HV1.out.below hbb) hP0 hL).mono ?_; rintro e w7 ⟨z, rfl, hz, hb⟩; go_wp2_with fail; exact hK.out _ _ (BB.step hbb hb) (GF.below hb) hz
    refine StepsM.cons (fun l g' wu hB hl hn hp K hK => ?_) ?_
    · have hbb := hB; have c0 := gP _ hbb; have c1 := gQ _ hbb; have c2 := gG _ hbb; have c3 := gH _ hbb; simp only [mkM, maskBP, mixM, Nat.reduceAdd] at hK ⊢; simp only [Act.put, List.setIfInBounds_toArray, List.set_cons_zero, List.set_cons_succ] at hK; go_simp; exact hK.out _ _ hB GF.same rfl
    refine StepsM.cons (fun l g' wu hB hl hn hp K hK => ?_) ?_
    · simp only [mkM, maskBP, mixM, Nat.reduceAdd] at hK ⊢; simp only [Act.put, List.setIfInBounds_toArray, List.set_cons_zero, List.set_cons_succ] at hK; go_simp; exact hK.out _ _ hB GF.same rfl
    refine StepsM.cons (fun l g' wu hB hl hn hp K hK => ?_) ?_
    · have hbb := hB; have e7 : g' 14 = .pointer (some ⟨s, 3, none⟩) := (hp 7 (by decide)).2; have c3 := gH _ hbb; simp only [mkM, maskBP, mixM, Nat.reduceAdd, e7] at hK ⊢; clear e7; simp only [Act.put, List.setIfInBounds_toArray, List.set_cons_zero, List.set_cons_succ] at hK; go_simp; exact hK.out _ _ hB GF.same rfl
    refine StepsM.cons (fun l g' wu hB hl hn hp K hK => ?_) ?_
    · simp only [mkM, maskBP, mixM, Nat.reduceAdd] at hK ⊢; simp only [Act.put, List.setIfInBounds_toArray, List.set_cons_zero, List.set_cons_succ] at hK; go_simp; exact hK.out _ _ hB GF.same rfl
    refine StepsM.cons (fun l g' wu hB hl hn hp K hK => ?_) ?_
    · have hbb := hB; have e6 : g' 13 = .agg #[.slice pa pl pc, .slice qa ql qc, .slice ga gl gc, .slice ja jl jc] := (hp 6 (by decide)).2; have e8 : g' 15 = .slice ja jl jc := (hp 8 (by decide)).2; have e9 : g' 16 = u := (hp 9 (by decide)).2; simp only [mkM, maskBP, mixM, Nat.reduceAdd, e6, e8, e9] at hK ⊢; clear e6 e8 e9; simp only [Act.put, List.setIfInBounds_toArray, List.set_cons_zero, List.set_cons_succ] at hK; go_simp; go_at_call 65; refine (bgexp_any _ _ _ P Q G H H y _ ⟨pa, pl, pc, qa, ql, qc, ga, gl, gc, ja, jl, jc, rfl, HP1.out.below hbb, HQ1.out.below hbb, HG1.out.below hbb, HH1.out.below hbb⟩ (HH1.out.below hbb) (HU1.out.below hbb) hP0 hL).mono ?_; rintro e w7 ⟨z, rfl, hz, hb⟩; go_wp2_with fail; exact hK.out _ _ (BB.step hbb hb) (GF.below hb) hz
    refine StepsM.cons (fun l g' wu hB hl hn hp K hK => ?_) ?_
    · have hbb := hB; have e0 : g' 7 = .agg #[.slice pa pl pc, .slice qa ql qc, .slice ga gl gc, .slice ja jl jc] := (hp 0 (by decide)).2; have h5 : BN wu (g' 12) (G ^ x % P) := (hp 5 (by decide)).2; have h10 : BN wu (g' 17) (H ^ y % P) := (hp 10 (by decide)).2; simp only [mkM, maskBP, mixM, Nat.reduceAdd, e0] at hK ⊢; clear e0; simp only [Act.put, List.setIfInBounds_toArray, List.set_cons_zero, List.set_cons_succ] at hK; go_simp; go_at_call 64; refine (bgmul_any _ _ _ P Q G H _ _ _ ⟨pa, pl, pc, qa, ql, qc, ga, gl, gc, ja, jl, jc, rfl, HP1.out.below hbb, HQ1.out.below hbb, HG1.out.below hbb, HH1.out.below hbb⟩ h5 h10 hP0 hL (Nat.le_trans (len_mod _ hP0) hL) (Nat.le_trans (len_mod _ hP0) hL)).mono ?_; rintro e w7 ⟨z, rfl, hz, hb⟩; go_wp2_with fail; exact hK.out _ _ (BB.step hbb hb) (GF.below hb) hz
    refine StepsM.cons (fun l g' wu hB hl hn hp K hK => ?_) ?_
    · have h11 : BN wu (g' 18) (G ^ x % P * (H ^ y % P) % P) := (hp 11 (by decide)).2; simp only [mkM, maskBP, mixM, Nat.reduceAdd] at hK ⊢; simp only [Act.put, List.setIfInBounds_toArray, List.set_cons_zero, List.set_cons_succ] at hK; go_simp; exact hK.out _ _ hB GF.same h11
    exact StepsM.nil
  · intro l g' wu hall hB hG
    have hz : BN wu (g' 6) (G ^ x % P * (H ^ y % P) % P) := hG 12 (by decide)
    have HZ := Lib.hid hz
    simp only [mkM, maskBP, mixM, Nat.reduceAdd]
    clear hG hall hz
    go_wp2_with fail
    go_ret
    exact ⟨_, rfl, HZ.out, HB1.out.trans (Below.mono hB HB1.out.size)⟩
end Go.Proofs.YthefednendgclaaGreat
/-
  Rows of the document's numbers: read, and appended to.
-/
namespace Go.Proofs.YthefednendgclaaGreat
open Go Go.RowKit Sac

/-- The slice v holds the numbers ns. -/
def BRow (w : World) (v : Value) (ns : List Nat) : Prop := ∃ (a : Option Addr) (cap : Nat), v = .slice a ns.length cap ∧ ns.length ≤ cap ∧ (cap : Int) ≤ 9223372036854775807 ∧ ∀ j, j < ns.length → ∃ (ad : Addr) (za : Option Addr) (zl zc : Nat), a = some ad ∧ Ety w ad.block 28 ∧ w.cell? (ad.add j) = some (.slice za zl zc) ∧ BN w (.slice za zl zc) (ns.getD j 0)
theorem BRow.below {w w' : World} {v : Value} {ns : List Nat} (h : BRow w v ns) (hb : Below w.heap.size w w') : BRow w' v ns := by
  obtain ⟨a, cap, h1, h2, h3, h4⟩ := h
  refine ⟨a, cap, h1, h2, h3, fun j hj => ?_⟩
  obtain ⟨ad, za, zl, zc, e, he, hc, hn⟩ := h4 j hj
  have hs := hb.block ad.block he.lt
  exact ⟨ad, za, zl, zc, e, he.same hs, (World.cell?_of_block (w := w) (by rw [block_add]; exact hs)).trans hc, hn.below hb⟩
theorem BRow.form {w : World} {v : Value} {ns : List Nat} (h : BRow w v ns) : ∃ (a : Option Addr) (cap : Nat), v = .slice a ns.length cap ∧ ns.length ≤ cap := by
  obtain ⟨a, cap, h1, h2, _⟩ := h
  exact ⟨a, cap, h1, h2⟩
theorem BRow.get {w : World} {a : Option Addr} {n cap : Nat} {ns : List Nat} (h : BRow w (.slice a n cap) ns) {j : Nat} (hj : j < ns.length) :
    ∃ (ad : Addr) (za : Option Addr) (zl zc : Nat), a = some ad ∧ (∀ w', BB w w' → w'.cell? (ad.add j) = some (.slice za zl zc)) ∧ BN w (.slice za zl zc) (ns.getD j 0) := by
  obtain ⟨a', cap', h1, h2, h3, h4⟩ := h
  injection h1 with e1 _ _
  subst e1
  obtain ⟨ad, za, zl, zc, e, he, hc, hn⟩ := h4 j hj
  exact ⟨ad, za, zl, zc, e, fun w' hb => (BB.cell hb (by rw [block_add]; exact he.lt)).trans hc, hn⟩

theorem Tryz.infoBN : (Tryz.prog.info? 28).map (fun i => (i.zero, i.size, i.bytes)) = some (some (.slice none 0 0), 1, 24) := by kernel_rfl
/-- A row of the walk's own. -/
def OwnN (w : World) (base : Nat) (v : Value) (ns : List Nat) : Prop := ∃ xs : List Value, w.ownsRow base 28 1 v ns.length xs ∧ ∀ i, i < ns.length → ∃ (za : Option Addr) (zl zc : Nat), xs[i]? = some (.slice za zl zc) ∧ BN w (.slice za zl zc) (ns.getD i 0)
theorem OwnN.nil (w : World) (base : Nat) : OwnN w base (.slice none 0 0) [] := ⟨[], World.ownsRow_nil _ _ _ _, fun i hi => by simp at hi⟩
theorem OwnN.nil0 (w : World) (s : Nat) (hs : s = w.heap.size) : OwnN (w.alloc (Obj.cells #[] 28)) s (.slice (some ⟨s, 0, none⟩) 0 0) [] :=
  ⟨[], own_intro (rest := []) (Nat.le_refl s) (Blk.new' w [] 28 s hs) (Nat.le_refl 0) (by decide) rfl rfl, fun i hi => by simp at hi⟩
theorem OwnN.lt {w : World} {base : Nat} {v : Value} {ns : List Nat} (h : OwnN w base v ns) {k : Nat} (hk : v.ownBlock = some k) : base ≤ k ∧ k < w.heap.size := by
  obtain ⟨xs, ho, _⟩ := h
  exact ho.lt k hk
theorem OwnN.below {w w' : World} {base : Nat} {v : Value} {ns : List Nat} (h : OwnN w base v ns) (hb : Below w.heap.size w w') : OwnN w' base v ns := by
  obtain ⟨xs, ho, hv⟩ := h
  refine ⟨xs, own_only (F := fun _ => False) ho (Only.below hb) (fun _ _ => id), fun i hi => ?_⟩
  obtain ⟨za, zl, zc, h1, h2⟩ := hv i hi
  exact ⟨za, zl, zc, h1, h2.below hb⟩
theorem OwnN.alloc {w : World} {base : Nat} {v : Value} {ns : List Nat} (h : OwnN w base v ns) (o : Obj) : OwnN (w.alloc o) base v ns := h.below ((Below.refl _ w).alloc (Nat.le_refl _) o)
theorem OwnN.row {w : World} {base : Nat} {v : Value} {ns : List Nat} (h : OwnN w base v ns) : BRow w v ns := by
  obtain ⟨xs, ho, hv⟩ := h
  obtain ⟨hx, ⟨rfl, h0, h1⟩ | ⟨g, cap, rest, rfl, hb, hB, hn, hc, hl⟩⟩ := own_elim ho
  · have : ns = [] := List.eq_nil_of_length_eq_zero h0
    subst this
    exact ⟨none, 0, rfl, Nat.le_refl _, by decide, fun j hj => by simp at hj⟩
  · refine ⟨some ⟨g, 0, none⟩, cap, rfl, hn, by unfold maxLen at hc; omega, fun j hj => ?_⟩
    obtain ⟨za, zl, zc, h1, h2⟩ := hv j hj
    exact ⟨_, za, zl, zc, rfl, hB.ety, hB.news j _ (by rw [List.getElem?_append_left (by omega)]; exact h1), h2⟩

/-- One number more. -/
theorem append_bn (w : World) (base : Nat) (ty : TypeId) (v : Value) (ns : List Nat) (hown : OwnN w base v ns) (ad : Addr) (c n : Nat) (xa : Option Addr) (xl xc : Nat) (hc : w.cell? ad = some (.slice xa xl xc)) (hn : BN w (.slice xa xl xc) n) (hlen : ns.length ≤ 100000) (hbase : base ≤ w.heap.size) :
    ∃ v' w', (Builtin.append_ #[47, 47] ty #[v, .slice (some ad) 1 c]).run Tryz.prog w = .ok v' w' ∧ OwnN w' base v' (ns ++ [n]) ∧ w.grownBy w' v.ownBlock ∧ (∀ k, v'.ownBlock = some k → v.ownBlock = some k ∨ w.heap.size ≤ k) := by
  obtain ⟨i, hi, hz1, hz2, hz3⟩ := info_parts Tryz.infoBN
  obtain ⟨xs, ho, hv⟩ := hown
  have hx : xs.length = ns.length := by have := ho.1; omega
  obtain ⟨v', w', hr, ho', hg, hf⟩ := append_own (P := Tryz.prog) w base 47 ty 28 i _ 1 24 Tryz.underlying47 hi hz1 hz2 hz3 rfl (by decide) v ns.length xs ho ad 1 c [.slice xa xl xc] rfl
    (fun j u hj => by
      rcases j with _ | j
      · obtain rfl : Value.slice xa xl xc = u := by simpa using hj
        show w.cell? (ad.add 0) = _
        unfold Addr.add; simpa using hc
      · simp at hj) (fun u hu => by rw [List.mem_singleton.1 hu]; rfl) (by unfold maxLen; omega) (by omega) hbase
  refine ⟨v', w', hr, ⟨xs ++ [.slice xa xl xc], by simpa using ho', fun j hj => ?_⟩, hg, hf⟩
  have hst : ∀ {u : Value} {m : Nat}, BN w u m → BN w' u m := by
    intro u m h
    refine h.same fun k hk => hg.block k hk.lt ?_
    intro hrow
    obtain ⟨cs', fr, hk⟩ := hk
    obtain ⟨hx2, ⟨rfl, h0, h1⟩ | ⟨g, cap, rest, rfl, hb, hB, hn2, hc2, hl2⟩⟩ := own_elim ho
    · cases hrow
    · have : k = g := Option.some.inj hrow
      subst this
      unfold Blk at hB
      rw [hB] at hk
      injection hk with hk
      injection hk with _ he _
      exact absurd he (by decide)
  rw [List.length_append, List.length_singleton] at hj
  rcases Nat.lt_or_ge j ns.length with h | h
  · obtain ⟨x, l, c', h3, h4⟩ := hv j h
    refine ⟨x, l, c', by rw [List.getElem?_append_left (by omega)]; exact h3, ?_⟩
    rw [show (ns ++ [n]).getD j 0 = ns.getD j 0 by simp [List.getD_eq_getElem?_getD, List.getElem?_append_left h]]
    exact hst h4
  · obtain rfl : j = ns.length := by omega
    refine ⟨xa, xl, xc, by rw [← hx, List.getElem?_append_right (Nat.le_refl _), Nat.sub_self]; rfl, ?_⟩
    rw [show (ns ++ [n]).getD ns.length 0 = n by simp [List.getD_eq_getElem?_getD]]
    exact hst hn
theorem wpList_append_bn (w : World) {ops : Array Oper} {rest : List Oper} {o : Oper} {a : Act} {Q : Exit → Act → World → Prop} (hg : o.guard = none) (s x : Operand)
    (hop : o.op = Op.call { callee := Callee.builtin Builtin.append, args := #[s, x], argTypes := #[47, 47] })
    (base : Nat) (v : Value) (ns : List Nat) (hs : a.eval s = v) (hown : OwnN w base v ns) (ad : Addr) (c n : Nat) (xa : Option Addr) (xl xc : Nat) (hx : a.eval x = .slice (some ad) 1 c) (hc : w.cell? ad = some (.slice xa xl xc)) (hn : BN w (.slice xa xl xc) n)
    (hlen : ns.length ≤ 100000) (hbase : base ≤ w.heap.size)
    (h : ∀ v' w', OwnN w' base v' (ns ++ [n]) → w.grownBy w' v.ownBlock → (∀ k, v'.ownBlock = some k → v.ownBlock = some k ∨ w.heap.size ≤ k) → wpList Tryz.prog ops Q rest (a.put o.dst v') w') :
    wpList Tryz.prog ops Q (o :: rest) a w := by
  refine wpList_plain hg fun K hK' => ?_
  obtain ⟨v', w', hr, h1, h2, h3⟩ := append_bn w base o.type v ns hown ad c n xa xl xc hc hn hlen hbase
  unfold Oper.wp execOp
  simp only [hop, resolve, invoke, builtin, Sem.run_bind, Sem.run_pure, Result.andThen_ok, List.map_toArray, List.map_cons, List.map_nil, hs, hx, hr]
  exact hK' _ _ (h v' w' h1 h2 h3)
theorem step_append_bn {ops : Array Oper} {o : Oper} {a : Act} {w : World} {K : Act → World → Prop} {Q : Exit → Act → World → Prop} {E : Prop} (hg : o.guard = none) (s x : Operand)
    (hop : o.op = Op.call { callee := Callee.builtin Builtin.append, args := #[s, x], argTypes := #[47, 47] })
    (base : Nat) (v : Value) (ns : List Nat) (hs : a.eval s = v) (hown : OwnN w base v ns) (ad : Addr) (c n : Nat) (xa : Option Addr) (xl xc : Nat) (hx : a.eval x = .slice (some ad) 1 c) (hc : w.cell? ad = some (.slice xa xl xc)) (hn : BN w (.slice xa xl xc) n)
    (hlen : ns.length ≤ 100000) (hbase : base ≤ w.heap.size)
    (h : ∀ v' w', OwnN w' base v' (ns ++ [n]) → w.grownBy w' v.ownBlock → (∀ k, v'.ownBlock = some k → v.ownBlock = some k ∨ w.heap.size ≤ k) → K (a.put o.dst v') w') :
    if Region.wanted o (yielded ops a.tmps) = true then Oper.wp Tryz.prog o a w K Q else E := by
  rw [if_pos (by simp [Region.wanted, hg])]
  obtain ⟨v', w', hr, h1, h2, h3⟩ := append_bn w base o.type v ns hown ad c n xa xl xc hc hn hlen hbase
  unfold Oper.wp execOp
  simp only [hop, resolve, invoke, builtin, Sem.run_bind, Sem.run_pure, Result.andThen_ok, List.map_toArray, List.map_cons, List.map_nil, hs, hx, hr]
  exact h v' w' h1 h2 h3
theorem below_appN {B : Nat} {w0 w w' : World} {o : Obj} {v : Value} {ns : List Nat} (h : Below B w0 w) (ho : OwnN w B v ns) (hg : (w.alloc o).grownBy w' v.ownBlock) (hB : B ≤ w.heap.size) : Below B w0 w' ∧ B ≤ w'.heap.size :=
  ⟨below_grown (h.alloc hB o) hg (fun k hk => (ho.lt hk).1) (by simp; omega), by have := hg.size; simp at this; omega⟩
/-- A row handed back. -/
def RetBRow (ns : List Nat) (w : World) (e : Ending) (w' : World) : Prop := ∃ v, e = .returned v ∧ BRow w' v ns ∧ Below w.heap.size w w'

theorem take_snoc {l : List Nat} {i : Nat} (h : i < l.length) : l.take (i + 1) = l.take i ++ [l.getD i 0] := by
  rw [List.take_succ_eq_append_getElem h, List.getD_eq_getElem?_getD, List.getElem?_eq_getElem h]; rfl

set_option maxRecDepth 100000 in
set_option maxHeartbeats 4000000 in
theorem refs10_any (a : Option Addr) (len cap : Nat) (l : List Nat) (w : World) (h : NatsAt w a l) (hl : l.length = len) (hc : (len : Int) ≤ cap) (hlen : (len : Int) ≤ 10000) (hb : ∀ x ∈ l, nbytes x ≤ 120) :
    Calls Tryz.prog 17 #[.slice a len cap] w (RetBRow l w) := by
  obtain ⟨s, hs⟩ : ∃ s, s = w.heap.size := ⟨_, rfl⟩
  have HS := Lib.hid hs
  have HA := Lib.hid h
  have HL := Lib.hid hl
  have HX := Lib.hid hb
  clear h hl hb
  go_enter Tryz.func17, Tryz.ntmps17
  go_wp2_with fail
  go_loopw [3, 8] (fun ov iv wr => ∃ (i : Nat) (v : Value), v = ov ∧ (i : Int) ≤ len ∧ iv = .int .i64 (i : Int) ∧ Hid (OwnN wr s v (l.take i)) ∧ Hid (Below s w wr) ∧ Hid (s ≤ wr.heap.size)) (fun _ iv _ => len - (intOf iv).toNat)
  case atStart => exact ⟨0, _, rfl, by omega, rfl, OwnN.nil _ _, hs ▸ Below.refl _ _, Nat.le_of_eq hs⟩
  case round =>
    clear hs
    obtain ⟨i, v, rfl, hi, rfl, HO, HB, HZ⟩ := hrel
    by_cases hlt : (i : Int) < len
    · have hil : i < l.length := by rw [HL.out]; omega
      obtain ⟨ad, xa, xl, xc, rfl, _, cx, nx⟩ := (HA.out.below (HS.out ▸ HB.out)).get hil
      obtain ⟨x, hx⟩ : ∃ x, l.getD i 0 = x := ⟨_, rfl⟩
      have hxb : nbytes x ≤ 120 := by rw [← hx, List.getD_eq_getElem?_getD, List.getElem?_eq_getElem hil]; exact HX.out _ (List.getElem_mem hil)
      rw [hx] at nx
      have HTS := Lib.hid (hx ▸ take_snoc hil)
      have HTL : Hid ((l.take i).length = i) := by show _ = _; rw [List.length_take]; omega
      have HXB := Lib.hid hxb
      have hbx := (Below.refl _ wr).alloc (Nat.le_refl _) (Obj.cells #[Value.slice xa xl xc] 36)
      have HN2 := Lib.hid (nx.below hbx)
      have HO2 := Lib.hid (HO.out.below hbx)
      have HB2 := Lib.hid (HB.out.trans (hbx.mono HZ.out))
      have HZ2 := Lib.hid (Nat.le_trans HZ.out hbx.size)
      clear hx hxb hbx nx hil HO HB HZ
      go_wp2_with fail
      clear cx
      generalize wr.alloc (Obj.cells #[Value.slice xa xl xc] 36) = w2 at HN2 HO2 HB2 HZ2 ⊢
      refine (num_any xa xl xc x w2 HN2.out HXB.out).mono ?_
      rintro e w3 ⟨z, rfl, hz, hb3⟩
      obtain ⟨za, zc, rfl, _, _, _, _⟩ := id hz
      have HO3 := Lib.hid (HO2.out.below hb3)
      have HB3 := Lib.hid (HB2.out.trans (hb3.mono HZ2.out))
      have HZ3 := Lib.hid (Nat.le_trans HZ2.out hb3.size)
      obtain ⟨zl, hzl⟩ : ∃ zl, Bt.len x = zl := ⟨_, rfl⟩
      rw [hzl] at hz ⊢
      have hbx := (Below.refl _ w3).alloc (Nat.le_refl _) (Obj.cells #[Value.slice za zl zc] 28)
      have HN4 := Lib.hid (hz.below hbx)
      have cR := (Blk.new w3 [Value.slice za zl zc] 28).cell 0
      simp only [List.getElem?_cons_zero] at cR
      clear hz hb3 HO2 HB2 HZ2 HN2 hzl hbx
      go_wp2_with (first | (at_builtin; refine wpList_append_bn _ rfl (.tmp 12) (.tmp 15) rfl s _ (l.take i) rfl (HO3.out.alloc _) ⟨w3.heap.size, 0, none⟩ 1 x za zl zc rfl cR HN4.out (by rw [HTL.out]; omega) (by have := HZ3.out; simp; omega) ?_; intro v' w4 hown hgr _; have HO4 := Lib.hid hown; have HB4 := Lib.hid (below_appN HB3.out HO3.out hgr HZ3.out); clear hown hgr))
      go_roundw
      case rel => exact ⟨i + 1, _, rfl, by omega, by go_num, HTS.out.symm ▸ HO4.out, HB4.out.1, HB4.out.2⟩
      case measure => simp [intOf]; omega
    · have hi' : i = len := by omega
      subst hi'
      rw [List.take_of_length_le (by rw [HL.out]; exact Nat.le_refl _)] at HO
      go_wp2_with fail
      go_ret
      exact ⟨_, rfl, HO.out.row, HS.out ▸ HB.out⟩
set_option maxRecDepth 100000 in
set_option maxHeartbeats 4000000 in
theorem refs14_any (a : Option Addr) (len cap : Nat) (l : List Nat) (w : World) (h : NatsAt w a l) (hl : l.length = len) (hc : (len : Int) ≤ cap) (hlen : (len : Int) ≤ 10000) (hb : ∀ x ∈ l, nbytes x ≤ 120) :
    Calls Tryz.prog 36 #[.slice a len cap] w (RetBRow l w) := by
  obtain ⟨s, hs⟩ : ∃ s, s = w.heap.size := ⟨_, rfl⟩
  have HS := Lib.hid hs
  have HA := Lib.hid h
  have HL := Lib.hid hl
  have HX := Lib.hid hb
  clear h hl hb
  go_enter Tryz.func36, Tryz.ntmps36
  go_wp2_with fail
  go_loopw [3, 8] (fun ov iv wr => ∃ (i : Nat) (v : Value), v = ov ∧ (i : Int) ≤ len ∧ iv = .int .i64 (i : Int) ∧ Hid (OwnN wr s v (l.take i)) ∧ Hid (Below s w wr) ∧ Hid (s ≤ wr.heap.size)) (fun _ iv _ => len - (intOf iv).toNat)
  case atStart => exact ⟨0, _, rfl, by omega, rfl, OwnN.nil _ _, hs ▸ Below.refl _ _, Nat.le_of_eq hs⟩
  case round =>
    clear hs
    obtain ⟨i, v, rfl, hi, rfl, HO, HB, HZ⟩ := hrel
    by_cases hlt : (i : Int) < len
    · have hil : i < l.length := by rw [HL.out]; omega
      obtain ⟨ad, xa, xl, xc, rfl, _, cx, nx⟩ := (HA.out.below (HS.out ▸ HB.out)).get hil
      obtain ⟨x, hx⟩ : ∃ x, l.getD i 0 = x := ⟨_, rfl⟩
      have hxb : nbytes x ≤ 120 := by rw [← hx, List.getD_eq_getElem?_getD, List.getElem?_eq_getElem hil]; exact HX.out _ (List.getElem_mem hil)
      rw [hx] at nx
      have HTS := Lib.hid (hx ▸ take_snoc hil)
      have HTL : Hid ((l.take i).length = i) := by show _ = _; rw [List.length_take]; omega
      have HXB := Lib.hid hxb
      have hbx := (Below.refl _ wr).alloc (Nat.le_refl _) (Obj.cells #[Value.slice xa xl xc] 36)
      have HN2 := Lib.hid (nx.below hbx)
      have HO2 := Lib.hid (HO.out.below hbx)
      have HB2 := Lib.hid (HB.out.trans (hbx.mono HZ.out))
      have HZ2 := Lib.hid (Nat.le_trans HZ.out hbx.size)
      clear hx hxb hbx nx hil HO HB HZ
      go_wp2_with fail
      clear cx
      generalize wr.alloc (Obj.cells #[Value.slice xa xl xc] 36) = w2 at HN2 HO2 HB2 HZ2 ⊢
      refine (num_any xa xl xc x w2 HN2.out HXB.out).mono ?_
      rintro e w3 ⟨z, rfl, hz, hb3⟩
      obtain ⟨za, zc, rfl, _, _, _, _⟩ := id hz
      have HO3 := Lib.hid (HO2.out.below hb3)
      have HB3 := Lib.hid (HB2.out.trans (hb3.mono HZ2.out))
      have HZ3 := Lib.hid (Nat.le_trans HZ2.out hb3.size)
      obtain ⟨zl, hzl⟩ : ∃ zl, Bt.len x = zl := ⟨_, rfl⟩
      rw [hzl] at hz ⊢
      have hbx := (Below.refl _ w3).alloc (Nat.le_refl _) (Obj.cells #[Value.slice za zl zc] 28)
      have HN4 := Lib.hid (hz.below hbx)
      have cR := (Blk.new w3 [Value.slice za zl zc] 28).cell 0
      simp only [List.getElem?_cons_zero] at cR
      clear hz hb3 HO2 HB2 HZ2 HN2 hzl hbx
      go_wp2_with (first | (at_builtin; refine wpList_append_bn _ rfl (.tmp 12) (.tmp 15) rfl s _ (l.take i) rfl (HO3.out.alloc _) ⟨w3.heap.size, 0, none⟩ 1 x za zl zc rfl cR HN4.out (by rw [HTL.out]; omega) (by have := HZ3.out; simp; omega) ?_; intro v' w4 hown hgr _; have HO4 := Lib.hid hown; have HB4 := Lib.hid (below_appN HB3.out HO3.out hgr HZ3.out); clear hown hgr))
      go_roundw
      case rel => exact ⟨i + 1, _, rfl, by omega, by go_num, HTS.out.symm ▸ HO4.out, HB4.out.1, HB4.out.2⟩
      case measure => simp [intOf]; omega
    · have hi' : i = len := by omega
      subst hi'
      rw [List.take_of_length_le (by rw [HL.out]; exact Nat.le_refl _)] at HO
      go_wp2_with fail
      go_ret
      exact ⟨_, rfl, HO.out.row, HS.out ▸ HB.out⟩
end Go.Proofs.YthefednendgclaaGreat
