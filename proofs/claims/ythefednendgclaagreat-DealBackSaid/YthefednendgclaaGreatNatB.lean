import Derived.Test.YthefednendgclaaGreatBack
import Derived.Test.YthefednendgclaaGreatNatA
set_option linter.unusedVariables false
set_option linter.unusedSimpArgs false
/-
  The numbers' own functions: Cmp.
-/
namespace Go.Proofs.YthefednendgclaaGreat
open Go Go.RowKit Go.Shelf Sac

attribute [local go_sem] Oper.semAt_some

def cmpNat (n m : Nat) : Int := if n < m then -1 else if m < n then 1 else 0

theorem cmp_len {a b : List Nat} (ha : Words a) (hb : Tight b) (h : a.length < b.length) : cmpNat (val a) (val b) = -1 := by
  unfold cmpNat; rw [if_pos (val_lt_of_length ha hb h)]
theorem cmp_len' {a b : List Nat} (ha : Tight a) (hb : Words b) (h : b.length < a.length) : cmpNat (val a) (val b) = 1 := by
  have := val_lt_of_length hb ha h
  unfold cmpNat; rw [if_neg (by omega), if_pos this]

/-- Alike above place j, and unlike there. -/
theorem cmp_place {a b : List Nat} (ha : Words a) (hb : Words b) (hl : a.length = b.length) (j : Nat) (hj : j < a.length) (h : ∀ i, j < i → i < a.length → a.getD i 0 = b.getD i 0) (hlt : a.getD j 0 < b.getD j 0) : val a < val b := by
  have h1 : val a = val (a.take (j + 1)) + W ^ (j + 1) * val (a.drop (j + 1)) := val_split a (j + 1)
  have h2 : val b = val (b.take (j + 1)) + W ^ (j + 1) * val (b.drop (j + 1)) := val_split b (j + 1)
  have h3 : a.drop (j + 1) = b.drop (j + 1) := by
    refine List.ext_getElem (by simp [hl]) fun i h4 h5 => ?_
    simp at h4 h5
    have := h (j + 1 + i) (by omega) (by omega)
    simpa [List.getD_eq_getElem?_getD, show j + 1 + i < a.length by omega, show j + 1 + i < b.length by omega] using this
  rw [h1, h2, h3, val_take_succ' a j, val_take_succ' b j]
  have h6 := val_lt (words_take ha j)
  rw [List.length_take, Nat.min_eq_left (by omega)] at h6
  have h7 : W ^ j * (a.getD j 0 + 1) ≤ W ^ j * b.getD j 0 := Nat.mul_le_mul_left _ hlt
  rw [Nat.mul_add] at h7
  omega

theorem ext_getD0 {a b : List Nat} (hl : a.length = b.length) (h : ∀ j, j < a.length → a.getD j 0 = b.getD j 0) : a = b := by
  refine List.ext_getElem hl fun j h1 h2 => ?_
  have := h j h1
  simpa [List.getD_eq_getElem?_getD, h1, h2] using this

theorem mem_dn {len k j : Nat} : j ∈ dn len k ↔ ∃ i, i < k ∧ j = len - 1 - i := by
  simp only [dn, List.mem_map, List.mem_range]
  exact ⟨fun ⟨i, h1, h2⟩ => ⟨i, h1, h2.symm⟩, fun ⟨i, h1, h2⟩ => ⟨i, h1, h2.symm⟩⟩

set_option maxRecDepth 100000 in
set_option maxHeartbeats 2000000 in
theorem cmp_loop (F : Fence) (n : Nat) (h1f : F.fn 31) (h2f : F.fn 80) (h3f : F.fn 116) (hro : F.round = none) (hn : 3 ≤ n)
    (a b : Option Addr) (cap capb : Nat) (l m : List Nat) (hlm : l.length = m.length) (hlen : (l.length : Int) ≤ 100000) (w : World)
    (hl : Words l) (hm : Words m) (hra : Rd w 106 a (l.map wd)) (hrb : Rd w 106 b (m.map wd)) :
    CallsIn F n Tryz.prog 31 #[.agg #[.slice a l.length cap], .agg #[.slice b l.length capb]] w fun e w' => e = .returned (.int .i64 (cmpNat (val l) (val m))) ∧ Below w.heap.size w w' := by
  have h1 : 1 ≤ n := by omega
  have HRA := Lib.hid hra
  have HRB := Lib.hid hrb
  have HL := Lib.hid hl
  have HM := Lib.hid hm
  have HLM := Lib.hid hlm
  clear hra hrb hl hm hlm
  refine callsIn_of_wp_marks Tryz.func31 rfl h1f ?_ hro
  simp only [Tryz.ntmps31, List.size_toArray, List.length_cons, List.length_nil, Nat.reduceAdd, Nat.reduceSub, Array.replicate_succ, Array.replicate_zero, List.push_toArray, List.append_toArray, List.nil_append, List.cons_append]
  gi_wp2_with (gi_at_call 80; refine (backward_in F (n - 1) h2f hro _ _ _ _).mono ?_; rintro e w' ⟨rfl, rfl⟩)
  obtain ⟨s, hs⟩ : ∃ s, s = w.heap.size := ⟨_, rfl⟩
  obtain ⟨W0, hW0⟩ : ∃ W0, ((((w.alloc (Obj.cells #[Value.slice a l.length cap] 36)).alloc (Obj.cells #[Value.slice b l.length capb] 36)).alloc (Obj.cells #[Value.int IntKind.i64 0] 3)).alloc (Obj.cells #[Value.slice a l.length cap] 34)) = W0 := ⟨_, rfl⟩
  have hsz : W0.heap.size = s + 4 := by rw [← hW0, hs]; simp
  have hB0 : Below s w W0 := by
    rw [← hW0, hs]
    exact ((((Below.refl _ w).alloc (Nat.le_refl _) _).alloc (by simp) _).alloc (by simp; omega) _).alloc (by simp; omega) _
  have bB : Boxed W0 (s + 1) 36 (.slice b l.length capb) := by
    have := Boxed.new (w.alloc (Obj.cells #[Value.slice a l.length cap] 36)) 36 (.slice b l.length capb)
    rw [World.size_alloc, ← hs] at this
    rw [← hW0]; exact (this.alloc _).alloc _
  have bR : Boxed W0 (s + 1 + 1) 3 (.int .i64 0) := by
    have := Boxed.new ((w.alloc (Obj.cells #[Value.slice a l.length cap] 36)).alloc (Obj.cells #[Value.slice b l.length capb] 36)) 3 (.int .i64 0)
    rw [World.size_alloc, World.size_alloc, ← hs] at this
    rw [← hW0]; exact this.alloc _
  have bS : Boxed W0 (s + 1 + 1 + 1) 34 (.slice a l.length cap) := by
    have := Boxed.new (((w.alloc (Obj.cells #[Value.slice a l.length cap] 36)).alloc (Obj.cells #[Value.slice b l.length capb] 36)).alloc (Obj.cells #[Value.int IntKind.i64 0] 3)) 34 (.slice a l.length cap)
    rw [World.size_alloc, World.size_alloc, World.size_alloc, ← hs] at this
    rw [← hW0]; exact this
  rw [hW0, ← hs]
  have HS := Lib.hid hs
  clear hW0 hs
  refine wpIn_rangeFunc_ownG hro h1 (gf := 116) (lb := #[.pointer (some ⟨s + 1 + 1 + 1, 0, none⟩)]) rfl h3f (enters_of Tryz.func116 (by kernel_rfl) rfl)
    (backward_stops F (n - 1) h3f hro (by omega) (s + 1 + 1 + 1) s a cap l hlen W0 (by omega) (by omega) bS.cell (HRA.out.below (HS.out ▸ hB0)) (fun ad h0 h1 => by
      obtain ⟨ad', e1, e2, _⟩ := HRA.out.at_ (k := 0) (by rw [List.length_map]; exact h1)
      rw [h0] at e1; cases e1; rw [HS.out]; exact e2.lt) HL.out) KB.t (KB.b (by omega) (by omega)) (Below.refl _ _) (fun _ => rfl)
    (fun pre W => ((∀ j ∈ pre, l.getD j.1 0 = m.getD j.1 0) ∧ W.cell? ⟨s + 1, 0, none⟩ = some (.slice b l.length capb) ∧ W.cell? ⟨s + 1 + 1, 0, none⟩ = some (.int .i64 0) ∧ W.frozen? ⟨s + 1 + 1, 0, none⟩ = false) ∧ Below s w W)
    (fun c pre W => (c = .ret ∧ ∃ ini last z, pre = ini ++ [last] ∧ (∀ j ∈ ini, l.getD j.1 0 = m.getD j.1 0) ∧ ((l.getD last.1 0 < m.getD last.1 0 ∧ z = -1) ∨ (m.getD last.1 0 < l.getD last.1 0 ∧ z = 1)) ∧ W.cell? ⟨s + 1 + 1, 0, none⟩ = some (.int .i64 z)) ∧ Below s w W)
    (OwnFrom.and (Own.from (fun q A B row hq hg hr => ⟨hq.1, cell_kept hq.2.1 hg hr, cell_kept hq.2.2.1 hg hr, (frozen_kept hq.2.2.1 hg hr).trans hq.2.2.2⟩) _) (ownFrom_below (by rw [HS.out]; exact Nat.le_refl _) (by omega)))
    (fun c => OwnFrom.and (Own.from (fun q A B row hq hg hr => by obtain ⟨hc, ini, last, z, e1, e2, e3, e4⟩ := hq; exact ⟨hc, ini, last, z, e1, e2, e3, cell_kept e4 hg hr⟩) _) (ownFrom_below (by rw [HS.out]; exact Nat.le_refl _) (by omega)))
    ⟨⟨by simp, bB.cell, bR.cell, bR.frozen⟩, hB0⟩
    (fun x => { tmps := #[.agg #[.slice a l.length cap], .agg #[.slice b l.length capb], .pointer (some ⟨s, 0, none⟩), .pointer (some ⟨s + 1, 0, none⟩), .pointer (some ⟨s + 1 + 1, 0, none⟩), .int .i64 (x.1 : Int), wd (l.getD x.1 0), .pointer (some ⟨s, 0, none⟩), .slice a l.length cap, .int .i64 l.length, .pointer (some ⟨s + 1, 0, none⟩), .slice b l.length capb, .int .i64 l.length, .bool false, undef, undef, undef, undef, undef, undef, undef, .pointer (some ⟨s, 0, none⟩), .slice a l.length cap, .func (.func 116) #[] #[.pointer (some ⟨s + 1 + 1 + 1, 0, none⟩)], .int .i64 (x.1 : Int), wd (l.getD x.1 0), undef, undef, undef, undef, undef, undef, undef, undef, undef, undef, undef, undef, undef, undef], defers := [] }) ?assign ?body ?done ?stop
  case assign =>
    intro l x W K hK
    gi_wp2
    exact hK
  case body =>
    rintro q pre x W ⟨⟨hp, hcb, hcr, hfr⟩, hB⟩ _
    obtain ⟨ad, y, rfl, hlt, hcell, hyw, hy⟩ := rd_word (HRB.out.below (HS.out ▸ hB)) HM.out (k := x.1) (by rw [← HLM.out]; exact x.2)
    obtain ⟨xv, hxv⟩ : ∃ xv, l.getD x.1 0 = xv := ⟨_, rfl⟩
    have hxl := x.2
    have HB := Lib.hid hB
    have HX := Lib.hid hxv
    have HY := Lib.hid hy
    have HP := Lib.hid hp
    unfold wd
    rw [hxv]
    clear hxv hy hp hB hlt
    gi_wp2
    · have hx : xv < y := by assumption
      refine ⟨(KeepsOthers.setCell _ _ _).from _, ⟨rfl, pre, x, -1, rfl, HP.out, .inl ⟨by rw [HX.out, HY.out]; exact hx, rfl⟩, World.cell?_setCell_same' _ _ _ (by rw [hcr]; rfl)⟩, HB.out.setCell (p := ⟨s + 1 + 1, 0, none⟩) (by show s ≤ s + 1 + 1; omega) _⟩
    · have hx : ¬ xv < y := by assumption
      have hx2 : ((xv : Int) != (y : Int)) = true := by assumption
      have hx3 : xv ≠ y := by rintro rfl; simp at hx2
      refine ⟨(KeepsOthers.setCell _ _ _).from _, ⟨rfl, pre, x, 1, rfl, HP.out, .inr ⟨by rw [HX.out, HY.out]; omega, rfl⟩, World.cell?_setCell_same' _ _ _ (by rw [hcr]; rfl)⟩, HB.out.setCell (p := ⟨s + 1 + 1, 0, none⟩) (by show s ≤ s + 1 + 1; omega) _⟩
    · have hx2 : ((xv : Int) != (y : Int)) = false := by assumption
      have hx3 : xv = y := by simp at hx2; omega
      exact ⟨KeepsFrom.refl _ _, KB.refl _ _ _, ⟨fun j hj => (List.mem_append.1 hj).elim (HP.out j) (fun e => by simp at e; subst e; rw [HX.out, HY.out]; exact hx3), hcb, hcr, hfr⟩, HB.out⟩
  case done =>
    rintro D ys W hD hys ⟨⟨hne, hcb, hcr, hfr⟩, hB⟩ hK
    have HNE := Lib.hid hne
    have HYS := Lib.hid hys
    have HB := Lib.hid hB
    clear hne hys hB
    gi_wp2
    have hK' := (KeepsOthers.setCell W ⟨s + 1 + 1, 0, none⟩ (.int .i64 0)).same D _ hK rfl
    refine ⟨by simp, .inl ⟨_, _, rfl, run_takeDeferred hK', ?_⟩⟩
    have hc5 := cell_kept (World.cell?_setCell_same' W ⟨s + 1 + 1, 0, none⟩ (.int .i64 0) (by rw [hcr]; rfl)) (grownBy_putObj' _ D (.deferred none)) (fun r e => by cases e; exact ⟨_, hK', rfl⟩)
    have hlm : l = m := by
      refine ext_getD0 HLM.out fun j hj => ?_
      have h5 : j ∈ ys.map (·.1) := by rw [HYS.out, mem_dn]; exact ⟨l.length - 1 - j, by omega, by omega⟩
      obtain ⟨p, hp1, rfl⟩ := List.mem_map.1 h5
      exact HNE.out p hp1
    have h0 : cmpNat (val l) (val m) = 0 := by rw [hlm]; unfold cmpNat; rw [if_neg (by omega), if_neg (by omega)]
    refine ⟨.int .i64 0, ?_, by rw [h0], ?_⟩
    · simp [results, Tryz.f31, go_sem, hc5]
    · rw [← HS.out]
      exact (HB.out.setCell (p := ⟨s + 1 + 1, 0, none⟩) (by show s ≤ s + 1 + 1; omega) _).trans (belowK_b (w := W0) (by omega) _ D _ _ hD hK' rfl rfl)
  case stop =>
    rintro D c pre W hD ⟨k, hk, hpre⟩ ⟨⟨rfl, ini, last, z, rfl, e2, e3, hcr⟩, hB⟩ hK
    have HE2 := Lib.hid e2
    have HE3 := Lib.hid e3
    have HPR := Lib.hid hpre
    have HB := Lib.hid hB
    clear e2 e3 hpre hB
    gi_wp2
    refine ⟨by simp, .inl ⟨_, _, rfl, run_takeDeferred hK, ?_⟩⟩
    have hc5 := cell_kept hcr (grownBy_putObj' _ D (.deferred none)) (fun r e => by cases e; exact ⟨_, hK, rfl⟩)
    have hz : cmpNat (val l) (val m) = z := by
      have hpr := HPR.out
      obtain ⟨k', rfl⟩ : ∃ k', k = k' + 1 := by
        cases k with
        | zero => simp [dn] at hpr
        | succ k' => exact ⟨k', rfl⟩
      rw [dn_succ, List.map_append] at hpr
      obtain ⟨e5, e6⟩ := List.append_inj' hpr rfl
      have e7 : last.1 = l.length - 1 - k' := by simpa using e6
      have habove : ∀ i, last.1 < i → i < l.length → l.getD i 0 = m.getD i 0 := by
        intro i h5 h6
        have h7 : i ∈ ini.map (·.1) := by rw [e5, mem_dn]; exact ⟨l.length - 1 - i, by omega, by omega⟩
        obtain ⟨p, hp1, rfl⟩ := List.mem_map.1 h7
        exact HE2.out p hp1
      rcases HE3.out with ⟨h5, rfl⟩ | ⟨h5, rfl⟩
      · have := cmp_place HL.out HM.out HLM.out last.1 last.2 habove h5
        unfold cmpNat; rw [if_pos this]
      · have := cmp_place HM.out HL.out HLM.out.symm last.1 (by rw [← HLM.out]; exact last.2) (fun i h6 h7 => (habove i h6 (by rw [HLM.out]; exact h7)).symm) h5
        unfold cmpNat; rw [if_neg (by omega), if_pos this]
    refine ⟨.int .i64 z, ?_, by rw [hz], ?_⟩
    · simp [results, Tryz.f31, go_sem, hc5]
    · rw [← HS.out]
      exact HB.out.trans (belowK_b (w := W0) (by omega) _ D _ _ hD hK rfl rfl)

set_option maxRecDepth 100000 in
set_option maxHeartbeats 1000000 in
theorem cmp_any (a b : Option Addr) (len cap lenb capb n m : Nat) (w : World) (hn : NatAt w a len n) (hm : NatAt w b lenb m) (hlen : (len : Int) ≤ 100000) (hlenb : (lenb : Int) ≤ 100000) :
    Calls Tryz.prog 31 #[.agg #[.slice a len cap], .agg #[.slice b lenb capb]] w fun e w' => e = .returned (.int .i64 (cmpNat n m)) ∧ Below w.heap.size w w' := by
  obtain ⟨l, rfl, hl, hlt, rfl, hra⟩ := hn
  obtain ⟨k, rfl, hk, hkt, rfl, hrb⟩ := hm
  by_cases hlm : l.length = k.length
  · have := cmp_loop Fence.wide 3 trivial trivial trivial rfl (by omega) a b cap capb l k hlm hlen w hl hk hra hrb
    rw [← hlm]
    exact callsIn_wide.1 this
  · by_cases hlt2 : l.length < k.length
    · have hc := Lib.hid (cmp_len hl hkt hlt2)
      have h1 : ((l.length : Int) != (k.length : Int)) = true := by simp; omega
      have h2 : (l.length : Int) < k.length := by omega
      clear hra hrb hl hk hlt hkt hlm
      go_enter Tryz.func31, Tryz.ntmps31
      go_wp2_with fail
      have hs : (((w.alloc (Obj.cells #[Value.slice a l.length cap] 36)).alloc (Obj.cells #[Value.slice b k.length capb] 36)).alloc (Obj.cells #[Value.int IntKind.i64 (-1)] 3)).cell? ⟨w.heap.size + 1 + 1, 0, none⟩ = some (.int .i64 (-1)) := by
        have := Boxed.new ((w.alloc (Obj.cells #[Value.slice a l.length cap] 36)).alloc (Obj.cells #[Value.slice b k.length capb] 36)) 3 (.int .i64 (-1))
        rw [World.size_alloc, World.size_alloc] at this
        exact this.cell
      refine bodyPost_ret (v := .int .i64 (-1)) (by simp [results, Tryz.f31, go_sem, hs]) rfl ⟨by rw [hc.out], ?_⟩
      exact (((Below.refl _ w).alloc (Nat.le_refl _) _).alloc (by simp) _).alloc (by simp; omega) _
    · have hc := Lib.hid (cmp_len' hlt hk (by omega : k.length < l.length))
      have h1 : ((l.length : Int) != (k.length : Int)) = true := by simp; omega
      have h2 : (k.length : Int) < l.length := by omega
      clear hra hrb hl hk hlt hkt hlm
      go_enter Tryz.func31, Tryz.ntmps31
      go_wp2_with fail
      have hs : (((w.alloc (Obj.cells #[Value.slice a l.length cap] 36)).alloc (Obj.cells #[Value.slice b k.length capb] 36)).alloc (Obj.cells #[Value.int IntKind.i64 1] 3)).cell? ⟨w.heap.size + 1 + 1, 0, none⟩ = some (.int .i64 1) := by
        have := Boxed.new ((w.alloc (Obj.cells #[Value.slice a l.length cap] 36)).alloc (Obj.cells #[Value.slice b k.length capb] 36)) 3 (.int .i64 1)
        rw [World.size_alloc, World.size_alloc] at this
        exact this.cell
      refine bodyPost_ret (v := .int .i64 1) (by simp [results, Tryz.f31, go_sem, hs]) rfl ⟨by rw [hc.out], ?_⟩
      exact (((Below.refl _ w).alloc (Nat.le_refl _) _).alloc (by simp) _).alloc (by simp; omega) _

end Go.Proofs.YthefednendgclaaGreat
/-
  The numbers' own functions: Sub.
-/
namespace Go.Proofs.YthefednendgclaaGreat
open Go Go.RowKit Sac

/-- The first words of a row, the others 0. -/
def pad (o : List Nat) (L : Nat) : List Nat := o ++ List.replicate (L - o.length) 0
theorem pad_nil (L : Nat) : pad [] L = List.replicate L 0 := by simp [pad]
theorem pad_full {o : List Nat} {L : Nat} (h : o.length = L) : pad o L = o := by simp [pad, h]
theorem pad_set {o : List Nat} {L : Nat} (h : o.length < L) (x : Nat) : (pad o L).set o.length x = pad (o ++ [x]) L := by
  unfold pad
  rw [List.set_append_right _ _ (Nat.le_refl _), Nat.sub_self, List.append_assoc]
  obtain ⟨d, hd⟩ : ∃ d, L - o.length = d + 1 := ⟨L - o.length - 1, by omega⟩
  have h2 : L - (o ++ [x]).length = d := by simp; omega
  rw [hd, h2, List.replicate_succ]
  rfl
theorem pad_length {o : List Nat} {L : Nat} (h : o.length ≤ L) : (pad o L).length = L := by simp [pad]; omega

theorem Tryz.wd0 : (Value.int .u32 0) = wd 0 := rfl

/-- What is known of the three boxes of a function of two numbers. -/
def BX (w wr : World) (s : Nat) (A B R : Value) : Prop := Below s w wr ∧ Boxed wr s 36 A ∧ Boxed wr (s + 1) 36 B ∧ Boxed wr (s + 1 + 1) 36 R
theorem BX.set {w wr : World} {s g : Nat} {A B R : Value} (h : BX w wr s A B R) (hg : s + 1 + 1 < g) (o : Nat) (v : Value) : BX w (wr.setCell ⟨g, o, none⟩ v) s A B R := by
  obtain ⟨h1, h2, h3, h4⟩ := h
  refine ⟨h1.setCell (by show s ≤ g; omega) _, (heap_setCell_other _ _ _ _ (by show s ≠ g; omega)).trans h2, (heap_setCell_other _ _ _ _ (by show s + 1 ≠ g; omega)).trans h3, (heap_setCell_other _ _ _ _ (by show s + 1 + 1 ≠ g; omega)).trans h4⟩
theorem BX.below {w wr w' : World} {s : Nat} {A B R : Value} (h : BX w wr s A B R) (hb : Below wr.heap.size wr w') : BX w w' s A B R := by
  obtain ⟨h1, h2, h3, h4⟩ := h
  have := h2.lt
  exact ⟨h1.trans (hb.mono (by omega)), (hb.block _ h2.lt).trans h2, (hb.block _ h3.lt).trans h3, (hb.block _ h4.lt).trans h4⟩
theorem BX.make (w : World) (A B R : Value) : BX w (((w.alloc (Obj.cells #[A] 36)).alloc (Obj.cells #[B] 36)).alloc (Obj.cells #[R] 36)) w.heap.size A B R := by
  have h2 := Boxed.new (w.alloc (Obj.cells #[A] 36)) 36 B
  rw [World.size_alloc] at h2
  have h3 := Boxed.new ((w.alloc (Obj.cells #[A] 36)).alloc (Obj.cells #[B] 36)) 36 R
  rw [World.size_alloc, World.size_alloc] at h3
  exact ⟨(((Below.refl _ w).alloc (Nat.le_refl _) _).alloc (by simp) _).alloc (by simp; omega) _, ((Boxed.new w _ _).alloc _).alloc _, h2.alloc _, h3⟩

/-- The difference's row after k words. -/
def SubInv (A B : List Nat) (k bo : Nat) (o : List Nat) : Prop := o.length = k ∧ Words o ∧ bo ≤ 1 ∧ val o + val (B.take k) = val (A.take k) + W ^ k * bo

theorem SubInv.step {A B : List Nat} {k bo x y : Nat} {o : List Nat} (h : SubInv A B k bo o) (hA : Words A) (hB : Words B) (hx : A.getD k 0 = x) (hy : B.getD k 0 = y) :
    SubInv A B (k + 1) (subWord x y bo).2 (o ++ [(subWord x y bo).1]) := by
  obtain ⟨h1, h2, h3, h4⟩ := h
  have hxw := words_get hA k
  have hyw := words_get hB k
  have := sub_step h1 h4 hyw h3
  rw [hx] at hxw
  rw [hx, hy] at this
  exact ⟨by simp [h1], words_append.2 ⟨h2, words_cons.2 ⟨subWord_lt hxw, words_nil⟩⟩, subWord_le, this⟩

theorem subWord_lo {x y bo : Nat} (h : x < y + bo) : subWord x y bo = (x + W - y - bo, 1) := if_pos h
theorem subWord_hi {x y bo : Nat} (h : ¬ x < y + bo) : subWord x y bo = (x - y - bo, 0) := if_neg h

/-- The word is written. -/
theorem pad_write {w : World} {g L k : Nat} {o : List Nat} {v : Value} {x : Nat} (h : Blk w g 106 ((pad o L).map wd)) (hk : o.length = k) (hL : k < L) (hv : v = wd x) : Blk (w.setCell ⟨g, k, none⟩ v) g 106 ((pad (o ++ [x]) L).map wd) := by
  subst hk
  have := h.set o.length v
  rw [set_map wd _ _ x _ hv.symm, pad_set hL] at this
  exact this

theorem pad_cell {w : World} {g L k : Nat} {o : List Nat} (h : Blk w g 106 ((pad o L).map wd)) (hk : o.length = k) (hL : k < L) : ∃ y, w.cell? ⟨g, k, none⟩ = some y := by
  have : k < ((pad o L).map wd).length := by rw [List.length_map, pad_length (by omega)]; exact hL
  exact ⟨_, by rw [h.cell]; exact List.getElem?_eq_getElem this⟩

set_option maxRecDepth 100000 in
set_option maxHeartbeats 1000000 in
theorem sub_any (a b : Option Addr) (len cap lenb capb n n2 : Nat) (w : World) (hn : NatAt w a len n) (hm : NatAt w b lenb n2) (hlen : (len : Int) ≤ 100000) (hlenb : (lenb : Int) ≤ 100000) :
    Calls Tryz.prog 86 #[.agg #[.slice a len cap], .agg #[.slice b lenb capb]] w fun e w' => ∃ ra rl rc, e = .returned (.tuple #[.agg #[.slice ra rl rc], .bool (decide (n2 ≤ n))]) ∧ NatAt w' ra rl (n - n2) ∧ Below w.heap.size w w' := by
  have HN := Lib.hid hn
  have HM := Lib.hid hm
  clear hn hm
  go_enter Tryz.func86, Tryz.ntmps86
  go_wp2_with fail
  have hbx := BX.make w (.slice a len cap) (.slice b lenb capb) (.slice none 0 0)
  generalize (((w.alloc (Obj.cells #[Value.slice a len cap] 36)).alloc (Obj.cells #[Value.slice b lenb capb] 36)).alloc (Obj.cells #[Value.slice none 0 0] 36)) = w1 at hbx ⊢
  refine (cmp_any a b len cap lenb capb n n2 w1 (HN.out.below hbx.1) (HM.out.below hbx.1) hlen hlenb).mono ?_
  rintro e w2 ⟨rfl, hb2⟩
  have HBX := Lib.hid (hbx.below hb2)
  clear hbx hb2
  obtain ⟨s, hs⟩ : ∃ s, s = w.heap.size := ⟨_, rfl⟩
  rw [← hs] at HBX ⊢
  have HS := Lib.hid hs
  clear hs
  have ca := HBX.out.2.1.cell
  have cb := HBX.out.2.2.1.cell
  by_cases hlt : n < n2
  · have hc : cmpNat n n2 = -1 := by unfold cmpNat; rw [if_pos hlt]
    rw [hc]
    have cr := HBX.out.2.2.2.cell
    have fr := HBX.out.2.2.2.frozen
    have HLT := Lib.hid hlt
    clear hlt hc
    go_wp2_with fail
    have hB : Blk w2 (s + 1 + 1) 36 [.slice none 0 0] := HBX.out.2.2.2
    have HLT' := HLT.out
    refine ret_nat_tmp (v := .bool false) rfl rfl rfl (hB.set 0 _) ⟨none, 0, 0, ?_, ⟨[], rfl, words_nil, tight_nil, ?_, Rd.nil _ _ _⟩, ?_⟩
    · rw [decide_eq_false (by omega)]
    · show 0 = _; omega
    · rw [← HS.out]
      exact HBX.out.1.setCell (p := ⟨s + 1 + 1, 0, none⟩) (by show s ≤ s + 1 + 1; omega) _
  · have hc : ¬ (cmpNat n n2 < 0) := by unfold cmpNat; rw [if_neg hlt]; split <;> decide
    generalize cmpNat n n2 = cc at hc ⊢
    have HGE : Hid (n2 ≤ n) := Nat.le_of_not_lt hlt
    clear hlt
    obtain ⟨l, hl1, hl2, hl3, hl4, hl5⟩ := HN.out
    obtain ⟨m, hm1, hm2, hm3, hm4, hm5⟩ := HM.out
    subst hl1
    subst hm1
    have HRA := Lib.hid hl5
    have HRB := Lib.hid hm5
    have HL := Lib.hid (And.intro hl2 hl4)
    have HK := Lib.hid (And.intro hm2 hm4)
    have HML : Hid (m.length ≤ l.length) := by
      apply Nat.le_of_not_lt
      intro h
      have := val_lt_of_length hl2 hm3 h
      have := HGE.out
      omega
    clear hl2 hl3 hl4 hl5 hm2 hm3 hm4 hm5
    go_wp2_with first | fail | (refine wpList_make_blk _ rfl _ _ _ rfl 106 (.int .u32 0) 4 Tryz.underlying34 Tryz.infoW rfl _ _ _ _ l.length rfl rfl rfl rfl (by omega) (by unfold maxLen; omega) ?_)
    intro w3 hB3 hb3
    obtain ⟨g, hg⟩ : ∃ g, g = w2.heap.size := ⟨_, rfl⟩
    rw [← hg] at hB3 ⊢
    have hsg : s + 1 + 1 < g := hg ▸ HBX.out.2.2.2.lt
    have HBX3 := Lib.hid (HBX.out.below hb3)
    have HB3 := Lib.hid hB3
    have ca3 := HBX3.out.2.1.cell
    clear hB3 hb3 hg ca cb
    go_wp2_with fail
    go_loopw [7, 23] (fun bv iv wr => ∃ (k bo : Nat) (o : List Nat), k ≤ l.length ∧ iv = .int .i64 k ∧ bv = .int .i64 (bo : Int) ∧ (bo : Int) ≤ 1 ∧ Hid (SubInv l m k bo o) ∧ Hid (Blk wr g 106 ((pad o l.length).map wd)) ∧
      Hid (BX w wr s (.slice a l.length cap) (.slice b m.length capb) (.slice none 0 0))) (fun _ iv _ => l.length - (intOf iv).toNat)
    case atStart => exact ⟨0, 0, [], Nat.zero_le _, rfl, rfl, by decide, ⟨rfl, words_nil, by decide, by simp [val]⟩, by have := HB3.out; rw [pad_nil, List.map_replicate]; exact this, HBX3.out⟩
    case round =>
      obtain ⟨k, bo, o, hk, rfl, rfl, hbo, HI, HO, HW⟩ := hrel
      clear ca3
      by_cases hkl : k < l.length
      · obtain ⟨ad, x, rfl, hlt, hcell, hxw, hx⟩ := rd_word (HRA.out.below (HS.out ▸ HW.out.1)) HL.out.1 (k := k) hkl
        have HX := Lib.hid hx
        have cb := HW.out.2.2.1.cell
        obtain ⟨y0, hy0⟩ := pad_cell HO.out HI.out.1 hkl
        have hfr := HO.out.frozen k
        clear hlt hx
        by_cases hkb : k < m.length
        · obtain ⟨ad2, y, rfl, hlt, hcell2, hyw, hy⟩ := rd_word (HRB.out.below (HS.out ▸ HW.out.1)) HK.out.1 (k := k) hkb
          have HY := Lib.hid hy
          clear hlt hy
          have hkb' : (k : Int) < m.length := by omega
          go_wp2_with fail
          · have hd : (x : Int) - bo - y < 0 := by assumption
            have hst := HI.out.step HL.out.1 HK.out.1 HX.out HY.out
            rw [subWord_lo (by omega)] at hst
            exact ⟨⟨k + 1, 1, _, by omega, rfl, rfl, by decide, hst, pad_write HO.out HI.out.1 hkl (by unfold wd W; congr 1; omega), HW.out.set hsg _ _⟩, by simp only [intOf]; omega⟩
          · have hd : 0 ≤ (x : Int) - bo - y := by assumption
            have hst := HI.out.step HL.out.1 HK.out.1 HX.out HY.out
            rw [subWord_hi (by omega)] at hst
            exact ⟨⟨k + 1, 0, _, by omega, rfl, rfl, by decide, hst, pad_write HO.out HI.out.1 hkl (by unfold wd; congr 1; omega), HW.out.set hsg _ _⟩, by simp only [intOf]; omega⟩
        · have hkb' : ¬ ((k : Int) < m.length) := by omega
          have HY := Lib.hid (getD_ge m k (by omega))
          go_wp2_with fail
          · have hd : (x : Int) - bo < 0 := by assumption
            have hst := HI.out.step HL.out.1 HK.out.1 HX.out HY.out
            rw [subWord_lo (by omega)] at hst
            exact ⟨⟨k + 1, 1, _, by omega, rfl, rfl, by decide, hst, pad_write HO.out HI.out.1 hkl (by unfold wd W; congr 1; omega), HW.out.set hsg _ _⟩, by simp only [intOf]; omega⟩
          · have hd : 0 ≤ (x : Int) - bo := by assumption
            have hst := HI.out.step HL.out.1 HK.out.1 HX.out HY.out
            rw [subWord_hi (by omega)] at hst
            exact ⟨⟨k + 1, 0, _, by omega, rfl, rfl, by decide, hst, pad_write HO.out HI.out.1 hkl (by unfold wd; congr 1; omega), HW.out.set hsg _ _⟩, by simp only [intOf]; omega⟩
      · obtain rfl : k = l.length := by omega
        go_wp2_with fail
        have hfin : val o = val l - val m ∧ bo = 0 := by
          have h4 := HI.out.2.2.2
          rw [List.take_of_length_le (Nat.le_refl _), List.take_of_length_le HML.out] at h4
          exact sub_end h4 HI.out.1 HI.out.2.1 (by rw [HL.out.2, HK.out.2]; exact HGE.out)
        have hO := HO.out
        rw [pad_full HI.out.1] at hO
        refine (trim_any (some ⟨g, 0, none⟩) l.length l.length o wr HI.out.1 (by omega) (by omega) HI.out.2.1 (Blk.rd (rest := []) (by rw [List.append_nil]; exact hO))).mono ?_
        rintro e w4 ⟨ra, rl, rc, rfl, hN, hb4⟩
        have HV := Lib.hid hfin.1
        have HX4 := Lib.hid (HW.out.below hb4)
        have HNN := Lib.hid hN
        have cr := HX4.out.2.2.2.cell
        have fr := HX4.out.2.2.2.frozen
        clear hfin hN hb4 hO
        go_wp2_with fail
        have hB : Blk w4 (s + 1 + 1) 36 [.slice none 0 0] := HX4.out.2.2.2
        refine ret_nat_tmp (v := .bool true) rfl rfl rfl (hB.set 0 _) ⟨ra, rl, rc, ?_, ?_, ?_⟩
        · rw [decide_eq_true HGE.out]
        · have := HNN.out.setCell hB (by decide) 0 (.slice ra rl rc)
          rwa [HV.out, HL.out.2, HK.out.2] at this
        · rw [← HS.out]
          exact HX4.out.1.setCell (p := ⟨s + 1 + 1, 0, none⟩) (by show s ≤ s + 1 + 1; omega) _

end Go.Proofs.YthefednendgclaaGreat
/-
  The numbers' own functions: Mul.
-/
namespace Go.Proofs.YthefednendgclaaGreat
open Go Go.RowKit Sac

/-- The product's row within the row of word x (place i): k words of b have been taken; the words from i + |b| on are 0 yet. -/
def MulInv (A B : List Nat) (i k c : Nat) (O : List Nat) : Prop :=
  O.length = A.length + B.length ∧ Words O ∧ c < W ∧ val O + W ^ (i + k) * c = val (A.take i) * val B + W ^ i * (A.getD i 0 * val (B.take k)) ∧ ∀ j, i + B.length ≤ j → O.getD j 0 = 0

/-- .. between two rows. -/
def MulRow (A B : List Nat) (i : Nat) (O : List Nat) : Prop := O.length = A.length + B.length ∧ Words O ∧ val O = val (A.take i) * val B ∧ ∀ j, i + B.length ≤ j → O.getD j 0 = 0

theorem MulRow.zero (A B : List Nat) : MulRow A B 0 (List.replicate (A.length + B.length) 0) := by
  refine ⟨by simp, words_replicate _, by simp [val_replicate, val], fun j _ => ?_⟩
  rw [List.getD_eq_getElem?_getD, List.getElem?_replicate]; split <;> rfl
theorem MulRow.start {A B : List Nat} {i : Nat} {O : List Nat} (h : MulRow A B i O) : MulInv A B i 0 0 O := by
  obtain ⟨h1, h2, h3, h4⟩ := h
  exact ⟨h1, h2, W_pos, by simp [h3, val], h4⟩
theorem getD_set' (l : List Nat) (i j x : Nat) (h : j ≠ i) : (l.set i x).getD j 0 = l.getD j 0 := by
  simp [List.getD_eq_getElem?_getD, List.getElem?_set_ne (Ne.symm h)]
theorem MulInv.step {A B : List Nat} {i k c x y o : Nat} {O : List Nat} (h : MulInv A B i k c O) (hA : Words A) (hB : Words B) (hi : i < A.length) (hk : k < B.length) (hx : A.getD i 0 = x) (hy : B.getD k 0 = y) (ho : O.getD (i + k) 0 = o) :
    c + (x * y + o) < W * W ∧ MulInv A B i (k + 1) ((c + (x * y + o)) / W) (O.set (i + k) ((c + (x * y + o)) % W)) := by
  obtain ⟨h1, h2, h3, h4, h5⟩ := h
  have hxw := words_get hA i
  have hyw := words_get hB k
  have how := words_get h2 (i + k)
  rw [hx] at hxw
  rw [hy] at hyw
  rw [ho] at how
  have hr := mul_room hxw hyw h3 how
  rw [Nat.add_assoc] at hr
  refine ⟨hr, by rw [List.length_set, h1], words_set h2 _ _ (Nat.mod_lt _ W_pos), Nat.div_lt_of_lt_mul hr, ?_, fun j hj => ?_⟩
  · exact mul_step (by omega) h4 (by rw [hx, hy, ho, Nat.add_assoc])
  · rw [getD_set' _ _ _ _ (by omega)]; exact h5 j hj
theorem MulInv.done {A B : List Nat} {i c : Nat} {O : List Nat} (h : MulInv A B i B.length c O) (hi : i < A.length) : MulRow A B (i + 1) (O.set (i + B.length) c) := by
  obtain ⟨h1, h2, h3, h4, h5⟩ := h
  rw [List.take_of_length_le (Nat.le_refl _)] at h4
  refine ⟨by rw [List.length_set, h1], words_set h2 _ _ h3, ?_, fun j hj => ?_⟩
  · rw [mul_end (by omega) h4 (h5 _ (Nat.le_refl _)), mul_row]
  · rw [getD_set' _ _ _ _ (by omega)]; exact h5 j (by omega)

theorem row_cell {w : World} {g k : Nat} {O : List Nat} (h : Blk w g 106 (O.map wd)) (hk : k < O.length) : w.cell? ⟨g, k, none⟩ = some (.int .u32 ((O.getD k 0 : Nat) : Int)) := by
  rw [h.cell, List.getElem?_map, List.getElem?_eq_getElem hk, List.getD_eq_getElem?_getD, List.getElem?_eq_getElem hk]
  rfl
theorem row_set {w : World} {g k : Nat} {O : List Nat} (h : Blk w g 106 (O.map wd)) {v : Value} {x : Nat} (hv : v = wd x) : Blk (w.setCell ⟨g, k, none⟩ v) g 106 ((O.set k x).map wd) := by
  have := h.set k v
  rwa [set_map wd _ _ x _ hv.symm] at this

set_option maxRecDepth 100000 in
set_option maxHeartbeats 1000000 in
theorem mul_any (a b : Option Addr) (len cap lenb capb n n2 : Nat) (w : World) (hn : NatAt w a len n) (hm : NatAt w b lenb n2) (hlen : (len : Int) ≤ 100000) (hlenb : (lenb : Int) ≤ 100000) :
    Calls Tryz.prog 91 #[.agg #[.slice a len cap], .agg #[.slice b lenb capb]] w (RetNat (n * n2) w) := by
  obtain ⟨l, hl1, hl2, hl3, hl4, hl5⟩ := hn
  obtain ⟨m, hm1, hm2, hm3, hm4, hm5⟩ := hm
  subst hl1
  subst hm1
  have HRA := Lib.hid hl5
  have HRB := Lib.hid hm5
  have HL := Lib.hid (And.intro hl2 hl4)
  have HK := Lib.hid (And.intro hm2 hm4)
  clear hl2 hl3 hl4 hl5 hm2 hm3 hm4 hm5
  go_enter Tryz.func91, Tryz.ntmps91
  go_wp2_with first | fail | (refine wpList_make_blk _ rfl _ _ _ rfl 106 (.int .u32 0) 4 Tryz.underlying34 Tryz.infoW rfl _ _ _ _ (l.length + m.length) rfl rfl (by omega) (by omega) (by omega) (by unfold maxLen; omega) ?_)
  intro w2 hB2 hb2
  have hbx := BX.make w (.slice a l.length cap) (.slice b m.length capb) (.slice none 0 0)
  generalize (((w.alloc (Obj.cells #[Value.slice a l.length cap] 36)).alloc (Obj.cells #[Value.slice b m.length capb] 36)).alloc (Obj.cells #[Value.slice none 0 0] 36)) = w1 at hbx hB2 hb2 ⊢
  obtain ⟨s, hs⟩ : ∃ s, s = w.heap.size := ⟨_, rfl⟩
  rw [← hs] at hbx hB2 hb2 ⊢
  have HS := Lib.hid hs
  obtain ⟨g, hg⟩ : ∃ g, g = s + 1 + 1 + 1 := ⟨_, rfl⟩
  rw [← hg] at hB2 hb2 ⊢
  have hsg : s + 1 + 1 < g := by omega
  have HBX : Hid (BX w w2 s (.slice a l.length cap) (.slice b m.length capb) (.slice none 0 0)) := by
    obtain ⟨h1, h2, h3, h4⟩ := hbx
    exact ⟨h1.trans (hb2.mono (by omega)), (hb2.block _ (by omega)).trans h2, (hb2.block _ (by omega)).trans h3, (hb2.block _ (by omega)).trans h4⟩
  have HB2 := Lib.hid hB2
  have ca := HBX.out.2.1.cell
  clear hbx hB2 hb2 hs hg
  go_wp2_with fail
  go_loopw [22] (fun iv wr => ∃ (i : Nat) (O : List Nat), i ≤ l.length ∧ iv = .int .i64 i ∧ Hid (MulRow l m i O) ∧ Hid (Blk wr g 106 (O.map wd)) ∧
    Hid (BX w wr s (.slice a l.length cap) (.slice b m.length capb) (.slice none 0 0))) (fun iv _ => l.length - (intOf iv).toNat)
  case atStart => exact ⟨0, _, Nat.zero_le _, rfl, MulRow.zero l m, by have := HB2.out; rw [List.map_replicate]; exact this, HBX.out⟩
  case round =>
    obtain ⟨i, O, hi, rfl, HI, HO, HW⟩ := hrel
    clear ca
    by_cases hil : i < l.length
    · obtain ⟨ad, x, rfl, hlt, hcell, hxw, hx⟩ := rd_word (HRA.out.below (HS.out ▸ HW.out.1)) HL.out.1 (k := i) hil
      have HX := Lib.hid hx
      have cb := HW.out.2.2.1.cell
      clear hlt hx
      go_wp2_with fail
      obtain ⟨wo, hwo⟩ : ∃ wo : World, wo = wr := ⟨_, rfl⟩
      go_loopw [8, 30] (fun cv kv wq => ∃ (k c : Nat) (O : List Nat), k ≤ m.length ∧ kv = .int .i64 k ∧ cv = .int .u64 (c : Int) ∧ (c : Int) < 4294967296 ∧ Hid (MulInv l m i k c O) ∧ Hid (Blk wq g 106 (O.map wd)) ∧
        Hid (BX w wq s (.slice (some ad) l.length cap) (.slice b m.length capb) (.slice none 0 0))) (fun _ kv _ => m.length - (intOf kv).toNat)
      case atStart => exact ⟨0, 0, O, Nat.zero_le _, rfl, rfl, by decide, HI.out.start, HO.out, HW.out⟩
      case round =>
        obtain ⟨k, c, O2, hk, rfl, rfl, hc, HI2, HO2, HW2⟩ := hrel
        clear cb hcell
        have hfr : ∀ j, wr.frozen? ⟨g, j, none⟩ = false := fun j => HO2.out.frozen j
        by_cases hkl : k < m.length
        · obtain ⟨ad2, y, rfl, hlt, hcell2, hyw, hy⟩ := rd_word (HRB.out.below (HS.out ▸ HW2.out.1)) HK.out.1 (k := k) hkl
          have HY := Lib.hid hy
          clear hlt hy
          have hcz := row_cell HO2.out (k := i + k) (by rw [HI2.out.1]; omega)
          obtain ⟨z, hz⟩ : ∃ z, z = O2.getD (i + k) 0 := ⟨_, rfl⟩
          rw [← hz] at hcz
          have hst := HI2.out.step HL.out.1 HK.out.1 hil hkl HX.out HY.out hz.symm
          have HST := Lib.hid hst.2
          have hzw : z < 4294967296 := by rw [hz]; exact words_get HI2.out.2.1 _
          have hxy : x * y ≤ 18446744065119617025 := by
            have := Nat.mul_le_mul (show x ≤ 4294967295 by omega) (show y ≤ 4294967295 by omega)
            omega
          obtain ⟨xy, hxy2⟩ : ∃ xy, xy = x * y := ⟨_, rfl⟩
          have hxy3 : (x : Int) * (y : Int) = (xy : Int) := by rw [hxy2]; push_cast; rfl
          have hlim : c + (xy + z) < 18446744073709551616 := by rw [hxy2]; exact hst.1
          rw [← hxy2] at hxy
          have HXY := Lib.hid hxy2
          clear hz hst hxy2
          go_wp2_with fail
          have hst2 := HST.out
          rw [← HXY.out] at hst2
          refine ⟨⟨k + 1, _, _, by omega, rfl, u64_div (by omega), ?_, hst2, row_set HO2.out (wd_mod (by omega)), HW2.out.set hsg _ _⟩, by simp only [intOf]; omega⟩
          have := hst2.2.2.1
          unfold W at this
          unfold W
          omega
        · obtain rfl : k = m.length := by omega
          have hcz := row_cell HO2.out (k := i + m.length) (by rw [HI2.out.1]; omega)
          obtain ⟨z, hz⟩ : ∃ z, z = O2.getD (i + m.length) 0 := ⟨_, rfl⟩
          rw [← hz] at hcz
          have cb2 := HW2.out.2.2.1.cell
          clear hz
          go_wp2_with fail
          exact ⟨⟨i + 1, _, by omega, rfl, HI2.out.done hil, row_set HO2.out rfl, HW2.out.set hsg _ _⟩, by simp only [intOf]; omega⟩
    · obtain rfl : i = l.length := by omega
      go_wp2_with fail
      have hf4 := HI.out.2.2.1
      rw [List.take_of_length_le (Nat.le_refl _)] at hf4
      have HV := Lib.hid hf4
      refine (trim_any (some ⟨g, 0, none⟩) (l.length + m.length) (l.length + m.length) O wr HI.out.1 (by omega) (by omega) HI.out.2.1 (Blk.rd (rest := []) (by rw [List.append_nil]; exact HO.out))).mono ?_
      rintro e w4 ⟨ra, rl, rc, rfl, hN, hb4⟩
      have HX4 := Lib.hid (HW.out.below hb4)
      have HNN := Lib.hid hN
      have cr := HX4.out.2.2.2.cell
      have fr := HX4.out.2.2.2.frozen
      clear hf4 hN hb4
      go_wp2_with fail
      have hB : Blk w4 (s + 1 + 1) 36 [.slice none 0 0] := HX4.out.2.2.2
      refine ret_nat rfl rfl (hB.set 0 _) ⟨ra, rl, rc, rfl, ?_, ?_⟩
      · have := HNN.out.setCell hB (by decide) 0 (.slice ra rl rc)
        rwa [HV.out, HL.out.2, HK.out.2] at this
      · rw [← HS.out]
        exact HX4.out.1.setCell (p := ⟨s + 1 + 1, 0, none⟩) (by show s ≤ s + 1 + 1; omega) _

end Go.Proofs.YthefednendgclaaGreat
/-
  The numbers' own functions: shift.
-/
namespace Go.Proofs.YthefednendgclaaGreat
open Go Go.RowKit Sac

/-- The shifted row after k words: lo stands in the next one. -/
def ShInv (l : List Nat) (n k lo : Nat) (o : List Nat) : Prop := o.length = k ∧ Words o ∧ lo < 2 ^ n ∧ val o + W ^ k * lo = 2 ^ n * val (l.take k)

theorem mul_pow_lt {x n : Nat} (hx : x < W) (hn : n < 32) : 2 ^ n * x < 2 ^ n * W ∧ 2 ^ n * x < W * W := by
  have h1 : 2 ^ n * x < 2 ^ n * W := Nat.mul_lt_mul_of_pos_left hx (Nat.two_pow_pos n)
  have h2 : 2 ^ n ≤ W := by
    have : (2 : Nat) ^ n ≤ 2 ^ 32 := Nat.pow_le_pow_right (by decide) (by omega)
    exact this
  exact ⟨h1, Nat.lt_of_lt_of_le h1 (Nat.mul_le_mul_right _ h2)⟩

theorem ShInv.step {l : List Nat} {n k lo x : Nat} {o : List Nat} (h : ShInv l n k lo o) (hl : Words l) (hn : n < 32) (hx : l.getD k 0 = x) :
    ShInv l n (k + 1) (2 ^ n * x / W) (o ++ [lo + 2 ^ n * x % W]) := by
  obtain ⟨h1, h2, h3, h4⟩ := h
  have hxw := words_get hl k
  rw [hx] at hxw
  have hp := mul_pow_lt hxw hn
  refine ⟨by simp [h1], words_append.2 ⟨h2, words_cons.2 ⟨?_, words_nil⟩⟩, Nat.div_lt_of_lt_mul (by rw [Nat.mul_comm W]; exact hp.1), ?_⟩
  · have hd : W = 2 ^ n * 2 ^ (32 - n) := by rw [← Nat.pow_add, show n + (32 - n) = 32 by omega]; rfl
    have h5 : 2 ^ n * x % W = 2 ^ n * (x % 2 ^ (32 - n)) := by rw [hd, Nat.mul_mod_mul_left]
    have h6 : x % 2 ^ (32 - n) + 1 ≤ 2 ^ (32 - n) := Nat.mod_lt _ (Nat.two_pow_pos _)
    have h7 : 2 ^ n * (x % 2 ^ (32 - n) + 1) ≤ W := by rw [hd]; exact Nat.mul_le_mul_left _ h6
    rw [h5]
    rw [Nat.mul_add] at h7
    omega
  · rw [← hx]; exact shift_step h1 h4

theorem or_low (lo y n : Nat) (hlo : lo < 2 ^ n) (hn : n < 32) (hy : ∃ x, y = 2 ^ n * x) (hyw : y < W * W) : bits .or .u32 (lo : Int) ((y : Int) % 4294967296) = ((lo + y % W : Nat) : Int) := by
  obtain ⟨x, rfl⟩ := hy
  have hd : W = 2 ^ n * 2 ^ (32 - n) := by rw [← Nat.pow_add, show n + (32 - n) = 32 by omega]; rfl
  have h5 : 2 ^ n * x % W = 2 ^ n * (x % 2 ^ (32 - n)) := by rw [hd, Nat.mul_mod_mul_left]
  have hw : IntKind.u32.wrap (((x % 2 ^ (32 - n) : Nat) : Int) * 2 ^ n) = ((2 ^ n * x : Nat) : Int) % 4294967296 := by
    have e : (((x % 2 ^ (32 - n) : Nat) : Int) * 2 ^ n) = ((2 ^ n * (x % 2 ^ (32 - n)) : Nat) : Int) := by rw [Nat.mul_comm (2 ^ n)]; push_cast; rfl
    rw [e, ← h5, IntKind.wrap_u32]
    have : 2 ^ n * x % W < 4294967296 := Nat.mod_lt _ W_pos
    have h2 : ((2 ^ n * x % W : Nat) : Int) = ((2 ^ n * x : Nat) : Int) % 4294967296 := by
      generalize 2 ^ n * x = q
      unfold W
      omega
    rw [h2]
    omega
  have hx2 : x % 2 ^ (32 - n) < 2 ^ (32 - n) := Nat.mod_lt _ (Nat.two_pow_pos _)
  have := or_shl32 lo (x % 2 ^ (32 - n)) n (32 - n) hlo hx2 (by omega)
  rw [hw, ← h5] at this
  exact this

theorem pad_swap {o : List Nat} {L : Nat} {lo a : Nat} : (pad (o ++ [lo]) L).set o.length a = pad (o ++ [a]) L := by
  unfold pad
  rw [List.append_assoc, List.set_append_right _ _ (Nat.le_refl _), Nat.sub_self, List.append_assoc]
  simp

theorem pad_at {o : List Nat} {L : Nat} {lo : Nat} : (pad (o ++ [lo]) L).getD o.length 0 = lo := by
  unfold pad
  simp [List.getD_eq_getElem?_getD]

set_option maxRecDepth 100000 in
set_option maxHeartbeats 1000000 in
theorem shift_any (a : Option Addr) (cap n : Nat) (l : List Nat) (w : World) (hn : n < 32) (hlen : (l.length : Int) ≤ 100000) (hl : Words l) (hr : Rd w 106 a (l.map wd)) :
    Calls Tryz.prog 107 #[.slice a l.length cap, .int .i64 (n : Int)] w fun e w' => ∃ g o, e = .returned (.slice (some ⟨g, 0, none⟩) (l.length + 1) (l.length + 1)) ∧ w.heap.size ≤ g ∧ Blk w' g 106 (o.map wd) ∧
      o.length = l.length + 1 ∧ Words o ∧ val o = 2 ^ n * val l ∧ Below w.heap.size w w' := by
  have HL := Lib.hid hl
  have HR := Lib.hid hr
  clear hl hr
  have hni : (n : Int) < 32 := by omega
  go_enter Tryz.func107, Tryz.ntmps107
  go_wp2_with first | fail | (refine wpList_make_blk _ rfl _ _ _ rfl 106 (.int .u32 0) 4 Tryz.underlying34 Tryz.infoW rfl _ _ _ _ (l.length + 1) rfl rfl (by omega) (by omega) (by omega) (by unfold maxLen; omega) ?_)
  intro w2 hB2 hb2
  obtain ⟨g, hg⟩ : ∃ g, g = w.heap.size := ⟨_, rfl⟩
  rw [← hg] at hB2 hb2 ⊢
  have HG := Lib.hid hg
  have HB2 := Lib.hid hB2
  have HBel := Lib.hid hb2
  clear hg hB2 hb2
  go_wp2_with fail
  go_loopw [15] (fun iv wr => ∃ (k lo : Nat) (o : List Nat), k ≤ l.length ∧ iv = .int .i64 k ∧ Hid (ShInv l n k lo o) ∧ Hid (Blk wr g 106 ((pad (o ++ [lo]) (l.length + 1)).map wd)) ∧ Hid (Below g w wr)) (fun iv _ => l.length - (intOf iv).toNat)
  case atStart =>
    refine ⟨0, 0, [], Nat.zero_le _, rfl, ⟨rfl, words_nil, Nat.two_pow_pos n, by simp [val]⟩, ?_, HBel.out⟩
    have := HB2.out
    have e : pad ([] ++ [0]) (l.length + 1) = List.replicate (l.length + 1) 0 := by simp [pad, List.replicate_succ]
    show Blk _ _ _ _
    rw [e, List.map_replicate]; exact this
  case round =>
    obtain ⟨k, lo, o, hk, rfl, HI, HO, HW⟩ := hrel
    by_cases hkl : k < l.length
    · obtain ⟨ad, x, rfl, hlt, hcell, hxw, hx⟩ := rd_word (HR.out.below (HG.out ▸ HW.out)) HL.out (k := k) hkl
      have HST := Lib.hid (HI.out.step HL.out hn hx)
      have hp := mul_pow_lt (x := x) (n := n) hxw hn
      obtain ⟨y, hy⟩ : ∃ y, y = 2 ^ n * x := ⟨_, rfl⟩
      rw [← hy] at hp
      have hyw : y < 18446744073709551616 := hp.2
      have hsh : IntKind.u64.wrap ((x : Int) * 2 ^ n) = (y : Int) := by
        have e : ((x : Int) * 2 ^ n) = (y : Int) := by rw [hy]; push_cast; exact Int.mul_comm _ _
        rw [e]; exact wraps_u64 _ (by omega) (by omega)
      have hor := or_low lo y n HI.out.2.2.1 hn ⟨x, hy⟩ hp.2
      have hlen2 : o.length = k := HI.out.1
      have hcz : wr.cell? ⟨g, k, none⟩ = some (.int .u32 (lo : Int)) := by
        rw [row_cell HO.out (by rw [pad_length (by simp; omega)]; omega), ← hlen2, pad_at]
      have hcz2 : ∃ y0, wr.cell? ⟨g, k + 1, none⟩ = some y0 := ⟨_, row_cell HO.out (by rw [pad_length (by simp; omega)]; omega)⟩
      obtain ⟨y0, hcz2⟩ := hcz2
      have hfr : ∀ j, wr.frozen? ⟨g, j, none⟩ = false := fun j => HO.out.frozen j
      have HLEN := Lib.hid hlen2
      have HY := Lib.hid hy
      obtain ⟨q, hq⟩ : ∃ q, q = lo + y % W := ⟨_, rfl⟩
      rw [← hq] at hor
      have HQ := Lib.hid hq
      clear hlt hx hy hp hlen2 hq
      go_wp2_with fail
      have hst := HST.out
      rw [← HY.out, ← HQ.out] at hst
      have hB1 := row_set (k := k) HO.out (v := .int .u32 (q : Int)) (x := q) rfl
      rw [← HLEN.out, pad_swap, HLEN.out] at hB1
      have hdv : Value.int .u32 ((y : Int) / 4294967296) = wd (y / W) := by
        have : ((y / W : Nat) : Int) = (y : Int) / 4294967296 := by unfold W; omega
        unfold wd; rw [this]
      have hB2 := row_set (k := k + 1) hB1 hdv
      have hl1 : (o ++ [q]).length = k + 1 := by simp [HLEN.out]
      rw [← hl1, pad_set (by omega), hl1] at hB2
      exact ⟨⟨k + 1, _, _, by omega, rfl, hst, hB2, (HW.out.setCell (p := ⟨g, k, none⟩) (Nat.le_refl _) _).setCell (p := ⟨g, k + 1, none⟩) (Nat.le_refl _) _⟩, by simp only [intOf]; omega⟩
    · obtain rfl : k = l.length := by omega
      go_wp2_with fail
      go_ret
      have hfin := HI.out.2.2.2
      rw [List.take_of_length_le (Nat.le_refl _)] at hfin
      have hO := HO.out
      have hlo : lo < W := Nat.lt_of_lt_of_le HI.out.2.2.1 (show 2 ^ n ≤ 2 ^ 32 from Nat.pow_le_pow_right (by decide) (by omega))
      rw [pad_full (by simp [HI.out.1])] at hO
      refine ⟨g, o ++ [lo], rfl, Nat.le_of_eq HG.out.symm, hO, by simp [HI.out.1], words_append.2 ⟨HI.out.2.1, words_cons.2 ⟨hlo, words_nil⟩⟩, ?_, HG.out ▸ HW.out⟩
      rw [val_snoc, HI.out.1, hfin]

end Go.Proofs.YthefednendgclaaGreat
/-
  The numbers' own functions: take.
-/
namespace Go.Proofs.YthefednendgclaaGreat
open Go Go.RowKit Sac

/-- A row, a window of which has begun to change. -/
def win (pre o uw post : List Nat) : List Nat := pre ++ (o ++ uw.drop o.length) ++ post
theorem win_nil (pre uw post : List Nat) : win pre [] uw post = pre ++ uw ++ post := by simp [win]
theorem win_length {pre o uw post : List Nat} (h : o.length ≤ uw.length) : (win pre o uw post).length = pre.length + uw.length + post.length := by simp [win]; omega
theorem win_get {pre o uw post : List Nat} (h : o.length < uw.length) : (win pre o uw post).getD (pre.length + o.length) 0 = uw.getD o.length 0 := by
  unfold win
  rw [List.getD_eq_getElem?_getD, List.getD_eq_getElem?_getD, List.append_assoc, List.getElem?_append_right (by omega), List.append_assoc,
    List.getElem?_append_right (by omega), List.getElem?_append_left (by simp; omega), List.getElem?_drop]
  congr 2
  omega
theorem win_set {pre o uw post : List Nat} (h : o.length < uw.length) (x : Nat) : (win pre o uw post).set (pre.length + o.length) x = win pre (o ++ [x]) uw post := by
  have hd : uw.drop o.length = uw[o.length] :: uw.drop (o ++ [x]).length := by
    rw [List.length_append]; exact List.drop_eq_getElem_cons h
  unfold win
  rw [List.append_assoc, List.set_append_right _ _ (by omega), List.append_assoc, List.set_append_right _ _ (by omega), show pre.length + o.length - pre.length - o.length = 0 by omega, hd]
  rw [List.cons_append, List.set_cons_zero, List.append_assoc, List.append_assoc, List.append_assoc]
  rfl
theorem win_full {pre o uw post : List Nat} (h : o.length = uw.length) : win pre o uw post = pre ++ o ++ post := by simp [win, h]

def TakeInv (uw v : List Nat) (q k c bo : Nat) (o : List Nat) : Prop := o.length = k ∧ Words o ∧ c < W ∧ bo ≤ 1 ∧ val o + q * val (v.take k) = val (uw.take k) + W ^ k * (c + bo)

theorem takeWord_room {q y c : Nat} (hq : q < W) (hy : y < W) (hc : c < W) : c + q * y < W * W := by
  have := mul_room hq hy hc (show 0 < W from W_pos)
  omega

theorem TakeInv.step {uw v : List Nat} {q k c bo x y : Nat} {o : List Nat} (h : TakeInv uw v q k c bo o) (hu : Words uw) (hv : Words v) (hq : q < W) (hx : uw.getD k 0 = x) (hy : v.getD k 0 = y) :
    TakeInv uw v q (k + 1) ((c + q * y) / W) (subWord x ((c + q * y) % W) bo).2 (o ++ [(subWord x ((c + q * y) % W) bo).1]) := by
  obtain ⟨h1, h2, h3, h4, h5⟩ := h
  have hxw := words_get hu k
  have hyw := words_get hv k
  have := take_step h1 h5 (rfl : c + q * v.getD k 0 = _) h4
  rw [hx] at hxw
  rw [hy] at hyw
  rw [hx, hy] at this
  exact ⟨by simp [h1], words_append.2 ⟨h2, words_cons.2 ⟨subWord_lt hxw, words_nil⟩⟩, Nat.div_lt_of_lt_mul (takeWord_room hq hyw h3), subWord_le, this⟩

def TakePost (gu q : Nat) (pre uw post v : List Nat) (w : World) (e : Ending) (w' : World) : Prop := ∃ uw', uw'.length = uw.length ∧ Words uw' ∧ Blk w' gu 106 ((pre ++ uw' ++ post).map wd) ∧ Only (· = gu) w w' ∧
      ((val uw < q * val v ∧ e = .returned (.bool true) ∧ val uw' + q * val v = val uw + W ^ uw.length) ∨ (q * val v ≤ val uw ∧ e = .returned (.bool false) ∧ val uw' + q * val v = val uw))

set_option maxRecDepth 100000 in
set_option maxHeartbeats 1000000 in
theorem take_any (gu gv cap capv q : Nat) (pre uw post v vt : List Nat) (w : World) (hne : gv ≠ gu) (hU : Blk w gu 106 ((pre ++ uw ++ post).map wd)) (hV : Blk w gv 106 ((v ++ vt).map wd))
    (hl : uw.length = v.length + 1) (huw : Words uw) (hvw : Words v) (hq : q < 4294967296) (hlen : (v.length : Int) ≤ 100000) (hp : (pre.length : Int) ≤ 1000000) (hcap : v.length + 1 ≤ cap) (hcapv : v.length ≤ capv) :
    Calls Tryz.prog 131 #[.slice (some ⟨gu, pre.length, none⟩) (v.length + 1 : Nat) cap, .slice (some ⟨gv, 0, none⟩) v.length capv, .int .u64 (q : Int)] w (TakePost gu q pre uw post v w) := by
  have HU := Lib.hid hU
  have HV := Lib.hid hV
  have HL := Lib.hid hl
  have HUW := Lib.hid huw
  have HVW := Lib.hid hvw
  clear hU hV hl huw hvw
  go_enter Tryz.func131, Tryz.ntmps131
  go_wp2_with fail
  go_loopw [7, 8, 15] (fun cv bv iv wr => ∃ (k c bo : Nat) (o : List Nat), k ≤ v.length ∧ iv = .int .i64 k ∧ cv = .int .u64 (c : Int) ∧ bv = .int .i64 (bo : Int) ∧ (c : Int) < 4294967296 ∧ (bo : Int) ≤ 1 ∧
    Hid (TakeInv uw v q k c bo o) ∧ Hid (Blk wr gu 106 ((win pre o uw post).map wd)) ∧ Hid (Only (· = gu) w wr)) (fun _ _ iv _ => v.length - (intOf iv).toNat)
  case atStart => exact ⟨0, 0, 0, [], Nat.zero_le _, rfl, rfl, rfl, by decide, by decide, ⟨rfl, words_nil, W_pos, by decide, by simp [val]⟩, by have := HU.out; rw [win_nil]; exact this, Only.refl _ _⟩
  case round =>
    obtain ⟨k, c, bo, o, hk, rfl, rfl, rfl, hc, hbo, HI, HB, HO⟩ := hrel
    obtain ⟨x, hx⟩ : ∃ x, x = uw.getD k 0 := ⟨_, rfl⟩
    have hxw : x < 4294967296 := by rw [hx]; exact words_get HUW.out _
    have hcu : wr.cell? ⟨gu, pre.length + k, none⟩ = some (.int .u32 (x : Int)) := by
      have h1 := HI.out.1
      have hl := HL.out
      rw [row_cell HB.out (by rw [win_length (by omega)]; omega), ← h1, win_get (by omega), h1, hx]
    have hfr := HB.out.frozen (pre.length + k)
    have HX := Lib.hid hx
    by_cases hkl : k < v.length
    · obtain ⟨y, hy⟩ : ∃ y, y = v.getD k 0 := ⟨_, rfl⟩
      have hyw : y < 4294967296 := by rw [hy]; exact words_get HVW.out _
      have hcv : wr.cell? ⟨gv, k, none⟩ = some (.int .u32 (y : Int)) := by
        rw [row_cell (HV.out.only HO.out hne) (by simp; omega), hy]
        simp [List.getD_eq_getElem?_getD, List.getElem?_append_left hkl]
      have HST := Lib.hid (HI.out.step HUW.out HVW.out hq hx.symm hy.symm)
      have hroom := takeWord_room (W_pos |> fun _ => hq) hyw (show c < W by unfold W; omega)
      obtain ⟨qy, hqy⟩ : ∃ qy, qy = q * y := ⟨_, rfl⟩
      have hqy3 : (q : Int) * (y : Int) = (qy : Int) := by rw [hqy]; push_cast; rfl
      rw [← hqy] at hroom
      have hlim : c + qy < 18446744073709551616 := hroom
      have hqy1 : qy ≤ 18446744065119617025 := by
        rw [hqy]
        have := Nat.mul_le_mul (show q ≤ 4294967295 by omega) (show y ≤ 4294967295 by omega)
        omega
      have HQY := Lib.hid hqy
      clear hx hy hroom hqy hne
      obtain ⟨S, hS⟩ : ∃ S, S = c + qy := ⟨_, rfl⟩
      have hS3 : (c : Int) + (qy : Int) = (S : Int) := by omega
      rw [← hS] at hlim
      obtain ⟨sm, hsm⟩ : ∃ sm, sm = S % W := ⟨_, rfl⟩
      obtain ⟨sd, hsd⟩ : ∃ sd, sd = S / W := ⟨_, rfl⟩
      have hsm3 : (S : Int) % 4294967296 = (sm : Int) := by unfold W at hsm; omega
      have hsd3 : (S : Int) / 4294967296 = (sd : Int) := by unfold W at hsd; omega
      have hsm4 : sm < 4294967296 := by unfold W at hsm; omega
      have hsd4 : sd < 4294967296 := by unfold W at hsd; omega
      have HSS := Lib.hid hS
      have HSM := Lib.hid hsm
      have HSD := Lib.hid hsd
      clear hS hsm hsd
      have hfin : ∀ (b2 : Nat) (r : Nat) (v2 : Value), subWord x sm bo = (r, b2) → v2 = wd r → (b2 : Int) ≤ 1 →
          (∃ (k1 c1 b1 : Nat) (o1 : List Nat), k1 ≤ v.length ∧ Value.int .i64 ((k : Int) + 1) = .int .i64 k1 ∧ Value.int .u64 (sd : Int) = .int .u64 (c1 : Int) ∧ Value.int .i64 (b2 : Int) = .int .i64 (b1 : Int) ∧ (c1 : Int) < 4294967296 ∧ (b1 : Int) ≤ 1 ∧
            Hid (TakeInv uw v q k1 c1 b1 o1) ∧ Hid (Blk (wr.setCell ⟨gu, pre.length + k, none⟩ v2) gu 106 ((win pre o1 uw post).map wd)) ∧ Hid (Only (· = gu) w (wr.setCell ⟨gu, pre.length + k, none⟩ v2))) := by
        intro b2 r v2 hsub hv2 hb2
        have hst := HST.out
        rw [← HQY.out, ← HSS.out, ← HSM.out, ← HSD.out, hsub] at hst
        refine ⟨k + 1, sd, b2, _, by omega, rfl, rfl, rfl, by omega, hb2, hst, ?_, HO.out.setCell (p := ⟨gu, pre.length + k, none⟩) (fun _ => rfl) _⟩
        have h1 := HI.out.1
        have hl := HL.out
        have := row_set (k := pre.length + k) HB.out hv2
        rw [← h1, win_set (by omega)] at this
        rw [← h1]
        exact this
      by_cases hd : (x : Int) - sm - bo < 0
      · go_wp2_with fail
        exact ⟨hfin 1 _ _ (subWord_lo (by omega)) (by unfold wd W; congr 1; omega) (by decide), by simp only [intOf]; omega⟩
      · go_wp2_with fail
        exact ⟨hfin 0 _ _ (subWord_hi (by omega)) (by unfold wd; congr 1; omega) (by decide), by simp only [intOf]; omega⟩
    · obtain rfl : k = v.length := by omega
      have HX := Lib.hid hx
      clear hx
      go_wp2_with fail
      have h1 := HI.out.1
      have hl := HL.out
      have hl2 := lt_of_lt_of_eq (Nat.lt_succ_self v.length) hl.symm
      obtain ⟨t1, t2⟩ := take_end hl h1 (by have := HI.out.2.2.2.2; rwa [List.take_of_length_le (Nat.le_refl _)] at this) HI.out.2.1 HUW.out (by unfold W; omega) (by omega : bo ≤ 1)
      rw [← HX.out] at t1 t2
      have hres : ∀ (r : Nat) (v2 : Value), v2 = wd r → r < W → (o ++ [r]).length = uw.length ∧ Words (o ++ [r]) ∧ Blk (wr.setCell ⟨gu, pre.length + v.length, none⟩ v2) gu 106 ((pre ++ (o ++ [r]) ++ post).map wd) ∧ Only (· = gu) w (wr.setCell ⟨gu, pre.length + v.length, none⟩ v2) := by
        intro r v2 hv2 hr
        have hfl : (o ++ [r]).length = uw.length := by rw [List.length_append, h1, hl]; rfl
        refine ⟨hfl, words_append.2 ⟨HI.out.2.1, words_cons.2 ⟨hr, words_nil⟩⟩, ?_, HO.out.setCell (p := ⟨gu, pre.length + v.length, none⟩) (fun _ => rfl) _⟩
        have := row_set (k := pre.length + v.length) HB.out hv2
        rw [← h1, win_set (by omega), win_full hfl] at this
        rw [← h1]
        exact this
      by_cases hd : x < c + bo
      · obtain ⟨t3, t4⟩ := t1 hd
        obtain ⟨r1, r2, r3, r4⟩ := hres ((x + W - c - bo) % W) (.int .u32 (((x : Int) - c - bo) % 4294967296)) (by unfold wd W; congr 1; omega) (Nat.mod_lt _ W_pos)
        have hdec : decide ((x : Int) - c - bo < 0) = true := by rw [decide_eq_true_iff]; omega
        rw [hdec]
        go_ret
        exact ⟨_, r1, r2, r3, r4, .inl ⟨t3, rfl, t4⟩⟩
      · have t4 := t2 hd
        obtain ⟨r1, r2, r3, r4⟩ := hres (x - c - bo) (.int .u32 (((x : Int) - c - bo) % 4294967296)) (by unfold wd; congr 1; omega) (by unfold W; omega)
        have hdec : decide ((x : Int) - c - bo < 0) = false := by rw [decide_eq_false_iff_not]; omega
        rw [hdec]
        go_ret
        exact ⟨_, r1, r2, r3, r4, .inr ⟨by omega, rfl, t4⟩⟩

end Go.Proofs.YthefednendgclaaGreat
/-
  The numbers' own functions: digit.
-/
namespace Go.Proofs.YthefednendgclaaGreat
open Go Go.RowKit Sac

/-- The digit is handed back, and the window holds what is left. -/
def DigPost (gu : Nat) (pre uw post v : List Nat) (w : World) (e : Ending) (w' : World) : Prop := ∃ uw', uw'.length = uw.length ∧ Words uw' ∧ Blk w' gu 106 ((pre ++ uw' ++ post).map wd) ∧ Only (· = gu) w w' ∧
  e = .returned (wd (val uw / val v)) ∧ val uw' = val uw % val v

theorem or_top {a b : Nat} (ha : a < 4294967296) (hb : b < 4294967296) : bits .or .u64 ((a : Int) * 4294967296) (b : Int) = ((a * 4294967296 + b : Nat) : Int) := by
  have h := bits_join .u64 64 (by decide) wraps_u64 32 ((a : Int) * 4294967296) (b : Int) (by omega) (by omega) (by omega) (by omega) (by omega) (by omega)
  rw [h]
  omega

theorem digit_words {uw : List Nat} {j : Nat} (hl : uw.length = j + 2 + 1) (huw : Words uw) : ((uw.getD (j + 2) 0 * W + uw.getD (j + 1) 0) * W + uw.getD j 0) * W ^ j ≤ val uw ∧ val uw < ((uw.getD (j + 2) 0 * W + uw.getD (j + 1) 0) * W + uw.getD j 0 + 1) * W ^ j := by
  have h1 := val_take_succ' uw (j + 2)
  have h2 := val_take_succ' uw (j + 1)
  have h3 := val_take_succ' uw j
  rw [val_take_ge uw (j + 2 + 1) (by omega)] at h1
  have h4 := val_lt (words_take huw j)
  rw [List.length_take, Nat.min_eq_left (by omega)] at h4
  have e1 : W ^ (j + 2) = W ^ j * W * W := by rw [Nat.pow_succ, Nat.pow_succ]
  have e2 : W ^ (j + 1) = W ^ j * W := by rw [Nat.pow_succ]
  rw [h1, h2, h3, e1, e2]
  generalize uw.getD (j + 2) 0 = a
  generalize uw.getD (j + 1) 0 = b
  generalize uw.getD j 0 = c
  generalize W ^ j = p at *
  have e3 : ((a * W + b) * W + c) * p = p * c + p * W * b + p * W * W * a := by
    rw [Nat.add_mul, Nat.add_mul, Nat.add_mul]
    have x1 : a * W * W * p = p * W * W * a := by ac_rfl
    have x2 : b * W * p = p * W * b := by ac_rfl
    have x3 : c * p = p * c := by ac_rfl
    omega
  rw [Nat.add_mul _ 1, Nat.one_mul, e3]
  omega

theorem digit_words2 {v : List Nat} {j : Nat} (hl : v.length = j + 2) (hv : Words v) : (v.getD (j + 1) 0 * W + v.getD j 0) * W ^ j ≤ val v ∧ val v < (v.getD (j + 1) 0 * W + v.getD j 0 + 1) * W ^ j := by
  have h2 := val_take_succ' v (j + 1)
  have h3 := val_take_succ' v j
  rw [val_take_ge v (j + 1 + 1) (by omega)] at h2
  have h4 := val_lt (words_take hv j)
  rw [List.length_take, Nat.min_eq_left (by omega)] at h4
  have e2 : W ^ (j + 1) = W ^ j * W := by rw [Nat.pow_succ]
  rw [h2, h3, e2]
  generalize v.getD (j + 1) 0 = b
  generalize v.getD j 0 = c
  generalize W ^ j = p at *
  have e3 : (b * W + c) * p = p * c + p * W * b := by
    rw [Nat.add_mul]
    have x2 : b * W * p = p * W * b := by ac_rfl
    have x3 : c * p = p * c := by ac_rfl
    omega
  rw [Nat.add_mul _ 1, Nat.one_mul, e3]
  omega

/-- What is known of a digit: its words and their worth. -/
structure DigFit (uw v : List Nat) (u1 u2 u3 v1 v2 q0 top p : Nat) : Prop where
  ulo : (top * W + u3) * p ≤ val uw
  uhi : val uw < (top * W + u3 + 1) * p
  vlo : (v1 * W + v2) * p ≤ val v
  vhi : val v < (v1 * W + v2 + 1) * p
  v1p : 2147483648 ≤ v1
  v2w : v2 < W
  u3w : u3 < W
  q0lo : q0 * val v ≤ val uw
  q0hi : val uw < (q0 + 1) * val v
  q0w : q0 < W
  lt : val uw < W * val v

theorem DigFit.digit {uw v : List Nat} {u1 u2 u3 v1 v2 q0 top p : Nat} (h : DigFit uw v u1 u2 u3 v1 v2 q0 top p) : q0 * (v1 * W + v2) ≤ top * W + u3 :=
  guess_digit h.q0lo h.vlo h.uhi
theorem DigFit.top {uw v : List Nat} {u1 u2 u3 v1 v2 q0 top p : Nat} (h : DigFit uw v u1 u2 u3 v1 v2 q0 top p) : top < (v1 + 1) * W := by
  have h1 : (top * W + u3) * p < W * (v1 * W + v2 + 1) * p := by
    have a := Nat.lt_of_le_of_lt h.ulo h.lt
    have b := Nat.mul_le_mul_left W (Nat.le_of_lt h.vhi)
    rw [← Nat.mul_assoc] at b
    exact Nat.lt_of_lt_of_le a b
  have h2 : top * W + u3 < W * (v1 * W + v2 + 1) := Nat.lt_of_mul_lt_mul_right h1
  have h3 : top * W < (v1 * W + v2 + 1) * W := by rw [Nat.mul_comm W] at h2; omega
  have h4 := Nat.lt_of_mul_lt_mul_right h3
  have := h.v2w
  rw [Nat.add_mul]
  omega
theorem DigFit.start {uw v : List Nat} {u1 u2 u3 v1 v2 q0 top p : Nat} (h : DigFit uw v u1 u2 u3 v1 v2 q0 top p) : q0 ≤ top / v1 := by
  have h0 := h.v1p
  rw [Nat.le_div_iff_mul_le (by omega)]
  have h1 := h.digit
  have h2 : q0 * v1 * W < (top + 1) * W := by
    have := h.u3w
    rw [Nat.mul_add, ← Nat.mul_assoc] at h1
    rw [Nat.add_mul]
    omega
  have := Nat.lt_of_mul_lt_mul_right h2
  omega
theorem DigFit.low {uw v : List Nat} {u1 u2 u3 v1 v2 q0 top p : Nat} (h : DigFit uw v u1 u2 u3 v1 v2 q0 top p) {q r : Nat} (hI : q * v1 + r = top) (hg : W ≤ q ∨ r * W + u3 < q * v2) : q0 + 1 ≤ q :=
  guess_low hI hg h.q0w h.digit (by have := h.v1p; omega)
theorem DigFit.near {uw v : List Nat} {u1 u2 u3 v1 v2 q0 top p : Nat} (h : DigFit uw v u1 u2 u3 v1 v2 q0 top p) {q r : Nat} (hI : q * v1 + r = top) (hg : (q < W ∧ q * v2 ≤ r * W + u3) ∨ W ≤ r) : q < W ∧ q ≤ q0 + 1 := by
  obtain ⟨h1, h2⟩ := guess_end hI h.top h.v2w hg
  refine ⟨h1, guess_near h.q0lo h.q0hi h.vhi h.ulo h2 h1 ?_⟩
  have h3 : 1 * W ≤ v1 * W := Nat.mul_le_mul_right _ (by have := h.v1p; omega)
  omega

theorem _root_.Sac.Only.drewN {F : Nat → Prop} {a w : World} (h : Only F a w) (n : Nat) : Only F a (w.drewN n) := ⟨h.os, h.tape, h.output, h.size, h.block⟩


set_option maxRecDepth 100000 in
set_option maxHeartbeats 1000000 in
theorem digit_any (gu gv cap capv j : Nat) (pre uw post v vt : List Nat) (w : World) (hne : gv ≠ gu) (hU : Blk w gu 106 ((pre ++ uw ++ post).map wd)) (hV : Blk w gv 106 ((v ++ vt).map wd))
    (hl : uw.length = j + 2 + 1) (hlv : v.length = j + 2) (huw : Words uw) (hvw : Words v) (hlen : (j : Int) + 2 ≤ 100000) (hp : (pre.length : Int) ≤ 1000000) (hcap : j + 2 + 1 ≤ cap) (hcapv : j + 2 ≤ capv)
    (hlt : val uw < W * val v) (htop : 2147483648 ≤ v.getD (j + 1) 0) :
    Calls Tryz.prog 108 #[.slice (some ⟨gu, pre.length, none⟩) (j + 2 + 1 : Nat) cap, .slice (some ⟨gv, 0, none⟩) (j + 2 : Nat) capv] w (DigPost gu pre uw post v w) := by
  have cu : ∀ k, k < j + 3 → w.cell? ⟨gu, pre.length + k, none⟩ = some (.int .u32 ((uw.getD k 0 : Nat) : Int)) := by
    intro k hk
    rw [row_cell hU (by simp; omega)]
    congr 3
    rw [List.getD_eq_getElem?_getD, List.getD_eq_getElem?_getD, List.append_assoc, List.getElem?_append_right (by omega), List.getElem?_append_left (by omega)]
    congr 2
    omega
  have cv : ∀ k, k < j + 2 → w.cell? ⟨gv, k, none⟩ = some (.int .u32 ((v.getD k 0 : Nat) : Int)) := by
    intro k hk
    rw [row_cell hV (by simp; omega)]
    congr 3
    rw [List.getD_eq_getElem?_getD, List.getD_eq_getElem?_getD, List.getElem?_append_left (by omega)]
  obtain ⟨u1, hu1⟩ : ∃ u1, u1 = uw.getD (j + 2) 0 := ⟨_, rfl⟩
  obtain ⟨u2, hu2⟩ : ∃ u2, u2 = uw.getD (j + 1) 0 := ⟨_, rfl⟩
  obtain ⟨u3, hu3⟩ : ∃ u3, u3 = uw.getD j 0 := ⟨_, rfl⟩
  obtain ⟨v1, hv1⟩ : ∃ v1, v1 = v.getD (j + 1) 0 := ⟨_, rfl⟩
  obtain ⟨v2, hv2⟩ : ∃ v2, v2 = v.getD j 0 := ⟨_, rfl⟩
  have c1 := cu (j + 2) (by omega)
  have c2 := cu (j + 1) (by omega)
  have c3 := cu j (by omega)
  have c4 := cv (j + 1) (by omega)
  have c5 := cv j (by omega)
  rw [← hu1] at c1; rw [← hu2] at c2; rw [← hu3] at c3; rw [← hv1] at c4 htop; rw [← hv2] at c5
  have w1 : u1 < 4294967296 := by rw [hu1]; exact words_get huw _
  have w2 : u2 < 4294967296 := by rw [hu2]; exact words_get huw _
  have w3 : u3 < 4294967296 := by rw [hu3]; exact words_get huw _
  have w4 : v1 < 4294967296 := by rw [hv1]; exact words_get hvw _
  have w5 : v2 < 4294967296 := by rw [hv2]; exact words_get hvw _
  have HU := Lib.hid hU
  have HV := Lib.hid hV
  have HL := Lib.hid hl
  have HLV := Lib.hid hlv
  have HUW := Lib.hid huw
  have HVW := Lib.hid hvw
  have HLT := Lib.hid hlt
  have HEQ := Lib.hid (And.intro hu1 (And.intro hu2 (And.intro hu3 (And.intro hv1 hv2))))
  have v1p : ((v1 : Int) == 0) = false := by rw [beq_eq_false_iff_ne]; omega
  clear hU hV hl hlv huw hvw hlt hu1 hu2 hu3 hv1 hv2 cu cv
  obtain ⟨top, htp⟩ : ∃ top, top = u1 * 4294967296 + u2 := ⟨_, rfl⟩
  have hor : bits .or .u64 ((u1 : Int) * 4294967296) (u2 : Int) = (top : Int) := by rw [htp]; exact or_top w1 w2
  have htl : top < 18446744073709551616 := by rw [htp]; omega
  obtain ⟨q0, hq0⟩ : ∃ q0, q0 = val uw / val v := ⟨_, rfl⟩
  obtain ⟨qs, hqs⟩ : ∃ qs, qs = top / v1 := ⟨_, rfl⟩
  obtain ⟨rs, hrs⟩ : ∃ rs, rs = top % v1 := ⟨_, rfl⟩
  have hqi : (top : Int) / (v1 : Int) = (qs : Int) := by rw [hqs]; push_cast; rfl
  have hri : (top : Int) % (v1 : Int) = (rs : Int) := by rw [hrs]; push_cast; rfl
  have hrl : rs < v1 := by rw [hrs]; exact Nat.mod_lt _ (by omega)
  have hql : qs ≤ top := by rw [hqs]; exact Nat.div_le_self _ _
  have HTP := Lib.hid htp
  have HQ0 := Lib.hid hq0
  have hfit : DigFit uw v u1 u2 u3 v1 v2 q0 top (W ^ j) := by
    have h1 := digit_words HL.out HUW.out
    have h2 := digit_words2 HLV.out HVW.out
    obtain ⟨e1, e2, e3, e4, e5⟩ := HEQ.out
    rw [← e1, ← e2, ← e3] at h1
    rw [← e4, ← e5] at h2
    have e6 : u1 * W + u2 = top := htp.symm
    rw [e6] at h1
    have hvp : 0 < val v := by
      apply Nat.pos_of_ne_zero
      intro h0
      have := HLT.out
      rw [h0] at this
      omega
    refine ⟨h1.1, h1.2, h2.1, h2.2, htop, w5, w3, ?_, ?_, ?_, HLT.out⟩
    · rw [hq0]; exact Nat.div_mul_le_self _ _
    · rw [hq0, Nat.mul_comm]; exact Nat.lt_mul_div_succ _ hvp
    · rw [hq0]; exact Nat.div_lt_of_lt_mul (by rw [Nat.mul_comm]; exact HLT.out)
  have HF := Lib.hid hfit
  have HQS : Hid (qs * v1 + rs = top ∧ q0 ≤ qs) := by
    refine ⟨?_, hqs ▸ hfit.start⟩
    rw [hqs, hrs, Nat.mul_comm]; exact Nat.div_add_mod _ _
  clear hfit
  clear htp hq0 hqs hrs
  go_enter Tryz.func108, Tryz.ntmps108
  go_wp2_with fail
  go_quiet (fail)
  go_wp2_with fail
  go_quiet (fail)
  go_wp2_with fail
  rw [show j + 2 - 1 = j + 1 from rfl, hri]
  go_loopw [7, 8] (fun qv rv wr => ∃ (q r n : Nat), qv = .int .u64 (q : Int) ∧ rv = .int .u64 (r : Int) ∧ Hid (wr = w.drewN n) ∧ (r : Int) < 4294967296 ∧ (q : Int) < 18446744073709551616 ∧ Hid (q * v1 + r = top ∧ q0 ≤ q)) (fun qv _ _ => (intOf qv).toNat)
  case atStart => exact ⟨qs, rs, _, rfl, rfl, World.drewN_drewN _ _ _, by omega, by omega, HQS.out⟩
  case round =>
    obtain ⟨q, r, n, rfl, rfl, ⟨rfl⟩, hr, hq, HI⟩ := hrel
    have hor2 : bits .or .u64 ((r : Int) * 4294967296) (u3 : Int) = ((r * 4294967296 + u3 : Nat) : Int) := or_top (by omega) w3
    obtain ⟨ru, hru⟩ : ∃ ru, ru = r * 4294967296 + u3 := ⟨_, rfl⟩
    rw [← hru] at hor2
    have HRU := Lib.hid hru
    have hrul : ru < 18446744073709551616 := by omega
    clear hru
    by_cases hqw : 4294967296 ≤ (q : Int)
    · have hlow := HF.out.low HI.out.1 (.inl (by unfold W; omega))
      have hq1 : 1 ≤ (q : Int) := by omega
      have HLOW := Lib.hid hlow
      clear hlow
      by_cases hrb : 4294967296 ≤ (r : Int) + v1
      · go_wp2_with fail
        go_quiet (fail)
        go_wp2_with fail
        obtain ⟨qf, hqf⟩ : ∃ qf, q = qf + 1 := ⟨q - 1, by omega⟩
        have hqe : (q : Int) - 1 = (qf : Int) := by omega
        have HG : Hid (qf < W ∧ qf ≤ q0 + 1) := by
          refine HF.out.near (q := qf) (r := r + v1) ?_ (.inr (by unfold W; omega))
          have := HI.out.1
          rw [hqf, Nat.add_mul] at this
          omega
        have HGL : Hid (q0 ≤ qf) := by have := HLOW.out; show _ ≤ _; omega
        rw [hqe]
        generalize hW2 : w.drewN _ = w2
        have HO2 : Hid (Only (· = gu) w w2) := by rw [← hW2]; exact (Only.refl _ w).drewN _
        have HU2 : Hid (Blk w2 gu 106 ((pre ++ uw ++ post).map wd)) := by rw [← hW2]; exact HU.out
        have HV2 : Hid (Blk w2 gv 106 ((v ++ vt).map wd)) := by rw [← hW2]; exact HV.out
        have hqfw : qf < 4294967296 := HG.out.1
        have ht := take_any gu gv cap capv qf pre uw post v vt w2 hne HU2.out HV2.out (by rw [HLV.out]; exact HL.out) HUW.out HVW.out hqfw (by rw [HLV.out]; push_cast; exact hlen) hp (by rw [HLV.out]; exact hcap) (by rw [HLV.out]; exact hcapv)
        rw [HLV.out] at ht
        refine ht.mono ?_
        clear ht hW2 hor2 hrul hqf
        rintro e w3 ⟨uw', l1, l2, l3, l4, ⟨t1, rfl, t3⟩ | ⟨t1, rfl, t3⟩⟩
        · have hqq : qf = q0 + 1 := by
            have h2 := HF.out.q0lo
            have h3 : q0 * val v < qf * val v := Nat.lt_of_le_of_lt h2 t1
            have h4 := Nat.lt_of_mul_lt_mul_right h3
            have := HG.out.2
            omega
          have hq1 : 1 ≤ (qf : Int) := by omega
          have HQQ := Lib.hid hqq
          have HT3 := Lib.hid t3
          have HL1 := Lib.hid l1
          have HL2 := Lib.hid l2
          have HL3 := Lib.hid l3
          have HL4 := Lib.hid (HO2.out.trans l4)
          have HV3 := Lib.hid (HV2.out.only l4 hne)
          clear t1 t3 hqq l1 l2 l3 l4
          go_wp2_with fail
          go_loopw [9, 85] (fun cv iv wr => ∃ (k c : Nat) (o : List Nat), k ≤ j + 2 ∧ iv = .int .i64 k ∧ cv = .int .u64 (c : Int) ∧ (c : Int) ≤ 1 ∧ Hid (AddInv uw' v k c o) ∧ Hid (Blk wr gu 106 ((win pre o uw' post).map wd)) ∧ Hid (Only (· = gu) w wr)) (fun _ iv _ => j + 2 - (intOf iv).toNat)
          case atStart => exact ⟨0, 0, [], Nat.zero_le _, rfl, rfl, by decide, ⟨rfl, words_nil, by simp [val]⟩, by have := HL3.out; rw [win_nil]; exact this, HL4.out⟩
          case round =>
            obtain ⟨k, c, o, hk, rfl, rfl, hc, HA, HB, HO⟩ := hrel
            obtain ⟨x, hx⟩ : ∃ x, x = uw'.getD k 0 := ⟨_, rfl⟩
            have hxw : x < 4294967296 := by rw [hx]; exact words_get HL2.out _
            have hcu : wr.cell? ⟨gu, pre.length + k, none⟩ = some (.int .u32 (x : Int)) := by
              have h1 := HA.out.1
              have hl := HL1.out
              have hl2 := HL.out
              rw [row_cell HB.out (by rw [win_length (by omega)]; omega), ← h1, win_get (by omega), h1, hx]
            have hfr := HB.out.frozen (pre.length + k)
            have HX := Lib.hid hx
            clear hx
            by_cases hkl : k < j + 2
            · obtain ⟨y, hy⟩ : ∃ y, y = v.getD k 0 := ⟨_, rfl⟩
              have hyw : y < 4294967296 := by rw [hy]; exact words_get HVW.out _
              have hcv : wr.cell? ⟨gv, k, none⟩ = some (.int .u32 (y : Int)) := by
                have hl2 := HLV.out
                rw [row_cell (HV.out.only HO.out hne) (by simp; omega), hy]
                simp [List.getD_eq_getElem?_getD, List.getElem?_append_left (show k < v.length by omega)]
              have HY := Lib.hid hy
              have hkl' : (k : Int) < (j : Int) + 2 := by omega
              clear hy
              go_wp2_with fail
              refine ⟨⟨k + 1, (c + x + y) / W, o ++ [(c + x + y) % W], by omega, rfl, u64_div (by omega), by unfold W; omega, HA.out.step HX.out.symm HY.out.symm, ?_, HO.out.setCell (p := ⟨gu, pre.length + k, none⟩) (fun _ => rfl) _⟩, by simp only [intOf]; omega⟩
              have h1 := HA.out.1
              have hl := HL1.out
              have hl2 := HL.out
              have := row_set (k := pre.length + k) HB.out (v := .int .u32 (((c : Int) + (x + y)) % 4294967296)) (wd_mod (a := c + x + y) (by omega))
              rw [← h1, win_set (by omega)] at this
              rw [← h1]
              exact this
            · obtain rfl : k = j + 2 := by omega
              go_wp2_with fail
              have h1 := HA.out.1
              have hl := HL1.out
              have hl2 := HL.out
              have hl3 := HLV.out
              have hAv := HA.out.2.2
              have hqq := HQQ.out
              have hT3 := HT3.out
              have hq0l := HF.out.q0lo
              have hq0h := HF.out.q0hi
              have hvl := val_lt HVW.out
              rw [List.take_of_length_le (Nat.le_of_eq hl3), ← hl3] at hAv
              rw [hqq, Nat.add_mul, Nat.one_mul] at hT3
              rw [Nat.add_mul, Nat.one_mul] at hq0h
              have hlv : v.length + 1 = uw'.length := by omega
              have hbk := back_end hlv.symm (h1.trans hl3.symm) hAv HA.out.2.1 HL2.out (by omega) (by rw [hl]; omega) (by rw [hl]; omega)
              rw [hl3, ← HX.out, hl] at hbk
              have hfl : (o ++ [(x + c) % W]).length = uw'.length := by rw [List.length_append, h1, ← hlv, hl3]; rfl
              have hB := row_set (k := pre.length + (j + 2)) HB.out (v := .int .u32 (((x : Int) + c) % 4294967296)) (wd_mod (a := x + c) (by omega))
              rw [← h1, win_set (by omega), win_full hfl, h1] at hB
              go_ret
              refine ⟨o ++ [(x + c) % W], hfl.trans hl, words_append.2 ⟨HA.out.2.1, words_cons.2 ⟨Nat.mod_lt _ W_pos, words_nil⟩⟩, hB, HO.out.setCell (p := ⟨gu, pre.length + (j + 2), none⟩) (fun _ => rfl) _, ?_, ?_⟩
              · have e : (qf : Int) - 1 = (q0 : Int) := by omega
                rw [← HQ0.out, e]
                rfl
              · have hm := Nat.div_add_mod (val uw) (val v)
                rw [← HQ0.out, Nat.mul_comm] at hm
                omega
        · have HT1 := Lib.hid t1
          have HT3 := Lib.hid t3
          clear t1 t3
          go_wp2_with fail
          go_ret
          have hqq : qf = q0 := by
            have h1 := HT1.out
            have h2 := HF.out.q0hi
            have h3 : qf * val v < (q0 + 1) * val v := Nat.lt_of_le_of_lt h1 h2
            have h4 := Nat.lt_of_mul_lt_mul_right h3
            have := HGL.out
            omega
          have hm := Nat.div_add_mod (val uw) (val v)
          rw [← HQ0.out, Nat.mul_comm] at hm
          have ht3 := HT3.out
          rw [hqq] at ht3
          refine ⟨uw', l1, l2, l3, HO2.out.trans l4, ?_, by omega⟩
          rw [← HQ0.out, hqq]
          unfold wd
          congr 2
      · have hrb := Int.not_le.1 hrb
        have hrd : decide ((4294967296 : Int) ≤ (r : Int) + v1) = false := by rw [decide_eq_false_iff_not]; omega
        go_wp2_with fail
        go_quiet (fail)
        go_wp2_with fail
        refine ⟨⟨q - 1, r + v1, _, by congr 1; omega, by congr 1, rfl, by omega, by omega, ?_, by have := HLOW.out; omega⟩, by simp only [intOf]; omega⟩
        have := HI.out.1
        obtain ⟨q', rfl⟩ : ∃ q', q = q' + 1 := ⟨q - 1, by omega⟩
        rw [Nat.add_mul] at this
        rw [Nat.add_sub_cancel]
        omega
    · have hqw := Int.not_le.1 hqw
      have hqd : decide ((4294967296 : Int) ≤ (q : Int)) = false := by rw [decide_eq_false_iff_not]; omega
      obtain ⟨qv, hqv⟩ : ∃ qv, qv = q * v2 := ⟨_, rfl⟩
      have hqv3 : (q : Int) * (v2 : Int) = (qv : Int) := by rw [hqv]; push_cast; rfl
      have hqvl : qv < 18446744073709551616 := by
        rw [hqv]
        have := Nat.mul_le_mul (show q ≤ 4294967295 by omega) (show v2 ≤ 4294967295 by omega)
        omega
      have HQV := Lib.hid hqv
      clear hqv
      by_cases hgt : (ru : Int) < qv
      · have hlow := HF.out.low HI.out.1 (.inr (by rw [← HQV.out]; have := HRU.out; unfold W; omega))
        have hq1 : 1 ≤ (q : Int) := by omega
        have HLOW := Lib.hid hlow
        clear hlow
        by_cases hrb : 4294967296 ≤ (r : Int) + v1
        · go_wp2_with fail
          go_quiet (fail)
          go_wp2_with fail
          obtain ⟨qf, hqf⟩ : ∃ qf, q = qf + 1 := ⟨q - 1, by omega⟩
          have hqe : (q : Int) - 1 = (qf : Int) := by omega
          have HG : Hid (qf < W ∧ qf ≤ q0 + 1) := by
            refine HF.out.near (q := qf) (r := r + v1) ?_ (.inr (by unfold W; omega))
            have := HI.out.1
            rw [hqf, Nat.add_mul] at this
            omega
          have HGL : Hid (q0 ≤ qf) := by have := HLOW.out; show _ ≤ _; omega
          rw [hqe]
          generalize hW2 : w.drewN _ = w2
          have HO2 : Hid (Only (· = gu) w w2) := by rw [← hW2]; exact (Only.refl _ w).drewN _
          have HU2 : Hid (Blk w2 gu 106 ((pre ++ uw ++ post).map wd)) := by rw [← hW2]; exact HU.out
          have HV2 : Hid (Blk w2 gv 106 ((v ++ vt).map wd)) := by rw [← hW2]; exact HV.out
          have hqfw : qf < 4294967296 := HG.out.1
          have ht := take_any gu gv cap capv qf pre uw post v vt w2 hne HU2.out HV2.out (by rw [HLV.out]; exact HL.out) HUW.out HVW.out hqfw (by rw [HLV.out]; push_cast; exact hlen) hp (by rw [HLV.out]; exact hcap) (by rw [HLV.out]; exact hcapv)
          rw [HLV.out] at ht
          refine ht.mono ?_
          clear ht hW2 hor2 hrul hqf
          rintro e w3 ⟨uw', l1, l2, l3, l4, ⟨t1, rfl, t3⟩ | ⟨t1, rfl, t3⟩⟩
          · have hqq : qf = q0 + 1 := by
              have h2 := HF.out.q0lo
              have h3 : q0 * val v < qf * val v := Nat.lt_of_le_of_lt h2 t1
              have h4 := Nat.lt_of_mul_lt_mul_right h3
              have := HG.out.2
              omega
            have hq1 : 1 ≤ (qf : Int) := by omega
            have HQQ := Lib.hid hqq
            have HT3 := Lib.hid t3
            have HL1 := Lib.hid l1
            have HL2 := Lib.hid l2
            have HL3 := Lib.hid l3
            have HL4 := Lib.hid (HO2.out.trans l4)
            have HV3 := Lib.hid (HV2.out.only l4 hne)
            clear t1 t3 hqq l1 l2 l3 l4
            go_wp2_with fail
            go_loopw [9, 85] (fun cv iv wr => ∃ (k c : Nat) (o : List Nat), k ≤ j + 2 ∧ iv = .int .i64 k ∧ cv = .int .u64 (c : Int) ∧ (c : Int) ≤ 1 ∧ Hid (AddInv uw' v k c o) ∧ Hid (Blk wr gu 106 ((win pre o uw' post).map wd)) ∧ Hid (Only (· = gu) w wr)) (fun _ iv _ => j + 2 - (intOf iv).toNat)
            case atStart => exact ⟨0, 0, [], Nat.zero_le _, rfl, rfl, by decide, ⟨rfl, words_nil, by simp [val]⟩, by have := HL3.out; rw [win_nil]; exact this, HL4.out⟩
            case round =>
              obtain ⟨k, c, o, hk, rfl, rfl, hc, HA, HB, HO⟩ := hrel
              obtain ⟨x, hx⟩ : ∃ x, x = uw'.getD k 0 := ⟨_, rfl⟩
              have hxw : x < 4294967296 := by rw [hx]; exact words_get HL2.out _
              have hcu : wr.cell? ⟨gu, pre.length + k, none⟩ = some (.int .u32 (x : Int)) := by
                have h1 := HA.out.1
                have hl := HL1.out
                have hl2 := HL.out
                rw [row_cell HB.out (by rw [win_length (by omega)]; omega), ← h1, win_get (by omega), h1, hx]
              have hfr := HB.out.frozen (pre.length + k)
              have HX := Lib.hid hx
              clear hx
              by_cases hkl : k < j + 2
              · obtain ⟨y, hy⟩ : ∃ y, y = v.getD k 0 := ⟨_, rfl⟩
                have hyw : y < 4294967296 := by rw [hy]; exact words_get HVW.out _
                have hcv : wr.cell? ⟨gv, k, none⟩ = some (.int .u32 (y : Int)) := by
                  have hl2 := HLV.out
                  rw [row_cell (HV.out.only HO.out hne) (by simp; omega), hy]
                  simp [List.getD_eq_getElem?_getD, List.getElem?_append_left (show k < v.length by omega)]
                have HY := Lib.hid hy
                have hkl' : (k : Int) < (j : Int) + 2 := by omega
                clear hy
                go_wp2_with fail
                refine ⟨⟨k + 1, (c + x + y) / W, o ++ [(c + x + y) % W], by omega, rfl, u64_div (by omega), by unfold W; omega, HA.out.step HX.out.symm HY.out.symm, ?_, HO.out.setCell (p := ⟨gu, pre.length + k, none⟩) (fun _ => rfl) _⟩, by simp only [intOf]; omega⟩
                have h1 := HA.out.1
                have hl := HL1.out
                have hl2 := HL.out
                have := row_set (k := pre.length + k) HB.out (v := .int .u32 (((c : Int) + (x + y)) % 4294967296)) (wd_mod (a := c + x + y) (by omega))
                rw [← h1, win_set (by omega)] at this
                rw [← h1]
                exact this
              · obtain rfl : k = j + 2 := by omega
                go_wp2_with fail
                have h1 := HA.out.1
                have hl := HL1.out
                have hl2 := HL.out
                have hl3 := HLV.out
                have hAv := HA.out.2.2
                have hqq := HQQ.out
                have hT3 := HT3.out
                have hq0l := HF.out.q0lo
                have hq0h := HF.out.q0hi
                have hvl := val_lt HVW.out
                rw [List.take_of_length_le (Nat.le_of_eq hl3), ← hl3] at hAv
                rw [hqq, Nat.add_mul, Nat.one_mul] at hT3
                rw [Nat.add_mul, Nat.one_mul] at hq0h
                have hlv : v.length + 1 = uw'.length := by omega
                have hbk := back_end hlv.symm (h1.trans hl3.symm) hAv HA.out.2.1 HL2.out (by omega) (by rw [hl]; omega) (by rw [hl]; omega)
                rw [hl3, ← HX.out, hl] at hbk
                have hfl : (o ++ [(x + c) % W]).length = uw'.length := by rw [List.length_append, h1, ← hlv, hl3]; rfl
                have hB := row_set (k := pre.length + (j + 2)) HB.out (v := .int .u32 (((x : Int) + c) % 4294967296)) (wd_mod (a := x + c) (by omega))
                rw [← h1, win_set (by omega), win_full hfl, h1] at hB
                go_ret
                refine ⟨o ++ [(x + c) % W], hfl.trans hl, words_append.2 ⟨HA.out.2.1, words_cons.2 ⟨Nat.mod_lt _ W_pos, words_nil⟩⟩, hB, HO.out.setCell (p := ⟨gu, pre.length + (j + 2), none⟩) (fun _ => rfl) _, ?_, ?_⟩
                · have e : (qf : Int) - 1 = (q0 : Int) := by omega
                  rw [← HQ0.out, e]
                  rfl
                · have hm := Nat.div_add_mod (val uw) (val v)
                  rw [← HQ0.out, Nat.mul_comm] at hm
                  omega
          · have HT1 := Lib.hid t1
            have HT3 := Lib.hid t3
            clear t1 t3
            go_wp2_with fail
            go_ret
            have hqq : qf = q0 := by
              have h1 := HT1.out
              have h2 := HF.out.q0hi
              have h3 : qf * val v < (q0 + 1) * val v := Nat.lt_of_le_of_lt h1 h2
              have h4 := Nat.lt_of_mul_lt_mul_right h3
              have := HGL.out
              omega
            have hm := Nat.div_add_mod (val uw) (val v)
            rw [← HQ0.out, Nat.mul_comm] at hm
            have ht3 := HT3.out
            rw [hqq] at ht3
            refine ⟨uw', l1, l2, l3, HO2.out.trans l4, ?_, by omega⟩
            rw [← HQ0.out, hqq]
            unfold wd
            congr 2
        · have hrb := Int.not_le.1 hrb
          have hrd : decide ((4294967296 : Int) ≤ (r : Int) + v1) = false := by rw [decide_eq_false_iff_not]; omega
          go_wp2_with fail
          go_quiet (fail)
          go_wp2_with fail
          refine ⟨⟨q - 1, r + v1, _, by congr 1; omega, by congr 1, rfl, by omega, by omega, ?_, by have := HLOW.out; omega⟩, by simp only [intOf]; omega⟩
          have := HI.out.1
          obtain ⟨q', rfl⟩ : ∃ q', q = q' + 1 := ⟨q - 1, by omega⟩
          rw [Nat.add_mul] at this
          rw [Nat.add_sub_cancel]
          omega
      · have hgt := Int.not_lt.1 hgt
        have hgd : decide (ru < qv) = false := by rw [decide_eq_false_iff_not]; omega
        go_wp2_with fail
        go_quiet (fail)
        go_wp2_with fail
        obtain ⟨qf, hqf⟩ : ∃ qf, q = qf := ⟨q, rfl⟩
        rw [hqf]
        have HG : Hid (qf < W ∧ qf ≤ q0 + 1) := by
          refine HF.out.near (q := qf) (r := r) (hqf ▸ HI.out.1) (.inl ⟨by unfold W; omega, ?_⟩)
          rw [← hqf, ← HQV.out]
          have := HRU.out
          unfold W
          omega
        have HGL : Hid (q0 ≤ qf) := hqf ▸ HI.out.2
        generalize hW2 : w.drewN _ = w2
        have HO2 : Hid (Only (· = gu) w w2) := by rw [← hW2]; exact (Only.refl _ w).drewN _
        have HU2 : Hid (Blk w2 gu 106 ((pre ++ uw ++ post).map wd)) := by rw [← hW2]; exact HU.out
        have HV2 : Hid (Blk w2 gv 106 ((v ++ vt).map wd)) := by rw [← hW2]; exact HV.out
        have hqfw : qf < 4294967296 := HG.out.1
        have ht := take_any gu gv cap capv qf pre uw post v vt w2 hne HU2.out HV2.out (by rw [HLV.out]; exact HL.out) HUW.out HVW.out hqfw (by rw [HLV.out]; push_cast; exact hlen) hp (by rw [HLV.out]; exact hcap) (by rw [HLV.out]; exact hcapv)
        rw [HLV.out] at ht
        refine ht.mono ?_
        clear ht hW2 hor2 hrul hqf
        rintro e w3 ⟨uw', l1, l2, l3, l4, ⟨t1, rfl, t3⟩ | ⟨t1, rfl, t3⟩⟩
        · have hqq : qf = q0 + 1 := by
            have h2 := HF.out.q0lo
            have h3 : q0 * val v < qf * val v := Nat.lt_of_le_of_lt h2 t1
            have h4 := Nat.lt_of_mul_lt_mul_right h3
            have := HG.out.2
            omega
          have hq1 : 1 ≤ (qf : Int) := by omega
          have HQQ := Lib.hid hqq
          have HT3 := Lib.hid t3
          have HL1 := Lib.hid l1
          have HL2 := Lib.hid l2
          have HL3 := Lib.hid l3
          have HL4 := Lib.hid (HO2.out.trans l4)
          have HV3 := Lib.hid (HV2.out.only l4 hne)
          clear t1 t3 hqq l1 l2 l3 l4
          go_wp2_with fail
          go_loopw [9, 85] (fun cv iv wr => ∃ (k c : Nat) (o : List Nat), k ≤ j + 2 ∧ iv = .int .i64 k ∧ cv = .int .u64 (c : Int) ∧ (c : Int) ≤ 1 ∧ Hid (AddInv uw' v k c o) ∧ Hid (Blk wr gu 106 ((win pre o uw' post).map wd)) ∧ Hid (Only (· = gu) w wr)) (fun _ iv _ => j + 2 - (intOf iv).toNat)
          case atStart => exact ⟨0, 0, [], Nat.zero_le _, rfl, rfl, by decide, ⟨rfl, words_nil, by simp [val]⟩, by have := HL3.out; rw [win_nil]; exact this, HL4.out⟩
          case round =>
            obtain ⟨k, c, o, hk, rfl, rfl, hc, HA, HB, HO⟩ := hrel
            obtain ⟨x, hx⟩ : ∃ x, x = uw'.getD k 0 := ⟨_, rfl⟩
            have hxw : x < 4294967296 := by rw [hx]; exact words_get HL2.out _
            have hcu : wr.cell? ⟨gu, pre.length + k, none⟩ = some (.int .u32 (x : Int)) := by
              have h1 := HA.out.1
              have hl := HL1.out
              have hl2 := HL.out
              rw [row_cell HB.out (by rw [win_length (by omega)]; omega), ← h1, win_get (by omega), h1, hx]
            have hfr := HB.out.frozen (pre.length + k)
            have HX := Lib.hid hx
            clear hx
            by_cases hkl : k < j + 2
            · obtain ⟨y, hy⟩ : ∃ y, y = v.getD k 0 := ⟨_, rfl⟩
              have hyw : y < 4294967296 := by rw [hy]; exact words_get HVW.out _
              have hcv : wr.cell? ⟨gv, k, none⟩ = some (.int .u32 (y : Int)) := by
                have hl2 := HLV.out
                rw [row_cell (HV.out.only HO.out hne) (by simp; omega), hy]
                simp [List.getD_eq_getElem?_getD, List.getElem?_append_left (show k < v.length by omega)]
              have HY := Lib.hid hy
              have hkl' : (k : Int) < (j : Int) + 2 := by omega
              clear hy
              go_wp2_with fail
              refine ⟨⟨k + 1, (c + x + y) / W, o ++ [(c + x + y) % W], by omega, rfl, u64_div (by omega), by unfold W; omega, HA.out.step HX.out.symm HY.out.symm, ?_, HO.out.setCell (p := ⟨gu, pre.length + k, none⟩) (fun _ => rfl) _⟩, by simp only [intOf]; omega⟩
              have h1 := HA.out.1
              have hl := HL1.out
              have hl2 := HL.out
              have := row_set (k := pre.length + k) HB.out (v := .int .u32 (((c : Int) + (x + y)) % 4294967296)) (wd_mod (a := c + x + y) (by omega))
              rw [← h1, win_set (by omega)] at this
              rw [← h1]
              exact this
            · obtain rfl : k = j + 2 := by omega
              go_wp2_with fail
              have h1 := HA.out.1
              have hl := HL1.out
              have hl2 := HL.out
              have hl3 := HLV.out
              have hAv := HA.out.2.2
              have hqq := HQQ.out
              have hT3 := HT3.out
              have hq0l := HF.out.q0lo
              have hq0h := HF.out.q0hi
              have hvl := val_lt HVW.out
              rw [List.take_of_length_le (Nat.le_of_eq hl3), ← hl3] at hAv
              rw [hqq, Nat.add_mul, Nat.one_mul] at hT3
              rw [Nat.add_mul, Nat.one_mul] at hq0h
              have hlv : v.length + 1 = uw'.length := by omega
              have hbk := back_end hlv.symm (h1.trans hl3.symm) hAv HA.out.2.1 HL2.out (by omega) (by rw [hl]; omega) (by rw [hl]; omega)
              rw [hl3, ← HX.out, hl] at hbk
              have hfl : (o ++ [(x + c) % W]).length = uw'.length := by rw [List.length_append, h1, ← hlv, hl3]; rfl
              have hB := row_set (k := pre.length + (j + 2)) HB.out (v := .int .u32 (((x : Int) + c) % 4294967296)) (wd_mod (a := x + c) (by omega))
              rw [← h1, win_set (by omega), win_full hfl, h1] at hB
              go_ret
              refine ⟨o ++ [(x + c) % W], hfl.trans hl, words_append.2 ⟨HA.out.2.1, words_cons.2 ⟨Nat.mod_lt _ W_pos, words_nil⟩⟩, hB, HO.out.setCell (p := ⟨gu, pre.length + (j + 2), none⟩) (fun _ => rfl) _, ?_, ?_⟩
              · have e : (qf : Int) - 1 = (q0 : Int) := by omega
                rw [← HQ0.out, e]
                rfl
              · have hm := Nat.div_add_mod (val uw) (val v)
                rw [← HQ0.out, Nat.mul_comm] at hm
                omega
        · have HT1 := Lib.hid t1
          have HT3 := Lib.hid t3
          clear t1 t3
          go_wp2_with fail
          go_ret
          have hqq : qf = q0 := by
            have h1 := HT1.out
            have h2 := HF.out.q0hi
            have h3 : qf * val v < (q0 + 1) * val v := Nat.lt_of_le_of_lt h1 h2
            have h4 := Nat.lt_of_mul_lt_mul_right h3
            have := HGL.out
            omega
          have hm := Nat.div_add_mod (val uw) (val v)
          rw [← HQ0.out, Nat.mul_comm] at hm
          have ht3 := HT3.out
          rw [hqq] at ht3
          refine ⟨uw', l1, l2, l3, HO2.out.trans l4, ?_, by omega⟩
          rw [← HQ0.out, hqq]
          unfold wd
          congr 2

end Go.Proofs.YthefednendgclaaGreat
