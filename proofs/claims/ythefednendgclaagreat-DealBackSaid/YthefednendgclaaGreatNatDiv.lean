/-
  The numbers' own functions: Div.
-/
import Derived.Test.YthefednendgclaaGreatNatSmall
import Derived.Test.YthefednendgclaaGreatDivP
import Derived.Deep.RegionHeld3
set_option linter.unusedVariables false
set_option linter.unusedSimpArgs false
namespace Go.Proofs.YthefednendgclaaGreat
open Go Go.RowKit Sac

/-- What Div hands back: the quotient, the rest, and the error. -/
def DivPost (n m : Nat) (w : World) (e : Ending) (w' : World) : Prop := ∃ ra rl rc sa sl sc, e = .returned (.tuple #[.agg #[.slice ra rl rc], .agg #[.slice sa sl sc], .int .i64 (if m = 0 then 5 else 0)]) ∧
  NatAt w' ra rl (n / m) ∧ NatAt w' sa sl (if m = 0 then 0 else n % m) ∧ Below w.heap.size w w'

/-- w' is w, and maybe more. -/
def BB (w w' : World) : Prop := Below w.heap.size w w'
theorem BB.refl (w : World) : BB w w := Below.refl _ w
theorem BB.drew {w w' : World} (h : BB w w') : BB w w'.drew := Below.trans h ⟨rfl, rfl, rfl, Nat.le_refl _, fun _ _ => rfl⟩
theorem BB.alloc {w w' : World} (h : BB w w') {o : Obj} : BB w (w'.alloc o) := Below.alloc h h.size o
theorem BB.setCell {w w' : World} (h : BB w w') {p : Addr} (hp : w.heap.size ≤ p.block) {v : Value} : BB w (w'.setCell p v) := Below.setCell h hp v
theorem BB.only {w w' w'' : World} {g : Nat} (h : BB w w') (k : Only (· = g) w' w'') (hg : w.heap.size ≤ g) : BB w w'' := Below.trans h (k.toBelow h.size (fun i hi => by omega))
theorem BB.step {w w' w'' : World} (h : BB w w') (k : Below w'.heap.size w' w'') : BB w w'' := Below.trans h (k.mono h.size)
theorem BB.cell {w w' : World} {p : Addr} (h : BB w w') (hp : p.block < w.heap.size) : w'.cell? p = w.cell? p := Below.cell h hp
theorem BB.cells {w w' : World} (h : Below w.heap.size w w') : ∀ p : Addr, p.block < w.heap.size → w'.cell? p = w.cell? p := fun _ hp => h.cell hp
theorem BB.frozens {w w' : World} (h : Below w.heap.size w w') : ∀ p : Addr, p.block < w.heap.size → w'.frozen? p = w.frozen? p := fun _ hp => World.frozen?_of_block (h.block _ hp)

/-- A new box abides. -/
theorem k_one {w w4 : World} {v : Value} {e : TypeId} (h : Below (w.alloc (Obj.cells #[v] e)).drew.heap.size (w.alloc (Obj.cells #[v] e)).drew w4) : Blk w4 w.heap.size e [v] ∧ (w4.cell? ⟨w.heap.size, 0, none⟩ = some v ∧ w4.frozen? ⟨w.heap.size, 0, none⟩ = false) ∧
    ((∀ o, (w4.alloc o).cell? ⟨w.heap.size, 0, none⟩ = some v) ∧ (∀ o, (w4.alloc o).frozen? ⟨w.heap.size, 0, none⟩ = false)) := by
  have h1 : Blk w4 w.heap.size e [v] := ((Blk.new w [v] e).drew).below h (by show _ < (w.alloc _).heap.size; simp)
  exact ⟨h1, ⟨h1.cell 0, h1.frozen 0⟩, fun o => (h1.alloc o).cell 0, fun o => (h1.alloc o).frozen 0⟩
theorem k_two {w w4 : World} {v v' : Value} {e e' : TypeId} (h : Below ((w.alloc (Obj.cells #[v] e)).alloc (Obj.cells #[v'] e')).drew.heap.size ((w.alloc (Obj.cells #[v] e)).alloc (Obj.cells #[v'] e')).drew w4) :
    Blk w4 w.heap.size e [v] ∧ Blk w4 (w.heap.size + 1) e' [v'] ∧ w4.cell? ⟨w.heap.size, 0, none⟩ = some v ∧ w4.frozen? ⟨w.heap.size, 0, none⟩ = false ∧ w4.cell? ⟨w.heap.size + 1, 0, none⟩ = some v' ∧ w4.frozen? ⟨w.heap.size + 1, 0, none⟩ = false := by
  have h1 : Blk w4 w.heap.size e [v] := (((Blk.new w [v] e).alloc _).drew).below h (by show _ < ((w.alloc _).alloc _).heap.size; simp; omega)
  have h2 : Blk w4 (w.heap.size + 1) e' [v'] := ((Blk.new' (w.alloc (Obj.cells #[v] e)) [v'] e' (w.heap.size + 1) (by simp)).drew).below h (by show _ < ((w.alloc _).alloc _).heap.size; simp)
  exact ⟨h1, h2, h1.cell 0, h1.frozen 0, h2.cell 0, h2.frozen 0⟩
theorem k_none {w w4 : World} (h : Below w.drew.heap.size w.drew w4) : w.heap.size ≤ w4.heap.size := h.size

/-- What is known of the four boxes. -/
structure BX4 (w wr : World) (s : Nat) (A B R S : Value) : Prop where
  bel : Below s w wr
  a : Blk wr s 36 [A]
  b : Blk wr (s + 1) 36 [B]
  r : Blk wr (s + 1 + 1) 36 [R]
  s : Blk wr (s + 1 + 1 + 1) 36 [S]
theorem BX4.make (w : World) (A B R S : Value) : BX4 w ((((w.alloc (Obj.cells #[A] 36)).alloc (Obj.cells #[B] 36)).alloc (Obj.cells #[R] 36)).alloc (Obj.cells #[S] 36)) w.heap.size A B R S :=
  ⟨((((Below.refl _ w).alloc (Nat.le_refl _) _).alloc (by simp) _).alloc (by simp; omega) _).alloc (by simp; omega) _,
    (((Blk.new w [A] 36).alloc _).alloc _).alloc _,
    ((Blk.new' (w.alloc (Obj.cells #[A] 36)) [B] 36 (w.heap.size + 1) (by simp)).alloc _).alloc _,
    (Blk.new' ((w.alloc (Obj.cells #[A] 36)).alloc (Obj.cells #[B] 36)) [R] 36 (w.heap.size + 1 + 1) (by simp)).alloc _,
    Blk.new' (((w.alloc (Obj.cells #[A] 36)).alloc (Obj.cells #[B] 36)).alloc (Obj.cells #[R] 36)) [S] 36 (w.heap.size + 1 + 1 + 1) (by simp)⟩
theorem BX4.below {w wr w' : World} {s : Nat} {A B R S : Value} (h : BX4 w wr s A B R S) (hb : Below wr.heap.size wr w') : BX4 w w' s A B R S :=
  ⟨h.bel.trans (hb.mono (Nat.le_of_lt h.a.lt)), h.a.below hb h.a.lt, h.b.below hb h.b.lt, h.r.below hb h.r.lt, h.s.below hb h.s.lt⟩
theorem BX4.only {w wr w' : World} {s g : Nat} {A B R S : Value} (h : BX4 w wr s A B R S) (hb : Only (· = g) wr w') (hg : s + 1 + 1 + 1 < g) : BX4 w w' s A B R S :=
  ⟨h.bel.trans (hb.toBelow (Nat.le_of_lt h.a.lt) (fun k hk => by omega)), h.a.only hb (by omega), h.b.only hb (by omega), h.r.only hb (by omega), h.s.only hb (by omega)⟩
theorem BX4.drew {w wr : World} {s : Nat} {A B R S : Value} (h : BX4 w wr s A B R S) : BX4 w wr.drew s A B R S := ⟨⟨h.bel.os, h.bel.tape, h.bel.output, h.bel.size, h.bel.block⟩, h.a, h.b, h.r, h.s⟩
theorem BX4.drewN {w wr : World} {s : Nat} {A B R S : Value} (h : BX4 w wr s A B R S) (n : Nat) : BX4 w (wr.drewN n) s A B R S := ⟨⟨h.bel.os, h.bel.tape, h.bel.output, h.bel.size, h.bel.block⟩, h.a, h.b, h.r, h.s⟩
theorem NatAt.nil (w : World) : NatAt w none 0 0 := ⟨[], rfl, words_nil, tight_nil, rfl, Rd.nil _ _ _⟩
/-- Two results are stored. -/
theorem BX4.fin {w wr : World} {s n m : Nat} {A B : Value} {fn : Func} {p t u : Tmp} {tmps : Array Value} {ra sa : Option Addr} {rl rc sl sc : Nat} {v : Value} (h : BX4 w wr s A B (.slice none 0 0) (.slice none 0 0)) (hs : s = w.heap.size)
    (hf : fn.results = #[.cell p 36, .cell t 36, .tmp u]) (hp : tmps.getD p undef = .pointer (some ⟨s + 1 + 1, 0, none⟩)) (ht : tmps.getD t undef = .pointer (some ⟨s + 1 + 1 + 1, 0, none⟩)) (hu : tmps.getD u undef = v) (hv : v = .int .i64 (if m = 0 then 5 else 0))
    (h1 : NatAt wr ra rl (n / m)) (h2 : NatAt wr sa sl (if m = 0 then 0 else n % m)) :
    bodyPost Tryz.prog fn (DivPost n m w) .ret { tmps, defers := [] } ((wr.setCell ⟨s + 1 + 1, 0, none⟩ (.slice ra rl rc)).setCell ⟨s + 1 + 1 + 1, 0, none⟩ (.slice sa sl sc)) := by
  have q2 := (h.r.set 0 (Value.slice ra rl rc)).other ⟨s + 1 + 1 + 1, 0, none⟩ (Value.slice sa sl sc) (by show s + 1 + 1 ≠ s + 1 + 1 + 1; omega)
  have q3 := (h.s.other ⟨s + 1 + 1, 0, none⟩ (Value.slice ra rl rc) (by show s + 1 + 1 + 1 ≠ s + 1 + 1; omega))
  have n1 := (h1.setCell h.r (by decide) 0 (Value.slice ra rl rc)).setCell q3 (by decide) 0 (Value.slice sa sl sc)
  have n2 := (h2.setCell h.r (by decide) 0 (Value.slice ra rl rc)).setCell q3 (by decide) 0 (Value.slice sa sl sc)
  refine ret_nat_nat_tmp hf hp ht hu q2 (q3.set 0 _) ⟨ra, rl, rc, sa, sl, sc, by rw [hv], n1, n2, ?_⟩
  rw [← hs]
  exact (h.bel.setCell (p := ⟨s + 1 + 1, 0, none⟩) (by show s ≤ s + 1 + 1; omega) _).setCell (p := ⟨s + 1 + 1 + 1, 0, none⟩) (by show s ≤ s + 1 + 1 + 1; omega) _

theorem NatAt.drew {w : World} {a : Option Addr} {len n : Nat} (h : NatAt w a len n) : NatAt w.drew a len n := h

def ShPost (nn len n : Nat) (w : World) (e : Ending) (w' : World) : Prop := ∃ g o, e = .returned (.slice (some ⟨g, 0, none⟩) (len + 1) (len + 1)) ∧ w.heap.size ≤ g ∧ Blk w' g 106 (o.map wd) ∧
      o.length = len + 1 ∧ Words o ∧ val o = 2 ^ nn * n ∧ Below w.heap.size w w'

set_option maxRecDepth 100000 in
set_option maxHeartbeats 4000000 in
theorem div_any (a b : Option Addr) (len cap lenb capb n m : Nat) (w : World) (hn : NatAt w a len n) (hm : NatAt w b lenb m) (hlen : (len : Int) ≤ 10000) (hlenb : (lenb : Int) ≤ 10000) :
    Calls Tryz.prog 67 #[.agg #[.slice a len cap], .agg #[.slice b lenb capb]] w (DivPost n m w) := by
  have HN := Lib.hid hn
  have HM := Lib.hid hm
  have hz := hm.zero_iff
  clear hn hm
  go_enter Tryz.func67, Tryz.ntmps67
  go_wp2_with fail
  have hbx := BX4.make w (.slice a len cap) (.slice b lenb capb) (.slice none 0 0) (.slice none 0 0)
  generalize ((((w.alloc (Obj.cells #[Value.slice a len cap] 36)).alloc (Obj.cells #[Value.slice b lenb capb] 36)).alloc (Obj.cells #[Value.slice none 0 0] 36)).alloc (Obj.cells #[Value.slice none 0 0] 36)) = w1 at hbx ⊢
  obtain ⟨s, hs⟩ : ∃ s, s = w.heap.size := ⟨_, rfl⟩
  rw [← hs] at hbx ⊢
  have HS := Lib.hid hs
  have HX1 := Lib.hid hbx
  have HN1 := Lib.hid (HN.out.below (hs ▸ hbx.bel))
  have HM1 := Lib.hid (HM.out.below (hs ▸ hbx.bel))
  clear hbx hs
  refine (zero_any b lenb capb m w1 HM1.out).mono ?_
  rintro e w2 ⟨rfl, hb2⟩
  have HX2 := Lib.hid (HX1.out.below hb2)
  have HN2 := Lib.hid (HN1.out.below hb2)
  have HM2 := Lib.hid (HM1.out.below hb2)
  clear hb2
  have ca := HX2.out.a.cell 0
  have cb := HX2.out.b.cell 0
  have cr := HX2.out.r.cell 0
  have cs := HX2.out.s.cell 0
  have fr := HX2.out.r.frozen 0
  have fs := HX2.out.s.frozen 0
  simp only [List.getElem?_cons_zero] at ca cb cr cs
  by_cases hm0 : m = 0
  · subst hm0
    go_wp2_with fail
    exact HX2.out.fin HS.out rfl rfl rfl rfl (by simp) (by rw [Nat.div_zero]; exact NatAt.nil _) (by simpa using NatAt.nil w2)
  · have hm0b : (m == 0) = false := by rw [beq_eq_false_iff_ne]; exact hm0
    have hlb : 0 < lenb := by omega
    clear hz
    go_wp2_with fail
    refine (cmp_any a b len cap lenb capb n m _ HN2.out HM2.out (by omega) (by omega)).mono ?_
    rintro e w3 ⟨rfl, hb3⟩
    have HX3 := Lib.hid (HX2.out.below hb3)
    have HN3 := Lib.hid (HN2.out.below hb3)
    have HM3 := Lib.hid (HM2.out.below hb3)
    clear hb3 ca cb cr cs fr fs
    have ca := HX3.out.a.cell 0
    have cb := HX3.out.b.cell 0
    have cr := HX3.out.r.cell 0
    have cs := HX3.out.s.cell 0
    have fr := HX3.out.r.frozen 0
    have fs := HX3.out.s.frozen 0
    simp only [List.getElem?_cons_zero] at ca cb cr cs
    by_cases hlt : n < m
    · have hc : cmpNat n m = -1 := by unfold cmpNat; rw [if_pos hlt]
      rw [hc]
      go_wp2_with fail
      go_region
      all_goals go_wp2_with fail
      all_goals exact HX3.out.drew.fin (p := 4) (t := 5) (u := 6) HS.out rfl rfl rfl rfl (by rw [if_neg hm0]; rfl) (by rw [Nat.div_eq_of_lt hlt]; exact NatAt.nil _) (by rw [if_neg hm0, Nat.mod_eq_of_lt hlt]; exact HN3.out.drew)
    · have hc : 0 ≤ cmpNat n m := by unfold cmpNat; rw [if_neg hlt]; split <;> decide
      obtain ⟨c, hc2⟩ : ∃ c, c = cmpNat n m := ⟨_, rfl⟩
      rw [← hc2] at hc ⊢
      clear hc2
      have hc' : ¬ c < 0 := by omega
      have hcd : decide (c < 0) = false := by rw [decide_eq_false_iff_not]; exact hc'
      by_cases hl1 : lenb = 1
      · subst hl1
        obtain ⟨lb, e1, e2, e3, e4, e5⟩ := HM3.out
        obtain ⟨ad, x, rfl, hlt2, hcell, hxw, hx⟩ := rd_word e5 e2 (k := 0) (by omega)
        have hmx : m = x := by
          rw [← e4, ← hx]
          match lb, e1 with
          | [y], _ => simp [val]
        have HMX := Lib.hid hmx
        have hadd : ad.add 0 = ad := by simp [Addr.add]
        rw [hadd] at hcell
        clear e1 e2 e3 e4 e5 hx hlt2 hadd
        go_wp2_with fail
        have G1 : ∀ w', BB w3 w' → w'.cell? ⟨s, 0, none⟩ = some (.slice a len cap) := fun w' h => (h.cell HX3.out.a.lt).trans ca
        have G2 : ∀ w', BB w3 w' → w'.cell? ⟨s + 1, 0, none⟩ = some (.slice (some ad) 1 capb) := fun w' h => (h.cell HX3.out.b.lt).trans cb
        have G3 : ∀ w', BB w3 w' → w'.cell? ad = some (.int .u32 (x : Int)) := fun w' h => (h.cell (block_lt_of_cell hcell)).trans hcell
        go_region_held3 (fun w' => BB w3 w') (repeat' (first | assumption | exact BB.refl _ | apply BB.drew | apply BB.alloc | (refine BB.setCell ?_ (by first | exact Nat.le_refl _ | (simp; done) | (simp; omega) | omega)) | (refine BB.step ?_ (by assumption))))
          (first
            | (go_at_call 105; refine (small_any a len cap n x w3.drew HN3.out.drew (by omega) (by omega) hxw).mono ?_; rintro e w4 ⟨ra, rl, rc, sa, sl, sc, rfl, hq, hr, hb4⟩; have HQ := Lib.hid hq; have HR := Lib.hid hr; have g4 : w3.heap.size ≤ w4.heap.size := hb4.size; have HX4 := Lib.hid (HX3.out.drew.below hb4); have hbb := hb4; clear hq hr)
            | (go_at_call 105; refine (small_any a len cap n x (w3.alloc (Obj.cells #[Value.slice none 0 0] 36)).drew (HN3.out.below ((Below.refl _ w3).alloc (Nat.le_refl _) _)).drew (by omega) (by omega) hxw).mono ?_; rintro e w4 ⟨ra, rl, rc, sa, sl, sc, rfl, hq, hr, hb4⟩; have HQ := Lib.hid hq; have HR := Lib.hid hr; obtain ⟨k1, ⟨k2, k3⟩, k4, k5⟩ := k_one (w := w3) (v := .slice none 0 0) (e := 36) hb4; have g4 : w3.heap.size ≤ w4.heap.size := Nat.le_of_lt k1.lt; have k6 := k1.lt; have k7 : w4.heap.size ≠ w3.heap.size := Nat.ne_of_gt k6; have k8 : w3.heap.size ≠ w4.heap.size := Nat.ne_of_lt k6; have HX4 := Lib.hid ((HX3.out.below ((Below.refl _ w3).alloc (Nat.le_refl _) _)).drew.below hb4); have hbb := hb4; clear hq hr)
            | (go_at_call 105; refine (small_any a len cap n x ((w3.alloc (Obj.cells #[Value.slice none 0 0] 36)).alloc (Obj.cells #[Value.slice none 0 0] 36)).drew (HN3.out.below (((Below.refl _ w3).alloc (Nat.le_refl _) _).alloc (by simp) _)).drew (by omega) (by omega) hxw).mono ?_; rintro e w4 ⟨ra, rl, rc, sa, sl, sc, rfl, hq, hr, hb4⟩; have HQ := Lib.hid hq; have HR := Lib.hid hr; obtain ⟨k1, k2, k3, k4, k5, k6⟩ := k_two (w := w3) (v := .slice none 0 0) (e := 36) (v' := .slice none 0 0) (e' := 36) hb4; have g4 : w3.heap.size ≤ w4.heap.size := Nat.le_of_lt k1.lt; have HX4 := Lib.hid ((HX3.out.below (((Below.refl _ w3).alloc (Nat.le_refl _) _).alloc (by simp) _)).drew.below hb4); have hbb := hb4; clear hq hr))
        all_goals go_wp2_with fail
        · obtain ⟨w5, h5⟩ : ∃ w5 : World, ((w4.alloc (Obj.cells #[Value.slice ra rl rc] 36)).alloc (Obj.cells #[Value.slice sa sl sc] 36)) = w5 := ⟨_, rfl⟩
          have b5 : BB w3 w5 := by
            rw [← h5]
            repeat' (first | assumption | exact BB.refl _ | apply BB.drew | apply BB.alloc | (refine BB.setCell ?_ (by first | exact Nat.le_refl _ | (simp; done) | (simp; omega) | omega)) | (refine BB.step ?_ (by assumption)))
          have qb : Blk w5 (w4.heap.size) 36 [.slice ra rl rc] := by rw [← h5]; exact (Blk.new w4 [Value.slice ra rl rc] 36).alloc _
          have rb : Blk w5 (w4.heap.size + 1) 36 [.slice sa sl sc] := by rw [← h5]; exact Blk.new' _ [Value.slice sa sl sc] 36 _ (by simp)
          have HN5 : Hid (NatAt w5 ra rl (n / x)) := by rw [← h5]; exact HQ.out.below (((Below.refl _ w4).alloc (Nat.le_refl _) _).alloc (by simp) _)
          have HR5 : Hid (NatAt w5 sa sl (n % x)) := by rw [← h5]; exact HR.out.below (((Below.refl _ w4).alloc (Nat.le_refl _) _).alloc (by simp) _)
          rw [h5]
          have g3 := HX3.out.s.lt
          have d1 : w4.heap.size ≠ s + 1 + 1 := by omega
          have d2 : s + 1 + 1 ≠ w4.heap.size := by omega
          have d3 : w4.heap.size ≠ s + 1 + 1 + 1 := by omega
          have d4 : s + 1 + 1 + 1 ≠ w4.heap.size := by omega
          have d5 : w4.heap.size + 1 ≠ s + 1 + 1 := by omega
          have d6 : s + 1 + 1 ≠ w4.heap.size + 1 := by omega
          have d7 : w4.heap.size + 1 ≠ s + 1 + 1 + 1 := by omega
          have d8 : s + 1 + 1 + 1 ≠ w4.heap.size + 1 := by omega
          have HX5 := Lib.hid (HX3.out.below b5)
          have cq5 := qb.cell 0
          have cr5 := rb.cell 0
          have c25 := HX5.out.r.cell 0
          have c35 := HX5.out.s.cell 0
          have f25 := HX5.out.r.frozen 0
          have f35 := HX5.out.s.frozen 0
          simp only [List.getElem?_cons_zero] at cq5 cr5 c25 c35
          clear qb rb h5 b5 ca cb cr cs fr fs G1 G2 G3
          go_region
          all_goals go_wp2_with fail
          all_goals exact HX5.out.drew.fin (p := 4) (t := 5) (u := 6) HS.out rfl rfl rfl rfl (by rw [if_neg hm0]; rfl) (by rw [HMX.out]; exact HN5.out.drew) (by rw [if_neg hm0, HMX.out]; exact HR5.out.drew)
        · obtain ⟨w5, h5⟩ : ∃ w5 : World, ((w4.alloc (Obj.cells #[Value.slice sa sl sc] 36)).alloc (Obj.cells #[Value.slice ra rl rc] 36)) = w5 := ⟨_, rfl⟩
          have b5 : BB w3 w5 := by
            rw [← h5]
            repeat' (first | assumption | exact BB.refl _ | apply BB.drew | apply BB.alloc | (refine BB.setCell ?_ (by first | exact Nat.le_refl _ | (simp; done) | (simp; omega) | omega)) | (refine BB.step ?_ (by assumption)))
          have qb : Blk w5 (w4.heap.size + 1) 36 [.slice ra rl rc] := by rw [← h5]; exact Blk.new' _ [Value.slice ra rl rc] 36 _ (by simp)
          have rb : Blk w5 (w4.heap.size) 36 [.slice sa sl sc] := by rw [← h5]; exact (Blk.new w4 [Value.slice sa sl sc] 36).alloc _
          have HN5 : Hid (NatAt w5 ra rl (n / x)) := by rw [← h5]; exact HQ.out.below (((Below.refl _ w4).alloc (Nat.le_refl _) _).alloc (by simp) _)
          have HR5 : Hid (NatAt w5 sa sl (n % x)) := by rw [← h5]; exact HR.out.below (((Below.refl _ w4).alloc (Nat.le_refl _) _).alloc (by simp) _)
          rw [h5]
          have g3 := HX3.out.s.lt
          have d1 : w4.heap.size + 1 ≠ s + 1 + 1 := by omega
          have d2 : s + 1 + 1 ≠ w4.heap.size + 1 := by omega
          have d3 : w4.heap.size + 1 ≠ s + 1 + 1 + 1 := by omega
          have d4 : s + 1 + 1 + 1 ≠ w4.heap.size + 1 := by omega
          have d5 : w4.heap.size ≠ s + 1 + 1 := by omega
          have d6 : s + 1 + 1 ≠ w4.heap.size := by omega
          have d7 : w4.heap.size ≠ s + 1 + 1 + 1 := by omega
          have d8 : s + 1 + 1 + 1 ≠ w4.heap.size := by omega
          have HX5 := Lib.hid (HX3.out.below b5)
          have cq5 := qb.cell 0
          have cr5 := rb.cell 0
          have c25 := HX5.out.r.cell 0
          have c35 := HX5.out.s.cell 0
          have f25 := HX5.out.r.frozen 0
          have f35 := HX5.out.s.frozen 0
          simp only [List.getElem?_cons_zero] at cq5 cr5 c25 c35
          clear qb rb h5 b5 ca cb cr cs fr fs G1 G2 G3
          go_region
          all_goals go_wp2_with fail
          all_goals exact HX5.out.drew.fin (p := 4) (t := 5) (u := 6) HS.out rfl rfl rfl rfl (by rw [if_neg hm0]; rfl) (by rw [HMX.out]; exact HN5.out.drew) (by rw [if_neg hm0, HMX.out]; exact HR5.out.drew)
        · obtain ⟨w5, h5⟩ : ∃ w5 : World, ((w4.setCell ⟨w3.heap.size, 0, none⟩ (Value.slice ra rl rc)).alloc (Obj.cells #[Value.slice sa sl sc] 36)) = w5 := ⟨_, rfl⟩
          have b5 : BB w3 w5 := by
            rw [← h5]
            repeat' (first | assumption | exact BB.refl _ | apply BB.drew | apply BB.alloc | (refine BB.setCell ?_ (by first | exact Nat.le_refl _ | (simp; done) | (simp; omega) | omega)) | (refine BB.step ?_ (by assumption)))
          have qb : Blk w5 (w3.heap.size) 36 [.slice ra rl rc] := by rw [← h5]; exact (k1.set 0 _).alloc _
          have rb : Blk w5 (w4.heap.size) 36 [.slice sa sl sc] := by rw [← h5]; exact Blk.new' _ [Value.slice sa sl sc] 36 _ (by simp [World.setCell])
          have HN5 : Hid (NatAt w5 ra rl (n / x)) := by rw [← h5]; exact (HQ.out.setCell k1 (by decide) 0 _).below ((Below.refl _ _).alloc (Nat.le_refl _) _)
          have HR5 : Hid (NatAt w5 sa sl (n % x)) := by rw [← h5]; exact (HR.out.setCell k1 (by decide) 0 _).below ((Below.refl _ _).alloc (Nat.le_refl _) _)
          rw [h5]
          have g3 := HX3.out.s.lt
          have d1 : w3.heap.size ≠ s + 1 + 1 := by omega
          have d2 : s + 1 + 1 ≠ w3.heap.size := by omega
          have d3 : w3.heap.size ≠ s + 1 + 1 + 1 := by omega
          have d4 : s + 1 + 1 + 1 ≠ w3.heap.size := by omega
          have d5 : w4.heap.size ≠ s + 1 + 1 := by omega
          have d6 : s + 1 + 1 ≠ w4.heap.size := by omega
          have d7 : w4.heap.size ≠ s + 1 + 1 + 1 := by omega
          have d8 : s + 1 + 1 + 1 ≠ w4.heap.size := by omega
          have HX5 := Lib.hid (HX3.out.below b5)
          have cq5 := qb.cell 0
          have cr5 := rb.cell 0
          have c25 := HX5.out.r.cell 0
          have c35 := HX5.out.s.cell 0
          have f25 := HX5.out.r.frozen 0
          have f35 := HX5.out.s.frozen 0
          simp only [List.getElem?_cons_zero] at cq5 cr5 c25 c35
          clear qb rb h5 b5 ca cb cr cs fr fs G1 G2 G3
          go_region
          all_goals go_wp2_with fail
          all_goals exact HX5.out.drew.fin (p := 4) (t := 5) (u := 6) HS.out rfl rfl rfl rfl (by rw [if_neg hm0]; rfl) (by rw [HMX.out]; exact HN5.out.drew) (by rw [if_neg hm0, HMX.out]; exact HR5.out.drew)
        · obtain ⟨w5, h5⟩ : ∃ w5 : World, ((w4.setCell ⟨w3.heap.size, 0, none⟩ (Value.slice ra rl rc)).setCell ⟨w3.heap.size + 1, 0, none⟩ (Value.slice sa sl sc)) = w5 := ⟨_, rfl⟩
          have b5 : BB w3 w5 := by
            rw [← h5]
            repeat' (first | assumption | exact BB.refl _ | apply BB.drew | apply BB.alloc | (refine BB.setCell ?_ (by first | exact Nat.le_refl _ | (simp; done) | (simp; omega) | omega)) | (refine BB.step ?_ (by assumption)))
          have qb : Blk w5 (w3.heap.size) 36 [.slice ra rl rc] := by rw [← h5]; exact (k1.set 0 _).other _ _ (by show w3.heap.size ≠ w3.heap.size + 1; omega)
          have rb : Blk w5 (w3.heap.size + 1) 36 [.slice sa sl sc] := by rw [← h5]; exact (k2.other ⟨w3.heap.size, 0, none⟩ _ (by show w3.heap.size + 1 ≠ w3.heap.size; omega)).set 0 _
          have HN5 : Hid (NatAt w5 ra rl (n / x)) := by rw [← h5]; exact (HQ.out.setCell k1 (by decide) 0 _).setCell (k2.other ⟨w3.heap.size, 0, none⟩ _ (by show w3.heap.size + 1 ≠ w3.heap.size; omega)) (by decide) 0 _
          have HR5 : Hid (NatAt w5 sa sl (n % x)) := by rw [← h5]; exact (HR.out.setCell k1 (by decide) 0 _).setCell (k2.other ⟨w3.heap.size, 0, none⟩ _ (by show w3.heap.size + 1 ≠ w3.heap.size; omega)) (by decide) 0 _
          rw [h5]
          have g3 := HX3.out.s.lt
          have d1 : w3.heap.size ≠ s + 1 + 1 := by omega
          have d2 : s + 1 + 1 ≠ w3.heap.size := by omega
          have d3 : w3.heap.size ≠ s + 1 + 1 + 1 := by omega
          have d4 : s + 1 + 1 + 1 ≠ w3.heap.size := by omega
          have d5 : w3.heap.size + 1 ≠ s + 1 + 1 := by omega
          have d6 : s + 1 + 1 ≠ w3.heap.size + 1 := by omega
          have d7 : w3.heap.size + 1 ≠ s + 1 + 1 + 1 := by omega
          have d8 : s + 1 + 1 + 1 ≠ w3.heap.size + 1 := by omega
          have HX5 := Lib.hid (HX3.out.below b5)
          have cq5 := qb.cell 0
          have cr5 := rb.cell 0
          have c25 := HX5.out.r.cell 0
          have c35 := HX5.out.s.cell 0
          have f25 := HX5.out.r.frozen 0
          have f35 := HX5.out.s.frozen 0
          simp only [List.getElem?_cons_zero] at cq5 cr5 c25 c35
          clear qb rb h5 b5 ca cb cr cs fr fs G1 G2 G3
          go_region
          all_goals go_wp2_with fail
          all_goals exact HX5.out.drew.fin (p := 4) (t := 5) (u := 6) HS.out rfl rfl rfl rfl (by rw [if_neg hm0]; rfl) (by rw [HMX.out]; exact HN5.out.drew) (by rw [if_neg hm0, HMX.out]; exact HR5.out.drew)
        · obtain ⟨w5, h5⟩ : ∃ w5 : World, ((w4.setCell ⟨w3.heap.size, 0, none⟩ (Value.slice sa sl sc)).alloc (Obj.cells #[Value.slice ra rl rc] 36)) = w5 := ⟨_, rfl⟩
          have b5 : BB w3 w5 := by
            rw [← h5]
            repeat' (first | assumption | exact BB.refl _ | apply BB.drew | apply BB.alloc | (refine BB.setCell ?_ (by first | exact Nat.le_refl _ | (simp; done) | (simp; omega) | omega)) | (refine BB.step ?_ (by assumption)))
          have qb : Blk w5 (w4.heap.size) 36 [.slice ra rl rc] := by rw [← h5]; exact Blk.new' _ [Value.slice ra rl rc] 36 _ (by simp [World.setCell])
          have rb : Blk w5 (w3.heap.size) 36 [.slice sa sl sc] := by rw [← h5]; exact (k1.set 0 _).alloc _
          have HN5 : Hid (NatAt w5 ra rl (n / x)) := by rw [← h5]; exact (HQ.out.setCell k1 (by decide) 0 _).below ((Below.refl _ _).alloc (Nat.le_refl _) _)
          have HR5 : Hid (NatAt w5 sa sl (n % x)) := by rw [← h5]; exact (HR.out.setCell k1 (by decide) 0 _).below ((Below.refl _ _).alloc (Nat.le_refl _) _)
          rw [h5]
          have g3 := HX3.out.s.lt
          have d1 : w4.heap.size ≠ s + 1 + 1 := by omega
          have d2 : s + 1 + 1 ≠ w4.heap.size := by omega
          have d3 : w4.heap.size ≠ s + 1 + 1 + 1 := by omega
          have d4 : s + 1 + 1 + 1 ≠ w4.heap.size := by omega
          have d5 : w3.heap.size ≠ s + 1 + 1 := by omega
          have d6 : s + 1 + 1 ≠ w3.heap.size := by omega
          have d7 : w3.heap.size ≠ s + 1 + 1 + 1 := by omega
          have d8 : s + 1 + 1 + 1 ≠ w3.heap.size := by omega
          have HX5 := Lib.hid (HX3.out.below b5)
          have cq5 := qb.cell 0
          have cr5 := rb.cell 0
          have c25 := HX5.out.r.cell 0
          have c35 := HX5.out.s.cell 0
          have f25 := HX5.out.r.frozen 0
          have f35 := HX5.out.s.frozen 0
          simp only [List.getElem?_cons_zero] at cq5 cr5 c25 c35
          clear qb rb h5 b5 ca cb cr cs fr fs G1 G2 G3
          go_region
          all_goals go_wp2_with fail
          all_goals exact HX5.out.drew.fin (p := 4) (t := 5) (u := 6) HS.out rfl rfl rfl rfl (by rw [if_neg hm0]; rfl) (by rw [HMX.out]; exact HN5.out.drew) (by rw [if_neg hm0, HMX.out]; exact HR5.out.drew)
        · obtain ⟨w5, h5⟩ : ∃ w5 : World, ((w4.setCell ⟨w3.heap.size + 1, 0, none⟩ (Value.slice ra rl rc)).setCell ⟨w3.heap.size, 0, none⟩ (Value.slice sa sl sc)) = w5 := ⟨_, rfl⟩
          have b5 : BB w3 w5 := by
            rw [← h5]
            repeat' (first | assumption | exact BB.refl _ | apply BB.drew | apply BB.alloc | (refine BB.setCell ?_ (by first | exact Nat.le_refl _ | (simp; done) | (simp; omega) | omega)) | (refine BB.step ?_ (by assumption)))
          have qb : Blk w5 (w3.heap.size + 1) 36 [.slice ra rl rc] := by rw [← h5]; exact (k2.set 0 _).other _ _ (by show w3.heap.size + 1 ≠ w3.heap.size; omega)
          have rb : Blk w5 (w3.heap.size) 36 [.slice sa sl sc] := by rw [← h5]; exact (k1.other ⟨w3.heap.size + 1, 0, none⟩ _ (by show w3.heap.size ≠ w3.heap.size + 1; omega)).set 0 _
          have HN5 : Hid (NatAt w5 ra rl (n / x)) := by rw [← h5]; exact (HQ.out.setCell k2 (by decide) 0 _).setCell (k1.other ⟨w3.heap.size + 1, 0, none⟩ _ (by show w3.heap.size ≠ w3.heap.size + 1; omega)) (by decide) 0 _
          have HR5 : Hid (NatAt w5 sa sl (n % x)) := by rw [← h5]; exact (HR.out.setCell k2 (by decide) 0 _).setCell (k1.other ⟨w3.heap.size + 1, 0, none⟩ _ (by show w3.heap.size ≠ w3.heap.size + 1; omega)) (by decide) 0 _
          rw [h5]
          have g3 := HX3.out.s.lt
          have d1 : w3.heap.size + 1 ≠ s + 1 + 1 := by omega
          have d2 : s + 1 + 1 ≠ w3.heap.size + 1 := by omega
          have d3 : w3.heap.size + 1 ≠ s + 1 + 1 + 1 := by omega
          have d4 : s + 1 + 1 + 1 ≠ w3.heap.size + 1 := by omega
          have d5 : w3.heap.size ≠ s + 1 + 1 := by omega
          have d6 : s + 1 + 1 ≠ w3.heap.size := by omega
          have d7 : w3.heap.size ≠ s + 1 + 1 + 1 := by omega
          have d8 : s + 1 + 1 + 1 ≠ w3.heap.size := by omega
          have HX5 := Lib.hid (HX3.out.below b5)
          have cq5 := qb.cell 0
          have cr5 := rb.cell 0
          have c25 := HX5.out.r.cell 0
          have c35 := HX5.out.s.cell 0
          have f25 := HX5.out.r.frozen 0
          have f35 := HX5.out.s.frozen 0
          simp only [List.getElem?_cons_zero] at cq5 cr5 c25 c35
          clear qb rb h5 b5 ca cb cr cs fr fs G1 G2 G3
          go_region
          all_goals go_wp2_with fail
          all_goals exact HX5.out.drew.fin (p := 4) (t := 5) (u := 6) HS.out rfl rfl rfl rfl (by rw [if_neg hm0]; rfl) (by rw [HMX.out]; exact HN5.out.drew) (by rw [if_neg hm0, HMX.out]; exact HR5.out.drew)
      · obtain ⟨lb, e1, e2, e3, e4, e5⟩ := HM3.out
        obtain ⟨la, d1, d2, d3, d4, d5⟩ := HN3.out
        obtain ⟨j, hj⟩ : ∃ j, lenb = j + 2 := ⟨lenb - 2, by omega⟩
        subst hj
        obtain ⟨bd, x, rfl, hlt2, hcell, hxw, hx⟩ := rd_word e5 e2 (k := j + 1) (by omega)
        have hle : lb.length ≤ la.length := by
          apply Nat.le_of_not_lt
          intro h
          have := val_lt_of_length d2 e3 h
          omega
        have HE : Hid (lb.length = j + 2 ∧ Words lb ∧ Tight lb ∧ val lb = m ∧ Rd w3 106 (some bd) (lb.map wd)) := ⟨e1, e2, e3, e4, e5⟩
        have HD : Hid (la.length = len ∧ Words la ∧ val la = n ∧ Rd w3 106 a (la.map wd)) := ⟨d1, d2, d4, d5⟩
        have HX := Lib.hid hx
        have hle2 : (j : Int) + 2 ≤ len := by omega
        have hj2 : (j : Int) + 2 ≤ 10000 := by omega
        have hne1 : ((j : Int) + 2 == 1) = false := by rw [beq_eq_false_iff_ne]; omega
        have hxz : (0 : Int) ≤ (x : Int) := by omega
        have hxm : (x : Int) ≤ 4294967295 := by omega
        have hbl := Lib.bitLen_le x 32 (by omega) (by omega)
        have hcell' : w3.cell? ⟨bd.block, bd.off + (j + 1), none⟩ = some (.int .u32 (x : Int)) := by simpa [Addr.add] using hcell
        have hld := lead_lt (hx ▸ top_ne e3 e1) hxw
        obtain ⟨nn, hnn⟩ : ∃ nn, nn = 32 - Lib.bitLen x := ⟨_, rfl⟩
        have hnl : nn < 32 := by omega
        have hni : (32 : Int) - (Lib.bitLen (x : Int).toNat : Int) = (nn : Int) := by rw [Int.toNat_natCast]; omega
        have HNN := Lib.hid hnn
        clear e1 e2 e3 e4 e5 d1 d2 d3 d4 d5 hx hlt2 hle hl1 hlb hlenb hld hnn
        go_wp2_with fail
        refine (Tryz.bits_LeadingZeros32 (x : Int) w3 hxz hxm).mono ?_
        rintro e w4 ⟨rfl, rfl⟩
        rw [hni]
        clear hni hbl hxz hxm hcell hcell'
        go_wp2_with fail
        have G1 : ∀ w', BB w4 w' → w'.cell? ⟨s, 0, none⟩ = some (.slice a len cap) := fun w' h => (h.cell HX3.out.a.lt).trans ca
        have G2 : ∀ w', BB w4 w' → w'.cell? ⟨s + 1, 0, none⟩ = some (.slice (some bd) (j + 2 : Nat) capb) := fun w' h => (h.cell HX3.out.b.lt).trans cb
        have S1 : ∀ w', BB w4 w' → Calls Tryz.prog 107 #[.slice a len cap, .int .i64 (nn : Int)] w' (ShPost nn len n w') := fun w' h => by
          have := shift_any a cap nn la w' hnl (by rw [HD.out.1]; omega) HD.out.2.1 (HD.out.2.2.2.below h)
          rwa [HD.out.1, HD.out.2.2.1] at this
        have S2 : ∀ w', BB w4 w' → Calls Tryz.prog 107 #[.slice (some bd) (j + 2 : Nat) capb, .int .i64 (nn : Int)] w' (ShPost nn (j + 2) m w') := fun w' h => by
          have := shift_any (some bd) capb nn lb w' hnl (by rw [HE.out.1]; push_cast; omega) HE.out.2.1 (HE.out.2.2.2.2.below h)
          rwa [HE.out.1, HE.out.2.2.2.1] at this
        have stn : ((j : Int) + 2).toNat = j + 2 := by omega
        have sl0 : (0 : Int) ≤ (j : Int) + 2 := by omega
        have sl1 : (j : Int) + 2 ≤ (j : Int) + 2 + 1 := by omega
        have sl2 : ¬ ((j : Int) + 2 + 1 < (j : Int) + 2) := by omega
        have sl3 : j + 2 ≤ j + 2 + 1 := by omega
        have sl4 : (j : Int) + 2 ≤ ((j + 2 + 1 : Nat) : Int) := by omega
        have sl5 : (0 : Int) ≤ (j : Int) + 2 ∧ (j : Int) + 2 ≤ ((j + 2 + 1 : Nat) : Int) := by omega
        have sl6 : (0 : Int) ≤ (j : Int) + 2 ∧ (j : Int) + 2 ≤ (j : Int) + 2 + 1 := by omega
        go_region_held3 (fun w' => BB w4 w') (repeat' (first | assumption | exact BB.refl _ | apply BB.drew | apply BB.alloc | (refine BB.setCell ?_ (by first | exact Nat.le_refl _ | (simp; done) | (simp; omega) | omega)) | (refine BB.step ?_ (by assumption))))
          (first
            | (go_at_call 107; have hx2 := HUL; refine (S2 _ (by assumption)).mono ?_; rintro e w6 ⟨gv, vo, rfl, hgv, hV, hvl, hvw, hvv, hb6⟩; have HV := Lib.hid hV; have HVL := Lib.hid (And.intro hvl (And.intro hvw (And.intro hvv hgv))); have hbb6 := hb6; clear hV hvl hvw hvv hgv)
            | (go_at_call 107; refine (S1 _ (by assumption)).mono ?_; rintro e w5 ⟨gu, uo, rfl, hgu, hU, hul, huw, huv, hb5⟩; have HU := Lib.hid hU; have HUL := Lib.hid (And.intro hul (And.intro huw (And.intro huv hgu))); have hbb5 := hb5; clear hU hul huw huv hgu))
        clear stn sl0 sl1 sl2 sl3 sl4 sl5 sl6
        obtain ⟨lq, hlq⟩ : ∃ lq, len + 1 = lq + (j + 2) := ⟨len + 1 - (j + 2), by omega⟩
        have hlq1 : (len : Int) + 1 - ((j : Int) + 2) = (lq : Int) := by omega
        go_wp2_with first | fail | (refine wpList_make_blk _ rfl _ _ _ rfl 106 (.int .u32 0) 4 Tryz.underlying34 Tryz.infoW rfl _ _ _ _ lq rfl rfl (by omega) (by omega) (by omega) (by unfold maxLen; omega) ?_)
        intro w7 hQ7 hb7
        have HU7 := Lib.hid ((HU.out.below hbb6 HU.out.lt).below hb7 (Nat.lt_of_lt_of_le HU.out.lt hbb6.size))
        have HV7 := Lib.hid (HV.out.below hb7 HV.out.lt)
        have HB7 : Hid (BB w4 w7) := (BB.step (BB.step (BB.drew (BB.refl w4)) hbb5) hbb6).step hb7
        have HGQ : Hid (w6.heap.size = w6.heap.size ∧ gu < w6.heap.size ∧ gv < w6.heap.size) := ⟨rfl, Nat.lt_of_lt_of_le HU.out.lt hbb6.size, HV.out.lt⟩
        obtain ⟨gq, hgq⟩ : ∃ gq, gq = w6.heap.size := ⟨_, rfl⟩
        rw [← hgq] at hQ7 HGQ ⊢
        have HQ7 := Lib.hid hQ7
        have HG : Hid (gu < gv ∧ gu < gq ∧ gv < gq ∧ s + 1 + 1 + 1 < gu) := by
          have h1 := HVL.out.2.2.2
          have h2 := HU.out.lt
          have h3 := HUL.out.2.2.2
          have h4 := HX3.out.s.lt
          have h5 : w4.drew.heap.size = w4.heap.size := rfl
          exact ⟨by omega, HGQ.out.2.1, HGQ.out.2.2, by omega⟩
        clear hQ7 hb7 hbb5 hbb6 hgq G1 G2 S1 S2 ca cb cr cs fr fs
        go_wp2_with fail
        obtain ⟨v, hv⟩ : ∃ v, v = vo.take (j + 2) := ⟨_, rfl⟩
        have hvl : v.length = j + 2 := by rw [hv, List.length_take, HVL.out.1]; omega
        have hvw : Words v := hv ▸ words_take HVL.out.2.1 _
        have hst := shifted_top (o := vo) (n := nn) HE.out.2.1 HE.out.2.2.1 HE.out.1 HVL.out.1 HVL.out.2.1 (by rw [HX.out]; exact HNN.out) (by rw [HVL.out.2.2.1, HE.out.2.2.2.1])
        rw [← hv, HE.out.2.2.2.1] at hst
        have hul : uo.length = lq + v.length := by rw [HUL.out.1, hvl]; exact hlq
        have hDI : DivInv uo v (List.replicate lq 0) uo lq := by
          refine DivInv.start (a := n) (b := m) (n := nn) HUL.out.2.1 hvw (List.length_replicate) (words_replicate _) hul (by omega) HUL.out.2.2.1 hst.1 ?_ ?_
          · have := val_lt HD.out.2.1
            rw [HD.out.1, HD.out.2.2.1] at this
            rw [show lq + v.length - 1 = len by omega]
            exact this
          · have := tight_lower HE.out.2.2.1 (by intro h0; have := HE.out.1; rw [h0] at this; simp at this)
            rw [HE.out.1, HE.out.2.2.2.1] at this
            rw [hvl]; exact this
        have HV0 : Hid (v ++ vo.drop (j + 2) = vo) := by rw [hv]; exact List.take_append_drop _ _
        have HVW := Lib.hid (And.intro hvl (And.intro hvw (And.intro hst.1 hst.2.1)))
        have HDI := Lib.hid hDI
        have HULN := Lib.hid hul
        clear hv hvl hvw hst hul hDI
        go_loopw [13] (fun iv wr => ∃ (k : Nat) (Q U : List Nat), k ≤ lq ∧ iv = .int .i64 ((k : Int) - 1) ∧ Hid (DivInv uo v Q U k ∧ Q.length = lq) ∧ Hid (Blk wr gq 106 (Q.map wd)) ∧ Hid (Blk wr gu 106 (U.map wd)) ∧ Hid (Blk wr gv 106 (vo.map wd)) ∧ Hid (BB w4 wr))
          (fun iv _ => (intOf iv + 1).toNat)
        case atStart => exact ⟨lq, _, uo, Nat.le_refl _, rfl, ⟨HDI.out, List.length_replicate⟩, by have := HQ7.out; rw [List.map_replicate]; exact this, HU7.out, HV7.out, HB7.out⟩
        case round =>
          obtain ⟨k, Q, U, hk, rfl, HI, HQ, HU, HV, HB⟩ := hrel
          by_cases hk0 : k = 0
          · subst hk0
            have hfin := HI.out.1.fin HUL.out.2.2.1 HVW.out.2.2.1 (by omega)
            have HUW := HI.out.1.wU
            have HFQ := Lib.hid (And.intro HI.out.2 (And.intro HI.out.1.wQ (And.intro hfin.1 (And.intro hfin.2 (And.intro HUW (show U.length = lq + (j + 2) by rw [HI.out.1.len, HULN.out, HVW.out.1]))))))
            clear hfin HUW HI
            go_wp2_with first | fail | (refine wpList_make_blk _ rfl _ _ _ rfl 106 (.int .u32 0) 4 Tryz.underlying34 Tryz.infoW rfl _ _ _ _ (j + 2) rfl rfl (by omega) (by omega) (by omega) (by unfold maxLen; omega) ?_)
            intro w9 hR9 hb9
            obtain ⟨gr, hgr⟩ : ∃ gr, gr = wr.heap.size := ⟨_, rfl⟩
            rw [← hgr] at hR9 ⊢
            have HU9 := Lib.hid (HU.out.below hb9 HU.out.lt)
            have HQ9 := Lib.hid (HQ.out.below hb9 HQ.out.lt)
            have HB9 := Lib.hid (BB.step HB.out hb9)
            have HR9 := Lib.hid hR9
            have HGR : Hid (gu < gr ∧ gq < gr ∧ w4.heap.size ≤ gr) := ⟨hgr ▸ HU.out.lt, hgr ▸ HQ.out.lt, hgr ▸ HB.out.size⟩
            clear hR9 hb9 hgr
            go_wp2_with fail
            go_loopw [96] (fun iv wq => ∃ (k : Nat) (o : List Nat), k ≤ j + 2 ∧ iv = .int .i64 k ∧ Hid (o.length = k ∧ Words o ∧ ∀ i, i < k → o.getD i 0 = ((U.getD (i + 1) 0 * W + U.getD i 0) / 2 ^ nn) % W) ∧ Hid (Blk wq gr 106 ((pad o (j + 2)).map wd)) ∧
              Hid (Blk wq gu 106 (U.map wd)) ∧ Hid (Blk wq gq 106 (Q.map wd)) ∧ Hid (BB w4 wq)) (fun iv _ => j + 2 - (intOf iv).toNat)
            case atStart => exact ⟨0, [], Nat.zero_le _, rfl, ⟨rfl, words_nil, fun i hi => absurd hi (Nat.not_lt_zero i)⟩, by have := HR9.out; rw [pad_nil, List.map_replicate]; exact this, HU9.out, HQ9.out, HB9.out⟩
            case round =>
              obtain ⟨k, o, hk, rfl, HO, HR, HU, HQ, HB⟩ := hrel
              by_cases hkl : k < j + 2
              · obtain ⟨lo, hlo⟩ : ∃ lo, lo = U.getD k 0 := ⟨_, rfl⟩
                obtain ⟨hi, hhi⟩ : ∃ hi, hi = U.getD (k + 1) 0 := ⟨_, rfl⟩
                have hlw : lo < 4294967296 := by rw [hlo]; exact words_get HFQ.out.2.2.2.2.1 _
                have hhw : hi < 4294967296 := by rw [hhi]; exact words_get HFQ.out.2.2.2.2.1 _
                have c1 := row_cell HU.out (k := k) (by rw [HFQ.out.2.2.2.2.2]; omega)
                have c2 := row_cell HU.out (k := k + 1) (by rw [HFQ.out.2.2.2.2.2]; omega)
                rw [← hlo] at c1
                rw [← hhi] at c2
                obtain ⟨y0, c3⟩ := pad_cell HR.out HO.out.1 hkl
                have f3 := HR.out.frozen k
                obtain ⟨y, hy⟩ : ∃ y, y = hi * 4294967296 + lo := ⟨_, rfl⟩
                have hor : bits .or .u64 ((hi : Int) * 4294967296) (lo : Int) = (y : Int) := by rw [hy]; exact or_top hhw hlw
                have hyl : y < 18446744073709551616 := by omega
                obtain ⟨z, hz⟩ : ∃ z, z = y / 2 ^ nn := ⟨_, rfl⟩
                have hzi : (y : Int) / 2 ^ nn = (z : Int) := by rw [hz]; push_cast; rfl
                have hzl : z ≤ y := by rw [hz]; exact Nat.div_le_self _ _
                have hki : (k : Int) < (j : Int) + 2 := by omega
                have hnl2 : (nn : Int) < 32 := by omega
                have wz1 : IntKind.u64.wrap (z : Int) = (z : Int) := wraps_u64 _ (by omega) (by omega)
                have HZ := Lib.hid (show ((U.getD (k + 1) 0 * W + U.getD k 0) / 2 ^ nn) % W = z % W by rw [hz, hy, hlo, hhi]; rfl)
                clear hlo hhi hy hz
                go_wp2_with fail
                go_region
                go_wp2_with fail
                have hgr2 := HGR.out
                refine ⟨⟨k + 1, o ++ [z % W], by omega, rfl, ⟨by rw [List.length_append, HO.out.1]; rfl, words_append.2 ⟨HO.out.2.1, words_cons.2 ⟨Nat.mod_lt _ W_pos, words_nil⟩⟩, ?_⟩,
                  (pad_write HR.out HO.out.1 hkl (wd_mod (a := z) rfl)).drew, (HU.out.other ⟨gr, k, none⟩ _ (by show gu ≠ gr; omega)).drew, (HQ.out.other ⟨gr, k, none⟩ _ (by show gq ≠ gr; omega)).drew,
                  BB.drew (BB.setCell HB.out (p := ⟨gr, k, none⟩) (by show w4.heap.size ≤ gr; omega))⟩, by simp only [intOf]; omega⟩
                intro i hi
                by_cases hik : i < k
                · rw [← HO.out.2.2 i hik]
                  simp [List.getD_eq_getElem?_getD, List.getElem?_append_left (show i < o.length by rw [HO.out.1]; exact hik)]
                · obtain rfl : i = k := by omega
                  rw [HZ.out]
                  have := HO.out.1
                  simp [List.getD_eq_getElem?_getD, List.getElem?_append_right (show o.length ≤ i by omega), this]
              · obtain rfl : k = j + 2 := by omega
                go_wp2_with fail
                have hof := HO.out
                have hol : o.length = j + 2 := hof.1
                have hback := rest_back (o := o) (n := nn) (r := n % m) HFQ.out.2.2.2.2.1 hnl HFQ.out.2.2.2.1 (by
                  have h1 : n % m < m := Nat.mod_lt _ (by omega)
                  have h2 := val_lt HE.out.2.1
                  rw [HE.out.1, HE.out.2.2.2.1] at h2
                  rw [hol]; omega) (fun i hi => hof.2.2 i (by rw [← hol]; exact hi))
                have HRF := Lib.hid (And.intro hol (And.intro hof.2.1 hback))
                have hRb := HR.out
                rw [pad_full hol] at hRb
                have HR := Lib.hid hRb
                clear hof hol hback hRb
                refine (trim_any (some ⟨gq, 0, none⟩) lq lq Q wr HFQ.out.1 (by omega) (by omega) HFQ.out.2.1 (Blk.rd (rest := []) (by rw [List.append_nil]; exact HQ.out))).mono ?_
                rintro e w10 ⟨ra, rl, rc, rfl, hN, hb10⟩
                have HN10 := Lib.hid hN
                have HB10 := Lib.hid (BB.step HB.out hb10)
                have HR10 := Lib.hid (HR.out.below hb10 HR.out.lt)
                clear hN hb10
                go_wp2_with fail
                refine (trim_any (some ⟨gr, 0, none⟩) (j + 2) (j + 2) o w10 HRF.out.1 (by omega) (by omega) HRF.out.2.1 (Blk.rd (rest := []) (by rw [List.append_nil]; exact HR10.out))).mono ?_
                rintro e w11 ⟨sa, sl, sc, rfl, hN2, hb11⟩
                have HN11 := Lib.hid (HN10.out.below hb11)
                have HS11 := Lib.hid hN2
                have HX11 := Lib.hid (HX3.out.below (BB.step HB10.out hb11))
                clear hN2 hb11
                have cr := HX11.out.r.cell 0
                have cs := HX11.out.s.cell 0
                have fr := HX11.out.r.frozen 0
                have fs := HX11.out.s.frozen 0
                simp only [List.getElem?_cons_zero] at cr cs
                go_wp2_with fail
                refine HX11.out.fin (p := 4) (t := 5) (u := 6) HS.out rfl rfl rfl rfl (by rw [if_neg hm0]; rfl) (by rw [← HFQ.out.2.2.1]; exact HN11.out) ?_
                rw [if_neg hm0, ← HRF.out.2.2]; exact HS11.out
          · obtain ⟨i, rfl⟩ : ∃ i, k = i + 1 := ⟨k - 1, by omega⟩
            have hUl : U.length = lq + (j + 2) := by rw [HI.out.1.len, HULN.out, HVW.out.1]
            have hsp := dwin_split U i v.length
            have hhi := HI.out.1.high HVW.out.2.1
            have hdl : (dwin U i v.length).length = v.length + 1 := dwin_length (by rw [hUl, HVW.out.1]; omega)
            have hpl : (U.take i).length = i := by rw [List.length_take, hUl]; omega
            have hDC : ∀ capx, j + 2 + 1 ≤ capx → Calls Tryz.prog 108 #[.slice (some ⟨gu, i, none⟩) (j + 2 + 1 : Nat) capx, .slice (some ⟨gv, 0, none⟩) (j + 2 : Nat) (j + 2 + 1)] wr (DigPost gu (U.take i) (dwin U i v.length) (U.drop (i + (v.length + 1))) v wr) := by
              intro capx hcx
              have := digit_any gu gv capx (j + 2 + 1) j (U.take i) (dwin U i v.length) (U.drop (i + (v.length + 1))) v (vo.drop (j + 2)) wr (by have := HG.out; omega) (by rw [hsp]; exact HU.out) (by rw [HV0.out]; exact HV.out)
                (by rw [hdl, HVW.out.1]) HVW.out.1 (dwin_words HI.out.1.wU _ _) HVW.out.2.1 (by omega) (by rw [hpl]; omega) hcx (by omega) hhi.2.2 HVW.out.2.2.2
              rwa [hpl] at this
            have HFX := Lib.hid (And.intro hUl (And.intro hsp (And.intro hhi (And.intro hdl hpl))))
            have hii : (i : Int) < lq := by omega
            clear hUl hsp hhi hdl hpl
            have hei : (((i + 1 : Nat) : Int) - 1) = (i : Int) := by omega
            rw [hei]
            go_wp2_with fail
            rw [show i + (j + 2) + 1 - i = j + 2 + 1 by omega]
            refine (hDC _ (by omega)).mono ?_
            rintro e w8 ⟨uw', l1, l2, l3, l4, rfl, l5⟩
            have HQ8 := Lib.hid (HQ.out.only l4 (by have := HG.out; omega))
            have HV8 := Lib.hid (HV.out.only l4 (by have := HG.out; omega))
            have HU8 := Lib.hid l3
            have HB8 : Hid (BB w4 w8) := BB.only HB.out l4 (by have := HUL.out.2.2.2; exact this)
            obtain ⟨dq, hdq⟩ : ∃ dq, dq = val (dwin U i v.length) / val v := ⟨_, rfl⟩
            rw [← hdq]
            have hvp : 0 < val v := by rw [HVW.out.2.2.1]; exact Nat.mul_pos (Nat.two_pow_pos nn) (by omega)
            have hdw : dq < W := by rw [hdq]; exact Nat.div_lt_of_lt_mul (by rw [Nat.mul_comm]; exact HFX.out.2.2.1.2.2)
            have HST : Hid (DivInv uo v (Q.set i dq) (U.take i ++ uw' ++ U.drop (i + (v.length + 1))) i) :=
              HI.out.1.step HVW.out.2.1 (by have := HFX.out.1; rw [this, HVW.out.1]; omega) (by rw [HI.out.2]; omega) (l1.trans HFX.out.2.2.2.1) l2 hdq hdw l5 hvp
            have hcq : ∃ y, w8.cell? ⟨gq, i, none⟩ = some y := ⟨_, row_cell HQ8.out (by rw [HI.out.2]; omega)⟩
            obtain ⟨y, hcq⟩ := hcq
            have hfq := HQ8.out.frozen i
            clear hDC l1 l2 l3 l4 l5 hdq hvp
            unfold wd
            go_wp2_with fail
            exact ⟨⟨i, _, _, by omega, rfl, ⟨HST.out, by rw [List.length_set]; exact HI.out.2⟩, row_set HQ8.out (x := dq) rfl, HU8.out.other ⟨gq, i, none⟩ _ (by show gu ≠ gq; have := HG.out; omega), HV8.out.other ⟨gq, i, none⟩ _ (by show gv ≠ gq; have := HG.out; omega),
              BB.setCell HB8.out (p := ⟨gq, i, none⟩) (by show w4.heap.size ≤ gq; have := HG.out; have := HUL.out.2.2.2; have h5 : w4.drew.heap.size = w4.heap.size := rfl; omega)⟩, by simp only [intOf]; omega⟩

end Go.Proofs.YthefednendgclaaGreat
