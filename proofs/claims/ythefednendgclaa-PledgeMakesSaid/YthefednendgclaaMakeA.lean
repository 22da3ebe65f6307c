import Derived.Test.YthefednendgclaaRefE
import Derived.Test.YthefednendgclaaInvB
import Derived.Test.YthefednendgclaaPledge2
set_option linter.unusedVariables false
set_option linter.unusedSimpArgs false
/-
  The document's pledges of polynomials, with masks and bare.
-/
namespace Go.Proofs.Ythefednendgclaa
open Go Go.RowKit Sac

/-! ### What stays while a row of numbers is appended to -/
def KpQ (B0 : Nat) (w w' : World) : Prop := (∀ v n, BN w v n → BN w' v n) ∧ (∀ q u, B0 ≤ q → q < w.heap.size → w.cell? ⟨q, 0, none⟩ = some u → w'.cell? ⟨q, 0, none⟩ = some u) ∧ w.heap.size ≤ w'.heap.size
def Fk.bn {B0 : Nat} (n : Nat) : Fk (KpQ B0) := ⟨fun v w => BN w v n, fun _ _ _ hb h => h.below hb, true, fun _ v _ _ hk h => hk.1 v n h⟩
/-- A row of one number, in a new block. -/
def IsLit (B0 n : Nat) (v : Value) (w : World) : Prop := ∃ (q : Nat) (za : Option Addr) (zl zc : Nat), v = .slice (some ⟨q, 0, none⟩) 1 1 ∧ B0 ≤ q ∧ q < w.heap.size ∧ w.cell? ⟨q, 0, none⟩ = some (.slice za zl zc) ∧ BN w (.slice za zl zc) n
theorem IsLit.below {B0 n : Nat} {v : Value} {w w' : World} (h : IsLit B0 n v w) (hb : Below w.heap.size w w') : IsLit B0 n v w' := by
  obtain ⟨q, za, zl, zc, e, h1, h2, h3, h4⟩ := h
  exact ⟨q, za, zl, zc, e, h1, Nat.lt_of_lt_of_le h2 hb.size, (BB.cell hb h2).trans h3, h4.below hb⟩
theorem IsLit.new {B0 n : Nat} {w : World} {za : Option Addr} {zl zc : Nat} (hB : B0 ≤ w.heap.size) (h : BN w (.slice za zl zc) n) : IsLit B0 n (.slice (some ⟨w.heap.size, 0, none⟩) 1 1) (w.alloc (.cells #[.slice za zl zc] 48)) :=
  ⟨w.heap.size, za, zl, zc, rfl, hB, by simp, (Blk.new w [.slice za zl zc] 48).cell 0, h.below ((Below.refl _ w).alloc (Nat.le_refl _) _)⟩
def Fk.lit {B0 : Nat} (n : Nat) : Fk (KpQ B0) := ⟨IsLit B0 n, fun _ _ _ hb h => h.below hb, true, fun _ v _ _ hk ⟨q, za, zl, zc, e, h1, h2, h3, h4⟩ => ⟨q, za, zl, zc, e, h1, Nat.lt_of_lt_of_le h2 hk.2.2, hk.2.1 q _ h1 h2 h3, hk.1 _ _ h4⟩⟩
theorem OwnN.kpq {B0 : Nat} {w w' : World} {base : Nat} {v : Value} {ns : List Nat} (h : OwnN w base v ns) (hlt : ∀ k, v.ownBlock = some k → k < B0) (hg : w.grownBy w' v.ownBlock) : KpQ B0 w w' := by
  refine ⟨fun u m hu => hu.same fun k hk => hg.block k hk.lt ?_, fun q u h1 h2 h3 => ?_, hg.size⟩
  · intro hrow
    obtain ⟨cs', fr, hk⟩ := hk
    obtain ⟨xs, ho, _⟩ := h
    obtain ⟨hx2, ⟨rfl, h0, h1⟩ | ⟨g, cap, rest, rfl, hb, hB, hn2, hc2, hl2⟩⟩ := own_elim ho
    · cases hrow
    · have : k = g := Option.some.inj hrow
      subst this
      unfold Blk at hB
      rw [hB] at hk
      injection hk with hk
      injection hk with _ he _
      exact absurd he (by decide)
  · have hne : some q ≠ v.ownBlock := fun e => by have := hlt q e.symm; omega
    exact (World.cell?_of_block (w := w) (hg.block q h2 hne)).trans h3

theorem wanted_go {o : Oper} {y : Nat → Option Bool} {A E : Prop} (hg : o.guard = none) (h : A) : if Region.wanted o y = true then A else E := by
  rw [if_pos (by simp [Region.wanted, hg])]
  exact h
theorem wp_append_bn {o : Oper} {a : Act} {w : World} {K : Act → World → Prop} {Q : Exit → Act → World → Prop} (s x : Operand)
    (hop : o.op = Op.call { callee := Callee.builtin Builtin.append, args := #[s, x], argTypes := #[51, 51] })
    (base : Nat) (v : Value) (ns : List Nat) (hs : a.eval s = v) (hown : OwnN w base v ns) (ad : Addr) (c n : Nat) (xa : Option Addr) (xl xc : Nat) (hx : a.eval x = .slice (some ad) 1 c) (hc : w.cell? ad = some (.slice xa xl xc)) (hn : BN w (.slice xa xl xc) n)
    (hlen : ns.length ≤ 100000) (hbase : base ≤ w.heap.size)
    (h : ∀ v' w', OwnN w' base v' (ns ++ [n]) → w.grownBy w' v.ownBlock → (∀ k, v'.ownBlock = some k → v.ownBlock = some k ∨ w.heap.size ≤ k) → K (a.put o.dst v') w') :
    Oper.wp Try.prog o a w K Q := by
  obtain ⟨v', w', hr, h1, h2, h3⟩ := append_bn w base o.type v ns hown ad c n xa xl xc hc hn hlen hbase
  unfold Oper.wp execOp
  simp only [hop, resolve, invoke, builtin, Sem.run_bind, Sem.run_pure, Result.andThen_ok, List.map_toArray, List.map_cons, List.map_nil, hs, hx, hr]
  exact h v' w' h1 h2 h3

theorem OwnN.base {w : World} {b b' : Nat} {v : Value} {ns : List Nat} (h : OwnN w b v ns) (hb : b' ≤ b) : OwnN w b' v ns := by
  obtain ⟨xs, ⟨h1, h2⟩, hv⟩ := h
  refine ⟨xs, ⟨h1, ?_⟩, hv⟩
  rcases h2 with h2 | ⟨g, cap, cur, e1, e2, e3⟩
  · exact .inl h2
  · exact .inr ⟨g, cap, cur, e1, by omega, e3⟩

set_option maxRecDepth 100000 in
set_option maxHeartbeats 1000000 in
theorem bat13_any (v : Value) (p : List Nat) (i : Nat) (w : World) (hv : BRow w v p) (hc : (p.length : Int) ≤ 10000) :
    Calls Try.prog 105 #[v, .int .i64 (i : Int)] w (RetB (p.getD i 0) w) := by
  obtain ⟨len, hlen⟩ : ∃ len, p.length = len := ⟨_, rfl⟩
  obtain ⟨a, cap, rfl, hcap⟩ := hv.form
  have HV := Lib.hid hv
  have HLN := Lib.hid hlen
  rw [hlen] at HV hcap hc ⊢
  have hcap' : (len : Int) ≤ cap := by omega
  clear hv hlen
  by_cases hi : (i : Int) < len
  · obtain ⟨ad, za, zl, zc, rfl, gC, nC⟩ := HV.out.get (j := i) (by rw [HLN.out]; omega)
    have cC := gC w (BB.refl _)
    have HN := Lib.hid nC
    clear gC nC
    go_enter Try.func105, Try.ntmps105
    go_wp2_with fail
    go_ret
    exact ⟨_, rfl, HN.out, Below.refl _ _⟩
  · have e : p.getD i 0 = 0 := by rw [List.getD_eq_getElem?_getD, List.getElem?_eq_none (by rw [HLN.out]; omega)]; rfl
    rw [e]
    clear e
    go_enter Try.func105, Try.ntmps105
    go_wp2_with fail
    go_ret
    exact ⟨_, rfl, BN.mk' (BitsAt.zero _ _ _) rfl (Nat.le_refl _) (by decide) (by decide), (Below.refl _ w).alloc (Nat.le_refl _) _⟩

/-- The document's pledge of two numbers. -/
def pdD (P G H x y : Nat) : Nat := G ^ x % P * (H ^ y % P) % P
def allD (P G H : Nat) (p m : List Nat) : List Nat := (List.range (max p.length m.length)).map fun i => pdD P G H (p.getD i 0) (m.getD i 0)
theorem allD_length (P G H : Nat) (p m : List Nat) : (allD P G H p m).length = max p.length m.length := by simp [allD]
theorem allD_get (P G H : Nat) (p m : List Nat) (i : Nat) (h : i < max p.length m.length) : (allD P G H p m).getD i 0 = pdD P G H (p.getD i 0) (m.getD i 0) := by
  simp [allD, List.getD_eq_getElem?_getD, List.getElem?_map, List.getElem?_range h]
def tabAL (B0 : Nat) (v0 : Value) (v1 : Value) (v2 : Value) (v3 : Value) (n4 : Nat) (v5 : Value) (v6 : Value) (n7 : Nat) (n8 : Nat) (p9 : Fk (KpQ B0)) (p10 : Fk (KpQ B0)) : List (Fk (KpQ B0)) := [.val v0, .val v1, .val v2, .val v3, Fk.bn n4, .val v5, .val v6, Fk.bn n7, Fk.bn n8, p9, p10, .any]
def dstAL : List (Option Tmp) := [some 22, some 23, some 24, some 25, some 26, some 27, some 28, some 29, some 30, some 31, some 32, some 7]
def preAL : List (List Nat) := [[], [], [], [], [2, 3], [], [], [2, 3, 4, 5, 6], [1, 2, 3, 4, 5, 6, 7], [1, 2, 3, 4, 5, 6, 7, 8], [0, 1, 2, 3, 4, 5, 6, 7, 8, 9], [0, 1, 2, 3, 4, 5, 6, 7, 8, 9, 10]]
def maskAL : List Bool := [false, false, false, false, false, false, false, true, false, false, false, false, false, false, false, false, false, false, false, false, false, false, true, true, true, true, true, true, true, true, true, true, true, false]

set_option maxRecDepth 100000 in
set_option maxHeartbeats 4000000 in
theorem ball_any (g v u : Value) (P Q G H : Nat) (p m : List Nat) (w : World) (hg : BG w g P Q G H) (hv : BRow w v p) (hu : BRow w u m) (hP0 : 0 < P) (hL : Bt.len P ≤ 400) (hc : (p.length : Int) ≤ 10000) (hc' : (m.length : Int) ≤ 10000) :
    Calls Try.prog 56 #[g, v, u] w (RetBRow (allD P G H p m) w) := by
  obtain ⟨pa, pl, pc, qa, ql, qc, ga, gl, gc, ja, jl, jc, rfl, hP, hQ, hG, hH⟩ := hg
  have hbA := (Below.refl _ w).alloc (Nat.le_refl _) (Obj.cells #[Value.slice pa pl pc, Value.slice qa ql qc, Value.slice ga gl gc, Value.slice ja jl jc] 62)
  have hB : Blk (w.alloc (Obj.cells #[Value.slice pa pl pc, Value.slice qa ql qc, Value.slice ga gl gc, Value.slice ja jl jc] 62)) w.heap.size 62 [.slice pa pl pc, .slice qa ql qc, .slice ga gl gc, .slice ja jl jc] := Blk.new w _ _
  obtain ⟨s, hs⟩ : ∃ s, s = w.heap.size := ⟨_, rfl⟩
  rw [← hs] at hB
  have HP1 := Lib.hid (hP.below hbA)
  have HQ1 := Lib.hid (hQ.below hbA)
  have HG1 := Lib.hid (hG.below hbA)
  have HH1 := Lib.hid (hH.below hbA)
  have HB1 := Lib.hid hbA
  clear hP hQ hG hH hbA
  have HV1 := Lib.hid (hv.below HB1.out)
  have HU1 := Lib.hid (hu.below HB1.out)
  obtain ⟨lp, hlp⟩ : ∃ len, p.length = len := ⟨_, rfl⟩
  obtain ⟨lm, hlm⟩ : ∃ len, m.length = len := ⟨_, rfl⟩
  have HC := Lib.hid (And.intro hc hc')
  have HLP := Lib.hid hlp
  have HLM := Lib.hid hlm
  obtain ⟨a, cap, rfl, hcap⟩ := hv.form
  obtain ⟨b, capb, rfl, hcapb⟩ := hu.form
  rw [hlp] at HV1 hcap hc ⊢
  rw [hlm] at HU1 hcapb hc' ⊢
  clear hv hu hlp hlm
  go_enter Try.func56, Try.ntmps56
  go_wp2_with fail
  rw [← hs]
  have hs1 : s + 1 = (w.alloc (Obj.cells #[Value.slice pa pl pc, Value.slice qa ql qc, Value.slice ga gl gc, Value.slice ja jl jc] 62)).heap.size := by rw [hs]; simp
  clear hs
  generalize w.alloc (Obj.cells #[Value.slice pa pl pc, Value.slice qa ql qc, Value.slice ga gl gc, Value.slice ja jl jc] 62) = w1 at hB HP1 HQ1 HG1 HH1 HB1 HV1 HU1 hs1 ⊢
  have gP : ∀ w', BB w1 w' → w'.cell? ⟨s, 0, none⟩ = some (.slice pa pl pc) := fun w' hb => (BB.cell hb hB.lt).trans (hB.cell 0)
  have gQ : ∀ w', BB w1 w' → w'.cell? ⟨s, 1, none⟩ = some (.slice qa ql qc) := fun w' hb => (BB.cell hb hB.lt).trans (hB.cell 1)
  have gG : ∀ w', BB w1 w' → w'.cell? ⟨s, 2, none⟩ = some (.slice ga gl gc) := fun w' hb => (BB.cell hb hB.lt).trans (hB.cell 2)
  have gH : ∀ w', BB w1 w' → w'.cell? ⟨s, 3, none⟩ = some (.slice ja jl jc) := fun w' hb => (BB.cell hb hB.lt).trans (hB.cell 3)
  clear hB
  obtain ⟨s1, hse⟩ : ∃ s1, s1 = s + 1 := ⟨_, rfl⟩
  rw [← hse] at hs1 ⊢
  clear hse
  have HS1 := Lib.hid hs1
  have HO1 : Hid (OwnN (w1.alloc (Obj.cells #[] 48)) s1 (.slice (some ⟨s1, 0, none⟩) 0 0) ((allD P G H p m).take 0)) := OwnN.nil0 w1 s1 hs1
  have HBB1 : Hid (Below s1 w1 (w1.alloc (Obj.cells #[] 48))) := by rw [hs1]; exact (Below.refl _ w1).alloc (Nat.le_refl _) _
  have HZ1 : Hid (s1 ≤ (w1.alloc (Obj.cells #[] 48)).heap.size) := by show _ ≤ _; rw [hs1]; simp
  clear hs1
  generalize w1.alloc (Obj.cells #[] 48) = w2 at HO1 HBB1 HZ1 ⊢
  have HBG : Hid (∀ w', BB w1 w' → BG w' (.agg #[.slice pa pl pc, .slice qa ql qc, .slice ga gl gc, .slice ja jl jc]) P Q G H) := fun w' h => ⟨pa, pl, pc, qa, ql, qc, ga, gl, gc, ja, jl, jc, rfl, HP1.out.below h, HQ1.out.below h, HG1.out.below h, HH1.out.below h⟩
  have HA := HV1
  have HM := HU1
  go_loopw [7, 8] (fun ov0 iv wr => ∃ (i : Nat) (ov : Value), ov = ov0 ∧ (i : Int) ≤ max lp lm ∧ iv = .int .i64 (i : Int) ∧ Hid (OwnN wr s1 ov ((allD P G H p m).take i)) ∧ Hid (Below s1 w1 wr) ∧ Hid (s1 ≤ wr.heap.size)) (fun _ iv _ => max lp lm - (intOf iv).toNat)
  case atStart => exact ⟨0, _, rfl, by omega, rfl, HO1.out, HBB1.out, HZ1.out⟩
  case round =>
    clear HO1 HBB1 HZ1
    obtain ⟨i, ov, rfl, hi, rfl, HO, HB, HZ⟩ := hrel
    have HBR : Hid (BB w1 wr) := by
      have h := HB.out
      rw [HS1.out] at h
      exact h
    have hal : (allD P G H p m).length = max lp lm := by rw [allD_length, HLP.out, HLM.out]
    by_cases hlt : (i : Int) < max lp lm
    · have hil : i < (allD P G H p m).length := by rw [hal]; omega
      obtain ⟨x, hx⟩ : ∃ x, pdD P G H (p.getD i 0) (m.getD i 0) = x := ⟨_, rfl⟩
      have hts : (allD P G H p m).take (i + 1) = (allD P G H p m).take i ++ [x] := by
        rw [take_snoc hil, allD_get _ _ _ _ _ _ (by rw [allD_length] at hil; exact hil), hx]
      obtain ⟨L, hLL⟩ : ∃ L, (allD P G H p m).take i = L := ⟨_, rfl⟩
      have hLl : L.length ≤ 100000 := by rw [← hLL, List.length_take]; omega
      rw [hLL] at hts HO
      have HTS := Lib.hid hts
      have HX := Lib.hid hx
      have HLL := Lib.hid hLl
      clear hil hal hx hts hLL hLl
      by_cases c1 : (i : Int) < lp
      · go_wp2_with fail
        refine wp_region_mixB (fun l g w' => (l 10 = false → BB wr w') ∧ (l 11 = false → g 7 = ov) ∧ (l 11 = true → g 7 = g 32)) (GF (tabAL wr.heap.size (ov) (.agg #[.slice pa pl pc, .slice qa ql qc, .slice ga gl gc, .slice ja jl jc]) (.slice a lp cap) (.int .i64 (i : Int)) (p.getD i 0) (.slice b lm capb) (.int .i64 (i : Int)) (m.getD i 0) (pdD P G H (p.getD i 0) (m.getD i 0)) (Fk.lit (pdD P G H (p.getD i 0) (m.getD i 0))) (Fk.rel (fun v w => OwnN w s1 v (L ++ [x]) ∧ Below s1 w1 w ∧ s1 ≤ w.heap.size) (fun _ _ _ hb h => ⟨h.1.below hb, h.2.1.trans (hb.mono h.2.2), Nat.le_trans h.2.2 hb.size⟩)))) maskAL dstAL preAL (by kernel_rfl) (by kernel_rfl) rfl (by kernel_rfl) (by kernel_rfl) (by kernel_rfl) (by kernel_rfl) ⟨fun _ => BB.drew (BB.refl _), fun _ => rfl, fun h => by cases h⟩ ?_ ?_
        · refine StepsMB.cons (fun l g' wu hB hl hn hp K hK => ?_) ?_
          · have hbb := hB.1 (hn 10 (by decide)); have hov := hB.2.1 (hn 11 (by decide)); simp only [mkM, maskAL, mixM, Nat.reduceAdd, hov] at hK ⊢; clear hov; simp only [Act.put, List.setIfInBounds_toArray, List.set_cons_zero, List.set_cons_succ] at hK; go_simp; exact hK.out _ _ ⟨fun h => hB.1 (by rw [setL_ne (by decide)] at h; exact h), fun h => (updG_ne (by decide)).trans (hB.2.1 (by rw [setL_ne (by decide)] at h; exact h)), fun h => by rw [setL_ne (by decide), hn 11 (by decide)] at h; cases h⟩ GF.same rfl
          refine StepsMB.cons (fun l g' wu hB hl hn hp K hK => ?_) ?_
          · have hbb := hB.1 (hn 10 (by decide)); have hov := hB.2.1 (hn 11 (by decide)); have c0 := gP _ (BB.step HBR.out hbb); have c1 := gQ _ (BB.step HBR.out hbb); have c2 := gG _ (BB.step HBR.out hbb); have c3 := gH _ (BB.step HBR.out hbb); simp only [mkM, maskAL, mixM, Nat.reduceAdd, hov] at hK ⊢; clear hov; simp only [Act.put, List.setIfInBounds_toArray, List.set_cons_zero, List.set_cons_succ] at hK; go_simp; exact hK.out _ _ ⟨fun h => hB.1 (by rw [setL_ne (by decide)] at h; exact h), fun h => (updG_ne (by decide)).trans (hB.2.1 (by rw [setL_ne (by decide)] at h; exact h)), fun h => by rw [setL_ne (by decide), hn 11 (by decide)] at h; cases h⟩ GF.same rfl
          refine StepsMB.cons (fun l g' wu hB hl hn hp K hK => ?_) ?_
          · have hbb := hB.1 (hn 10 (by decide)); have hov := hB.2.1 (hn 11 (by decide)); simp only [mkM, maskAL, mixM, Nat.reduceAdd, hov] at hK ⊢; clear hov; simp only [Act.put, List.setIfInBounds_toArray, List.set_cons_zero, List.set_cons_succ] at hK; go_simp; exact hK.out _ _ ⟨fun h => hB.1 (by rw [setL_ne (by decide)] at h; exact h), fun h => (updG_ne (by decide)).trans (hB.2.1 (by rw [setL_ne (by decide)] at h; exact h)), fun h => by rw [setL_ne (by decide), hn 11 (by decide)] at h; cases h⟩ GF.same rfl
          refine StepsMB.cons (fun l g' wu hB hl hn hp K hK => ?_) ?_
          · have hbb := hB.1 (hn 10 (by decide)); have hov := hB.2.1 (hn 11 (by decide)); simp only [mkM, maskAL, mixM, Nat.reduceAdd, hov] at hK ⊢; clear hov; simp only [Act.put, List.setIfInBounds_toArray, List.set_cons_zero, List.set_cons_succ] at hK; go_simp; exact hK.out _ _ ⟨fun h => hB.1 (by rw [setL_ne (by decide)] at h; exact h), fun h => (updG_ne (by decide)).trans (hB.2.1 (by rw [setL_ne (by decide)] at h; exact h)), fun h => by rw [setL_ne (by decide), hn 11 (by decide)] at h; cases h⟩ GF.same rfl
          refine StepsMB.cons (fun l g' wu hB hl hn hp K hK => ?_) ?_
          · have hbb := hB.1 (hn 10 (by decide)); have hov := hB.2.1 (hn 11 (by decide)); have e2 : g' 24 = .slice a lp cap := (hp 2 (by decide)).2; have e3 : g' 25 = .int .i64 (i : Int) := (hp 3 (by decide)).2; simp only [mkM, maskAL, mixM, Nat.reduceAdd, hov, e2, e3] at hK ⊢; clear hov e2 e3; simp only [Act.put, List.setIfInBounds_toArray, List.set_cons_zero, List.set_cons_succ] at hK; go_simp; go_at_call 105; refine (bat13_any _ p i _ (HA.out.below (BB.step HBR.out hbb)) HC.out.1).mono ?_; rintro e w7 ⟨z, rfl, hz, hb⟩; go_wp2_with fail; exact hK.out _ _ ⟨fun _ => BB.step hbb hb, fun h => (updG_ne (by decide)).trans (hB.2.1 (by rw [setL_ne (by decide)] at h; exact h)), fun h => by rw [setL_ne (by decide), hn 11 (by decide)] at h; cases h⟩ (GF.below hb) hz
          refine StepsMB.cons (fun l g' wu hB hl hn hp K hK => ?_) ?_
          · have hbb := hB.1 (hn 10 (by decide)); have hov := hB.2.1 (hn 11 (by decide)); simp only [mkM, maskAL, mixM, Nat.reduceAdd, hov] at hK ⊢; clear hov; simp only [Act.put, List.setIfInBounds_toArray, List.set_cons_zero, List.set_cons_succ] at hK; go_simp; exact hK.out _ _ ⟨fun h => hB.1 (by rw [setL_ne (by decide)] at h; exact h), fun h => (updG_ne (by decide)).trans (hB.2.1 (by rw [setL_ne (by decide)] at h; exact h)), fun h => by rw [setL_ne (by decide), hn 11 (by decide)] at h; cases h⟩ GF.same rfl
          refine StepsMB.cons (fun l g' wu hB hl hn hp K hK => ?_) ?_
          · have hbb := hB.1 (hn 10 (by decide)); have hov := hB.2.1 (hn 11 (by decide)); simp only [mkM, maskAL, mixM, Nat.reduceAdd, hov] at hK ⊢; clear hov; simp only [Act.put, List.setIfInBounds_toArray, List.set_cons_zero, List.set_cons_succ] at hK; go_simp; exact hK.out _ _ ⟨fun h => hB.1 (by rw [setL_ne (by decide)] at h; exact h), fun h => (updG_ne (by decide)).trans (hB.2.1 (by rw [setL_ne (by decide)] at h; exact h)), fun h => by rw [setL_ne (by decide), hn 11 (by decide)] at h; cases h⟩ GF.same rfl
          refine StepsMB.cons (fun l g' wu hB hl hn hp K hK => ?_) ?_
          · have hbb := hB.1 (hn 10 (by decide)); have hov := hB.2.1 (hn 11 (by decide)); have e5 : g' 27 = .slice b lm capb := (hp 5 (by decide)).2; have e6 : g' 28 = .int .i64 (i : Int) := (hp 6 (by decide)).2; simp only [mkM, maskAL, mixM, Nat.reduceAdd, hov, e5, e6] at hK ⊢; clear hov e5 e6; simp only [Act.put, List.setIfInBounds_toArray, List.set_cons_zero, List.set_cons_succ] at hK; go_simp; go_at_call 105; refine (bat13_any _ m i _ (HM.out.below (BB.step HBR.out hbb)) HC.out.2).mono ?_; rintro e w7 ⟨z, rfl, hz, hb⟩; go_wp2_with fail; exact hK.out _ _ ⟨fun _ => BB.step hbb hb, fun h => (updG_ne (by decide)).trans (hB.2.1 (by rw [setL_ne (by decide)] at h; exact h)), fun h => by rw [setL_ne (by decide), hn 11 (by decide)] at h; cases h⟩ (GF.below hb) hz
          refine StepsMB.cons (fun l g' wu hB hl hn hp K hK => ?_) ?_
          · have hbb := hB.1 (hn 10 (by decide)); have hov := hB.2.1 (hn 11 (by decide)); have e1 : g' 23 = .agg #[.slice pa pl pc, .slice qa ql qc, .slice ga gl gc, .slice ja jl jc] := (hp 1 (by decide)).2; have h4 : BN wu (g' 26) (p.getD i 0) := (hp 4 (by decide)).2; have h7 : BN wu (g' 29) (m.getD i 0) := (hp 7 (by decide)).2; simp only [mkM, maskAL, mixM, Nat.reduceAdd, hov, e1] at hK ⊢; clear hov e1; simp only [Act.put, List.setIfInBounds_toArray, List.set_cons_zero, List.set_cons_succ] at hK; go_simp; go_at_call 49; refine (bpof_any _ _ _ P Q G H _ _ _ (HBG.out _ (BB.step HBR.out hbb)) h4 h7 hP0 hL).mono ?_; rintro e w7 ⟨z, rfl, hz, hb⟩; go_wp2_with fail; exact hK.out _ _ ⟨fun _ => BB.step hbb hb, fun h => (updG_ne (by decide)).trans (hB.2.1 (by rw [setL_ne (by decide)] at h; exact h)), fun h => by rw [setL_ne (by decide), hn 11 (by decide)] at h; cases h⟩ (GF.below hb) hz
          refine StepsMB.cons (fun l g' wu hB hl hn hp K hK => ?_) ?_
          · have hbb := hB.1 (hn 10 (by decide)); have hov := hB.2.1 (hn 11 (by decide)); have h8 : BN wu (g' 30) (pdD P G H (p.getD i 0) (m.getD i 0)) := (hp 8 (by decide)).2; obtain ⟨za, zc, ez, _, _, _, _⟩ := id h8; rw [ez] at h8; have hz := hbb.size; simp only [mkM, maskAL, mixM, Nat.reduceAdd, hov, ez] at hK ⊢; clear hov; simp only [Act.put, List.setIfInBounds_toArray, List.set_cons_zero, List.set_cons_succ] at hK; go_simp; exact hK.out _ _ ⟨fun _ => BB.step hbb ((Below.refl _ _).alloc (Nat.le_refl _) _), fun h => (updG_ne (by decide)).trans (hB.2.1 (by rw [setL_ne (by decide)] at h; exact h)), fun h => by rw [setL_ne (by decide), hn 11 (by decide)] at h; cases h⟩ GF.alloc (IsLit.new hz h8)
          refine StepsMB.cons (fun l g' wu hB hl hn hp K hK => ?_) ?_
          · have hbb := hB.1 hl; have hov := hB.2.1 (hn 11 (by decide)); have e0 : g' 22 = ov := (hp 0 (by decide)).2; have h9 : IsLit wr.heap.size (pdD P G H (p.getD i 0) (m.getD i 0)) (g' 31) wu := (hp 9 (by decide)).2; obtain ⟨q, za, zl, zc, ez, hq1, hq2, hq3, hq4⟩ := h9; have HOU := HO.out.below hbb; have hsz := HZ.out; have hsz2 := hbb.size; simp only [mkM, maskAL, mixM, Nat.reduceAdd, hov, e0, ez] at hK ⊢; clear hov e0; simp only [Act.put, List.setIfInBounds_toArray, List.set_cons_zero, List.set_cons_succ] at hK; refine wanted_go rfl ?_; refine wp_append_bn (.tmp 22) (.tmp 31) rfl s1 ov L rfl HOU ⟨q, 0, none⟩ 1 x za zl zc rfl hq3 (HX.out ▸ hq4) HLL.out (by omega) ?_; intro v9 w9 hown hgr hf; exact hK.out v9 w9 ⟨(fun h => by rw [setL_eq] at h; cases h), fun h => (updG_ne (by decide)).trans (hB.2.1 (by rw [setL_ne (by decide)] at h; exact h)), fun h => by rw [setL_ne (by decide), hn 11 (by decide)] at h; cases h⟩ ((HOU.kpq (B0 := wr.heap.size) (fun k hk => (HO.out.lt hk).2) hgr).elim (fun a b => GF.kept rfl ⟨a, b⟩)) ⟨hown, below_grown (HB.out.trans (Below.mono hbb HZ.out)) hgr (fun k hk => (HO.out.lt hk).1) (by omega), by have := hgr.size; omega⟩
          refine StepsMB.cons (fun l g' wu hB hl hn hp K hK => ?_) ?_
          · have hov := hB.2.1 hl; have h10 : OwnN wu s1 (g' 32) (L ++ [x]) ∧ Below s1 w1 wu ∧ s1 ≤ wu.heap.size := (hp 10 (by decide)).2; simp only [mkM, maskAL, mixM, Nat.reduceAdd, hov] at hK ⊢; clear hov; simp only [Act.put, List.setIfInBounds_toArray, List.set_cons_zero, List.set_cons_succ] at hK; go_simp; exact hK.out _ _ ⟨(fun h => by rw [setL_ne (by decide), (hp 10 (by decide)).1] at h; cases h), (fun h => by rw [setL_eq] at h; cases h), fun _ => by rw [updG_eq, updG_ne (by decide)]⟩ GF.same trivial
          exact StepsMB.nil
        · intro l g' wu hall hB hG
          have h10 : OwnN wu s1 (g' 32) (L ++ [x]) ∧ Below s1 w1 wu ∧ s1 ≤ wu.heap.size := hG 10 (by decide)
          have e7 := hB.2.2 (hall 11 (by decide))
          obtain ⟨nv, hnv⟩ : ∃ nv, g' 32 = nv := ⟨_, rfl⟩
          rw [hnv] at h10 e7
          have HE := Lib.hid h10
          simp only [mkM, maskAL, mixM, Nat.reduceAdd, e7]
          clear hG hall hB h10 e7 hnv
          go_wp2_with fail
          go_roundw
          case rel => exact ⟨i + 1, _, rfl, by omega, by go_num, HTS.out.symm ▸ HE.out.1, HE.out.2.1, HE.out.2.2⟩
          case measure => simp [intOf]; omega
      · have c2 : (i : Int) < lm := by omega
        go_wp2_with fail
        refine wp_region_mixB (fun l g w' => (l 10 = false → BB wr w') ∧ (l 11 = false → g 7 = ov) ∧ (l 11 = true → g 7 = g 32)) (GF (tabAL wr.heap.size (ov) (.agg #[.slice pa pl pc, .slice qa ql qc, .slice ga gl gc, .slice ja jl jc]) (.slice a lp cap) (.int .i64 (i : Int)) (p.getD i 0) (.slice b lm capb) (.int .i64 (i : Int)) (m.getD i 0) (pdD P G H (p.getD i 0) (m.getD i 0)) (Fk.lit (pdD P G H (p.getD i 0) (m.getD i 0))) (Fk.rel (fun v w => OwnN w s1 v (L ++ [x]) ∧ Below s1 w1 w ∧ s1 ≤ w.heap.size) (fun _ _ _ hb h => ⟨h.1.below hb, h.2.1.trans (hb.mono h.2.2), Nat.le_trans h.2.2 hb.size⟩)))) maskAL dstAL preAL (by kernel_rfl) (by kernel_rfl) rfl (by kernel_rfl) (by kernel_rfl) (by kernel_rfl) (by kernel_rfl) ⟨fun _ => BB.drew (BB.refl _), fun _ => rfl, fun h => by cases h⟩ ?_ ?_
        · refine StepsMB.cons (fun l g' wu hB hl hn hp K hK => ?_) ?_
          · have hbb := hB.1 (hn 10 (by decide)); have hov := hB.2.1 (hn 11 (by decide)); simp only [mkM, maskAL, mixM, Nat.reduceAdd, hov] at hK ⊢; clear hov; simp only [Act.put, List.setIfInBounds_toArray, List.set_cons_zero, List.set_cons_succ] at hK; go_simp; exact hK.out _ _ ⟨fun h => hB.1 (by rw [setL_ne (by decide)] at h; exact h), fun h => (updG_ne (by decide)).trans (hB.2.1 (by rw [setL_ne (by decide)] at h; exact h)), fun h => by rw [setL_ne (by decide), hn 11 (by decide)] at h; cases h⟩ GF.same rfl
          refine StepsMB.cons (fun l g' wu hB hl hn hp K hK => ?_) ?_
          · have hbb := hB.1 (hn 10 (by decide)); have hov := hB.2.1 (hn 11 (by decide)); have c0 := gP _ (BB.step HBR.out hbb); have c1 := gQ _ (BB.step HBR.out hbb); have c2 := gG _ (BB.step HBR.out hbb); have c3 := gH _ (BB.step HBR.out hbb); simp only [mkM, maskAL, mixM, Nat.reduceAdd, hov] at hK ⊢; clear hov; simp only [Act.put, List.setIfInBounds_toArray, List.set_cons_zero, List.set_cons_succ] at hK; go_simp; exact hK.out _ _ ⟨fun h => hB.1 (by rw [setL_ne (by decide)] at h; exact h), fun h => (updG_ne (by decide)).trans (hB.2.1 (by rw [setL_ne (by decide)] at h; exact h)), fun h => by rw [setL_ne (by decide), hn 11 (by decide)] at h; cases h⟩ GF.same rfl
          refine StepsMB.cons (fun l g' wu hB hl hn hp K hK => ?_) ?_
          · have hbb := hB.1 (hn 10 (by decide)); have hov := hB.2.1 (hn 11 (by decide)); simp only [mkM, maskAL, mixM, Nat.reduceAdd, hov] at hK ⊢; clear hov; simp only [Act.put, List.setIfInBounds_toArray, List.set_cons_zero, List.set_cons_succ] at hK; go_simp; exact hK.out _ _ ⟨fun h => hB.1 (by rw [setL_ne (by decide)] at h; exact h), fun h => (updG_ne (by decide)).trans (hB.2.1 (by rw [setL_ne (by decide)] at h; exact h)), fun h => by rw [setL_ne (by decide), hn 11 (by decide)] at h; cases h⟩ GF.same rfl
          refine StepsMB.cons (fun l g' wu hB hl hn hp K hK => ?_) ?_
          · have hbb := hB.1 (hn 10 (by decide)); have hov := hB.2.1 (hn 11 (by decide)); simp only [mkM, maskAL, mixM, Nat.reduceAdd, hov] at hK ⊢; clear hov; simp only [Act.put, List.setIfInBounds_toArray, List.set_cons_zero, List.set_cons_succ] at hK; go_simp; exact hK.out _ _ ⟨fun h => hB.1 (by rw [setL_ne (by decide)] at h; exact h), fun h => (updG_ne (by decide)).trans (hB.2.1 (by rw [setL_ne (by decide)] at h; exact h)), fun h => by rw [setL_ne (by decide), hn 11 (by decide)] at h; cases h⟩ GF.same rfl
          refine StepsMB.cons (fun l g' wu hB hl hn hp K hK => ?_) ?_
          · have hbb := hB.1 (hn 10 (by decide)); have hov := hB.2.1 (hn 11 (by decide)); have e2 : g' 24 = .slice a lp cap := (hp 2 (by decide)).2; have e3 : g' 25 = .int .i64 (i : Int) := (hp 3 (by decide)).2; simp only [mkM, maskAL, mixM, Nat.reduceAdd, hov, e2, e3] at hK ⊢; clear hov e2 e3; simp only [Act.put, List.setIfInBounds_toArray, List.set_cons_zero, List.set_cons_succ] at hK; go_simp; go_at_call 105; refine (bat13_any _ p i _ (HA.out.below (BB.step HBR.out hbb)) HC.out.1).mono ?_; rintro e w7 ⟨z, rfl, hz, hb⟩; go_wp2_with fail; exact hK.out _ _ ⟨fun _ => BB.step hbb hb, fun h => (updG_ne (by decide)).trans (hB.2.1 (by rw [setL_ne (by decide)] at h; exact h)), fun h => by rw [setL_ne (by decide), hn 11 (by decide)] at h; cases h⟩ (GF.below hb) hz
          refine StepsMB.cons (fun l g' wu hB hl hn hp K hK => ?_) ?_
          · have hbb := hB.1 (hn 10 (by decide)); have hov := hB.2.1 (hn 11 (by decide)); simp only [mkM, maskAL, mixM, Nat.reduceAdd, hov] at hK ⊢; clear hov; simp only [Act.put, List.setIfInBounds_toArray, List.set_cons_zero, List.set_cons_succ] at hK; go_simp; exact hK.out _ _ ⟨fun h => hB.1 (by rw [setL_ne (by decide)] at h; exact h), fun h => (updG_ne (by decide)).trans (hB.2.1 (by rw [setL_ne (by decide)] at h; exact h)), fun h => by rw [setL_ne (by decide), hn 11 (by decide)] at h; cases h⟩ GF.same rfl
          refine StepsMB.cons (fun l g' wu hB hl hn hp K hK => ?_) ?_
          · have hbb := hB.1 (hn 10 (by decide)); have hov := hB.2.1 (hn 11 (by decide)); simp only [mkM, maskAL, mixM, Nat.reduceAdd, hov] at hK ⊢; clear hov; simp only [Act.put, List.setIfInBounds_toArray, List.set_cons_zero, List.set_cons_succ] at hK; go_simp; exact hK.out _ _ ⟨fun h => hB.1 (by rw [setL_ne (by decide)] at h; exact h), fun h => (updG_ne (by decide)).trans (hB.2.1 (by rw [setL_ne (by decide)] at h; exact h)), fun h => by rw [setL_ne (by decide), hn 11 (by decide)] at h; cases h⟩ GF.same rfl
          refine StepsMB.cons (fun l g' wu hB hl hn hp K hK => ?_) ?_
          · have hbb := hB.1 (hn 10 (by decide)); have hov := hB.2.1 (hn 11 (by decide)); have e5 : g' 27 = .slice b lm capb := (hp 5 (by decide)).2; have e6 : g' 28 = .int .i64 (i : Int) := (hp 6 (by decide)).2; simp only [mkM, maskAL, mixM, Nat.reduceAdd, hov, e5, e6] at hK ⊢; clear hov e5 e6; simp only [Act.put, List.setIfInBounds_toArray, List.set_cons_zero, List.set_cons_succ] at hK; go_simp; go_at_call 105; refine (bat13_any _ m i _ (HM.out.below (BB.step HBR.out hbb)) HC.out.2).mono ?_; rintro e w7 ⟨z, rfl, hz, hb⟩; go_wp2_with fail; exact hK.out _ _ ⟨fun _ => BB.step hbb hb, fun h => (updG_ne (by decide)).trans (hB.2.1 (by rw [setL_ne (by decide)] at h; exact h)), fun h => by rw [setL_ne (by decide), hn 11 (by decide)] at h; cases h⟩ (GF.below hb) hz
          refine StepsMB.cons (fun l g' wu hB hl hn hp K hK => ?_) ?_
          · have hbb := hB.1 (hn 10 (by decide)); have hov := hB.2.1 (hn 11 (by decide)); have e1 : g' 23 = .agg #[.slice pa pl pc, .slice qa ql qc, .slice ga gl gc, .slice ja jl jc] := (hp 1 (by decide)).2; have h4 : BN wu (g' 26) (p.getD i 0) := (hp 4 (by decide)).2; have h7 : BN wu (g' 29) (m.getD i 0) := (hp 7 (by decide)).2; simp only [mkM, maskAL, mixM, Nat.reduceAdd, hov, e1] at hK ⊢; clear hov e1; simp only [Act.put, List.setIfInBounds_toArray, List.set_cons_zero, List.set_cons_succ] at hK; go_simp; go_at_call 49; refine (bpof_any _ _ _ P Q G H _ _ _ (HBG.out _ (BB.step HBR.out hbb)) h4 h7 hP0 hL).mono ?_; rintro e w7 ⟨z, rfl, hz, hb⟩; go_wp2_with fail; exact hK.out _ _ ⟨fun _ => BB.step hbb hb, fun h => (updG_ne (by decide)).trans (hB.2.1 (by rw [setL_ne (by decide)] at h; exact h)), fun h => by rw [setL_ne (by decide), hn 11 (by decide)] at h; cases h⟩ (GF.below hb) hz
          refine StepsMB.cons (fun l g' wu hB hl hn hp K hK => ?_) ?_
          · have hbb := hB.1 (hn 10 (by decide)); have hov := hB.2.1 (hn 11 (by decide)); have h8 : BN wu (g' 30) (pdD P G H (p.getD i 0) (m.getD i 0)) := (hp 8 (by decide)).2; obtain ⟨za, zc, ez, _, _, _, _⟩ := id h8; rw [ez] at h8; have hz := hbb.size; simp only [mkM, maskAL, mixM, Nat.reduceAdd, hov, ez] at hK ⊢; clear hov; simp only [Act.put, List.setIfInBounds_toArray, List.set_cons_zero, List.set_cons_succ] at hK; go_simp; exact hK.out _ _ ⟨fun _ => BB.step hbb ((Below.refl _ _).alloc (Nat.le_refl _) _), fun h => (updG_ne (by decide)).trans (hB.2.1 (by rw [setL_ne (by decide)] at h; exact h)), fun h => by rw [setL_ne (by decide), hn 11 (by decide)] at h; cases h⟩ GF.alloc (IsLit.new hz h8)
          refine StepsMB.cons (fun l g' wu hB hl hn hp K hK => ?_) ?_
          · have hbb := hB.1 hl; have hov := hB.2.1 (hn 11 (by decide)); have e0 : g' 22 = ov := (hp 0 (by decide)).2; have h9 : IsLit wr.heap.size (pdD P G H (p.getD i 0) (m.getD i 0)) (g' 31) wu := (hp 9 (by decide)).2; obtain ⟨q, za, zl, zc, ez, hq1, hq2, hq3, hq4⟩ := h9; have HOU := HO.out.below hbb; have hsz := HZ.out; have hsz2 := hbb.size; simp only [mkM, maskAL, mixM, Nat.reduceAdd, hov, e0, ez] at hK ⊢; clear hov e0; simp only [Act.put, List.setIfInBounds_toArray, List.set_cons_zero, List.set_cons_succ] at hK; refine wanted_go rfl ?_; refine wp_append_bn (.tmp 22) (.tmp 31) rfl s1 ov L rfl HOU ⟨q, 0, none⟩ 1 x za zl zc rfl hq3 (HX.out ▸ hq4) HLL.out (by omega) ?_; intro v9 w9 hown hgr hf; exact hK.out v9 w9 ⟨(fun h => by rw [setL_eq] at h; cases h), fun h => (updG_ne (by decide)).trans (hB.2.1 (by rw [setL_ne (by decide)] at h; exact h)), fun h => by rw [setL_ne (by decide), hn 11 (by decide)] at h; cases h⟩ ((HOU.kpq (B0 := wr.heap.size) (fun k hk => (HO.out.lt hk).2) hgr).elim (fun a b => GF.kept rfl ⟨a, b⟩)) ⟨hown, below_grown (HB.out.trans (Below.mono hbb HZ.out)) hgr (fun k hk => (HO.out.lt hk).1) (by omega), by have := hgr.size; omega⟩
          refine StepsMB.cons (fun l g' wu hB hl hn hp K hK => ?_) ?_
          · have hov := hB.2.1 hl; have h10 : OwnN wu s1 (g' 32) (L ++ [x]) ∧ Below s1 w1 wu ∧ s1 ≤ wu.heap.size := (hp 10 (by decide)).2; simp only [mkM, maskAL, mixM, Nat.reduceAdd, hov] at hK ⊢; clear hov; simp only [Act.put, List.setIfInBounds_toArray, List.set_cons_zero, List.set_cons_succ] at hK; go_simp; exact hK.out _ _ ⟨(fun h => by rw [setL_ne (by decide), (hp 10 (by decide)).1] at h; cases h), (fun h => by rw [setL_eq] at h; cases h), fun _ => by rw [updG_eq, updG_ne (by decide)]⟩ GF.same trivial
          exact StepsMB.nil
        · intro l g' wu hall hB hG
          have h10 : OwnN wu s1 (g' 32) (L ++ [x]) ∧ Below s1 w1 wu ∧ s1 ≤ wu.heap.size := hG 10 (by decide)
          have e7 := hB.2.2 (hall 11 (by decide))
          obtain ⟨nv, hnv⟩ : ∃ nv, g' 32 = nv := ⟨_, rfl⟩
          rw [hnv] at h10 e7
          have HE := Lib.hid h10
          simp only [mkM, maskAL, mixM, Nat.reduceAdd, e7]
          clear hG hall hB h10 e7 hnv
          go_wp2_with fail
          go_roundw
          case rel => exact ⟨i + 1, _, rfl, by omega, by go_num, HTS.out.symm ▸ HE.out.1, HE.out.2.1, HE.out.2.2⟩
          case measure => simp [intOf]; omega
    · have hi' : i = max lp lm := by omega
      have c1 : ¬ (i : Int) < lp := by omega
      have c2 : ¬ (i : Int) < lm := by omega
      rw [List.take_of_length_le (by rw [hal]; omega)] at HO
      clear hal
      go_wp2_with fail
      go_ret
      exact ⟨_, rfl, HO.out.row, HB1.out.trans (Below.mono HBR.out HB1.out.size)⟩
end Go.Proofs.Ythefednendgclaa
/-
  The document's bare pledges, and products of rows.
-/
namespace Go.Proofs.Ythefednendgclaa
open Go Go.RowKit Sac


set_option maxRecDepth 100000 in
set_option maxHeartbeats 4000000 in
theorem bbare_any (g v : Value) (P Q G H : Nat) (p : List Nat) (w : World) (hg : BG w g P Q G H) (hv : BRow w v p) (hP0 : 0 < P) (hL : Bt.len P ≤ 400) (hc : (p.length : Int) ≤ 10000) :
    Calls Try.prog 57 #[g, v] w (RetBRow (p.map fun a => G ^ a % P) w) := by
  obtain ⟨pa, pl, pc, qa, ql, qc, ga, gl, gc, ja, jl, jc, rfl, hP, hQ, hG, hH⟩ := hg
  have hbA := (Below.refl _ w).alloc (Nat.le_refl _) (Obj.cells #[Value.slice pa pl pc, Value.slice qa ql qc, Value.slice ga gl gc, Value.slice ja jl jc] 62)
  have hB : Blk (w.alloc (Obj.cells #[Value.slice pa pl pc, Value.slice qa ql qc, Value.slice ga gl gc, Value.slice ja jl jc] 62)) w.heap.size 62 [.slice pa pl pc, .slice qa ql qc, .slice ga gl gc, .slice ja jl jc] := Blk.new w _ _
  obtain ⟨s, hs⟩ : ∃ s, s = w.heap.size := ⟨_, rfl⟩
  rw [← hs] at hB
  have HP1 := Lib.hid (hP.below hbA)
  have HQ1 := Lib.hid (hQ.below hbA)
  have HG1 := Lib.hid (hG.below hbA)
  have HH1 := Lib.hid (hH.below hbA)
  have HB1 := Lib.hid hbA
  clear hP hQ hG hH hbA
  have HV1 := Lib.hid (hv.below HB1.out)
  obtain ⟨lp, hlp⟩ : ∃ len, p.length = len := ⟨_, rfl⟩
  have HLP := Lib.hid hlp
  obtain ⟨a, cap, rfl, hcap⟩ := hv.form
  rw [hlp] at HV1 hcap hc ⊢
  have hcap' : (lp : Int) ≤ cap := by omega
  clear hv hlp
  go_enter Try.func57, Try.ntmps57
  go_wp2_with fail
  rw [← hs]
  have hs1 : s + 1 = (w.alloc (Obj.cells #[Value.slice pa pl pc, Value.slice qa ql qc, Value.slice ga gl gc, Value.slice ja jl jc] 62)).heap.size := by rw [hs]; simp
  clear hs
  generalize w.alloc (Obj.cells #[Value.slice pa pl pc, Value.slice qa ql qc, Value.slice ga gl gc, Value.slice ja jl jc] 62) = w1 at hB HP1 HQ1 HG1 HH1 HB1 HV1 hs1 ⊢
  have gP : ∀ w', BB w1 w' → w'.cell? ⟨s, 0, none⟩ = some (.slice pa pl pc) := fun w' hb => (BB.cell hb hB.lt).trans (hB.cell 0)
  have gQ : ∀ w', BB w1 w' → w'.cell? ⟨s, 1, none⟩ = some (.slice qa ql qc) := fun w' hb => (BB.cell hb hB.lt).trans (hB.cell 1)
  have gG : ∀ w', BB w1 w' → w'.cell? ⟨s, 2, none⟩ = some (.slice ga gl gc) := fun w' hb => (BB.cell hb hB.lt).trans (hB.cell 2)
  have gH : ∀ w', BB w1 w' → w'.cell? ⟨s, 3, none⟩ = some (.slice ja jl jc) := fun w' hb => (BB.cell hb hB.lt).trans (hB.cell 3)
  clear hB
  obtain ⟨s1, hse⟩ : ∃ s1, s1 = s + 1 := ⟨_, rfl⟩
  rw [← hse] at hs1 ⊢
  clear hse
  have HS1 := Lib.hid hs1
  have HO1 : Hid (OwnN (w1.alloc (Obj.cells #[] 48)) s1 (.slice (some ⟨s1, 0, none⟩) 0 0) []) := OwnN.nil0 w1 s1 hs1
  have HBB1 : Hid (Below s1 w1 (w1.alloc (Obj.cells #[] 48))) := by rw [hs1]; exact (Below.refl _ w1).alloc (Nat.le_refl _) _
  have HZ1 : Hid (s1 ≤ (w1.alloc (Obj.cells #[] 48)).heap.size) := by show _ ≤ _; rw [hs1]; simp
  clear hs1
  generalize w1.alloc (Obj.cells #[] 48) = w2 at HO1 HBB1 HZ1 ⊢
  have HBG : Hid (∀ w', BB w1 w' → BG w' (.agg #[.slice pa pl pc, .slice qa ql qc, .slice ga gl gc, .slice ja jl jc]) P Q G H) := fun w' h => ⟨pa, pl, pc, qa, ql, qc, ga, gl, gc, ja, jl, jc, rfl, HP1.out.below h, HQ1.out.below h, HG1.out.below h, HH1.out.below h⟩
  go_wp2_with fail
  go_loopw [5, 11] (fun ov0 iv wr => ∃ (i : Nat) (ov : Value), ov = ov0 ∧ (i : Int) ≤ lp ∧ iv = .int .i64 (i : Int) ∧ Hid (OwnN wr s1 ov ((p.map fun a => G ^ a % P).take i)) ∧ Hid (Below s1 w1 wr) ∧ Hid (s1 ≤ wr.heap.size)) (fun _ iv _ => lp - (intOf iv).toNat)
  case atStart => exact ⟨0, _, rfl, by omega, rfl, HO1.out, HBB1.out, HZ1.out⟩
  case round =>
    clear HO1 HBB1 HZ1
    obtain ⟨i, ov, rfl, hi, rfl, HO, HB, HZ⟩ := hrel
    have HBR : Hid (BB w1 wr) := by
      have h := HB.out
      rw [HS1.out] at h
      exact h
    by_cases hlt : (i : Int) < lp
    · have hil : i < p.length := by rw [HLP.out]; omega
      obtain ⟨ad, xa, xl, xc, rfl, gX, nX⟩ := (HV1.out.below HBR.out).get hil
      obtain ⟨x, hx⟩ : ∃ x, p.getD i 0 = x := ⟨_, rfl⟩
      rw [hx] at nX
      have NX := Lib.hid nX
      obtain ⟨L, hLL⟩ : ∃ L, (p.map fun a => G ^ a % P).take i = L := ⟨_, rfl⟩
      have hts : (p.map fun a => G ^ a % P).take (i + 1) = L ++ [G ^ x % P] := by
        rw [take_snoc (by rw [List.length_map]; exact hil), hLL, ← hx]
        simp [List.getD_eq_getElem?_getD, hil]
      have hLl : L.length ≤ 100000 := by rw [← hLL, List.length_take]; omega
      rw [hLL] at HO
      have HTS := Lib.hid hts
      have HLL := Lib.hid hLl
      have cX := gX wr (BB.refl _)
      have c0 := gP wr HBR.out
      have c1 := gQ wr HBR.out
      have c2 := gG wr HBR.out
      have c3 := gH wr HBR.out
      have HGB := Lib.hid (HBG.out wr HBR.out)
      have HGG := Lib.hid (HG1.out.below HBR.out)
      have b0 : (0 : Int) ≤ (i : Int) := by omega
      have b2 : (i : Int) ≤ (cap : Int) := by omega
      clear hil hx nX hLL hts hLl gX
      go_wp2_with fail
      refine (bgexp_any _ _ _ P Q G H G x wr HGB.out HGG.out NX.out hP0 hL).mono ?_
      rintro e w3 ⟨z, rfl, hz, hb3⟩
      obtain ⟨za, zc, rfl, _, _, _, _⟩ := id hz
      have HO3 := Lib.hid (HO.out.below hb3)
      have HB3 := Lib.hid (HB.out.trans (hb3.mono HZ.out))
      have HZ3 := Lib.hid (Nat.le_trans HZ.out hb3.size)
      obtain ⟨zl, hzl⟩ : ∃ zl, Bt.len (G ^ x % P) = zl := ⟨_, rfl⟩
      rw [hzl] at hz ⊢
      have hbx := (Below.refl _ w3).alloc (Nat.le_refl _) (Obj.cells #[Value.slice za zl zc] 48)
      have HN4 := Lib.hid (hz.below hbx)
      have cR := (Blk.new w3 [Value.slice za zl zc] 48).cell 0
      simp only [List.getElem?_cons_zero] at cR
      clear hz hb3 HO HB HZ hzl hbx HGB HGG c0 c1 c2 c3 cX
      go_wp2_with (first | (at_builtin; refine wpList_append_bn _ rfl (.tmp 15) (.tmp 21) rfl s1 _ L rfl (HO3.out.alloc _) ⟨w3.heap.size, 0, none⟩ 1 (G ^ x % P) za zl zc rfl cR HN4.out HLL.out (by have := HZ3.out; simp; omega) ?_; intro v' w4 hown hgr _; have HO4 := Lib.hid hown; have HB4 := Lib.hid (below_appN HB3.out HO3.out hgr HZ3.out); clear hown hgr))
      go_roundw
      case rel => exact ⟨i + 1, _, rfl, by omega, by go_num, HTS.out.symm ▸ HO4.out, HB4.out.1, HB4.out.2⟩
      case measure => simp [intOf]; omega
    · have hi' : i = lp := by omega
      obtain rfl : lp = i := hi'.symm
      rw [List.take_of_length_le (by rw [List.length_map, HLP.out]; exact Nat.le_refl _)] at HO
      go_wp2_with fail
      go_ret
      exact ⟨_, rfl, HO.out.row, HB1.out.trans (Below.mono HBR.out HB1.out.size)⟩

/-! ### Products of rows -/
/-- What the first t rows make at place i. -/
def prodAt (P : Nat) (rows : List (List Nat)) (i : Nat) : Nat → Nat
  | 0 => 1
  | t + 1 => if i < (rows.getD t []).length then prodAt P rows i t * (rows.getD t []).getD i 0 % P else prodAt P rows i t
/-- The length of the longest of the first t rows. -/
def mxl (rows : List (List Nat)) : Nat → Nat
  | 0 => 0
  | t + 1 => max (mxl rows t) (rows.getD t []).length
def joinD (P : Nat) (rows : List (List Nat)) (n : Nat) : List Nat := (List.range (mxl rows n)).map fun i => prodAt P rows i n
theorem joinD_length (P : Nat) (rows : List (List Nat)) (n : Nat) : (joinD P rows n).length = mxl rows n := by simp [joinD]
theorem joinD_get (P : Nat) (rows : List (List Nat)) (n i : Nat) (h : i < mxl rows n) : (joinD P rows n).getD i 0 = prodAt P rows i n := by
  simp [joinD, List.getD_eq_getElem?_getD, List.getElem?_map, List.getElem?_range h]
theorem mxl_le {rows : List (List Nat)} {B : Nat} (h : ∀ t, (rows.getD t []).length ≤ B) : ∀ n, mxl rows n ≤ B
  | 0 => Nat.zero_le _
  | n + 1 => by
    have h1 := mxl_le h n
    have h2 := h n
    show max _ _ ≤ B
    omega
theorem prodAt_len {P : Nat} (hP : 0 < P) (hL : Bt.len P ≤ 400) (rows : List (List Nat)) (i : Nat) : ∀ t, Bt.len (prodAt P rows i t) ≤ 400
  | 0 => by show Bt.len 1 ≤ 400; decide
  | t + 1 => by
    unfold prodAt
    by_cases h : i < (rows.getD t []).length
    · rw [if_pos h]; exact Nat.le_trans (len_mod _ hP) hL
    · rw [if_neg h]; exact prodAt_len hP hL rows i t
/-- Block lb holds these rows. -/
def RowsD (w : World) (lb n : Nat) (rows : List (List Nat)) : Prop := lb < w.heap.size ∧ ∀ t, t < n → ∃ (ra : Option Addr) (rn rc : Nat), w.cell? ⟨lb, t, none⟩ = some (.slice ra rn rc) ∧ rn = (rows.getD t []).length ∧ rn ≤ rc ∧ BRow w (.slice ra rn rc) (rows.getD t [])
theorem RowsD.below {w w' : World} {lb n : Nat} {rows : List (List Nat)} (h : RowsD w lb n rows) (hb : Below w.heap.size w w') : RowsD w' lb n rows :=
  ⟨Nat.lt_of_lt_of_le h.1 hb.size, fun t ht => by
    obtain ⟨ra, rn, rc, h1, h2, h3, h4⟩ := h.2 t ht
    exact ⟨ra, rn, rc, (BB.cell hb h.1).trans h1, h2, h3, h4.below hb⟩⟩
def tabJD (B0 : Nat) (v0 : Value) (v1 : Value) (v2 : Value) (v3 : Value) (v4 : Value) (v5 : Value) (n6 : Nat) (p7 : Fk (KpQ B0)) : List (Fk (KpQ B0)) := [.val v0, .val v1, .val v2, .val v3, .val v4, .val v5, Fk.bn n6, p7]
def dstJD : List (Option Tmp) := [some 25, some 26, some 27, some 28, some 29, some 30, some 31, some 7]
def preJD : List (List Nat) := [[], [], [], [], [2, 3], [2, 3, 4], [0, 1, 2, 3, 4, 5], [0, 1, 2, 3, 4, 5, 6]]
def maskJD : List Bool := [false, false, false, false, false, false, false, true, false, false, false, false, false, false, false, false, false, false, false, false, false, false, false, false, false, true, true, true, true, true, true, true, false, false, false, false, false, false, false, false]

set_option maxRecDepth 100000 in
set_option maxHeartbeats 4000000 in
theorem bjoin_any (g : Value) (P Q G H lb n : Nat) (rows : List (List Nat)) (w : World) (hg : BG w g P Q G H) (hv : RowsD w lb n rows) (hP0 : 0 < P) (hL : Bt.len P ≤ 400) (hn : (n : Int) ≤ 1000) (hc : ∀ t, (rows.getD t []).length ≤ 10000) (hls : ∀ t i, Bt.len ((rows.getD t []).getD i 0) ≤ 400) :
    Calls Try.prog 58 #[g, .slice (some ⟨lb, 0, none⟩) n n] w (RetBRow (joinD P rows n) w) := by
  obtain ⟨pa, pl, pc, qa, ql, qc, ga, gl, gc, ja, jl, jc, rfl, hP, hQ, hG, hH⟩ := hg
  have hbA := (Below.refl _ w).alloc (Nat.le_refl _) (Obj.cells #[Value.slice pa pl pc, Value.slice qa ql qc, Value.slice ga gl gc, Value.slice ja jl jc] 62)
  have hB : Blk (w.alloc (Obj.cells #[Value.slice pa pl pc, Value.slice qa ql qc, Value.slice ga gl gc, Value.slice ja jl jc] 62)) w.heap.size 62 [.slice pa pl pc, .slice qa ql qc, .slice ga gl gc, .slice ja jl jc] := Blk.new w _ _
  obtain ⟨s, hs⟩ : ∃ s, s = w.heap.size := ⟨_, rfl⟩
  rw [← hs] at hB
  have HP1 := Lib.hid (hP.below hbA)
  have HQ1 := Lib.hid (hQ.below hbA)
  have HG1 := Lib.hid (hG.below hbA)
  have HH1 := Lib.hid (hH.below hbA)
  have HB1 := Lib.hid hbA
  clear hP hQ hG hH hbA
  have HV1 := Lib.hid (hv.below HB1.out)
  have HC := Lib.hid hc
  have HLS := Lib.hid hls
  clear hv hc hls
  go_enter Try.func58, Try.ntmps58
  go_wp2_with fail
  rw [← hs]
  have hs1 : s + 1 = (w.alloc (Obj.cells #[Value.slice pa pl pc, Value.slice qa ql qc, Value.slice ga gl gc, Value.slice ja jl jc] 62)).heap.size := by rw [hs]; simp
  clear hs
  generalize w.alloc (Obj.cells #[Value.slice pa pl pc, Value.slice qa ql qc, Value.slice ga gl gc, Value.slice ja jl jc] 62) = w1 at hB HP1 HQ1 HG1 HH1 HB1 HV1 hs1 ⊢
  have gP : ∀ w', BB w1 w' → w'.cell? ⟨s, 0, none⟩ = some (.slice pa pl pc) := fun w' hb => (BB.cell hb hB.lt).trans (hB.cell 0)
  have gQ : ∀ w', BB w1 w' → w'.cell? ⟨s, 1, none⟩ = some (.slice qa ql qc) := fun w' hb => (BB.cell hb hB.lt).trans (hB.cell 1)
  have gG : ∀ w', BB w1 w' → w'.cell? ⟨s, 2, none⟩ = some (.slice ga gl gc) := fun w' hb => (BB.cell hb hB.lt).trans (hB.cell 2)
  have gH : ∀ w', BB w1 w' → w'.cell? ⟨s, 3, none⟩ = some (.slice ja jl jc) := fun w' hb => (BB.cell hb hB.lt).trans (hB.cell 3)
  clear hB
  obtain ⟨s1, hse⟩ : ∃ s1, s1 = s + 1 := ⟨_, rfl⟩
  rw [← hse] at hs1 ⊢
  clear hse
  have HS1 := Lib.hid hs1
  have HO1 : Hid (OwnN (w1.alloc (Obj.cells #[] 48)) s1 (.slice (some ⟨s1, 0, none⟩) 0 0) []) := OwnN.nil0 w1 s1 hs1
  have HBB1 : Hid (Below s1 w1 (w1.alloc (Obj.cells #[] 48))) := by rw [hs1]; exact (Below.refl _ w1).alloc (Nat.le_refl _) _
  have HZ1 : Hid (s1 ≤ (w1.alloc (Obj.cells #[] 48)).heap.size) := by show _ ≤ _; rw [hs1]; simp
  clear hs1
  generalize w1.alloc (Obj.cells #[] 48) = w2 at HO1 HBB1 HZ1 ⊢
  have HBG : Hid (∀ w', BB w1 w' → BG w' (.agg #[.slice pa pl pc, .slice qa ql qc, .slice ga gl gc, .slice ja jl jc]) P Q G H) := fun w' h => ⟨pa, pl, pc, qa, ql, qc, ga, gl, gc, ja, jl, jc, rfl, HP1.out.below h, HQ1.out.below h, HG1.out.below h, HH1.out.below h⟩
  obtain ⟨M, hM⟩ : ∃ M, mxl rows n = M := ⟨_, rfl⟩
  have HM := Lib.hid hM
  have hM4 : (M : Int) ≤ 10000 := by have := mxl_le HC.out n; omega
  have HMA : Hid (∀ i, i < M → (joinD P rows n).take (i + 1) = (joinD P rows n).take i ++ [prodAt P rows i n]) := fun i hi => by
    rw [take_snoc (by rw [joinD_length, hM]; exact hi), joinD_get _ _ _ _ (by rw [hM]; exact hi)]
  have HJL : Hid ((joinD P rows n).length = M) := by show _ = _; rw [joinD_length, hM]
  clear hM
  go_wp2_with fail
  go_loopw [5, 6] (fun ov0 iv wr => ∃ (i : Nat) (ov : Value), ov = ov0 ∧ i ≤ M ∧ iv = .int .i64 (i : Int) ∧ Hid (OwnN wr s1 ov ((joinD P rows n).take i)) ∧ Hid (Below s1 w1 wr) ∧ Hid (s1 ≤ wr.heap.size)) (fun _ iv _ => M + 1 - (intOf iv).toNat)
  case atStart => exact ⟨0, _, rfl, by omega, rfl, HO1.out, HBB1.out, HZ1.out⟩
  case round =>
    clear HO1 HBB1 HZ1
    obtain ⟨i, ov, rfl, hi, rfl, HO, HB, HZ⟩ := hrel
    go_wp2_with fail
    refine (bsmall_any 1 wr (by decide)).mono ?_
    rintro e w3 ⟨o, rfl, ho, hb3⟩
    have HP3 := Lib.hid ho
    have HO3 := Lib.hid (HO.out.below hb3)
    have HB3 := Lib.hid (HB.out.trans (hb3.mono HZ.out))
    have HZ3 := Lib.hid (Nat.le_trans HZ.out hb3.size)
    clear ho hb3 HO HB HZ
    go_wp2_with fail
    go_loopw [7, 8, 17] (fun pv0 tv iv wr => ∃ (t : Nat) (pv : Value), pv = pv0 ∧ t ≤ n ∧ tv = .bool (decide (i < mxl rows t)) ∧ iv = .int .i64 (t : Int) ∧ Hid (BN wr pv (prodAt P rows i t)) ∧ Hid (OwnN wr s1 ov ((joinD P rows n).take i)) ∧ Hid (Below s1 w1 wr) ∧ Hid (s1 ≤ wr.heap.size)) (fun _ _ iv _ => n - (intOf iv).toNat)
    case atStart => exact ⟨0, _, rfl, by omega, rfl, rfl, HP3.out, HO3.out, HB3.out, HZ3.out⟩
    case round =>
      clear HP3 HO3 HB3 HZ3
      obtain ⟨t, pv, rfl, ht, rfl, rfl, HPV, HOn, HBn, HZn⟩ := hrel
      have HBR : Hid (BB w1 wr) := by
        have h := HBn.out
        rw [HS1.out] at h
        exact h
      by_cases htn : (t : Int) < n
      · obtain ⟨ra, rn, rc, cR, hrn, hcap, hrow⟩ := (HV1.out.below HBR.out).2 t (by omega)
        have hrn2 : (rn : Int) ≤ 10000 := by have := HC.out t; omega
        have b0 : (0 : Int) ≤ (t : Int) := by omega
        by_cases hil : (i : Int) < rn
        · have hst : prodAt P rows i (t + 1) = prodAt P rows i t * (rows.getD t []).getD i 0 % P ∧ true = decide (i < mxl rows (t + 1)) := by
            refine ⟨?_, ?_⟩
            · conv => lhs; unfold prodAt
              rw [if_pos (by omega)]
            · symm
              apply decide_eq_true
              show i < max _ _
              omega
          obtain ⟨rad, xa, xl, xc, rfl, gX, nX⟩ := hrow.get (j := i) (by omega)
          obtain ⟨x, hx⟩ : ∃ x, (rows.getD t []).getD i 0 = x := ⟨_, rfl⟩
          obtain ⟨p0, hp0⟩ : ∃ p0, prodAt P rows i t = p0 := ⟨_, rfl⟩
          have hln : Bt.len p0 ≤ 400 ∧ Bt.len x ≤ 400 := ⟨by rw [← hp0]; exact prodAt_len hP0 hL rows i t, by rw [← hx]; exact HLS.out t i⟩
          rw [hx] at nX hst
          rw [hp0] at hst HPV
          have NX := Lib.hid nX
          have HLN := Lib.hid hln
          have HST : Hid (prodAt P rows i (t + 1) = p0 * x % P ∧ Value.bool true = .bool (decide (i < mxl rows (t + 1)))) := ⟨hst.1, by rw [← hst.2]⟩
          have b2 : (i : Int) ≤ (rc : Int) := by omega
          have b3 : (0 : Int) ≤ (i : Int) := by omega
          clear hx hp0 hln nX hst hrow hcap hrn
          go_wp2_with fail
          refine wp_region_mixB (fun l g w' => (BB wr w') ∧ (l 7 = false → g 7 = pv)) (GF (tabJD 0 (.agg #[.slice pa pl pc, .slice qa ql qc, .slice ga gl gc, .slice ja jl jc]) (pv) (.slice (some rad) rn rc) (.int .i64 (i : Int)) (.pointer (some (rad.add i))) (.slice xa xl xc) (p0 * x % P) (Fk.bn (p0 * x % P)))) maskJD dstJD preJD (by kernel_rfl) (by kernel_rfl) rfl (by kernel_rfl) (by kernel_rfl) (by kernel_rfl) (by kernel_rfl) ⟨BB.drew (BB.refl _), fun _ => rfl⟩ ?_ ?_
          · refine StepsMB.cons (fun l g' wu hB hl hn hp K hK => ?_) ?_
            · have hbb := hB.1; have hov := hB.2 (hn 7 (by decide)); have c0 := gP _ (BB.step HBR.out hbb); have c1 := gQ _ (BB.step HBR.out hbb); have c2 := gG _ (BB.step HBR.out hbb); have c3 := gH _ (BB.step HBR.out hbb); simp only [mkM, maskJD, mixM, Nat.reduceAdd, hov] at hK ⊢; clear hov; simp only [Act.put, List.setIfInBounds_toArray, List.set_cons_zero, List.set_cons_succ] at hK; go_simp; exact hK.out _ _ ⟨hB.1, fun h => (updG_ne (by decide)).trans (hB.2 (by rw [setL_ne (by decide)] at h; exact h))⟩ GF.same rfl
            refine StepsMB.cons (fun l g' wu hB hl hn hp K hK => ?_) ?_
            · have hbb := hB.1; have hov := hB.2 (hn 7 (by decide)); simp only [mkM, maskJD, mixM, Nat.reduceAdd, hov] at hK ⊢; clear hov; simp only [Act.put, List.setIfInBounds_toArray, List.set_cons_zero, List.set_cons_succ] at hK; go_simp; exact hK.out _ _ ⟨hB.1, fun h => (updG_ne (by decide)).trans (hB.2 (by rw [setL_ne (by decide)] at h; exact h))⟩ GF.same rfl
            refine StepsMB.cons (fun l g' wu hB hl hn hp K hK => ?_) ?_
            · have hbb := hB.1; have hov := hB.2 (hn 7 (by decide)); simp only [mkM, maskJD, mixM, Nat.reduceAdd, hov] at hK ⊢; clear hov; simp only [Act.put, List.setIfInBounds_toArray, List.set_cons_zero, List.set_cons_succ] at hK; go_simp; exact hK.out _ _ ⟨hB.1, fun h => (updG_ne (by decide)).trans (hB.2 (by rw [setL_ne (by decide)] at h; exact h))⟩ GF.same rfl
            refine StepsMB.cons (fun l g' wu hB hl hn hp K hK => ?_) ?_
            · have hbb := hB.1; have hov := hB.2 (hn 7 (by decide)); simp only [mkM, maskJD, mixM, Nat.reduceAdd, hov] at hK ⊢; clear hov; simp only [Act.put, List.setIfInBounds_toArray, List.set_cons_zero, List.set_cons_succ] at hK; go_simp; exact hK.out _ _ ⟨hB.1, fun h => (updG_ne (by decide)).trans (hB.2 (by rw [setL_ne (by decide)] at h; exact h))⟩ GF.same rfl
            refine StepsMB.cons (fun l g' wu hB hl hn hp K hK => ?_) ?_
            · have hbb := hB.1; have hov := hB.2 (hn 7 (by decide)); have e2 : g' 27 = .slice (some rad) rn rc := (hp 2 (by decide)).2; have e3 : g' 28 = .int .i64 (i : Int) := (hp 3 (by decide)).2; simp only [mkM, maskJD, mixM, Nat.reduceAdd, hov, e2, e3] at hK ⊢; clear hov e2 e3; simp only [Act.put, List.setIfInBounds_toArray, List.set_cons_zero, List.set_cons_succ] at hK; go_simp; exact hK.out _ _ ⟨hB.1, fun h => (updG_ne (by decide)).trans (hB.2 (by rw [setL_ne (by decide)] at h; exact h))⟩ GF.same rfl
            refine StepsMB.cons (fun l g' wu hB hl hn hp K hK => ?_) ?_
            · have hbb := hB.1; have hov := hB.2 (hn 7 (by decide)); have e4 : g' 29 = .pointer (some (rad.add i)) := (hp 4 (by decide)).2; have hc := gX _ hbb; simp only [mkM, maskJD, mixM, Nat.reduceAdd, hov, e4] at hK ⊢; clear hov e4; simp only [Act.put, List.setIfInBounds_toArray, List.set_cons_zero, List.set_cons_succ] at hK; go_simp; exact hK.out _ _ ⟨hB.1, fun h => (updG_ne (by decide)).trans (hB.2 (by rw [setL_ne (by decide)] at h; exact h))⟩ GF.same rfl
            refine StepsMB.cons (fun l g' wu hB hl hn hp K hK => ?_) ?_
            · have hbb := hB.1; have hov := hB.2 (hn 7 (by decide)); have e0 : g' 25 = .agg #[.slice pa pl pc, .slice qa ql qc, .slice ga gl gc, .slice ja jl jc] := (hp 0 (by decide)).2; have e1 : g' 26 = pv := (hp 1 (by decide)).2; have e5 : g' 30 = .slice xa xl xc := (hp 5 (by decide)).2; simp only [mkM, maskJD, mixM, Nat.reduceAdd, hov, e0, e1, e5] at hK ⊢; clear hov e0 e1 e5; simp only [Act.put, List.setIfInBounds_toArray, List.set_cons_zero, List.set_cons_succ] at hK; go_simp; go_at_call 103; refine (bgmul_any _ _ _ P Q G H p0 x _ (HBG.out _ (BB.step HBR.out hbb)) (HPV.out.below hbb) (NX.out.below hbb) hP0 hL HLN.out.1 HLN.out.2).mono ?_; rintro e w7 ⟨z, rfl, hz, hb⟩; go_wp2_with fail; exact hK.out _ _ ⟨BB.step hbb hb, fun h => (updG_ne (by decide)).trans (hB.2 (by rw [setL_ne (by decide)] at h; exact h))⟩ (GF.below hb) hz
            refine StepsMB.cons (fun l g' wu hB hl hn hp K hK => ?_) ?_
            · have hbb := hB.1; have hov := hB.2 hl; have h6 : BN wu (g' 31) (p0 * x % P) := (hp 6 (by decide)).2; simp only [mkM, maskJD, mixM, Nat.reduceAdd, hov] at hK ⊢; clear hov; simp only [Act.put, List.setIfInBounds_toArray, List.set_cons_zero, List.set_cons_succ] at hK; go_simp; exact hK.out _ _ ⟨hB.1, (fun h => by rw [setL_eq] at h; cases h)⟩ GF.same h6
            exact StepsMB.nil
          · intro l g' wu hall hB hG
            have h7 : BN wu (g' 7) (p0 * x % P) := hG 7 (by decide)
            have HBU := Lib.hid (HBn.out.trans (Below.mono hB.1 HZn.out))
            have HZU : Hid (s1 ≤ wu.heap.size) := Nat.le_trans HZn.out (Below.size hB.1)
            have HOU := Lib.hid (HOn.out.below hB.1)
            obtain ⟨nv, hnv⟩ : ∃ nv, g' 7 = nv := ⟨_, rfl⟩
            rw [hnv] at h7
            have H7 := Lib.hid h7
            simp only [mkM, maskJD, mixM, Nat.reduceAdd, hnv]
            clear hG hall hB h7 hnv
            go_wp2_with fail
            go_roundw
            case rel => exact ⟨t + 1, nv, rfl, by omega, HST.out.2, by go_num, HST.out.1.symm ▸ H7.out, HOU.out, HBU.out, HZU.out⟩
            case measure => simp [intOf]; omega
        · have hst : prodAt P rows i (t + 1) = prodAt P rows i t ∧ decide (i < mxl rows t) = decide (i < mxl rows (t + 1)) := by
            refine ⟨?_, ?_⟩
            · conv => lhs; unfold prodAt
              rw [if_neg (by omega)]
            · apply decide_eq_decide.2
              show _ ↔ i < max _ _
              omega
          have HST := Lib.hid hst
          clear hst hrow hrn hcap
          go_wp2_with fail
          go_roundw
          case rel => exact ⟨t + 1, _, rfl, by omega, by rw [HST.out.2], by go_num, HST.out.1.symm ▸ HPV.out, HOn.out, HBn.out, HZn.out⟩
          case measure => simp [intOf]; omega
      · have ht' : t = n := by omega
        obtain rfl : n = t := ht'.symm
        rw [HM.out]
        by_cases hiM : i < M
        · rw [decide_eq_true hiM]
          have hts := HMA.out i hiM
          obtain ⟨x, hx⟩ : ∃ x, prodAt P rows i n = x := ⟨_, rfl⟩
          obtain ⟨L, hLL⟩ : ∃ L, (joinD P rows n).take i = L := ⟨_, rfl⟩
          have hLl : L.length ≤ 100000 := by rw [← hLL, List.length_take, HJL.out]; omega
          rw [hx] at hts HPV
          rw [hLL] at hts HOn
          have hz := HPV.out
          obtain ⟨za, zc, rfl, _, _, _, _⟩ := id hz
          obtain ⟨zl, hzl⟩ : ∃ zl, Bt.len x = zl := ⟨_, rfl⟩
          rw [hzl] at hz ⊢
          have hbx := (Below.refl _ wr).alloc (Nat.le_refl _) (Obj.cells #[Value.slice za zl zc] 48)
          have HN4 := Lib.hid (hz.below hbx)
          have cR := (Blk.new wr [Value.slice za zl zc] 48).cell 0
          simp only [List.getElem?_cons_zero] at cR
          have HTS := Lib.hid hts
          have HLL := Lib.hid hLl
          clear hts hx hLL hLl hz hzl hbx
          go_wp2_with (first | (at_builtin; refine wpList_append_bn _ rfl (.tmp 36) (.tmp 38) rfl s1 _ L rfl (HOn.out.alloc _) ⟨wr.heap.size, 0, none⟩ 1 x za zl zc rfl cR HN4.out HLL.out (by have := HZn.out; simp; omega) ?_; intro v' w4 hown hgr _; have HO4 := Lib.hid hown; have HB4 := Lib.hid (below_appN HBn.out HOn.out hgr HZn.out); clear hown hgr))
          go_roundw
          case rel => exact ⟨i + 1, _, rfl, by omega, by go_num, HTS.out.symm ▸ HO4.out, HB4.out.1, HB4.out.2⟩
          case measure => simp [intOf]; omega
        · rw [decide_eq_false hiM]
          rw [List.take_of_length_le (by rw [HJL.out]; omega)] at HOn
          go_wp2_with fail
          go_ret
          exact ⟨_, rfl, HOn.out.row, HB1.out.trans (Below.mono HBR.out HB1.out.size)⟩
end Go.Proofs.Ythefednendgclaa
/-
  Pledges: Join of as many rows as there are, and of none.
-/
namespace Go.Proofs.Ythefednendgclaa
open Go Go.RowKit Sac

def joinL (P : Nat) (rows : List (List Nat)) : Nat → List Nat
  | 0 => []
  | t + 1 => jF P (joinL P rows t) (rows.getD t []) (rows.getD t []).length
theorem joinL_length (P : Nat) (rows : List (List Nat)) : ∀ t, (joinL P rows t).length = mxl rows t
  | 0 => rfl
  | t + 1 => by
    have ih := joinL_length P rows t
    show (jF _ _ _ _).length = max _ _
    rw [jF_length, ih]
theorem mxl_leN {rows : List (List Nat)} {B : Nat} : ∀ n, (∀ t, t < n → (rows.getD t []).length ≤ B) → ∀ t, t ≤ n → mxl rows t ≤ B
  | n, h, 0, _ => Nat.zero_le _
  | n, h, t + 1, ht => by
    have h1 := mxl_leN n h t (by omega)
    have h2 := h t (by omega)
    show max _ _ ≤ B
    omega
theorem jF_get (P : Nat) (out c : List Nat) : ∀ k i, i < max out.length k → (jF P out c k).getD i 0 = if i < k then (if i < out.length then out.getD i 0 else 1) * c.getD i 0 % P else out.getD i 0
  | 0, i, hi => by rw [if_neg (Nat.not_lt_zero i)]; rfl
  | k + 1, i, hi => by
    have hlen := jF_length P out c k
    by_cases hk : k = (jF P out c k).length
    · have hok : out.length ≤ k := by omega
      unfold jF
      rw [if_pos hk]
      by_cases hik : i < k
      · rw [List.getD_eq_getElem?_getD, List.getElem?_append_left (by omega), ← List.getD_eq_getElem?_getD, jF_get P out c k i (by omega), if_pos hik, if_pos (show i < k + 1 by omega)]
      · have e : i = k := by omega
        subst e
        rw [List.getD_eq_getElem?_getD, List.getElem?_append_right (by omega), ← hk, Nat.sub_self, if_pos (show i < i + 1 by omega), if_neg (show ¬ i < out.length by omega)]
        rfl
    · have hok : k < out.length := by omega
      unfold jF
      rw [if_neg hk]
      by_cases hik : i = k
      · subst hik
        rw [List.getD_eq_getElem?_getD, List.getElem?_set_self (by omega), if_pos (show i < i + 1 by omega), if_pos hok]
        have := jF_get P out c i i (by omega)
        rw [if_neg (Nat.lt_irrefl i)] at this
        rw [this]; rfl
      · rw [List.getD_eq_getElem?_getD, List.getElem?_set_ne (Ne.symm hik), ← List.getD_eq_getElem?_getD, jF_get P out c k i (by omega)]
        by_cases h2 : i < k
        · rw [if_pos h2, if_pos (show i < k + 1 by omega)]
        · rw [if_neg h2, if_neg (show ¬ i < k + 1 by omega)]
theorem prodAt_one {P : Nat} {rows : List (List Nat)} {i : Nat} : ∀ t, mxl rows t ≤ i → prodAt P rows i t = 1
  | 0, _ => rfl
  | t + 1, h => by
    have h' : max (mxl rows t) (rows.getD t []).length ≤ i := h
    unfold prodAt
    rw [if_neg (by omega)]
    exact prodAt_one t (by omega)
theorem joinL_get (P : Nat) (rows : List (List Nat)) : ∀ t i, i < mxl rows t → (joinL P rows t).getD i 0 = prodAt P rows i t
  | 0, i, h => absurd h (Nat.not_lt_zero i)
  | t + 1, i, h => by
    have h' : i < max (mxl rows t) (rows.getD t []).length := h
    have hl := joinL_length P rows t
    show (jF P (joinL P rows t) (rows.getD t []) (rows.getD t []).length).getD i 0 = _
    rw [jF_get _ _ _ _ _ (by rw [hl]; exact h')]
    unfold prodAt
    by_cases hc : i < (rows.getD t []).length
    · rw [if_pos hc, if_pos hc]
      by_cases hm : i < mxl rows t
      · rw [if_pos (by omega), joinL_get P rows t i hm]
      · rw [if_neg (by omega), prodAt_one t (by omega)]
    · rw [if_neg hc, if_neg hc, joinL_get P rows t i (by omega)]
theorem joinL_eq (P : Nat) (rows : List (List Nat)) (n : Nat) : joinL P rows n = joinD P rows n := by
  refine List.ext_getElem (by rw [joinL_length, joinD_length]) fun i h1 h2 => ?_
  have h3 : i < mxl rows n := by rw [← joinL_length P]; exact h1
  have := (joinL_get P rows n i h3).trans (joinD_get P rows n i h3).symm
  simpa [List.getD_eq_getElem?_getD, h1, h2] using this

/-- Block l holds these rows of the program's numbers. -/
def RowsP (w : World) (l n : Nat) (rows : List (List Nat)) : Prop := l < w.heap.size ∧ ∀ t, t < n → ∃ (ra : Option Addr) (rn rc : Nat), w.cell? ⟨l, t, none⟩ = some (.slice ra rn rc) ∧ NatsAt w ra (rows.getD t []) ∧ (rows.getD t []).length = rn ∧ (rn : Int) ≤ 10000
theorem RowsP.below {w w' : World} {l n : Nat} {rows : List (List Nat)} (h : RowsP w l n rows) (hb : Below w.heap.size w w') : RowsP w' l n rows :=
  ⟨Nat.lt_of_lt_of_le h.1 hb.size, fun t ht => by
    obtain ⟨ra, rn, rc, h1, h2, h3⟩ := h.2 t ht
    exact ⟨ra, rn, rc, (BB.cell hb h.1).trans h1, h2.below hb, h3⟩⟩

set_option maxRecDepth 100000 in
set_option maxHeartbeats 1000000 in
theorem pjoin_none (g P Q G H sz : Nat) (w : World) (hr : GroupAt w g P Q G H sz) :
    Calls Try.prog 41 #[.pointer (some ⟨g, 0, none⟩), .slice none 0 0] w fun e w' => e = .returned (.slice none 0 0) ∧ Below w.heap.size w w' := by
  clear hr
  go_enter Try.func41, Try.ntmps41
  go_wp2_with fail
  go_loop [5, 14] (fun ov iv => ov = .slice none 0 0 ∧ iv = .int .i64 0) (fun _ _ => 0)
  case atStart => exact ⟨rfl, rfl⟩
  case round =>
    obtain ⟨rfl, rfl⟩ := hrel
    go_wp2_with fail
    go_ret
    exact ⟨rfl, Below.refl _ _⟩

set_option maxRecDepth 100000 in
set_option maxHeartbeats 8000000 in
theorem pjoinl_any (g P Q G H sz l n : Nat) (rows : List (List Nat)) (w : World) (hr : GroupAt w g P Q G H sz) (hl : RowsP w l n rows) (hn : (n : Int) ≤ 1000) :
    Calls Try.prog 41 #[.pointer (some ⟨g, 0, none⟩), .slice (some ⟨l, 0, none⟩) n n] w (RetRow (joinL P rows n) w) := by
  obtain ⟨s, hs⟩ : ∃ s, s = w.heap.size := ⟨_, rfl⟩
  have HE0 := Lib.hid ((GE.init w s hs).pushNil)
  have HG := Lib.hid hr
  have HB := Lib.hid hl
  have HS := Lib.hid hs
  clear hr hl hs
  go_enter Try.func41, Try.ntmps41
  go_wp2_with fail
  go_loopw [5, 14] (fun v iv wr => ∃ t : Nat, (t : Int) ≤ n ∧ iv = .int .i64 (t : Int) ∧ Hid (GE w wr s [rowI s v (joinL P rows t)] [])) (fun _ iv _ => n - (intOf iv).toNat)
  case atStart => exact ⟨0, by omega, rfl, HE0.out⟩
  case round =>
    clear HE0
    obtain ⟨t, ht, rfl, HE⟩ := hrel
    have hb0 : BB w wr := by have := HE.out.bel; rw [HS.out] at this; exact this
    by_cases hlt : (t : Int) < n
    · -- the row at hand
      obtain ⟨ra, rn, rc, r, hcell, hrow, hrl, hrc, hnext, hout⟩ : ∃ (ra : Option Addr) (rn rc : Nat) (r : List Nat), wr.cell? ⟨l, t, none⟩ = some (.slice ra rn rc) ∧ NatsAt w ra r ∧ r.length = rn ∧ (rn : Int) ≤ 10000 ∧ jF P (joinL P rows t) r rn = joinL P rows (t + 1) ∧ ((joinL P rows t).length : Int) ≤ 10000 := by
        obtain ⟨ra, rn, rc, e1, e2, e3, e4⟩ := HB.out.2 t (by omega)
        refine ⟨ra, rn, rc, _, (BB.cell hb0 HB.out.1).trans e1, e2, e3, e4, by rw [← e3]; rfl, ?_⟩
        rw [joinL_length]
        have h9 := mxl_leN (rows := rows) (B := 10000) n (fun t ht => by obtain ⟨_, rn, _, _, _, e3, e4⟩ := HB.out.2 t ht; omega) t (by omega)
        omega
      obtain ⟨o, ho⟩ : ∃ o, joinL P rows t = o := ⟨_, rfl⟩
      rw [ho] at HE hnext hout
      have HN := Lib.hid hnext
      have HO := Lib.hid hout
      have HRow := Lib.hid hrow
      have HRL := Lib.hid hrl
      have ht0 : (0 : Int) ≤ (t : Int) := by omega
      clear hnext hrow hrl ho hout
      go_wp2_with fail
      clear hcell
      go_loopw [5, 20] (fun v iv wr' => ∃ k : Nat, (k : Int) ≤ rn ∧ iv = .int .i64 (k : Int) ∧ Hid (GE w wr' s [rowI s v (jF P o r k)] [])) (fun _ iv _ => rn - (intOf iv).toNat)
      case atStart => exact ⟨0, by omega, rfl, HE.out⟩
      case round =>
        clear HE
        obtain ⟨k, hk, rfl, HE⟩ := hrel
        have hb1 : BB w wr := by have := HE.out.bel; rw [HS.out] at this; exact this
        by_cases hltk : (k : Int) < rn
        · have hkl : k < r.length := by rw [HRL.out]; omega
          obtain ⟨y, hy⟩ : ∃ y, r.getD k 0 = y := ⟨_, rfl⟩
          obtain ⟨ad, xa, xl, xc, hadr, _, cx, Nx⟩ := (HRow.out.below hb1).get hkl
          subst hadr
          rw [hy] at Nx
          have HY := Lib.hid hy
          obtain ⟨Z, hZ⟩ : ∃ Z, Z = wr.heap.size := ⟨_, rfl⟩
          have HE2 := Lib.hid (HE.out.alloc Z hZ Nx (c := xc))
          obtain ⟨L, hL⟩ : ∃ L, (jF P o r k).length = L := ⟨_, rfl⟩
          have hkL : k ≤ L := by rw [← hL, jF_length]; omega
          have hLm : (L : Int) ≤ 20000 := by have h3 := HO.out; rw [← hL, jF_length]; omega
          have HLL := Lib.hid hL
          obtain ⟨va, vc, hve, hv1, hv2, _, _⟩ := (HE.out.row 0 rfl).form
          subst hve
          rw [hL] at hv1 HE2 ⊢
          clear Nx hy hkl HE hb1 hL
          by_cases hkl : k = L
          · subst hkl
            have HREL : Hid (jF P o r (k + 1) = (jF P o r k ++ [1]).set k ((jF P o r k ++ [1]).getD k 0 * y % P)) := by
              show _ = _
              have e1 : (jF P o r k ++ [1]).getD k 0 = 1 := by
                rw [List.getD_eq_getElem?_getD, List.getElem?_append_right (by rw [HLL.out]; exact Nat.le_refl _), HLL.out, Nat.sub_self]; rfl
              rw [e1]
              conv => lhs; unfold jF
              rw [if_pos HLL.out.symm, List.set_append_right _ _ (by rw [HLL.out]; exact Nat.le_refl _), HLL.out, Nat.sub_self, HY.out]; rfl
            go_wp2_with fail
            rw [← hZ]
            clear hZ cx
            generalize wr.alloc (Obj.cells #[Value.slice xa xl xc] 33) = wa at HE2 ⊢
            refine (new_s 1 wa (by decide)).mono ?_
            rintro e w3 ⟨ba, bl, bc, rfl, hn, hb3⟩
            have HE3 := Lib.hid (HE2.out.below hb3)
            have hbx := (Below.refl _ w3).alloc (Nat.le_refl _) (Obj.cells #[Value.slice ba bl bc] 33)
            have HE4 := Lib.hid (HE3.out.below hbx)
            have HB4 := Lib.hid (hn.below hbx)
            have cR := (Blk.new w3 [Value.slice ba bl bc] 33).cell 0
            simp only [List.getElem?_cons_zero] at cR
            clear hn hb3 hbx HE2 HE3
            go_wp2_with (first | (refine wpList_append_nat _ rfl (.tmp 29) (.tmp 31) rfl s _ (jF P o r k) rfl (HE4.out.row 0 rfl) ⟨w3.heap.size, 0, none⟩ 1 1 ba bl bc rfl cR HB4.out (by rw [HLL.out]; omega) HE4.out.base ?_; intro v' wb hown hgr hf; have HEr := Lib.hid (HE4.out.append 0 rfl hgr hf hown); clear hown hgr hf))
            have HN2 : Hid ((jF P o r k ++ [1]).length = k + 1) := by show _ = _; rw [List.length_append, List.length_singleton, HLL.out]
            clear HE4 HB4 cR
            have k1 : (k : Int) < (k : Int) + 1 := by omega
            obtain ⟨va', vc', hve, hw1, hw2, _, hgo⟩ := (HEr.out.row 0 rfl).form
            subst hve
            obtain ⟨q, hqe, _⟩ := hgo (fun e => by have h := HN2.out; rw [e] at h; change 0 = _ at h; omega)
            subst hqe
            obtain ⟨oa, ol, oc, cO, fO, NO⟩ := (HEr.out.row 0 rfl).get (j := k) (by have h9 := HN2.out; omega)
            obtain ⟨za, zl, zc, gZ, NZ⟩ := HEr.out.get 1 rfl
            rw [HN2.out] at HEr
            rw [HN2.out]
            have gO : ∀ w', BB wb w' → w'.cell? ⟨q, k, none⟩ = some (.slice oa ol oc) := fun w' h => (h.cell (World.block_lt_of_cell? _ _ cO)).trans cO
            have gF : ∀ w', BB wb w' → w'.frozen? ⟨q, k, none⟩ = false := fun w' h => (BB.frozens h _ (World.block_lt_of_cell? _ _ cO)).trans fO
            have HNO := Lib.hid NO
            have HNZ := Lib.hid NZ
            have hbw : BB w wb := by have := HEr.out.bel; rw [HS.out] at this; exact this
            have HGr := Lib.hid (HG.out.below hbw)
            have cO0 := gO wb.drew (BB.drew (BB.refl _))
            have cZ0 := gZ wb.drew (BB.drew (BB.refl _))
            have k0 : (0 : Int) ≤ (k : Int) := by omega
            clear NO NZ hw1 hw2 hgo cO fO hbw
            go_wp2_with fail
            go_region_law (first | (go_simp; go_at_call 87; refine (gmul_any g P Q G H sz oa za ol oc zl zc _ _ wb.drew HGr.out.drew HNO.out.drew HNZ.out.drew).mono ?_; rintro e w5 ⟨ta, tl, tc, rfl, ht5, hb5⟩; have hbb5 : BB wb w5 := BB.step (BB.drew (BB.refl wb)) hb5; have HT5 := Lib.hid ht5; have HE5 := Lib.hid (HEr.out.below hbb5); have cO5 := gO _ hbb5; have fO5 := gF _ hbb5; clear ht5 hb5))
            all_goals (
              have HE6 := Lib.hid (HE5.out.setRow 0 rfl (j := k) (by have h9 := HN2.out; omega) HT5.out (c := tc))
              go_wp2_with fail
              go_roundw
              case rel => exact ⟨k + 1, by omega, by go_num, by have h7 := HE6.out.take 1; rw [← HREL.out] at h7; exact h7⟩
              case measure => simp [intOf]; omega)
          · have HREL : Hid (jF P o r (k + 1) = (jF P o r k).set k ((jF P o r k).getD k 0 * y % P)) := by
              show _ = _
              conv => lhs; unfold jF
              rw [if_neg (by rw [HLL.out]; exact hkl), HY.out]
            have hkn : ((k : Int) == (L : Int)) = false := by rw [beq_eq_false_iff_ne]; omega
            have k1 : (k : Int) < (L : Int) := by omega
            go_wp2_with fail
            rw [← hZ]
            clear hZ cx
            generalize wr.alloc (Obj.cells #[Value.slice xa xl xc] 33) = wb at HE2 ⊢
            have HEr := HE2
            have HN2 := HLL
            clear HE2
            obtain ⟨va', vc', hve, hw1, hw2, _, hgo⟩ := (HEr.out.row 0 rfl).form
            injection hve with hve1 hve2 hve3
            subst hve1 hve3
            clear hve2
            obtain ⟨q, hqe, _⟩ := hgo (fun e => by have h := HN2.out; rw [e] at h; change 0 = _ at h; omega)
            subst hqe
            obtain ⟨oa, ol, oc, cO, fO, NO⟩ := (HEr.out.row 0 rfl).get (j := k) (by have h9 := HN2.out; omega)
            obtain ⟨za, zl, zc, gZ, NZ⟩ := HEr.out.get 1 rfl
            have gO : ∀ w', BB wb w' → w'.cell? ⟨q, k, none⟩ = some (.slice oa ol oc) := fun w' h => (h.cell (World.block_lt_of_cell? _ _ cO)).trans cO
            have gF : ∀ w', BB wb w' → w'.frozen? ⟨q, k, none⟩ = false := fun w' h => (BB.frozens h _ (World.block_lt_of_cell? _ _ cO)).trans fO
            have HNO := Lib.hid NO
            have HNZ := Lib.hid NZ
            have hbw : BB w wb := by have := HEr.out.bel; rw [HS.out] at this; exact this
            have HGr := Lib.hid (HG.out.below hbw)
            have cO0 := gO wb.drew (BB.drew (BB.refl _))
            have cZ0 := gZ wb.drew (BB.drew (BB.refl _))
            have k0 : (0 : Int) ≤ (k : Int) := by omega
            clear NO NZ hw1 hw2 hgo cO fO hbw
            go_wp2_with fail
            go_region_law (first | (go_simp; go_at_call 87; refine (gmul_any g P Q G H sz oa za ol oc zl zc _ _ wb.drew HGr.out.drew HNO.out.drew HNZ.out.drew).mono ?_; rintro e w5 ⟨ta, tl, tc, rfl, ht5, hb5⟩; have hbb5 : BB wb w5 := BB.step (BB.drew (BB.refl wb)) hb5; have HT5 := Lib.hid ht5; have HE5 := Lib.hid (HEr.out.below hbb5); have cO5 := gO _ hbb5; have fO5 := gF _ hbb5; clear ht5 hb5))
            all_goals (
              have HE6 := Lib.hid (HE5.out.setRow 0 rfl (j := k) (by have h9 := HN2.out; omega) HT5.out (c := tc))
              go_wp2_with fail
              go_roundw
              case rel => exact ⟨k + 1, by omega, by go_num, by have h7 := HE6.out.take 1; rw [← HREL.out] at h7; exact h7⟩
              case measure => simp [intOf]; omega)
        · have hk' : k = rn := by omega
          subst hk'
          rw [HN.out] at HE
          go_wp2_with fail
          go_roundw
          case rel => exact ⟨t + 1, by omega, by go_num, HE.out⟩
          case measure => simp [intOf]; omega
    · have ht' : t = n := by omega
      obtain rfl : n = t := ht'.symm
      go_wp2_with fail
      go_ret
      exact ⟨_, rfl, HS.out ▸ HE.out.row 0 rfl, HS.out ▸ HE.out.bel⟩
end Go.Proofs.Ythefednendgclaa
