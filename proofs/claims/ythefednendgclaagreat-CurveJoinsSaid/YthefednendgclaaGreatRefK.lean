import Derived.Test.YthefednendgclaaGreatRefB
import Derived.Test.YthefednendgclaaGreatInvB
import Derived.Test.YthefednendgclaaGreatHval
import Derived.Test.YthefednendgclaaGreatGrpA
import Derived.Test.YthefednendgclaaGreatInvF
set_option linter.unusedVariables false
set_option linter.unusedSimpArgs false
/-
  The document's pledges of polynomials, with masks and bare.
-/
namespace Go.Proofs.YthefednendgclaaGreat
open Go Go.RowKit Sac

/-! ### What stays while a row of numbers is appended to -/
def KpQ (B0 : Nat) (w w' : World) : Prop := (∀ v n, BN w v n → BN w' v n) ∧ (∀ q u, B0 ≤ q → q < w.heap.size → w.cell? ⟨q, 0, none⟩ = some u → w'.cell? ⟨q, 0, none⟩ = some u) ∧ w.heap.size ≤ w'.heap.size
def Fk.bn {B0 : Nat} (n : Nat) : Fk (KpQ B0) := ⟨fun v w => BN w v n, fun _ _ _ hb h => h.below hb, true, fun _ v _ _ hk h => hk.1 v n h⟩
/-- A row of one number, in a new block. -/
def IsLit (B0 n : Nat) (v : Value) (w : World) : Prop := ∃ (q : Nat) (za : Option Addr) (zl zc : Nat), v = .slice (some ⟨q, 0, none⟩) 1 1 ∧ B0 ≤ q ∧ q < w.heap.size ∧ w.cell? ⟨q, 0, none⟩ = some (.slice za zl zc) ∧ BN w (.slice za zl zc) n
theorem IsLit.below {B0 n : Nat} {v : Value} {w w' : World} (h : IsLit B0 n v w) (hb : Below w.heap.size w w') : IsLit B0 n v w' := by
  obtain ⟨q, za, zl, zc, e, h1, h2, h3, h4⟩ := h
  exact ⟨q, za, zl, zc, e, h1, Nat.lt_of_lt_of_le h2 hb.size, (BB.cell hb h2).trans h3, h4.below hb⟩
theorem IsLit.new {B0 n : Nat} {w : World} {za : Option Addr} {zl zc : Nat} (hB : B0 ≤ w.heap.size) (h : BN w (.slice za zl zc) n) : IsLit B0 n (.slice (some ⟨w.heap.size, 0, none⟩) 1 1) (w.alloc (.cells #[.slice za zl zc] 28)) :=
  ⟨w.heap.size, za, zl, zc, rfl, hB, by simp, (Blk.new w [.slice za zl zc] 28).cell 0, h.below ((Below.refl _ w).alloc (Nat.le_refl _) _)⟩
def Fk.lit {B0 : Nat} (n : Nat) : Fk (KpQ B0) := ⟨IsLit B0 n, fun _ _ _ hb h => h.below hb, true, fun _ v _ _ hk ⟨q, za, zl, zc, e, h1, h2, h3, h4⟩ => ⟨q, za, zl, zc, e, h1, Nat.lt_of_lt_of_le h2 hk.2.2, hk.2.1 q _ h1 h2 h3, hk.1 _ _ h4⟩⟩
theorem OwnN.kpq {B0 : Nat} {w w' : World} {base : Nat} {v : Value} {ns : List Nat} (h : OwnN w base v ns) (hlt : ∀ k, v.ownBlock = some k → k < B0) (hg : w.grownBy w' v.ownBlock) : KpQ B0 w w' := by
  refine ⟨fun u m hu => hu.same fun k hk => hg.block k hk.lt ?_, fun q u h1 h2 h3 => ?_, hg.size⟩
  · intro hrow
    obtain ⟨cs', fr, hk⟩ := hk
    obtain ⟨xs, ho, _⟩ := h
    obtain ⟨hx2, ⟨rfl, h0, h1⟩ | ⟨g, cap, rest, rfl, hb, hB, hn2, hc2, hl2⟩⟩ := own_elim ho
    · cases hrow
    · have : k = g := Option.some.inj hrow
      subst this
      unfold Blk at hB
      rw [hB] at hk
      injection hk with hk
      injection hk with _ he _
      exact absurd he (by decide)
  · have hne : some q ≠ v.ownBlock := fun e => by have := hlt q e.symm; omega
    exact (World.cell?_of_block (w := w) (hg.block q h2 hne)).trans h3

theorem wanted_go {o : Oper} {y : Nat → Option Bool} {A E : Prop} (hg : o.guard = none) (h : A) : if Region.wanted o y = true then A else E := by
  rw [if_pos (by simp [Region.wanted, hg])]
  exact h
theorem wp_append_bn {o : Oper} {a : Act} {w : World} {K : Act → World → Prop} {Q : Exit → Act → World → Prop} (s x : Operand)
    (hop : o.op = Op.call { callee := Callee.builtin Builtin.append, args := #[s, x], argTypes := #[47, 47] })
    (base : Nat) (v : Value) (ns : List Nat) (hs : a.eval s = v) (hown : OwnN w base v ns) (ad : Addr) (c n : Nat) (xa : Option Addr) (xl xc : Nat) (hx : a.eval x = .slice (some ad) 1 c) (hc : w.cell? ad = some (.slice xa xl xc)) (hn : BN w (.slice xa xl xc) n)
    (hlen : ns.length ≤ 100000) (hbase : base ≤ w.heap.size)
    (h : ∀ v' w', OwnN w' base v' (ns ++ [n]) → w.grownBy w' v.ownBlock → (∀ k, v'.ownBlock = some k → v.ownBlock = some k ∨ w.heap.size ≤ k) → K (a.put o.dst v') w') :
    Oper.wp Tryz.prog o a w K Q := by
  obtain ⟨v', w', hr, h1, h2, h3⟩ := append_bn w base o.type v ns hown ad c n xa xl xc hc hn hlen hbase
  unfold Oper.wp execOp
  simp only [hop, resolve, invoke, builtin, Sem.run_bind, Sem.run_pure, Result.andThen_ok, List.map_toArray, List.map_cons, List.map_nil, hs, hx, hr]
  exact h v' w' h1 h2 h3

theorem OwnN.base {w : World} {b b' : Nat} {v : Value} {ns : List Nat} (h : OwnN w b v ns) (hb : b' ≤ b) : OwnN w b' v ns := by
  obtain ⟨xs, ⟨h1, h2⟩, hv⟩ := h
  refine ⟨xs, ⟨h1, ?_⟩, hv⟩
  rcases h2 with h2 | ⟨g, cap, cur, e1, e2, e3⟩
  · exact .inl h2
  · exact .inr ⟨g, cap, cur, e1, by omega, e3⟩

end Go.Proofs.YthefednendgclaaGreat
/-
  Sizes of the groups' numbers; rows of numbers as a law holds them.
-/
namespace Go.Proofs.YthefednendgclaaGreat
open Go Go.RowKit Sac NT

theorem gP_len (k : Nat) : Bt.len (gP k) ≤ 400 := Nat.le_trans (Bt.len_le (k := 96) (Nat.lt_of_lt_of_le (gP_lt k) (by decide))) (by decide)
theorem gQ_len' (k : Nat) : Bt.len (gQ k) ≤ 400 := Nat.le_trans (Bt.len_le (k := 64) (Nat.lt_of_lt_of_le (gQ_lt k) (by decide))) (by decide)
theorem gP_nb (k : Nat) : nbytes (gP k) ≤ 120 := Nat.le_trans ((nbytes_le (gP k) 12).2 (Nat.lt_of_lt_of_le (gP_lt k) (by decide))) (by decide)
theorem gQ_nb (k : Nat) : nbytes (gQ k) ≤ 120 := Nat.le_trans ((nbytes_le (gQ k) 8).2 (Nat.lt_of_lt_of_le (gQ_lt k) (by decide))) (by decide)
theorem gG_nb (k : Nat) : nbytes (gG k) ≤ 120 := Nat.le_trans ((nbytes_le (gG k) 12).2 (Nat.lt_trans (gG_lt k) (Nat.lt_of_lt_of_le (gP_lt k) (by decide)))) (by decide)
theorem gH_nb (k : Nat) : nbytes (gH k) ≤ 120 := Nat.le_trans ((nbytes_le (gH k) 12).2 (Nat.lt_trans (gH_lt k) (Nat.lt_of_lt_of_le (gP_lt k) (by decide)))) (by decide)
theorem nb_64 {x : Nat} (h : x < 18446744073709551616) : nbytes x ≤ 120 := Nat.le_trans ((nbytes_le x 8).2 h) (by decide)
theorem len_64 {x : Nat} (h : x < 18446744073709551616) : Bt.len x ≤ 400 := Nat.le_trans (Bt.len_le (k := 64) h) (by decide)
theorem lt_1000 {x : Nat} (h : x < 18446744073709551616) : x < 2 ^ 1000 := @lt_twop x 64 1000 h (by decide)

/-- The slice v holds the program's numbers ns. -/
def NRow (w : World) (v : Value) (ns : List Nat) : Prop := ∃ (a : Option Addr) (cap : Nat), v = .slice a ns.length cap ∧ ns.length ≤ cap ∧ NatsAt w a ns
theorem NRow.below {w w' : World} {v : Value} {ns : List Nat} (h : NRow w v ns) (hb : Below w.heap.size w w') : NRow w' v ns := by
  obtain ⟨a, cap, e, h1, h2⟩ := h
  exact ⟨a, cap, e, h1, h2.below hb⟩
theorem NRow.of {w : World} {base : Nat} {v : Value} {ns : List Nat} (h : NatsOwn w base v ns) : NRow w v ns := by
  obtain ⟨a, cap, e, h1, _, h2, _⟩ := h.form
  exact ⟨a, cap, e, h1, h2⟩
end Go.Proofs.YthefednendgclaaGreat
/-
  The document's group of a group.
-/
namespace Go.Proofs.YthefednendgclaaGreat
open Go Go.RowKit Sac


theorem ret_bg {fn : Func} {p : Tmp} {R : Ending → World → Prop} {tmps : Array Value} {w : World} {g : Nat} {a b c d : Value} (h : fn.results = #[.cell p 30]) (hp : tmps.getD p undef = .pointer (some ⟨g, 0, none⟩))
    (hB : Blk w g 30 [a, b, c, d]) (hR : R (.returned (.agg #[a, b, c, d])) w) : bodyPost Tryz.prog fn R .ret { tmps, defers := [] } w :=
  bodyPost_ret (results_cell_row h _ _ g 30 #[a, b, c, d] (0, 0) _ hp hB Tryz.underlying30 rfl (by kernel_rfl)) rfl hR
/-- The document's group handed back. -/
def RetBG (P Q G H : Nat) (w : World) (e : Ending) (w' : World) : Prop := ∃ v, e = .returned v ∧ BG w' v P Q G H ∧ Below w.heap.size w w'

set_option maxRecDepth 100000 in
set_option maxHeartbeats 4000000 in
theorem bref_any (g P Q G H sz : Nat) (w : World) (hg : GroupAt w g P Q G H sz) (hP : nbytes P ≤ 120) (hQ : nbytes Q ≤ 120) (hG : nbytes G ≤ 120) (hH : nbytes H ≤ 120) :
    Calls Tryz.prog 9 #[.pointer (some ⟨g, 0, none⟩)] w (RetBG P Q G H w) := by
  have hbA := (Below.refl _ w).alloc (Nat.le_refl _) (Obj.cells #[Value.slice none 0 0, Value.slice none 0 0, Value.slice none 0 0, Value.slice none 0 0] 30)
  obtain ⟨s, hs⟩ : ∃ s, s = w.heap.size := ⟨_, rfl⟩
  have HO1 : Hid (Blk (w.alloc (Obj.cells #[Value.slice none 0 0, Value.slice none 0 0, Value.slice none 0 0, Value.slice none 0 0] 30)) s 30 [.slice none 0 0, .slice none 0 0, .slice none 0 0, .slice none 0 0]) := Blk.new' w _ _ s hs
  have HG1 := Lib.hid (hg.below hbA)
  have HB1 : Hid (Below s w (w.alloc (Obj.cells #[Value.slice none 0 0, Value.slice none 0 0, Value.slice none 0 0, Value.slice none 0 0] 30))) := hs.symm ▸ hbA
  have HL := Lib.hid (And.intro hP (And.intro hQ (And.intro hG hH)))
  have HS := Lib.hid hs
  clear hg hbA hP hQ hG hH
  go_enter Tryz.func9, Tryz.ntmps9
  go_wp2_with fail
  rw [← hs]
  clear hs
  generalize w.alloc (Obj.cells #[Value.slice none 0 0, Value.slice none 0 0, Value.slice none 0 0, Value.slice none 0 0] 30) = w1 at HO1 HG1 HB1 ⊢
  refine (gp_any g P Q G H sz w1 HG1.out).mono ?_
  rintro e w2 ⟨xa, xl, xc, rfl, hx, hb⟩
  have HX := Lib.hid hx
  have HG2 := Lib.hid (HG1.out.below hb)
  have HO2 := Lib.hid (HO1.out.below hb HO1.out.lt)
  have HB2 := Lib.hid (HB1.out.trans (hb.mono (Nat.le_of_lt HO1.out.lt)))
  clear hx hb HG1 HO1 HB1
  go_wp2_with fail
  refine (num_any xa xl xc P w2 HX.out HL.out.1).mono ?_
  rintro e w3 ⟨pv, rfl, hp, hb⟩
  have HP3 := Lib.hid hp
  have HG3 := Lib.hid (HG2.out.below hb)
  have HO3 := Lib.hid (HO2.out.below hb HO2.out.lt)
  have HB3 := Lib.hid (HB2.out.trans (hb.mono (Nat.le_of_lt HO2.out.lt)))
  clear hp hb HG2 HO2 HB2 HX
  go_wp2_with fail
  refine (gfield_any g P Q G H sz w3 HG3.out).mono ?_
  rintro e w4 ⟨r, rfl, hr, hb⟩
  have HR4 := Lib.hid hr
  have HP4 := Lib.hid (HP3.out.below hb)
  have HG4 := Lib.hid (HG3.out.below hb)
  have HO4 := Lib.hid (HO3.out.below hb HO3.out.lt)
  have HB4 := Lib.hid (HB3.out.trans (hb.mono (Nat.le_of_lt HO3.out.lt)))
  clear hr hb HG3 HO3 HB3 HP3
  go_wp2_with fail
  refine (modulus_any r Q w4 HR4.out).mono ?_
  rintro e w5 ⟨xa, xl, xc, rfl, hx, hb⟩
  have HX := Lib.hid hx
  have HP5 := Lib.hid (HP4.out.below hb)
  have HG5 := Lib.hid (HG4.out.below hb)
  have HO5 := Lib.hid (HO4.out.below hb HO4.out.lt)
  have HB5 := Lib.hid (HB4.out.trans (hb.mono (Nat.le_of_lt HO4.out.lt)))
  clear hx hb HG4 HO4 HB4 HP4 HR4
  go_wp2_with fail
  refine (num_any xa xl xc Q w5 HX.out HL.out.2.1).mono ?_
  rintro e w6 ⟨qv, rfl, hp, hb⟩
  have HQ6 := Lib.hid hp
  have HP6 := Lib.hid (HP5.out.below hb)
  have HG6 := Lib.hid (HG5.out.below hb)
  have HO6 := Lib.hid (HO5.out.below hb HO5.out.lt)
  have HB6 := Lib.hid (HB5.out.trans (hb.mono (Nat.le_of_lt HO5.out.lt)))
  clear hp hb HG5 HO5 HB5 HX HP5
  go_wp2_with fail
  refine (gg_any g P Q G H sz w6 HG6.out).mono ?_
  rintro e w7 ⟨xa, xl, xc, rfl, hx, hb⟩
  have HX := Lib.hid hx
  have HP7 := Lib.hid (HP6.out.below hb)
  have HQ7 := Lib.hid (HQ6.out.below hb)
  have HG7 := Lib.hid (HG6.out.below hb)
  have HO7 := Lib.hid (HO6.out.below hb HO6.out.lt)
  have HB7 := Lib.hid (HB6.out.trans (hb.mono (Nat.le_of_lt HO6.out.lt)))
  clear hx hb HG6 HO6 HB6 HP6 HQ6
  go_wp2_with fail
  refine (num_any xa xl xc G w7 HX.out HL.out.2.2.1).mono ?_
  rintro e w8 ⟨gv, rfl, hp, hb⟩
  have HV8 := Lib.hid hp
  have HP8 := Lib.hid (HP7.out.below hb)
  have HQ8 := Lib.hid (HQ7.out.below hb)
  have HG8 := Lib.hid (HG7.out.below hb)
  have HO8 := Lib.hid (HO7.out.below hb HO7.out.lt)
  have HB8 := Lib.hid (HB7.out.trans (hb.mono (Nat.le_of_lt HO7.out.lt)))
  clear hp hb HG7 HO7 HB7 HX HP7 HQ7
  go_wp2_with fail
  refine (gh_any g P Q G H sz w8 HG8.out).mono ?_
  rintro e w9 ⟨xa, xl, xc, rfl, hx, hb⟩
  have HX := Lib.hid hx
  have HP9 := Lib.hid (HP8.out.below hb)
  have HQ9 := Lib.hid (HQ8.out.below hb)
  have HV9 := Lib.hid (HV8.out.below hb)
  have HO9 := Lib.hid (HO8.out.below hb HO8.out.lt)
  have HB9 := Lib.hid (HB8.out.trans (hb.mono (Nat.le_of_lt HO8.out.lt)))
  clear hx hb HG8 HO8 HB8 HP8 HQ8 HV8
  go_wp2_with fail
  refine (num_any xa xl xc H w9 HX.out HL.out.2.2.2).mono ?_
  rintro e w10 ⟨hv, rfl, hp, hb⟩
  have HH := hp
  have hP := HP9.out.below hb
  have hQ := HQ9.out.below hb
  have hV := HV9.out.below hb
  have HO := Lib.hid (HO9.out.below hb HO9.out.lt)
  have HB := Lib.hid (HB9.out.trans (hb.mono (Nat.le_of_lt HO9.out.lt)))
  clear hp hb HO9 HB9 HX HP9 HQ9 HV9
  obtain ⟨pa, pc, rfl, _, _, _, _⟩ := id hP
  obtain ⟨qa, qc, rfl, _, _, _, _⟩ := id hQ
  obtain ⟨ga, gc, rfl, _, _, _, _⟩ := id hV
  obtain ⟨ja, jc, rfl, _, _, _, _⟩ := id HH
  obtain ⟨pl, e1⟩ : ∃ pl, Bt.len P = pl := ⟨_, rfl⟩
  obtain ⟨ql, e2⟩ : ∃ ql, Bt.len Q = ql := ⟨_, rfl⟩
  obtain ⟨gl, e3⟩ : ∃ gl, Bt.len G = gl := ⟨_, rfl⟩
  obtain ⟨jl, e4⟩ : ∃ jl, Bt.len H = jl := ⟨_, rfl⟩
  rw [e1] at hP
  rw [e2] at hQ
  rw [e3] at hV
  rw [e4] at HH
  rw [e1, e2, e3, e4]
  have HP := Lib.hid hP
  have HQ := Lib.hid hQ
  have HV := Lib.hid hV
  have HJ := Lib.hid HH
  have c0 := HO.out.cell 0
  have c1 := HO.out.cell 1
  have c2 := HO.out.cell 2
  have c3 := HO.out.cell 3
  have f0 := HO.out.frozen 0
  have f1 := HO.out.frozen 1
  have f2 := HO.out.frozen 2
  have f3 := HO.out.frozen 3
  simp only [List.getElem?_cons_zero, List.getElem?_cons_succ] at c0 c1 c2 c3
  clear hP hQ hV HH e1 e2 e3 e4
  go_wp2_with fail
  have hB1 := HO.out.set 0 (.slice pa pl pc)
  have hB2 := hB1.set 1 (.slice qa ql qc)
  have hB3 := hB2.set 2 (.slice ga gl gc)
  have hB4 := hB3.set 3 (.slice ja jl jc)
  have hst : ∀ {u : Value} {m : Nat}, BN w10 u m → BN ((((w10.setCell ⟨s, 0, none⟩ (.slice pa pl pc)).setCell ⟨s, 1, none⟩ (.slice qa ql qc)).setCell ⟨s, 2, none⟩ (.slice ga gl gc)).setCell ⟨s, 3, none⟩ (.slice ja jl jc)) u m := fun h => by
    have k1 : ∀ (w : World) (cs : List Value) (o : Nat) (v : Value) {u : Value} {m : Nat}, Blk w s 30 cs → BN w u m → BN (w.setCell ⟨s, o, none⟩ v) u m := fun w cs o v {u m} hB h => h.same fun k hk => heap_setCell_other _ _ _ _ (hk.ne hB (by decide))
    exact k1 _ _ _ _ hB3 (k1 _ _ _ _ hB2 (k1 _ _ _ _ hB1 (k1 _ _ _ _ HO.out h)))
  exact ret_bg rfl rfl hB4 ⟨_, rfl, ⟨pa, pl, pc, qa, ql, qc, ga, gl, gc, ja, jl, jc, rfl, hst HP.out, hst HQ.out, hst HV.out, hst HJ.out⟩, HS.out ▸ (((HB.out.setCell (p := ⟨s, 0, none⟩) (Nat.le_refl s) _).setCell (p := ⟨s, 1, none⟩) (Nat.le_refl s) _).setCell (p := ⟨s, 2, none⟩) (Nat.le_refl s) _).setCell (p := ⟨s, 3, none⟩) (Nat.le_refl s) _⟩
end Go.Proofs.YthefednendgclaaGreat
