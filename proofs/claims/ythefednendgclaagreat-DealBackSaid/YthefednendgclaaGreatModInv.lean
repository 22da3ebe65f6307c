/-
  The ring's own functions: Inv.
-/
import Derived.Test.YthefednendgclaaGreatModExp
import Derived.Test.YthefednendgclaaGreatInvF
import Derived.OwnWalk
set_option linter.unusedVariables false
set_option linter.unusedSimpArgs false
namespace Go.Proofs.YthefednendgclaaGreat
open Go Go.RowKit Sac

/-- What stands while an inverse is reckoned. -/
structure InvE (w wr : World) (s Q R X r m : Nat) (A : Value) (ua : Option Addr) (ul uc : Nat) (va : Option Addr) (vl vc : Nat) (xa : Option Addr) (xl xc : Nat) (ya : Option Addr) (yl yc : Nat) (u v x y : Nat) : Prop where
  bx : BX2 w wr s A (.slice none 0 0)
  bq : Blk wr Q 36 [.slice ua ul uc]
  bv : Blk wr R 36 [.slice va vl vc]
  cx : Blk wr X 36 [.slice xa xl xc]
  cy : Blk wr (X + 1) 36 [.slice ya yl yc]
  nu : NatS wr ua ul u
  nv : NatS wr va vl v
  nx : NatS wr xa xl x
  ny : NatS wr ya yl y
  hm : ∃ a l, NatS wr a l m
  hr : RingAt wr r m
  d1 : Q ≠ R
  d2 : s + 1 < Q
  d3 : s + 1 < R
  d4 : Q < X
  d5 : R < X
  d6 : r < s
theorem InvE.below {w wr w' : World} {s Q R X r m : Nat} {A : Value} {ua : Option Addr} {ul uc : Nat} {va : Option Addr} {vl vc : Nat} {xa : Option Addr} {xl xc : Nat} {ya : Option Addr} {yl yc : Nat} {u v x y : Nat} (h : InvE w wr s Q R X r m A ua ul uc va vl vc xa xl xc ya yl yc u v x y) (hb : Below wr.heap.size wr w') : InvE w w' s Q R X r m A ua ul uc va vl vc xa xl xc ya yl yc u v x y :=
  ⟨h.bx.below hb, h.bq.below hb h.bq.lt, h.bv.below hb h.bv.lt, h.cx.below hb h.cx.lt, h.cy.below hb h.cy.lt, h.nu.below hb, h.nv.below hb, h.nx.below hb, h.ny.below hb, (by obtain ⟨a, l, h1⟩ := h.hm; exact ⟨a, l, h1.below hb⟩), h.hr.below hb, h.d1, h.d2, h.d3, h.d4, h.d5, h.d6⟩

/-- Euclid's relation: x n is u, y n is v, in the ring of m. -/
def EuR (m n u v x y : Nat) : Prop := Nat.gcd u v = Nat.gcd m n ∧ Cg m ((x : Int) * n) u ∧ Cg m ((y : Int) * n) v
theorem EuR.turn {m n u v x y : Nat} (hm : 0 < m) (hv : v ≠ 0) (h : EuR m n u v x y) : EuR m n v (u % v) y (subm m x (u / v * y % m)) := by
  obtain ⟨h1, h2, h3⟩ := h
  refine ⟨by rw [Nat.gcd_comm v, ← Nat.gcd_rec, Nat.gcd_comm]; exact h1, h3, ?_⟩
  have k1 : Cg m ((u / v * y % m : Nat) : Int) ((u / v : Nat) * (y : Int)) := (Mo.mul hm (Cg.refl m _) (Cg.refl m _)).2
  have k2 := (Mo.sub hm (Cg.refl m (x : Int)) k1).2
  have k3 := k2.mul (Cg.refl m (n : Int))
  have k4 := h2.sub ((Cg.refl m ((u / v : Nat) : Int)).mul h3)
  have e1 : ((x : Int) - (u / v : Nat) * (y : Int)) * (n : Int) = (x : Int) * n - (u / v : Nat) * ((y : Int) * n) := by rw [Int.sub_mul, Int.mul_assoc]
  have e2 : (u : Int) - ((u / v : Nat) : Int) * (v : Int) = ((u % v : Nat) : Int) := by
    have := Nat.div_add_mod u v
    have h : ((v * (u / v) + u % v : Nat) : Int) = (u : Int) := by rw [this]
    rw [Int.natCast_add, Int.natCast_mul] at h
    rw [Int.mul_comm ((u / v : Nat) : Int)]; omega
  rw [e1] at k3
  rw [e2] at k4
  exact k3.trans k4
theorem InvE.turn {w wr : World} {s Q R X r m : Nat} {A : Value} {ua : Option Addr} {ul uc : Nat} {va : Option Addr} {vl vc : Nat} {xa : Option Addr} {xl xc : Nat} {ya : Option Addr} {yl yc : Nat} {u v x y : Nat} (h : InvE w wr s Q R X r m A ua ul uc va vl vc xa xl xc ya yl yc u v x y)
    {ra : Option Addr} {rl rc rest : Nat} (hr : NatS wr ra rl rest) :
    InvE w ((wr.setCell ⟨Q, 0, none⟩ (.slice va vl vc)).setCell ⟨R, 0, none⟩ (.slice ra rl rc)) s Q R X r m A va vl vc ra rl rc xa xl xc ya yl yc v rest x y := by
  have d1 := h.d1
  have d2 := h.d2
  have d3 := h.d3
  have d4 := h.d4
  have d5 := h.d5
  have d6 := h.d6
  have q1 := h.bq
  have q2 := h.bv.other ⟨Q, 0, none⟩ (.slice va vl vc) (fun e => d1 e.symm)
  have N : ∀ {a : Option Addr} {l k : Nat}, NatS wr a l k → NatS ((wr.setCell ⟨Q, 0, none⟩ (.slice va vl vc)).setCell ⟨R, 0, none⟩ (.slice ra rl rc)) a l k := fun hn => (hn.set q1 0 _).set q2 0 _
  have B : ∀ {p : Nat} {e : TypeId} {cs : List Value}, Blk wr p e cs → p ≠ Q → p ≠ R → Blk ((wr.setCell ⟨Q, 0, none⟩ (.slice va vl vc)).setCell ⟨R, 0, none⟩ (.slice ra rl rc)) p e cs := fun hb n1 n2 => (hb.other ⟨Q, 0, none⟩ _ n1).other ⟨R, 0, none⟩ _ n2
  exact ⟨⟨(h.bx.bel.setCell (p := ⟨Q, 0, none⟩) (by show s ≤ Q; omega) _).setCell (p := ⟨R, 0, none⟩) (by show s ≤ R; omega) _, B h.bx.a (by omega) (by omega), B h.bx.r (by omega) (by omega)⟩,
    (q1.set 0 _).other ⟨R, 0, none⟩ _ d1, q2.set 0 _, B h.cx (by omega) (by omega), B h.cy (by omega) (by omega), N h.nv, N hr, N h.nx, N h.ny, (by obtain ⟨a, l, h1⟩ := h.hm; exact ⟨a, l, N h1⟩),
    (h.hr.set q1 (by omega) 0 _).set q2 (by omega) 0 _, d1, d2, d3, d4, d5, d6⟩
theorem InvE.turn2 {w wr : World} {s Q R X r m : Nat} {A : Value} {ua : Option Addr} {ul uc : Nat} {va : Option Addr} {vl vc : Nat} {xa : Option Addr} {xl xc : Nat} {ya : Option Addr} {yl yc : Nat} {u v x y : Nat} (h : InvE w wr s Q R X r m A ua ul uc va vl vc xa xl xc ya yl yc u v x y)
    {ra : Option Addr} {rl rc rest : Nat} (hr : NatS (wr.setCell ⟨X, 0, none⟩ (.slice ya yl yc)) ra rl rest) :
    InvE w ((wr.setCell ⟨X, 0, none⟩ (.slice ya yl yc)).setCell ⟨X + 1, 0, none⟩ (.slice ra rl rc)) s Q R X r m A ua ul uc va vl vc ya yl yc ra rl rc u v y rest := by
  have d1 := h.d1
  have d2 := h.d2
  have d3 := h.d3
  have d4 := h.d4
  have d5 := h.d5
  have d6 := h.d6
  have q1 := h.cx
  have q2 := h.cy.other ⟨X, 0, none⟩ (.slice ya yl yc) (by show X + 1 ≠ X; omega)
  have N : ∀ {a : Option Addr} {l k : Nat}, NatS wr a l k → NatS ((wr.setCell ⟨X, 0, none⟩ (.slice ya yl yc)).setCell ⟨X + 1, 0, none⟩ (.slice ra rl rc)) a l k := fun hn => (hn.set q1 0 _).set q2 0 _
  have B : ∀ {p : Nat} {e : TypeId} {cs : List Value}, Blk wr p e cs → p ≠ X → p ≠ X + 1 → Blk ((wr.setCell ⟨X, 0, none⟩ (.slice ya yl yc)).setCell ⟨X + 1, 0, none⟩ (.slice ra rl rc)) p e cs := fun hb n1 n2 => (hb.other ⟨X, 0, none⟩ _ n1).other ⟨X + 1, 0, none⟩ _ n2
  exact ⟨⟨(h.bx.bel.setCell (p := ⟨X, 0, none⟩) (by show s ≤ X; omega) _).setCell (p := ⟨X + 1, 0, none⟩) (by show s ≤ X + 1; omega) _, B h.bx.a (by omega) (by omega), B h.bx.r (by omega) (by omega)⟩,
    B h.bq (by omega) (by omega), B h.bv (by omega) (by omega), (q1.set 0 _).other ⟨X + 1, 0, none⟩ _ (by show X ≠ X + 1; omega), q2.set 0 _, N h.nu, N h.nv, N h.ny, hr.set q2 0 _, (by obtain ⟨a, l, h1⟩ := h.hm; exact ⟨a, l, N h1⟩),
    (h.hr.set q1 (by omega) 0 _).set q2 (by omega) 0 _, d1, d2, d3, d4, d5, d6⟩

/-! ### The round's last region, by facts -/
def tabI (r : Nat) (xv yv qv : Value) (n z : Nat) : List (Fk KpN) := [.val yv, .val (.pointer (some ⟨r, 0, none⟩)), .val xv, .val (.pointer (some ⟨r, 0, none⟩)), .val qv, .val yv, Fk.nat (fun _ _ h => h) n, Fk.nat (fun _ _ h => h) z, .any, .any]
def dstI : List (Option Tmp) := [some 37, some 38, some 39, some 40, some 41, some 42, some 43, some 44, none, none]
def preI : List (List Nat) := [[], [], [], [], [], [], [3, 4, 5], [1, 2, 3, 4, 5, 6], [0, 1, 2, 3, 4, 5, 6, 7], [0, 1, 2, 3, 4, 5, 6, 7, 8]]
def maskI : List Bool := [false, false, false, false, false, false, false, false, false, false, false, false, false, false, false, false, false, false, false, false, false, false, false, false, false, false, false, false, false, false, false, false, false, false, false, false, false, true, true, true, true, true, true, true, true, false, false, false, false, false, false, false, false]
/-- Ahead of the first store; between the two; behind both. -/
def BI (w0 : World) (X : Nat) (v : Value) (Fin : World → Prop) (l : Nat → Bool) (w' : World) : Prop := (l 8 = false → BB w0 w') ∧ (l 8 = true → l 9 = false → ∃ w13, BB w0 w13 ∧ w' = w13.setCell ⟨X, 0, none⟩ v) ∧ (l 9 = true → Fin w')
section
variable {w0 w' : World} {X k : Nat} {v : Value} {Fin : World → Prop} {l : Nat → Bool}
theorem BI.init (h : BB w0 w') : BI w0 X v Fin (fun _ => false) w' := And.intro (fun _ => h) (And.intro (fun h => Bool.noConfusion h) (fun h => Bool.noConfusion h))
theorem BI.before (hk : k ≠ 8) (hk9 : k ≠ 9) (h8 : l 8 = false) (h9 : l 9 = false) (hbb : BB w0 w') : BI w0 X v Fin (setL l k) w' := by
  have e8 : setL l k 8 = false := by unfold setL; rw [if_neg (Ne.symm hk), h8]
  have e9 : setL l k 9 = false := by unfold setL; rw [if_neg (Ne.symm hk9), h9]
  refine And.intro (fun _ => hbb) (And.intro (fun h => ?_) (fun h => ?_))
  · rw [e8] at h; cases h
  · rw [e9] at h; cases h
theorem BI.first (h9 : l 9 = false) (hbb : BB w0 w') : BI w0 X v Fin (setL l 8) (w'.setCell ⟨X, 0, none⟩ v) := by
  have e9 : setL l 8 9 = false := by unfold setL; rw [if_neg (by decide), h9]
  refine And.intro (fun h => ?_) (And.intro (fun _ _ => Exists.intro w' (And.intro hbb rfl)) (fun h => ?_))
  · have : true = false := h
    cases this
  · rw [e9] at h; cases h
theorem BI.last (h8 : l 8 = true) (hf : Fin w') : BI w0 X v Fin (setL l 9) w' := by
  have e8 : setL l 9 8 = true := by unfold setL; rw [if_neg (by decide), h8]
  refine And.intro (fun h => ?_) (And.intro (fun _ h => ?_) (fun _ => hf))
  · rw [e8] at h; cases h
  · have : true = false := h
    cases this
end

/-- An inverse, or none. -/
def InvPost (m n : Nat) (w : World) (e : Ending) (w' : World) : Prop := ∃ z a len cap, e = .returned (.tuple #[.agg #[.slice a len cap], .int .i64 (if Nat.gcd m n = 1 then 0 else 6)]) ∧ NatS w' a len z ∧
  (Nat.gcd m n = 1 → z < m ∧ z * n % m = 1 % m) ∧ (Nat.gcd m n ≠ 1 → z = 0) ∧ Below w.heap.size w w'

set_option maxRecDepth 100000 in
set_option maxHeartbeats 4000000 in
theorem rinv_any (r m : Nat) (a : Option Addr) (len cap n : Nat) (w : World) (h : RingAt w r m) (hn : NatS w a len n) :
    Calls Tryz.prog 55 #[.pointer (some ⟨r, 0, none⟩), .agg #[.slice a len cap]] w (InvPost m n w) := by
  obtain ⟨ma, ml, mc, hB, hM, h2⟩ := h
  have HM := Lib.hid hM
  have HN := Lib.hid hn
  have HB := Lib.hid hB
  have hl1 := hn.2
  have hml : (ml : Int) ≤ 1000 := hM.2
  have HR := Lib.hid (show RingAt w r m from ⟨ma, ml, mc, hB, hM, h2⟩)
  clear hn hB hM
  go_enter Tryz.func55, Tryz.ntmps55
  go_wp2_with fail
  rename_i Kc hKc
  obtain ⟨s, hs⟩ : ∃ s, s = w.heap.size := ⟨_, rfl⟩
  obtain ⟨w3, hw3⟩ : ∃ w3, ((w.alloc (Obj.cells #[Value.slice a len cap] 36)).alloc (Obj.cells #[Value.slice none 0 0] 36)) = w3 := ⟨_, rfl⟩
  have HX3 : Hid (BX2 w w3 s (.slice a len cap) (.slice none 0 0)) := by rw [← hw3, hs]; exact BX2.make w _ _
  rw [hw3, ← hs]
  have HS := Lib.hid hs
  have hbw : BB w w3 := by have := HX3.out.bel; rw [hs] at this; exact this
  have HN3 := Lib.hid (HN.out.below hbw)
  have HM3 := Lib.hid (HM.out.below hbw)
  have HR3 := Lib.hid (HR.out.below hbw)
  have HB3 := Lib.hid (HB.out.below HX3.out.bel (hs ▸ HB.out.lt))
  clear hw3 hs hbw
  have G1 : ∀ w', BB w3 w' → w'.cell? ⟨s, 0, none⟩ = some (.slice a len cap) := fun w' h => (h.cell HX3.out.a.lt).trans (HX3.out.a.cell 0)
  have G2 : ∀ w', BB w3 w' → w'.cell? ⟨r, 0, none⟩ = some (.slice ma ml mc) := fun w' h => (h.cell HB3.out.lt).trans (HB3.out.cell 0)
  have CC : ∀ w', BB w3 w' → Calls Tryz.prog 25 #[.pointer (some ⟨r, 0, none⟩), .agg #[.slice a len cap]] w' fun e w'' => ∃ sa sl sc, e = .returned (.agg #[.slice sa sl sc]) ∧
      NatAt w'' ma ml m ∧ NatAt w'' sa sl (n % m) ∧ Below w'.heap.size w' w'' := fun w' h =>
    (of_any r m a len cap n w' (HR3.out.below h) (HN3.out.1.below h) (by omega)).mono fun e w'' ⟨sa, sl, sc, h1, h2, h3⟩ => ⟨sa, sl, sc, h1, (HM3.out.1.below h).below h3, h2.1, h3⟩
  have hk : ∀ (Q R : Nat) (w5 : World) (sa : Option Addr) (sl sc : Nat), TwoF w3 w5 m (n % m) Q R ma ml mc sa sl sc →
      Kc { tmps := #[Value.pointer (some ⟨r, 0, none⟩), Value.agg #[Value.slice a len cap], undef, Value.pointer (some ⟨s, 0, none⟩), Value.pointer (some ⟨s + 1, 0, none⟩), Value.int IntKind.i64 0, Value.pointer (some ⟨Q, 0, none⟩), Value.pointer (some ⟨R, 0, none⟩), undef, undef, undef, undef, undef, Value.pointer (some ⟨r, 0, none⟩), Value.bool false, undef, Value.pointer (some ⟨r, 0, none⟩), Value.pointer (some ⟨r, 0, none⟩), Value.pointer (some ⟨r, 0, none⟩), Value.agg #[Value.slice ma ml mc], Value.pointer (some ⟨r, 0, none⟩), Value.agg #[Value.slice a len cap], Value.agg #[Value.slice sa sl sc], undef, undef, undef, undef, undef, undef, undef, undef, undef, undef, undef, undef, undef, undef, undef, undef, undef, undef, undef, undef, undef, undef, undef, undef, undef, undef, undef, undef, undef, undef], defers := [] } w5 := by
    intro Q R w5 sa sl sc hT
    refine hKc _ _ ?_
    have HX5 := Lib.hid (HX3.out.below hT.bb)
    have HM5 := Lib.hid (HM3.out.below hT.bb)
    have HR5 := Lib.hid (HR3.out.below hT.bb)
    have HT := Lib.hid hT
    clear hT G1 G2 CC hKc
    go_wp2_with fail
    refine (new_any 1 w5 (by omega)).mono ?_
    rintro e w6 ⟨oa, ol, oc, rfl, hO, hb6⟩
    have HX6 := Lib.hid (HX5.out.below hb6)
    have HM6 := Lib.hid (HM5.out.below hb6)
    have HR6 := Lib.hid (HR5.out.below hb6)
    have HQ6 : Hid (Blk w6 Q 36 [.slice ma ml mc]) := HT.out.q.below hb6 HT.out.q.lt
    have HV6 : Hid (Blk w6 R 36 [.slice sa sl sc]) := HT.out.r.below hb6 HT.out.r.lt
    have HN6 : Hid (NatAt w6 sa sl (n % m)) := HT.out.nr.below hb6
    have HO6 := Lib.hid hO
    clear hO hb6 HX5 HM5 HR5
    go_wp2_with fail
    obtain ⟨X, hX⟩ : ∃ X, X = w6.heap.size := ⟨_, rfl⟩
    obtain ⟨w7, hw7⟩ : ∃ w7, ((w6.alloc (Obj.cells #[Value.slice none 0 0] 36)).alloc (Obj.cells #[Value.slice oa ol oc] 36)) = w7 := ⟨_, rfl⟩
    have hb7 : BB w6 w7 := hw7 ▸ BB.alloc (BB.alloc (BB.refl _))
    have HE7 : Hid (InvE w w7 s Q R X r m (.slice a len cap) ma ml mc sa sl sc none 0 0 oa ol oc m (n % m) 0 1) := by
      have g1 := HT.out.gq
      have g2 := HT.out.gr
      have g3 := HX3.out.r.lt
      have g4 := HQ6.out.lt
      have g5 := HV6.out.lt
      refine ⟨HX6.out.below hb7, HQ6.out.below hb7 HQ6.out.lt, HV6.out.below hb7 HV6.out.lt, ?_, ?_, HM6.out.below hb7, ⟨HN6.out.below hb7, ?_⟩, ⟨NatAt.nil _, by decide⟩, ⟨HO6.out.below hb7, ?_⟩, ⟨ma, ml, HM6.out.below hb7⟩, HR6.out.below hb7, HT.out.ne, by omega, by omega, by omega, by omega, ?_⟩
      · rw [← hw7, hX]; exact (Blk.new w6 _ _).alloc _
      · rw [← hw7, hX]; exact Blk.new' _ _ _ _ (by simp)
      · have := HN6.out.len_le HM6.out.1 (Nat.le_of_lt (Nat.mod_lt _ (by omega))); have := HM6.out.2; omega
      · have := HO6.out.len_le HM6.out.1 (by omega); have := HM6.out.2; omega
      · have := HB.out.lt; rw [HS.out]; exact this
    rw [hw7, ← hX]
    have HXX := Lib.hid hX
    clear hw7 hX hb7 HX6 HM6 HR6 HQ6 HV6 HN6 HO6
    go_loopg [12] (n % m) (fun gk _ wr => ∃ (ua : Option Addr) (ul uc : Nat) (va : Option Addr) (vl vc : Nat) (xa : Option Addr) (xl xc : Nat) (ya : Option Addr) (yl yc u v x y : Nat), (v : Int) ≤ gk ∧ Hid (InvE w wr s Q R X r m (.slice a len cap) ua ul uc va vl vc xa xl xc ya yl yc u v x y) ∧ Hid (EuR m n u v x y))
    case atStart => exact ⟨ma, ml, mc, sa, sl, sc, none, 0, 0, oa, ol, oc, m, n % m, 0, 1, by omega, HE7.out, by rw [Nat.gcd_comm m (n % m), ← Nat.gcd_rec], by simpa using (Cg.self m).symm, by simpa using (Cg.mod (q := m) n).symm⟩
    case round =>
      obtain ⟨ua, ul, uc, va, vl, vc, xa, xl, xc, ya, yl, yc, u, v, x, y, hgk, HE, HG⟩ := hrel
      clear HE7
      have cv := HE.out.bv.cell 0
      simp only [List.getElem?_cons_zero] at cv
      go_wp2_with fail
      refine (zero_any va vl vc v wr HE.out.nv.1).mono ?_
      rintro e w8 ⟨rfl, hb8⟩
      have HE8 := Lib.hid (HE.out.below hb8)
      clear hb8 cv HE
      by_cases hv0 : v = 0
      · subst hv0
        have cu := HE8.out.bq.cell 0
        simp only [List.getElem?_cons_zero] at cu
        go_wp2_with fail
        have CU : ∀ w', BB w8 w' → w'.cell? ⟨Q, 0, none⟩ = some (.slice ua ul uc) := fun w' h => (h.cell HE8.out.bq.lt).trans cu
        have CN : ∀ w', BB w8 w' → Calls Tryz.prog 13 #[.int .u64 1] w' (RetNat 1 w') := fun w' h => new_any 1 w' (by omega)
        go_region_with (first
          | (go_at_call 13; refine (CN w8.drew (BB.drew (BB.refl _))).mono ?_; rintro e w9 ⟨pa, pl, pc, rfl, hP, hb9⟩; have HE9 := Lib.hid (HE8.out.below (BB.step (BB.drew (BB.refl _)) hb9)); have HP9 := Lib.hid hP; have cu9 : w9.cell? ⟨Q, 0, none⟩ = some (.slice ua ul uc) := CU w9 (BB.step (BB.drew (BB.refl _)) hb9); clear hP hb9)
          | (go_at_call 31; refine (cmp_any ua pa ul uc pl pc u 1 w9 HE9.out.nu.1 HP9.out (by have := HE9.out.nu.2; omega) (by obtain ⟨za, zl, hz⟩ := HE9.out.hm; have := HP9.out.len_le hz.1 (by omega); have := hz.2; omega)).mono ?_; rintro e w10 ⟨rfl, hb10⟩; have HE10 := Lib.hid (HE9.out.below hb10); clear hb10))
        all_goals (
          have HG0 : Hid (u = Nat.gcd m n ∧ Cg m ((x : Int) * n) u) := by have := HG.out; exact ⟨by rw [← this.1, Nat.gcd_zero_right], this.2.1⟩
          by_cases hu1 : u = 1
          · subst hu1
            have hc1 : cmpNat 1 1 = 0 := rfl
            rw [hc1]
            have cx := HE10.out.cx.cell 0
            have cs := HE10.out.bx.r.cell 0
            have fs := HE10.out.bx.r.frozen 0
            simp only [List.getElem?_cons_zero] at cx cs
            go_wp2_with fail
            refine (of_any r m xa xl xc x w10 HE10.out.hr HE10.out.nx.1 (by have := HE10.out.nx.2; omega)).mono ?_
            rintro e w11 ⟨za, zl, zc, rfl, hZ, hb11⟩
            have HE11 := Lib.hid (HE10.out.below hb11)
            have HZ := Lib.hid hZ
            clear hZ hb11 cs fs cx
            have cs := HE11.out.bx.r.cell 0
            have fs := HE11.out.bx.r.frozen 0
            simp only [List.getElem?_cons_zero] at cs
            go_wp2_with fail
            refine ret_nat_tmp rfl rfl rfl (HE11.out.bx.r.set 0 _) (⟨x % m, za, zl, zc, ?_, HZ.out.set HE11.out.bx.r 0 _, fun _ => ⟨Nat.mod_lt _ (by omega), ?_⟩, fun h => absurd HG0.out.1.symm h, ?_⟩ : InvPost m n w _ _)
            · rw [if_pos HG0.out.1.symm]; rfl
            · have k1 := (Mo.mul (q := m) (by omega) (Cg.mod x) (Cg.refl m (n : Int)))
              exact k1.uniq (Mo.of (by omega) 1) HG0.out.2
            · rw [← HS.out]; exact HE11.out.bx.bel.setCell (p := ⟨s + 1, 0, none⟩) (by show s ≤ s + 1; omega) _
          · have hc1 : (cmpNat u 1 == 0) = false := by
              rw [beq_eq_false_iff_ne]; unfold cmpNat; split
              · decide
              · split
                · decide
                · omega
            have cs := HE10.out.bx.r.cell 0
            have fs := HE10.out.bx.r.frozen 0
            simp only [List.getElem?_cons_zero] at cs
            go_wp2_with fail
            refine ret_nat_tmp rfl rfl rfl (HE10.out.bx.r.set 0 _) (⟨0, none, 0, 0, ?_, ⟨NatAt.nil _, by decide⟩, fun h => absurd (HG0.out.1.trans h) hu1, fun _ => rfl, ?_⟩ : InvPost m n w _ _)
            · rw [if_neg (by rw [← HG0.out.1]; exact hu1)]; rfl
            · rw [← HS.out]; exact HE10.out.bx.bel.setCell (p := ⟨s + 1, 0, none⟩) (by show s ≤ s + 1; omega) _)
      · have hv0b : (v == 0) = false := by rw [beq_eq_false_iff_ne]; exact hv0
        have cu := HE8.out.bq.cell 0
        have cv := HE8.out.bv.cell 0
        simp only [List.getElem?_cons_zero] at cu cv
        go_wp2_with fail
        have hd := div_any ua va ul uc vl vc u v w8 HE8.out.nu.1 HE8.out.nv.1 (by have := HE8.out.nu.2; omega) (by have := HE8.out.nv.2; omega)
        unfold DivPost at hd
        rw [if_neg hv0, if_neg hv0] at hd
        refine hd.mono ?_
        rintro e w9 ⟨qa, ql, qc, ra, rl, rc, rfl, hq, hr, hb9⟩
        have HE9 := Lib.hid (HE8.out.below hb9)
        have HQ := Lib.hid hq
        have HR9 := Lib.hid hr
        clear hq hr hb9 cu cv hd HE8
        go_wp2_with fail
        obtain ⟨Y, hY⟩ : ∃ Y, Y = w9.heap.size := ⟨_, rfl⟩
        obtain ⟨w10, hw10⟩ : ∃ w10 : World, ((w9.alloc (Obj.cells #[Value.slice qa ql qc] 36)).alloc (Obj.cells #[Value.slice ra rl rc] 36)) = w10 := ⟨_, rfl⟩
        have b10 : BB w9 w10 := hw10 ▸ BB.alloc (BB.alloc (BB.refl _))
        have BQ10 : Hid (Blk w10 Y 36 [.slice qa ql qc]) := by show Blk _ _ _ _; rw [← hw10, hY]; exact (Blk.new w9 _ _).alloc _
        have BR10 : Hid (Blk w10 (Y + 1) 36 [.slice ra rl rc]) := by show Blk _ _ _ _; rw [← hw10, hY]; exact Blk.new' _ _ _ _ (by simp)
        have HE10 := Lib.hid (HE9.out.below b10)
        have HQ10 := Lib.hid (HQ.out.below b10)
        have HR10 := Lib.hid (HR9.out.below b10)
        have hXY : X + 1 < Y := hY ▸ HE9.out.cy.lt
        rw [hw10, ← hY]
        clear hw10 b10 hY HE9 HQ HR9
        have cu := HE10.out.bq.cell 0
        have fu := HE10.out.bq.frozen 0
        have cv := HE10.out.bv.cell 0
        have fv := HE10.out.bv.frozen 0
        have cr := BR10.out.cell 0
        simp only [List.getElem?_cons_zero] at cu cv cr
        have hQX := HE10.out.d4
        have hRX := HE10.out.d5
        have hQR := HE10.out.d1
        have e1 : Y + 1 ≠ Q := by omega
        have e2 : Q ≠ Y + 1 := by omega
        have e3 : Y + 1 ≠ R := by omega
        have e4 : R ≠ Y + 1 := by omega
        have e5 : R ≠ Q := fun h => hQR h.symm
        go_region
        all_goals go_wp2_with fail
        have hmod : u % v < v := Nat.mod_lt _ (by omega)
        have HRS : Hid (NatS w10 ra rl (u % v)) := ⟨HR10.out, by have := HR10.out.len_le HE10.out.nv.1 (Nat.le_of_lt hmod); have := HE10.out.nv.2; omega⟩
        have HQS : Hid (NatS w10 qa ql (u / v)) := ⟨HQ10.out, by have := HQ10.out.len_le HE10.out.nu.1 (Nat.div_le_self u v); have := HE10.out.nu.2; omega⟩
        have HE11 := Lib.hid (HE10.out.turn HRS.out (rc := rc))
        have HQS11 := Lib.hid ((HQS.out.set HE10.out.bq 0 (.slice va vl vc)).set (HE10.out.bv.other ⟨Q, 0, none⟩ (.slice va vl vc) e5) 0 (.slice ra rl rc))
        have BQ11 := Lib.hid ((BQ10.out.other ⟨Q, 0, none⟩ (.slice va vl vc) (by show Y ≠ Q; omega)).other ⟨R, 0, none⟩ (.slice ra rl rc) (by show Y ≠ R; omega))
        obtain ⟨w11, hw11⟩ : ∃ w11, (w10.setCell ⟨Q, 0, none⟩ (.slice va vl vc)).setCell ⟨R, 0, none⟩ (.slice ra rl rc) = w11 := ⟨_, rfl⟩
        rw [hw11] at HE11 HQS11 BQ11
        rw [hw11]
        clear hw11 cu fu cv fv cr HE10 HRS HQS BQ10 BR10 HR10 HQ10
        have cx := HE11.out.cx.cell 0
        have cy := HE11.out.cy.cell 0
        have cq := BQ11.out.cell 0
        have HGT := Lib.hid (HG.out.turn (by omega) hv0)
        simp only [List.getElem?_cons_zero] at cx cy cq
        clear HG
        have kx : ∀ w', BB w11 w' → w'.cell? ⟨X, 0, none⟩ = some (.slice xa xl xc) := fun w' h => (h.cell HE11.out.cx.lt).trans cx
        have ky : ∀ w', BB w11 w' → w'.cell? ⟨X + 1, 0, none⟩ = some (.slice ya yl yc) := fun w' h => (h.cell HE11.out.cy.lt).trans cy
        have kq : ∀ w', BB w11 w' → w'.cell? ⟨Y, 0, none⟩ = some (.slice qa ql qc) := fun w' h => (h.cell BQ11.out.lt).trans cq
        clear cx cy cq
        refine wp_region_mix (BI w11 X (.slice ya yl yc) (fun w' => ∃ (za : Option Addr) (zl zc : Nat), InvE w w' s Q R X r m (.slice a len cap) va vl vc ra rl rc ya yl yc za zl zc v (u % v) y (subm m x (u / v * y % m)))) (GF (tabI r (.agg #[.slice xa xl xc]) (.agg #[.slice ya yl yc]) (.agg #[.slice qa ql qc]) (u / v * y % m) (subm m x (u / v * y % m)))) maskI dstI preI (by kernel_rfl) (by kernel_rfl) rfl (by kernel_rfl) (by kernel_rfl) (by kernel_rfl) (by kernel_rfl) (BI.init (BB.drew (BB.drew (BB.refl _)))) ?_ ?_
        · refine StepsM.cons (fun l g' wu hB hl hn hp K hK => ?_) ?_
          · have h8 := hn 8 (by decide); have h9 := hn 9 (by decide); have hbb := hB.1 h8; have hc := ky _ hbb; simp only [mkM, maskI, mixM, Nat.reduceAdd] at hK ⊢; simp only [Act.put, List.setIfInBounds_toArray, List.set_cons_zero, List.set_cons_succ] at hK; go_simp; exact hK.out _ _ (BI.before (by decide) (by decide) h8 h9 hbb) GF.same rfl
          refine StepsM.cons (fun l g' wu hB hl hn hp K hK => ?_) ?_
          · have h8 := hn 8 (by decide); have h9 := hn 9 (by decide); have hbb := hB.1 h8; simp only [mkM, maskI, mixM, Nat.reduceAdd] at hK ⊢; simp only [Act.put, List.setIfInBounds_toArray, List.set_cons_zero, List.set_cons_succ] at hK; go_simp; exact hK.out _ _ (BI.before (by decide) (by decide) h8 h9 hbb) GF.same rfl
          refine StepsM.cons (fun l g' wu hB hl hn hp K hK => ?_) ?_
          · have h8 := hn 8 (by decide); have h9 := hn 9 (by decide); have hbb := hB.1 h8; have hc := kx _ hbb; simp only [mkM, maskI, mixM, Nat.reduceAdd] at hK ⊢; simp only [Act.put, List.setIfInBounds_toArray, List.set_cons_zero, List.set_cons_succ] at hK; go_simp; exact hK.out _ _ (BI.before (by decide) (by decide) h8 h9 hbb) GF.same rfl
          refine StepsM.cons (fun l g' wu hB hl hn hp K hK => ?_) ?_
          · have h8 := hn 8 (by decide); have h9 := hn 9 (by decide); have hbb := hB.1 h8; simp only [mkM, maskI, mixM, Nat.reduceAdd] at hK ⊢; simp only [Act.put, List.setIfInBounds_toArray, List.set_cons_zero, List.set_cons_succ] at hK; go_simp; exact hK.out _ _ (BI.before (by decide) (by decide) h8 h9 hbb) GF.same rfl
          refine StepsM.cons (fun l g' wu hB hl hn hp K hK => ?_) ?_
          · have h8 := hn 8 (by decide); have h9 := hn 9 (by decide); have hbb := hB.1 h8; have hc := kq _ hbb; simp only [mkM, maskI, mixM, Nat.reduceAdd] at hK ⊢; simp only [Act.put, List.setIfInBounds_toArray, List.set_cons_zero, List.set_cons_succ] at hK; go_simp; exact hK.out _ _ (BI.before (by decide) (by decide) h8 h9 hbb) GF.same rfl
          refine StepsM.cons (fun l g' wu hB hl hn hp K hK => ?_) ?_
          · have h8 := hn 8 (by decide); have h9 := hn 9 (by decide); have hbb := hB.1 h8; have hc := ky _ hbb; simp only [mkM, maskI, mixM, Nat.reduceAdd] at hK ⊢; simp only [Act.put, List.setIfInBounds_toArray, List.set_cons_zero, List.set_cons_succ] at hK; go_simp; exact hK.out _ _ (BI.before (by decide) (by decide) h8 h9 hbb) GF.same rfl
          refine StepsM.cons (fun l g' wu hB hl hn hp K hK => ?_) ?_
          · have h8 := hn 8 (by decide); have h9 := hn 9 (by decide); have hbb := hB.1 h8; have e0 : g' 40 = .pointer (some ⟨r, 0, none⟩) := (hp 3 (by decide)).2; have e1 : g' 41 = .agg #[.slice qa ql qc] := (hp 4 (by decide)).2; have e2 : g' 42 = .agg #[.slice ya yl yc] := (hp 5 (by decide)).2; simp only [mkM, maskI, mixM, Nat.reduceAdd, e0, e1, e2] at hK ⊢; clear e0 e1 e2; simp only [Act.put, List.setIfInBounds_toArray, List.set_cons_zero, List.set_cons_succ] at hK; go_simp; go_at_call 49; refine (rmul_any r m qa ya ql qc yl yc (u / v) y _ (HE11.out.below hbb).hr (HQS11.out.below hbb) (HE11.out.below hbb).ny).mono ?_; rintro e w7 ⟨ta, tl, tc, rfl, hx, hb⟩; go_wp2_with fail; exact hK.out _ _ (BI.before (by decide) (by decide) h8 h9 (BB.step hbb hb)) (GF.below hb) ⟨ta, tl, tc, rfl, hx⟩
          refine StepsM.cons (fun l g' wu hB hl hn hp K hK => ?_) ?_
          · have h8 := hn 8 (by decide); have h9 := hn 9 (by decide); have hbb := hB.1 h8; have e0 : g' 38 = .pointer (some ⟨r, 0, none⟩) := (hp 1 (by decide)).2; have e1 : g' 39 = .agg #[.slice xa xl xc] := (hp 2 (by decide)).2; obtain ⟨x2, l2, c2, e2, h2⟩ := (hp 6 (by decide)).2; have e2 : g' 43 = .agg #[.slice x2 l2 c2] := e2; simp only [mkM, maskI, mixM, Nat.reduceAdd, e0, e1, e2] at hK ⊢; clear e0 e1 e2; simp only [Act.put, List.setIfInBounds_toArray, List.set_cons_zero, List.set_cons_succ] at hK; go_simp; go_at_call 54; refine (rsub_any r m xa x2 xl xc l2 c2 x (u / v * y % m) _ (HE11.out.below hbb).hr (HE11.out.below hbb).nx h2).mono ?_; rintro e w7 ⟨ta, tl, tc, rfl, hx, hb⟩; go_wp2_with fail; exact hK.out _ _ (BI.before (by decide) (by decide) h8 h9 (BB.step hbb hb)) (GF.below hb) ⟨ta, tl, tc, rfl, hx⟩
          refine StepsM.cons (fun l g' wu hB hl hn hp K hK => ?_) ?_
          · have hbb := hB.1 hl; have hcx := Lib.hid (HE11.out.below hbb).cx; have c8 := hcx.out.cell 0; have f8 := hcx.out.frozen 0; simp only [List.getElem?_cons_zero] at c8; have e0 : g' 37 = .agg #[.slice ya yl yc] := (hp 0 (by decide)).2; simp only [mkM, maskI, mixM, Nat.reduceAdd, e0] at hK ⊢; clear e0; simp only [Act.put, List.setIfInBounds_toArray, List.set_cons_zero, List.set_cons_succ] at hK; go_simp; exact hK.out undef _ (BI.first (hn 9 (by decide)) hbb) (GF.kept rfl (fun _ _ _ hn => hn.set hcx.out 0 _)) trivial
          refine StepsM.cons (fun l g' wu hB hl hn hp K hK => ?_) ?_
          · have h8 := (hp 8 (by decide)).1; obtain ⟨w13, hb13, hW⟩ := hB.2.1 h8 hl; have HW := Lib.hid hW; have hcy : Hid (Blk wu (X + 1) 36 [.slice ya yl yc]) := (by show Blk _ _ _ _; rw [hW]; exact (HE11.out.below hb13).cy.other ⟨X, 0, none⟩ (.slice ya yl yc) (by show X + 1 ≠ X; omega)); clear hW; have c9 := hcy.out.cell 0; have f9 := hcy.out.frozen 0; simp only [List.getElem?_cons_zero] at c9; obtain ⟨x1, l1, c1, e1, h1⟩ := (hp 7 (by decide)).2; have e1 : g' 44 = .agg #[.slice x1 l1 c1] := e1; simp only [mkM, maskI, mixM, Nat.reduceAdd, e1] at hK ⊢; clear e1; simp only [Act.put, List.setIfInBounds_toArray, List.set_cons_zero, List.set_cons_succ] at hK; go_simp; exact hK.out undef _ (BI.last h8 (Exists.intro x1 (Exists.intro l1 (Exists.intro c1 (by rw [HW.out]; exact (HE11.out.below hb13).turn2 (HW.out ▸ h1)))))) (GF.kept rfl (fun _ _ _ hn => hn.set hcy.out 0 _)) trivial
          exact StepsM.nil
        · intro l g' wu hall hB _
          obtain ⟨za, zl, zc, hE⟩ := hB.2.2 (hall 9 (by decide))
          have HE13 := Lib.hid hE
          simp only [mkM, maskI, mixM, Nat.reduceAdd]
          clear hall hB hE kx ky kq
          go_wp2_with fail
          go_roundg (u % v)
          case measure => omega
          case rel => exact ⟨va, vl, vc, ra, rl, rc, ya, yl, yc, za, zl, zc, v, u % v, y, _, by omega, HE13.out, HGT.out⟩
  clear hKc
  go_region_held3 (fun w' => BB w3 w') (repeat' (first | assumption | exact BB.refl _ | apply BB.drew | apply BB.alloc | (refine BB.setCell ?_ (by first | exact Nat.le_refl _ | (simp; done) | (simp; omega) | omega)) | (refine BB.step ?_ (by assumption))))
    (first
      | (go_at_call 25; refine (CC w3.drew (by repeat' (first | exact BB.refl _ | apply BB.drew | apply BB.alloc))).mono ?_; rintro e w4 ⟨sa, sl, sc, rfl, hq, hr, hb4⟩; have T0 := And.intro hq (And.intro hr hb4); have g4 : w3.heap.size ≤ w4.heap.size := hb4.size)
      | (go_at_call 25; refine (CC (w3.alloc (Obj.cells #[Value.slice none 0 0] 36)).drew (by repeat' (first | exact BB.refl _ | apply BB.drew | apply BB.alloc))).mono ?_; rintro e w4 ⟨sa, sl, sc, rfl, hq, hr, hb4⟩; have T1 := And.intro hq (And.intro hr hb4); obtain ⟨k1, ⟨k2, k3⟩, k4, k5⟩ := k_one (w := w3) (v := .slice none 0 0) (e := 36) hb4; have g4 : w3.heap.size ≤ w4.heap.size := Nat.le_of_lt k1.lt; have k6 := k1.lt; have k7 : w4.heap.size ≠ w3.heap.size := Nat.ne_of_gt k6; have k8 : w3.heap.size ≠ w4.heap.size := Nat.ne_of_lt k6)
      | (go_at_call 25; refine (CC ((w3.alloc (Obj.cells #[Value.slice none 0 0] 36)).alloc (Obj.cells #[Value.slice none 0 0] 36)).drew (by repeat' (first | exact BB.refl _ | apply BB.drew | apply BB.alloc))).mono ?_; rintro e w4 ⟨sa, sl, sc, rfl, hq, hr, hb4⟩; have T2 := And.intro hq (And.intro hr hb4); obtain ⟨k1, k2, k3, k4, k5, k6⟩ := k_two (w := w3) (v := .slice none 0 0) (e := 36) (v' := .slice none 0 0) (e' := 36) hb4; have g4 : w3.heap.size ≤ w4.heap.size := Nat.le_of_lt k1.lt))
  all_goals first
    | exact hk _ _ _ _ _ _ (TwoF.c1 T0)
    | exact hk _ _ _ _ _ _ (TwoF.c2 T0)
    | exact hk _ _ _ _ _ _ (TwoF.c3 T1)
    | exact hk _ _ _ _ _ _ (TwoF.c4 T2)
    | exact hk _ _ _ _ _ _ (TwoF.c5 T1)
    | exact hk _ _ _ _ _ _ (TwoF.c6 T2)

end Go.Proofs.YthefednendgclaaGreat
