import Derived.Test.YthefednendgclaaGreatProg
import Derived.Test.YthefednendgclaaGreatNGE
import Derived.Test.YthefednendgclaaGreatShelf
import Derived.Shelf.SlSortCmp.WholeK
import Derived.Ground.SlsfProg
import Derived.Shelf.SlicesG.Cmp
set_option linter.unusedVariables false
set_option linter.unusedSimpArgs false
/-
  That the program's slices.SortFunc of pieces is the library's (written by the kit's tool lay-plain; the numbers are those of the seat of the great laws).
-/
namespace Go.Proofs
open Go.Shelf
def Tryz.sortPc_ren : Go.Shelf.Ren := ⟨fun | 6 => 77 | 15 => 114 | 14 => 113 | 28 => 122 | 29 => 142 | 20 => 134 | 21 => 135 | 22 => 136 | 23 => 137 | 24 => 138 | 25 => 139 | 26 => 140 | 27 => 141 | 46 => 146 | 47 => 147 | 48 => 148 | 49 => 149 | 50 => 150 | 57 => 159 | n => n, fun | 22 => 69 | 24 => 77 | 25 => 133 | 3 => 3 | 39 => 59 | 0 => 0 | 53 => 106 | 55 => 23 | 4 => 4 | 46 => 190 | 45 => 189 | 50 => 194 | 5 => 5 | 9 => 9 | 66 => 199 | 70 => 203 | 76 => 212 | 77 => 213 | n => n, fun | n => n⟩
theorem Tryz.sortPc : Go.Proofs.SlLaysF0.n6 Tryz.prog Tryz.sortPc_ren := {
  mixed := by kernel_rfl
  f6 := ⟨Tryz.f77.name, by decide, Tryz.func77.trans (congrArg some (by kernel_rfl))⟩
  f14 := ⟨Tryz.f113.name, by decide, Tryz.func113.trans (congrArg some (by kernel_rfl))⟩
  f15 := Tryz.func114.trans (congrArg some (by kernel_rfl))
  f20 := ⟨Tryz.f134.name, by decide, Tryz.func134.trans (congrArg some (by kernel_rfl))⟩
  f21 := ⟨Tryz.f135.name, by decide, Tryz.func135.trans (congrArg some (by kernel_rfl))⟩
  f22 := ⟨Tryz.f136.name, by decide, Tryz.func136.trans (congrArg some (by kernel_rfl))⟩
  f23 := ⟨Tryz.f137.name, by decide, Tryz.func137.trans (congrArg some (by kernel_rfl))⟩
  f24 := ⟨Tryz.f138.name, by decide, Tryz.func138.trans (congrArg some (by kernel_rfl))⟩
  f25 := ⟨Tryz.f139.name, by decide, Tryz.func139.trans (congrArg some (by kernel_rfl))⟩
  f26 := ⟨Tryz.f140.name, by decide, Tryz.func140.trans (congrArg some (by kernel_rfl))⟩
  f27 := ⟨Tryz.f141.name, by decide, Tryz.func141.trans (congrArg some (by kernel_rfl))⟩
  f28 := Tryz.func122.trans (congrArg some (by kernel_rfl))
  f29 := Tryz.func142.trans (congrArg some (by kernel_rfl))
  f46 := ⟨Tryz.f146.name, by decide, Tryz.func146.trans (congrArg some (by kernel_rfl))⟩
  f47 := Tryz.func147.trans (congrArg some (by kernel_rfl))
  f48 := Tryz.func148.trans (congrArg some (by kernel_rfl))
  f49 := ⟨Tryz.f149.name, by decide, Tryz.func149.trans (congrArg some (by kernel_rfl))⟩
  f50 := ⟨Tryz.f150.name, by decide, Tryz.func150.trans (congrArg some (by kernel_rfl))⟩
  f57 := ⟨Tryz.f159.name, by decide, Tryz.func159.trans (congrArg some (by kernel_rfl))⟩
  t0 := Tryz.underlying0
  a0 := Tryz.isAgg0
  z0 := Tryz.sizeOf0
  v0 := Tryz.zeroValue0
  t3 := Tryz.underlying3
  a3 := Tryz.isAgg3
  z3 := Tryz.sizeOf3
  v3 := Tryz.zeroValue3
  t4 := Tryz.underlying4
  a4 := Tryz.isAgg4
  z4 := Tryz.sizeOf4
  v4 := Tryz.zeroValue4
  t5 := Tryz.underlying5
  a5 := Tryz.isAgg5
  z5 := Tryz.sizeOf5
  v5 := Tryz.zeroValue5
  t9 := Tryz.underlying9
  a9 := Tryz.isAgg9
  z9 := Tryz.sizeOf9
  v9 := Tryz.zeroValue9
  t22 := Tryz.underlying69
  a22 := Tryz.isAgg69
  z22 := Tryz.sizeOf69
  v22 := Tryz.zeroValue69
  t25 := Tryz.underlying133
  a25 := Tryz.isAgg133
  z25 := Tryz.sizeOf133
  v25 := Tryz.zeroValue133
  t39 := Tryz.underlying59
  a39 := Tryz.isAgg59
  z39 := Tryz.sizeOf59
  v39 := Tryz.zeroValue59
  t45 := Tryz.underlying189
  a45 := Tryz.isAgg189
  z45 := Tryz.sizeOf189
  v45 := Tryz.zeroValue189
  t46 := Tryz.underlying190
  a46 := Tryz.isAgg190
  z46 := Tryz.sizeOf190
  v46 := Tryz.zeroValue190
  t50 := Tryz.underlying194
  a50 := Tryz.isAgg194
  z50 := Tryz.sizeOf194
  v50 := Tryz.zeroValue194
  t53 := Tryz.underlying106
  a53 := Tryz.isAgg106
  z53 := Tryz.sizeOf106
  v53 := Tryz.zeroValue106
  t55 := Tryz.underlying23
  a55 := Tryz.isAgg23
  z55 := Tryz.sizeOf23
  v55 := Tryz.zeroValue23
  t66 := Tryz.underlying199
  a66 := Tryz.isAgg199
  z66 := Tryz.sizeOf199
  v66 := Tryz.zeroValue199
  t70 := Tryz.underlying203
  a70 := Tryz.isAgg203
  z70 := Tryz.sizeOf203
  v70 := Tryz.zeroValue203
  t76 := Tryz.underlying212
  a76 := Tryz.isAgg212
  z76 := Tryz.sizeOf212
  v76 := Tryz.zeroValue212
  t77 := Tryz.underlying213
  a77 := Tryz.isAgg213
  z77 := Tryz.sizeOf213
  v77 := Tryz.zeroValue213 }
end Go.Proofs
/-
  Rows of pieces of a dealing: who tells, a value, a mask. How they are read, found, appended, sorted.
-/
namespace Go.Proofs.YthefednendgclaaGreat
open Go Go.RowKit Sac

/-- A piece's cells. -/
structure PV where
  peer : Int
  x : Option Addr
  xl : Nat
  xc : Nat
  y : Option Addr
  yl : Nat
  yc : Nat
instance : Inhabited PV := ⟨⟨0, none, 0, 0, none, 0, 0⟩⟩
def PV.enc (p : PV) : List Value := [.int .i64 p.peer, .slice p.x p.xl p.xc, .slice p.y p.yl p.yc]
def pflat (L : List PV) : List Value := L.flatMap PV.enc
theorem pflat_cons (a : PV) (L : List PV) : pflat (a :: L) = .int .i64 a.peer :: .slice a.x a.xl a.xc :: .slice a.y a.yl a.yc :: pflat L := rfl
theorem pflat_append (L M : List PV) : pflat (L ++ M) = pflat L ++ pflat M := by simp [pflat]
theorem length_pflat (L : List PV) : (pflat L).length = L.length * 3 := by
  induction L with
  | nil => rfl
  | cons a L ih => rw [pflat_cons]; simp [ih]; omega
theorem pflat_get : ∀ (L : List PV) (rest : List Value) (i : Nat), i < L.length →
    (pflat L ++ rest)[i * 3]? = some (.int .i64 (L.getD i default).peer) ∧ (pflat L ++ rest)[i * 3 + 1]? = some (.slice (L.getD i default).x (L.getD i default).xl (L.getD i default).xc) ∧ (pflat L ++ rest)[i * 3 + 2]? = some (.slice (L.getD i default).y (L.getD i default).yl (L.getD i default).yc)
  | [], _, i, h => by simp at h
  | a :: L, rest, 0, _ => by simp [pflat_cons]
  | a :: L, rest, i + 1, h => by
    have ih := pflat_get L rest i (by simpa using h)
    rw [show (i + 1) * 3 = i * 3 + 3 by omega, pflat_cons]
    simpa using ih
/-- A row of pieces that can be read. -/
def PRowAt (w : World) (a : Option Addr) (L : List PV) : Prop := ∀ i, i < L.length → ∃ g, a = some ⟨g, 0, none⟩ ∧ g < w.heap.size ∧ w.cell? ⟨g, i * 3, none⟩ = some (.int .i64 (L.getD i default).peer) ∧ w.cell? ⟨g, i * 3 + 1, none⟩ = some (.slice (L.getD i default).x (L.getD i default).xl (L.getD i default).xc) ∧ w.cell? ⟨g, i * 3 + 2, none⟩ = some (.slice (L.getD i default).y (L.getD i default).yl (L.getD i default).yc)
theorem PRowAt.below {w w' : World} {a : Option Addr} {L : List PV} (h : PRowAt w a L) (hb : Below w.heap.size w w') : PRowAt w' a L := fun i hi => by
  obtain ⟨g, e, hg, c0, c1, c2⟩ := h i hi
  exact ⟨g, e, Nat.lt_of_lt_of_le hg hb.size, (BB.cell hb hg).trans c0, (BB.cell hb hg).trans c1, (BB.cell hb hg).trans c2⟩
theorem PRowAt.nil (w : World) (a : Option Addr) : PRowAt w a [] := fun i hi => by simp at hi
/-- A row of pieces of the walk's own. -/
abbrev POwn (w : World) (base : Nat) (v : Value) (L : List PV) : Prop := w.ownsRow base 77 3 v L.length (pflat L)
theorem POwn.nil (w : World) (base : Nat) : POwn w base (.slice none 0 0) [] := World.ownsRow_nil _ _ _ _
theorem POwn.form {w : World} {base : Nat} {v : Value} {L : List PV} (h : POwn w base v L) : ∃ (a : Option Addr) (cap : Nat), v = .slice a L.length cap ∧ (L.length : Int) ≤ cap ∧ (cap : Int) ≤ 9223372036854775807 ∧ PRowAt w a L := by
  obtain ⟨hx, ⟨rfl, h0, h1⟩ | ⟨g, cap, rest, rfl, hb, hB, hn, hc, hl⟩⟩ := own_elim h
  · have : L = [] := List.eq_nil_of_length_eq_zero h0
    subst this
    exact ⟨none, 0, rfl, by simp, by decide, PRowAt.nil _ _⟩
  · refine ⟨some ⟨g, 0, none⟩, cap, rfl, by omega, by unfold maxLen at hc; omega, fun i hi => ⟨g, rfl, hB.lt, ?_, ?_, ?_⟩⟩
    · rw [hB.cell]; exact (pflat_get L rest i hi).1
    · rw [hB.cell]; exact (pflat_get L rest i hi).2.1
    · rw [hB.cell]; exact (pflat_get L rest i hi).2.2
theorem POwn.below {w w' : World} {base : Nat} {v : Value} {L : List PV} (h : POwn w base v L) (hb : Below w.heap.size w w') : POwn w' base v L := by
  obtain ⟨hx, h0 | ⟨g, cap, rest, e, hg, hB, hn, hc, hl⟩⟩ := own_elim h
  · exact ⟨hx, .inl ⟨h0.1, h0.2.1⟩⟩
  · subst e
    exact own_intro hg (hB.below hb hB.lt) hn hc hl hx
theorem PV.one (p : PV) : ∀ u ∈ p.enc, u.oneCell' = true := by
  intro u hu
  simp [PV.enc] at hu
  rcases hu with rfl | rfl | rfl <;> rfl
theorem Tryz.infoPiece : (Tryz.prog.info? 77).map (fun i => (i.zero, i.size, i.bytes)) = some (some (.agg #[.int .i64 0, .slice none 0 0, .slice none 0 0]), 3, 56) := by kernel_rfl
/-- One piece more. -/
theorem append_piece (w : World) (base : Nat) (ty : TypeId) (v : Value) (L : List PV) (hown : POwn w base v L) (ad : Addr) (c : Nat) (p : PV) (hnew : ∀ j u, p.enc[j]? = some u → w.cell? (ad.add j) = some u) (hlen : L.length ≤ 100000) (hbase : base ≤ w.heap.size) :
    ∃ v' w', (Builtin.append_ #[69, 69] ty #[v, .slice (some ad) 1 c]).run Tryz.prog w = .ok v' w' ∧ POwn w' base v' (L ++ [p]) ∧ w.grownBy w' v.ownBlock ∧ (∀ k, v'.ownBlock = some k → v.ownBlock = some k ∨ w.heap.size ≤ k) := by
  obtain ⟨i, hi, hz1, hz2, hz3⟩ := info_parts Tryz.infoPiece
  obtain ⟨v', w', hr, ho', hg, hf⟩ := append_own (P := Tryz.prog) w base 69 ty 77 i _ 3 56 Tryz.underlying69 hi hz1 hz2 hz3 rfl (by decide) v L.length (pflat L) hown ad 1 c p.enc rfl hnew p.one (by unfold maxLen; omega) (by omega) hbase
  refine ⟨v', w', hr, ?_, hg, hf⟩
  have e : pflat (L ++ [p]) = pflat L ++ p.enc := by rw [pflat_append]; simp [pflat]
  unfold POwn
  rw [e, List.length_append]
  exact ho'
theorem wpList_append_piece (w : World) {ops : Array Oper} {rest : List Oper} {o : Oper} {a : Act} {Q : Exit → Act → World → Prop} (hg : o.guard = none) (s x : Operand)
    (hop : o.op = Op.call { callee := Callee.builtin Builtin.append, args := #[s, x], argTypes := #[69, 69] })
    (base : Nat) (v : Value) (L : List PV) (hs : a.eval s = v) (hown : POwn w base v L) (ad : Addr) (c : Nat) (p : PV) (hx : a.eval x = .slice (some ad) 1 c) (hnew : ∀ j u, p.enc[j]? = some u → w.cell? (ad.add j) = some u)
    (hlen : L.length ≤ 100000) (hbase : base ≤ w.heap.size)
    (h : ∀ v' w', POwn w' base v' (L ++ [p]) → w.grownBy w' v.ownBlock → (∀ k, v'.ownBlock = some k → v.ownBlock = some k ∨ w.heap.size ≤ k) → wpList Tryz.prog ops Q rest (a.put o.dst v') w') :
    wpList Tryz.prog ops Q (o :: rest) a w := by
  refine wpList_plain hg fun K hK' => ?_
  obtain ⟨v', w', hr, h1, h2, h3⟩ := append_piece w base o.type v L hown ad c p hnew hlen hbase
  unfold Oper.wp execOp
  simp only [hop, resolve, invoke, builtin, Sem.run_bind, Sem.run_pure, Result.andThen_ok, List.map_toArray, List.map_cons, List.map_nil, hs, hx, hr]
  exact hK' _ _ (h v' w' h1 h2 h3)
/-- Behind an append onto a row of the walk's own, all elder blocks are as they were. -/
theorem grown_below {w w' : World} {base : Nat} {v : Value} {L : List PV} (h : POwn w base v L) (hbase : base ≤ w.heap.size) (hg : w.grownBy w' v.ownBlock) : Below base w w' :=
  ⟨hg.os, hg.tape, hg.output, hg.size, fun k hk => hg.block k (by omega) fun e => by have := (h.lt k e.symm).1; omega⟩

/-! ### Looking for a peer -/
set_option maxRecDepth 100000 in
theorem same_any (q : PV) (b : Nat) (n : Int) (w : World) (hlt : b < w.heap.size) (hc : w.cell? ⟨b, 0, none⟩ = some (.int .i64 n)) :
    Calls Tryz.prog 75 #[.agg #[.int .i64 q.peer, .slice q.x q.xl q.xc, .slice q.y q.yl q.yc], .pointer (some ⟨b, 0, none⟩)] w fun e w' => e = .returned (.bool (q.peer == n)) ∧ Below w.heap.size w w' := by
  have hbA := (Below.refl _ w).alloc (Nat.le_refl _) (Obj.cells #[Value.int .i64 q.peer, Value.slice q.x q.xl q.xc, Value.slice q.y q.yl q.yc] 77)
  have c1 := (BB.cell hbA hlt (p := ⟨b, 0, none⟩)).trans hc
  have hB := Blk.new w [Value.int .i64 q.peer, Value.slice q.x q.xl q.xc, Value.slice q.y q.yl q.yc] 77
  have c0 := hB.cell 0
  simp only [List.getElem?_cons_zero] at c0
  have HB := Lib.hid hbA
  clear hbA hB hc
  go_enter Tryz.func75, Tryz.ntmps75
  go_wp2_with fail
  generalize w.alloc (Obj.cells #[Value.int .i64 q.peer, Value.slice q.x q.xl q.xc, Value.slice q.y q.yl q.yc] 77) = w1 at c0 c1 HB ⊢
  go_wp2_with fail
  go_ret
  exact ⟨rfl, HB.out⟩
def IdxPost (L : List PV) (n : Int) (w : World) (e : Ending) (w' : World) : Prop := ∃ r : Int, e = .returned (.int .i64 r) ∧ decide (0 ≤ r) = L.any (fun q => q.peer == n) ∧ Below w.heap.size w w'
theorem any_true {L : List PV} {n : Int} {i : Nat} (hi : i < L.length) (h : (L.getD i default).peer = n) : L.any (fun q => q.peer == n) = true := by
  rw [List.any_eq_true]
  refine ⟨L.getD i default, ?_, by rw [h]; exact beq_self_eq_true _⟩
  rw [List.getD_eq_getElem?_getD, List.getElem?_eq_getElem hi]
  exact List.getElem_mem hi
theorem any_false {L : List PV} {n : Int} (h : ∀ i, i < L.length → (L.getD i default).peer ≠ n) : L.any (fun q => q.peer == n) = false := by
  rw [List.any_eq_false]
  intro q hq
  obtain ⟨i, hi, rfl⟩ := List.getElem_of_mem hq
  have := h i hi
  rw [List.getD_eq_getElem?_getD, List.getElem?_eq_getElem hi] at this
  simpa using this
set_option maxRecDepth 100000 in
set_option maxHeartbeats 2000000 in
theorem pidx_any (a : Option Addr) (len cap : Nat) (L : List PV) (b : Nat) (n : Int) (w : World) (hr : PRowAt w a L) (hl : L.length = len) (hcap : (len : Int) ≤ cap) (hlen : (len : Int) ≤ 100000) (hlt : b < w.heap.size) (hc : w.cell? ⟨b, 0, none⟩ = some (.int .i64 n)) :
    Calls Tryz.prog 112 #[.slice a len cap, .func (.func 75) #[] #[.pointer (some ⟨b, 0, none⟩)]] w (IdxPost L n w) := by
  have HR := Lib.hid hr
  have HL := Lib.hid hl
  have HC := Lib.hid hc
  clear hr hl hc
  go_enter Tryz.func112, Tryz.ntmps112
  go_wp2_with fail
  go_loopw [8] (fun iv wr => ∃ i : Nat, i ≤ len ∧ iv = .int .i64 (i : Int) ∧ Hid (∀ j, j < i → (L.getD j default).peer ≠ n) ∧ Hid (BB w wr)) (fun iv _ => len - (intOf iv).toNat)
  case atStart => exact ⟨0, Nat.zero_le _, rfl, (fun j h => by omega), BB.refl _⟩
  case round =>
    obtain ⟨i, hi, rfl, HN, HB⟩ := hrel
    by_cases hlt2 : (i : Int) < (len : Int)
    · obtain ⟨g, rfl, hg, c0, c1, c2⟩ := (HR.out.below HB.out) i (by rw [HL.out]; omega)
      obtain ⟨q, hq⟩ : ∃ q, L.getD i default = q := ⟨_, rfl⟩
      rw [hq] at c0 c1 c2
      have HQ := Lib.hid hq
      clear hq
      go_wp2_with fail
      refine (same_any q b n wr (Nat.lt_of_lt_of_le hlt HB.out.size) ((BB.cell HB.out hlt).trans HC.out)).mono ?_
      rintro e w2 ⟨rfl, hb2⟩
      have HB2 := Lib.hid (BB.step HB.out hb2)
      clear hb2 c0 c1 c2
      by_cases hp : q.peer = n
      · have hpe : (q.peer == n) = true := by rw [hp]; exact beq_self_eq_true _
        have HP := Lib.hid hp
        rw [hpe]
        clear hp hpe
        go_wp2_with fail
        go_ret
        exact ⟨_, rfl, by rw [any_true (i := i) (by rw [HL.out]; omega) (by rw [HQ.out]; exact HP.out)]; exact decide_eq_true (by omega), HB2.out⟩
      · have hpe : (q.peer == n) = false := by rw [beq_eq_false_iff_ne]; exact hp
        have HP := Lib.hid hp
        rw [hpe]
        clear hp hpe
        go_wp2_with fail
        go_roundw
        case rel => exact ⟨i + 1, by omega, by go_num, (fun j hj => by
          rcases Nat.lt_or_ge j i with h5 | h5
          · exact HN.out j h5
          · obtain rfl : j = i := by omega
            rw [HQ.out]; exact HP.out), HB2.out⟩
        case measure => simp [intOf]; omega
    · have hi' : i = len := by omega
      go_wp2_with fail
      go_ret
      exact ⟨_, rfl, by rw [any_false (fun j hj => HN.out j (by rw [HL.out] at hj; omega))]; rfl, HB.out⟩
set_option maxRecDepth 100000 in
theorem contains_any (a : Option Addr) (len cap : Nat) (L : List PV) (b : Nat) (n : Int) (w : World) (hr : PRowAt w a L) (hl : L.length = len) (hcap : (len : Int) ≤ cap) (hlen : (len : Int) ≤ 100000) (hlt : b < w.heap.size) (hc : w.cell? ⟨b, 0, none⟩ = some (.int .i64 n)) :
    Calls Tryz.prog 76 #[.slice a len cap, .func (.func 75) #[] #[.pointer (some ⟨b, 0, none⟩)]] w fun e w' => e = .returned (.bool (L.any fun q => q.peer == n)) ∧ Below w.heap.size w w' := by
  have hcon := pidx_any a len cap L b n w hr hl hcap hlen hlt hc
  obtain ⟨B, hB⟩ : ∃ B, (L.any fun q => q.peer == n) = B := ⟨_, rfl⟩
  rw [hB]
  have HB := Lib.hid hB
  clear hr hl hcap hlen hlt hc hB
  go_enter Tryz.func76, Tryz.ntmps76
  go_wp2_with fail
  refine hcon.mono ?_
  rintro e w2 ⟨r, rfl, hr, hb⟩
  rw [HB.out] at hr
  have HR := Lib.hid hr
  have HBB := Lib.hid hb
  clear hr hb hcon
  go_wp2_with fail
  go_ret
  exact ⟨ret_bool HR.out, HBB.out⟩

/-! ### Sorting by the peers -/
theorem pnan_any (a : Int) (w : World) : Calls Tryz.prog 115 #[.int .i64 a] w fun e w' => e = .returned (.bool false) ∧ w' = w := by
  go_enter Tryz.func115, Tryz.ntmps115
  go_wp2
  go_ret
  exact ⟨by simp, rfl⟩
def cmp3 (a b : Int) : Int := if a < b then -1 else if b < a then 1 else 0
set_option maxHeartbeats 400000 in
theorem pcompare_any (a b : Int) (w : World) : Calls Tryz.prog 79 #[.int .i64 a, .int .i64 b] w fun e w' => e = .returned (.int .i64 (cmp3 a b)) ∧ w' = w := by
  go_enter Tryz.func79, Tryz.ntmps79
  go_wp2_with (go_at_call 115; refine (pnan_any _ _).mono ?_; rintro e w' ⟨rfl, rfl⟩)
  all_goals (go_ret; refine ⟨ret_int ?_, rfl⟩; unfold cmp3; (repeat' split) <;> omega)
open Go.Sort in
set_option maxHeartbeats 1000000 in
theorem pless_any (p q : PV) (W : World) : Calls Tryz.prog 78 #[.agg #[.int .i64 p.peer, .slice p.x p.xl p.xc, .slice p.y p.yl p.yc], .agg #[.int .i64 q.peer, .slice q.x q.xl q.xc, .slice q.y q.yl q.yc]] W fun e w' => e = .returned (.int .i64 (cmp3 p.peer q.peer)) ∧ ∃ n os', w' = grow (W.drewN n) os' := by
  have hcon := fun W' => pcompare_any p.peer q.peer W'
  generalize cmp3 p.peer q.peer = r at hcon ⊢
  go_enter Tryz.func78, Tryz.ntmps78
  go_wp2_with (go_at_call 79; refine (hcon _).mono ?_; rintro e w' ⟨rfl, rfl⟩)
  go_ret
  exact ⟨rfl, 0, _, by rw [alloc_eq_grow, alloc_eq_grow, grow_grow]; rfl⟩
theorem lt_peer (p q : PV) : ltOf (fun p q : PV => cmp3 p.peer q.peer) p q = decide (p.peer < q.peer) := by
  unfold ltOf cmp3
  by_cases h1 : p.peer < q.peer
  · simp [h1]
  · by_cases h2 : q.peer < p.peer <;> simp [h1, h2]
open Go.Sort in
theorem swo_peer : SWO (ltOf fun p q : PV => cmp3 p.peer q.peer) where
  irrefl x := by rw [lt_peer]; simp
  trans x y z h1 h2 := by rw [lt_peer] at *; simp at *; omega
  ntrans x y z h1 h2 := by rw [lt_peer] at *; simp at *; omega
end Go.Proofs.YthefednendgclaaGreat
/-
  slices.SortFunc on a row of pieces of the walk's own: the same pieces, by rising peers; no other block is written.
-/
namespace Go.Proofs.YthefednendgclaaGreat
open Go Go.RowKit Sac Go.Sort

theorem enc_at (p : PV) : p.enc[0]! = .int .i64 p.peer ∧ p.enc[1]! = .slice p.x p.xl p.xc ∧ p.enc[2]! = .slice p.y p.yl p.yc := ⟨rfl, rfl, rfl⟩
theorem getBang (L : List PV) (i : Nat) : L.toArray[i]! = L.getD i default := by
  simp [List.getD_eq_getElem?_getD]
theorem pholds {w : World} {base g cap : Nat} {L : List PV} (h : POwn w base (.slice (some ⟨g, 0, none⟩) L.length cap) L) : HoldsK PV.enc 3 w g 0 L.toArray := by
  obtain ⟨hx, ⟨h0, _⟩ | ⟨g', cap', rest, e, hb, hB, hn, hc, hl⟩⟩ := own_elim h
  · cases h0
  injection e with e1 e2 e3
  injection e1 with e1
  injection e1 with e1
  subst e1
  intro j hj
  rw [size_flatK, List.size_toArray] at hj
  refine ⟨?_, hB.frozen _⟩
  rw [get_flatK _ _ _ _ (by rw [List.size_toArray]; exact hj), hB.cell, getBang, Nat.zero_add]
  obtain ⟨i, c, rfl, hc3⟩ : ∃ i c, j = i * 3 + c ∧ c < 3 := ⟨j / 3, j % 3, by omega, by omega⟩
  have hi : i < L.length := by omega
  obtain ⟨p0, p1, p2⟩ := pflat_get L rest i hi
  obtain ⟨e0, e1, e2⟩ := enc_at (L.getD i default)
  rw [show (i * 3 + c) / 3 = i by omega, show (i * 3 + c) % 3 = c by omega]
  show _ = some ((L.getD i default).enc[c]!)
  match c, hc3 with
  | 0, _ => rw [e0]; exact p0
  | 1, _ => rw [e1]; exact p1
  | 2, _ => rw [e2]; exact p2
theorem below_sorted {w : World} {g n base : Nat} {os : Array Obj} (d : Array PV) (hg : base ≤ g) (hbase : base ≤ w.heap.size) : Below base w (Go.Proofs.sortWorldK PV.enc 3 w g 0 n d os) := by
  unfold Go.Proofs.sortWorldK putRowK
  refine ⟨rfl, rfl, rfl, by simp, fun k hk => ?_⟩
  rw [heap_grow_old _ _ (by simp; omega)]
  have : g ≠ k := by omega
  simp [putRow, mapBlock, Sort.ahead, Array.getElem?_modify, this]

/-- Behind the sort. -/
def SortPost (g : Nat) (L : List PV) (w : World) (e : Ending) (w' : World) : Prop := e = .returned (.tuple #[]) ∧ ∃ L' : List PV, L'.Perm L ∧ L'.Pairwise (fun p q => p.peer ≤ q.peer) ∧ PRowAt w' (some ⟨g, 0, none⟩) L' ∧ ∀ base, base ≤ g → base ≤ w.heap.size → Below base w w'
theorem sortPost_of {w : World} {base g cap : Nat} {L : List PV} (h : POwn w base (.slice (some ⟨g, 0, none⟩) L.length cap) L) {n : Nat} {os : Array Obj} {d' : Array PV} (hp : PermIn 0 L.toArray.size L.toArray d') (hs : SortedIn (ltOf fun p q : PV => cmp3 p.peer q.peer) 0 L.toArray.size d') (hlt : g < w.heap.size) :
    SortPost g L w (.returned (.tuple #[])) (Go.Proofs.sortWorldK PV.enc 3 w g 0 n d' os) := by
  have hH := pholds h
  have hH' := Go.Proofs.holdsK_sortWorldK_c PV.enc 3 w g 0 L.toArray d' n os hH hlt hp.1
  have hsz : d'.size = L.length := by rw [hp.1, List.size_toArray]
  have hperm : d'.toList.Perm L := by
    have h3 : (List.take L.length d'.toList).Perm L := by simpa [hp.1] using hp.2.2
    rwa [List.take_of_length_le (by rw [Array.length_toList, hsz]; exact Nat.le_refl _)] at h3
  refine ⟨rfl, d'.toList, hperm, ?_, fun i hi => ?_, fun b h1 h2 => below_sorted d' h1 h2⟩
  · rw [List.pairwise_iff_getElem]
    intro i j hi hj hij
    have hi' : i < d'.size := by simpa using hi
    have hj' : j < d'.size := by simpa using hj
    have := hs i j (Nat.zero_le _) hij (by rw [List.size_toArray, ← hsz]; exact hj')
    rw [lt_peer] at this
    have h4 := of_decide_eq_false this
    rw [getElem!_pos d' i hi', getElem!_pos d' j hj'] at h4
    simp only [Array.getElem_toList]
    omega
  · have hi' : i < d'.size := by simpa using hi
    have e : d'.toList.getD i default = d'[i]! := by
      rw [getElem!_pos d' i hi', List.getD_eq_getElem?_getD, List.getElem?_eq_getElem hi]
      simp
    obtain ⟨e0, e1, e2⟩ := enc_at d'[i]!
    have c0 := (hH'.cell hi' (c := 0) (by decide)).1
    have c1 := (hH'.cell hi' (c := 1) (by decide)).1
    have c2 := (hH'.cell hi' (c := 2) (by decide)).1
    rw [e0] at c0
    rw [e1] at c1
    rw [e2] at c2
    simp only [Nat.zero_add, Nat.add_zero] at c0 c1 c2
    rw [e]
    exact ⟨g, rfl, Nat.lt_of_lt_of_le hlt (Go.Proofs.size_sortWorldK_c PV.enc 3 w g 0 n d' os), c0, c1, c2⟩
theorem psort_any (base g m cap : Nat) (L : List PV) (w : World) (hm : L.length = m) (h : POwn w base (.slice (some ⟨g, 0, none⟩) m cap) L) (hlen : m ≤ 100000) :
    Calls Tryz.prog 77 #[.slice (some ⟨g, 0, none⟩) m cap, .func (.func 78) #[] #[]] w (SortPost g L w) := by
  subst hm
  have eg : ∀ args w, (callFunc 78 args).run Tryz.prog w = .ok (.enter 78 args) w := enters_of Tryz.func78 (by kernel_rfl) rfl
  have hlt : g < w.heap.size := (h.lt g rfl).2
  have hcon := AnyQ.slices_SortFunc Tryz.sortPc 3 Tryz.isAgg77 Tryz.sizeOf77 PV.enc (fun _ => rfl) PV.one (fun p q => cmp3 p.peer q.peer) swo_peer 78 #[] g 0 cap L.toArray w eg (fun _ _ _ _ x y => pless_any x y _) (pholds h) hlt (by rw [List.size_toArray]; omega)
  rw [List.size_toArray] at hcon
  change Calls Tryz.prog 77 _ _ _ at hcon
  refine hcon.mono ?_
  rintro e w' ⟨rfl, d', n, os, hp, hs, rfl⟩
  exact sortPost_of h (by rw [List.size_toArray]; exact hp) (by rw [List.size_toArray]; exact hs) hlt
end Go.Proofs.YthefednendgclaaGreat
