/-
  The law DealHides: it returns true.
-/
import Derived.Test.YthefednendgclaaMade
import Derived.Test.YthefednendgclaaPlainB
import Derived.Test.YthefednendgclaaThr
import Derived.Test.YthefednendgclaaModInv
set_option linter.unusedVariables false
set_option linter.unusedSimpArgs false
namespace Go.Proofs.Ythefednendgclaa
open Go Go.RowKit Sac NT

def KpT (_ _ : World) : Prop := True
def IsLN (n : Nat) (v : Value) (w : World) : Prop := ∃ (q : Nat) (za : Option Addr) (zl zc : Nat), v = .slice (some ⟨q, 0, none⟩) 1 1 ∧ q < w.heap.size ∧ w.cell? ⟨q, 0, none⟩ = some (.slice za zl zc) ∧ NatS w za zl n
theorem IsLN.below {n : Nat} (v : Value) (w w' : World) (hb : Below w.heap.size w w') (h : IsLN n v w) : IsLN n v w' := by
  obtain ⟨q, za, zl, zc, e, h1, h2, h3⟩ := h
  exact ⟨q, za, zl, zc, e, Nat.lt_of_lt_of_le h1 hb.size, (BB.cell hb h1).trans h2, h3.below hb⟩
theorem IsLN.new {n : Nat} {w : World} {za : Option Addr} {zl zc : Nat} (h : NatS w za zl n) : IsLN n (.slice (some ⟨w.heap.size, 0, none⟩) 1 1) (w.alloc (.cells #[.slice za zl zc] 33)) :=
  ⟨w.heap.size, za, zl, zc, rfl, by simp, (Blk.new w [.slice za zl zc] 33).cell 0, h.below ((Below.refl _ w).alloc (Nat.le_refl _) _)⟩
theorem wanted_go2 {o : Oper} {y : Nat → Option Bool} {A E : Prop} (hg : o.guard = none) (h : A) : if Region.wanted o y = true then A else E := by
  rw [if_pos (by simp [Region.wanted, hg])]
  exact h
theorem wp_append_nat {o : Oper} {a : Act} {w : World} {K : Act → World → Prop} {Q : Exit → Act → World → Prop} (s x : Operand)
    (hop : o.op = Op.call { callee := Callee.builtin Builtin.append, args := #[s, x], argTypes := #[29, 29] })
    (base : Nat) (v : Value) (ns : List Nat) (hs : a.eval s = v) (hown : NatsOwn w base v ns) (ad : Addr) (c n : Nat) (xa : Option Addr) (xl xc : Nat) (hx : a.eval x = .slice (some ad) 1 c) (hc : w.cell? ad = some (.slice xa xl xc)) (hn : NatS w xa xl n)
    (hlen : ns.length ≤ 100000) (hbase : base ≤ w.heap.size)
    (h : ∀ v' w', NatsOwn w' base v' (ns ++ [n]) → w.grownBy w' v.ownBlock → (∀ k, v'.ownBlock = some k → v.ownBlock = some k ∨ w.heap.size ≤ k) → K (a.put o.dst v') w') :
    Oper.wp Try.prog o a w K Q := by
  obtain ⟨v', w', hr, h1, h2, h3⟩ := append_nat w base o.type v ns hown ad c n xa xl xc hc hn hlen hbase
  unfold Oper.wp execOp
  simp only [hop, resolve, invoke, builtin, Sem.run_bind, Sem.run_pure, Result.andThen_ok, List.map_toArray, List.map_cons, List.map_nil, hs, hx, hr]
  exact h v' w' h1 h2 h3
theorem dvF_lt2 {q S i : Nat} {l : List Nat} (hq : 0 < q) : ∀ a ∈ dvF q S l i, a < q := by
  intro a ha
  unfold dvF at ha
  rcases List.mem_cons.1 ha with rfl | ha
  · exact Nat.mod_lt _ hq
  · obtain ⟨b, _, rfl⟩ := List.mem_map.1 ha
    exact Nat.mod_lt _ hq
theorem L2_O {T : TypeId} (hT : 33 ≠ T) (hu : 130 ≠ T) {s : Nat} {v v' : Value} {ns ns' : List Nat} : ∀ (i : Nat) (t : Itm), [rowI s v ns, rowI s v' ns'][i]? = some t → ItO T t
  | 0, _, h => by obtain rfl := Option.some.inj h; exact rowI_O hT hu _ _ _
  | 1, _, h => by obtain rfl := Option.some.inj h; exact rowI_O hT hu _ _ _
  | n + 2, _, h => by simp at h
theorem F1_O {s D : Nat} {cs : List Value} {w : World} (h : Blk w D 82 cs) : ∀ (i : Nat) (P : World → Prop), [fun w => Blk w D 82 cs][i]? = some P → Stays s 33 P ∧ P w
  | 0, _, e => by obtain rfl := Option.some.inj e; exact ⟨blk_stays (by decide), h⟩
  | n + 1, _, e => by simp at e

theorem addP_lt {q : Nat} (hq : 0 < q) {V p : List Nat} : ∀ a ∈ addP q V p, a < q := by
  intro a ha
  unfold addP at ha
  obtain ⟨i, hi, rfl⟩ := List.getElem_of_mem ha
  rw [List.getElem_zipWith]
  exact Nat.mod_lt _ hq
theorem subP_lt {q c : Nat} (hq : 0 < q) {M p : List Nat} : ∀ a ∈ subP q c M p, a < q := by
  intro a ha
  unfold subP at ha
  obtain ⟨i, hi, rfl⟩ := List.getElem_of_mem ha
  rw [List.getElem_zipWith]
  exact (Mo.sub hq (Cg.refl q _) (Cg.refl q _)).1
theorem hides_all {V M p : List Nat} {c : Nat} (hv : V.length = p.length) (hm : M.length = p.length) (hc : c * 53 % 101 = 1) : allG (gP 0) (gG 0) (gH 0) (addP 101 V p) (subP 101 c M p) = allG (gP 0) (gG 0) (gH 0) V M := by
  unfold allG
  rw [addP_length hv, subP_length hm]
  refine List.map_congr_left fun i hi => ?_
  have hi' : i < p.length := by rw [List.mem_range] at hi; omega
  rw [addP_get (by omega) hi', subP_get (by omega) hi', multi_two, multi_two]
  exact pledge_same hc
def PRow (w : World) (v : Value) (n : Nat) (ns : List Nat) : Prop := ∃ (a : Option Addr) (cap : Nat), v = .slice a n cap ∧ NatsAt w a ns
theorem PRow.below {w w' : World} {v : Value} {n : Nat} {ns : List Nat} (h : PRow w v n ns) (hb : Below w.heap.size w w') : PRow w' v n ns := by
  obtain ⟨a, c, e, h⟩ := h
  exact ⟨a, c, e, h.below hb⟩
theorem PRow.of {w : World} {base : Nat} {v : Value} {n : Nat} {ns : List Nat} (h : NatsOwn w base v ns) (hn : ns.length = n) : PRow w v n ns := by
  obtain ⟨a, c, e, _, _, h, _⟩ := h.form
  exact ⟨a, c, hn ▸ e, h⟩
theorem small_1000 {l : List Nat} (h : ∀ a ∈ l, a < 101) : ∀ a ∈ l, a < 2 ^ 1000 := fun a ha => @lt_twop a 7 1000 (Nat.lt_trans (h a ha) (by decide)) (by decide)
def tabH32 (v0 : Value) (v1 : Value) (v2 : Value) (v3 : Value) (v4 : Value) (v5 : Value) (v6 : Value) (v7 : Value) (v8 : Value) (v9 : Value) (v10 : Value) (v11 : Value) (v15 : Value) : List (Fk KpT) := [.val v0, .val v1, .val v2, .val v3, .val v4, .val v5, .val v6, .val v7, .val v8, .val v9, .val v10, .val v11, .any, .any, .any, .val v15, .any]
def dstH32 : List (Option Tmp) := [some 140, some 141, some 142, some 143, some 144, some 145, some 146, some 147, some 148, some 149, some 150, some 151, some 152, some 153, some 154, some 155, none]
def preH32 : List (List Nat) := [[], [0], [], [], [3], [], [3, 4, 5], [3, 4, 5, 6], [], [], [8, 9], [8, 9, 10], [2, 3, 4, 5, 6, 7, 8, 9, 10, 11], [2, 3, 4, 5, 6, 7, 8, 9, 10, 11, 12], [0, 1, 2, 3, 4, 5, 6, 7, 8, 9, 10, 11, 12, 13], [0, 1, 2, 3, 4, 5, 6, 7, 8, 9, 10, 11, 12, 13, 14], [0, 1, 2, 3, 4, 5, 6, 7, 8, 9, 10, 11, 12, 13, 14, 15]]
def maskH32 : List Bool := [false, false, false, false, false, false, false, false, false, false, false, false, false, false, false, false, false, false, false, false, false, false, false, false, false, false, false, false, false, false, false, false, false, false, false, false, false, false, false, false, false, false, false, false, false, false, false, false, false, false, false, false, false, false, false, false, false, false, false, false, false, false, false, false, false, false, false, false, false, false, false, false, false, false, false, false, false, false, false, false, false, false, false, false, false, false, false, false, false, false, false, false, false, false, false, false, false, false, false, false, false, false, false, false, false, false, false, false, false, false, false, false, false, false, false, false, false, false, false, false, false, false, false, false, false, false, false, false, false, false, false, false, false, false, false, false, false, false, false, false, true, true, true, true, true, true, true, true, true, true, true, true, true, true, true, true, false, false, false, false, false, false, false, false, false, false, false, false, false, false, false, false, false, false, false, false, false, false, false, false, false, false, false, false, false, false, false, false, false, false, false, false, false, false, false, false, false, false, false, false, false, false, false, false, false, false, false, false, false, false, false, false, false, false, false, false, false, false, false, false, false, false, false, false, false, false, false, false, false, false, false, false, false, false, false, false, false, false, false, false, false, false, false, false, false, false, false, false, false, false, false, false, false, false, false, false, false]
def tabH33 (v0 : Value) (v1 : Value) (v2 : Value) (v3 : Value) (v4 : Value) (v5 : Value) (v6 : Value) (v7 : Value) (v8 : Value) (v9 : Value) (v10 : Value) (v11 : Value) (v12 : Value) (v13 : Value) (v18 : Value) : List (Fk KpT) := [.val v0, .val v1, .val v2, .val v3, .val v4, .val v5, .val v6, .val v7, .val v8, .val v9, .val v10, .val v11, .val v12, .val v13, .any, .any, .any, .any, .val v18, .any]
def dstH33 : List (Option Tmp) := [some 156, some 157, some 158, some 159, some 160, some 161, some 162, some 163, some 164, some 165, some 166, some 167, some 168, some 169, some 170, some 171, some 172, some 173, some 174, none]
def preH33 : List (List Nat) := [[], [0], [], [], [3], [], [3, 4, 5], [3, 4, 5, 6], [], [], [], [9, 10], [9, 10, 11], [], [8, 9, 10, 11, 12, 13], [2, 3, 4, 5, 6, 7, 8, 9, 10, 11, 12, 13, 14], [2, 3, 4, 5, 6, 7, 8, 9, 10, 11, 12, 13, 14, 15], [0, 1, 2, 3, 4, 5, 6, 7, 8, 9, 10, 11, 12, 13, 14, 15, 16], [0, 1, 2, 3, 4, 5, 6, 7, 8, 9, 10, 11, 12, 13, 14, 15, 16, 17], [0, 1, 2, 3, 4, 5, 6, 7, 8, 9, 10, 11, 12, 13, 14, 15, 16, 17, 18]]
def maskH33 : List Bool := [false, false, false, false, false, false, false, false, false, false, false, false, false, false, false, false, false, false, false, false, false, false, false, false, false, false, false, false, false, false, false, false, false, false, false, false, false, false, false, false, false, false, false, false, false, false, false, false, false, false, false, false, false, false, false, false, false, false, false, false, false, false, false, false, false, false, false, false, false, false, false, false, false, false, false, false, false, false, false, false, false, false, false, false, false, false, false, false, false, false, false, false, false, false, false, false, false, false, false, false, false, false, false, false, false, false, false, false, false, false, false, false, false, false, false, false, false, false, false, false, false, false, false, false, false, false, false, false, false, false, false, false, false, false, false, false, false, false, false, false, false, false, false, false, false, false, false, false, false, false, false, false, false, false, false, false, true, true, true, true, true, true, true, true, true, true, true, true, true, true, true, true, true, true, true, false, false, false, false, false, false, false, false, false, false, false, false, false, false, false, false, false, false, false, false, false, false, false, false, false, false, false, false, false, false, false, false, false, false, false, false, false, false, false, false, false, false, false, false, false, false, false, false, false, false, false, false, false, false, false, false, false, false, false, false, false, false, false, false, false, false, false, false, false, false, false, false, false, false, false, false, false, false, false, false, false, false]
def tabH35 (v0 : Value) (v1 : Value) (p2 : Fk KpN) (v3 : Value) (v4 : Value) (p5 : Fk KpN) (p6 : Fk KpN) (p7 : Fk KpN) : List (Fk KpN) := [.val v0, .val v1, p2, .val v3, .val v4, p5, p6, p7]
def dstH35 : List (Option Tmp) := [some 176, some 177, some 178, some 179, some 180, some 181, some 31, some 32]
def preH35 : List (List Nat) := [[], [], [0, 1], [], [], [0, 1, 2, 3, 4], [0, 1, 2, 3, 4, 5], [0, 1, 2, 3, 4, 5, 6]]
def maskH35 : List Bool := [false, false, false, false, false, false, false, false, false, false, false, false, false, false, false, false, false, false, false, false, false, false, false, false, false, false, false, false, false, false, false, true, true, false, false, false, false, false, false, false, false, false, false, false, false, false, false, false, false, false, false, false, false, false, false, false, false, false, false, false, false, false, false, false, false, false, false, false, false, false, false, false, false, false, false, false, false, false, false, false, false, false, false, false, false, false, false, false, false, false, false, false, false, false, false, false, false, false, false, false, false, false, false, false, false, false, false, false, false, false, false, false, false, false, false, false, false, false, false, false, false, false, false, false, false, false, false, false, false, false, false, false, false, false, false, false, false, false, false, false, false, false, false, false, false, false, false, false, false, false, false, false, false, false, false, false, false, false, false, false, false, false, false, false, false, false, false, false, false, false, false, false, false, false, false, false, true, true, true, true, true, true, false, false, false, false, false, false, false, false, false, false, false, false, false, false, false, false, false, false, false, false, false, false, false, false, false, false, false, false, false, false, false, false, false, false, false, false, false, false, false, false, false, false, false, false, false, false, false, false, false, false, false, false, false, false, false, false, false, false, false, false, false, false, false, false, false, false, false, false, false, false, false, false, false, false, false]
def tabH39 (v0 : Value) (v1 : Value) (v2 : Value) (v3 : Value) (v4 : Value) (v5 : Value) (v6 : Value) (v7 : Value) (v8 : Value) (v9 : Value) (v10 : Value) (v11 : Value) (v12 : Value) (v13 : Value) (v14 : Value) (v15 : Value) (v16 : Value) : List (Fk KpN) := [.val v0, .val v1, .val v2, .val v3, .val v4, .val v5, .val v6, .val v7, .val v8, .val v9, .val v10, .val v11, .val v12, .val v13, .val v14, .val v15, .val v16]
def dstH39 : List (Option Tmp) := [some 187, some 188, some 189, some 190, some 191, some 192, some 193, some 194, some 195, some 196, some 197, some 198, some 199, some 200, some 201, some 202, some 203]
def preH39 : List (List Nat) := [[], [0], [], [2], [0, 1, 2, 3], [0, 1, 2, 3, 4], [0, 1, 2, 3, 4, 5], [0, 1, 2, 3, 4, 5], [0, 1, 2, 3, 4, 5, 6, 7], [0, 1, 2, 3, 4, 5, 6, 7, 8], [0, 1, 2, 3, 4, 5], [0, 1, 2, 3, 4, 5], [0, 1, 2, 3, 4, 5, 10, 11], [0, 1, 2, 3, 4, 5, 10, 11, 12], [0, 1, 2, 3, 4, 5, 6, 7, 8, 9, 10, 11, 12, 13], [0, 1, 2, 3, 4, 5, 6, 7, 8, 9, 10, 11, 12, 13, 14], [0, 1, 2, 3, 4, 5, 6, 7, 8, 9, 10, 11, 12, 13, 14, 15]]
def maskH39 : List Bool := [false, false, false, false, false, false, false, false, false, false, false, false, false, false, false, false, false, false, false, false, false, false, false, false, false, false, false, false, false, false, false, false, false, false, false, false, false, false, false, false, false, false, false, false, false, false, false, false, false, false, false, false, false, false, false, false, false, false, false, false, false, false, false, false, false, false, false, false, false, false, false, false, false, false, false, false, false, false, false, false, false, false, false, false, false, false, false, false, false, false, false, false, false, false, false, false, false, false, false, false, false, false, false, false, false, false, false, false, false, false, false, false, false, false, false, false, false, false, false, false, false, false, false, false, false, false, false, false, false, false, false, false, false, false, false, false, false, false, false, false, false, false, false, false, false, false, false, false, false, false, false, false, false, false, false, false, false, false, false, false, false, false, false, false, false, false, false, false, false, false, false, false, false, false, false, false, false, false, false, false, false, false, false, false, false, false, false, true, true, true, true, true, true, true, true, true, true, true, true, true, true, true, true, true, false, false, false, false, false, false, false, false, false, false, false, false, false, false, false, false, false, false, false, false, false, false, false, false, false, false, false, false, false, false, false, false, false, false, false, false, false, false, false, false, false, false, false, false, false, false, false, false, false, false, false, false, false]
def tabH50 (v0 : Value) (v1 : Value) (v2 : Value) (v3 : Value) (v4 : Value) (v5 : Value) (n6 : Nat) (n7 : Nat) (v8 : Value) (v9 : Value) (v10 : Value) : List (Fk KpN) := [.val v0, .val v1, .val v2, .val v3, .val v4, .val v5, Fk.nat (fun _ _ h => h) n6, Fk.nat (fun _ _ h => h) n7, .val v8, .val v9, .val v10]
def dstH50 : List (Option Tmp) := [some 247, some 248, some 249, some 250, some 251, some 252, some 253, some 254, some 255, some 256, some 14]
def preH50 : List (List Nat) := [[], [0], [0, 1], [0, 1, 2], [], [], [5], [4, 5, 6], [0, 1, 2, 3, 4, 5, 6, 7], [0, 1, 2, 3, 4, 5, 6, 7, 8], [0, 1, 2, 3, 4, 5, 6, 7, 8, 9]]
def maskH50 : List Bool := [false, false, false, false, false, false, false, false, false, false, false, false, false, false, true, false, false, false, false, false, false, false, false, false, false, false, false, false, false, false, false, false, false, false, false, false, false, false, false, false, false, false, false, false, false, false, false, false, false, false, false, false, false, false, false, false, false, false, false, false, false, false, false, false, false, false, false, false, false, false, false, false, false, false, false, false, false, false, false, false, false, false, false, false, false, false, false, false, false, false, false, false, false, false, false, false, false, false, false, false, false, false, false, false, false, false, false, false, false, false, false, false, false, false, false, false, false, false, false, false, false, false, false, false, false, false, false, false, false, false, false, false, false, false, false, false, false, false, false, false, false, false, false, false, false, false, false, false, false, false, false, false, false, false, false, false, false, false, false, false, false, false, false, false, false, false, false, false, false, false, false, false, false, false, false, false, false, false, false, false, false, false, false, false, false, false, false, false, false, false, false, false, false, false, false, false, false, false, false, false, false, false, false, false, false, false, false, false, false, false, false, false, false, false, false, false, false, false, false, false, false, false, false, false, false, false, false, false, false, false, false, false, false, false, false, false, false, false, false, false, false, false, false, false, false, false, false, true, true, true, true, true, true, true, true, true, true]

set_option maxRecDepth 100000 in
set_option maxHeartbeats 8000000 in
theorem dhides_any (t : Int) (S R : Nat) (a : Option Addr) (len cap : Nat) (xs : List Nat) (z : Nat) (first step : Int) (w : World)
    (ha : RdC w a (xs.map w64)) (hl : xs.length = len) (hc : (len : Int) ≤ cap) (hx : ∀ y ∈ xs, y < 18446744073709551616) (hxx : S < 18446744073709551616) (hyy : R < 18446744073709551616) (hzz : z < 18446744073709551616) :
    Calls Try.prog 15 #[.int .i64 t, .int .u64 (S : Int), .int .u64 (R : Int), .slice a len cap, .int .u64 (z : Int), .int .i64 first, .int .i64 step] w fun e w' => e = .returned (.bool true) ∧ Below w.heap.size w w' := by
  have HA := Lib.hid (And.intro ha (And.intro hl (And.intro hc hx)))
  have HXX := Lib.hid (And.intro hxx (And.intro hyy hzz))
  obtain ⟨vf, hvf, hvf9⟩ : ∃ v : Nat, (IntKind.u64.wrap first) % 10 = (v : Int) ∧ v ≤ 9 := ⟨((IntKind.u64.wrap first) % 10).toNat, by omega, by omega⟩
  obtain ⟨vs, hvs, hvs7⟩ : ∃ v : Nat, (IntKind.u64.wrap step) % 8 = (v : Int) ∧ v ≤ 7 := ⟨((IntKind.u64.wrap step) % 8).toNat, by omega, by omega⟩
  have hf0 : 0 ≤ IntKind.u64.wrap first := by show 0 ≤ first % 18446744073709551616; omega
  have hs0 : 0 ≤ IntKind.u64.wrap step := by show 0 ≤ step % 18446744073709551616; omega
  have v1 : Int.tmod (IntKind.u64.wrap first) 10 = (vf : Int) := by rw [Int.tmod_eq_emod_of_nonneg hf0]; exact hvf
  have v2 : Int.tmod (IntKind.u64.wrap step) 8 = (vs : Int) := by rw [Int.tmod_eq_emod_of_nonneg hs0]; exact hvs
  have v3 : IntKind.u64.wrap (vf : Int) = (vf : Int) := wraps_u64 _ (by omega) (by omega)
  have v4 : IntKind.u64.wrap (vs : Int) = (vs : Int) := wraps_u64 _ (by omega) (by omega)
  have v5 : IntKind.i64.wrap (vf : Int) = (vf : Int) := i64_small _ (by omega) (by omega)
  have v6 : IntKind.i64.wrap (vs : Int) = (vs : Int) := i64_small _ (by omega) (by omega)
  have v7 : IntKind.i64.wrap (1 + (vf : Int)) = 1 + (vf : Int) := i64_small _ (by omega) (by omega)
  have v8 : IntKind.i64.wrap (1 + (vs : Int)) = 1 + (vs : Int) := i64_small _ (by omega) (by omega)
  have HVV := Lib.hid (And.intro hvf (And.intro hvs (And.intro v1 (And.intro v2 (And.intro v3 (And.intro v4 (And.intro v5 (And.intro v6 (And.intro v7 v8)))))))))
  clear ha hl hc hx hxx hyy hzz hf0 hs0 v1 v2 v3 v4 v5 v6 v7 v8 hvf hvs
  go_enter Try.func15, Try.ntmps15
  go_wp2_with fail
  refine (lives14_any w).mono ?_
  rintro e w2 ⟨rfl, hb2⟩
  have HB2 := Lib.hid hb2
  clear hb2
  go_wp2_with fail
  have hmade := made_any 0 t S R a len cap xs w2 (HA.out.1.below HB2.out) HA.out.2.1 HA.out.2.2.1 HA.out.2.2.2 HXX.out.1 HXX.out.2.1
  rw [show kOf 0 = 0 from by decide] at hmade
  refine hmade.mono ?_
  clear hmade
  rintro e w3 ⟨g, T, nl, va, ca, vb, cb, rfl, hT1, hT6, hTl, hca, hcb, hg, hV, hM, hb3⟩
  obtain ⟨V, hVe⟩ : ∃ V, dvF (gQ 0) S nl (T - 1) = V := ⟨_, rfl⟩
  obtain ⟨M, hMe⟩ : ∃ M, dvF (gQ 0) R (nl.drop (T - 1)) (T - 1) = M := ⟨_, rfl⟩
  have HLV : Hid (V.length = T ∧ M.length = T) := ⟨by rw [← hVe, dvF_length (by omega)]; omega, by rw [← hMe, dvF_length (by rw [List.length_drop]; omega)]; omega⟩
  have HLQ : Hid ((∀ a ∈ V, a < 101) ∧ ∀ a ∈ M, a < 101) := ⟨hVe ▸ dvF_lt2 (by decide), hMe ▸ dvF_lt2 (by decide)⟩
  have HV0 : Hid (V.getD 0 0 = S % 101) := by show _ = _; rw [← hVe]; rfl
  rw [hVe] at hV
  rw [hMe] at hM
  obtain ⟨D, hDs⟩ : ∃ D, D = w3.heap.size := ⟨_, rfl⟩
  have hbd := (Below.refl _ w3).alloc (Nat.le_refl _) (Obj.cells #[Value.slice va T ca, Value.slice vb T cb] 82)
  have hBd : Blk (w3.alloc (Obj.cells #[Value.slice va T ca, Value.slice vb T cb] 82)) D 82 [.slice va T ca, .slice vb T cb] := Blk.new' w3 _ _ D hDs
  have HG4 : Hid (GroupAt (w3.alloc (Obj.cells #[Value.slice va T ca, Value.slice vb T cb] 82)) g (gP 0) (gQ 0) (gG 0) (gH 0) (gS 0)) := hg.below hbd
  have HVM4 := Lib.hid (And.intro (hV.below hbd) (hM.below hbd))
  have HB4 := Lib.hid (HB2.out.trans ((hb3.trans (hbd.mono hb3.size)).mono HB2.out.size))
  have HDs := Lib.hid hDs
  clear hg hV hM hb3 hbd hVe hMe hDs HB2
  go_wp2_with fail
  rw [← HDs.out]
  generalize w3.alloc (Obj.cells #[Value.slice va T ca, Value.slice vb T cb] 82) = w4 at hBd HG4 HVM4 HB4 ⊢
  have HBd4 := Lib.hid hBd
  clear hBd
  refine (gfield_any g _ _ _ _ _ w4 HG4.out).mono ?_
  rintro e w5 ⟨r, rfl, hr, hb5⟩
  have HR5 : Hid (RingAt w5 r 101) := hr
  have HG5 := Lib.hid (HG4.out.below hb5)
  have HVM5 := Lib.hid (And.intro (HVM4.out.1.below hb5) (HVM4.out.2.below hb5))
  have HBd5 := Lib.hid (HBd4.out.below hb5 HBd4.out.lt)
  have HB5 := Lib.hid (HB4.out.trans (hb5.mono HB4.out.size))
  clear hr hb5 HG4 HVM4 HBd4 HB4
  obtain ⟨s, hs⟩ : ∃ s, s = w5.heap.size := ⟨_, rfl⟩
  have HE6 := Lib.hid ((GE.init w5 s hs).alloc s hs (c := 0) (natS_nil w5))
  have HSS := Lib.hid hs
  clear hs
  go_wp2_with fail
  rw [← HSS.out]
  generalize w5.alloc (Obj.cells #[Value.slice none 0 0] 33) = w6 at HE6 ⊢
  go_loopw [56] (fun iv wr => ∃ (i : Nat), i ≤ 101 ∧ iv = .int .u64 (i : Int) ∧ Hid (GE w5 wr s [boxI s (if i ≤ 53 then 0 else 53)] [])) (fun iv _ => 101 - (intOf iv).toNat)
  case atStart => exact ⟨0, by omega, rfl, HE6.out⟩
  case round =>
    clear HE6
    obtain ⟨i, hi, rfl, HE⟩ := hrel
    by_cases hlt : (i : Int) < 101
    · have hbb : BB w5 wr := by have q := HE.out.bel; rw [HSS.out] at q; exact q
      have hi101 : i < 101 := by omega
      have HI := Lib.hid hi101
      obtain ⟨X, hX⟩ : ∃ X, gG 0 ^ i % gP 0 = X := ⟨_, rfl⟩
      have HXE := Lib.hid hX
      clear hX
      have u1 : IntKind.u64.wrap ((i : Int) + 1) = ((i + 1 : Nat) : Int) := by rw [wraps_u64 _ (by omega) (by omega)]; omega
      go_wp2_with fail
      refine (gg_any g _ _ _ _ _ wr (HG5.out.below hbb)).mono ?_
      rintro e w7 ⟨ga, gl, gc, rfl, hgn, hb7⟩
      have HGN := Lib.hid hgn
      have hbb7 : BB wr w7 := hb7
      clear hgn hb7
      go_wp2_with fail
      refine (new_s i w7 (by omega)).mono ?_
      rintro e w8 ⟨xa, xl, xc, rfl, hn, hb8⟩
      have HN8 := Lib.hid hn
      have HGN8 := Lib.hid (HGN.out.below hb8)
      have hbb8 : BB wr w8 := BB.step hbb7 hb8
      clear hn hb8 hbb7 HGN
      go_wp2_with fail
      refine (gexp_any g _ _ _ _ _ ga xa gl gc xl xc (gG 0) i w8 (HG5.out.below (hbb.trans (Below.mono hbb8 hbb.size))) HGN8.out HN8.out).mono ?_
      rw [HXE.out]
      rintro e w9 ⟨ea, el, ec, rfl, he, hb9⟩
      have HE9 := Lib.hid he
      have hbb9 : BB wr w9 := BB.step hbb8 hb9
      clear he hb9 hbb8 HGN8 HN8
      go_wp2_with fail
      refine (gh_any g _ _ _ _ _ w9 (HG5.out.below (hbb.trans (Below.mono hbb9 hbb.size)))).mono ?_
      rintro e w10 ⟨ha, hl, hc, rfl, hh, hb10⟩
      have HH10 := Lib.hid hh
      have HE10 := Lib.hid (HE9.out.below hb10)
      have hbb10 : BB wr w10 := BB.step hbb9 hb10
      clear hh hb10 hbb9 HE9
      go_wp2_with fail
      refine (cmp_s ea ha el ec hl hc _ _ w10 HE10.out HH10.out).mono ?_
      rintro e w11 ⟨rfl, hb11⟩
      have hbb11 : BB wr w11 := BB.step hbb10 hb11
      have HE11 := Lib.hid (HE.out.below hbb11)
      clear hb11 hbb10 HE10 HH10
      by_cases hi53 : i = 53
      · have hcm : cmpNat X (gH 0) = 0 := by rw [show X = gH 0 from HXE.out.symm.trans ((hexp_iff i HI.out).2 hi53), cmp_self]
        rw [hcm]
        have HI53 := Lib.hid hi53
        clear hcm hi53
        go_wp2_with fail
        refine (new_s i w11 (by omega)).mono ?_
        rintro e w12 ⟨xa, xl, xc, rfl, hn, hb12⟩
        have HE12 := Lib.hid (HE11.out.below hb12)
        obtain ⟨_, _, _, q0, f0, _⟩ := HE12.out.box 0 rfl
        have HE13 := Lib.hid (HE12.out.set 0 rfl hn (c := xc))
        clear hn hb12
        go_wp2_with fail
        go_roundw
        case rel => exact ⟨i + 1, by omega, by go_num, by
          have h := HE13.out
          rw [if_neg (by have := HI53.out; omega)]
          rw [HI53.out] at h
          exact h⟩
        case measure => simp [intOf]; omega
      · have hcm : (cmpNat X (gH 0) == 0) = false := cmp_ne fun h => hi53 ((hexp_iff i HI.out).1 (HXE.out.trans h))
        go_wp2_with fail
        go_roundw
        case rel => exact ⟨i + 1, by omega, by go_num, by
          have h := HE11.out
          by_cases h53 : i ≤ 53
          · rw [if_pos h53] at h; rw [if_pos (by omega)]; exact h
          · rw [if_neg h53] at h; rw [if_neg (by omega)]; exact h⟩
        case measure => simp [intOf]; omega
    · obtain rfl : i = 101 := by omega
      have HEW : Hid (GE w5 wr s [boxI s 53] []) := HE.out
      obtain ⟨wa, wl, wc, hwc, hwn⟩ := HEW.out.get 0 rfl
      have q0 := hwc wr (BB.refl _)
      have HWN := Lib.hid hwn
      have hbb : BB w5 wr := by have q := HE.out.bel; rw [HSS.out] at q; exact q
      clear hwc hwn HE
      go_wp2_with fail
      refine (rinv_any r 101 wa wl wc 53 wr (HR5.out.below hbb) HWN.out).mono ?_
      rintro e w7 ⟨c, ia, il, ic, rfl, hn, hinv, _, hb7⟩
      rw [if_pos (by decide)]
      have HINV := Lib.hid (hinv (by decide))
      have HE7 := Lib.hid (HEW.out.below hb7)
      obtain ⟨I, hIs⟩ : ∃ I, I = w7.heap.size := ⟨_, rfl⟩
      have HE8 := Lib.hid (HE7.out.alloc I hIs hn (c := ic))
      have HIs := Lib.hid hIs
      clear hn hb7 hinv HE7 HWN HEW hbb hIs q0
      obtain ⟨hvf, hvs, v1, v2, v3, v4, v5, v6, v7, v8⟩ := HVV.out
      obtain ⟨wA, hwA⟩ : ∃ wA, w7.alloc (Obj.cells #[Value.slice ia il ic] 33) = wA := ⟨_, rfl⟩
      have hIA : wA.heap.size = I + 1 := by rw [← hwA, HIs.out]; simp
      rw [hwA] at HE8
      have HE9 := Lib.hid (HE8.out.pushRow ((Below.refl _ wA).alloc (Nat.le_refl _) (Obj.cells #[Value.slice none 0 0] 33)) (NatsOwn.lit wA.heap.size wA.heap.size rfl (Nat.le_refl _) (natS_nil wA)))
      rw [hIA, ← hwA] at HE9
      clear HE8 hIA hwA
      go_wp2_with fail
      rw [← HIs.out]
      obtain ⟨A, hA1, hA2, hA3⟩ : ∃ A : Nat, 1 + (vf : Int) = (A : Int) ∧ 1 ≤ A ∧ A ≤ 10 := ⟨vf + 1, by omega, by omega, by omega⟩
      obtain ⟨Bn, hB1, hB2, hB3⟩ : ∃ B : Nat, 1 + (vs : Int) = (B : Int) ∧ 1 ≤ B ∧ B ≤ 8 := ⟨vs + 1, by omega, by omega, by omega⟩
      rw [hA1, hB1]
      clear hvf hvs v1 v2 v3 v4 v5 v6 v7 v8 hA1 hB1 hvf9 hvs7
      generalize (w7.alloc (Obj.cells #[Value.slice ia il ic] 33)).alloc (Obj.cells #[Value.slice none 0 0] 33) = w9 at HE9 ⊢
      refine (new_s z w9 HXX.out.2.2).mono ?_
      rintro e w10 ⟨za, zl, zc, rfl, hz, hb10⟩
      have HZ10 := Lib.hid hz
      have HE10 := Lib.hid (HE9.out.below hb10)
      clear hz hb10 HE9
      go_wp2_with fail
      refine (new_s S w10 HXX.out.1).mono ?_
      rintro e w11 ⟨sa, sl, sc, rfl, hz, hb11⟩
      have HS11 := Lib.hid hz
      have HZ11 := Lib.hid (HZ10.out.below hb11)
      have HE11 := Lib.hid (HE10.out.below hb11)
      clear hz hb11 HE10 HZ10
      go_wp2_with fail
      refine (rsub_any r 101 za sa zl zc sl sc z S w11 (HR5.out.below (by have q := HE11.out.bel; rw [HSS.out] at q; exact q)) HZ11.out HS11.out).mono ?_
      obtain ⟨Y, hY⟩ : ∃ Y, subm 101 z S = Y := ⟨_, rfl⟩
      rw [hY]
      have HY := Lib.hid hY
      clear hY
      rintro e w12 ⟨ya, yl, yc, rfl, hy, hb12⟩
      have HE12 := Lib.hid (HE11.out.below hb12)
      have HE13 := Lib.hid (HE12.out.pushRow ((Below.refl _ w12).alloc (Nat.le_refl _) (Obj.cells #[Value.slice ya yl yc] 33)) (NatsOwn.lit w12.heap.size w12.heap.size rfl (Nat.le_refl _) hy))
      obtain ⟨u, hu⟩ : ∃ u, T = u + 1 := ⟨T - 1, by omega⟩
      have HU := Lib.hid hu
      have hu5 : u ≤ 5 := by omega
      have w1 : IntKind.i64.wrap ((T : Int) - 1) = (u : Int) := by rw [i64_small _ (by omega) (by omega)]; omega
      clear hy hb12 HE11 HE12 HZ11 HS11 hu
      go_wp2_with fail
      generalize w12.alloc (Obj.cells #[Value.slice ya yl yc] 33) = w13 at HE13 ⊢
      generalize w12.heap.size = K2 at HE13 ⊢
      go_loopw [25, 26, 101] (fun xv yv iv wr => ∃ (i : Nat), (i : Int) ≤ u ∧ iv = .int .i64 (i : Int) ∧ Hid (GE w5 wr s [boxI s 53, boxI I c, rowI s xv (hPl A Bn i), rowI s yv (Y :: List.replicate i 0)] [])) (fun _ _ iv _ => u - (intOf iv).toNat)
      case atStart => exact ⟨0, by omega, rfl, HE13.out⟩
      case round =>
        clear HE13
        obtain ⟨i, hi, rfl, HE⟩ := hrel
        obtain ⟨xa, xc, rfl, hx1, hx2, hxat, _⟩ := (HE.out.row 2 rfl).form
        obtain ⟨ya, yc, rfl, hy1, hy2, hyat, _⟩ := (HE.out.row 3 rfl).form
        obtain ⟨n1, hn1⟩ : ∃ n1, i + 1 = n1 := ⟨_, rfl⟩
        rw [hPl_length, hn1] at hx1
        rw [List.length_cons, List.length_replicate, hn1] at hy1
        rw [hPl_length, List.length_cons, List.length_replicate, hn1] at HE
        rw [hPl_length, List.length_cons, List.length_replicate, hn1]
        have HN1 := Lib.hid hn1
        have HXA := Lib.hid (And.intro hxat hyat)
        clear hxat hyat hn1
        by_cases hlt : (i : Int) < (u : Int)
        · obtain ⟨p, hp0⟩ : ∃ p, i * Bn = p := ⟨_, rfl⟩
          have hp40 : p ≤ 40 := by rw [← hp0]; exact Nat.le_trans (Nat.mul_le_mul (show i ≤ 5 by omega) hB3) (by decide)
          have hpi : (i : Int) * (Bn : Int) = (p : Int) := by rw [← hp0]; push_cast; rfl
          obtain ⟨q, hq⟩ : ∃ q, A + p = q := ⟨_, rfl⟩
          have HQ : Hid (A + i * Bn = q) := by show _ = _; rw [hp0]; exact hq
          have m1 : IntKind.i64.wrap ((i : Int) * (Bn : Int)) = (p : Int) := by rw [hpi]; exact i64_small _ (by omega) (by omega)
          have m2 : IntKind.i64.wrap ((A : Int) + (p : Int)) = (q : Int) := by rw [i64_small _ (by omega) (by omega)]; omega
          have m3 : IntKind.u64.wrap (q : Int) = (q : Int) := wraps_u64 _ (by omega) (by omega)
          have hq64 : q < 18446744073709551616 := by omega
          clear hp0 hpi hq
          go_wp2_with fail
          refine (new_s q wr hq64).mono ?_
          rintro e w14 ⟨na, nl2, nc, rfl, hn, hb14⟩
          have HE14 := Lib.hid (HE.out.below hb14)
          have hbx := (Below.refl _ w14).alloc (Nat.le_refl _) (Obj.cells #[Value.slice na nl2 nc] 33)
          have HE15 := Lib.hid (HE14.out.below hbx)
          have HN15 := Lib.hid (hn.below hbx)
          have cR := (Blk.new w14 [Value.slice na nl2 nc] 33).cell 0
          simp only [List.getElem?_cons_zero] at cR
          clear hn hb14 HE14 hbx HE m1 m2 m3
          go_wp2_with (first
            | (refine wpList_append_nat _ rfl (.tmp 104) (.tmp 112) rfl s _ (hPl A Bn i) rfl (HE15.out.row 2 rfl) ⟨w14.heap.size, 0, none⟩ 1 q na nl2 nc rfl cR HN15.out (by rw [hPl_length]; omega) HE15.out.base ?_; intro xv' w16 hown hgr hf; have HE16 := Lib.hid (HE15.out.append 2 rfl hgr hf hown); have hbx2 := (Below.refl _ w16).alloc (Nat.le_refl _) (Obj.cells #[Value.slice none 0 0] 33); have HE17 := Lib.hid (HE16.out.below hbx2); have cR2 := (Blk.new w16 [Value.slice none 0 0] 33).cell 0; simp only [List.getElem?_cons_zero] at cR2; clear hown hgr hf hbx2)
            | (refine wpList_append_nat _ rfl (.tmp 114) (.tmp 116) rfl s _ (Y :: List.replicate i 0) rfl (HE17.out.row 3 rfl) ⟨w16.heap.size, 0, none⟩ 1 0 none 0 0 rfl cR2 (natS_nil _) (by rw [List.length_cons, List.length_replicate]; omega) HE17.out.base ?_; intro yv' w18 hown hgr hf; have HE18 := Lib.hid (HE17.out.append 3 rfl hgr hf hown); clear hown hgr hf))
          go_roundw
          case rel => exact ⟨i + 1, by omega, by go_num, by
            have h := HE18.out
            rw [hPl_succ, HQ.out, List.replicate_succ']
            exact h⟩
          case measure => simp [intOf]; omega
        · obtain rfl : i = u := by omega
          have hn1T : T = n1 := by rw [← HN1.out, ← HU.out]
          subst hn1T
          have hwb : BB w5 wr := by have q := HE.out.bel; rw [HSS.out] at q; exact q
          have hdis := hPl_dis hA2 hA3 hB2 hB3 (show i ≤ 5 by omega)
          have HDIS := Lib.hid hdis
          obtain ⟨_, _, _, gI, _⟩ := HE.out.get 1 rfl
          go_wp2_with fail
          refine (through_any r 101 xa T xc (hPl A Bn i) ya T yc (Y :: List.replicate i 0) wr prime101 (HR5.out.below hwb) HXA.out.1 (by rw [hPl_length]; exact HN1.out) (by omega) (by omega) HXA.out.2 (by rw [List.length_cons, List.length_replicate]; exact HN1.out) (by omega)).mono ?_
          rintro e w14 ⟨pv, cc, rfl, hb14, hcase⟩
          obtain ⟨hcc, ho⟩ : cc = 0 ∧ NatsOwn w14 wr.heap.size pv (thrF 101 (hPl A Bn i) (Y :: List.replicate i 0) T) := by
            rcases hcase with ⟨h, _⟩ | ⟨_, h, _⟩ | ⟨_, _, h, _⟩ | ⟨_, _, _, h1, h2⟩
            · rw [hPl_length] at h; omega
            · rw [hPl_length] at h; exact absurd HN1.out h
            · exact absurd HDIS.out h
            · refine ⟨h1, ?_⟩
              rw [hPl_length, HN1.out] at h2
              exact h2
          subst hcc
          have hxl : (hPl A Bn i).length = T := by rw [hPl_length]; exact HN1.out
          obtain ⟨p, hpe⟩ : ∃ p, thrF 101 (hPl A Bn i) (Y :: List.replicate i 0) T = p := ⟨_, rfl⟩
          have hit := fun (t : Nat) (ht : t < (hPl A Bn i).length) => thr_hit (ys := Y :: List.replicate i 0) prime101 HDIS.out ht
          rw [hxl, hpe] at hit
          have HP : Hid (p.length = T ∧ p.getD 0 0 % 101 = Y % 101 ∧ ∀ j, j < i → evalm 101 p ((A + j * Bn) % 101) = 0) := by
            refine ⟨by rw [← hpe, ← hxl]; exact thr_length _ (Nat.le_refl _), ?_, fun j hj => ?_⟩
            · rw [← evalm_at0 (by decide) p]
              exact hit 0 (by omega)
            · have h := hit (j + 1) (by have := HN1.out; omega)
              rw [hPl_get hj] at h
              rw [h]
              simp [List.getD_eq_getElem?_getD, List.getElem?_replicate, hj]
          rw [hpe] at ho
          obtain ⟨pa, pc, rfl, hp1, hp2, hpat, _⟩ := ho.form
          rw [HP.out.1] at hp1 ⊢
          have HPA := Lib.hid hpat
          have hbb14 : BB w5 w14 := hwb.trans (Below.mono hb14 hwb.size)
          have HB14 := Lib.hid (HB5.out.trans (Below.mono hbb14 HB5.out.size))
          have HG14 := Lib.hid (HG5.out.below hbb14)
          have HR14 := Lib.hid (HR5.out.below hbb14)
          have HVM14 := Lib.hid (And.intro (HVM5.out.1.below hbb14) (HVM5.out.2.below hbb14))
          have HBd14 := Lib.hid (HBd5.out.below hbb14 HBd5.out.lt)
          have HE14 := Lib.hid ((HE.out.take 2).below hb14)
          obtain ⟨s2, hs2⟩ : ∃ s2, s2 = w14.heap.size := ⟨_, rfl⟩
          have hbo := (Below.refl _ w14).alloc (Nat.le_refl _) (Obj.cells #[Value.slice none 0 0, Value.slice none 0 0] 82)
          have hBo : Blk (w14.alloc (Obj.cells #[Value.slice none 0 0, Value.slice none 0 0] 82)) s2 82 [.slice none 0 0, .slice none 0 0] := Blk.new' w14 _ _ s2 hs2
          have HE20 := Lib.hid (((((GE.init w14 s2 hs2).below hbo).add (P := fun w => Blk w s2 82 [.slice none 0 0, .slice none 0 0]) (blk_stays (by decide)) hBo).pushNil).pushNil)
          have HS2 := Lib.hid hs2
          clear hcase ho hpat hit hpe hxl hdis hwb hb14 hbb14 hbo hBo hs2 HE HXA gI HR5 HG5 HVM5 HBd5 HB5
          go_wp2_with fail
          rw [← HS2.out]
          generalize w14.alloc (Obj.cells #[Value.slice none 0 0, Value.slice none 0 0] 82) = w15 at HE20 ⊢
          obtain ⟨oi, hoi⟩ : ∃ oi, i = oi := ⟨_, rfl⟩
          have HOI := Lib.hid hoi
          have hoi5 : oi ≤ 5 := by omega
          clear hoi hi hlt
          go_loopw [137] (fun iv wr => ∃ (i : Nat) (vo mo : Value), i ≤ T ∧ iv = .int .i64 (i : Int) ∧ Hid (GE w14 wr s2 [rowI s2 vo (addP 101 (V.take i) (p.take i)), rowI s2 mo (subP 101 c (M.take i) (p.take i))] [fun w => Blk w s2 82 [vo, mo]])) (fun iv _ => T - (intOf iv).toNat)
          case atStart => exact ⟨0, _, _, Nat.zero_le _, rfl, HE20.out⟩
          case round =>
            clear HE20
            obtain ⟨j, vo, mo, hj, rfl, HE⟩ := hrel
            by_cases hlt2 : (j : Int) < (T : Int)
            · have hjV : j < V.length := by rw [HLV.out.1]; omega
              have hjM : j < M.length := by rw [HLV.out.2]; omega
              have hjp : j < p.length := by rw [HP.out.1]; omega
              have hwb : BB w14 wr := by have q := HE.out.bel; rw [HS2.out] at q; exact q
              obtain ⟨AV, hAV⟩ : ∃ AV, addP 101 (V.take j) (p.take j) = AV := ⟨_, rfl⟩
              obtain ⟨BM, hBM⟩ : ∃ BM, subP 101 c (M.take j) (p.take j) = BM := ⟨_, rfl⟩
              have hAL : AV.length = j := by rw [← hAV, addP_length (by rw [List.length_take, List.length_take]; omega), List.length_take]; omega
              have hBL : BM.length = j := by rw [← hBM, subP_length (by rw [List.length_take, List.length_take]; omega), List.length_take]; omega
              have hA1 := addP_take (q := 101) hjV hjp
              have hB1 := subP_take (q := 101) (c := c) hjM hjp
              rw [hAV] at hA1 HE
              rw [hBM] at hB1 HE
              obtain ⟨aV, v1, v2, v3, haV, tV, cV0, nV⟩ := (HVM14.out.1.below hwb).get hjV
              obtain ⟨aM, m1, m2, m3, haM, tM, cM0, nM⟩ := (HVM14.out.2.below hwb).get hjM
              obtain ⟨aP, y1, y2, y3, haP, tP, cP0, nP⟩ := (HPA.out.below hwb).get hjp
              subst haV haM haP
              obtain ⟨ev, hev⟩ : ∃ ev, V.getD j 0 = ev := ⟨_, rfl⟩
              obtain ⟨em, hem⟩ : ∃ em, M.getD j 0 = em := ⟨_, rfl⟩
              obtain ⟨ep, hep⟩ : ∃ ep, p.getD j 0 = ep := ⟨_, rfl⟩
              rw [hev] at nV hA1
              rw [hem] at nM hB1
              rw [hep] at nP hA1 hB1
              obtain ⟨ox, hox⟩ : ∃ ox, (ev + ep) % 101 = ox := ⟨_, rfl⟩
              obtain ⟨px, hpx⟩ : ∃ px, ep * c % 101 = px := ⟨_, rfl⟩
              obtain ⟨mx, hmx⟩ : ∃ mx, subm 101 em px = mx := ⟨_, rfl⟩
              rw [hox] at hA1
              rw [hpx, hmx] at hB1
              have HA1 := Lib.hid hA1
              have HB1 := Lib.hid hB1
              have HOX := Lib.hid hox
              have HPX := Lib.hid hpx
              have HMX := Lib.hid hmx
              obtain ⟨oa, oc, rfl, _, _, _, _⟩ := (HE.out.row 0 rfl).form
              obtain ⟨qa, qc, rfl, _, _, _, _⟩ := (HE.out.row 1 rfl).form
              rw [hAL, hBL] at HE
              obtain ⟨n1, hn1⟩ : ∃ n1, j + 1 = n1 := ⟨_, rfl⟩
              have HL1 : Hid ((AV ++ [ox]).length = n1) := by show _ = _; rw [List.length_append, hAL]; exact hn1
              have HL2 : Hid ((BM ++ [mx]).length = n1) := by show _ = _; rw [List.length_append, hBL]; exact hn1
              have HAL := Lib.hid hAL
              have HBL := Lib.hid hBL
              have hBO : Blk wr s2 82 [.slice oa j oc, .slice qa j qc] := HE.out.has 0 rfl
              have hBDr := HBd14.out.below hwb HBd14.out.lt
              have gO : ∀ w', BB wr w' → w'.cell? ⟨s2, 0, none⟩ = some (.slice oa j oc) := fun w' h => (h.cell hBO.lt).trans (hBO.cell 0)
              have gD : ∀ w', BB wr w' → w'.cell? ⟨D, 0, none⟩ = some (.slice (some aV) T ca) := fun w' h => (h.cell hBDr.lt).trans (hBDr.cell 0)
              have gV : ∀ w', BB wr w' → w'.cell? (aV.add j) = some (.slice v1 v2 v3) := fun w' h => (h.cell (by rw [block_add]; exact tV.lt)).trans cV0
              have gP : ∀ w', BB wr w' → w'.cell? (aP.add j) = some (.slice y1 y2 y3) := fun w' h => (h.cell (by rw [block_add]; exact tP.lt)).trans cP0
              have HnV := Lib.hid nV
              have HnP := Lib.hid nP
              have HEM := Lib.hid hem
              have HEP := Lib.hid hep
              have HR := Lib.hid (HR14.out.below hwb)
              have hjT : j < T := by omega
              clear hjV hjM hjp hwb hAV hBM hAL hBL hA1 hB1 tV cV0 nV tM cM0 nM tP cP0 nP hev hem hep hox hpx hmx hn1 hBO hBDr
              go_wp2_with fail
              go_cut [137] from 137 to 155 (fun t137 wx => ∃ v' : Value, t137 = .int .i64 (j : Int) ∧ Hid (GE w14 wx s2 [rowI s2 v' (AV ++ [ox]), rowI s2 (.slice qa j qc) BM] [fun w => Blk w s2 82 [v', .slice qa j qc]]))
              case first =>
                refine wp_region_mixB (fun l g w' => (l 14 = false → BB wr w') ∧ (l 14 = false → l 12 = true → IsNat ox (g 152) w') ∧ (l 14 = false → l 13 = true → IsLN ox (g 153) w') ∧ (l 14 = true → l 16 = false → GE w14 w' s2 [rowI s2 (g 154) (AV ++ [ox]), rowI s2 (.slice qa j qc) BM] [fun w => Blk w s2 82 [.slice oa j oc, .slice qa j qc]]) ∧ (l 16 = true → ∃ v' : Value, GE w14 w' s2 [rowI s2 v' (AV ++ [ox]), rowI s2 (.slice qa j qc) BM] [fun w => Blk w s2 82 [v', .slice qa j qc]])) (GF (tabH32 (.pointer (some ⟨s2, 0, none⟩)) (.slice oa j oc) (.pointer (some ⟨r, 0, none⟩)) (.pointer (some ⟨D, 0, none⟩)) (.slice (some aV) T ca) (.int .i64 (j : Int)) (.pointer (some (aV.add j))) (.agg #[.slice v1 v2 v3]) (.slice (some aP) T pc) (.int .i64 (j : Int)) (.pointer (some (aP.add j))) (.agg #[.slice y1 y2 y3]) (.pointer (some ⟨s2, 0, none⟩)))) maskH32 dstH32 preH32 (by kernel_rfl) (by kernel_rfl) rfl (by kernel_rfl) (by kernel_rfl) (by kernel_rfl) (by kernel_rfl) ⟨fun _ => BB.drew (BB.refl _), (fun _ h => by cases h), (fun _ h => by cases h), (fun h => by cases h), fun h => by cases h⟩ ?_ ?_
                · refine StepsMB.cons (fun l g' wu hB hl hn hp K hK => ?_) ?_
                  · have hAP := hn 14 (by decide); have hbb := hB.1 hAP; simp only [mkM, maskH32, mixM, Nat.reduceAdd] at hK ⊢; simp only [Act.put, List.setIfInBounds_toArray, List.set_cons_zero, List.set_cons_succ] at hK; go_simp; exact hK.out _ _ ⟨fun _ => hbb, (fun _ h => by rw [updG_ne (by decide)]; exact (hB.2.1 hAP (by rw [setL_ne (by decide)] at h; exact h))), (fun _ h => by rw [updG_ne (by decide)]; exact (hB.2.2.1 hAP (by rw [setL_ne (by decide)] at h; exact h))), (fun h => by rw [setL_ne (by decide), hAP] at h; cases h), fun h => by rw [setL_ne (by decide), hn 16 (by decide)] at h; cases h⟩ GF.same rfl
                  refine StepsMB.cons (fun l g' wu hB hl hn hp K hK => ?_) ?_
                  · have hAP := hn 14 (by decide); have hbb := hB.1 hAP; have e0 : g' 140 = .pointer (some ⟨s2, 0, none⟩) := (hp 0 (by decide)).2; have c0 := gO _ hbb; simp only [mkM, maskH32, mixM, Nat.reduceAdd, e0] at hK ⊢; clear e0; simp only [Act.put, List.setIfInBounds_toArray, List.set_cons_zero, List.set_cons_succ] at hK; go_simp; exact hK.out _ _ ⟨fun _ => hbb, (fun _ h => by rw [updG_ne (by decide)]; exact (hB.2.1 hAP (by rw [setL_ne (by decide)] at h; exact h))), (fun _ h => by rw [updG_ne (by decide)]; exact (hB.2.2.1 hAP (by rw [setL_ne (by decide)] at h; exact h))), (fun h => by rw [setL_ne (by decide), hAP] at h; cases h), fun h => by rw [setL_ne (by decide), hn 16 (by decide)] at h; cases h⟩ GF.same rfl
                  refine StepsMB.cons (fun l g' wu hB hl hn hp K hK => ?_) ?_
                  · have hAP := hn 14 (by decide); have hbb := hB.1 hAP; simp only [mkM, maskH32, mixM, Nat.reduceAdd] at hK ⊢; simp only [Act.put, List.setIfInBounds_toArray, List.set_cons_zero, List.set_cons_succ] at hK; go_simp; exact hK.out _ _ ⟨fun _ => hbb, (fun _ h => by rw [setL_ne (by decide), hn 12 (by decide)] at h; cases h), (fun _ h => by rw [setL_ne (by decide), hn 13 (by decide)] at h; cases h), (fun h => by rw [setL_ne (by decide), hAP] at h; cases h), fun h => by rw [setL_ne (by decide), hn 16 (by decide)] at h; cases h⟩ GF.same rfl
                  refine StepsMB.cons (fun l g' wu hB hl hn hp K hK => ?_) ?_
                  · have hAP := hn 14 (by decide); have hbb := hB.1 hAP; simp only [mkM, maskH32, mixM, Nat.reduceAdd] at hK ⊢; simp only [Act.put, List.setIfInBounds_toArray, List.set_cons_zero, List.set_cons_succ] at hK; go_simp; exact hK.out _ _ ⟨fun _ => hbb, (fun _ h => by rw [setL_ne (by decide), hn 12 (by decide)] at h; cases h), (fun _ h => by rw [setL_ne (by decide), hn 13 (by decide)] at h; cases h), (fun h => by rw [setL_ne (by decide), hAP] at h; cases h), fun h => by rw [setL_ne (by decide), hn 16 (by decide)] at h; cases h⟩ GF.same rfl
                  refine StepsMB.cons (fun l g' wu hB hl hn hp K hK => ?_) ?_
                  · have hAP := hn 14 (by decide); have hbb := hB.1 hAP; have e3 : g' 143 = .pointer (some ⟨D, 0, none⟩) := (hp 3 (by decide)).2; have c0 := gD _ hbb; simp only [mkM, maskH32, mixM, Nat.reduceAdd, e3] at hK ⊢; clear e3; simp only [Act.put, List.setIfInBounds_toArray, List.set_cons_zero, List.set_cons_succ] at hK; go_simp; exact hK.out _ _ ⟨fun _ => hbb, (fun _ h => by rw [setL_ne (by decide), hn 12 (by decide)] at h; cases h), (fun _ h => by rw [setL_ne (by decide), hn 13 (by decide)] at h; cases h), (fun h => by rw [setL_ne (by decide), hAP] at h; cases h), fun h => by rw [setL_ne (by decide), hn 16 (by decide)] at h; cases h⟩ GF.same rfl
                  refine StepsMB.cons (fun l g' wu hB hl hn hp K hK => ?_) ?_
                  · have hAP := hn 14 (by decide); have hbb := hB.1 hAP; simp only [mkM, maskH32, mixM, Nat.reduceAdd] at hK ⊢; simp only [Act.put, List.setIfInBounds_toArray, List.set_cons_zero, List.set_cons_succ] at hK; go_simp; exact hK.out _ _ ⟨fun _ => hbb, (fun _ h => by rw [setL_ne (by decide), hn 12 (by decide)] at h; cases h), (fun _ h => by rw [setL_ne (by decide), hn 13 (by decide)] at h; cases h), (fun h => by rw [setL_ne (by decide), hAP] at h; cases h), fun h => by rw [setL_ne (by decide), hn 16 (by decide)] at h; cases h⟩ GF.same rfl
                  refine StepsMB.cons (fun l g' wu hB hl hn hp K hK => ?_) ?_
                  · have hAP := hn 14 (by decide); have hbb := hB.1 hAP; have e4 : g' 144 = .slice (some aV) T ca := (hp 4 (by decide)).2; have e5 : g' 145 = .int .i64 (j : Int) := (hp 5 (by decide)).2; simp only [mkM, maskH32, mixM, Nat.reduceAdd, e4, e5] at hK ⊢; clear e4 e5; simp only [Act.put, List.setIfInBounds_toArray, List.set_cons_zero, List.set_cons_succ] at hK; go_simp; exact hK.out _ _ ⟨fun _ => hbb, (fun _ h => by rw [setL_ne (by decide), hn 12 (by decide)] at h; cases h), (fun _ h => by rw [setL_ne (by decide), hn 13 (by decide)] at h; cases h), (fun h => by rw [setL_ne (by decide), hAP] at h; cases h), fun h => by rw [setL_ne (by decide), hn 16 (by decide)] at h; cases h⟩ GF.same rfl
                  refine StepsMB.cons (fun l g' wu hB hl hn hp K hK => ?_) ?_
                  · have hAP := hn 14 (by decide); have hbb := hB.1 hAP; have e6 : g' 146 = .pointer (some (aV.add j)) := (hp 6 (by decide)).2; have c0 := gV _ hbb; simp only [mkM, maskH32, mixM, Nat.reduceAdd, e6] at hK ⊢; clear e6; simp only [Act.put, List.setIfInBounds_toArray, List.set_cons_zero, List.set_cons_succ] at hK; go_simp; exact hK.out _ _ ⟨fun _ => hbb, (fun _ h => by rw [setL_ne (by decide), hn 12 (by decide)] at h; cases h), (fun _ h => by rw [setL_ne (by decide), hn 13 (by decide)] at h; cases h), (fun h => by rw [setL_ne (by decide), hAP] at h; cases h), fun h => by rw [setL_ne (by decide), hn 16 (by decide)] at h; cases h⟩ GF.same rfl
                  refine StepsMB.cons (fun l g' wu hB hl hn hp K hK => ?_) ?_
                  · have hAP := hn 14 (by decide); have hbb := hB.1 hAP; simp only [mkM, maskH32, mixM, Nat.reduceAdd] at hK ⊢; simp only [Act.put, List.setIfInBounds_toArray, List.set_cons_zero, List.set_cons_succ] at hK; go_simp; exact hK.out _ _ ⟨fun _ => hbb, (fun _ h => by rw [setL_ne (by decide), hn 12 (by decide)] at h; cases h), (fun _ h => by rw [setL_ne (by decide), hn 13 (by decide)] at h; cases h), (fun h => by rw [setL_ne (by decide), hAP] at h; cases h), fun h => by rw [setL_ne (by decide), hn 16 (by decide)] at h; cases h⟩ GF.same rfl
                  refine StepsMB.cons (fun l g' wu hB hl hn hp K hK => ?_) ?_
                  · have hAP := hn 14 (by decide); have hbb := hB.1 hAP; simp only [mkM, maskH32, mixM, Nat.reduceAdd] at hK ⊢; simp only [Act.put, List.setIfInBounds_toArray, List.set_cons_zero, List.set_cons_succ] at hK; go_simp; exact hK.out _ _ ⟨fun _ => hbb, (fun _ h => by rw [setL_ne (by decide), hn 12 (by decide)] at h; cases h), (fun _ h => by rw [setL_ne (by decide), hn 13 (by decide)] at h; cases h), (fun h => by rw [setL_ne (by decide), hAP] at h; cases h), fun h => by rw [setL_ne (by decide), hn 16 (by decide)] at h; cases h⟩ GF.same rfl
                  refine StepsMB.cons (fun l g' wu hB hl hn hp K hK => ?_) ?_
                  · have hAP := hn 14 (by decide); have hbb := hB.1 hAP; have e8 : g' 148 = .slice (some aP) T pc := (hp 8 (by decide)).2; have e9 : g' 149 = .int .i64 (j : Int) := (hp 9 (by decide)).2; simp only [mkM, maskH32, mixM, Nat.reduceAdd, e8, e9] at hK ⊢; clear e8 e9; simp only [Act.put, List.setIfInBounds_toArray, List.set_cons_zero, List.set_cons_succ] at hK; go_simp; exact hK.out _ _ ⟨fun _ => hbb, (fun _ h => by rw [setL_ne (by decide), hn 12 (by decide)] at h; cases h), (fun _ h => by rw [setL_ne (by decide), hn 13 (by decide)] at h; cases h), (fun h => by rw [setL_ne (by decide), hAP] at h; cases h), fun h => by rw [setL_ne (by decide), hn 16 (by decide)] at h; cases h⟩ GF.same rfl
                  refine StepsMB.cons (fun l g' wu hB hl hn hp K hK => ?_) ?_
                  · have hAP := hn 14 (by decide); have hbb := hB.1 hAP; have e10 : g' 150 = .pointer (some (aP.add j)) := (hp 10 (by decide)).2; have c0 := gP _ hbb; simp only [mkM, maskH32, mixM, Nat.reduceAdd, e10] at hK ⊢; clear e10; simp only [Act.put, List.setIfInBounds_toArray, List.set_cons_zero, List.set_cons_succ] at hK; go_simp; exact hK.out _ _ ⟨fun _ => hbb, (fun _ h => by rw [setL_ne (by decide), hn 12 (by decide)] at h; cases h), (fun _ h => by rw [setL_ne (by decide), hn 13 (by decide)] at h; cases h), (fun h => by rw [setL_ne (by decide), hAP] at h; cases h), fun h => by rw [setL_ne (by decide), hn 16 (by decide)] at h; cases h⟩ GF.same rfl
                  refine StepsMB.cons (fun l g' wu hB hl hn hp K hK => ?_) ?_
                  · have hAP := hn 14 (by decide); have hbb := hB.1 hAP; have e2 : g' 142 = .pointer (some ⟨r, 0, none⟩) := (hp 2 (by decide)).2; have e7 : g' 147 = .agg #[.slice v1 v2 v3] := (hp 7 (by decide)).2; have e11 : g' 151 = .agg #[.slice y1 y2 y3] := (hp 11 (by decide)).2; simp only [mkM, maskH32, mixM, Nat.reduceAdd, e2, e7, e11] at hK ⊢; clear e2 e7 e11; simp only [Act.put, List.setIfInBounds_toArray, List.set_cons_zero, List.set_cons_succ] at hK; go_simp; go_at_call 27; refine (radd_any r 101 v1 y1 v2 v3 y2 y3 ev ep _ (HR.out.below hbb) (HnV.out.below hbb) (HnP.out.below hbb)).mono ?_; rw [HOX.out]; rintro e w7 ⟨ta, tl, tc, rfl, ht, hb⟩; go_wp2_with fail; exact hK.out _ _ ⟨fun _ => BB.step hbb hb, fun _ _ => by rw [updG_eq]; exact ⟨ta, tl, tc, rfl, ht⟩, (fun _ h => by rw [setL_ne (by decide), hn 13 (by decide)] at h; cases h), (fun h => by rw [setL_ne (by decide), hAP] at h; cases h), fun h => by rw [setL_ne (by decide), hn 16 (by decide)] at h; cases h⟩ (GF.below hb) trivial
                  refine StepsMB.cons (fun l g' wu hB hl hn hp K hK => ?_) ?_
                  · have hAP := hn 14 (by decide); have hbb := hB.1 hAP; obtain ⟨xa, xl, xc, ez, hx⟩ := hB.2.1 hAP (hp 12 (by decide)).1; have hb := (Below.refl _ wu).alloc (Nat.le_refl _) (Obj.cells #[Value.slice xa xl xc] 33); simp only [mkM, maskH32, mixM, Nat.reduceAdd, ez] at hK ⊢; simp only [Act.put, List.setIfInBounds_toArray, List.set_cons_zero, List.set_cons_succ] at hK; go_simp; exact hK.out _ _ ⟨fun _ => BB.step hbb hb, (fun _ h => by rw [updG_ne (by decide)]; exact (IsNat.below _ _ _ hb (hB.2.1 hAP (by rw [setL_ne (by decide)] at h; exact h)))), fun _ _ => by rw [updG_eq]; exact (IsLN.new hx), (fun h => by rw [setL_ne (by decide), hAP] at h; cases h), fun h => by rw [setL_ne (by decide), hn 16 (by decide)] at h; cases h⟩ GF.alloc trivial
                  refine StepsMB.cons (fun l g' wu hB hl hn hp K hK => ?_) ?_
                  · have hAP := hl; have hbb := hB.1 hAP; have e1 : g' 141 = .slice oa j oc := (hp 1 (by decide)).2; obtain ⟨q, za, zl, zc, ez, hq2, hq3, hq4⟩ := hB.2.2.1 hAP (hp 13 (by decide)).1; have HE12 := Lib.hid (HE.out.below hbb); simp only [mkM, maskH32, mixM, Nat.reduceAdd, e1, ez] at hK ⊢; clear e1; simp only [Act.put, List.setIfInBounds_toArray, List.set_cons_zero, List.set_cons_succ] at hK; refine wanted_go2 rfl ?_; refine wp_append_nat (.tmp 141) (.tmp 153) rfl s2 (.slice oa j oc) AV rfl (HE12.out.row 0 rfl) ⟨q, 0, none⟩ 1 ox za zl zc rfl hq3 hq4 (by rw [HAL.out]; omega) HE12.out.base ?_; intro v9 w9 hown hgr hf; exact hK.out _ _ ⟨(fun h => by rw [setL_eq] at h; cases h), (fun h => by rw [setL_eq] at h; cases h), (fun h => by rw [setL_eq] at h; cases h), (fun _ _ => by rw [updG_eq]; exact HE12.out.append 0 rfl hgr hf hown), fun h => by rw [setL_ne (by decide), hn 16 (by decide)] at h; cases h⟩ (GF.kept rfl trivial) trivial
                  refine StepsMB.cons (fun l g' wu hB hl hn hp K hK => ?_) ?_
                  · have hA := (hp 14 (by decide)).1; simp only [mkM, maskH32, mixM, Nat.reduceAdd] at hK ⊢; simp only [Act.put, List.setIfInBounds_toArray, List.set_cons_zero, List.set_cons_succ] at hK; go_simp; exact hK.out _ _ ⟨(fun h => by rw [setL_ne (by decide), hA] at h; cases h), (fun h => by rw [setL_ne (by decide), hA] at h; cases h), (fun h => by rw [setL_ne (by decide), hA] at h; cases h), (fun _ _ => by rw [updG_ne (by decide)]; exact hB.2.2.2.1 hA (hn 16 (by decide))), fun h => by rw [setL_ne (by decide), hn 16 (by decide)] at h; cases h⟩ GF.same rfl
                  refine StepsMB.cons (fun l g' wu hB hl hn hp K hK => ?_) ?_
                  · have hA := (hp 14 (by decide)).1; have hE := hB.2.2.2.1 hA hl; have e15 : g' 155 = .pointer (some ⟨s2, 0, none⟩) := (hp 15 (by decide)).2; obtain ⟨na, nc, ez, _⟩ := (hE.row 0 rfl).form; rw [HL1.out] at ez; rw [ez] at hE; have HE13 := Lib.hid hE; have hB13 : Blk wu s2 82 [.slice oa j oc, .slice qa j qc] := HE13.out.has 0 rfl; have q0 := hB13.cell 0; have f0 := hB13.frozen 0; simp only [List.getElem?_cons_zero] at q0; have HE15 := Lib.hid (GE.other HE13.out (by decide) hB13 (Nat.le_refl _) 0 (.slice na n1 nc) (L2_O (by decide) (by decide)) (F1_O (hB13.set 0 (.slice na n1 nc)))); clear hB13 hE; simp only [mkM, maskH32, mixM, Nat.reduceAdd, e15, ez] at hK ⊢; clear e15; simp only [Act.put, List.setIfInBounds_toArray, List.set_cons_zero, List.set_cons_succ] at hK; go_simp; exact hK.out undef _ ⟨(fun h => by rw [setL_ne (by decide), hA] at h; cases h), (fun h => by rw [setL_ne (by decide), hA] at h; cases h), (fun h => by rw [setL_ne (by decide), hA] at h; cases h), (fun _ h => by rw [setL_eq] at h; cases h), fun _ => ⟨.slice na n1 nc, HE15.out⟩⟩ (GF.kept rfl trivial) trivial
                  exact StepsMB.nil
                · intro l g' wu hall hB hG
                  have hS := hB.2.2.2.2 (hall 16 (by decide))
                  simp only [mkM, maskH32, mixM, Nat.reduceAdd]
                  clear hG hall hB
                  obtain ⟨v', hE⟩ := hS
                  have HE15 := Lib.hid hE
                  clear hE
                  go_wp2_with fail
                  go_meet
                  exact ⟨v', rfl, HE15.out⟩
              case rest =>
                obtain ⟨v', rfl, HE2⟩ := hcut
                clear HE gO gD gV gP HnV HnP HR
                have hb0 : BB w14 wc := by have q := HE2.out.bel; rw [HS2.out] at q; exact q
                obtain ⟨_, m1, m2, m3, he, tM, cM0, nM⟩ := (HVM14.out.2.below hb0).get (show j < M.length by rw [HLV.out.2]; exact hjT)
                injection he with he
                subst he
                obtain ⟨_, y1, y2, y3, he, tP, cP0, nP⟩ := (HPA.out.below hb0).get (show j < p.length by rw [HP.out.1]; exact hjT)
                injection he with he
                subst he
                obtain ⟨k1, k2, k3, hkc, hkn⟩ := HE14.out.get 1 rfl
                rw [HEM.out] at nM
                rw [HEP.out] at nP
                have hBO : Blk wc s2 82 [v', .slice qa j qc] := HE2.out.has 0 rfl
                have hBDr := HBd14.out.below hb0 HBd14.out.lt
                have gO : ∀ w', BB wc w' → w'.cell? ⟨s2, 1, none⟩ = some (.slice qa j qc) := fun w' h => (h.cell hBO.lt).trans (hBO.cell 1)
                have gD : ∀ w', BB wc w' → w'.cell? ⟨D, 1, none⟩ = some (.slice (some aM) T cb) := fun w' h => (h.cell hBDr.lt).trans (hBDr.cell 1)
                have gM : ∀ w', BB wc w' → w'.cell? (aM.add j) = some (.slice m1 m2 m3) := fun w' h => (h.cell (by rw [block_add]; exact tM.lt)).trans cM0
                have gP : ∀ w', BB wc w' → w'.cell? (aP.add j) = some (.slice y1 y2 y3) := fun w' h => (h.cell (by rw [block_add]; exact tP.lt)).trans cP0
                have gI : ∀ w', BB wc w' → w'.cell? ⟨I, 0, none⟩ = some (.slice k1 k2 k3) := fun w' h => hkc w' (hb0.trans (Below.mono h hb0.size))
                have HnM := Lib.hid nM
                have HnP := Lib.hid nP
                have HnC := Lib.hid (hkn.below hb0)
                have HR := Lib.hid (HR14.out.below hb0)
                clear hb0 tM cM0 nM tP cP0 nP hkc hkn hBO hBDr
                go_wp2_with fail
                refine wp_region_mixB (fun l g w' => (l 17 = false → BB wc w') ∧ (l 17 = false → l 14 = true → IsNat px (g 170) w') ∧ (l 17 = false → l 15 = true → IsNat mx (g 171) w') ∧ (l 17 = false → l 16 = true → IsLN mx (g 172) w') ∧ (l 17 = true → l 19 = false → GE w14 w' s2 [rowI s2 v' (AV ++ [ox]), rowI s2 (g 173) (BM ++ [mx])] [fun w => Blk w s2 82 [v', .slice qa j qc]]) ∧ (l 19 = true → ∃ u' : Value, GE w14 w' s2 [rowI s2 v' (AV ++ [ox]), rowI s2 u' (BM ++ [mx])] [fun w => Blk w s2 82 [v', u']])) (GF (tabH33 (.pointer (some ⟨s2, 1, none⟩)) (.slice qa j qc) (.pointer (some ⟨r, 0, none⟩)) (.pointer (some ⟨D, 1, none⟩)) (.slice (some aM) T cb) (.int .i64 (j : Int)) (.pointer (some (aM.add j))) (.agg #[.slice m1 m2 m3]) (.pointer (some ⟨r, 0, none⟩)) (.slice (some aP) T pc) (.int .i64 (j : Int)) (.pointer (some (aP.add j))) (.agg #[.slice y1 y2 y3]) (.agg #[.slice k1 k2 k3]) (.pointer (some ⟨s2, 1, none⟩)))) maskH33 dstH33 preH33 (by kernel_rfl) (by kernel_rfl) rfl (by kernel_rfl) (by kernel_rfl) (by kernel_rfl) (by kernel_rfl) ⟨fun _ => BB.drew (BB.refl _), (fun _ h => by cases h), (fun _ h => by cases h), (fun _ h => by cases h), (fun h => by cases h), fun h => by cases h⟩ ?_ ?_
                · refine StepsMB.cons (fun l g' wu hB hl hn hp K hK => ?_) ?_
                  · have hAP := hn 17 (by decide); have hbb := hB.1 hAP; simp only [mkM, maskH33, mixM, Nat.reduceAdd] at hK ⊢; simp only [Act.put, List.setIfInBounds_toArray, List.set_cons_zero, List.set_cons_succ] at hK; go_simp; exact hK.out _ _ ⟨fun _ => hbb, (fun _ h => by rw [updG_ne (by decide)]; exact (hB.2.1 hAP (by rw [setL_ne (by decide)] at h; exact h))), (fun _ h => by rw [updG_ne (by decide)]; exact (hB.2.2.1 hAP (by rw [setL_ne (by decide)] at h; exact h))), (fun _ h => by rw [updG_ne (by decide)]; exact (hB.2.2.2.1 hAP (by rw [setL_ne (by decide)] at h; exact h))), (fun h => by rw [setL_ne (by decide), hAP] at h; cases h), fun h => by rw [setL_ne (by decide), hn 19 (by decide)] at h; cases h⟩ GF.same rfl
                  refine StepsMB.cons (fun l g' wu hB hl hn hp K hK => ?_) ?_
                  · have hAP := hn 17 (by decide); have hbb := hB.1 hAP; have e0 : g' 156 = .pointer (some ⟨s2, 1, none⟩) := (hp 0 (by decide)).2; have c0 := gO _ hbb; simp only [mkM, maskH33, mixM, Nat.reduceAdd, e0] at hK ⊢; clear e0; simp only [Act.put, List.setIfInBounds_toArray, List.set_cons_zero, List.set_cons_succ] at hK; go_simp; exact hK.out _ _ ⟨fun _ => hbb, (fun _ h => by rw [updG_ne (by decide)]; exact (hB.2.1 hAP (by rw [setL_ne (by decide)] at h; exact h))), (fun _ h => by rw [updG_ne (by decide)]; exact (hB.2.2.1 hAP (by rw [setL_ne (by decide)] at h; exact h))), (fun _ h => by rw [updG_ne (by decide)]; exact (hB.2.2.2.1 hAP (by rw [setL_ne (by decide)] at h; exact h))), (fun h => by rw [setL_ne (by decide), hAP] at h; cases h), fun h => by rw [setL_ne (by decide), hn 19 (by decide)] at h; cases h⟩ GF.same rfl
                  refine StepsMB.cons (fun l g' wu hB hl hn hp K hK => ?_) ?_
                  · have hAP := hn 17 (by decide); have hbb := hB.1 hAP; simp only [mkM, maskH33, mixM, Nat.reduceAdd] at hK ⊢; simp only [Act.put, List.setIfInBounds_toArray, List.set_cons_zero, List.set_cons_succ] at hK; go_simp; exact hK.out _ _ ⟨fun _ => hbb, (fun _ h => by rw [updG_ne (by decide)]; exact (hB.2.1 hAP (by rw [setL_ne (by decide)] at h; exact h))), (fun _ h => by rw [setL_ne (by decide), hn 15 (by decide)] at h; cases h), (fun _ h => by rw [setL_ne (by decide), hn 16 (by decide)] at h; cases h), (fun h => by rw [setL_ne (by decide), hAP] at h; cases h), fun h => by rw [setL_ne (by decide), hn 19 (by decide)] at h; cases h⟩ GF.same rfl
                  refine StepsMB.cons (fun l g' wu hB hl hn hp K hK => ?_) ?_
                  · have hAP := hn 17 (by decide); have hbb := hB.1 hAP; simp only [mkM, maskH33, mixM, Nat.reduceAdd] at hK ⊢; simp only [Act.put, List.setIfInBounds_toArray, List.set_cons_zero, List.set_cons_succ] at hK; go_simp; exact hK.out _ _ ⟨fun _ => hbb, (fun _ h => by rw [updG_ne (by decide)]; exact (hB.2.1 hAP (by rw [setL_ne (by decide)] at h; exact h))), (fun _ h => by rw [setL_ne (by decide), hn 15 (by decide)] at h; cases h), (fun _ h => by rw [setL_ne (by decide), hn 16 (by decide)] at h; cases h), (fun h => by rw [setL_ne (by decide), hAP] at h; cases h), fun h => by rw [setL_ne (by decide), hn 19 (by decide)] at h; cases h⟩ GF.same rfl
                  refine StepsMB.cons (fun l g' wu hB hl hn hp K hK => ?_) ?_
                  · have hAP := hn 17 (by decide); have hbb := hB.1 hAP; have e3 : g' 159 = .pointer (some ⟨D, 1, none⟩) := (hp 3 (by decide)).2; have c0 := gD _ hbb; simp only [mkM, maskH33, mixM, Nat.reduceAdd, e3] at hK ⊢; clear e3; simp only [Act.put, List.setIfInBounds_toArray, List.set_cons_zero, List.set_cons_succ] at hK; go_simp; exact hK.out _ _ ⟨fun _ => hbb, (fun _ h => by rw [updG_ne (by decide)]; exact (hB.2.1 hAP (by rw [setL_ne (by decide)] at h; exact h))), (fun _ h => by rw [setL_ne (by decide), hn 15 (by decide)] at h; cases h), (fun _ h => by rw [setL_ne (by decide), hn 16 (by decide)] at h; cases h), (fun h => by rw [setL_ne (by decide), hAP] at h; cases h), fun h => by rw [setL_ne (by decide), hn 19 (by decide)] at h; cases h⟩ GF.same rfl
                  refine StepsMB.cons (fun l g' wu hB hl hn hp K hK => ?_) ?_
                  · have hAP := hn 17 (by decide); have hbb := hB.1 hAP; simp only [mkM, maskH33, mixM, Nat.reduceAdd] at hK ⊢; simp only [Act.put, List.setIfInBounds_toArray, List.set_cons_zero, List.set_cons_succ] at hK; go_simp; exact hK.out _ _ ⟨fun _ => hbb, (fun _ h => by rw [updG_ne (by decide)]; exact (hB.2.1 hAP (by rw [setL_ne (by decide)] at h; exact h))), (fun _ h => by rw [setL_ne (by decide), hn 15 (by decide)] at h; cases h), (fun _ h => by rw [setL_ne (by decide), hn 16 (by decide)] at h; cases h), (fun h => by rw [setL_ne (by decide), hAP] at h; cases h), fun h => by rw [setL_ne (by decide), hn 19 (by decide)] at h; cases h⟩ GF.same rfl
                  refine StepsMB.cons (fun l g' wu hB hl hn hp K hK => ?_) ?_
                  · have hAP := hn 17 (by decide); have hbb := hB.1 hAP; have e4 : g' 160 = .slice (some aM) T cb := (hp 4 (by decide)).2; have e5 : g' 161 = .int .i64 (j : Int) := (hp 5 (by decide)).2; simp only [mkM, maskH33, mixM, Nat.reduceAdd, e4, e5] at hK ⊢; clear e4 e5; simp only [Act.put, List.setIfInBounds_toArray, List.set_cons_zero, List.set_cons_succ] at hK; go_simp; exact hK.out _ _ ⟨fun _ => hbb, (fun _ h => by rw [updG_ne (by decide)]; exact (hB.2.1 hAP (by rw [setL_ne (by decide)] at h; exact h))), (fun _ h => by rw [setL_ne (by decide), hn 15 (by decide)] at h; cases h), (fun _ h => by rw [setL_ne (by decide), hn 16 (by decide)] at h; cases h), (fun h => by rw [setL_ne (by decide), hAP] at h; cases h), fun h => by rw [setL_ne (by decide), hn 19 (by decide)] at h; cases h⟩ GF.same rfl
                  refine StepsMB.cons (fun l g' wu hB hl hn hp K hK => ?_) ?_
                  · have hAP := hn 17 (by decide); have hbb := hB.1 hAP; have e6 : g' 162 = .pointer (some (aM.add j)) := (hp 6 (by decide)).2; have c0 := gM _ hbb; simp only [mkM, maskH33, mixM, Nat.reduceAdd, e6] at hK ⊢; clear e6; simp only [Act.put, List.setIfInBounds_toArray, List.set_cons_zero, List.set_cons_succ] at hK; go_simp; exact hK.out _ _ ⟨fun _ => hbb, (fun _ h => by rw [updG_ne (by decide)]; exact (hB.2.1 hAP (by rw [setL_ne (by decide)] at h; exact h))), (fun _ h => by rw [setL_ne (by decide), hn 15 (by decide)] at h; cases h), (fun _ h => by rw [setL_ne (by decide), hn 16 (by decide)] at h; cases h), (fun h => by rw [setL_ne (by decide), hAP] at h; cases h), fun h => by rw [setL_ne (by decide), hn 19 (by decide)] at h; cases h⟩ GF.same rfl
                  refine StepsMB.cons (fun l g' wu hB hl hn hp K hK => ?_) ?_
                  · have hAP := hn 17 (by decide); have hbb := hB.1 hAP; simp only [mkM, maskH33, mixM, Nat.reduceAdd] at hK ⊢; simp only [Act.put, List.setIfInBounds_toArray, List.set_cons_zero, List.set_cons_succ] at hK; go_simp; exact hK.out _ _ ⟨fun _ => hbb, (fun _ h => by rw [setL_ne (by decide), hn 14 (by decide)] at h; cases h), (fun _ h => by rw [setL_ne (by decide), hn 15 (by decide)] at h; cases h), (fun _ h => by rw [setL_ne (by decide), hn 16 (by decide)] at h; cases h), (fun h => by rw [setL_ne (by decide), hAP] at h; cases h), fun h => by rw [setL_ne (by decide), hn 19 (by decide)] at h; cases h⟩ GF.same rfl
                  refine StepsMB.cons (fun l g' wu hB hl hn hp K hK => ?_) ?_
                  · have hAP := hn 17 (by decide); have hbb := hB.1 hAP; simp only [mkM, maskH33, mixM, Nat.reduceAdd] at hK ⊢; simp only [Act.put, List.setIfInBounds_toArray, List.set_cons_zero, List.set_cons_succ] at hK; go_simp; exact hK.out _ _ ⟨fun _ => hbb, (fun _ h => by rw [setL_ne (by decide), hn 14 (by decide)] at h; cases h), (fun _ h => by rw [setL_ne (by decide), hn 15 (by decide)] at h; cases h), (fun _ h => by rw [setL_ne (by decide), hn 16 (by decide)] at h; cases h), (fun h => by rw [setL_ne (by decide), hAP] at h; cases h), fun h => by rw [setL_ne (by decide), hn 19 (by decide)] at h; cases h⟩ GF.same rfl
                  refine StepsMB.cons (fun l g' wu hB hl hn hp K hK => ?_) ?_
                  · have hAP := hn 17 (by decide); have hbb := hB.1 hAP; simp only [mkM, maskH33, mixM, Nat.reduceAdd] at hK ⊢; simp only [Act.put, List.setIfInBounds_toArray, List.set_cons_zero, List.set_cons_succ] at hK; go_simp; exact hK.out _ _ ⟨fun _ => hbb, (fun _ h => by rw [setL_ne (by decide), hn 14 (by decide)] at h; cases h), (fun _ h => by rw [setL_ne (by decide), hn 15 (by decide)] at h; cases h), (fun _ h => by rw [setL_ne (by decide), hn 16 (by decide)] at h; cases h), (fun h => by rw [setL_ne (by decide), hAP] at h; cases h), fun h => by rw [setL_ne (by decide), hn 19 (by decide)] at h; cases h⟩ GF.same rfl
                  refine StepsMB.cons (fun l g' wu hB hl hn hp K hK => ?_) ?_
                  · have hAP := hn 17 (by decide); have hbb := hB.1 hAP; have e9 : g' 165 = .slice (some aP) T pc := (hp 9 (by decide)).2; have e10 : g' 166 = .int .i64 (j : Int) := (hp 10 (by decide)).2; simp only [mkM, maskH33, mixM, Nat.reduceAdd, e9, e10] at hK ⊢; clear e9 e10; simp only [Act.put, List.setIfInBounds_toArray, List.set_cons_zero, List.set_cons_succ] at hK; go_simp; exact hK.out _ _ ⟨fun _ => hbb, (fun _ h => by rw [setL_ne (by decide), hn 14 (by decide)] at h; cases h), (fun _ h => by rw [setL_ne (by decide), hn 15 (by decide)] at h; cases h), (fun _ h => by rw [setL_ne (by decide), hn 16 (by decide)] at h; cases h), (fun h => by rw [setL_ne (by decide), hAP] at h; cases h), fun h => by rw [setL_ne (by decide), hn 19 (by decide)] at h; cases h⟩ GF.same rfl
                  refine StepsMB.cons (fun l g' wu hB hl hn hp K hK => ?_) ?_
                  · have hAP := hn 17 (by decide); have hbb := hB.1 hAP; have e11 : g' 167 = .pointer (some (aP.add j)) := (hp 11 (by decide)).2; have c0 := gP _ hbb; simp only [mkM, maskH33, mixM, Nat.reduceAdd, e11] at hK ⊢; clear e11; simp only [Act.put, List.setIfInBounds_toArray, List.set_cons_zero, List.set_cons_succ] at hK; go_simp; exact hK.out _ _ ⟨fun _ => hbb, (fun _ h => by rw [setL_ne (by decide), hn 14 (by decide)] at h; cases h), (fun _ h => by rw [setL_ne (by decide), hn 15 (by decide)] at h; cases h), (fun _ h => by rw [setL_ne (by decide), hn 16 (by decide)] at h; cases h), (fun h => by rw [setL_ne (by decide), hAP] at h; cases h), fun h => by rw [setL_ne (by decide), hn 19 (by decide)] at h; cases h⟩ GF.same rfl
                  refine StepsMB.cons (fun l g' wu hB hl hn hp K hK => ?_) ?_
                  · have hAP := hn 17 (by decide); have hbb := hB.1 hAP; have c0 := gI _ hbb; simp only [mkM, maskH33, mixM, Nat.reduceAdd] at hK ⊢; simp only [Act.put, List.setIfInBounds_toArray, List.set_cons_zero, List.set_cons_succ] at hK; go_simp; exact hK.out _ _ ⟨fun _ => hbb, (fun _ h => by rw [setL_ne (by decide), hn 14 (by decide)] at h; cases h), (fun _ h => by rw [setL_ne (by decide), hn 15 (by decide)] at h; cases h), (fun _ h => by rw [setL_ne (by decide), hn 16 (by decide)] at h; cases h), (fun h => by rw [setL_ne (by decide), hAP] at h; cases h), fun h => by rw [setL_ne (by decide), hn 19 (by decide)] at h; cases h⟩ GF.same rfl
                  refine StepsMB.cons (fun l g' wu hB hl hn hp K hK => ?_) ?_
                  · have hAP := hn 17 (by decide); have hbb := hB.1 hAP; have e8 : g' 164 = .pointer (some ⟨r, 0, none⟩) := (hp 8 (by decide)).2; have e12 : g' 168 = .agg #[.slice y1 y2 y3] := (hp 12 (by decide)).2; have e13 : g' 169 = .agg #[.slice k1 k2 k3] := (hp 13 (by decide)).2; simp only [mkM, maskH33, mixM, Nat.reduceAdd, e8, e12, e13] at hK ⊢; clear e8 e12 e13; simp only [Act.put, List.setIfInBounds_toArray, List.set_cons_zero, List.set_cons_succ] at hK; go_simp; go_at_call 29; refine (rmul_any r 101 y1 k1 y2 y3 k2 k3 ep c _ (HR.out.below hbb) (HnP.out.below hbb) (HnC.out.below hbb)).mono ?_; rw [HPX.out]; rintro e w7 ⟨ta, tl, tc, rfl, ht, hb⟩; go_wp2_with fail; exact hK.out _ _ ⟨fun _ => BB.step hbb hb, fun _ _ => by rw [updG_eq]; exact ⟨ta, tl, tc, rfl, ht⟩, (fun _ h => by rw [setL_ne (by decide), hn 15 (by decide)] at h; cases h), (fun _ h => by rw [setL_ne (by decide), hn 16 (by decide)] at h; cases h), (fun h => by rw [setL_ne (by decide), hAP] at h; cases h), fun h => by rw [setL_ne (by decide), hn 19 (by decide)] at h; cases h⟩ (GF.below hb) trivial
                  refine StepsMB.cons (fun l g' wu hB hl hn hp K hK => ?_) ?_
                  · have hAP := hn 17 (by decide); have hbb := hB.1 hAP; have e2 : g' 158 = .pointer (some ⟨r, 0, none⟩) := (hp 2 (by decide)).2; have e7 : g' 163 = .agg #[.slice m1 m2 m3] := (hp 7 (by decide)).2; obtain ⟨xa14, xl14, xc14, ez14, hx14⟩ := hB.2.1 hAP (hp 14 (by decide)).1; simp only [mkM, maskH33, mixM, Nat.reduceAdd, e2, e7, ez14] at hK ⊢; clear e2 e7; simp only [Act.put, List.setIfInBounds_toArray, List.set_cons_zero, List.set_cons_succ] at hK; go_simp; go_at_call 78; refine (rsub_any r 101 m1 xa14 m2 m3 xl14 xc14 em px _ (HR.out.below hbb) (HnM.out.below hbb) hx14).mono ?_; rw [HMX.out]; rintro e w7 ⟨ta, tl, tc, rfl, ht, hb⟩; go_wp2_with fail; exact hK.out _ _ ⟨fun _ => BB.step hbb hb, (fun _ h => by rw [updG_ne (by decide)]; exact (IsNat.below _ _ _ hb (hB.2.1 hAP (by rw [setL_ne (by decide)] at h; exact h)))), fun _ _ => by rw [updG_eq]; exact ⟨ta, tl, tc, rfl, ht⟩, (fun _ h => by rw [setL_ne (by decide), hn 16 (by decide)] at h; cases h), (fun h => by rw [setL_ne (by decide), hAP] at h; cases h), fun h => by rw [setL_ne (by decide), hn 19 (by decide)] at h; cases h⟩ (GF.below hb) trivial
                  refine StepsMB.cons (fun l g' wu hB hl hn hp K hK => ?_) ?_
                  · have hAP := hn 17 (by decide); have hbb := hB.1 hAP; obtain ⟨xa, xl, xc, ez, hx⟩ := hB.2.2.1 hAP (hp 15 (by decide)).1; have hb := (Below.refl _ wu).alloc (Nat.le_refl _) (Obj.cells #[Value.slice xa xl xc] 33); simp only [mkM, maskH33, mixM, Nat.reduceAdd, ez] at hK ⊢; simp only [Act.put, List.setIfInBounds_toArray, List.set_cons_zero, List.set_cons_succ] at hK; go_simp; exact hK.out _ _ ⟨fun _ => BB.step hbb hb, (fun _ h => by rw [updG_ne (by decide)]; exact (IsNat.below _ _ _ hb (hB.2.1 hAP (by rw [setL_ne (by decide)] at h; exact h)))), (fun _ h => by rw [updG_ne (by decide)]; exact (IsNat.below _ _ _ hb (hB.2.2.1 hAP (by rw [setL_ne (by decide)] at h; exact h)))), fun _ _ => by rw [updG_eq]; exact (IsLN.new hx), (fun h => by rw [setL_ne (by decide), hAP] at h; cases h), fun h => by rw [setL_ne (by decide), hn 19 (by decide)] at h; cases h⟩ GF.alloc trivial
                  refine StepsMB.cons (fun l g' wu hB hl hn hp K hK => ?_) ?_
                  · have hAP := hl; have hbb := hB.1 hAP; have e1 : g' 157 = .slice qa j qc := (hp 1 (by decide)).2; obtain ⟨q, za, zl, zc, ez, hq2, hq3, hq4⟩ := hB.2.2.2.1 hAP (hp 16 (by decide)).1; have HE12 := Lib.hid (HE2.out.below hbb); simp only [mkM, maskH33, mixM, Nat.reduceAdd, e1, ez] at hK ⊢; clear e1; simp only [Act.put, List.setIfInBounds_toArray, List.set_cons_zero, List.set_cons_succ] at hK; refine wanted_go2 rfl ?_; refine wp_append_nat (.tmp 157) (.tmp 172) rfl s2 (.slice qa j qc) BM rfl (HE12.out.row 1 rfl) ⟨q, 0, none⟩ 1 mx za zl zc rfl hq3 hq4 (by rw [HBL.out]; omega) HE12.out.base ?_; intro v9 w9 hown hgr hf; exact hK.out _ _ ⟨(fun h => by rw [setL_eq] at h; cases h), (fun h => by rw [setL_eq] at h; cases h), (fun h => by rw [setL_eq] at h; cases h), (fun h => by rw [setL_eq] at h; cases h), (fun _ _ => by rw [updG_eq]; exact HE12.out.append 1 rfl hgr hf hown), fun h => by rw [setL_ne (by decide), hn 19 (by decide)] at h; cases h⟩ (GF.kept rfl trivial) trivial
                  refine StepsMB.cons (fun l g' wu hB hl hn hp K hK => ?_) ?_
                  · have hA := (hp 17 (by decide)).1; simp only [mkM, maskH33, mixM, Nat.reduceAdd] at hK ⊢; simp only [Act.put, List.setIfInBounds_toArray, List.set_cons_zero, List.set_cons_succ] at hK; go_simp; exact hK.out _ _ ⟨(fun h => by rw [setL_ne (by decide), hA] at h; cases h), (fun h => by rw [setL_ne (by decide), hA] at h; cases h), (fun h => by rw [setL_ne (by decide), hA] at h; cases h), (fun h => by rw [setL_ne (by decide), hA] at h; cases h), (fun _ _ => by rw [updG_ne (by decide)]; exact hB.2.2.2.2.1 hA (hn 19 (by decide))), fun h => by rw [setL_ne (by decide), hn 19 (by decide)] at h; cases h⟩ GF.same rfl
                  refine StepsMB.cons (fun l g' wu hB hl hn hp K hK => ?_) ?_
                  · have hA := (hp 17 (by decide)).1; have hE := hB.2.2.2.2.1 hA hl; have e18 : g' 174 = .pointer (some ⟨s2, 1, none⟩) := (hp 18 (by decide)).2; obtain ⟨na, nc, ez, _⟩ := (hE.row 1 rfl).form; rw [HL2.out] at ez; rw [ez] at hE; have HE13 := Lib.hid hE; have hB13 : Blk wu s2 82 [v', .slice qa j qc] := HE13.out.has 0 rfl; have q0 := hB13.cell 1; have f0 := hB13.frozen 1; simp only [List.getElem?_cons_zero, List.getElem?_cons_succ] at q0; have HE15 := Lib.hid (GE.other HE13.out (by decide) hB13 (Nat.le_refl _) 1 (.slice na n1 nc) (L2_O (by decide) (by decide)) (F1_O (hB13.set 1 (.slice na n1 nc)))); clear hB13 hE; simp only [mkM, maskH33, mixM, Nat.reduceAdd, e18, ez] at hK ⊢; clear e18; simp only [Act.put, List.setIfInBounds_toArray, List.set_cons_zero, List.set_cons_succ] at hK; go_simp; exact hK.out undef _ ⟨(fun h => by rw [setL_ne (by decide), hA] at h; cases h), (fun h => by rw [setL_ne (by decide), hA] at h; cases h), (fun h => by rw [setL_ne (by decide), hA] at h; cases h), (fun h => by rw [setL_ne (by decide), hA] at h; cases h), (fun _ h => by rw [setL_eq] at h; cases h), fun _ => ⟨.slice na n1 nc, HE15.out⟩⟩ (GF.kept rfl trivial) trivial
                  exact StepsMB.nil
                · intro l g' wu hall hB hG
                  have hS := hB.2.2.2.2.2 (hall 19 (by decide))
                  simp only [mkM, maskH33, mixM, Nat.reduceAdd]
                  clear hG hall hB
                  obtain ⟨u', hE⟩ := hS
                  have HE15 := Lib.hid hE
                  clear hE
                  go_wp2_with fail
                  go_roundw
                  case rel => exact ⟨j + 1, v', u', by omega, by go_num, by
                    have h := HE15.out
                    rw [HA1.out, HB1.out]
                    exact h⟩
                  case measure => simp [intOf]; omega
            · obtain rfl : T = j := by omega
              obtain ⟨wE, rfl⟩ : ∃ wE, wE = wr := ⟨wr, rfl⟩
              have htV : V.take T = V := List.take_of_length_le (by rw [HLV.out.1]; exact Nat.le_refl _)
              have htM : M.take T = M := List.take_of_length_le (by rw [HLV.out.2]; exact Nat.le_refl _)
              have htp : p.take T = p := List.take_of_length_le (by rw [HP.out.1]; exact Nat.le_refl _)
              rw [htV, htM, htp] at HE
              have hlV : V.length = p.length := by rw [HLV.out.1, HP.out.1]
              have hlM : M.length = p.length := by rw [HLV.out.2, HP.out.1]
              have hall := hides_all hlV hlM (c := c) (by simpa using HINV.out.2)
              have hsh : ∀ t, t < oi → evalm 101 (addP 101 V p) ((A + t * Bn) % 101) = evalm 101 V ((A + t * Bn) % 101) ∧ evalm 101 (subP 101 c M p) ((A + t * Bn) % 101) = evalm 101 M ((A + t * Bn) % 101) := fun t ht => ⟨addP_at (by decide) hlV (HP.out.2.2 t (HOI.out ▸ ht)), subP_at (by decide) hlM (HP.out.2.2 t (HOI.out ▸ ht))⟩
              have hsec : (addP 101 V p).getD 0 0 = z % 101 := by
                rw [addP_get (by rw [HLV.out.1]; omega) (by rw [HP.out.1]; omega), HV0.out]
                exact secret_at (by decide) (by rw [HP.out.2.1, HY.out])
              have hnl : (addP 101 V p).length = T ∧ (subP 101 c M p).length = T := ⟨by rw [addP_length hlV, HLV.out.1], by rw [subP_length hlM, HLV.out.2]⟩
              have hnq : (∀ a ∈ addP 101 V p, a < 101) ∧ ∀ a ∈ subP 101 c M p, a < 101 := ⟨addP_lt (by decide), subP_lt (by decide)⟩
              obtain ⟨NV, hNV⟩ : ∃ NV, addP 101 V p = NV := ⟨_, rfl⟩
              obtain ⟨NM, hNM⟩ : ∃ NM, subP 101 c M p = NM := ⟨_, rfl⟩
              rw [hNV, hNM] at HE hall hnl hnq
              rw [hNV] at hsec
              simp only [hNV, hNM] at hsh
              have hcl : (allG (gP 0) (gG 0) (gH 0) V M).length = T := by rw [allG_length, HLV.out.1, HLV.out.2]; exact Nat.max_self T
              obtain ⟨CC, hCC⟩ : ∃ CC, allG (gP 0) (gG 0) (gH 0) V M = CC := ⟨_, rfl⟩
              rw [hCC] at hall hcl
              obtain ⟨ZM, hZM⟩ : ∃ ZM, z % 101 = ZM := ⟨_, rfl⟩
              rw [hZM] at hsec
              have HNL := Lib.hid hnl
              have HNQ := Lib.hid hnq
              have HSH := Lib.hid hsh
              have HSEC := Lib.hid hsec
              have HALL := Lib.hid hall
              have HCL := Lib.hid hcl
              have HCC := Lib.hid hCC
              have HZM := Lib.hid hZM
              obtain ⟨oa, oc, rfl, _, _, hoat, _⟩ := (HE.out.row 0 rfl).form
              obtain ⟨qa, qc, rfl, _, _, hqat, _⟩ := (HE.out.row 1 rfl).form
              rw [HNL.out.1, HNL.out.2] at HE
              have hwb : BB w14 wE := by have q := HE.out.bel; rw [HS2.out] at q; exact q
              have HG := Lib.hid (HG14.out.below hwb)
              have HR := Lib.hid (HR14.out.below hwb)
              have HVr := Lib.hid (And.intro (HVM14.out.1.below hwb) (HVM14.out.2.below hwb))
              have HON := Lib.hid (And.intro hoat hqat)
              have HB := Lib.hid (HB14.out.trans (Below.mono hwb HB14.out.size))
              have hBDr := HBd14.out.below hwb HBd14.out.lt
              have hBO : Blk wE s2 82 [.slice oa T oc, .slice qa T qc] := HE.out.has 0 rfl
              have gD0 : ∀ w', BB wE w' → w'.cell? ⟨D, 0, none⟩ = some (.slice va T ca) := fun w' h => (h.cell hBDr.lt).trans (hBDr.cell 0)
              have gD1 : ∀ w', BB wE w' → w'.cell? ⟨D, 1, none⟩ = some (.slice vb T cb) := fun w' h => (h.cell hBDr.lt).trans (hBDr.cell 1)
              have gO0 : ∀ w', BB wE w' → w'.cell? ⟨s2, 0, none⟩ = some (.slice oa T oc) := fun w' h => (h.cell hBO.lt).trans (hBO.cell 0)
              have gO1 : ∀ w', BB wE w' → w'.cell? ⟨s2, 1, none⟩ = some (.slice qa T qc) := fun w' h => (h.cell hBO.lt).trans (hBO.cell 1)
              have HPL : Hid ((T : Int) ≤ 10000 ∧ (∀ a ∈ V, a < 2 ^ 1000) ∧ (∀ a ∈ M, a < 2 ^ 1000) ∧ (∀ a ∈ NV, a < 2 ^ 1000) ∧ ∀ a ∈ NM, a < 2 ^ 1000) := ⟨by omega, small_1000 HLQ.out.1, small_1000 HLQ.out.2, small_1000 HNQ.out.1, small_1000 HNQ.out.2⟩
              clear htV htM htp hlV hlM hall hsh hsec hnl hnq hNV hNM hcl hCC hZM hoat hqat hwb hBDr hBO HE HNQ
              go_wp2_with fail
              refine wp_region_mix (fun _ w' => BB wE w') (GF (tabH35 (.agg #[.slice va T ca, .slice vb T cb]) (.pointer (some ⟨g, 0, none⟩)) (Fk.rel (fun v w => PRow w v T CC) (fun _ _ _ hb h => h.below hb)) (.agg #[.slice oa T oc, .slice qa T qc]) (.pointer (some ⟨g, 0, none⟩)) (Fk.rel (fun v w => PRow w v T CC) (fun _ _ _ hb h => h.below hb)) (Fk.rel (fun v w => PRow w v T CC) (fun _ _ _ hb h => h.below hb)) (Fk.rel (fun v w => PRow w v T CC) (fun _ _ _ hb h => h.below hb)))) maskH35 dstH35 preH35 (by kernel_rfl) (by kernel_rfl) rfl (by kernel_rfl) (by kernel_rfl) (by kernel_rfl) (by kernel_rfl) (BB.drew (BB.refl _)) ?_ ?_
              · refine StepsM.cons (fun l g' wu hB hl hn hp K hK => ?_) ?_
                · have hbb := hB; have c0 := gD0 _ hbb; have c1 := gD1 _ hbb; simp only [mkM, maskH35, mixM, Nat.reduceAdd] at hK ⊢; simp only [Act.put, List.setIfInBounds_toArray, List.set_cons_zero, List.set_cons_succ] at hK; go_simp; exact hK.out _ _ hB GF.same rfl
                refine StepsM.cons (fun l g' wu hB hl hn hp K hK => ?_) ?_
                · simp only [mkM, maskH35, mixM, Nat.reduceAdd] at hK ⊢; simp only [Act.put, List.setIfInBounds_toArray, List.set_cons_zero, List.set_cons_succ] at hK; go_simp; exact hK.out _ _ hB GF.same rfl
                refine StepsM.cons (fun l g' wu hB hl hn hp K hK => ?_) ?_
                · have hbb := hB; have e0 : g' 176 = .agg #[.slice va T ca, .slice vb T cb] := (hp 0 (by decide)).2; have e1 : g' 177 = .pointer (some ⟨g, 0, none⟩) := (hp 1 (by decide)).2; simp only [mkM, maskH35, mixM, Nat.reduceAdd, e0, e1] at hK ⊢; clear e0 e1; simp only [Act.put, List.setIfInBounds_toArray, List.set_cons_zero, List.set_cons_succ] at hK; go_simp; go_at_call 64; refine (dpledges_any g _ _ _ _ _ va T ca V vb T cb M wu (HG.out.below hbb) (gP_one 0) HPL.out.2.1 HPL.out.2.2.1 (HVr.out.1.below hbb) HLV.out.1 HPL.out.1 (HVr.out.2.below hbb) HLV.out.2 HPL.out.1).mono ?_; rw [HCC.out]; rintro e w7 ⟨v7, rfl, hrow, hb⟩; go_wp2_with fail; exact hK.out _ _ (BB.step hbb hb) (GF.below hb) (PRow.of hrow HCL.out)
                refine StepsM.cons (fun l g' wu hB hl hn hp K hK => ?_) ?_
                · have hbb := hB; have c0 := gO0 _ hbb; have c1 := gO1 _ hbb; simp only [mkM, maskH35, mixM, Nat.reduceAdd] at hK ⊢; simp only [Act.put, List.setIfInBounds_toArray, List.set_cons_zero, List.set_cons_succ] at hK; go_simp; exact hK.out _ _ hB GF.same rfl
                refine StepsM.cons (fun l g' wu hB hl hn hp K hK => ?_) ?_
                · simp only [mkM, maskH35, mixM, Nat.reduceAdd] at hK ⊢; simp only [Act.put, List.setIfInBounds_toArray, List.set_cons_zero, List.set_cons_succ] at hK; go_simp; exact hK.out _ _ hB GF.same rfl
                refine StepsM.cons (fun l g' wu hB hl hn hp K hK => ?_) ?_
                · have hbb := hB; have e3 : g' 179 = .agg #[.slice oa T oc, .slice qa T qc] := (hp 3 (by decide)).2; have e4 : g' 180 = .pointer (some ⟨g, 0, none⟩) := (hp 4 (by decide)).2; simp only [mkM, maskH35, mixM, Nat.reduceAdd, e3, e4] at hK ⊢; clear e3 e4; simp only [Act.put, List.setIfInBounds_toArray, List.set_cons_zero, List.set_cons_succ] at hK; go_simp; go_at_call 64; refine (dpledges_any g _ _ _ _ _ oa T oc NV qa T qc NM wu (HG.out.below hbb) (gP_one 0) HPL.out.2.2.2.1 HPL.out.2.2.2.2 (HON.out.1.below hbb) HNL.out.1 HPL.out.1 (HON.out.2.below hbb) HNL.out.2 HPL.out.1).mono ?_; rw [HALL.out]; rintro e w7 ⟨v7, rfl, hrow, hb⟩; go_wp2_with fail; exact hK.out _ _ (BB.step hbb hb) (GF.below hb) (PRow.of hrow HCL.out)
                refine StepsM.cons (fun l g' wu hB hl hn hp K hK => ?_) ?_
                · have h2 : PRow wu (g' 178) T CC := (hp 2 (by decide)).2; simp only [mkM, maskH35, mixM, Nat.reduceAdd] at hK ⊢; simp only [Act.put, List.setIfInBounds_toArray, List.set_cons_zero, List.set_cons_succ] at hK; go_simp; exact hK.out _ _ hB GF.same h2
                refine StepsM.cons (fun l g' wu hB hl hn hp K hK => ?_) ?_
                · have h5 : PRow wu (g' 181) T CC := (hp 5 (by decide)).2; simp only [mkM, maskH35, mixM, Nat.reduceAdd] at hK ⊢; simp only [Act.put, List.setIfInBounds_toArray, List.set_cons_zero, List.set_cons_succ] at hK; go_simp; exact hK.out _ _ hB GF.same h5
                exact StepsM.nil
              · intro l gz wz hall hB hG
                have h6 : PRow wz (gz 31) T CC := hG 6 (by decide)
                have h7 : PRow wz (gz 32) T CC := hG 7 (by decide)
                obtain ⟨c1a, c1c, e31, hc1⟩ := h6
                obtain ⟨c2a, c2c, e32, hc2⟩ := h7
                have HC1 := Lib.hid hc1
                have HC2 := Lib.hid hc2
                have HBU : Hid (BB wE wz) := hB
                simp only [mkM, maskH35, mixM, Nat.reduceAdd, e31, e32]
                clear hG hall hB e31 e32 hc1 hc2
                go_wp2_with fail
                go_loopw [184] (fun iv wr => ∃ (k : Nat), k ≤ T ∧ iv = .int .i64 (k : Int) ∧ Hid (BB wz wr)) (fun iv _ => T - (intOf iv).toNat)
                case atStart => exact ⟨0, Nat.zero_le _, rfl, BB.refl _⟩
                case round =>
                  obtain ⟨k, hk, rfl, HBR⟩ := hrel
                  by_cases hlt3 : (k : Int) < (T : Int)
                  · have hkC : k < CC.length := by rw [HCL.out]; omega
                    obtain ⟨a1, x1, x2, x3, rfl, t1, d1, n1⟩ := (HC1.out.below HBR.out).get hkC
                    obtain ⟨a2, y1, y2, y3, rfl, t2, d2, n2⟩ := (HC2.out.below HBR.out).get hkC
                    obtain ⟨ec, hec⟩ : ∃ ec, CC.getD k 0 = ec := ⟨_, rfl⟩
                    rw [hec] at n1 n2
                    have HN1c := Lib.hid n1
                    have HN2c := Lib.hid n2
                    have g1 : ∀ w', BB wr w' → w'.cell? (a1.add k) = some (.slice x1 x2 x3) := fun w' h => (h.cell (by rw [block_add]; exact t1.lt)).trans d1
                    have g2 : ∀ w', BB wr w' → w'.cell? (a2.add k) = some (.slice y1 y2 y3) := fun w' h => (h.cell (by rw [block_add]; exact t2.lt)).trans d2
                    clear hkC t1 d1 n1 t2 d2 n2 hec
                    go_wp2_with fail
                    refine wp_region_mix (fun _ w' => BB wr w') (GF (tabH39 (.slice (some a2) T c2c) (.int .i64 (T : Int)) (.slice (some a1) T c1c) (.int .i64 (T : Int)) (.bool false) (.bool false) (.slice (some a1) T c1c) (.int .i64 (k : Int)) (.pointer (some (a1.add k))) (.agg #[.slice x1 x2 x3]) (.slice (some a2) T c2c) (.int .i64 (k : Int)) (.pointer (some (a2.add k))) (.agg #[.slice y1 y2 y3]) (.int .i64 0) (.bool false) (.bool false))) maskH39 dstH39 preH39 (by kernel_rfl) (by kernel_rfl) rfl (by kernel_rfl) (by kernel_rfl) (by kernel_rfl) (by kernel_rfl) (BB.drew (BB.refl _)) ?_ ?_
                    · refine StepsM.cons (fun l g' wu hB hl hn hp K hK => ?_) ?_
                      · simp only [mkM, maskH39, mixM, Nat.reduceAdd] at hK ⊢; simp only [Act.put, List.setIfInBounds_toArray, List.set_cons_zero, List.set_cons_succ] at hK; go_simp; exact hK.out _ _ hB GF.same rfl
                      refine StepsM.cons (fun l g' wu hB hl hn hp K hK => ?_) ?_
                      · have e0 : g' 187 = .slice (some a2) T c2c := (hp 0 (by decide)).2; simp only [mkM, maskH39, mixM, Nat.reduceAdd, e0] at hK ⊢; clear e0; simp only [Act.put, List.setIfInBounds_toArray, List.set_cons_zero, List.set_cons_succ] at hK; go_simp; exact hK.out _ _ hB GF.same rfl
                      refine StepsM.cons (fun l g' wu hB hl hn hp K hK => ?_) ?_
                      · simp only [mkM, maskH39, mixM, Nat.reduceAdd] at hK ⊢; simp only [Act.put, List.setIfInBounds_toArray, List.set_cons_zero, List.set_cons_succ] at hK; go_simp; exact hK.out _ _ hB GF.same rfl
                      refine StepsM.cons (fun l g' wu hB hl hn hp K hK => ?_) ?_
                      · have e2 : g' 189 = .slice (some a1) T c1c := (hp 2 (by decide)).2; simp only [mkM, maskH39, mixM, Nat.reduceAdd, e2] at hK ⊢; clear e2; simp only [Act.put, List.setIfInBounds_toArray, List.set_cons_zero, List.set_cons_succ] at hK; go_simp; exact hK.out _ _ hB GF.same rfl
                      refine StepsM.cons (fun l g' wu hB hl hn hp K hK => ?_) ?_
                      · have e1 : g' 188 = .int .i64 (T : Int) := (hp 1 (by decide)).2; have e3 : g' 190 = .int .i64 (T : Int) := (hp 3 (by decide)).2; simp only [mkM, maskH39, mixM, Nat.reduceAdd, e1, e3] at hK ⊢; clear e1 e3; simp only [Act.put, List.setIfInBounds_toArray, List.set_cons_zero, List.set_cons_succ] at hK; go_simp; exact hK.out _ _ hB GF.same rfl
                      refine StepsM.cons (fun l g' wu hB hl hn hp K hK => ?_) ?_
                      · have e4 : g' 191 = .bool false := (hp 4 (by decide)).2; simp only [mkM, maskH39, mixM, Nat.reduceAdd, e4] at hK ⊢; clear e4; simp only [Act.put, List.setIfInBounds_toArray, List.set_cons_zero, List.set_cons_succ] at hK; go_simp; exact hK.out _ _ hB GF.same rfl
                      refine StepsM.cons (fun l g' wu hB hl hn hp K hK => ?_) ?_
                      · have e5 : g' 192 = .bool false := (hp 5 (by decide)).2; simp only [mkM, maskH39, mixM, Nat.reduceAdd, e5] at hK ⊢; clear e5; simp only [Act.put, List.setIfInBounds_toArray, List.set_cons_zero, List.set_cons_succ] at hK; go_simp; exact hK.out _ _ hB GF.same rfl
                      refine StepsM.cons (fun l g' wu hB hl hn hp K hK => ?_) ?_
                      · have e5 : g' 192 = .bool false := (hp 5 (by decide)).2; simp only [mkM, maskH39, mixM, Nat.reduceAdd, e5] at hK ⊢; clear e5; simp only [Act.put, List.setIfInBounds_toArray, List.set_cons_zero, List.set_cons_succ] at hK; go_simp; exact hK.out _ _ hB GF.same rfl
                      refine StepsM.cons (fun l g' wu hB hl hn hp K hK => ?_) ?_
                      · have e6 : g' 193 = .slice (some a1) T c1c := (hp 6 (by decide)).2; have e7 : g' 194 = .int .i64 (k : Int) := (hp 7 (by decide)).2; have e5 : g' 192 = .bool false := (hp 5 (by decide)).2; simp only [mkM, maskH39, mixM, Nat.reduceAdd, e6, e7, e5] at hK ⊢; clear e6 e7 e5; simp only [Act.put, List.setIfInBounds_toArray, List.set_cons_zero, List.set_cons_succ] at hK; go_simp; exact hK.out _ _ hB GF.same rfl
                      refine StepsM.cons (fun l g' wu hB hl hn hp K hK => ?_) ?_
                      · have hbb := hB; have e8 : g' 195 = .pointer (some (a1.add k)) := (hp 8 (by decide)).2; have e5 : g' 192 = .bool false := (hp 5 (by decide)).2; have hc := g1 _ hbb; simp only [mkM, maskH39, mixM, Nat.reduceAdd, e8, e5] at hK ⊢; clear e8 e5; simp only [Act.put, List.setIfInBounds_toArray, List.set_cons_zero, List.set_cons_succ] at hK; go_simp; exact hK.out _ _ hB GF.same rfl
                      refine StepsM.cons (fun l g' wu hB hl hn hp K hK => ?_) ?_
                      · have e5 : g' 192 = .bool false := (hp 5 (by decide)).2; simp only [mkM, maskH39, mixM, Nat.reduceAdd, e5] at hK ⊢; clear e5; simp only [Act.put, List.setIfInBounds_toArray, List.set_cons_zero, List.set_cons_succ] at hK; go_simp; exact hK.out _ _ hB GF.same rfl
                      refine StepsM.cons (fun l g' wu hB hl hn hp K hK => ?_) ?_
                      · have e5 : g' 192 = .bool false := (hp 5 (by decide)).2; simp only [mkM, maskH39, mixM, Nat.reduceAdd, e5] at hK ⊢; clear e5; simp only [Act.put, List.setIfInBounds_toArray, List.set_cons_zero, List.set_cons_succ] at hK; go_simp; exact hK.out _ _ hB GF.same rfl
                      refine StepsM.cons (fun l g' wu hB hl hn hp K hK => ?_) ?_
                      · have e10 : g' 197 = .slice (some a2) T c2c := (hp 10 (by decide)).2; have e11 : g' 198 = .int .i64 (k : Int) := (hp 11 (by decide)).2; have e5 : g' 192 = .bool false := (hp 5 (by decide)).2; simp only [mkM, maskH39, mixM, Nat.reduceAdd, e10, e11, e5] at hK ⊢; clear e10 e11 e5; simp only [Act.put, List.setIfInBounds_toArray, List.set_cons_zero, List.set_cons_succ] at hK; go_simp; exact hK.out _ _ hB GF.same rfl
                      refine StepsM.cons (fun l g' wu hB hl hn hp K hK => ?_) ?_
                      · have hbb := hB; have e12 : g' 199 = .pointer (some (a2.add k)) := (hp 12 (by decide)).2; have e5 : g' 192 = .bool false := (hp 5 (by decide)).2; have hc := g2 _ hbb; simp only [mkM, maskH39, mixM, Nat.reduceAdd, e12, e5] at hK ⊢; clear e12 e5; simp only [Act.put, List.setIfInBounds_toArray, List.set_cons_zero, List.set_cons_succ] at hK; go_simp; exact hK.out _ _ hB GF.same rfl
                      refine StepsM.cons (fun l g' wu hB hl hn hp K hK => ?_) ?_
                      · have hbb := hB; have e9 : g' 196 = .agg #[.slice x1 x2 x3] := (hp 9 (by decide)).2; have e13 : g' 200 = .agg #[.slice y1 y2 y3] := (hp 13 (by decide)).2; have e5 : g' 192 = .bool false := (hp 5 (by decide)).2; simp only [mkM, maskH39, mixM, Nat.reduceAdd, e9, e13, e5] at hK ⊢; clear e9 e13 e5; simp only [Act.put, List.setIfInBounds_toArray, List.set_cons_zero, List.set_cons_succ] at hK; go_simp; go_at_call 25; refine (cmp_s x1 y1 x2 x3 y2 y3 ec ec wu (HN1c.out.below hbb) (HN2c.out.below hbb)).mono ?_; rw [cmp_self]; rintro e w7 ⟨rfl, hb⟩; go_wp2_with fail; exact hK.out _ _ (BB.step hbb hb) (GF.below hb) rfl
                      refine StepsM.cons (fun l g' wu hB hl hn hp K hK => ?_) ?_
                      · have e14 : g' 201 = .int .i64 0 := (hp 14 (by decide)).2; have e5 : g' 192 = .bool false := (hp 5 (by decide)).2; simp only [mkM, maskH39, mixM, Nat.reduceAdd, e14, e5] at hK ⊢; clear e14 e5; simp only [Act.put, List.setIfInBounds_toArray, List.set_cons_zero, List.set_cons_succ] at hK; go_simp; exact hK.out _ _ hB GF.same rfl
                      refine StepsM.cons (fun l g' wu hB hl hn hp K hK => ?_) ?_
                      · have e5 : g' 192 = .bool false := (hp 5 (by decide)).2; have e15 : g' 202 = .bool false := (hp 15 (by decide)).2; simp only [mkM, maskH39, mixM, Nat.reduceAdd, e5, e15] at hK ⊢; clear e5 e15; simp only [Act.put, List.setIfInBounds_toArray, List.set_cons_zero, List.set_cons_succ] at hK; go_simp; exact hK.out _ _ hB GF.same rfl
                      exact StepsM.nil
                    · intro l gz wz hall hB hG
                      have e16 : gz 203 = .bool false := hG 16 (by decide)
                      have HRR : Hid (BB wr wz) := hB
                      simp only [mkM, maskH39, mixM, Nat.reduceAdd, e16]
                      clear hG hall hB e16
                      go_wp2_with fail
                      go_roundw
                      case rel => exact ⟨k + 1, by omega, by go_num, HBR.out.trans (Below.mono HRR.out HBR.out.size)⟩
                      case measure => simp [intOf]; omega
                  · obtain rfl : T = k := by omega
                    go_wp2_with fail
                    go_loopw [207] (fun iv wr => ∃ (q : Nat), (q : Int) ≤ i ∧ iv = .int .i64 (q : Int) ∧ Hid (BB wE wr)) (fun iv _ => i - (intOf iv).toNat)
                    case atStart => exact ⟨0, by omega, rfl, HBU.out.trans (Below.mono HBR.out HBU.out.size)⟩
                    case round =>
                      clear HBR
                      obtain ⟨q, hq, rfl, HBR⟩ := hrel
                      by_cases hlt4 : (q : Int) < (i : Int)
                      · obtain ⟨m, hm0⟩ : ∃ m, q * Bn = m := ⟨_, rfl⟩
                        have hm40 : m ≤ 40 := by rw [← hm0]; exact Nat.le_trans (Nat.mul_le_mul (show q ≤ 5 by omega) hB3) (by decide)
                        have hmi : (q : Int) * (Bn : Int) = (m : Int) := by rw [← hm0]; push_cast; rfl
                        obtain ⟨n, hn⟩ : ∃ n, A + m = n := ⟨_, rfl⟩
                        have HQ : Hid (A + q * Bn = n) := by show _ = _; rw [hm0]; exact hn
                        have m1 : IntKind.i64.wrap ((q : Int) * (Bn : Int)) = (m : Int) := by rw [hmi]; exact i64_small _ (by omega) (by omega)
                        have m2 : IntKind.i64.wrap ((A : Int) + (m : Int)) = (n : Int) := by rw [i64_small _ (by omega) (by omega)]; omega
                        have hsq := HSH.out q (by rw [← HOI.out]; omega)
                        rw [HQ.out] at hsq
                        obtain ⟨ES, hES⟩ : ∃ ES, evalm 101 V (n % 101) = ES := ⟨_, rfl⟩
                        obtain ⟨ER, hER⟩ : ∃ ER, evalm 101 M (n % 101) = ER := ⟨_, rfl⟩
                        rw [hES, hER] at hsq
                        have HES : Hid (evalm (gQ 0) V (n % gQ 0) = ES) := hES
                        have HER : Hid (evalm (gQ 0) M (n % gQ 0) = ER) := hER
                        have HSQ : Hid (evalm (gQ 0) NV (n % gQ 0) = ES ∧ evalm (gQ 0) NM (n % gQ 0) = ER) := hsq
                        have hn64 : 1 ≤ n ∧ n ≤ 64 := by omega
                        have c0 := gD0 _ HBR.out
                        have c1 := gD1 _ HBR.out
                        clear hm0 hm40 hmi hn hsq hES hER
                        go_wp2_with fail
                        refine (dshare_any g _ _ _ _ _ va T ca V vb T cb M n wr (HG.out.below HBR.out) hn64.1 hn64.2 (HVr.out.1.below HBR.out) HLV.out.1 HPL.out.1 (HVr.out.2.below HBR.out) HLV.out.2 HPL.out.1).mono ?_
                        rw [HES.out, HER.out]
                        rintro e v1 ⟨p1, p2, p3, p4, p5, p6, rfl, hp1, hp2, hb1⟩
                        obtain ⟨S1, hS1⟩ : ∃ S1, S1 = v1.heap.size := ⟨_, rfl⟩
                        have hba := (Below.refl _ v1).alloc (Nat.le_refl _) (Obj.cells #[Value.slice p1 p2 p3, Value.slice p4 p5 p6] 90)
                        have hBa : Blk (v1.alloc (Obj.cells #[Value.slice p1 p2 p3, Value.slice p4 p5 p6] 90)) S1 90 [.slice p1 p2 p3, .slice p4 p5 p6] := Blk.new' v1 _ _ S1 hS1
                        have HS1 := Lib.hid hS1
                        have HPN := Lib.hid (And.intro (hp1.below hba) (hp2.below hba))
                        have HBV : Hid (BB wE (v1.alloc (Obj.cells #[Value.slice p1 p2 p3, Value.slice p4 p5 p6] 90))) := BB.step (BB.step HBR.out hb1) hba
                        have e0 := gO0 _ HBV.out
                        have e1 := gO1 _ HBV.out
                        clear hp1 hp2 hb1 hba hS1 c0 c1 HBR
                        go_wp2_with fail
                        rw [← HS1.out]
                        generalize v1.alloc (Obj.cells #[Value.slice p1 p2 p3, Value.slice p4 p5 p6] 90) = v2 at hBa HPN HBV e0 e1 ⊢
                        have HBa := Lib.hid hBa
                        clear hBa e0 e1
                        refine (dshare_any g _ _ _ _ _ oa T oc NV qa T qc NM n v2 (HG.out.below HBV.out) hn64.1 hn64.2 (HON.out.1.below HBV.out) HNL.out.1 HPL.out.1 (HON.out.2.below HBV.out) HNL.out.2 HPL.out.1).mono ?_
                        rw [HSQ.out.1, HSQ.out.2]
                        rintro e v3 ⟨q1, q2, q3, q4, q5, q6, rfl, hq1, hq2, hb3⟩
                        obtain ⟨S2, hS2'⟩ : ∃ S2, S2 = v3.heap.size := ⟨_, rfl⟩
                        have hba := (Below.refl _ v3).alloc (Nat.le_refl _) (Obj.cells #[Value.slice q1 q2 q3, Value.slice q4 q5 q6] 90)
                        have hBb : Blk (v3.alloc (Obj.cells #[Value.slice q1 q2 q3, Value.slice q4 q5 q6] 90)) S2 90 [.slice q1 q2 q3, .slice q4 q5 q6] := Blk.new' v3 _ _ S2 hS2'
                        have hB1 := (HBa.out.below hb3 HBa.out.lt).below hba (HBa.out.below hb3 HBa.out.lt).lt
                        have HS2' := Lib.hid hS2'
                        have HQN := Lib.hid (And.intro (hq1.below hba) (hq2.below hba))
                        have HPN2 := Lib.hid (And.intro ((HPN.out.1.below hb3).below hba) ((HPN.out.2.below hb3).below hba))
                        have HBV2 : Hid (BB wE (v3.alloc (Obj.cells #[Value.slice q1 q2 q3, Value.slice q4 q5 q6] 90))) := BB.step (BB.step HBV.out hb3) hba
                        have a0 := hB1.cell 0
                        have a1 := hB1.cell 1
                        have b0 := hBb.cell 0
                        have b1 := hBb.cell 1
                        simp only [List.getElem?_cons_zero, List.getElem?_cons_succ] at a0 a1 b0 b1
                        have HB1 := Lib.hid hB1
                        have HBb := Lib.hid hBb
                        clear hq1 hq2 hb3 hba hS2' HPN HBV HBa hB1 hBb
                        go_wp2_with fail
                        rw [← HS2'.out]
                        generalize v3.alloc (Obj.cells #[Value.slice q1 q2 q3, Value.slice q4 q5 q6] 90) = v4 at HB1 HBb HQN HPN2 HBV2 a0 a1 b0 b1 ⊢
                        refine (cmp_s p1 q1 p2 p3 q2 q3 ES ES v4 HPN2.out.1 HQN.out.1).mono ?_
                        rw [cmp_self]
                        rintro e v5 ⟨rfl, hb5⟩
                        have a2 := (HB1.out.below hb5 HB1.out.lt).cell 1
                        have b2 := (HBb.out.below hb5 HBb.out.lt).cell 1
                        simp only [List.getElem?_cons_zero, List.getElem?_cons_succ] at a2 b2
                        have HPR := Lib.hid (HPN2.out.2.below hb5)
                        have HQR := Lib.hid (HQN.out.2.below hb5)
                        have HBV3 := Lib.hid (BB.step HBV2.out hb5)
                        clear hb5 a0 a1 b0 b1 HBV2 HPN2 HQN HB1 HBb
                        go_wp2_with fail
                        refine (cmp_s p4 q4 p5 p6 q5 q6 ER ER v5 HPR.out HQR.out).mono ?_
                        rw [cmp_self]
                        rintro e v6 ⟨rfl, hb6⟩
                        have HBV4 := Lib.hid (BB.step HBV3.out hb6)
                        clear hb6 a2 b2 HBV3 HPR HQR
                        go_wp2_with fail
                        go_roundw
                        case rel => exact ⟨q + 1, by omega, by go_num, HBV4.out⟩
                        case measure => simp [intOf]; omega
                      · obtain ⟨ao, x1, x2, x3, rfl, t0, d0, n0⟩ := (HON.out.1.below HBR.out).get (k := 0) (by rw [HNL.out.1]; omega)
                        rw [HSEC.out] at n0
                        rw [show ao.add 0 = ao from rfl] at d0
                        have g0 : ∀ w', BB wr w' → w'.cell? ao = some (.slice x1 x2 x3) := fun w' h => (h.cell t0.lt).trans d0
                        have gO : ∀ w', BB wr w' → w'.cell? ⟨s2, 0, none⟩ = some (.slice (some ao) T oc) := fun w' h => gO0 w' (HBR.out.trans (Below.mono h HBR.out.size))
                        have HR2 := Lib.hid (HR.out.below HBR.out)
                        have HN0 := Lib.hid n0
                        have hT0 : 0 < T := by omega
                        clear t0 d0 n0
                        go_wp2_with fail
                        refine wp_region_mix (fun _ w' => BB wr w') (GF (tabH50 (.pointer (some ⟨s2, 0, none⟩)) (.slice (some ao) T oc) (.pointer (some ao)) (.agg #[.slice x1 x2 x3]) (.pointer (some ⟨r, 0, none⟩)) (.int .u64 (z : Int)) (z) (ZM) (.int .i64 0) (.bool true) (.bool true))) maskH50 dstH50 preH50 (by kernel_rfl) (by kernel_rfl) rfl (by kernel_rfl) (by kernel_rfl) (by kernel_rfl) (by kernel_rfl) (BB.drew (BB.refl _)) ?_ ?_
                        · refine StepsM.cons (fun l g' wu hB hl hn hp K hK => ?_) ?_
                          · simp only [mkM, maskH50, mixM, Nat.reduceAdd] at hK ⊢; simp only [Act.put, List.setIfInBounds_toArray, List.set_cons_zero, List.set_cons_succ] at hK; go_simp; exact hK.out _ _ hB GF.same rfl
                          refine StepsM.cons (fun l g' wu hB hl hn hp K hK => ?_) ?_
                          · have hbb := hB; have e0 : g' 247 = .pointer (some ⟨s2, 0, none⟩) := (hp 0 (by decide)).2; have c0 := gO _ hbb; simp only [mkM, maskH50, mixM, Nat.reduceAdd, e0] at hK ⊢; clear e0; simp only [Act.put, List.setIfInBounds_toArray, List.set_cons_zero, List.set_cons_succ] at hK; go_simp; exact hK.out _ _ hB GF.same rfl
                          refine StepsM.cons (fun l g' wu hB hl hn hp K hK => ?_) ?_
                          · have e1 : g' 248 = .slice (some ao) T oc := (hp 1 (by decide)).2; simp only [mkM, maskH50, mixM, Nat.reduceAdd, e1] at hK ⊢; clear e1; simp only [Act.put, List.setIfInBounds_toArray, List.set_cons_zero, List.set_cons_succ] at hK; go_simp; exact hK.out _ _ hB GF.same rfl
                          refine StepsM.cons (fun l g' wu hB hl hn hp K hK => ?_) ?_
                          · have hbb := hB; have e2 : g' 249 = .pointer (some ao) := (hp 2 (by decide)).2; have hc := g0 _ hbb; simp only [mkM, maskH50, mixM, Nat.reduceAdd, e2] at hK ⊢; clear e2; simp only [Act.put, List.setIfInBounds_toArray, List.set_cons_zero, List.set_cons_succ] at hK; go_simp; exact hK.out _ _ hB GF.same rfl
                          refine StepsM.cons (fun l g' wu hB hl hn hp K hK => ?_) ?_
                          · simp only [mkM, maskH50, mixM, Nat.reduceAdd] at hK ⊢; simp only [Act.put, List.setIfInBounds_toArray, List.set_cons_zero, List.set_cons_succ] at hK; go_simp; exact hK.out _ _ hB GF.same rfl
                          refine StepsM.cons (fun l g' wu hB hl hn hp K hK => ?_) ?_
                          · simp only [mkM, maskH50, mixM, Nat.reduceAdd] at hK ⊢; simp only [Act.put, List.setIfInBounds_toArray, List.set_cons_zero, List.set_cons_succ] at hK; go_simp; exact hK.out _ _ hB GF.same rfl
                          refine StepsM.cons (fun l g' wu hB hl hn hp K hK => ?_) ?_
                          · have hbb := hB; have e5 : g' 252 = .int .u64 (z : Int) := (hp 5 (by decide)).2; simp only [mkM, maskH50, mixM, Nat.reduceAdd, e5] at hK ⊢; clear e5; simp only [Act.put, List.setIfInBounds_toArray, List.set_cons_zero, List.set_cons_succ] at hK; go_simp; go_at_call 20; refine (new_s z wu HXX.out.2.2).mono ?_; rintro e w7 ⟨ta, tl, tc, rfl, hx, hb⟩; go_wp2_with fail; exact hK.out _ _ (BB.step hbb hb) (GF.below hb) ⟨ta, tl, tc, rfl, hx⟩
                          refine StepsM.cons (fun l g' wu hB hl hn hp K hK => ?_) ?_
                          · have hbb := hB; have e4 : g' 251 = .pointer (some ⟨r, 0, none⟩) := (hp 4 (by decide)).2; obtain ⟨x6, l6, c6, e6, h6⟩ := (hp 6 (by decide)).2; have e6 : g' 253 = .agg #[.slice x6 l6 c6] := e6; simp only [mkM, maskH50, mixM, Nat.reduceAdd, e4, e6] at hK ⊢; clear e4 e6; simp only [Act.put, List.setIfInBounds_toArray, List.set_cons_zero, List.set_cons_succ] at hK; go_simp; go_at_call 73; refine (of_s r 101 x6 l6 c6 z wu (HR2.out.below hbb) h6).mono ?_; rw [HZM.out]; rintro e w7 ⟨ta, tl, tc, rfl, hx, hb⟩; go_wp2_with fail; exact hK.out _ _ (BB.step hbb hb) (GF.below hb) ⟨ta, tl, tc, rfl, hx⟩
                          refine StepsM.cons (fun l g' wu hB hl hn hp K hK => ?_) ?_
                          · have hbb := hB; have e3 : g' 250 = .agg #[.slice x1 x2 x3] := (hp 3 (by decide)).2; obtain ⟨x7, l7, c7, e7, h7⟩ := (hp 7 (by decide)).2; have e7 : g' 254 = .agg #[.slice x7 l7 c7] := e7; simp only [mkM, maskH50, mixM, Nat.reduceAdd, e3, e7] at hK ⊢; clear e3 e7; simp only [Act.put, List.setIfInBounds_toArray, List.set_cons_zero, List.set_cons_succ] at hK; go_simp; go_at_call 25; refine (cmp_s x1 x7 x2 x3 l7 c7 ZM ZM wu (HN0.out.below hbb) h7).mono ?_; rw [cmp_self]; rintro e w7 ⟨rfl, hb⟩; go_wp2_with fail; exact hK.out _ _ (BB.step hbb hb) (GF.below hb) rfl
                          refine StepsM.cons (fun l g' wu hB hl hn hp K hK => ?_) ?_
                          · have e8 : g' 255 = .int .i64 0 := (hp 8 (by decide)).2; simp only [mkM, maskH50, mixM, Nat.reduceAdd, e8] at hK ⊢; clear e8; simp only [Act.put, List.setIfInBounds_toArray, List.set_cons_zero, List.set_cons_succ] at hK; go_simp; exact hK.out _ _ hB GF.same rfl
                          refine StepsM.cons (fun l g' wu hB hl hn hp K hK => ?_) ?_
                          · have e9 : g' 256 = .bool true := (hp 9 (by decide)).2; simp only [mkM, maskH50, mixM, Nat.reduceAdd, e9] at hK ⊢; clear e9; simp only [Act.put, List.setIfInBounds_toArray, List.set_cons_zero, List.set_cons_succ] at hK; go_simp; exact hK.out _ _ hB GF.same rfl
                          exact StepsM.nil
                        · intro l gz wz hall hB hG
                          have e10 : gz 14 = .bool true := hG 10 (by decide)
                          have HR5 : Hid (BB wr wz) := hB
                          simp only [mkM, maskH50, mixM, Nat.reduceAdd, e10]
                          clear hG hall hB e10
                          go_wp2_with fail
                          go_ret
                          exact ⟨rfl, HB.out.trans (Below.mono (HBR.out.trans (Below.mono HR5.out HBR.out.size)) HB.out.size)⟩
/-- The same, as the frame asks it. -/
theorem dhides_walk (a0 a1 a2 : Int) (a3 : Option Addr) (len3 cap3 : Nat) (z3 : List Int) (a4 a5 a6 : Int) (w : World)
    (w1 : (Lit.int .u64 a1).wf = true) (w2 : (Lit.int .u64 a2).wf = true)
    (w3 : (a3 = none ∧ len3 = 0 ∧ cap3 = 0 ∧ z3 = []) ∨ ∃ x, a3 = some x ∧ len3 ≤ cap3 ∧ cap3 ≤ maxLen ∧ z3.length = cap3 ∧ (∀ i, i < z3.length → w.cell? (x.add i) = some (.int .u64 (z3.getD i 0))) ∧ ∀ n ∈ z3, (Lit.int .u64 n).wf = true)
    (w4 : (Lit.int .u64 a4).wf = true) :
    Calls Try.prog 15 #[.int .i64 a0, .int .u64 a1, .int .u64 a2, .slice a3 len3 cap3, .int .u64 a4, .int .i64 a5, .int .i64 a6] w fun e w' => e = .returned (.bool true) ∧ Below w.heap.size w w' := by
  obtain ⟨x, rfl, hx⟩ := word_in w1
  obtain ⟨y, rfl, hy⟩ := word_in w2
  obtain ⟨z, rfl, hz⟩ := word_in w4
  obtain ⟨l, h1, h2, h3, h4⟩ := words_in w3
  exact dhides_any a0 x y a3 len3 cap3 l z a5 a6 w h1 h2 h3 h4 hx hy hz
end Go.Proofs.Ythefednendgclaa
