import Derived.Test.YthefednendgclaaGreatBase
import Derived.Test.YthefednendgclaaGreatShaP
import Derived.Test.YthefednendgclaaGreatProg
import Derived.Lib.EndianBits
import Derived.Deep.QuietTactic
import Derived.BigQuiet
import Derived.BigRegion
import Derived.StillTailTactics
import Derived.Laws.ResultCell
set_option linter.unusedVariables false
set_option linter.unusedSimpArgs false
/-
  The walk's words of 32 bits as natural numbers: what its bit operations and sums are. No program in sight.
-/
namespace Sac
open Go
namespace Sha

theorem u32_bits (op : BinOp) (f : Nat → Nat → Nat) (h : ∀ a b : BitVec 32, (match op with | .and => a &&& b | .or => a ||| b | .xor => a ^^^ b | _ => a &&& ~~~b).toNat = f a.toNat b.toNat) (a b : Nat) (ha : a < M) (hb : b < M) :
    Go.bits op .u32 (a : Int) (b : Int) = ((f a b : Nat) : Int) := by
  have h1 : (BitVec.ofInt 32 (a : Int)).toNat = a := by rw [BitVec.ofInt_natCast, BitVec.toNat_ofNat]; exact Nat.mod_eq_of_lt (by unfold M at ha; omega)
  have h2 : (BitVec.ofInt 32 (b : Int)).toNat = b := by rw [BitVec.ofInt_natCast, BitVec.toNat_ofNat]; exact Nat.mod_eq_of_lt (by unfold M at hb; omega)
  have h3 := h (BitVec.ofInt 32 (a : Int)) (BitVec.ofInt 32 (b : Int))
  rw [h1, h2] at h3
  have h4 : f a b < M := by rw [← h3]; exact BitVec.isLt _
  unfold Go.bits
  show IntKind.u32.wrap ((match op with | .and => BitVec.ofInt 32 (a : Int) &&& BitVec.ofInt 32 (b : Int) | .or => BitVec.ofInt 32 (a : Int) ||| BitVec.ofInt 32 (b : Int) | .xor => BitVec.ofInt 32 (a : Int) ^^^ BitVec.ofInt 32 (b : Int) | _ => BitVec.ofInt 32 (a : Int) &&& ~~~BitVec.ofInt 32 (b : Int)).toNat : Int) = _
  rw [h3]
  exact Go.wraps_u32 _ (Int.natCast_nonneg _) (by unfold M at h4; exact_mod_cast h4)
theorem b_and (a b : Nat) (ha : a < M) (hb : b < M) : Go.bits .and .u32 (a : Int) (b : Int) = ((a &&& b : Nat) : Int) := u32_bits .and (· &&& ·) (fun _ _ => BitVec.toNat_and _ _) a b ha hb
theorem b_or (a b : Nat) (ha : a < M) (hb : b < M) : Go.bits .or .u32 (a : Int) (b : Int) = ((a ||| b : Nat) : Int) := u32_bits .or (· ||| ·) (fun _ _ => BitVec.toNat_or _ _) a b ha hb
theorem b_xor (a b : Nat) (ha : a < M) (hb : b < M) : Go.bits .xor .u32 (a : Int) (b : Int) = ((a ^^^ b : Nat) : Int) := u32_bits .xor (· ^^^ ·) (fun _ _ => BitVec.toNat_xor _ _) a b ha hb

theorem and_lt {a b : Nat} (hb : b < M) : a &&& b < M := Nat.and_lt_two_pow (n := 32) a hb
theorem or_lt {a b : Nat} (ha : a < M) (hb : b < M) : a ||| b < M := Nat.or_lt_two_pow (n := 32) ha hb
theorem xor_lt {a b : Nat} (ha : a < M) (hb : b < M) : a ^^^ b < M := Nat.xor_lt_two_pow (n := 32) ha hb
theorem div_lt {a : Nat} (ha : a < M) (k : Nat) : a / k < M := Nat.lt_of_le_of_lt (Nat.div_le_self _ _) ha
theorem mod_lt (a : Nat) : a % M < M := Nat.mod_lt _ (by decide)
theorem rotr_lt {x : Nat} (hx : x < M) (n : Nat) : rotr x n < M := or_lt (mod_lt _) (div_lt hx _)
theorem not_nat (v : Nat) (hv : v < M) : 4294967295 ^^^ v = M - 1 - v := by
  have h : (~~~ (BitVec.ofNat 32 v)).toNat = 2 ^ 32 - 1 - (BitVec.ofNat 32 v).toNat := BitVec.toNat_not
  have e : ~~~ (BitVec.ofNat 32 v) = BitVec.allOnes 32 ^^^ BitVec.ofNat 32 v := by rw [BitVec.xor_comm, BitVec.xor_allOnes]
  have hm : (BitVec.ofNat 32 v).toNat = v := by rw [BitVec.toNat_ofNat]; exact Nat.mod_eq_of_lt hv
  rw [e, BitVec.toNat_xor, hm, BitVec.toNat_allOnes] at h
  exact h
theorem b_not (v : Nat) (hv : v < M) : Go.bits .xor .u32 IntKind.u32.max (v : Int) = ((M - 1 - v : Nat) : Int) := by
  have h := b_xor 4294967295 v (by decide) hv
  rw [not_nat v hv] at h
  exact h
theorem wrap_nat (a : Nat) (x : Int) (h : x = (a : Int)) : IntKind.u32.wrap x = ((a % M : Nat) : Int) := by
  rw [h, IntKind.wrap_u32]; unfold M; omega
end Sha
/-- The state under way: what is still to be done to it. -/
def RoundInv (st W : List Nat) (i v0 v1 v2 v3 v4 v5 v6 v7 : Nat) : Prop :=
  (v0 < Sha.M ∧ v1 < Sha.M ∧ v2 < Sha.M ∧ v3 < Sha.M ∧ v4 < Sha.M ∧ v5 < Sha.M ∧ v6 < Sha.M ∧ v7 < Sha.M) ∧ Sha.rounds (Sha.K.drop i) (W.drop i) [v0, v1, v2, v3, v4, v5, v6, v7] = Sha.rounds Sha.K W st

theorem RoundInv.step {st W : List Nat} {i v0 v1 v2 v3 v4 v5 v6 v7 kk ww T U : Nat} (h : RoundInv st W i v0 v1 v2 v3 v4 v5 v6 v7) (hi : i < 64) (hW : W.length = 64) (hk : Sha.K.getD i 0 = kk) (hw : W.getD i 0 = ww)
    (hT : T = (v7 + (Sha.rotr v4 6 ^^^ Sha.rotr v4 11 ^^^ Sha.rotr v4 25) + ((v4 &&& v5) ^^^ ((Sha.M - 1 - v4) &&& v6)) + kk + ww) % Sha.M)
    (hU : U = ((Sha.rotr v0 2 ^^^ Sha.rotr v0 13 ^^^ Sha.rotr v0 22) + ((v0 &&& v1) ^^^ (v0 &&& v2) ^^^ (v1 &&& v2))) % Sha.M) :
    RoundInv st W (i + 1) ((T + U) % Sha.M) v0 v1 v2 ((v3 + T) % Sha.M) v4 v5 v6 := by
  obtain ⟨⟨l0, l1, l2, l3, l4, l5, l6, l7⟩, hr⟩ := h
  refine ⟨⟨Sha.mod_lt _, l0, l1, l2, Sha.mod_lt _, l4, l5, l6⟩, ?_⟩
  rw [← hr]
  have hKl : i < Sha.K.length := hi
  have hWl : i < W.length := hW.symm ▸ hi
  have e1 : Sha.K.drop i = kk :: Sha.K.drop (i + 1) := by
    rw [List.drop_eq_getElem_cons hKl, ← hk, List.getD_eq_getElem?_getD, List.getElem?_eq_getElem hKl]; rfl
  have e2 : W.drop i = ww :: W.drop (i + 1) := by
    rw [List.drop_eq_getElem_cons hWl, ← hw, List.getD_eq_getElem?_getD, List.getElem?_eq_getElem hWl]; rfl
  have e3 : Sha.round [v0, v1, v2, v3, v4, v5, v6, v7] kk ww = [(T + U) % Sha.M, v0, v1, v2, (v3 + T) % Sha.M, v4, v5, v6] := by
    simp only [Sha.round, List.getD_cons_zero, List.getD_cons_succ]
    rw [← hT, ← hU]
  rw [e1, e2, Sha.rounds, e3]
theorem RoundInv.fin {st W : List Nat} {v0 v1 v2 v3 v4 v5 v6 v7 : Nat} (h : RoundInv st W 64 v0 v1 v2 v3 v4 v5 v6 v7) (hW : W.length = 64) : Sha.rounds Sha.K W st = [v0, v1, v2, v3, v4, v5, v6, v7] := by
  rw [← h.2, show Sha.K.drop 64 = [] from rfl]; rfl

/-- The state, the first j words of what was made added to it. -/
def addSt (st vs : List Nat) (j : Nat) : List Nat := (List.range 8).map fun i => if i < j then (st.getD i 0 + vs.getD i 0) % Sha.M else st.getD i 0
theorem addSt_length (st vs : List Nat) (j : Nat) : (addSt st vs j).length = 8 := by simp [addSt]
theorem addSt_get (st vs : List Nat) (j i : Nat) (h : i < 8) : (addSt st vs j).getD i 0 = if i < j then (st.getD i 0 + vs.getD i 0) % Sha.M else st.getD i 0 := by
  simp [addSt, List.getD_eq_getElem?_getD, List.getElem?_map, List.getElem?_range h]
theorem ext8 {a b : List Nat} (ha : a.length = 8) (hb : b.length = 8) (h : ∀ i, i < 8 → a.getD i 0 = b.getD i 0) : a = b := by
  apply List.ext_getElem (ha.trans hb.symm)
  intro i h1 h2
  have := h i (ha ▸ h1)
  simpa [List.getD_eq_getElem?_getD, h1, h2] using this
theorem addSt_zero {st : List Nat} (vs : List Nat) (h : st.length = 8) : addSt st vs 0 = st :=
  ext8 (addSt_length _ _ _) h fun i hi => by rw [addSt_get _ _ _ _ hi, if_neg (by omega)]
theorem addSt_fin {st vs : List Nat} (h : st.length = 8) (hv : vs.length = 8) : addSt st vs 8 = List.zipWith (fun x y => (x + y) % Sha.M) st vs :=
  ext8 (addSt_length _ _ _) (by simp [h, hv]) fun i hi => by
    rw [addSt_get _ _ _ _ hi, if_pos hi]
    simp [List.getD_eq_getElem?_getD, h, hv, hi]
theorem addSt_step (st vs : List Nat) {j : Nat} (hj : j < 8) : (addSt st vs j).set j ((st.getD j 0 + vs.getD j 0) % Sha.M) = addSt st vs (j + 1) :=
  ext8 (by simp [addSt_length]) (addSt_length _ _ _) fun i hi => by
    rw [addSt_get _ _ _ _ hi]
    by_cases hij : j = i
    · subst hij
      rw [if_pos (by omega)]
      simp [List.getD_eq_getElem?_getD, addSt_length, hj]
    · have h1 : ((addSt st vs j).set j ((st.getD j 0 + vs.getD j 0) % Sha.M)).getD i 0 = (addSt st vs j).getD i 0 := by
        simp [List.getD_eq_getElem?_getD, List.getElem?_set, hij]
      rw [h1, addSt_get _ _ _ _ hi]
      by_cases h : i < j
      · rw [if_pos h, if_pos (by omega)]
      · rw [if_neg h, if_neg (by omega)]
end Sac
/-
  SHA-256: the rotations, the first state, the constants.
-/
namespace Go.Proofs.YthefednendgclaaGreat
open Go Go.RowKit Sac

theorem rot_fin (x k r : Nat) (hx : x < Sha.M) (hr : r = 32 - k) (v : Int) (hv : v = bits BinOp.or IntKind.u32 ((x : Int) * 2 ^ r % 4294967296) ((x : Int) / 2 ^ k)) : Ending.returned (.int .u32 v) = .returned (.int .u32 ((Sha.rotr x k : Nat) : Int)) := by
  rw [hv, hr]
  have h1 : ((x : Int) * 2 ^ (32 - k) % 4294967296) = ((x * 2 ^ (32 - k) % Sha.M : Nat) : Int) := by rw [Int.natCast_emod, Int.natCast_mul, Int.natCast_pow]; rfl
  have h2 : ((x : Int) / 2 ^ k) = ((x / 2 ^ k : Nat) : Int) := by push_cast; rfl
  rw [h1, h2, Sha.b_or _ _ (Sha.mod_lt _) (Sha.div_lt hx _)]
  rfl

theorem rot2 (x : Nat) (w : World) (hx : x < 4294967296) : Calls Tryz.prog 163 #[.int .u32 (x : Int), .int .i64 (-2)] w fun e w' => e = .returned (.int .u32 ((Sha.rotr x 2 : Nat) : Int)) ∧ w' = w := by
  have hb : bits BinOp.and IntKind.u64 (IntKind.u64.wrap (-2)) 31 = 30 := by decide
  go_enter Tryz.func163, Tryz.ntmps163
  go_wp2_with fail
  go_ret
  exact ⟨rot_fin x 2 30 hx rfl _ (by simp), rfl⟩

theorem rot6 (x : Nat) (w : World) (hx : x < 4294967296) : Calls Tryz.prog 163 #[.int .u32 (x : Int), .int .i64 (-6)] w fun e w' => e = .returned (.int .u32 ((Sha.rotr x 6 : Nat) : Int)) ∧ w' = w := by
  have hb : bits BinOp.and IntKind.u64 (IntKind.u64.wrap (-6)) 31 = 26 := by decide
  go_enter Tryz.func163, Tryz.ntmps163
  go_wp2_with fail
  go_ret
  exact ⟨rot_fin x 6 26 hx rfl _ (by simp), rfl⟩

theorem rot7 (x : Nat) (w : World) (hx : x < 4294967296) : Calls Tryz.prog 163 #[.int .u32 (x : Int), .int .i64 (-7)] w fun e w' => e = .returned (.int .u32 ((Sha.rotr x 7 : Nat) : Int)) ∧ w' = w := by
  have hb : bits BinOp.and IntKind.u64 (IntKind.u64.wrap (-7)) 31 = 25 := by decide
  go_enter Tryz.func163, Tryz.ntmps163
  go_wp2_with fail
  go_ret
  exact ⟨rot_fin x 7 25 hx rfl _ (by simp), rfl⟩

theorem rot11 (x : Nat) (w : World) (hx : x < 4294967296) : Calls Tryz.prog 163 #[.int .u32 (x : Int), .int .i64 (-11)] w fun e w' => e = .returned (.int .u32 ((Sha.rotr x 11 : Nat) : Int)) ∧ w' = w := by
  have hb : bits BinOp.and IntKind.u64 (IntKind.u64.wrap (-11)) 31 = 21 := by decide
  go_enter Tryz.func163, Tryz.ntmps163
  go_wp2_with fail
  go_ret
  exact ⟨rot_fin x 11 21 hx rfl _ (by simp), rfl⟩

theorem rot13 (x : Nat) (w : World) (hx : x < 4294967296) : Calls Tryz.prog 163 #[.int .u32 (x : Int), .int .i64 (-13)] w fun e w' => e = .returned (.int .u32 ((Sha.rotr x 13 : Nat) : Int)) ∧ w' = w := by
  have hb : bits BinOp.and IntKind.u64 (IntKind.u64.wrap (-13)) 31 = 19 := by decide
  go_enter Tryz.func163, Tryz.ntmps163
  go_wp2_with fail
  go_ret
  exact ⟨rot_fin x 13 19 hx rfl _ (by simp), rfl⟩

theorem rot17 (x : Nat) (w : World) (hx : x < 4294967296) : Calls Tryz.prog 163 #[.int .u32 (x : Int), .int .i64 (-17)] w fun e w' => e = .returned (.int .u32 ((Sha.rotr x 17 : Nat) : Int)) ∧ w' = w := by
  have hb : bits BinOp.and IntKind.u64 (IntKind.u64.wrap (-17)) 31 = 15 := by decide
  go_enter Tryz.func163, Tryz.ntmps163
  go_wp2_with fail
  go_ret
  exact ⟨rot_fin x 17 15 hx rfl _ (by simp), rfl⟩

theorem rot18 (x : Nat) (w : World) (hx : x < 4294967296) : Calls Tryz.prog 163 #[.int .u32 (x : Int), .int .i64 (-18)] w fun e w' => e = .returned (.int .u32 ((Sha.rotr x 18 : Nat) : Int)) ∧ w' = w := by
  have hb : bits BinOp.and IntKind.u64 (IntKind.u64.wrap (-18)) 31 = 14 := by decide
  go_enter Tryz.func163, Tryz.ntmps163
  go_wp2_with fail
  go_ret
  exact ⟨rot_fin x 18 14 hx rfl _ (by simp), rfl⟩

theorem rot19 (x : Nat) (w : World) (hx : x < 4294967296) : Calls Tryz.prog 163 #[.int .u32 (x : Int), .int .i64 (-19)] w fun e w' => e = .returned (.int .u32 ((Sha.rotr x 19 : Nat) : Int)) ∧ w' = w := by
  have hb : bits BinOp.and IntKind.u64 (IntKind.u64.wrap (-19)) 31 = 13 := by decide
  go_enter Tryz.func163, Tryz.ntmps163
  go_wp2_with fail
  go_ret
  exact ⟨rot_fin x 19 13 hx rfl _ (by simp), rfl⟩

theorem rot22 (x : Nat) (w : World) (hx : x < 4294967296) : Calls Tryz.prog 163 #[.int .u32 (x : Int), .int .i64 (-22)] w fun e w' => e = .returned (.int .u32 ((Sha.rotr x 22 : Nat) : Int)) ∧ w' = w := by
  have hb : bits BinOp.and IntKind.u64 (IntKind.u64.wrap (-22)) 31 = 10 := by decide
  go_enter Tryz.func163, Tryz.ntmps163
  go_wp2_with fail
  go_ret
  exact ⟨rot_fin x 22 10 hx rfl _ (by simp), rfl⟩

theorem rot25 (x : Nat) (w : World) (hx : x < 4294967296) : Calls Tryz.prog 163 #[.int .u32 (x : Int), .int .i64 (-25)] w fun e w' => e = .returned (.int .u32 ((Sha.rotr x 25 : Nat) : Int)) ∧ w' = w := by
  have hb : bits BinOp.and IntKind.u64 (IntKind.u64.wrap (-25)) 31 = 7 := by decide
  go_enter Tryz.func163, Tryz.ntmps163
  go_wp2_with fail
  go_ret
  exact ⟨rot_fin x 25 7 hx rfl _ (by simp), rfl⟩


/-- An array of words as cells. -/
def w32 (x : Nat) : Value := .int .u32 (x : Int)

theorem setRow_alloc (w : World) (cs cs' : Array Value) (e : TypeId) : (w.alloc (.cells cs e)).setRow w.heap.size cs' = w.alloc (.cells cs' e) := by
  have h : (w.heap.push (Obj.cells cs e)).modify w.heap.size (fun x => match x with | .cells _ elem frozen => .cells cs' elem frozen | o => o) = w.heap.push (Obj.cells cs' e) := by
    apply Array.ext
    · simp
    · intro i h1 h2
      rw [Array.getElem_modify]
      by_cases hi : w.heap.size = i
      · subst hi
        simp
      · have hlt : i < w.heap.size := by simp at h2; omega
        simp [hi, Array.getElem_push, hlt]
  exact congrArg (fun hp => ({ w with heap := hp } : World)) h

set_option maxRecDepth 100000 in
set_option maxHeartbeats 1000000 in
theorem first_any (w : World) : Calls Tryz.prog 160 #[] w fun e w' => e = .returned (.agg (Sha.H0.map w32).toArray) ∧ Below w.heap.size w w' := by
  go_enter Tryz.func160, Tryz.ntmps160
  go_wp2_with fail
  refine bodyPost_ret (results_cell_row rfl _ _ w.heap.size 216 (Sha.H0.map w32).toArray (0, 0) _ rfl ?_ Tryz.underlying216 rfl (by kernel_rfl)) rfl ⟨rfl, (Below.refl _ _).alloc (Nat.le_refl _) _⟩
  exact Blk.new w (Sha.H0.map w32) _

set_option maxRecDepth 100000 in
set_option maxHeartbeats 1000000 in
theorem constants_any (w : World) : Calls Tryz.prog 164 #[] w fun e w' => e = .returned (.agg (Sha.K.map w32).toArray) ∧ Below w.heap.size w w' := by
  go_enter Tryz.func164, Tryz.ntmps164
  go_wp2_with (first
    | (with_reducible refine wpList_build rfl 221 _ rfl (by kernel_rfl) ?_
       generalize hE : Option.getD (Program.built _ _ _) #[] = E
       obtain rfl : E = (List.map w32 Sha.K).toArray := hE.symm.trans (by kernel_rfl)
       clear hE)
    | (refine wpList_store_row rfl 221 _ _ rfl w.heap.size (List.map w32 Sha.K).toArray rfl rfl 221 _ (Blk.new w _ _) (by kernel_rfl) (by kernel_rfl) (by kernel_rfl) ?_))
  rw [setRow_alloc]
  refine bodyPost_ret (results_cell_row rfl _ _ w.heap.size 221 (Sha.K.map w32).toArray (0, 0) _ rfl ?_ Tryz.underlying221 rfl (by kernel_rfl)) rfl ⟨rfl, (Below.refl _ _).alloc (Nat.le_refl _) _⟩
  exact Blk.new w (Sha.K.map w32) _
end Go.Proofs.YthefednendgclaaGreat
