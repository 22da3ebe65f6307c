/-
  The numbers' own functions: small.
-/
import Derived.Test.YthefednendgclaaGreatNatB
set_option linter.unusedVariables false
set_option linter.unusedSimpArgs false
namespace Go.Proofs.YthefednendgclaaGreat
open Go Go.RowKit Go.Shelf Sac

attribute [local go_sem] Oper.semAt_some

/-- make([]T, n) of elements of one cell, inside a fence. -/
theorem wpListIn_make_blk {F : Fence} {f : Nat} {P : Program} (w : World) {ops : Array Oper} {rest : List Oper} {o : Oper} {a : Act} {Q : Exit → Act → World → Prop}
    (hg : o.guard = none) (l c : Operand) (t : TypeId) (hop : o.op = Op.makeSlice t l c)
    (e : TypeId) (z : Value) (bytes : Nat) (h1 : P.underlying t = some (.slice e)) (h2 : (P.info? e).map (fun i => (i.zero, i.size, i.bytes)) = some (some z, 1, bytes)) (hz : z.cells = #[z])
    (kl kc : IntKind) (L C : Int) (n : Nat) (hl : a.eval l = .int kl L) (hc : a.eval c = .int kc C) (hL : L = (n : Int)) (hC : C = (n : Int)) (b2 : bytes * n ≤ 281474976710656) (b3 : n ≤ maxLen)
    (hK : ∀ w', Blk w' w.heap.size e (List.replicate n z) → Below w.heap.size w w' → wpListIn F f P ops Q rest (a.put o.dst (.slice (some ⟨w.heap.size, 0, none⟩) n n)) w') :
    wpListIn F f P ops Q (o :: rest) a w := by
  obtain ⟨i, hi, hz1, hz2, hz3⟩ := info_parts h2
  refine wpListIn_plain hg fun K hK' => ?_
  obtain ⟨w', hrun, hown, hgr⟩ := run_make_full (P := P) w w.heap.size t e i z 1 h1 hi hz1 hz2 kl kc n (by rw [hz3]; exact b2) b3 (Nat.le_refl _)
  subst hL
  subst hC
  unfold Oper.wpIn
  refine ⟨?_, ?_⟩
  · simp [Oper.about, hop]
  · rw [Oper.semAt_plain F _ _ (by rw [hop]; intro c hc'; cases hc')]
    simp [execOp, hop, hl, hc, hrun, Result.andThen]
    refine hK' _ _ (hK w' ?_ ⟨hgr.os, hgr.tape, hgr.output, hgr.size, fun k hk => hgr.block k hk (by simp)⟩)
    obtain ⟨hx, ⟨hv, _⟩ | ⟨g, cap, rest, hv, _, hB, hnc, _, hlr⟩⟩ := own_elim hown
    · cases hv
    · have hg : g = w.heap.size := by injection hv with h; injection h with h; injection h with h; exact h.symm
      have hcap : cap = n := by injection hv with _ _ h; exact h.symm
      subst hg
      subst hcap
      have : rest = [] := by
        rw [List.length_append, hx] at hlr
        exact List.eq_nil_of_length_eq_zero (by omega)
      subst this
      rw [List.append_nil] at hB
      have e1 : (madeCells z.cells (cap * 1)).toList = List.replicate cap z := by
        rw [hz, Nat.mul_one]
        exact toList_madeCells_one z cap
      rwa [e1] at hB

/-- What is left, and the row, after the places that were seen. -/
def smStep (l : List Nat) (d : Nat) (s : Nat × List Nat) (j : Nat) : Nat × List Nat := ((s.1 * W + l.getD j 0) % d, s.2.set j ((s.1 * W + l.getD j 0) / d))
def smSt (l : List Nat) (d : Nat) (js : List Nat) : Nat × List Nat := js.foldl (smStep l d) (0, List.replicate l.length 0)
theorem smSt_snoc (l : List Nat) (d : Nat) (js : List Nat) (j : Nat) : smSt l d (js ++ [j]) = smStep l d (smSt l d js) j := by simp [smSt, List.foldl_append]
theorem smSt_lt (l : List Nat) {d : Nat} (hd : 0 < d) (js : List Nat) : (smSt l d js).1 < d := by
  refine snoc_induction (p := fun js => (smSt l d js).1 < d) hd (fun a x _ => ?_) js
  rw [smSt_snoc]
  exact Nat.mod_lt _ hd
theorem smSt_length (l : List Nat) (d : Nat) (js : List Nat) : (smSt l d js).2.length = l.length := by
  refine snoc_induction (p := fun js => (smSt l d js).2.length = l.length) (by simp [smSt]) (fun a x ih => ?_) js
  rw [smSt_snoc]
  simpa [smStep] using ih
theorem sm_room {l : List Nat} (hl : Words l) {d r j : Nat} (hdw : d < 4294967296) (hr : r < d) : (r * W + l.getD j 0) / d < W := by
  have := words_get hl j
  apply Nat.div_lt_of_lt_mul
  have h1 : (r + 1) * W ≤ d * W := Nat.mul_le_mul_right _ hr
  rw [Nat.add_mul] at h1
  omega
theorem smSt_words {l : List Nat} (hl : Words l) {d : Nat} (hd : 0 < d) (hdw : d < 4294967296) (js : List Nat) : Words (smSt l d js).2 := by
  refine snoc_induction (p := fun js => Words (smSt l d js).2) (words_replicate _) (fun a x ih => ?_) js
  rw [smSt_snoc]
  exact words_set ih _ _ (sm_room hl hdw (smSt_lt l hd a))

theorem smSt_dn {l : List Nat} {d : Nat} (hd : 0 < d) : ∀ k, k ≤ l.length → ∃ q : List Nat, (smSt l d (dn l.length k)).2 = List.replicate (l.length - k) 0 ++ q ∧ q.length = k ∧ val q * d + (smSt l d (dn l.length k)).1 = val (l.drop (l.length - k))
  | 0, _ => ⟨[], by simp [smSt, dn], rfl, by simp [smSt, dn]⟩
  | k + 1, hk => by
    obtain ⟨q, h1, h2, h3⟩ := smSt_dn (l := l) hd k (by omega)
    obtain ⟨j, hj⟩ : ∃ j, l.length - k = j + 1 := ⟨l.length - k - 1, by omega⟩
    have hj2 : l.length - (k + 1) = j := by omega
    have hj3 : l.length - 1 - k = j := by omega
    rw [dn_succ, smSt_snoc, hj3, hj2]
    rw [hj] at h1 h3
    obtain ⟨t, ht⟩ : ∃ t, t = (smSt l d (dn l.length k)).1 * W + l.getD j 0 := ⟨_, rfl⟩
    refine ⟨t / d :: q, ?_, by simp [h2], ?_⟩
    · show (smSt l d (dn l.length k)).2.set j _ = _
      rw [h1, ← ht, List.replicate_succ', List.append_assoc, List.set_append_right _ _ (by simp)]
      simp
    · show val (t / d :: q) * d + ((smSt l d (dn l.length k)).1 * W + l.getD j 0) % d = _
      have e : val (l.drop j) = l.getD j 0 + W * val (l.drop (j + 1)) := by
        rw [List.drop_eq_getElem_cons (by omega), val_cons]
        simp [show j < l.length by omega]
      rw [← ht, val_cons, e, ← h3, Nat.add_mul]
      have h4 := Nat.div_add_mod t d
      rw [Nat.mul_comm] at h4
      have h5 : W * val q * d = W * (val q * d) := Nat.mul_assoc _ _ _
      rw [Nat.mul_add, h5]
      have h6 : W * (smSt l d (dn l.length k)).1 = (smSt l d (dn l.length k)).1 * W := Nat.mul_comm _ _
      omega

theorem smSt_fin {l : List Nat} {d : Nat} (hd : 0 < d) : val (smSt l d (dn l.length l.length)).2 = val l / d ∧ (smSt l d (dn l.length l.length)).1 = val l % d := by
  obtain ⟨q, h1, h2, h3⟩ := smSt_dn (l := l) hd l.length (Nat.le_refl _)
  rw [Nat.sub_self] at h1 h3
  simp only [List.replicate_zero, List.nil_append, List.drop_zero] at h1 h3
  have hr := smSt_lt l hd (dn l.length l.length)
  rw [h1, ← h3]
  constructor
  · rw [Nat.mul_comm, Nat.mul_add_div hd, Nat.div_eq_of_lt hr, Nat.add_zero]
  · rw [Nat.mul_comm, Nat.mul_add_mod, Nat.mod_eq_of_lt hr]

theorem blk_kept {A B : World} {row : Option Nat} {k : Nat} {e : TypeId} {cs : List Value} (h : Blk A k e cs) (hg : A.grownBy B row) (hr : ∀ r, row = some r → ∃ o : Obj, A.heap[r]? = some o ∧ o.isCells = false) : Blk B k e cs :=
  h.same (grownBy_keeps_cells hg hr h rfl)

theorem NatAt.kept {A B : World} {row : Option Nat} {a : Option Addr} {len n : Nat} (h : NatAt A a len n) (hg : A.grownBy B row) (hr : ∀ r, row = some r → ∃ o : Obj, A.heap[r]? = some o ∧ o.isCells = false) : NatAt B a len n := by
  obtain ⟨l, h1, h2, h3, h4, h5⟩ := h
  exact ⟨l, h1, h2, h3, h4, h5.same fun k hk => by obtain ⟨cs, fr, hk⟩ := hk; exact grownBy_keeps_cells hg hr hk rfl⟩
theorem results_nat_nat {fn : Func} {p t : Tmp} {tmps : Array Value} {w : World} {g g' : Nat} {s s' : Value} (h : fn.results = #[.cell p 36, .cell t 36]) (hp : tmps.getD p undef = .pointer (some ⟨g, 0, none⟩)) (ht : tmps.getD t undef = .pointer (some ⟨g', 0, none⟩))
    (hB : Blk w g 36 [s]) (hB' : Blk w g' 36 [s']) : (results fn tmps).run Tryz.prog w = .ok (.tuple #[.agg #[s], .agg #[s']]) w := by
  have hl := run_loadVar_row (P := Tryz.prog) (ty := 36) w g 36 #[s] (0, 0) _ hB Tryz.underlying36 rfl (by kernel_rfl)
  have hl' := run_loadVar_row (P := Tryz.prog) (ty := 36) w g' 36 #[s'] (0, 0) _ hB' Tryz.underlying36 rfl (by kernel_rfl)
  have hp' : tmps[p]?.getD undef = .pointer (some ⟨g, 0, none⟩) := by simpa using hp
  have ht' : tmps[t]?.getD undef = .pointer (some ⟨g', 0, none⟩) := by simpa using ht
  simp [results, h, hp', ht', asAddr, hl, hl', Sem.run_bind, Result.andThen]

set_option maxRecDepth 100000 in
set_option maxHeartbeats 2000000 in
theorem small_any (a : Option Addr) (len cap n d : Nat) (w : World) (hn : NatAt w a len n) (hlen : (len : Int) ≤ 100000) (hd : 0 < d) (hdw : d < 4294967296) :
    Calls Tryz.prog 105 #[.agg #[.slice a len cap], .int .u32 (d : Int)] w fun e w' => ∃ ra rl rc sa sl sc, e = .returned (.tuple #[.agg #[.slice ra rl rc], .agg #[.slice sa sl sc]]) ∧
      NatAt w' ra rl (n / d) ∧ NatAt w' sa sl (n % d) ∧ Below w.heap.size w w' := by
  obtain ⟨l, rfl, hl, hlt, rfl, hra⟩ := hn
  have HRA := Lib.hid hra
  have HL := Lib.hid hl
  clear hra hl hlt
  refine (callsIn_wide (n := 3)).1 ?_
  refine callsIn_of_wp_marks Tryz.func105 rfl trivial ?_ rfl
  simp only [Tryz.ntmps105, List.size_toArray, List.length_cons, List.length_nil, Nat.reduceAdd, Nat.reduceSub, Array.replicate_succ, Array.replicate_zero, List.push_toArray, List.append_toArray, List.nil_append, List.cons_append]
  gi_wp2_with (refine wpListIn_make_blk _ rfl _ _ _ rfl 106 (.int .u32 0) 4 Tryz.underlying34 Tryz.infoW rfl _ _ _ _ l.length rfl rfl rfl rfl (by omega) (by unfold maxLen; omega) ?_)
  intro w2 hB2 hb2
  obtain ⟨s, hs⟩ : ∃ s, s = w.heap.size := ⟨_, rfl⟩
  obtain ⟨W1, hW1⟩ : ∃ W1, ((((w.alloc (Obj.cells #[Value.slice a l.length cap] 36)).alloc (Obj.cells #[Value.int IntKind.u32 d] 106)).alloc (Obj.cells #[Value.slice none 0 0] 36)).alloc (Obj.cells #[Value.slice none 0 0] 36)) = W1 := ⟨_, rfl⟩
  have hsz : W1.heap.size = s + 4 := by rw [← hW1, hs]; simp
  have hB0 : Below s w W1 := by
    rw [← hW1, hs]
    exact ((((Below.refl _ w).alloc (Nat.le_refl _) _).alloc (by simp) _).alloc (by simp; omega) _).alloc (by simp; omega) _
  have bA : Blk W1 s 36 [.slice a l.length cap] := by
    have := Blk.new w [Value.slice a l.length cap] 36
    rw [← hs] at this
    rw [← hW1]; exact ((this.alloc _).alloc _).alloc _
  have bD : Blk W1 (s + 1) 106 [.int .u32 d] := by
    have := Blk.new' (w.alloc (Obj.cells #[Value.slice a l.length cap] 36)) [.int .u32 d] 106 (s + 1) (by simp [hs])
    rw [← hW1]; exact (this.alloc _).alloc _
  have b2 : Blk W1 (s + 1 + 1) 36 [.slice none 0 0] := by
    have := Blk.new' ((w.alloc (Obj.cells #[Value.slice a l.length cap] 36)).alloc (Obj.cells #[Value.int IntKind.u32 d] 106)) [.slice none 0 0] 36 (s + 1 + 1) (by simp [hs])
    rw [← hW1]; exact this.alloc _
  have b3 : Blk W1 (s + 1 + 1 + 1) 36 [.slice none 0 0] := by
    have := Blk.new' (((w.alloc (Obj.cells #[Value.slice a l.length cap] 36)).alloc (Obj.cells #[Value.int IntKind.u32 d] 106)).alloc (Obj.cells #[Value.slice none 0 0] 36)) [.slice none 0 0] 36 (s + 1 + 1 + 1) (by simp [hs])
    rw [← hW1]; exact this
  have hb2 : Below (s + 1 + 1 + 1 + 1) W1 w2 := by rw [← hW1, hs]; simpa using hb2
  rw [← hs] at hB2 ⊢
  have HS := Lib.hid hs
  have hsz2 : s + 5 ≤ w2.heap.size := hB2.lt
  have hB0 := hB0.trans (hb2.mono (by omega))
  have bA := bA.below hb2 (by omega)
  have bD := bD.below hb2 (by omega)
  have b2 := b2.below hb2 (by omega)
  have b3 := b3.below hb2 (by omega)
  clear hW1 hsz hb2 hs
  have ca : ∀ o1 o2, ((w2.alloc o1).alloc o2).cell? ⟨s, 0, none⟩ = some (.slice a l.length cap) := fun o1 o2 => ((bA.alloc o1).alloc o2).cell 0
  gi_wp2_with fail
  refine ⟨trivial, (backward_in Fence.wide 2 trivial rfl _ _ _ _).mono ?_⟩
  rintro e w' ⟨rfl, rfl⟩
  gi_wp2_with fail
  obtain ⟨h, hh⟩ : ∃ h, h = w2.heap.size := ⟨_, rfl⟩
  obtain ⟨W0, hW0⟩ : ∃ W0, ((w2.alloc (Obj.cells #[Value.slice (some ⟨s + 1 + 1 + 1 + 1, 0, none⟩) l.length l.length] 34)).alloc (Obj.cells #[Value.int IntKind.u64 0] 23)).alloc (Obj.cells #[Value.slice a l.length cap] 34) = W0 := ⟨_, rfl⟩
  have hsz0 : W0.heap.size = h + 3 := by rw [← hW0, hh]; simp
  have bO : Blk W0 h 34 [.slice (some ⟨s + 1 + 1 + 1 + 1, 0, none⟩) l.length l.length] := by
    rw [← hW0]; exact ((Blk.new' w2 [.slice (some ⟨s + 1 + 1 + 1 + 1, 0, none⟩) l.length l.length] 34 h hh).alloc _).alloc _
  have bR : Blk W0 (h + 1) 23 [.int .u64 0] := by
    rw [← hW0]; exact (Blk.new' _ [.int .u64 0] 23 (h + 1) (by simp [hh])).alloc _
  have bS : Blk W0 (h + 1 + 1) 34 [.slice a l.length cap] := by
    rw [← hW0]; exact Blk.new' _ [.slice a l.length cap] 34 (h + 1 + 1) (by simp [hh])
  have bG : Blk W0 (s + 1 + 1 + 1 + 1) 106 (List.replicate l.length (.int .u32 0)) := by rw [← hW0]; exact ((hB2.alloc _).alloc _).alloc _
  have bD : Blk W0 (s + 1) 106 [.int .u32 d] := by rw [← hW0]; exact ((bD.alloc _).alloc _).alloc _
  have b2 : Blk W0 (s + 1 + 1) 36 [.slice none 0 0] := by rw [← hW0]; exact ((b2.alloc _).alloc _).alloc _
  have b3 : Blk W0 (s + 1 + 1 + 1) 36 [.slice none 0 0] := by rw [← hW0]; exact ((b3.alloc _).alloc _).alloc _
  have hB0 : Below s w W0 := by rw [← hW0]; exact ((hB0.alloc (by omega) _).alloc (by simp; omega) _).alloc (by simp; omega) _
  rw [hW0]
  rw [← hh]
  have hsh : s + 5 ≤ h := hh ▸ hsz2
  clear hW0 hh hB2 hsz2
  obtain ⟨g, hg⟩ : ∃ g, g = s + 1 + 1 + 1 + 1 := ⟨_, rfl⟩
  rw [← hg] at bG bO ⊢
  have HG := Lib.hid hg
  have HH := Lib.hid hsh
  clear ca bA hb2
  refine wpIn_rangeFunc_ownG rfl (by decide) (gf := 116) (lb := #[.pointer (some ⟨h + 1 + 1, 0, none⟩)]) rfl trivial (enters_of Tryz.func116 (by kernel_rfl) rfl)
    (backward_stops Fence.wide 2 trivial rfl (by omega) (h + 1 + 1) s a cap l hlen W0 (by omega) (by omega) (bS.cell 0) (HRA.out.below (HS.out ▸ hB0)) (fun ad h0 h1 => by
      obtain ⟨ad', e1, e2, _⟩ := HRA.out.at_ (k := 0) (by rw [List.length_map]; exact h1)
      rw [h0] at e1; cases e1; rw [HS.out]; exact e2.lt) HL.out) KB.t (KB.b (by omega) (by omega)) (Below.refl _ _) (fun _ => rfl)
    (fun pre W => (Blk W (h + 1) 23 [.int .u64 ((smSt l d (pre.map (·.1))).1 : Nat)] ∧ Blk W g 106 ((smSt l d (pre.map (·.1))).2.map wd) ∧ Blk W h 34 [.slice (some ⟨g, 0, none⟩) l.length l.length] ∧
      Blk W (s + 1) 106 [.int .u32 d] ∧ Blk W (s + 1 + 1) 36 [.slice none 0 0] ∧ Blk W (s + 1 + 1 + 1) 36 [.slice none 0 0]) ∧ Below s w W)
    (fun c pre W => False)
    (OwnFrom.and (Own.from (fun q A B row hq hg hr => ⟨blk_kept hq.1 hg hr, blk_kept hq.2.1 hg hr, blk_kept hq.2.2.1 hg hr, blk_kept hq.2.2.2.1 hg hr, blk_kept hq.2.2.2.2.1 hg hr, blk_kept hq.2.2.2.2.2 hg hr⟩) _) (ownFrom_below (by rw [HS.out]; exact Nat.le_refl _) (by omega)))
    (fun c q A B row hq _ _ => hq.elim)
    ⟨⟨bR, by simpa [smSt, List.map_replicate, wd] using bG, bO, bD, b2, b3⟩, hB0⟩
    (fun x => { tmps := #[.agg #[.slice a l.length cap], .int .u32 d, .pointer (some ⟨s, 0, none⟩), .pointer (some ⟨s + 1, 0, none⟩), .pointer (some ⟨s + 1 + 1, 0, none⟩), .pointer (some ⟨s + 1 + 1 + 1, 0, none⟩), .pointer (some ⟨h, 0, none⟩), .pointer (some ⟨h + 1, 0, none⟩),
      .int .i64 (x.1 : Int), wd (l.getD x.1 0), .pointer (some ⟨s, 0, none⟩), .slice a l.length cap, .int .i64 l.length, .slice (some ⟨g, 0, none⟩) l.length l.length, .pointer (some ⟨s, 0, none⟩), .slice a l.length cap, .func (.func 116) #[] #[.pointer (some ⟨h + 1 + 1, 0, none⟩)],
      .int .i64 (x.1 : Int), wd (l.getD x.1 0), undef, undef, undef, undef, undef, undef, undef, undef, undef, undef, undef, undef, undef, undef, undef, undef, undef, undef, undef, undef, undef], defers := [] }) ?assign ?body ?done ?stop
  case assign =>
    have hg := HG.out
    subst hg
    intro lp x Wd K hK
    gi_wp2
    simpa [List.getD_eq_getElem?_getD] using hK
  case body =>
    rintro q pre x Wd ⟨⟨i1, i2, i3, i4, i5, i6⟩, hB⟩ _
    clear hg bO bG bR bS bD b2 b3 hB0
    obtain ⟨xv, hxv⟩ : ∃ xv, l.getD x.1 0 = xv := ⟨_, rfl⟩
    have hxw : xv < 4294967296 := by rw [← hxv]; exact words_get HL.out _
    have hst := smSt_snoc l d (pre.map (·.1)) x.1
    have hrm := sm_room HL.out (j := x.1) hdw (smSt_lt l hd (pre.map (·.1)))
    have hrl := smSt_lt l hd (pre.map (·.1))
    have hol := smSt_length l d (pre.map (·.1))
    unfold smStep at hst
    rw [hxv] at hst hrm
    generalize smSt l d (pre.map (·.1)) = st at i1 i2 hst hrm hrl hol
    obtain ⟨r, O⟩ := st
    simp only at i1 i2 hst hrm hrl hol
    unfold wd
    rw [hxv]
    have hxl := x.2
    have hxi : ((x.1 : Nat) : Int) < (l.length : Int) := by omega
    have hor := or_top (a := r) (b := xv) (by omega) hxw
    obtain ⟨t, ht⟩ : ∃ t, t = r * 4294967296 + xv := ⟨_, rfl⟩
    have ht2 : r * W + xv = t := ht.symm
    rw [← ht] at hor
    rw [ht2] at hst hrm
    have htl : t < 18446744073709551616 := by omega
    have hrl2 : (r : Int) < 4294967296 := by omega
    obtain ⟨td, htd⟩ : ∃ td, td = t / d := ⟨_, rfl⟩
    obtain ⟨tm, htm⟩ : ∃ tm, tm = t % d := ⟨_, rfl⟩
    have htd3 : (t : Int) / (d : Int) = (td : Int) := by rw [htd]; push_cast; rfl
    have htm3 : (t : Int) % (d : Int) = (tm : Int) := by rw [htm]; push_cast; rfl
    have htd4 : td < 4294967296 := by rw [htd]; exact hrm
    rw [← htd, ← htm] at hst
    have HTM : Hid (tm < d) := by rw [htm]; exact Nat.mod_lt _ hd
    have hd0 : ((d : Int) == 0) = false := by rw [beq_eq_false_iff_ne]; omega
    have hd1 : (d : Int) ≠ 0 := by omega
    have hd2 : d ≠ 0 := by omega
    have hd3 : (0 : Int) < d := by omega
    have htdl : td ≤ t := by rw [htd]; exact Nat.div_le_self _ _
    have c1 := i1.cell 0
    have f1 := i1.frozen 0
    have c3 := i3.cell 0
    have c4 := i4.cell 0
    have c2 : ∃ y, Wd.cell? ⟨g, x.1, none⟩ = some y := ⟨_, row_cell i2 (by rw [hol]; exact hxl)⟩
    obtain ⟨y0, c2⟩ := c2
    have f2 := i2.frozen x.1
    simp only [List.getElem?_cons_zero] at c1 c3 c4
    have HST := Lib.hid hst
    have HOL := Lib.hid hol
    have HB := Lib.hid hB
    have H1 := Lib.hid i1
    have H2 := Lib.hid i2
    have H3 := Lib.hid i3
    have H4 := Lib.hid i4
    have H5 := Lib.hid i5
    have H6 := Lib.hid i6
    have hgl := HG.out
    have hgs : g < h := by omega
    have hne1 : s + 1 ≠ h + 1 := by omega
    have hne2 : s + 1 ≠ g := by omega
    have hne3 : g ≠ h + 1 := by omega
    have hne4 : h ≠ g := by omega
    clear hgl hst hB i1 i2 i3 i4 i5 i6 hxv ht ht2 htd htm hrm hol
    gi_wp2_with fail
    rename_i Kc hKc
    obtain ⟨j, hj⟩ := x
    simp only at *
    have H1 := Lib.hid (H1.out.set 0 (.int .u64 (t : Int)))
    have H2 := Lib.hid (H2.out.other ⟨h + 1, 0, none⟩ (.int .u64 (t : Int)) hne3)
    have H3 := Lib.hid (H3.out.other ⟨h + 1, 0, none⟩ (.int .u64 (t : Int)) (by show h ≠ h + 1; omega))
    have H4 := Lib.hid (H4.out.other ⟨h + 1, 0, none⟩ (.int .u64 (t : Int)) hne1)
    have H5 := Lib.hid (H5.out.other ⟨h + 1, 0, none⟩ (.int .u64 (t : Int)) (by show s + 1 + 1 ≠ h + 1; omega))
    have H6 := Lib.hid (H6.out.other ⟨h + 1, 0, none⟩ (.int .u64 (t : Int)) (by show s + 1 + 1 + 1 ≠ h + 1; omega))
    have HKP : Hid (KeepsFrom W0.heap.size Wd (Wd.setCell ⟨h + 1, 0, none⟩ (.int .u64 (t : Int))) ∧ KB s (h + 1 + 1) Wd (Wd.setCell ⟨h + 1, 0, none⟩ (.int .u64 (t : Int))) ∧ Below s w (Wd.setCell ⟨h + 1, 0, none⟩ (.int .u64 (t : Int)))) :=
      ⟨(KeepsOthers.setCell _ _ _).from _, ⟨(Below.refl _ _).setCell (p := ⟨h + 1, 0, none⟩) (by show s ≤ h + 1; omega) _, heap_setCell_other _ _ _ _ (by show h + 1 + 1 ≠ h + 1; omega)⟩, HB.out.setCell (p := ⟨h + 1, 0, none⟩) (by show s ≤ h + 1; omega) _⟩
    generalize Wd.setCell ⟨h + 1, 0, none⟩ (.int .u64 (t : Int)) = Wd1 at H1 H2 H3 H4 H5 H6 HKP ⊢
    clear c1 f1 c3 c4 c2 f2
    have c1 := H1.out.cell 0
    have f1 := H1.out.frozen 0
    have c3 := H3.out.cell 0
    have c4 := H4.out.cell 0
    have c2 : ∃ y, Wd1.cell? ⟨g, j, none⟩ = some y := ⟨_, row_cell H2.out (k := j) (by have := HOL.out; omega)⟩
    obtain ⟨y1, c2⟩ := c2
    have f2 := H2.out.frozen j
    simp only [List.set_cons_zero, List.getElem?_cons_zero] at c1 c3 c4
    clear HB
    have wd1 : IntKind.u64.wrap (d : Int) = (d : Int) := wraps_u64 _ (by omega) (by omega)
    have wd2 : IntKind.u64.wrap (td : Int) = (td : Int) := wraps_u64 _ (by omega) (by omega)
    have wd3 : IntKind.u32.wrap (td : Int) = (td : Int) := wraps_u32 _ (by omega) (by omega)
    have wd4 : IntKind.u64.wrap (tm : Int) = (tm : Int) := wraps_u64 _ (by omega) (by have := HTM.out; omega)
    have hk : Kc { tmps := #[.agg #[.slice a l.length cap], .int .u32 d, .pointer (some ⟨s, 0, none⟩), .pointer (some ⟨s + 1, 0, none⟩), .pointer (some ⟨s + 1 + 1, 0, none⟩), .pointer (some ⟨s + 1 + 1 + 1, 0, none⟩), .pointer (some ⟨h, 0, none⟩), .pointer (some ⟨h + 1, 0, none⟩),
        .int .i64 (j : Int), .int .u32 (xv : Int), .pointer (some ⟨s, 0, none⟩), .slice a l.length cap, .int .i64 l.length, .slice (some ⟨g, 0, none⟩) l.length l.length, .pointer (some ⟨s, 0, none⟩), .slice a l.length cap, .func (.func 116) #[] #[.pointer (some ⟨h + 1 + 1, 0, none⟩)],
        .int .i64 (j : Int), .int .u32 (xv : Int), .int .u64 (r : Int), .int .u64 ((r : Int) * 4294967296), .int .u32 (xv : Int), .int .u64 (xv : Int), .int .u64 (t : Int), .slice (some ⟨g, 0, none⟩) l.length l.length, .int .i64 (j : Int), .int .u64 (t : Int), .int .u32 (d : Int), .int .u64 (d : Int),
        .int .u64 (td : Int), .int .u32 (td : Int), .pointer (some ⟨g, j, none⟩), undef, undef, undef, undef, undef, undef, undef, undef], defers := [] } (Wd1.setCell ⟨g, j, none⟩ (Value.int .u32 (td : Int))).drew := by
      refine hKc _ _ ?_
      clear hKc
      gi_wp2_with fail
      have e1 : smSt l d (List.map (fun x : Pl l.length => x.val) (pre ++ [⟨j, hj⟩])) = (tm, O.set j td) := by rw [List.map_append]; exact HST.out
      obtain ⟨k1, k2, k3⟩ := HKP.out
      have hsg : s + 1 + 1 + 1 < g := by have := HG.out; omega
      have k4 : KeepsFrom W0.heap.size Wd ((Wd1.setCell ⟨g, j, none⟩ (Value.int IntKind.u32 (td : Int))).setCell ⟨h + 1, 0, none⟩ (Value.int IntKind.u64 (tm : Int))) :=
        (k1.trans ((KeepsOthers.setCell _ _ _).from _)).trans ((KeepsOthers.setCell _ _ _).from _)
      have k5 : KB s (h + 1 + 1) Wd ((Wd1.setCell ⟨g, j, none⟩ (Value.int IntKind.u32 (td : Int))).setCell ⟨h + 1, 0, none⟩ (Value.int IntKind.u64 (tm : Int))) :=
        ⟨(k2.1.setCell (p := ⟨g, j, none⟩) (by show s ≤ g; omega) _).setCell (p := ⟨h + 1, 0, none⟩) (by show s ≤ h + 1; omega) _,
          (heap_setCell_other _ _ _ _ (by show h + 1 + 1 ≠ h + 1; omega)).trans ((heap_setCell_other _ _ _ _ (by show h + 1 + 1 ≠ g; omega)).trans k2.2)⟩
      have k6 : Below s w ((Wd1.setCell ⟨g, j, none⟩ (Value.int IntKind.u32 (td : Int))).setCell ⟨h + 1, 0, none⟩ (Value.int IntKind.u64 (tm : Int))) :=
        (k3.setCell (p := ⟨g, j, none⟩) (by show s ≤ g; omega) _).setCell (p := ⟨h + 1, 0, none⟩) (by show s ≤ h + 1; omega) _
      have b1 := (H1.out.other ⟨g, j, none⟩ (Value.int IntKind.u32 (td : Int)) (by show h + 1 ≠ g; omega)).set 0 (Value.int IntKind.u64 (tm : Int))
      have b2 := (row_set (k := j) H2.out (v := Value.int IntKind.u32 (td : Int)) (x := td) rfl).other ⟨h + 1, 0, none⟩ (Value.int IntKind.u64 (tm : Int)) (by show g ≠ h + 1; omega)
      have b3 := (H3.out.other ⟨g, j, none⟩ (Value.int IntKind.u32 (td : Int)) (by show h ≠ g; omega)).other ⟨h + 1, 0, none⟩ (Value.int IntKind.u64 (tm : Int)) (by show h ≠ h + 1; omega)
      have b4 := (H4.out.other ⟨g, j, none⟩ (Value.int IntKind.u32 (td : Int)) (by show s + 1 ≠ g; omega)).other ⟨h + 1, 0, none⟩ (Value.int IntKind.u64 (tm : Int)) (by show s + 1 ≠ h + 1; omega)
      have b5 := (H5.out.other ⟨g, j, none⟩ (Value.int IntKind.u32 (td : Int)) (by show s + 1 + 1 ≠ g; omega)).other ⟨h + 1, 0, none⟩ (Value.int IntKind.u64 (tm : Int)) (by show s + 1 + 1 ≠ h + 1; omega)
      have b6 := (H6.out.other ⟨g, j, none⟩ (Value.int IntKind.u32 (td : Int)) (by show s + 1 + 1 + 1 ≠ g; omega)).other ⟨h + 1, 0, none⟩ (Value.int IntKind.u64 (tm : Int)) (by show s + 1 + 1 + 1 ≠ h + 1; omega)
      refine ⟨k4.trans ((KeepsOthers.drew _).from _), ⟨⟨k5.1.os, k5.1.tape, k5.1.output, k5.1.size, k5.1.block⟩, k5.2⟩, ⟨?_, ?_, b3, b4, b5, b6⟩, ⟨k6.os, k6.tape, k6.output, k6.size, k6.block⟩⟩
      · rw [e1]; exact b1
      · rw [e1]; exact b2
    gi_region
    all_goals exact hk
  case stop =>
    rintro D c pre Wd hD ⟨k, hk, hpre⟩ hf
    exact hf.elim
  case done =>
    rintro D ys Wd hD hys ⟨⟨i1, i2, i3, i4, i5, i6⟩, hB⟩ hK
    have hys2 := hys
    rw [hys2] at i1 i2
    obtain ⟨f1, f2⟩ := smSt_fin (l := l) hd
    have hol := smSt_length l d (dn l.length l.length)
    have how := smSt_words HL.out hd hdw (dn l.length l.length)
    have hrl := smSt_lt l hd (dn l.length l.length)
    generalize smSt l d (dn l.length l.length) = st at i1 i2 f1 f2 hol how hrl
    obtain ⟨r, O⟩ := st
    simp only at i1 i2 f1 f2 hol how hrl
    have HR2 := Lib.hid f2
    have HO1 := Lib.hid f1
    have HOL := Lib.hid hol
    have HOW := Lib.hid how
    have H2 := Lib.hid i2
    have H5 := Lib.hid i5
    have H6 := Lib.hid i6
    have H1 := Lib.hid i1
    have HB := Lib.hid hB
    have HK := Lib.hid hK
    have HYS := Lib.hid hys
    have c3 := i3.cell 0
    have c1 := i1.cell 0
    simp only [List.getElem?_cons_zero] at c1 c3
    clear hg bO bG bR bS bD b2 b3 hB0 i1 i2 i3 i4 i5 i6 hB hys hys2 f1 f2 hol how hK
    gi_wp2
    gi_region_with (first
      | (refine ⟨trivial, (callsIn_wide.2 (trim_any (some ⟨g, 0, none⟩) l.length l.length O _ HOL.out (by omega) (by omega) HOW.out (Blk.rd (rest := []) (by rw [List.append_nil]; exact H2.out)))).mono ?_⟩; rintro e w3 ⟨ra, rl, rc, rfl, hN, hb3⟩; have c13 : w3.cell? ⟨h + 1, 0, none⟩ = some (.int .u64 (r : Int)) := (hb3.cell (p := ⟨h + 1, 0, none⟩) H1.out.lt).trans c1; have HN := Lib.hid hN; have HB3 := Lib.hid hb3; clear hN hb3)
      | (refine ⟨trivial, (callsIn_wide.2 (new_any r _ (by omega))).mono ?_⟩; rintro e w4 ⟨sa, sl, sc, rfl, hN4, hb4⟩; have B2 := Lib.hid ((H5.out.drew.below HB3.out H5.out.lt).below hb4 (Nat.lt_of_lt_of_le H5.out.lt HB3.out.size)); have B3 := Lib.hid ((H6.out.drew.below HB3.out H6.out.lt).below hb4 (Nat.lt_of_lt_of_le H6.out.lt HB3.out.size)); have c24 : w4.cell? ⟨s + 1 + 1, 0, none⟩ = some (.slice none 0 0) := B2.out.cell 0; have c34 : w4.cell? ⟨s + 1 + 1 + 1, 0, none⟩ = some (.slice none 0 0) := B3.out.cell 0; have f24 := B2.out.frozen 0; have f34 := B3.out.frozen 0; have HN4 := Lib.hid hN4; have HB4 := Lib.hid hb4; clear hN4 hb4))
    · have hdl : D < Wd.heap.size := (Array.getElem?_eq_some_iff.1 HK.out).1
      have hsz := hsz0
      have hsg := HG.out
      have hD2 : s + 1 + 1 ≠ D := by omega
      have hD3 : s + 1 + 1 + 1 ≠ D := by omega
      have hdl3 : D < w3.heap.size := Nat.lt_of_lt_of_le hdl HB3.out.size
      have hK4 : w4.heap[D]? = some (.deferred (some [])) := (HB4.out.block D hdl3).trans ((HB3.out.block D hdl).trans HK.out)
      have hK5 : ((w4.setCell ⟨s + 1 + 1, 0, none⟩ (Value.slice ra rl rc)).setCell ⟨s + 1 + 1 + 1, 0, none⟩ (Value.slice sa sl sc)).heap[D]? = some (.deferred (some [])) :=
        (heap_setCell_other _ _ _ _ (by show D ≠ s + 1 + 1 + 1; omega)).trans ((heap_setCell_other _ _ _ _ (by show D ≠ s + 1 + 1; omega)).trans hK4)
      have q2 := (B2.out.set 0 (Value.slice ra rl rc)).other ⟨s + 1 + 1 + 1, 0, none⟩ (Value.slice sa sl sc) (by show s + 1 + 1 ≠ s + 1 + 1 + 1; omega)
      have q3 := (B3.out.other ⟨s + 1 + 1, 0, none⟩ (Value.slice ra rl rc) (by show s + 1 + 1 + 1 ≠ s + 1 + 1; omega))
      have n1 := ((HN.out.below HB4.out).setCell B2.out (by decide) 0 (Value.slice ra rl rc)).setCell q3 (by decide) 0 (Value.slice sa sl sc)
      have n2 := (HN4.out.setCell B2.out (by decide) 0 (Value.slice ra rl rc)).setCell q3 (by decide) 0 (Value.slice sa sl sc)
      have q3 := q3.set 0 (Value.slice sa sl sc)
      have qb : Below s w ((w4.setCell ⟨s + 1 + 1, 0, none⟩ (Value.slice ra rl rc)).setCell ⟨s + 1 + 1 + 1, 0, none⟩ (Value.slice sa sl sc)) :=
        (((HB.out.trans ⟨HB3.out.os, HB3.out.tape, HB3.out.output, HB3.out.size, fun k hk => HB3.out.block k (by show k < Wd.heap.size; omega)⟩).trans (HB4.out.mono (by omega))).setCell (p := ⟨s + 1 + 1, 0, none⟩) (by show s ≤ s + 1 + 1; omega) _).setCell (p := ⟨s + 1 + 1 + 1, 0, none⟩) (by show s ≤ s + 1 + 1 + 1; omega) _
      generalize ((w4.setCell ⟨s + 1 + 1, 0, none⟩ (Value.slice ra rl rc)).setCell ⟨s + 1 + 1 + 1, 0, none⟩ (Value.slice sa sl sc)) = w5 at hK5 q2 q3 n1 n2 qb ⊢
      gi_wp2
      refine ⟨by simp, .inl ⟨_, _, rfl, run_takeDeferred hK5, ?_⟩⟩
      have hg := grownBy_putObj' w5 D (.deferred none)
      have hr : ∀ r, some D = some r → ∃ o : Obj, w5.heap[r]? = some o ∧ o.isCells = false := fun r e => by cases e; exact ⟨_, hK5, rfl⟩
      have m1 := n1.kept hg hr
      have m2 := n2.kept hg hr
      have p2 := blk_kept q2 hg hr
      have p3 := blk_kept q3 hg hr
      have pb : Below s w (w5.putObj D (.deferred none)) := qb.trans (belowK_b (w := W0) (by omega) _ D _ _ hD hK5 rfl rfl)
      refine ⟨.tuple #[.agg #[.slice ra rl rc], .agg #[.slice sa sl sc]], ?_, ra, rl, rc, sa, sl, sc, rfl, ?_, ?_, ?_⟩
      · exact results_nat_nat rfl rfl rfl p2 p3
      · have := m1; rwa [HO1.out] at this
      · have := m2; rwa [HR2.out] at this
      · exact HS.out ▸ pb
    · have hdl : D < Wd.heap.size := (Array.getElem?_eq_some_iff.1 HK.out).1
      have hsz := hsz0
      have hsg := HG.out
      have hD2 : s + 1 + 1 ≠ D := by omega
      have hD3 : s + 1 + 1 + 1 ≠ D := by omega
      have hdl3 : D < w3.heap.size := Nat.lt_of_lt_of_le hdl HB3.out.size
      have hK4 : w4.heap[D]? = some (.deferred (some [])) := (HB4.out.block D hdl3).trans ((HB3.out.block D hdl).trans HK.out)
      have hK5 : ((w4.setCell ⟨s + 1 + 1, 0, none⟩ (Value.slice ra rl rc)).setCell ⟨s + 1 + 1 + 1, 0, none⟩ (Value.slice sa sl sc)).heap[D]? = some (.deferred (some [])) :=
        (heap_setCell_other _ _ _ _ (by show D ≠ s + 1 + 1 + 1; omega)).trans ((heap_setCell_other _ _ _ _ (by show D ≠ s + 1 + 1; omega)).trans hK4)
      have q2 := (B2.out.set 0 (Value.slice ra rl rc)).other ⟨s + 1 + 1 + 1, 0, none⟩ (Value.slice sa sl sc) (by show s + 1 + 1 ≠ s + 1 + 1 + 1; omega)
      have q3 := (B3.out.other ⟨s + 1 + 1, 0, none⟩ (Value.slice ra rl rc) (by show s + 1 + 1 + 1 ≠ s + 1 + 1; omega))
      have n1 := ((HN.out.below HB4.out).setCell B2.out (by decide) 0 (Value.slice ra rl rc)).setCell q3 (by decide) 0 (Value.slice sa sl sc)
      have n2 := (HN4.out.setCell B2.out (by decide) 0 (Value.slice ra rl rc)).setCell q3 (by decide) 0 (Value.slice sa sl sc)
      have q3 := q3.set 0 (Value.slice sa sl sc)
      have qb : Below s w ((w4.setCell ⟨s + 1 + 1, 0, none⟩ (Value.slice ra rl rc)).setCell ⟨s + 1 + 1 + 1, 0, none⟩ (Value.slice sa sl sc)) :=
        (((HB.out.trans ⟨HB3.out.os, HB3.out.tape, HB3.out.output, HB3.out.size, fun k hk => HB3.out.block k (by show k < Wd.heap.size; omega)⟩).trans (HB4.out.mono (by omega))).setCell (p := ⟨s + 1 + 1, 0, none⟩) (by show s ≤ s + 1 + 1; omega) _).setCell (p := ⟨s + 1 + 1 + 1, 0, none⟩) (by show s ≤ s + 1 + 1 + 1; omega) _
      generalize ((w4.setCell ⟨s + 1 + 1, 0, none⟩ (Value.slice ra rl rc)).setCell ⟨s + 1 + 1 + 1, 0, none⟩ (Value.slice sa sl sc)) = w5 at hK5 q2 q3 n1 n2 qb ⊢
      gi_wp2
      refine ⟨by simp, .inl ⟨_, _, rfl, run_takeDeferred hK5, ?_⟩⟩
      have hg := grownBy_putObj' w5 D (.deferred none)
      have hr : ∀ r, some D = some r → ∃ o : Obj, w5.heap[r]? = some o ∧ o.isCells = false := fun r e => by cases e; exact ⟨_, hK5, rfl⟩
      have m1 := n1.kept hg hr
      have m2 := n2.kept hg hr
      have p2 := blk_kept q2 hg hr
      have p3 := blk_kept q3 hg hr
      have pb : Below s w (w5.putObj D (.deferred none)) := qb.trans (belowK_b (w := W0) (by omega) _ D _ _ hD hK5 rfl rfl)
      refine ⟨.tuple #[.agg #[.slice ra rl rc], .agg #[.slice sa sl sc]], ?_, ra, rl, rc, sa, sl, sc, rfl, ?_, ?_, ?_⟩
      · exact results_nat_nat rfl rfl rfl p2 p3
      · have := m1; rwa [HO1.out] at this
      · have := m2; rwa [HR2.out] at this
      · exact HS.out ▸ pb
    · have hdl : D < Wd.heap.size := (Array.getElem?_eq_some_iff.1 HK.out).1
      have hsz := hsz0
      have hsg := HG.out
      have hD2 : s + 1 + 1 ≠ D := by omega
      have hD3 : s + 1 + 1 + 1 ≠ D := by omega
      have hdl3 : D < w3.heap.size := Nat.lt_of_lt_of_le hdl HB3.out.size
      have hK4 : w4.heap[D]? = some (.deferred (some [])) := (HB4.out.block D hdl3).trans ((HB3.out.block D hdl).trans HK.out)
      have hK5 : ((w4.setCell ⟨s + 1 + 1, 0, none⟩ (Value.slice ra rl rc)).setCell ⟨s + 1 + 1 + 1, 0, none⟩ (Value.slice sa sl sc)).heap[D]? = some (.deferred (some [])) :=
        (heap_setCell_other _ _ _ _ (by show D ≠ s + 1 + 1 + 1; omega)).trans ((heap_setCell_other _ _ _ _ (by show D ≠ s + 1 + 1; omega)).trans hK4)
      have q2 := (B2.out.set 0 (Value.slice ra rl rc)).other ⟨s + 1 + 1 + 1, 0, none⟩ (Value.slice sa sl sc) (by show s + 1 + 1 ≠ s + 1 + 1 + 1; omega)
      have q3 := (B3.out.other ⟨s + 1 + 1, 0, none⟩ (Value.slice ra rl rc) (by show s + 1 + 1 + 1 ≠ s + 1 + 1; omega))
      have n1 := ((HN.out.below HB4.out).setCell B2.out (by decide) 0 (Value.slice ra rl rc)).setCell q3 (by decide) 0 (Value.slice sa sl sc)
      have n2 := (HN4.out.setCell B2.out (by decide) 0 (Value.slice ra rl rc)).setCell q3 (by decide) 0 (Value.slice sa sl sc)
      have q3 := q3.set 0 (Value.slice sa sl sc)
      have qb : Below s w ((w4.setCell ⟨s + 1 + 1, 0, none⟩ (Value.slice ra rl rc)).setCell ⟨s + 1 + 1 + 1, 0, none⟩ (Value.slice sa sl sc)) :=
        (((HB.out.trans ⟨HB3.out.os, HB3.out.tape, HB3.out.output, HB3.out.size, fun k hk => HB3.out.block k (by show k < Wd.heap.size; omega)⟩).trans (HB4.out.mono (by omega))).setCell (p := ⟨s + 1 + 1, 0, none⟩) (by show s ≤ s + 1 + 1; omega) _).setCell (p := ⟨s + 1 + 1 + 1, 0, none⟩) (by show s ≤ s + 1 + 1 + 1; omega) _
      generalize ((w4.setCell ⟨s + 1 + 1, 0, none⟩ (Value.slice ra rl rc)).setCell ⟨s + 1 + 1 + 1, 0, none⟩ (Value.slice sa sl sc)) = w5 at hK5 q2 q3 n1 n2 qb ⊢
      gi_wp2
      refine ⟨by simp, .inl ⟨_, _, rfl, run_takeDeferred hK5, ?_⟩⟩
      have hg := grownBy_putObj' w5 D (.deferred none)
      have hr : ∀ r, some D = some r → ∃ o : Obj, w5.heap[r]? = some o ∧ o.isCells = false := fun r e => by cases e; exact ⟨_, hK5, rfl⟩
      have m1 := n1.kept hg hr
      have m2 := n2.kept hg hr
      have p2 := blk_kept q2 hg hr
      have p3 := blk_kept q3 hg hr
      have pb : Below s w (w5.putObj D (.deferred none)) := qb.trans (belowK_b (w := W0) (by omega) _ D _ _ hD hK5 rfl rfl)
      refine ⟨.tuple #[.agg #[.slice ra rl rc], .agg #[.slice sa sl sc]], ?_, ra, rl, rc, sa, sl, sc, rfl, ?_, ?_, ?_⟩
      · exact results_nat_nat rfl rfl rfl p2 p3
      · have := m1; rwa [HO1.out] at this
      · have := m2; rwa [HR2.out] at this
      · exact HS.out ▸ pb

end Go.Proofs.YthefednendgclaaGreat
