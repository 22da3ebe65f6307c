/-
  Deal: a share's bytes, and the share of bytes.
-/
import Derived.Test.YthefednendgclaaDealB
import Derived.Test.YthefednendgclaaNatFrom
import Derived.Test.YthefednendgclaaDealT
set_option linter.unusedVariables false
set_option linter.unusedSimpArgs false
namespace Go.Proofs.Ythefednendgclaa
open Go Go.RowKit Sac

theorem Buf.of_blk {w : World} {base g n : Nat} {bs : List Nat} (hB : Blk w g 5 (bs.map by8)) (hb : base ≤ g) (hn : bs.length = n) (hl : n ≤ 100000000) (hx : ∀ x ∈ bs, x < 256) : Buf w base (.slice (some ⟨g, 0, none⟩) n n) bs :=
  ⟨hx, .inr ⟨g, 0, n, [], [], by rw [hn], hb, by simpa using hB, rfl, ⟨by omega, by simp [hn]⟩, by omega⟩⟩
theorem lt_nb {x Q : Nat} (h : x < Q) : x < 256 ^ nbytes Q := Nat.lt_trans h ((nbytes_le Q _).1 (Nat.le_refl _))
theorem be_cons (k x n : Nat) (hx : x < 256) (hn : n < 256 ^ k) : be (k + 1) (x * 256 ^ k + n) = x :: be k n := by
  refine ext_getD (by simp [be_length]) fun j hj => ?_
  rw [be_length] at hj
  rw [be_get (k + 1) _ j hj]
  cases j with
  | zero =>
    rw [show k + 1 - 1 - 0 = k by omega, Nat.mul_comm, Nat.mul_add_div (Nat.pow_pos (by decide)), Nat.div_eq_of_lt hn, Nat.add_zero, Nat.mod_eq_of_lt hx]
    rfl
  | succ j =>
    rw [show (x :: be k n).getD (j + 1) 0 = (be k n).getD j 0 by simp [List.getD_eq_getElem?_getD], be_get k n j (by omega), show k + 1 - 1 - (j + 1) = k - 1 - j by omega]
    obtain ⟨d, hd⟩ : ∃ d, k = (k - 1 - j) + (d + 1) := ⟨j, by omega⟩
    have e : x * 256 ^ k = 256 ^ (k - 1 - j) * (256 * (256 ^ d * x)) := by
      conv => lhs; rw [hd]
      rw [Nat.pow_add, Nat.pow_succ, Nat.mul_comm x, Nat.mul_assoc, Nat.mul_assoc, ← Nat.mul_assoc 256, Nat.mul_comm 256 (256 ^ d), Nat.mul_assoc, Nat.mul_left_comm]
    rw [e, Nat.mul_add_div (Nat.pow_pos (by decide)), Nat.mul_add_mod]
theorem be_ex : ∀ bs : List Nat, (∀ x ∈ bs, x < 256) → ∃ n, n < 256 ^ bs.length ∧ be bs.length n = bs
  | [], _ => ⟨0, by decide, rfl⟩
  | x :: bs, h => by
    obtain ⟨n, hn, he⟩ := be_ex bs fun y hy => h y (List.mem_cons_of_mem _ hy)
    have hx := h x List.mem_cons_self
    refine ⟨x * 256 ^ bs.length + n, ?_, ?_⟩
    · rw [List.length_cons, Nat.pow_succ]
      have := Nat.mul_le_mul_right (256 ^ bs.length) (show x + 1 ≤ 256 from hx)
      rw [Nat.add_mul] at this
      omega
    · rw [List.length_cons, be_cons _ _ _ hx hn, he]

theorem rdc_str {w : World} {a : Option Addr} {bs : List Nat} {cap : Nat} (h : RdC w a (bs.map by8)) (h0 : a = none → bs = []) : (convert 102 9 (.slice a bs.length cap)).run Try.prog w = .ok (.string (strB bs)) w := by
  rcases a with _ | ad
  · obtain rfl := h0 rfl
    rw [run_convert_bytes_nil w 102 5 Try.underlying102 Try.underlying5 _ cap 9 Try.underlying9]
    rfl
  · have hl : (loadCells ad bs.length).run Try.prog w = .ok ((bs.map Int.ofNat).map (Value.int .u8)).toArray w := by
      have := run_loadCells_list (P := Try.prog) w ad ((bs.map Int.ofNat).map (Value.int .u8)) (fun j v hj => by
        obtain ⟨ad', e, hc⟩ := h (by intro e; have e2 : bs = [] := List.map_eq_nil_iff.1 e; subst e2; simp at hj)
        obtain rfl := Option.some.inj e
        exact hc j v (by rw [← hj, List.map_map]; rfl))
      simpa using this
    rw [run_convert_bytes_string w _ _ _ _ bs.length cap Try.underlying102 Try.underlying5 Try.underlying9, run_bytesToString w _ bs.length cap (bs.map Int.ofNat) hl, foldl_push_bytes]
    simp [strB, strOfNums, ByteArray.empty, ByteArray.emptyWithCapacity]
    rfl
theorem rb_str {w : World} {v : Value} {bs : List Nat} (h : RB w v bs) : (convert 102 9 v).run Try.prog w = .ok (.string (strB bs)) w := by
  obtain ⟨a, cap, rfl, _, _, h0, hr, _⟩ := h
  exact rdc_str (RdC.of_rd hr) h0
/-- A share refused. -/
def ShareErr (er : Int) (w : World) (e : Ending) (w' : World) : Prop := e = .returned (.tuple #[.agg #[.slice none 0 0, .slice none 0 0], .int .i64 er]) ∧ Below w.heap.size w w'

set_option maxRecDepth 100000 in
set_option maxHeartbeats 2000000 in
theorem dbytes_any (g P Q G H sz : Nat) (sa : Option Addr) (sl sc x : Nat) (ra : Option Addr) (rl rc y : Nat) (w : World) (hg : GroupAt w g P Q G H sz) (hs : NatS w sa sl x) (hr : NatS w ra rl y) (hQ : nbytes Q ≤ 120) (hx : x < Q) (hy : y < Q) :
    Calls Try.prog 69 #[.pointer (some ⟨g, 0, none⟩), .agg #[.slice sa sl sc, .slice ra rl rc]] w fun e w' => ∃ v, e = .returned (.tuple #[v, .int .i64 0]) ∧ RB w' v (be (nbytes Q) x ++ be (nbytes Q) y) ∧ Below w.heap.size w w' := by
  have HX : Hid (x < 256 ^ nbytes Q ∧ y < 256 ^ nbytes Q) := ⟨lt_nb hx, lt_nb hy⟩
  have HD : Hid (decide (x < Q ∧ y < Q) = true) := decide_eq_true ⟨hx, hy⟩
  have hbA := (Below.refl _ w).alloc (Nat.le_refl _) (Obj.cells #[Value.slice sa sl sc, Value.slice ra rl rc] 90)
  have hB1 : Blk (w.alloc (Obj.cells #[Value.slice sa sl sc, Value.slice ra rl rc] 90)) w.heap.size 90 [.slice sa sl sc, .slice ra rl rc] := Blk.new w _ _
  have HG := Lib.hid (hg.below hbA)
  have HS := Lib.hid (hs.below hbA)
  have HR := Lib.hid (hr.below hbA)
  have HB := Lib.hid hbA
  clear hg hs hr hbA
  obtain ⟨nb, hnb⟩ : ∃ nb, nbytes Q = nb := ⟨_, rfl⟩
  have HNB := Lib.hid hnb
  rw [hnb] at hQ
  clear hnb
  rw [HNB.out] at HX ⊢
  clear hx hy
  go_enter Try.func69, Try.ntmps69
  go_wp2_with fail
  generalize w.alloc (Obj.cells #[Value.slice sa sl sc, Value.slice ra rl rc] 90) = w1 at hB1 HG HS HR HB ⊢
  have g0 : ∀ w', BB w1 w' → w'.cell? ⟨w.heap.size, 0, none⟩ = some (.slice sa sl sc) := fun w' hb => (BB.cell hb hB1.lt).trans (hB1.cell 0)
  have g1 : ∀ w', BB w1 w' → w'.cell? ⟨w.heap.size, 1, none⟩ = some (.slice ra rl rc) := fun w' hb => (BB.cell hb hB1.lt).trans (hB1.cell 1)
  clear hB1
  refine (dbelow_any g P Q G H sz sa sl sc x ra rl rc y w1 HG.out HS.out HR.out).mono ?_
  rw [HD.out]
  rintro e w2 ⟨rfl, hb2⟩
  have hbb2 : BB w1 w2 := hb2
  clear hb2 HD
  go_wp2_with fail
  refine (ssize_any g P Q G H sz w2 (HG.out.below hbb2) (by rw [HNB.out]; exact hQ)).mono ?_
  rw [HNB.out]
  rintro e w3 ⟨rfl, hb3⟩
  have hbb3 : BB w1 w3 := BB.step hbb2 hb3
  have q1 : 2 * (nb : Int) / 2 = (nb : Int) := by omega
  have q2 : IntKind.i64.wrap (nb : Int) = (nb : Int) := i64_small _ (by omega) (by omega)
  have q3 : Int.tdiv (2 * (nb : Int)) 2 = (nb : Int) := by rw [Int.tdiv_eq_ediv_of_nonneg (by omega)]; exact q1
  have c0 := g0 w3 hbb3
  clear hb3 hbb2
  go_wp2_with fail
  refine (bytes_any sa sl sc x nb w3 (HS.out.below hbb3).1 (by have := HS.out.2; omega) (by omega)).mono ?_
  rintro e w4 ⟨hb4, hy4, _⟩
  obtain ⟨ga, hga, rfl, hBa⟩ := hy4 HX.out.1
  have hbb4 : BB w1 w4 := BB.step hbb3 hb4
  have HBa := Lib.hid hBa
  have c1 := g1 w4 hbb4
  have HGA : Hid (w1.heap.size ≤ ga) := Nat.le_trans hbb3.size hga
  clear hb4 hy4 hBa hga c0
  go_wp2_with fail
  refine (bytes_any ra rl rc y nb w4 (HR.out.below hbb4).1 (by have := HR.out.2; omega) (by omega)).mono ?_
  rintro e w5 ⟨hb5, hy5, _⟩
  obtain ⟨gb, hgb, rfl, hBb⟩ := hy5 HX.out.2
  have hbb5 : BB w1 w5 := BB.step hbb4 hb5
  have HUA : Hid (Buf w5 w.heap.size (.slice (some ⟨ga, 0, none⟩) nb nb) (be nb x)) := Buf.of_blk (HBa.out.below hb5 HBa.out.lt) (Nat.le_trans HB.out.size HGA.out) (be_length _ _) (by omega) (be_lt _ _)
  have HRB : Hid (RB w5 (.slice (some ⟨gb, 0, none⟩) nb nb) (be nb y)) := (Buf.of_blk (base := 0) hBb (Nat.zero_le _) (be_length _ _) (by omega) (be_lt _ _)).rb
  have HB5 := Lib.hid (HB.out.trans (Below.mono hbb5 HB.out.size))
  clear hb5 hy5 hBb hgb c1 g0 g1 hbb3 hbb4
  go_wp2_with (first | (refine wpList_append_buf w5 rfl (.tmp 36) (.tmp 37) rfl w.heap.size _ _ rfl HUA.out _ _ rfl HRB.out (by rw [be_length, be_length]; omega) HB5.out.size ?_; intro v' w6 hbuf hgr hf; have HU6 := Lib.hid hbuf; have HB6 : Hid (Below w.heap.size w w6) := below_grown HB5.out hgr (fun k hk => (HUA.out.lt hk).1) HB5.out.size; clear hbuf hgr hf))
  exact bodyPost_ret (results_tmp2 rfl _ _ _) rfl ⟨_, rfl, HU6.out.rb, HB6.out⟩

set_option maxRecDepth 100000 in
set_option maxHeartbeats 2000000 in
theorem dbytes_over (g P Q G H sz : Nat) (sa : Option Addr) (sl sc x : Nat) (ra : Option Addr) (rl rc y : Nat) (w : World) (hg : GroupAt w g P Q G H sz) (hs : NatS w sa sl x) (hr : NatS w ra rl y) (hxy : ¬ (x < Q ∧ y < Q)) :
    Calls Try.prog 69 #[.pointer (some ⟨g, 0, none⟩), .agg #[.slice sa sl sc, .slice ra rl rc]] w fun e w' => e = .returned (.tuple #[.slice none 0 0, .int .i64 2]) ∧ Below w.heap.size w w' := by
  have HD : Hid (decide (x < Q ∧ y < Q) = false) := decide_eq_false hxy
  have hbA := (Below.refl _ w).alloc (Nat.le_refl _) (Obj.cells #[Value.slice sa sl sc, Value.slice ra rl rc] 90)
  have HG := Lib.hid (hg.below hbA)
  have HS := Lib.hid (hs.below hbA)
  have HR := Lib.hid (hr.below hbA)
  have HB := Lib.hid hbA
  clear hg hs hr hbA hxy
  go_enter Try.func69, Try.ntmps69
  go_wp2_with fail
  generalize w.alloc (Obj.cells #[Value.slice sa sl sc, Value.slice ra rl rc] 90) = w1 at HG HS HR HB ⊢
  refine (dbelow_any g P Q G H sz sa sl sc x ra rl rc y w1 HG.out HS.out HR.out).mono ?_
  rw [HD.out]
  rintro e w2 ⟨rfl, hb2⟩
  have HB2 := Lib.hid (HB.out.trans (hb2.mono HB.out.size))
  clear hb2
  go_wp2_with fail
  exact bodyPost_ret (results_tmp2 rfl _ _ _) rfl ⟨rfl, HB2.out⟩

set_option maxRecDepth 100000 in
set_option maxHeartbeats 2000000 in
theorem dbytes_nil (sa : Option Addr) (sl sc : Nat) (ra : Option Addr) (rl rc : Nat) (w : World) :
    Calls Try.prog 69 #[.pointer none, .agg #[.slice sa sl sc, .slice ra rl rc]] w fun e w' => e = .returned (.tuple #[.slice none 0 0, .int .i64 1]) ∧ Below w.heap.size w w' := by
  have HB := Lib.hid ((Below.refl _ w).alloc (Nat.le_refl _) (Obj.cells #[Value.slice sa sl sc, Value.slice ra rl rc] 90))
  go_enter Try.func69, Try.ntmps69
  go_wp2_with fail
  exact bodyPost_ret (results_tmp2 rfl _ _ _) rfl ⟨rfl, HB.out⟩

set_option maxRecDepth 100000 in
set_option maxHeartbeats 2000000 in
theorem dof_nil (a : Option Addr) (len cap : Nat) (w : World) :
    Calls Try.prog 70 #[.pointer none, .slice a len cap] w (ShareErr 1 w) := by
  obtain ⟨s, hs⟩ : ∃ s, s = w.heap.size := ⟨_, rfl⟩
  have hO : Blk (w.alloc (Obj.cells #[Value.slice none 0 0, Value.slice none 0 0] 90)) s 90 [.slice none 0 0, .slice none 0 0] := Blk.new' w _ _ s hs
  have HB : Hid (Below s w (w.alloc (Obj.cells #[Value.slice none 0 0, Value.slice none 0 0] 90))) := hs.symm ▸ (Below.refl _ w).alloc (Nat.le_refl _) _
  have HSS := Lib.hid hs
  have HO := Lib.hid hO
  have q0 := hO.cell 0
  have q1 := hO.cell 1
  have f0 := hO.frozen 0
  have f1 := hO.frozen 1
  simp only [List.getElem?_cons_zero, List.getElem?_cons_succ] at q0 q1
  clear hO
  go_enter Try.func70, Try.ntmps70
  go_wp2_with fail
  exact ret_share rfl rfl rfl (hs ▸ HO.out) ⟨rfl, HSS.out ▸ HB.out⟩

set_option maxRecDepth 100000 in
set_option maxHeartbeats 2000000 in
theorem dof_len (g P Q G H sz : Nat) (a : Option Addr) (len cap : Nat) (w : World) (hg : GroupAt w g P Q G H sz) (hQ : nbytes Q ≤ 120) (hl : len ≠ 2 * nbytes Q) :
    Calls Try.prog 70 #[.pointer (some ⟨g, 0, none⟩), .slice a len cap] w (ShareErr 3 w) := by
  obtain ⟨s, hs⟩ : ∃ s, s = w.heap.size := ⟨_, rfl⟩
  have hb := (Below.refl _ w).alloc (Nat.le_refl _) (Obj.cells #[Value.slice none 0 0, Value.slice none 0 0] 90)
  have hO : Blk (w.alloc (Obj.cells #[Value.slice none 0 0, Value.slice none 0 0] 90)) s 90 [.slice none 0 0, .slice none 0 0] := Blk.new' w _ _ s hs
  have HG := Lib.hid (hg.below hb)
  have HB : Hid (Below s w (w.alloc (Obj.cells #[Value.slice none 0 0, Value.slice none 0 0] 90))) := hs.symm ▸ hb
  have HSS := Lib.hid hs
  have HO := Lib.hid hO
  obtain ⟨nb, hnb⟩ : ∃ nb, nbytes Q = nb := ⟨_, rfl⟩
  have HNB := Lib.hid hnb
  rw [hnb] at hQ hl
  clear hnb hg hb hO
  go_enter Try.func70, Try.ntmps70
  go_wp2_with fail
  rw [← hs]
  clear hs
  generalize w.alloc (Obj.cells #[Value.slice none 0 0, Value.slice none 0 0] 90) = w1 at HG HB HO ⊢
  refine (ssize_any g P Q G H sz w1 HG.out (by rw [HNB.out]; exact hQ)).mono ?_
  rw [HNB.out]
  rintro e w3 ⟨rfl, hb3⟩
  have q1 : 2 * (nb : Int) / 2 = (nb : Int) := by omega
  have q2 : IntKind.i64.wrap (nb : Int) = (nb : Int) := i64_small _ (by omega) (by omega)
  have q3 : Int.tdiv (2 * (nb : Int)) 2 = (nb : Int) := by rw [Int.tdiv_eq_ediv_of_nonneg (by omega)]; exact q1
  have q4 : IntKind.i64.wrap (2 * (nb : Int)) = 2 * (nb : Int) := i64_small _ (by omega) (by omega)
  have hne : ¬ ((len : Int) = 2 * (nb : Int)) := by omega
  have hO3 := HO.out.below hb3 HO.out.lt
  have HO3 := Lib.hid hO3
  have HB3 := Lib.hid (HB.out.trans (hb3.mono (Nat.le_of_lt HO.out.lt)))
  have c0 := hO3.cell 0
  have c1 := hO3.cell 1
  have f0 := hO3.frozen 0
  have f1 := hO3.frozen 1
  simp only [List.getElem?_cons_zero, List.getElem?_cons_succ] at c0 c1
  clear hb3 hO3
  go_wp2_with fail
  exact ret_share rfl rfl rfl ((HO3.out.set 0 _).set 1 _) ⟨rfl, HSS.out ▸ (HB3.out.setCell (p := ⟨s, 0, none⟩) (Nat.le_refl s) _).setCell (p := ⟨s, 1, none⟩) (Nat.le_refl s) _⟩

set_option maxRecDepth 100000 in
set_option maxHeartbeats 2000000 in
theorem dof_any (g P Q G H sz : Nat) (a : Option Addr) (len cap nb n1 n2 : Nat) (w : World) (hg : GroupAt w g P Q G H sz) (hnb : nbytes Q = nb) (hQ : nb ≤ 120) (hp : 0 < nb) (h : RdC w a ((be nb n1 ++ be nb n2).map by8)) (hL : len = 2 * nb) (hc : (len : Int) ≤ cap) (h1 : n1 < 256 ^ nb) (h2 : n2 < 256 ^ nb) :
    Calls Try.prog 70 #[.pointer (some ⟨g, 0, none⟩), .slice a len cap] w fun e w' => (n1 < Q ∧ n2 < Q → SharePost n1 n2 w e w') ∧ (¬ (n1 < Q ∧ n2 < Q) → ShareErr 3 w e w') := by
  obtain ⟨s, hs⟩ : ∃ s, s = w.heap.size := ⟨_, rfl⟩
  have hb := (Below.refl _ w).alloc (Nat.le_refl _) (Obj.cells #[Value.slice none 0 0, Value.slice none 0 0] 90)
  have hO : Blk (w.alloc (Obj.cells #[Value.slice none 0 0, Value.slice none 0 0] 90)) s 90 [.slice none 0 0, .slice none 0 0] := Blk.new' w _ _ s hs
  have HG := Lib.hid (hg.below hb)
  have HB : Hid (Below s w (w.alloc (Obj.cells #[Value.slice none 0 0, Value.slice none 0 0] 90))) := hs.symm ▸ hb
  have HSS := Lib.hid hs
  have HO := Lib.hid hO
  have HNB := Lib.hid hnb
  have HN := Lib.hid (And.intro h1 h2)
  obtain ⟨ad, rfl, _⟩ : ∃ ad, a = some ad ∧ True := by
    obtain ⟨ad, e, _⟩ := h (by intro e; have := congrArg List.length e; simp [be_length] at this; omega)
    exact ⟨ad, e, trivial⟩
  have HR1 : Hid (RdC w (some ad) ((be nb n1).map by8)) := by
    have := h.take nb
    rw [List.map_append, List.take_left' (by rw [List.length_map, be_length])] at this
    exact this
  have HR2 : Hid (RdC w (some (ad.add nb)) ((be nb n2).map by8)) := by
    have := h.drop nb
    rw [List.map_append, List.drop_left' (by rw [List.length_map, be_length])] at this
    exact this
  have hL' : (len : Int) = 2 * (nb : Int) := by omega
  have HLL := Lib.hid hL
  clear hnb hg hb hO h1 h2 h hL
  go_enter Try.func70, Try.ntmps70
  go_wp2_with fail
  rw [← hs]
  clear hs
  generalize w.alloc (Obj.cells #[Value.slice none 0 0, Value.slice none 0 0] 90) = w1 at HG HB HO ⊢
  refine (ssize_any g P Q G H sz w1 HG.out (by rw [HNB.out]; exact hQ)).mono ?_
  rw [HNB.out]
  rintro e w3 ⟨rfl, hb3⟩
  have q1 : 2 * (nb : Int) / 2 = (nb : Int) := by omega
  have q2 : IntKind.i64.wrap (nb : Int) = (nb : Int) := i64_small _ (by omega) (by omega)
  have q3 : Int.tdiv (2 * (nb : Int)) 2 = (nb : Int) := by rw [Int.tdiv_eq_ediv_of_nonneg (by omega)]; exact q1
  have q4 : IntKind.i64.wrap (2 * (nb : Int)) = 2 * (nb : Int) := i64_small _ (by omega) (by omega)
  obtain ⟨t, hts⟩ : ∃ t, t = w3.heap.size := ⟨_, rfl⟩
  have hb4 := (Below.refl _ w3).alloc (Nat.le_refl _) (Obj.cells #[Value.slice none 0 0, Value.slice none 0 0] 90)
  have hT : Blk (w3.alloc (Obj.cells #[Value.slice none 0 0, Value.slice none 0 0] 90)) t 90 [.slice none 0 0, .slice none 0 0] := Blk.new' w3 _ _ t hts
  have hbb4 : BB w1 (w3.alloc (Obj.cells #[Value.slice none 0 0, Value.slice none 0 0] 90)) := BB.step hb3 hb4
  have HT := Lib.hid hT
  have HBB4 := Lib.hid hbb4
  have HTS := Lib.hid hts
  have HB3S := Lib.hid hb3.size
  have hle1 : (nb : Int) ≤ (cap : Int) := by omega
  have hle2 : (nb : Int) ≤ (len : Int) := by omega
  have hle3 : 0 < (cap : Int) - (nb : Int) := by omega
  clear hb3 hb4 hT hbb4 hts
  go_wp2_with fail
  rw [← HTS.out]
  generalize w3.alloc (Obj.cells #[Value.slice none 0 0, Value.slice none 0 0] 90) = w4 at HT HBB4 ⊢
  have HTL : Hid (w1.heap.size ≤ t) := by show _ ≤ _; rw [HTS.out]; exact HB3S.out
  have HST : Hid (s ≤ t ∧ s ≠ t) := by show _ ∧ _; have := HO.out.lt; have := HTL.out; omega
  refine (frombytes_any (some ad) nb cap n1 w4 (HR1.out.below (HSS.out ▸ HB.out.trans (Below.mono HBB4.out (Nat.le_of_lt HO.out.lt)))) (by omega) (by omega) HN.out.1).mono ?_
  rintro e w5 ⟨b1, l1, c1, rfl, hn1, hb5⟩
  have hT5 := HT.out.below hb5 HT.out.lt
  have HT5 := Lib.hid hT5
  have HN5 := Lib.hid hn1
  have HBB5 := Lib.hid (BB.step HBB4.out hb5)
  have q0 := hT5.cell 0
  have f0 := hT5.frozen 0
  simp only [List.getElem?_cons_zero, List.getElem?_cons_succ] at q0
  clear hb5 hn1 hT5 HBB4 HT
  go_wp2_with fail
  rw [show len - nb = nb by omega]
  have HT6 := Lib.hid (HT5.out.set 0 (.slice b1 l1 c1))
  have HN6 := Lib.hid (HN5.out.set HT5.out 0 (.slice b1 l1 c1))
  have HBB6 : Hid (BB w1 (w5.setCell ⟨t, 0, none⟩ (.slice b1 l1 c1))) := Below.setCell (p := ⟨t, 0, none⟩) HBB5.out HTL.out _
  generalize w5.setCell ⟨t, 0, none⟩ (.slice b1 l1 c1) = w6 at HT6 HN6 HBB6 ⊢
  refine (frombytes_any (some (ad.add nb)) nb (cap - nb) n2 w6 (HR2.out.below (HSS.out ▸ HB.out.trans (Below.mono HBB6.out (Nat.le_of_lt HO.out.lt)))) (by omega) (by omega) HN.out.2).mono ?_
  rintro e w7 ⟨b2, l2, c2, rfl, hn2, hb7⟩
  have hT7 := HT6.out.below hb7 HT6.out.lt
  have HT7 := Lib.hid hT7
  have HM7 := Lib.hid hn2
  have HN7 := Lib.hid (HN6.out.below hb7)
  have HBB7 := Lib.hid (BB.step HBB6.out hb7)
  have hT8 := hT7.set 1 (.slice b2 l2 c2)
  have q0 := hT7.cell 1
  have f0 := hT7.frozen 1
  have r0 := hT8.cell 0
  have r1 := hT8.cell 1
  simp only [List.set_cons_zero, List.set_cons_succ, List.getElem?_cons_zero, List.getElem?_cons_succ] at q0 r0 r1
  clear hb7 hn2 hT7 hT8 HBB6 HBB5 HT5 HN5 HN6 HT6
  go_wp2_with fail
  have HT8 := Lib.hid (HT7.out.set 1 (.slice b2 l2 c2))
  have HN8 := Lib.hid (HN7.out.set HT7.out 1 (.slice b2 l2 c2))
  have HM8 := Lib.hid (HM7.out.set HT7.out 1 (.slice b2 l2 c2))
  have HBB8 : Hid (BB w1 (w7.setCell ⟨t, 1, none⟩ (.slice b2 l2 c2))) := Below.setCell (p := ⟨t, 1, none⟩) HBB7.out HTL.out _
  generalize w7.setCell ⟨t, 1, none⟩ (.slice b2 l2 c2) = w8 at HT8 HN8 HM8 HBB8 ⊢
  refine (dbelow_any g P Q G H sz b1 l1 c1 n1 b2 l2 c2 n2 w8 (HG.out.below HBB8.out) HN8.out HM8.out).mono ?_
  by_cases hq : n1 < Q ∧ n2 < Q
  · rw [show decide (n1 < Q ∧ n2 < Q) = true from decide_eq_true hq]
    rintro e w9 ⟨rfl, hb9⟩
    have hT9 := HT8.out.below hb9 HT8.out.lt
    have hO9 := HO.out.below (BB.step HBB8.out hb9) HO.out.lt
    have HO9 := Lib.hid hO9
    have HN9 := Lib.hid (HN8.out.below hb9)
    have HM9 := Lib.hid (HM8.out.below hb9)
    have HB9 := Lib.hid (HB.out.trans (Below.mono (BB.step HBB8.out hb9) (Nat.le_of_lt HO.out.lt)))
    have q0 := hT9.cell 0
    have q1 := hT9.cell 1
    have c0 := hO9.cell 0
    have c1 := hO9.cell 1
    have f0 := hO9.frozen 0
    have f1 := hO9.frozen 1
    simp only [List.set_cons_zero, List.set_cons_succ, List.getElem?_cons_zero, List.getElem?_cons_succ] at q0 q1 c0 c1
    have HQQ := Lib.hid hq
    clear hb9 hT9 hO9 hq
    go_wp2_with fail
    exact ret_share rfl rfl rfl ((HO9.out.set 0 _).set 1 _) ⟨fun _ => ⟨b1, l1, _, b2, l2, _, rfl, (HN9.out.set HO9.out 0 _).set (HO9.out.set 0 _) 1 _, (HM9.out.set HO9.out 0 _).set (HO9.out.set 0 _) 1 _, HSS.out ▸ (HB9.out.setCell (p := ⟨s, 0, none⟩) (Nat.le_refl s) _).setCell (p := ⟨s, 1, none⟩) (Nat.le_refl s) _⟩, fun h => absurd HQQ.out h⟩
  · rw [show decide (n1 < Q ∧ n2 < Q) = false from decide_eq_false hq]
    rintro e w9 ⟨rfl, hb9⟩
    have hO9 := HO.out.below (BB.step HBB8.out hb9) HO.out.lt
    have HO9 := Lib.hid hO9
    have HB9 := Lib.hid (HB.out.trans (Below.mono (BB.step HBB8.out hb9) (Nat.le_of_lt HO.out.lt)))
    have c0 := hO9.cell 0
    have c1 := hO9.cell 1
    have f0 := hO9.frozen 0
    have f1 := hO9.frozen 1
    simp only [List.getElem?_cons_zero, List.getElem?_cons_succ] at c0 c1
    have HQQ := Lib.hid hq
    clear hb9 hO9 hq
    go_wp2_with fail
    exact ret_share rfl rfl rfl ((HO9.out.set 0 _).set 1 _) ⟨fun h => absurd h HQQ.out, fun _ => ⟨rfl, HSS.out ▸ (HB9.out.setCell (p := ⟨s, 0, none⟩) (Nat.le_refl s) _).setCell (p := ⟨s, 1, none⟩) (Nat.le_refl s) _⟩⟩

/-- Whatever bytes are read: they are refused, or a share of the field whose bytes they are. -/
theorem dof_all (g P Q G H sz : Nat) (a : Option Addr) (len cap nb : Nat) (bs : List Nat) (w : World) (hg : GroupAt w g P Q G H sz) (hnb : nbytes Q = nb) (hQ : nb ≤ 120) (hp : 0 < nb) (h : RdC w a (bs.map by8)) (hx : ∀ x ∈ bs, x < 256) (hL : bs.length = len) (hc : (len : Int) ≤ cap) :
    Calls Try.prog 70 #[.pointer (some ⟨g, 0, none⟩), .slice a len cap] w fun e w' => ShareErr 3 w e w' ∨ ∃ n1 n2, n1 < Q ∧ n2 < Q ∧ be nb n1 ++ be nb n2 = bs ∧ SharePost n1 n2 w e w' := by
  by_cases hl : len = 2 * nb
  · obtain ⟨n1, h1, e1⟩ := be_ex (bs.take nb) fun x hxx => hx x (List.mem_of_mem_take hxx)
    obtain ⟨n2, h2, e2⟩ := be_ex (bs.drop nb) fun x hxx => hx x (List.mem_of_mem_drop hxx)
    rw [List.length_take, Nat.min_eq_left (by omega)] at h1 e1
    rw [List.length_drop, show bs.length - nb = nb by omega] at h2 e2
    have e : be nb n1 ++ be nb n2 = bs := by rw [e1, e2, List.take_append_drop]
    refine (dof_any g P Q G H sz a len cap nb n1 n2 w hg hnb hQ hp (by rw [e]; exact h) hl hc h1 h2).mono fun e' w' ⟨p1, p2⟩ => ?_
    by_cases hq : n1 < Q ∧ n2 < Q
    · exact .inr ⟨n1, n2, hq.1, hq.2, e, p1 hq⟩
    · exact .inl (p2 hq)
  · exact (dof_len g P Q G H sz a len cap w hg (by rw [hnb]; exact hQ) (by rw [hnb]; exact hl)).mono fun e' w' h => .inl h
end Go.Proofs.Ythefednendgclaa
