/-
  The document's queue: All, in order.
-/
import Derived.Test.YtdbpcogbednokaaDn
set_option linter.unusedVariables false
set_option linter.unusedSimpArgs false
namespace Go.Proofs.Ytdbpcogbednokaa
open Go.RowKit

theorem wpList_append_d {w : World} {ops : Array Oper} {rest : List Oper} {o : Oper} {a : Act} {Q : Exit → Act → World → Prop} (hg : o.guard = none) (s x : Operand)
    (hop : o.op = Op.call { callee := Callee.builtin Builtin.append, args := #[s, x], argTypes := #[38, 38] })
    (base : Nat) (v : Value) (D : List (Int × Int)) (hs : a.eval s = v) (hown : DOwn w base v D) (ad : Addr) (m c : Nat) (E : List (Int × Int)) (hx : a.eval x = .slice (some ad) m c) (hm : E.length = m) (hnews : ∀ j u, (enc2 E)[j]? = some u → w.cell? (ad.add j) = some u)
    (hlen : (D.length : Int) + m ≤ 200000) (hbase : base ≤ w.heap.size)
    (h : ∀ v' w', DOwn w' base v' (D ++ E) → w.grownBy w' v.ownBlock → (∀ k, v'.ownBlock = some k → v.ownBlock = some k ∨ w.heap.size ≤ k) → wpList Try.prog ops Q rest (a.put o.dst v') w') :
    wpList Try.prog ops Q (o :: rest) a w := by
  refine wpList_plain hg fun K hK' => ?_
  obtain ⟨i, hi, hz1, hz2, hz3⟩ := info_parts info44
  obtain ⟨v', w', hr, ho', hgr, hf⟩ := append_own (P := Try.prog) w base 38 o.type 44 i _ 2 16 Try.underlying38 hi hz1 hz2 hz3 rfl (by decide) v D.length (enc2 D) hown ad m c (enc2 E) (by rw [length_enc2, hm])
    hnews (enc2_one _) (by unfold maxLen; omega) (by omega) hbase
  unfold Oper.wp execOp
  simp only [hop, resolve, invoke, builtin, Sem.run_bind, Sem.run_pure, Result.andThen_ok, List.map_toArray, List.map_cons, List.map_nil, hs, hx, hr]
  refine hK' _ _ (h v' w' ?_ hgr hf)
  show w'.ownsRow base 44 2 v' (D ++ E).length (enc2 (D ++ E))
  rw [List.length_append, enc2_append, hm]
  exact ho'

def lenOf : Value → Nat
  | .slice _ n _ => n
  | _ => 0

/-- What stands in All between two rounds. -/
structure AllInv (br : Nat) (w : World) (D : List (Int × Int)) (wr : World) (vo : Value) (O : List (Int × Int)) (v : Value) (R : List (Int × Int)) : Prop where
  blk : Blk wr br 40 [v]
  own : DOwn wr 0 v R
  out : DOwn wr w.heap.size vo O
  old : w.heap.size ≤ br
  ne1 : ∀ k, v.ownBlock = some k → k ≠ br ∧ vo.ownBlock ≠ some k
  ne2 : vo.ownBlock ≠ some br
  sum : O ++ sortS R = sortS D
  below : Below w.heap.size w wr

theorem own_base {w : World} {base b2 e size n : Nat} {v : Value} {xs : List Value} (h : w.ownsRow base e size v n xs) (hb : b2 ≤ base) : w.ownsRow b2 e size v n xs := by
  obtain ⟨h1, h2⟩ := h
  refine ⟨h1, ?_⟩
  rcases h2 with h2 | ⟨g, cap, cur, hv, hg, r⟩
  · exact .inl h2
  · exact .inr ⟨g, cap, cur, hv, Nat.le_trans hb hg, r⟩

theorem AllInv.drop1 {br : Nat} {w wr w2 : World} {D O R : List (Int × Int)} {vo v : Value} (h : AllInv br w D wr vo O v R) (hb : Below wr.heap.size wr w2) : AllInv br w D w2 vo O v R :=
  ⟨h.blk.below hb h.blk.lt, own_only h.own (Only.below (F := fun _ => False) hb) (fun _ _ h => h), own_only h.out (Only.below (F := fun _ => False) hb) (fun _ _ h => h), h.old, h.ne1, h.ne2, h.sum, h.below.trans (hb.mono h.below.size)⟩

theorem DOwn.len {w : World} {base : Nat} {v : Value} {D : List (Int × Int)} (h : DOwn w base v D) : lenOf v = D.length := by
  obtain ⟨a, c, rfl, _⟩ := h.form rfl
  rfl

theorem AllInv.dat {br : Nat} {w wr : World} {D O R : List (Int × Int)} {vo v : Value} (h : AllInv br w D wr vo O v R) : DAt (fun _ => True) br v R wr := ⟨h.blk, h.own, fun k hk => (h.ne1 k hk).1, trivial, fun _ _ => trivial⟩

theorem AllInv.step {br i : Nat} {w wr w2 : World} {D O R : List (Int × Int)} {vo v v' : Value} (h : AllInv br w D wr vo O v R) (hs : DStep br v' (R.eraseIdx i) wr w2) :
    DOwn w2 w.heap.size vo O ∧ Blk w2 br 40 [v'] ∧ DOwn w2 0 v' (R.eraseIdx i) ∧ Below w.heap.size w w2 ∧ ∀ k, v'.ownBlock = some k → k ≠ br ∧ vo.ownBlock ≠ some k := by
  refine ⟨own_only h.out hs.only (fun k hk e => h.ne2 (e ▸ hk)), hs.blk, hs.own, h.below.trans (hs.only.toBelow h.below.size (fun k e => e ▸ h.old)), fun k hk => ?_⟩
  have h1 := hs.fresh k hk
  refine ⟨fun e => ?_, fun e => ?_⟩
  · have := h.blk.lt; omega
  · have := (h.out.lt k e).2; omega

theorem AllInv.next {br i : Nat} {w wr w2 w3 : World} {o : Obj} {D O R : List (Int × Int)} {vo v v' vo' : Value} {e : Int × Int} (h : AllInv br w D wr vo O v R) (hs : DStep br v' (R.eraseIdx i) wr w2) (hn : sortS R = e :: sortS (R.eraseIdx i))
    (hown : DOwn w3 w.heap.size vo' (O ++ [e])) (hg : (w2.alloc o).grownBy w3 vo.ownBlock) (hf : ∀ k, vo'.ownBlock = some k → vo.ownBlock = some k ∨ (w2.alloc o).heap.size ≤ k) : AllInv br w D w3 vo' (O ++ [e]) v' (R.eraseIdx i) := by
  obtain ⟨h1, h2, h3, h4, h5⟩ := h.step hs
  have hO : Only (fun k => vo.ownBlock = some k) w2 w3 := ((Only.refl _ w2).alloc o).grown hg (fun k e _ => e)
  refine ⟨h2.only hO h.ne2, own_only h3 hO (fun k hk e => (h5 k hk).2 e), hown, h.old, fun k hk => ⟨(h5 k hk).1, fun e => ?_⟩, fun e => ?_, by rw [List.append_assoc, List.singleton_append, ← hn, h.sum], h4.trans (hO.toBelow h4.size (fun k e => (h1.lt k e).1))⟩
  · rcases hf k e with h6 | h6
    · exact (h5 k hk).2 h6
    · have := (h3.lt k hk).2
      simp at h6; omega
  · rcases hf br e with h6 | h6
    · exact h.ne2 h6
    · have := h2.lt
      simp at h6; omega

theorem news_all {w : World} {k : Nat} {D : List (Int × Int)} {rest : List Value} (h : Blk w k 44 (enc2 D ++ rest)) : ∀ j u, (enc2 D)[j]? = some u → w.cell? ((⟨k, 0, none⟩ : Addr).add j) = some u := by
  have := news_take h D.length
  rwa [List.take_length] at this

theorem news_one {w : World} {k : Nat} {d x : Int} (h : Blk w k 44 [.int .i64 d, .int .i64 x]) : ∀ j u, (enc2 [(d, x)])[j]? = some u → w.cell? ((⟨k, 0, none⟩ : Addr).add j) = some u :=
  news_all (D := [(d, x)]) (rest := []) h

theorem run_append_none (w : World) (ty : TypeId) (k c : Nat) : (Builtin.append_ #[38, 38] ty #[.slice (some ⟨k, 0, none⟩) 0 0, .slice none 0 c]).run Try.prog w = .ok (.slice (some ⟨k, 0, none⟩) 0 0) w := by
  kernel_rfl

theorem wpList_append_d0 {w : World} {ops : Array Oper} {rest : List Oper} {o : Oper} {a : Act} {Q : Exit → Act → World → Prop} (hg : o.guard = none) (s x : Operand)
    (hop : o.op = Op.call { callee := Callee.builtin Builtin.append, args := #[s, x], argTypes := #[38, 38] })
    (k c : Nat) (hs : a.eval s = .slice (some ⟨k, 0, none⟩) 0 0) (hx : a.eval x = .slice none 0 c)
    (h : wpList Try.prog ops Q rest (a.put o.dst (.slice (some ⟨k, 0, none⟩) 0 0)) w) :
    wpList Try.prog ops Q (o :: rest) a w := by
  refine wpList_plain hg fun K hK' => ?_
  unfold Oper.wp execOp
  simp only [hop, resolve, invoke, builtin, Sem.run_bind, Sem.run_pure, Result.andThen_ok, List.map_toArray, List.map_cons, List.map_nil, hs, hx, run_append_none]
  exact hK' _ _ h

set_option maxRecDepth 100000 in
set_option maxHeartbeats 2000000 in
theorem rall_none (bw : Nat) (cap : Nat) (w : World) (hc : w.cell? ⟨bw, 0, none⟩ = some (.slice none (0 : Nat) cap)) :
    Calls Try.prog 22 #[.pointer (some ⟨bw, 0, none⟩)] w fun e w' => ∃ v, e = .returned v ∧ DOwn w' w.heap.size v [] ∧ Below w.heap.size w w' := by
  have c1 := Lib.cell?_alloc_some (.cells #[] 44) hc
  go_enter Try.func22, Try.ntmps22
  go_wp2_with (refine wpList_append_d0 rfl (.tmp 9) (.tmp 13) rfl w.heap.size cap rfl rfl ?_)
  refine wp_loop_rounds 1 ?_
  rw [rounds_succ]
  go_wp2_with fail
  go_ret
  refine ⟨_, rfl, own_empty (Blk.new' ((w.alloc (.cells #[] 44)).alloc _) [] 44 _ (by simp)) _ (by omega), ?_⟩
  exact (((Below.refl _ w).alloc (Nat.le_refl _) _).alloc (by simp) _).alloc (by simp; omega) _

set_option maxRecDepth 100000 in
set_option maxHeartbeats 2000000 in
theorem rall_zero (bw g : Nat) (cap : Nat) (cs : List Value) (w : World) (hc : w.cell? ⟨bw, 0, none⟩ = some (.slice (some ⟨g, 0, none⟩) (0 : Nat) cap)) :
    Calls Try.prog 22 #[.pointer (some ⟨bw, 0, none⟩)] w fun e w' => ∃ v, e = .returned v ∧ DOwn w' w.heap.size v [] ∧ Below w.heap.size w w' := by
  have c1 := Lib.cell?_alloc_some (.cells #[] 44) hc
  have hE : Blk (w.alloc (.cells #[] 44)) w.heap.size 44 [] := Blk.new w [] 44
  have hO := own_empty hE w.heap.size (Nat.le_refl _)
  go_enter Try.func22, Try.ntmps22
  go_wp2_with (refine wpList_append_d rfl (.tmp 9) (.tmp 13) rfl w.heap.size (.slice (some ⟨w.heap.size, 0, none⟩) 0 0) [] rfl hO ⟨g, 0, none⟩ 0 cap [] rfl rfl (fun j u h => by simp [enc2] at h) (by simp) (by simp) ?_; intro v1 w1 hown1 hg1 hf1; obtain ⟨a1, k1, rfl, -, -⟩ := DOwn.form (n := 0) hown1 rfl)
  refine wp_loop_rounds 1 ?_
  rw [rounds_succ]
  go_wp2_with fail
  go_ret
  have hb : Below w.heap.size w w1 := ((Only.refl (fun k => w.heap.size ≤ k) w).alloc _ |>.grown hg1 (fun k e _ => by cases e; exact Nat.le_refl _)).toBelow (Nat.le_refl _) (fun _ h => h)
  have hs := hb.size
  refine ⟨_, rfl, own_empty (Blk.new' (w1.alloc _) [] 44 _ (by simp)) _ (by omega), ?_⟩
  exact (hb.alloc (by omega) _).alloc (by simp; omega) _

set_option maxRecDepth 100000 in
set_option maxHeartbeats 2000000 in
theorem rall_some (bw n cap g : Nat) (D : List (Int × Int)) (rest : List Value) (w : World) (hn : D.length = n) (hpos : 0 < n) (hlen : (n : Int) ≤ 100000) (hc : w.cell? ⟨bw, 0, none⟩ = some (.slice (some ⟨g, 0, none⟩) n cap)) (hbw : bw < w.heap.size) (hB : Blk w g 44 (enc2 D ++ rest)) :
    Calls Try.prog 22 #[.pointer (some ⟨bw, 0, none⟩)] w fun e w' => ∃ v, e = .returned v ∧ DOwn w' w.heap.size v (sortS D) ∧ Below w.heap.size w w' := by
  have c1 := Lib.cell?_alloc_some (.cells #[] 44) hc
  have hE : Blk (w.alloc (.cells #[] 44)) w.heap.size 44 [] := Blk.new w [] 44
  have hO := own_empty hE w.heap.size (Nat.le_refl _)
  have HB1 : Hid (Blk (w.alloc (.cells #[] 44)) g 44 (enc2 D ++ rest)) := hB.alloc _
  have HN := Lib.hid hn
  have HE := Lib.hid hE
  clear hB hc hn hE
  go_enter Try.func22, Try.ntmps22
  go_wp2_with (refine wpList_append_d rfl (.tmp 9) (.tmp 13) rfl w.heap.size (.slice (some ⟨w.heap.size, 0, none⟩) 0 0) [] rfl hO ⟨g, 0, none⟩ n cap D rfl HN.out (news_all HB1.out) (by simp; omega) (by simp) ?_; intro v1 w1 hown1 hg1 hf1; obtain ⟨a1, k1, rfl, -, -⟩ := DOwn.form (n := n) hown1 HN.out)
  rw [List.nil_append] at hown1
  have HG1 : Hid (Below w.heap.size w w1) := ((Only.refl (fun k => w.heap.size ≤ k) w).alloc _ |>.grown hg1 (fun k e _ => by cases e; exact Nat.le_refl _)).toBelow (Nat.le_refl _) (fun _ h => h)
  have HI : Hid (AllInv w1.heap.size w D ((w1.alloc (.cells #[.slice a1 n k1] 40)).alloc (.cells #[] 44)) (.slice (some ⟨w1.heap.size + 1, 0, none⟩) 0 0) [] (.slice a1 n k1) D) := by
    have hs := HG1.out.size
    refine ⟨(Blk.new w1 [.slice a1 n k1] 40).alloc _, own_base (own_only hown1 (((Only.refl (fun _ => False) w1).alloc _).alloc _) (fun _ _ h => h)) (Nat.zero_le _), own_empty (Blk.new' (w1.alloc _) [] 44 _ (by simp)) _ (by omega), hs, fun k hk => ?_, fun e => ?_, rfl, (HG1.out.alloc (by omega) _).alloc (by simp; omega) _⟩
    · have := (hown1.lt k hk).2
      exact ⟨by omega, fun e => by have h9 : w1.heap.size + 1 = k := Option.some.inj e; omega⟩
    · have h9 : w1.heap.size + 1 = w1.heap.size := Option.some.inj e; omega
  obtain ⟨br, hbr⟩ : ∃ br, w1.heap.size = br := ⟨_, rfl⟩
  rw [hbr] at HI ⊢
  clear hO HB1 HE hown1 hg1 hf1 HG1 c1 hbr
  go_wp2_with fail
  go_loopw [4] (fun vo wr => ∃ (O R : List (Int × Int)) (v : Value) (ao : Option Addr) (no co : Nat), vo = .slice ao no co ∧ no + R.length = n ∧ Hid (AllInv br w D wr (.slice ao no co) O v R)) (fun vo _ => n - lenOf vo)
  case atStart => exact ⟨[], D, _, _, _, _, rfl, by rw [HN.out]; simp, HI.out⟩
  case round =>
    obtain ⟨O, R, v, ao, no, co, rfl, hsum, HR⟩ := hrel
    clear HI
    have HNO : Hid (no = O.length) := HR.out.out.len
    have hno : (O.length : Int) ≤ 100000 := by have := HNO.out; omega
    obtain ⟨r, hr⟩ : ∃ r, R.length = r := ⟨_, rfl⟩
    rw [hr] at hsum
    obtain ⟨ar, cr, rfl, q0, hbr, hD2⟩ := HR.out.dat.read hr
    have HD2 := Lib.hid hD2
    have HRR := Lib.hid hr
    clear hD2 hr
    by_cases hr0 : 0 < r
    · obtain ⟨i, hi, hn⟩ := firstTo_next (D := R) (fun e => by have := HRR.out; rw [e] at this; simp at this; omega)
      have hsn := sortS_next R i hn
      obtain ⟨⟨d, x⟩, he⟩ : ∃ e, R.getD i default = e := ⟨_, rfl⟩
      rw [he] at hsn
      have hil : i < R.length := hn.1
      rw [HRR.out] at hi hil
      have HE := Lib.hid he
      have HSN := Lib.hid hsn
      have HIX := Lib.hid hi
      have hrp : (0 : Int) < (r : Int) := by omega
      clear he hsn hn hi
      go_wp2_with fail
      refine (rdue_some br ar r cr R wr HRR.out (by omega) hr0 q0 hbr HD2.out i HIX.out hil d (by rw [HE.out])).mono ?_
      rintro e w2 ⟨rfl, hb2⟩
      have HR2 := Lib.hid (HR.out.drop1 hb2)
      clear hb2 q0
      go_wp2_with fail
      refine (rnext_ok d HR2.out.dat (by rw [HRR.out]; omega) i (by rw [HRR.out]; exact HIX.out) (by rw [HRR.out]; exact hil) d x HE.out (Int.le_refl _)).mono ?_
      rintro e w3 ⟨rfl, v', hs⟩
      have HS := Lib.hid hs
      have hown := (HR2.out.step hs).1
      have hl3 : (O.length : Int) + 1 ≤ 200000 := by omega
      have hsz3 : w.heap.size ≤ w3.heap.size := (HR2.out.step hs).2.2.2.1.size
      clear hs
      go_wp2_with (refine wpList_append_d rfl (.tmp 35) (.tmp 39) rfl w.heap.size (.slice ao no co) O rfl (own_only hown ((Only.refl (fun _ => False) w3).alloc _) (fun _ _ h => h)) ⟨w3.heap.size, 0, none⟩ 1 1 [(d, x)] rfl rfl (news_one (Blk.new w3 [.int .i64 d, .int .i64 x] 44)) hl3 (by rw [World.size_alloc]; omega) ?_; intro v3 w4 hown4 hg4 hf4; obtain ⟨a3, c3, rfl, -, -⟩ := DOwn.form (n := no + 1) hown4 (by rw [List.length_append, HNO.out]; rfl))
      have HF := Lib.hid (HR2.out.next HS.out HSN.out hown4 hg4 hf4)
      clear hown4 hg4 hf4 hown
      go_roundw
      case rel => exact ⟨O ++ [(d, x)], R.eraseIdx i, v', a3, no + 1, c3, rfl, by rw [List.length_eraseIdx_of_lt (by rw [HRR.out]; exact hil), HRR.out]; omega, HF.out⟩
      case measure => simp [lenOf]; omega
    · obtain rfl : r = 0 := by omega
      go_wp2_with fail
      go_ret
      have hz : R = [] := List.eq_nil_of_length_eq_zero HRR.out
      have hO := HR.out.out
      have hsm := HR.out.sum
      rw [hz, sortS_nil, List.append_nil] at hsm
      rw [hsm] at hO
      exact ⟨_, rfl, hO, HR.out.below⟩

/-- All of the document's queue. -/
theorem rall_any {F : Nat → Prop} {bw : Nat} {v : Value} {D : List (Int × Int)} {w : World} (h : DAt F bw v D w) (hlen : (D.length : Int) ≤ 100000) :
    Calls Try.prog 22 #[.pointer (some ⟨bw, 0, none⟩)] w fun e w' => ∃ v, e = .returned v ∧ DOwn w' w.heap.size v (sortS D) ∧ Below w.heap.size w w' := by
  obtain ⟨_, ⟨rfl, h0, _⟩ | ⟨g, cap, rest, rfl, _, hB, hc, _, hcl⟩⟩ := own_elim h.own
  · obtain rfl : D = [] := List.eq_nil_of_length_eq_zero h0
    exact rall_none bw 0 w (h.blk.cell 0)
  · by_cases hz : D.length = 0
    · obtain rfl : D = [] := List.eq_nil_of_length_eq_zero hz
      exact rall_zero bw g cap [] w (h.blk.cell 0)
    · exact rall_some bw D.length cap g D rest w rfl (by omega) hlen (h.blk.cell 0) h.blk.lt hB

end Go.Proofs.Ytdbpcogbednokaa
