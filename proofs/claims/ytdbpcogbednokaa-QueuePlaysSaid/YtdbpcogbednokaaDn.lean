/-
  The document's queue: Due, Next.
-/
import Derived.Test.YtdbpcogbednokaaDc
set_option linter.unusedVariables false
set_option linter.unusedSimpArgs false
namespace Go.Proofs.Ytdbpcogbednokaa
open Go.RowKit

theorem info44 : (Try.prog.info? 44).map (fun i => (i.zero, i.size, i.bytes)) = some (some (.agg #[.int .i64 0, .int .i64 0]), 2, 16) := by kernel_rfl

set_option maxHeartbeats 400000 in
theorem rdue_nil (bw : Nat) (a : Option Addr) (cap : Nat) (w : World) (hc : w.cell? ⟨bw, 0, none⟩ = some (.slice a (0 : Nat) cap)) (hbw : bw < w.heap.size) :
    Calls Try.prog 20 #[.pointer (some ⟨bw, 0, none⟩)] w fun e w' => e = .returned (.tuple #[.int .i64 0, .bool false]) ∧ Below w.heap.size w w' := by
  have hf := first_any bw a 0 cap [] w rfl (by decide) hc hbw (fun i hi => by simp at hi)
  rw [show firstTo [] 0 = -1 from rfl] at hf
  go_enter Try.func20, Try.ntmps20
  go_wp2_with fail
  refine hf.mono ?_
  rintro e w1 ⟨rfl, hb⟩
  go_wp2_with fail
  go_ret2
  exact ⟨rfl, hb⟩

set_option maxHeartbeats 400000 in
theorem rdue_some (bw : Nat) (a : Option Addr) (n cap : Nat) (D : List (Int × Int)) (w : World) (hn : D.length = n) (hlen : (n : Int) ≤ 100000) (hpos : 0 < n)
    (hc : w.cell? ⟨bw, 0, none⟩ = some (.slice a n cap)) (hbw : bw < w.heap.size) (hD : D2 w a D) (i : Nat) (hi : firstTo D n = i) (hil : i < n) (d : Int) (hd : (D.getD i default).1 = d) :
    Calls Try.prog 20 #[.pointer (some ⟨bw, 0, none⟩)] w fun e w' => e = .returned (.tuple #[.int .i64 d, .bool true]) ∧ Below w.heap.size w w' := by
  have hf := first_any bw a n cap D w hn hlen hc hbw hD
  rw [hi] at hf
  obtain ⟨g, rfl, hg, c0, _⟩ := hD i (by omega)
  rw [hd] at c0
  have hin : (i : Int) < (n : Int) := by omega
  have HF := Lib.hid hf
  clear hf hD hn hi hd
  go_enter Try.func20, Try.ntmps20
  go_wp2_with fail
  refine HF.out.mono ?_
  rintro e w1 ⟨rfl, hb⟩
  have k0 : w1.cell? ⟨g, i * 2, none⟩ = _ := (hb.cell (p := ⟨g, i * 2, none⟩) hg).trans c0
  have k1 : w1.cell? ⟨bw, 0, none⟩ = _ := (hb.cell (p := ⟨bw, 0, none⟩) hbw).trans hc
  have HB := Lib.hid hb
  clear c0 hc hb
  go_wp2_with fail
  go_ret2
  exact ⟨rfl, HB.out⟩

/-- The document's queue behind block bw: its row is its own, its blocks are of the set F. -/
structure DAt (F : Nat → Prop) (bw : Nat) (v : Value) (D : List (Int × Int)) (w : World) : Prop where
  blk : Blk w bw 40 [v]
  own : DOwn w 0 v D
  ne : ∀ k, v.ownBlock = some k → k ≠ bw
  mine : F bw ∧ ∀ k, v.ownBlock = some k → F k

/-- What has come of it: only its own block may have changed; its row is a new one. -/
structure DStep (bw : Nat) (v' : Value) (D' : List (Int × Int)) (w w' : World) : Prop where
  only : Only (· = bw) w w'
  blk : Blk w' bw 40 [v']
  own : DOwn w' 0 v' D'
  fresh : ∀ k, v'.ownBlock = some k → w.heap.size ≤ k

theorem enc2_take (D : List (Int × Int)) : ∀ i, enc2 (D.take i) = (enc2 D).take (i * 2) := by
  induction D with
  | nil => intro i; simp [enc2]
  | cons b D ih =>
    intro i
    cases i with
    | zero => simp [enc2]
    | succ i =>
      rw [List.take_succ_cons, enc2_cons, enc2_cons, show (i + 1) * 2 = i * 2 + 1 + 1 by omega, List.take_succ_cons, List.take_succ_cons, ih i]
theorem enc2_drop (D : List (Int × Int)) : ∀ i, enc2 (D.drop i) = (enc2 D).drop (i * 2) := by
  induction D with
  | nil => intro i; simp [enc2]
  | cons b D ih =>
    intro i
    cases i with
    | zero => simp [enc2]
    | succ i =>
      rw [List.drop_succ_cons, enc2_cons, show (i + 1) * 2 = i * 2 + 1 + 1 by omega, List.drop_succ_cons, List.drop_succ_cons, ih i]
/-- A part of a block, as what is appended. -/
theorem news_at {w : World} {k : Nat} {e : TypeId} {cs : List Value} (h : Blk w k e cs) (o : Nat) (news : List Value) (hn : ∀ j u, news[j]? = some u → cs[o + j]? = some u) : ∀ j u, news[j]? = some u → w.cell? ((⟨k, o, none⟩ : Addr).add j) = some u := by
  intro j u hj
  have h1 := h.cell (o + j)
  rw [hn j u hj] at h1
  unfold Addr.add
  by_cases h0 : j = 0
  · subst h0; simpa using h1
  · simpa [h0] using h1
theorem news_take {w : World} {k : Nat} {D : List (Int × Int)} {rest : List Value} (h : Blk w k 44 (enc2 D ++ rest)) (i : Nat) : ∀ j u, (enc2 (D.take i))[j]? = some u → w.cell? ((⟨k, 0, none⟩ : Addr).add j) = some u := by
  refine news_at h 0 _ fun j u hj => ?_
  rw [enc2_take] at hj
  obtain ⟨h1, h2⟩ := List.getElem?_eq_some_iff.1 hj
  simp only [List.length_take] at h1
  rw [Nat.zero_add, List.getElem?_append_left (by omega)]
  rw [List.getElem?_take, if_pos (by omega)] at hj
  exact hj
theorem news_drop {w : World} {k : Nat} {D : List (Int × Int)} {rest : List Value} (h : Blk w k 44 (enc2 D ++ rest)) (i : Nat) : ∀ j u, (enc2 (D.drop i))[j]? = some u → w.cell? ((⟨k, i * 2, none⟩ : Addr).add j) = some u := by
  refine news_at h (i * 2) _ fun j u hj => ?_
  rw [enc2_drop] at hj
  obtain ⟨h1, h2⟩ := List.getElem?_eq_some_iff.1 hj
  simp only [List.length_drop] at h1
  rw [List.getElem?_append_left (by omega)]
  rw [List.getElem?_drop] at hj
  exact hj
/-- An empty row of its own. -/
theorem own_empty {w : World} {k : Nat} (hB : Blk w k 44 []) (base : Nat) (hb : base ≤ k) : w.ownsRow base 44 2 (.slice (some ⟨k, 0, none⟩) 0 0) 0 [] :=
  own_intro (rest := []) hb hB (Nat.le_refl _) (by unfold maxLen; omega) rfl rfl

theorem grown_keep {W w2 : World} {k n c kk : Nat} {e : TypeId} {cs : List Value} (hg : W.grownBy w2 (Value.slice (some ⟨k, 0, none⟩) n c).ownBlock) (hb : Blk W kk e cs) (hne : kk ≠ k) : Blk w2 kk e cs := hb.same (hg.block kk hb.lt fun e => hne (Option.some.inj e))

theorem grown_keep2 {W w2 : World} {r : Option Nat} {kk : Nat} {e : TypeId} {cs : List Value} (hg : W.grownBy w2 r) (hb : Blk W kk e cs) (hne : ∀ j, r = some j → kk ≠ j) : Blk w2 kk e cs := hb.same (hg.block kk hb.lt fun e => hne kk e.symm rfl)
theorem own_apart {w : World} {base e size n kk : Nat} {v : Value} {xs : List Value} (h : w.ownsRow base e size v n xs) (hk : kk < base) : ∀ j, v.ownBlock = some j → kk ≠ j := fun j e => by have := (h.lt j e).1; omega
theorem own_form {w : World} {base e size n : Nat} {v : Value} {xs : List Value} (h : w.ownsRow base e size v n xs) : ∃ a c, v = .slice a n c := by
  obtain ⟨_, ⟨rfl, rfl, _⟩ | ⟨g, cap, rest, rfl, _⟩⟩ := own_elim h
  · exact ⟨none, 0, rfl⟩
  · exact ⟨_, cap, rfl⟩

theorem dstep_mk {bw : Nat} {D' : List (Int × Int)} {w w1 W w2 w3 : World} {v1 v3 : Value} {a : Option Addr} {n c k : Nat} {xs : List Value} (hbw : bw < w1.heap.size) (hq : ∃ v, Blk w1 bw 40 [v])
    (hb : Below w.heap.size w w1) (hW : Only (fun _ => False) w1 W) (h2 : W.grownBy w2 (some k)) (hk : w1.heap.size ≤ k) (h3 : w2.grownBy w3 v1.ownBlock) (hv1 : ∀ j, v1.ownBlock = some j → w1.heap.size ≤ j)
    (hown : w3.ownsRow w1.heap.size 44 2 v3 n xs) (hn : n = D'.length) (hx : xs = enc2 D') (hform : v3 = .slice a n c) : DStep bw v3 D' w (w3.setCell ⟨bw, 0, none⟩ v3) := by
  subst hn hx
  obtain ⟨v, hq⟩ := hq
  have hO : Only (fun _ => False) w1 w3 := (hW.grown h2 (fun j e hj => by cases e; omega)).grown h3 (fun j e hj => by have := hv1 j e; omega)
  have hO2 : Only (· = bw) w1 (w3.setCell ⟨bw, 0, none⟩ v3) := Only.setCell (hO.mono (G := (· = bw)) (fun _ h => h.elim)) (p := ⟨bw, 0, none⟩) (fun _ => rfl) _
  have hq3 : Blk w3 bw 40 [v] := hq.only hO (fun h => h)
  refine ⟨(Only.below hb).trans' hO2 (fun i h _ => h), hq3.set 0 v3, ?_, fun k hk => Nat.le_trans hb.size (hown.lt k hk).1⟩
  obtain ⟨hl, h | ⟨g, cap, rest, rfl, hg, hB, h4, h5, h6⟩⟩ := own_elim hown
  · exact ⟨hl, .inl ⟨h.1, h.2.1⟩⟩
  · exact own_intro (Nat.zero_le _) (hB.other _ _ (by show g ≠ bw; omega)) h4 h5 h6 hl

set_option maxRecDepth 100000 in
set_option maxHeartbeats 2000000 in
theorem rnext_room (bw g n cap : Nat) (D : List (Int × Int)) (rest : List Value) (now : Int) (w : World) (hn : D.length = n) (hlen : (n : Int) ≤ 100000) (hpos : 0 < n) (hcap : n ≤ cap)
    (hQ : Blk w bw 40 [.slice (some ⟨g, 0, none⟩) n cap]) (hB : Blk w g 44 (enc2 D ++ rest)) (hne : g ≠ bw) (i : Nat) (hi : firstTo D n = i) (hil : i < n) (d x : Int) (hd : D.getD i default = (d, x)) (hnow : d ≤ now) (ad : Addr) (had : (if cap = i + 1 then (some ⟨g, 0, none⟩ : Option Addr) else some ⟨g, (i + 1) * 2, none⟩) = some ad)
    (hnw : ∀ W, Blk W g 44 (enc2 D ++ rest) → ∀ j u, (enc2 (D.drop (i + 1)))[j]? = some u → W.cell? (ad.add j) = some u) :
    Calls Try.prog 16 #[.pointer (some ⟨bw, 0, none⟩), .int .i64 now] w fun e w' => e = .returned (.tuple #[.int .i64 x, .bool true]) ∧ ∃ v', DStep bw v' (D.eraseIdx i) w w' := by
  obtain ⟨i0, hi0, hz0, hz1, hz2⟩ := info_parts info44
  have hc : w.cell? ⟨bw, 0, none⟩ = some (.slice (some ⟨g, 0, none⟩) n cap) := hQ.cell 0
  have hbw := hQ.lt
  have hD : D2 w (some ⟨g, 0, none⟩) D := fun i hi => ⟨g, rfl, hB.lt, by rw [hB.cell]; exact (enc2_get D rest i hi).1, by rw [hB.cell]; exact (enc2_get D rest i hi).2⟩
  have hf := first_any bw _ n cap D w hn hlen hc hbw hD
  rw [hi] at hf
  obtain ⟨g', e', hg, c0, c1⟩ := hD i (by omega)
  obtain rfl : g = g' := by simpa using e'
  rw [hd] at c0 c1
  dsimp only at c0 c1
  have hin : (i : Int) < (n : Int) := by omega
  have hi0' : ¬ (i : Int) < 0 := by omega
  have HF := Lib.hid hf
  have HQ := Lib.hid hQ
  have HB := Lib.hid hB
  clear hf hD hi hd hc e' hQ hB
  go_enter Try.func16, Try.ntmps16
  go_wp2_with fail
  refine HF.out.mono ?_
  rintro e w1 ⟨rfl, hb⟩
  have k0 : w1.cell? ⟨g, i * 2, none⟩ = _ := (hb.cell (p := ⟨g, i * 2, none⟩) hg).trans c0
  have k1 : w1.cell? ⟨g, i * 2 + 1, none⟩ = _ := (hb.cell (p := ⟨g, i * 2 + 1, none⟩) hg).trans c1
  have HQ1 := Lib.hid (HQ.out.below hb HQ.out.lt)
  have HB1 := Lib.hid (HB.out.below hb HB.out.lt)
  have q1 : w1.cell? ⟨bw, 0, none⟩ = some (.slice (some ⟨g, 0, none⟩) n cap) := HQ1.out.cell 0
  have HBe := Lib.hid hb
  clear c0 c1 hb HQ HB HF
  go_wp2_with fail
  rename_i Kc hKc
  have hE : Blk (w1.alloc (.cells #[] 44)) w1.heap.size 44 [] := Blk.new w1 [] 44
  have hO := own_empty hE w1.heap.size (Nat.le_refl _)
  have HBa : Hid (Blk (w1.alloc (.cells #[] 44)) g 44 (enc2 D ++ rest)) := HB1.out.alloc _
  have HQa : Hid (Blk (w1.alloc (.cells #[] 44)) bw 40 [.slice (some ⟨g, 0, none⟩) n cap]) := HQ1.out.alloc _
  have q2 : (w1.alloc (.cells #[] 44)).cell? ⟨bw, 0, none⟩ = some (.slice (some ⟨g, 0, none⟩) n cap) := HQa.out.cell 0
  have hbw1 := HQ1.out.lt
  have hg1 := HB1.out.lt
  have hgw : g ≠ w1.heap.size := by omega
  have hbw2 : bw ≠ w1.heap.size := by omega
  have hi1 : (i : Int) + 1 ≤ (n : Int) := by omega
  have h0i1 : (0 : Int) ≤ (i : Int) + 1 := by omega
  have hle2 : i ≤ cap := by omega
  have hwr : IntKind.i64.wrap ((i : Int) + 1) = (i : Int) + 1 := by rw [IntKind.wrap_i64]; omega
  have ht1 : ((i : Int) + 1).toNat = i + 1 := by omega
  have hnl : (enc2 (D.take i)).length = i * 2 := by rw [length_enc2, List.length_take]; omega
  have hnl2 : (enc2 (D.drop (i + 1))).length = (n - (i + 1)) * 2 := by rw [length_enc2, List.length_drop]; omega
  have HNL := Lib.hid hnl
  have HNL2 := Lib.hid hnl2
  have HHD := Lib.hid hn
  have HNW := Lib.hid hnw
  clear hnl hnl2 hn hnw
  go_region_law (first
    | (refine step_append_own rfl (.tmp 33) (.tmp 39) 38 rfl w1.heap.size 44 i0 _ 2 16 Try.underlying38 hi0 hz0 hz1 hz2 rfl (by decide) (.slice (some ⟨w1.heap.size, 0, none⟩) 0 0) 0 [] rfl hO ⟨g, 0, none⟩ i cap (enc2 (D.take i)) rfl HNL.out (news_take HBa.out i) (enc2_one _) (by unfold maxLen; omega) (by omega) (by simp) ?_; intro v1 w2 hown2 hg2 hf2; have HB2 : Hid (Blk w2 g 44 (enc2 D ++ rest)) := grown_keep hg2 HBa.out hgw; have HQ2 : Hid (Blk w2 bw 40 [.slice (some ⟨g, 0, none⟩) n cap]) := grown_keep hg2 HQa.out hbw2; have q3 : w2.cell? ⟨bw, 0, none⟩ = some (.slice (some ⟨g, 0, none⟩) n cap) := HQ2.out.cell 0)
    | (refine step_append_own rfl (.tmp 40) (.tmp 47) 38 rfl w1.heap.size 44 i0 _ 2 16 Try.underlying38 hi0 hz0 hz1 hz2 rfl (by decide) v1 (0 + i) _ rfl hown2 ad (n - (i + 1)) (cap - (i + 1)) (enc2 (D.drop (i + 1))) rfl HNL2.out (HNW.out _ HB2.out) (enc2_one _) (by unfold maxLen; omega) (by omega) (by have := hg2.size; simp at this; omega) ?_; intro v3 w3 hown3 hg3 hf3; obtain ⟨a3, c3, rfl⟩ := own_form hown3; have HQ3 : Hid (Blk w3 bw 40 [.slice (some ⟨g, 0, none⟩) n cap]) := grown_keep2 hg3 HQ2.out (own_apart hown2 hbw1); have q4 := HQ3.out.cell 0; have f4 := HQ3.out.frozen 0; have HS := Lib.hid (And.intro hown2 (And.intro hg2 (And.intro hown3 hg3))))
    | fail)
  all_goals
    clear q1 q2 q3 q4 f4 hE hO hf2 hf3 hown2 hown3 hg2 hg3
    refine hKc _ _ ?_
    go_wp2_with fail
    go_ret2
    have h5 := HS.out.2.2.1
    rw [Nat.zero_add] at h5
    refine ⟨rfl, _, dstep_mk hbw1 ⟨_, HQ1.out⟩ HBe.out ((Only.refl _ w1).alloc _).drew HS.out.2.1 (Nat.le_refl _) HS.out.2.2.2 (fun j e => (HS.out.1.lt j e).1) h5 ?_ ?_ rfl⟩
    · rw [List.length_eraseIdx_of_lt (by rw [HHD.out]; exact hil), HHD.out]; omega
    · rw [List.eraseIdx_eq_take_drop_succ, enc2_append]; rfl

theorem D2.nil (w : World) (a : Option Addr) : D2 w a [] := fun i hi => by simp at hi

set_option maxHeartbeats 400000 in
theorem rnext_nil (bw : Nat) (a : Option Addr) (cap : Nat) (now : Int) (w : World) (hc : w.cell? ⟨bw, 0, none⟩ = some (.slice a (0 : Nat) cap)) (hbw : bw < w.heap.size) :
    Calls Try.prog 16 #[.pointer (some ⟨bw, 0, none⟩), .int .i64 now] w fun e w' => e = .returned (.tuple #[.int .i64 0, .bool false]) ∧ Below w.heap.size w w' := by
  have hf := first_any bw a 0 cap [] w rfl (by decide) hc hbw (D2.nil w a)
  rw [show firstTo [] 0 = -1 from rfl] at hf
  go_enter Try.func16, Try.ntmps16
  go_wp2_with fail
  refine hf.mono ?_
  rintro e w1 ⟨rfl, hb⟩
  go_wp2_with fail
  go_ret2
  exact ⟨rfl, hb⟩

set_option maxHeartbeats 1000000 in
theorem rnext_early (bw : Nat) (a : Option Addr) (n cap : Nat) (D : List (Int × Int)) (now : Int) (w : World) (hn : D.length = n) (hlen : (n : Int) ≤ 100000)
    (hc : w.cell? ⟨bw, 0, none⟩ = some (.slice a n cap)) (hbw : bw < w.heap.size) (hD : D2 w a D) (i : Nat) (hi : firstTo D n = i) (hil : i < n) (d : Int) (hd : (D.getD i default).1 = d) (hnow : now < d) :
    Calls Try.prog 16 #[.pointer (some ⟨bw, 0, none⟩), .int .i64 now] w fun e w' => e = .returned (.tuple #[.int .i64 0, .bool false]) ∧ Below w.heap.size w w' := by
  have hf := first_any bw a n cap D w hn hlen hc hbw hD
  rw [hi] at hf
  obtain ⟨g, rfl, hg, c0, _⟩ := hD i (by omega)
  rw [hd] at c0
  have hin : (i : Int) < (n : Int) := by omega
  have hi0 : ¬ ((i : Int) < 0) := by omega
  have HF := Lib.hid hf
  clear hf hD hn hi hd
  go_enter Try.func16, Try.ntmps16
  go_wp2_with fail
  refine HF.out.mono ?_
  rintro e w1 ⟨rfl, hb⟩
  have k0 : w1.cell? ⟨g, i * 2, none⟩ = _ := (hb.cell (p := ⟨g, i * 2, none⟩) hg).trans c0
  have k1 : w1.cell? ⟨bw, 0, none⟩ = _ := (hb.cell (p := ⟨bw, 0, none⟩) hbw).trans hc
  have HB := Lib.hid hb
  clear c0 hc hb
  go_wp2_with fail
  go_ret2
  exact ⟨rfl, HB.out⟩

theorem DAt.read {F : Nat → Prop} {bw : Nat} {v : Value} {D : List (Int × Int)} {w : World} (h : DAt F bw v D w) {n : Nat} (hn : D.length = n) : ∃ a cap, v = .slice a n cap ∧ w.cell? ⟨bw, 0, none⟩ = some (.slice a n cap) ∧ bw < w.heap.size ∧ D2 w a D := by
  obtain ⟨a, cap, rfl, h2, _⟩ := h.own.form hn
  exact ⟨a, cap, rfl, h.blk.cell 0, h.blk.lt, h2⟩

theorem rnext_ok {F : Nat → Prop} {bw : Nat} {v : Value} {D : List (Int × Int)} {w : World} (now : Int) (h : DAt F bw v D w) (hlen : (D.length : Int) ≤ 100000) (i : Nat) (hi : firstTo D D.length = i) (hil : i < D.length) (d x : Int) (hd : D.getD i default = (d, x)) (hnow : d ≤ now) :
    Calls Try.prog 16 #[.pointer (some ⟨bw, 0, none⟩), .int .i64 now] w fun e w' => e = .returned (.tuple #[.int .i64 x, .bool true]) ∧ ∃ v', DStep bw v' (D.eraseIdx i) w w' := by
  obtain ⟨_, ⟨rfl, h0, _⟩ | ⟨g, cap, rest, rfl, _, hB, hc, _, hcl⟩⟩ := own_elim h.own
  · omega
  · have hne := h.ne g rfl
    by_cases hcap : cap = i + 1
    · have hz : D.drop (i + 1) = [] := List.drop_eq_nil_of_le (by omega)
      exact rnext_room bw g _ cap D rest now w rfl hlen (by omega) hc h.blk hB hne i hi hil d x hd hnow ⟨g, 0, none⟩ (by rw [if_pos hcap]) (fun W _ j u hj => by rw [hz] at hj; simp [enc2] at hj)
    · exact rnext_room bw g _ cap D rest now w rfl hlen (by omega) hc h.blk hB hne i hi hil d x hd hnow ⟨g, (i + 1) * 2, none⟩ (by rw [if_neg hcap]) (fun W hW => news_drop hW (i + 1))

end Go.Proofs.Ytdbpcogbednokaa
