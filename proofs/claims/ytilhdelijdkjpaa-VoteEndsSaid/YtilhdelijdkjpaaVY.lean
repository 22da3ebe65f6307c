/-
  best: the greatest view below one in which a value is prepared.
-/
import Derived.Test.YtilhdelijdkjpaaVX
import Derived.Test.YtilhdelijdkjpaaVU
set_option linter.unusedVariables false
set_option linter.unusedSimpArgs false
namespace Go.Proofs.Ytilhdelijdkjpaa
open Go Go.RowKit Go.Shelf Go.Maps Sac

attribute [local go_sem] Oper.semAt_some

/-- What best hands back. -/
def BestPost (o : Option (Int × Bs)) (w : World) (e : Ending) (w' : World) : Prop :=
  Below w.heap.size w w' ∧ ∃ v, e = .returned (.tuple #[.int .i64 ((o.map (·.1)).getD (-1)), v, .bool o.isSome]) ∧ RB w' v ((o.map (·.2)).getD [])

/-- What a view gives: the value prepared there, if the view lies below. -/
def fB (c : Core) (below z : Int) : Option (Int × Bs) := match prepared c z with
  | some v => if z < below then some (z, v) else none
  | none => none
theorem best_keys (c : Core) (below : Int) : best c below = (c.prepares.map (·.1)).reverse.findSome? (fB c below) := by
  unfold best
  rw [← List.map_reverse, List.findSome?_map]
  rfl
theorem rev_dn (ks : List Int) : ks.reverse = (dn ks.length ks.length).map fun j => ks.getD j 0 := by
  refine List.ext_getElem (by simp [dn]) fun i h1 h2 => ?_
  simp at h1
  have h3 : ks.length - 1 - i < ks.length := by omega
  simp [dn, List.getD_eq_getElem?_getD, h3]
theorem dn_prefix {n k : Nat} (h : k ≤ n) : ∃ r, dn n n = dn n k ++ r := by
  refine ⟨(dn n n).drop k, ?_⟩
  have : (dn n n).take k = dn n k := by
    unfold dn
    rw [← List.map_take, List.take_range, Nat.min_eq_left h]
  rw [← this, List.take_append_drop]
theorem mem_dn {len k j : Nat} : j ∈ dn len k ↔ ∃ i, i < k ∧ j = len - 1 - i := by
  simp only [dn, List.mem_map, List.mem_range]
  exact ⟨fun ⟨i, h1, h2⟩ => ⟨i, h1, h2.symm⟩, fun ⟨i, h1, h2⟩ => ⟨i, h1, h2.symm⟩⟩
/-- No place tells: there is none. -/
theorem best_none {c : Core} {below : Int} {ks : List Int} (hks : c.prepares.map (·.1) = ks) {ys : List (Pl ks.length)} (hy : ys.map (·.1) = dn ks.length ks.length) (hm : ∀ j ∈ ys, fB c below (ks.getD j.1 0) = none) : best c below = none := by
  rw [best_keys, hks, rev_dn, List.findSome?_eq_none_iff]
  intro z hz
  obtain ⟨j, hj, rfl⟩ := List.mem_map.1 hz
  rw [← hy] at hj
  obtain ⟨p, hp, rfl⟩ := List.mem_map.1 hj
  exact hm p hp
/-- The first place that tells. -/
theorem best_some {c : Core} {below : Int} {ks : List Int} (hks : c.prepares.map (·.1) = ks) {ini : List (Pl ks.length)} {last : Pl ks.length} {k : Nat} (hk : k ≤ ks.length) (hy : (ini ++ [last]).map (·.1) = dn ks.length k)
    (hm : ∀ j ∈ ini, fB c below (ks.getD j.1 0) = none) {r : Int × Bs} (hl : fB c below (ks.getD last.1 0) = some r) : best c below = some r := by
  obtain ⟨t, ht⟩ := dn_prefix hk
  rw [best_keys, hks, rev_dn, ht, ← hy, List.map_append, List.map_map, List.map_append, List.findSome?_append, List.findSome?_append]
  have h1 : (ini.map ((fun j => ks.getD j 0) ∘ fun x : Pl ks.length => x.1)).findSome? (fB c below) = none := by
    rw [List.findSome?_eq_none_iff]
    intro z hz
    obtain ⟨j, hj, rfl⟩ := List.mem_map.1 hz
    exact hm j hj
  rw [h1]
  simp only [Option.none_or, List.map_cons, List.map_nil, List.findSome?_cons, Function.comp, hl, Option.some_or]

/-- Between rounds: no place so far tells; nothing of what was there before the loop has changed. -/
def BI (c : Core) (below : Int) (ks : List Int) (n0 : Nat) (W0 : World) (pre : List (Pl ks.length)) (W : World) : Prop := (∀ j ∈ pre, fB c below (ks.getD j.1 0) = none) ∧ Below n0 W0 W
/-- A place told: its answer stands in the boxes of the results. -/
def BX (c : Core) (below : Int) (ks : List Int) (s : Nat) (w : World) (cd : Code) (pre : List (Pl ks.length)) (W : World) : Prop :=
  (cd = .ret ∧ ∃ ini last v bs z, pre = ini ++ [last] ∧ (∀ j ∈ ini, fB c below (ks.getD j.1 0) = none) ∧ ks.getD last.1 0 = z ∧ fB c below z = some (z, bs) ∧ RB W v bs ∧ W.cell? ⟨s + 1 + 1, 0, none⟩ = some (.int .i64 z) ∧ W.cell? ⟨s + 1 + 1 + 1, 0, none⟩ = some v ∧ W.cell? ⟨s + 1 + 1 + 1 + 1, 0, none⟩ = some (.bool true)) ∧ Below w.heap.size w W

theorem RB.kept {w w' : World} {v : Value} {bs : List Nat} {row : Option Nat} (h : RB w v bs) (hg : w.grownBy w' row) (hr : ∀ r, row = some r → ∃ o : Obj, w.heap[r]? = some o ∧ o.isCells = false) : RB w' v bs := by
  obtain ⟨a, cap, h1, h2, h3, h4, h5, h6⟩ := h
  exact ⟨a, cap, h1, h2, h3, h4, h5.same fun k ⟨cs, fr, hk⟩ => grownBy_keeps_cells hg hr hk rfl, h6⟩
/-- A store into a box of another kind. -/
theorem RB.boxed {w : World} {v : Value} {bs : List Nat} (h : RB w v bs) {k : Nat} {e : TypeId} {cs : List Value} (hb : Blk w k e cs) (he : 5 ≠ e) (o : Nat) (x : Value) : RB (w.setCell ⟨k, o, none⟩ x) v bs := by
  obtain ⟨a, cap, h1, h2, h3, h4, h5, h6⟩ := h
  refine ⟨a, cap, h1, h2, h3, h4, h5.same fun j hj => ?_, h6⟩
  have hne : j ≠ k := hj.ne hb he
  exact (Only.setCell (F := (· = k)) (Only.refl _ w) (p := ⟨k, o, none⟩) (fun _ => rfl) x).block j hj.lt hne

set_option maxRecDepth 100000 in
set_option maxHeartbeats 2000000 in
theorem best_any {acc : Bs → Bool} {col : Colour} {ci b : Nat} {w : World} {c : Core} (below : Int) (ht : Tinted col w) (h : CoreAt acc col ci w b c) (hok : CoreIn c) :
    Calls Try.prog 109 #[.pointer (some ⟨b, 0, none⟩), .int .i64 below] w (BestPost (best c below) w) := by
  refine (callsIn_wide (n := 6)).1 ?_
  obtain ⟨fv, wi, lo, va, pb, pp, cm, tn, sn, dc, h⟩ := h
  have hro : Fence.wide.round = none := rfl
  -- the boxes
  obtain ⟨W1, hW1⟩ : ∃ W1, (((((w.alloc (.cells #[.pointer (some ⟨b, 0, none⟩)] 26)).alloc (.cells #[.int .i64 below] 3)).alloc (.cells #[.int .i64 0] 3)).alloc (.cells #[.slice none 0 0] 29)).alloc (.cells #[.bool false] 4)) = W1 := ⟨_, rfl⟩
  obtain ⟨s, hs⟩ : ∃ s, w.heap.size = s := ⟨_, rfl⟩
  have hsz : W1.heap.size = s + 5 := by rw [← hW1, ← hs]; simp
  have hB1 : Below w.heap.size w W1 := by
    rw [← hW1]
    exact (((((Below.refl _ w).alloc (Nat.le_refl _) _).alloc (by simp) _).alloc (by simp; omega) _).alloc (by simp; omega) _).alloc (by simp; omega) _
  have b0 : Blk W1 s 26 [.pointer (some ⟨b, 0, none⟩)] := by rw [← hW1, ← hs]; exact ((((Blk.new w _ _).alloc _).alloc _).alloc _).alloc _
  have b1 : Blk W1 (s + 1) 3 [.int .i64 below] := by rw [← hW1, ← hs]; exact (((Blk.new' (w.alloc _) [.int .i64 below] _ _ (by simp)).alloc _).alloc _).alloc _
  have b2 : Blk W1 (s + 2) 3 [.int .i64 0] := by rw [← hW1, ← hs]; exact ((Blk.new' ((w.alloc _).alloc _) [.int .i64 0] _ _ (by simp)).alloc _).alloc _
  have b3 : Blk W1 (s + 3) 29 [.slice none 0 0] := by rw [← hW1, ← hs]; exact (Blk.new' (((w.alloc _).alloc _).alloc _) [.slice none 0 0] _ _ (by simp)).alloc _
  have b4 : Blk W1 (s + 4) 4 [.bool false] := by rw [← hW1, ← hs]; exact Blk.new' ((((w.alloc _).alloc _).alloc _).alloc _) [.bool false] _ _ (by simp)
  have ht1 := ht.below hB1
  have hc1 : CoreRaw acc col ci W1 b c fv wi lo va pb pp cm tn sn dc := h.ext (G := fun _ => False) (Ext.below ht hB1) ht (fun _ h => h)
  obtain ⟨_, _, _, _, _, _, _, _, d8, _⟩ := hc1.cells
  have hkk := (callsIn_wide (n := 5)).2 (viewsk_any (some pp) W1)
  obtain ⟨hcc, lo2, hmo, hr, hinj⟩ := id hc1.hpp
  have hsr := hc1.hpp.srts
  obtain ⟨ks, hks⟩ : ∃ ks, c.prepares.map (·.1) = ks := ⟨_, rfl⟩
  obtain ⟨n, hn⟩ : ∃ n, ks.length = n := ⟨_, rfl⟩
  have hln : n ≤ 4294967296 := by
    rw [← hn, ← hks, List.length_map]
    have := srt_length hsr.1 (a := 0) (b := 4294967295) (fun q hq => ⟨(hok.prepares q hq).1, (hok.prepares q hq).2.1⟩) (by omega)
    omega
  have hss := (callsIn_wide (n := 5)).2 (viewss_any pp lo2 W1 hmo (by rw [hr.length]; rw [← hks, List.length_map] at hn; omega))
  rw [hr.keys, hks] at hss
  rw [hsz] at hkk hss
  have c0 := b0.cell 0
  simp only [List.getElem?_cons_zero] at c0
  have HT := Lib.hid ht
  have HT1 := Lib.hid ht1
  have HC1 := Lib.hid hc1
  have HOK := Lib.hid hok
  have HKS := Lib.hid hks
  have HN := Lib.hid hn
  have HSR := Lib.hid hsr
  have HB0 := Lib.hid (And.intro b0 (And.intro b1 (And.intro b2 (And.intro b3 b4))))
  have HB1 := Lib.hid hB1
  have HSZ := Lib.hid hsz
  have HS := Lib.hid hs
  have HLN := Lib.hid hln
  have HW1 := Lib.hid hW1
  have f70 : Fence.wide.fn 70 := trivial
  have f69 : Fence.wide.fn 69 := trivial
  have f111 : Fence.wide.fn 111 := trivial
  have f125 : Fence.wide.fn 125 := trivial
  clear ht h hok hsr hks b0 b1 b2 b3 b4 ht1 hc1 hB1 hln hcc hmo hr hinj
  refine callsIn_of_wp_marks Try.func109 rfl trivial ?_ hro
  simp only [Try.ntmps109, List.size_toArray, List.length_cons, List.length_nil, Nat.reduceAdd, Nat.reduceSub, Array.replicate_succ, Array.replicate_zero, List.push_toArray, List.append_toArray, List.nil_append, List.cons_append]
  gi_wp2_with (first
    | (gi_at_call 70; refine hkk.mono ?_; rintro e w' ⟨rfl, rfl⟩)
    | (gi_at_call 69; refine hss.mono ?_; rintro e w2 ⟨v2, rfl, hown, hb2⟩; obtain ⟨ka, kc, rfl, hkc, hcell⟩ := hown.form; rw [hn] at hkc hcell hown ⊢; have hbk := (backward_in Fence.wide 5 trivial rfl ka n kc w2); have HCE := Lib.hid hcell; have HB2 := Lib.hid hb2; have HOWN := Lib.hid hown; clear hown hcell hb2)
    | (gi_at_call 125; refine hbk.mono ?_; rintro e w' ⟨rfl, rfl⟩))
  rename_i Kc hKc
  obtain ⟨u, hu⟩ : ∃ u, w2.heap.size = u := ⟨_, rfl⟩
  obtain ⟨W0, hW0⟩ : ∃ W0, w2.alloc (.cells #[.slice ka n kc] 51) = W0 := ⟨_, rfl⟩
  have hsz0 : W0.heap.size = u + 1 := by rw [← hW0, ← hu]; simp
  have hb20 : Below u w2 W0 := by rw [← hW0]; exact (Below.refl _ w2).alloc (by omega) _
  have hsu : s + 5 ≤ u := by have := HB2.out.size; have := HSZ.out; omega
  have hB10 : Below (s + 5) W1 W0 := HB2.out.trans (hb20.mono hsu)
  have hB10' : Below W1.heap.size W1 W0 := by rw [HSZ.out]; exact hB10
  have bS : Blk W0 u 51 [.slice ka n kc] := by rw [← hW0]; exact Blk.new' w2 [.slice ka n kc] _ u hu.symm
  have ht0 := HT1.out.below hB10'
  have hc0 : CoreRaw acc col ci W0 b c fv wi lo va pb pp cm tn sn dc := HC1.out.ext (G := fun _ => False) (Ext.below HT1.out hB10') HT1.out (fun _ h => h)
  have hww : Below w.heap.size w W0 := HB1.out.trans (hB10.mono (by have := HS.out; omega))
  have k0 := HB0.out.1.below hB10 (by omega)
  have k1 := HB0.out.2.1.below hB10 (by omega)
  have k2 := HB0.out.2.2.1.below hB10 (by omega)
  have k3 := HB0.out.2.2.2.1.below hB10 (by omega)
  have k4 := HB0.out.2.2.2.2.below hB10 (by omega)
  have HT0 := Lib.hid ht0
  have HC0 := Lib.hid hc0
  have HWW := Lib.hid hww
  have HK := Lib.hid (And.intro k0 (And.intro k1 (And.intro k2 (And.intro k3 k4))))
  have HSU := Lib.hid hsu
  have HSZ0 := Lib.hid hsz0
  have HB20 := Lib.hid hb20
  have HU := Lib.hid hu
  rw [hu, hW0]
  have hn9 := HN.out
  subst hn9
  clear ht0 hc0 hww k0 k1 k2 k3 k4 hsu hbk hss hkk d8 c0 hb20 hB10 hB10' hW1 hW0 hs hsz hu
  refine wpIn_rangeFunc_ownG hro (by omega) (gf := 138) (lb := #[.pointer (some ⟨u, 0, none⟩)]) rfl trivial (enters_of Try.func138 (by kernel_rfl) rfl)
    (backward_stops Fence.wide 5 trivial hro (by omega) u u ka kc ks (by have := HLN.out; omega) W0 (by omega) (by omega) (bS.cell 0) (fun i hi => by
      obtain ⟨g, e1, e2, e3, e4⟩ := HCE.out i hi
      have hgu : g < u := by have := HU.out; omega
      exact ⟨g, e1, hgu, by rw [← e4]; exact HB20.out.cell (p := ⟨g, i, none⟩) hgu⟩)) KB.t (KB.b (by omega) (by omega)) (Below.refl _ _) (fun _ => rfl)
    (BI c below ks (u + 1) W0)
    (BX c below ks s w)
    (OwnFrom.and (Own.from (fun q A B row hq hg hr => hq) _) (ownFrom_below (by omega) (by omega)))
    (fun cd => OwnFrom.and (Own.from (fun q A B row hq hg hr => by obtain ⟨hc, ini, last, v, bs, z, e1, e2, e3, e4, e5, e6, e7, e8⟩ := hq; exact ⟨hc, ini, last, v, bs, z, e1, e2, e3, e4, e5.kept hg hr, cell_kept e6 hg hr, cell_kept e7 hg hr, cell_kept e8 hg hr⟩) _) (ownFrom_below (Nat.le_refl _) (HWW.out.size)))
    ⟨by simp, (Below.refl _ _)⟩
    (fun x => { tmps := #[.pointer (some ⟨b, 0, none⟩), .int .i64 below, .pointer (some ⟨s, 0, none⟩), .pointer (some ⟨s + 1, 0, none⟩), .pointer (some ⟨s + 1 + 1, 0, none⟩), .pointer (some ⟨s + 1 + 1 + 1, 0, none⟩), .pointer (some ⟨s + 1 + 1 + 1 + 1, 0, none⟩), undef, .int .i64 (ks.getD x.1 0), undef, undef, .pointer (some ⟨b, 0, none⟩), .pointer (some ⟨b, 0, none⟩), .pointer (some ⟨b, 8, none⟩), .map (some pp), .func (.func 95) #[] #[.pointer (some ⟨s + 5, 0, none⟩)], .slice ka ks.length kc, .func (.func 138) #[] #[.pointer (some ⟨u, 0, none⟩)], .int .i64 (x.1 : Int), .int .i64 (ks.getD x.1 0), undef, undef, undef, undef, undef, undef, undef, undef, undef, undef, undef, undef, undef, undef], defers := [] }) ?assign ?body ?done ?stop
  case assign =>
    intro l x W K hK
    gi_wp2
    exact hK
  case body =>
    rintro q pre x W ⟨hmiss, hB⟩ _
    obtain ⟨z, hz⟩ : ∃ z, ks.getD x.1 0 = z := ⟨_, rfl⟩
    have hzm : z ∈ ks := by
      have hx := x.2
      rw [← hz, List.getD_eq_getElem?_getD, List.getElem?_eq_getElem hx]
      exact List.getElem_mem hx
    rw [← HKS.out] at hzm
    obtain ⟨qq, hq1, hq2⟩ := List.mem_map.1 hzm
    have hzb : -1 ≤ z ∧ z ≤ 4294967295 := by have := HOK.out.prepares qq hq1; rw [← hq2]; omega
    have hB' : Below W0.heap.size W0 W := by rw [HSZ0.out]; exact hB
    have htW := HT0.out.below hB'
    have hcW : CoreRaw acc col ci W b c fv wi lo va pb pp cm tn sn dc := HC0.out.ext (G := fun _ => False) (Ext.below HT0.out hB') HT0.out (fun _ h => h)
    have hpr := (callsIn_wide (n := 3)).2 (prepared_any z htW ⟨fv, wi, lo, va, pb, pp, cm, tn, sn, dc, hcW⟩ HOK.out hzb)
    have hsu := HSU.out
    have j0 := HK.out.1.below hB (by omega)
    have j1 := HK.out.2.1.below hB (by omega)
    have j2 := HK.out.2.2.1.below hB (by omega)
    have j3 := HK.out.2.2.2.1.below hB (by omega)
    have j4 := HK.out.2.2.2.2.below hB (by omega)
    have c0 := j0.cell 0
    simp only [List.getElem?_cons_zero] at c0
    obtain ⟨o, ho⟩ : ∃ o, prepared c z = o := ⟨_, rfl⟩
    rw [ho] at hpr
    have HJ := Lib.hid (And.intro j1 (And.intro j2 (And.intro j3 j4)))
    have HM := Lib.hid hmiss
    have HB := Lib.hid hB
    have HZ := Lib.hid hz
    have HO := Lib.hid ho
    rw [hz]
    clear hmiss hB hz ho hzm hzb hB' htW hcW j0 j1 j2 j3 j4 hq1 hq2 hsu
    rcases o with _ | bs
    · gi_wp2_with (gi_at_call 111; refine (CallsIn.inRound _ hpr).mono ?_; rintro e w3 ⟨hb3, v, rfl, hrb⟩; simp only [Option.isSome_none]; have HB3 := Lib.hid hb3; clear hb3 hrb hpr)
      have hb3 := HB3.out
      have hsz3 := HB.out.size
      refine ⟨⟨hb3.size, fun k o _ hk ho => (hb3.block k (Array.getElem?_eq_some_iff.1 hk).1).trans hk⟩, ⟨hb3.mono (by omega), hb3.block u (by omega)⟩, fun j hj => (List.mem_append.1 hj).elim (HM.out j) (fun e => ?_), HB.out.trans (hb3.mono (by omega))⟩
      simp only [List.mem_singleton] at e
      subst e
      rw [HZ.out]
      unfold fB
      rw [HO.out]
    · by_cases hzl : z < below
      · have hg : decide (z < below) = true := by simpa using hzl
        gi_wp2_with (gi_at_call 111; refine (CallsIn.inRound _ hpr).mono ?_; rintro e w3 ⟨hb3, v, rfl, hrb⟩; simp only [Option.isSome_some, Option.getD_some] at hrb ⊢; obtain ⟨va1, vc1, rfl, _⟩ := id hrb; have d1 : w3.cell? ⟨s + 1, 0, none⟩ = some (.int .i64 below) := (HJ.out.1.same (hb3.block _ HJ.out.1.lt)).cell 0; have g1 : w3.frozen? ⟨s + 1, 0, none⟩ = false := (HJ.out.1.same (hb3.block _ HJ.out.1.lt)).frozen 0; have d2 : w3.cell? ⟨s + 1 + 1, 0, none⟩ = some (.int .i64 0) := (HJ.out.2.1.same (hb3.block _ HJ.out.2.1.lt)).cell 0; have g2 : w3.frozen? ⟨s + 1 + 1, 0, none⟩ = false := (HJ.out.2.1.same (hb3.block _ HJ.out.2.1.lt)).frozen 0; have d3 : w3.cell? ⟨s + 1 + 1 + 1, 0, none⟩ = some (.slice none 0 0) := (HJ.out.2.2.1.same (hb3.block _ HJ.out.2.2.1.lt)).cell 0; have g3 : w3.frozen? ⟨s + 1 + 1 + 1, 0, none⟩ = false := (HJ.out.2.2.1.same (hb3.block _ HJ.out.2.2.1.lt)).frozen 0; have d4 : w3.cell? ⟨s + 1 + 1 + 1 + 1, 0, none⟩ = some (.bool false) := (HJ.out.2.2.2.same (hb3.block _ HJ.out.2.2.2.lt)).cell 0; have g4 : w3.frozen? ⟨s + 1 + 1 + 1 + 1, 0, none⟩ = false := (HJ.out.2.2.2.same (hb3.block _ HJ.out.2.2.2.lt)).frozen 0; have HB3 := Lib.hid hb3; have HRB := Lib.hid hrb; clear hb3 hrb hpr)
        have hb3 := HB3.out
        have j2 : Blk w3 (s + 1 + 1) 3 [.int .i64 0] := HJ.out.2.1.same (hb3.block _ HJ.out.2.1.lt)
        have j3 : Blk w3 (s + 1 + 1 + 1) 29 [.slice none 0 0] := HJ.out.2.2.1.same (hb3.block _ HJ.out.2.2.1.lt)
        have j4 : Blk w3 (s + 1 + 1 + 1 + 1) 4 [.bool false] := HJ.out.2.2.2.same (hb3.block _ HJ.out.2.2.2.lt)
        have hs9 := HS.out
        have hsz3 := HB.out.size
        have hkf : KeepsFrom (u + 1) W w3 := ⟨hb3.size, fun k o _ hk ho => (hb3.block k (Array.getElem?_eq_some_iff.1 hk).1).trans hk⟩
        refine ⟨hkf.trans ((((KeepsOthers.setCell _ _ _).trans (KeepsOthers.setCell _ _ _)).trans (KeepsOthers.setCell _ _ _)).from _), ⟨rfl, pre, x, _, bs, z, rfl, HM.out, HZ.out, ?_, (((HRB.out.boxed j2 (by decide) 0 _).boxed (j3.other _ _ (by show s + 1 + 1 + 1 ≠ s + 1 + 1; omega)) (by decide) 0 _).boxed ((j4.other _ _ (by show s + 1 + 1 + 1 + 1 ≠ s + 1 + 1; omega)).other _ _ (by show s + 1 + 1 + 1 + 1 ≠ s + 1 + 1 + 1; omega)) (by decide) 0 _), ?_, ?_, ?_⟩, ?_⟩
        · unfold fB
          rw [HO.out]
          exact if_pos hzl
        · exact (((j2.set 0 (.int .i64 z)).other _ _ (by show s + 1 + 1 ≠ s + 1 + 1 + 1; omega)).other _ _ (by show s + 1 + 1 ≠ s + 1 + 1 + 1 + 1; omega)).cell 0
        · exact (((j3.other ⟨s + 1 + 1, 0, none⟩ (.int .i64 z) (by show s + 1 + 1 + 1 ≠ s + 1 + 1; omega)).set 0 (.slice va1 bs.length vc1)).other _ _ (by show s + 1 + 1 + 1 ≠ s + 1 + 1 + 1 + 1; omega)).cell 0
        · exact ((((j4.other ⟨s + 1 + 1, 0, none⟩ (.int .i64 z) (by show s + 1 + 1 + 1 + 1 ≠ s + 1 + 1; omega)).other ⟨s + 1 + 1 + 1, 0, none⟩ (.slice va1 bs.length vc1) (by show s + 1 + 1 + 1 + 1 ≠ s + 1 + 1 + 1; omega))).set 0 (.bool true)).cell 0
        · have h9 := (HWW.out.trans (HB.out.mono (by have := HSU.out; omega))).trans (hb3.mono (by have := HSU.out; omega))
          exact ((h9.setCell (p := ⟨s + 1 + 1, 0, none⟩) (by show w.heap.size ≤ s + 1 + 1; omega) _).setCell (p := ⟨s + 1 + 1 + 1, 0, none⟩) (by show w.heap.size ≤ s + 1 + 1 + 1; omega) _).setCell (p := ⟨s + 1 + 1 + 1 + 1, 0, none⟩) (by show w.heap.size ≤ s + 1 + 1 + 1 + 1; omega) _
      · have hg : decide (z < below) = false := by simpa using hzl
        gi_wp2_with (gi_at_call 111; refine (CallsIn.inRound _ hpr).mono ?_; rintro e w3 ⟨hb3, v, rfl, hrb⟩; simp only [Option.isSome_some, Option.getD_some] at hrb ⊢; obtain ⟨va1, vc1, rfl, _⟩ := id hrb; have d1 : w3.cell? ⟨s + 1, 0, none⟩ = some (.int .i64 below) := (HJ.out.1.same (hb3.block _ HJ.out.1.lt)).cell 0; have g1 : w3.frozen? ⟨s + 1, 0, none⟩ = false := (HJ.out.1.same (hb3.block _ HJ.out.1.lt)).frozen 0; have d2 : w3.cell? ⟨s + 1 + 1, 0, none⟩ = some (.int .i64 0) := (HJ.out.2.1.same (hb3.block _ HJ.out.2.1.lt)).cell 0; have g2 : w3.frozen? ⟨s + 1 + 1, 0, none⟩ = false := (HJ.out.2.1.same (hb3.block _ HJ.out.2.1.lt)).frozen 0; have d3 : w3.cell? ⟨s + 1 + 1 + 1, 0, none⟩ = some (.slice none 0 0) := (HJ.out.2.2.1.same (hb3.block _ HJ.out.2.2.1.lt)).cell 0; have g3 : w3.frozen? ⟨s + 1 + 1 + 1, 0, none⟩ = false := (HJ.out.2.2.1.same (hb3.block _ HJ.out.2.2.1.lt)).frozen 0; have d4 : w3.cell? ⟨s + 1 + 1 + 1 + 1, 0, none⟩ = some (.bool false) := (HJ.out.2.2.2.same (hb3.block _ HJ.out.2.2.2.lt)).cell 0; have g4 : w3.frozen? ⟨s + 1 + 1 + 1 + 1, 0, none⟩ = false := (HJ.out.2.2.2.same (hb3.block _ HJ.out.2.2.2.lt)).frozen 0; have HB3 := Lib.hid hb3; have HRB := Lib.hid hrb; clear hb3 hrb hpr)
        have hb3 := HB3.out
        have hsz3 := HB.out.size
        refine ⟨⟨hb3.size, fun k o _ hk ho => (hb3.block k (Array.getElem?_eq_some_iff.1 hk).1).trans hk⟩, ⟨hb3.mono (by omega), hb3.block u (by omega)⟩, fun j hj => (List.mem_append.1 hj).elim (HM.out j) (fun e => ?_), HB.out.trans (hb3.mono (by omega))⟩
        simp only [List.mem_singleton] at e
        subst e
        rw [HZ.out]
        unfold fB
        rw [HO.out]
        exact if_neg (by omega)
  case done =>
    rintro D ys W hD hys ⟨hne, hB⟩ hK
    have hsu := HSU.out
    have j2 : Blk W (s + 1 + 1) 3 [.int .i64 0] := HK.out.2.2.1.below hB (by omega)
    have j3 : Blk W (s + 1 + 1 + 1) 29 [.slice none 0 0] := HK.out.2.2.2.1.below hB (by omega)
    have j4 : Blk W (s + 1 + 1 + 1 + 1) 4 [.bool false] := HK.out.2.2.2.2.below hB (by omega)
    have d2 : W.cell? ⟨s + 1 + 1, 0, none⟩ = some (.int .i64 0) := j2.cell 0
    have d3 : W.cell? ⟨s + 1 + 1 + 1, 0, none⟩ = some (.slice none 0 0) := j3.cell 0
    have d4 : W.cell? ⟨s + 1 + 1 + 1 + 1, 0, none⟩ = some (.bool false) := j4.cell 0
    have g2 : W.frozen? ⟨s + 1 + 1, 0, none⟩ = false := j2.frozen 0
    have g3 : W.frozen? ⟨s + 1 + 1 + 1, 0, none⟩ = false := j3.frozen 0
    have g4 : W.frozen? ⟨s + 1 + 1 + 1 + 1, 0, none⟩ = false := j4.frozen 0
    have HBN := Lib.hid (best_none HKS.out hys hne)
    have HB := Lib.hid hB
    have HJ := Lib.hid (And.intro j2 (And.intro j3 j4))
    have HDK := Lib.hid hK
    clear hys hne hB j2 j3 j4 hK hsu
    refine hKc _ _ ?_
    gi_wp2
    obtain ⟨j2, j3, j4⟩ := HJ.out
    have hs9 := HS.out
    have q2 := ((j2.set 0 (.int .i64 (-1))).other ⟨s + 1 + 1 + 1, 0, none⟩ (.slice none 0 0) (by show s + 1 + 1 ≠ s + 1 + 1 + 1; omega)).other ⟨s + 1 + 1 + 1 + 1, 0, none⟩ (.bool false) (by show s + 1 + 1 ≠ s + 1 + 1 + 1 + 1; omega)
    have q3 := ((j3.other ⟨s + 1 + 1, 0, none⟩ (.int .i64 (-1)) (by show s + 1 + 1 + 1 ≠ s + 1 + 1; omega)).set 0 (.slice none 0 0)).other ⟨s + 1 + 1 + 1 + 1, 0, none⟩ (.bool false) (by show s + 1 + 1 + 1 ≠ s + 1 + 1 + 1 + 1; omega)
    have q4 := ((j4.other ⟨s + 1 + 1, 0, none⟩ (.int .i64 (-1)) (by show s + 1 + 1 + 1 + 1 ≠ s + 1 + 1; omega)).other ⟨s + 1 + 1 + 1, 0, none⟩ (.slice none 0 0) (by show s + 1 + 1 + 1 + 1 ≠ s + 1 + 1 + 1; omega)).set 0 (.bool false)
    obtain ⟨Wf, hWf⟩ : ∃ Wf, ((W.setCell ⟨s + 1 + 1, 0, none⟩ (.int .i64 (-1))).setCell ⟨s + 1 + 1 + 1, 0, none⟩ (.slice none 0 0)).setCell ⟨s + 1 + 1 + 1 + 1, 0, none⟩ (.bool false) = Wf := ⟨_, rfl⟩
    have hK' : Wf.heap[D]? = some (.deferred (some [])) := by
      rw [← hWf]
      exact (((KeepsOthers.setCell _ _ _).trans (KeepsOthers.setCell _ _ _)).trans (KeepsOthers.setCell _ _ _)).same D _ HDK.out rfl
    have hBf : Below w.heap.size w Wf := by
      rw [← hWf]
      exact (((HWW.out.trans (HB.out.mono (by have := HSU.out; omega))).setCell (p := ⟨s + 1 + 1, 0, none⟩) (by show w.heap.size ≤ s + 1 + 1; omega) _).setCell (p := ⟨s + 1 + 1 + 1, 0, none⟩) (by show w.heap.size ≤ s + 1 + 1 + 1; omega) _).setCell (p := ⟨s + 1 + 1 + 1 + 1, 0, none⟩) (by show w.heap.size ≤ s + 1 + 1 + 1 + 1; omega) _
    rw [hWf] at q2 q3 q4 ⊢
    have hr : ∀ r, some D = some r → ∃ o : Obj, Wf.heap[r]? = some o ∧ o.isCells = false := fun r e => by cases e; exact ⟨_, hK', rfl⟩
    have h2 := cell_kept (q2.cell 0) (grownBy_putObj' Wf D (.deferred none)) hr
    have h3 := cell_kept (q3.cell 0) (grownBy_putObj' Wf D (.deferred none)) hr
    have h4 := cell_kept (q4.cell 0) (grownBy_putObj' Wf D (.deferred none)) hr
    have hBn := HBN.out
    have hsz9 := HWW.out.size
    refine ⟨by simp, .inl ⟨_, _, rfl, run_takeDeferred hK', ?_⟩⟩
    refine ⟨.tuple #[.int .i64 (-1), .slice none 0 0, .bool false], ?_, ?_⟩
    · simp [results, Try.f109, go_sem, h2, h3, h4]
    · rw [hBn]
      exact ⟨hBf.trans (belowK_b (w := W0) (by omega) _ D _ _ hD hK' rfl rfl), _, rfl, RB.nil _⟩
  case stop =>
    rintro D cd pre W hD ⟨k, hk, hpre⟩ ⟨⟨rfl, ini, last, v, bs, z, rfl, e2, e3, e4, e5, e6, e7, e8⟩, hB⟩ hK
    have HBS := Lib.hid (best_some HKS.out hk hpre e2 (by rw [e3]; exact e4))
    have HRB := Lib.hid e5
    have HB := Lib.hid hB
    have HDK := Lib.hid hK
    clear e2 e3 e4 e5 hpre hB hK
    gi_wp2
    have hK' := HDK.out
    have hs9 := HS.out
    have hsz9 := HWW.out.size
    have hr : ∀ r, some D = some r → ∃ o : Obj, W.heap[r]? = some o ∧ o.isCells = false := fun r e => by cases e; exact ⟨_, hK', rfl⟩
    have h2 := cell_kept e6 (grownBy_putObj' W D (.deferred none)) hr
    have h3 := cell_kept e7 (grownBy_putObj' W D (.deferred none)) hr
    have h4 := cell_kept e8 (grownBy_putObj' W D (.deferred none)) hr
    have hBn := HBS.out
    refine ⟨by simp, .inl ⟨_, _, rfl, run_takeDeferred hK', ?_⟩⟩
    refine ⟨.tuple #[.int .i64 z, v, .bool true], ?_, ?_⟩
    · simp [results, Try.f109, go_sem, h2, h3, h4]
    · rw [hBn]
      exact ⟨HB.out.trans (belowK_b (w := W0) (by omega) _ D _ _ hD hK' rfl rfl), _, rfl, HRB.out.kept (grownBy_putObj' W D (.deferred none)) hr⟩

end Go.Proofs.Ytilhdelijdkjpaa
