/-
  vote.set: a value that a peer told in a view, if it is the first one.
-/
import Derived.Test.YtilhdelijdkjpaaVN
import Derived.Deep.RegionWith
import Derived.Maps.OwnSet
import Derived.Deep.RegionHeld3
import Derived.Deep.RegionLaw
import Derived.Deep.RegionLawGrows
set_option linter.unusedVariables false
set_option linter.unusedSimpArgs false
namespace Go.Proofs.Ytilhdelijdkjpaa
open Go Go.RowKit Go.Maps Sac

theorem RB.len {w : World} {v : Value} {bs : List Nat} (h : RB w v bs) : (bs.length : Int) ≤ 9223372036854775807 := by
  obtain ⟨_, cap, _, h2, h3, _⟩ := h
  omega

theorem RB.map {w1 w2 : World} {v : Value} {bs : List Nat} {ib : Nat} {l : List (Int × Value)} (h : RB w1 v bs) (hg : w1.grownBy w2 (some ib)) (hm : MapAt Try.prog 3 w1 ib l) : RB w2 v bs := by
  obtain ⟨a, cap, h1, h2, h3, h4, h5, h6⟩ := h
  refine ⟨a, cap, h1, h2, h3, h4, h5.same (fun k hk => hg.block k hk.lt (fun e => ?_)), h6⟩
  obtain rfl := Option.some.inj e
  obtain ⟨es, clock, hb, _⟩ := hm.own
  obtain ⟨cs, fr, he⟩ := hk
  rw [hb] at he; cases he

theorem IB.map {w1 w2 : World} {v : Value} {bs : List Nat} {ib : Nat} {l : List (Int × Value)} (h : IB w1 v bs) (hg : w1.grownBy w2 (some ib)) (hm : MapAt Try.prog 3 w1 ib l) : IB w2 v bs := by
  obtain ⟨a, cap, h1, h2, h3, h4, h5, h6⟩ := h
  refine ⟨a, cap, h1, h2, h3, h4, fun hn => ?_, h6⟩
  obtain ⟨ad, e, hc⟩ := h5 hn
  refine ⟨ad, e, fun j u hu => ?_⟩
  have hcell := hc j u hu
  have hlt := cell_lt hcell
  have hne : some (ad.add j).block ≠ some ib := fun e2 => by
    have e3 := Option.some.inj e2
    obtain ⟨es, clock, hb, _⟩ := hm.own
    rw [← e3] at hb
    simp [World.cell?, hb] at hcell
  rw [World.cell?_of_block (w := w1) (hg.block _ hlt hne)]
  exact hcell

/-- A step that writes only the map ib (of core ci's part p), behind steps that only made new things. -/
theorem Ext.put {col : Colour} {w w1 w2 : World} {ci p ib : Nat} (ht : Tinted col w) (hc : col ib = some (ci, p)) (hb : Below w.heap.size w w1) (hg : w1.grownBy w2 (some ib)) (hm : ∃ l, MapAt Try.prog 3 w2 ib l) : Ext (· = (ci, p)) col w col w2 := by
  have hO : Only (fun k => ∃ q, col k = some q ∧ q = (ci, p)) w w2 := (Only.below hb).grown hg (fun k e _ => by cases e; exact ⟨_, hc, rfl⟩)
  refine ⟨fun _ _ => rfl, hO, fun k q hk e => by have := ht.lo k q e; omega, fun k q e => Nat.lt_of_lt_of_le (ht.lo k q e) hO.size, fun k q e hE => ?_⟩
  by_cases hk : k = ib
  · subst hk
    obtain ⟨l, hm⟩ := hm
    obtain ⟨es, clock, hb, _⟩ := hm.own
    obtain ⟨cs, fr, he⟩ := hE
    rw [hb] at he; cases he
  · obtain ⟨cs, fr, he⟩ := hE
    have h1 := ht.lo k q e
    have h2 := hg.block k (Nat.lt_of_lt_of_le h1 hb.size) (fun e => hk (Option.some.inj e))
    exact ht.nb k q e ⟨cs, fr, ((hb.block k h1).symm.trans h2.symm).trans he⟩

theorem nomap2 (x : Int) (w : World) (hx : (Lit.int .i64 x).wf = true) : (Instr.lookup 108 (.map none) (.int .i64 x) true).run Try.prog w = .ok (.tuple #[.slice none 0 0, .bool false]) w :=
  Maps.look_nil true keyedI Try.underlying108 (Try.zeroValue29 w) (keyOf64 Try.underlying3 hx)
theorem nomap1 (x : Int) (w : World) (hx : (Lit.int .i64 x).wf = true) : (Instr.lookup 108 (.map none) (.int .i64 x) false).run Try.prog w = .ok (.slice none 0 0) w :=
  Maps.look_nil false keyedI Try.underlying108 (Try.zeroValue29 w) (keyOf64 Try.underlying3 hx)
theorem eq_map (w : World) (b : Nat) : (binOp .eql 108 (.map (some b)) (.map none)).run Try.prog w = .ok (.bool false) w := by kernel_rfl
theorem eq_nomap (w : World) : (binOp .eql 108 (.map none) (.map none)).run Try.prog w = .ok (.bool true) w := by kernel_rfl

set_option maxRecDepth 100000 in
set_option maxHeartbeats 1000000 in
theorem set_there (ob ib : Nat) (lo : List (Int × Value)) (li : List (Int × Value)) (view who : Int) (v x : Value) (w : World) (ho : MapAt Try.prog 3 w ob lo) (hi : MapAt Try.prog 3 w ib li) (h1 : lookM lo view = some (.map (some ib))) (h2 : lookM li who = some x) (hv : (Lit.int .i64 view).wf = true) (hw : (Lit.int .i64 who).wf = true) :
    Calls Try.prog 87 #[.map (some ob), .int .i64 view, .int .i64 who, v] w fun e w' => e = .returned (.bool false) ∧ w' = w := by
  have l1 := ho.lookOne Try.underlying3 Try.underlying105 (Try.zeroValue108 w) hv
  have l2 := hi.lookTwo Try.underlying3 Try.underlying108 (Try.zeroValue29 w) hw
  rw [h1] at l1
  rw [h2] at l2
  have l3 : (Instr.lookup 105 (.map (some ob)) (.int .i64 view) false).run Try.prog w = .ok (.map (some ib)) w := l1
  have l4 : (Instr.lookup 108 (.map (some ib)) (.int .i64 who) true).run Try.prog w = .ok (.tuple #[x, .bool true]) w := l2
  clear l1 l2 h1 h2 ho hi
  go_enter Try.func87, Try.ntmps87
  go_wp2_with fail
  go_ret
  exact ⟨rfl, rfl⟩

set_option maxRecDepth 100000 in
set_option maxHeartbeats 2000000 in
theorem set_new (ob ib : Nat) (lo : List (Int × Value)) (li : List (Int × Value)) (view who : Int) (v : Value) (bs : Bs) (w : World) (ho : MapAt Try.prog 3 w ob lo) (hi : MapAt Try.prog 3 w ib li) (h1 : lookM lo view = some (.map (some ib))) (h2 : lookM li who = none) (hv : (Lit.int .i64 view).wf = true) (hw : (Lit.int .i64 who).wf = true)
    (hb : IB w v bs) (hlen : bs.length ≤ 10000000000000) (hli : li.length ≤ 10000000000) :
    Calls Try.prog 87 #[.map (some ob), .int .i64 view, .int .i64 who, v] w fun e w' => e = .returned (.bool true) ∧ ∃ (w1 : World) (v' : Value), Below w.heap.size w w1 ∧ w1.grownBy w' (some ib) ∧ MapAt Try.prog 3 w' ib (putM who v' li) ∧ RB w' v' bs := by
  have l1 := ho.lookOne Try.underlying3 Try.underlying105 (Try.zeroValue108 w) hv
  have l2 := hi.lookTwo Try.underlying3 Try.underlying108 (Try.zeroValue29 w) hw
  rw [h1] at l1
  rw [h2] at l2
  have l3 : (Instr.lookup 105 (.map (some ob)) (.int .i64 view) false).run Try.prog w = .ok (.map (some ib)) w := l1
  have l4 : (Instr.lookup 108 (.map (some ib)) (.int .i64 who) true).run Try.prog w = .ok (.tuple #[.slice none 0 0, .bool false]) w := l2
  have HO := Lib.hid ho
  have HI := Lib.hid hi
  have H1 := Lib.hid h1
  have HB := Lib.hid hb
  have HV := Lib.hid hv
  have HW := Lib.hid hw
  have l1d := (show MapAt Try.prog 3 w.drew ob lo from ho.same rfl).lookOne Try.underlying3 Try.underlying105 (Try.zeroValue108 w.drew) hv
  rw [h1] at l1d
  have l3d : (Instr.lookup 105 (.map (some ob)) (.int .i64 view) false).run Try.prog w.drew = .ok (.map (some ib)) w.drew := l1d
  have e1 := eq_map w ib
  clear l1 l1d l2 h1 h2 ho hi hb hv hw
  go_enter Try.func87, Try.ntmps87
  go_wp2_with fail
  rename_i Kc hKc
  clear l4 e1
  have hz : ∀ W, (zeroValue 108).run Try.prog W = .ok (.map none) W := Try.zeroValue108
  have HCL := Lib.hid (clone_in v bs w.drew (show IB w.drew v bs from HB.out) hlen)
  go_region_law (first
    | (go_simp; go_at_call 62; refine HCL.out.mono ?_; rintro e w1 ⟨v1, rfl, hbuf, hb0⟩; have hb1 : Below w.heap.size w w1 := (Below.refl _ w).drew.trans hb0; clear hb0; have hob := HO.out.below hb1 HO.out.lt; have hib := HI.out.below hb1 HI.out.lt; have m1 := hob.lookOne Try.underlying3 Try.underlying105 (hz w1) HV.out; rw [H1.out] at m1; have m2 : (Instr.lookup 105 (.map (some ob)) (.int .i64 view) false).run Try.prog w1 = .ok (.map (some ib)) w1 := m1; obtain ⟨w2, hrun, hput, hg2⟩ := hib.put Try.underlying3 Try.underlying108 (by unfold maxLen; omega) HW.out v1; have HH := Lib.hid (And.intro hbuf (And.intro hb1 (And.intro hput hg2))); clear hbuf hb1 hput hg2 hob hib m1)
    | fail)
  all_goals
    refine hKc _ _ ?_
    go_wp2_with fail
    go_ret
    obtain ⟨hbuf, hb1, hput, hg2⟩ := HH.out
    exact ⟨rfl, w1, v1, hb1, hg2, hput, (hbuf.rb).map hg2 (HI.out.below hb1 HI.out.lt)⟩

set_option maxRecDepth 100000 in
set_option maxHeartbeats 2000000 in
theorem set_first (ob : Nat) (lo : List (Int × Value)) (view who : Int) (v : Value) (bs : Bs) (w : World) (ho : MapAt Try.prog 3 w ob lo) (h1 : lookM lo view = none) (hv : (Lit.int .i64 view).wf = true) (hw : (Lit.int .i64 who).wf = true)
    (hb : IB w v bs) (hlen : bs.length ≤ 10000000000000) (hlo : lo.length ≤ 10000000000) :
    Calls Try.prog 87 #[.map (some ob), .int .i64 view, .int .i64 who, v] w fun e w' => e = .returned (.bool true) ∧ ∃ (ib : Nat) (v' : Value), w.heap.size = ib ∧ ib < w'.heap.size ∧ Only (· = ob) w w' ∧ MapAt Try.prog 3 w' ob (putM view (.map (some ib)) lo) ∧ MapAt Try.prog 3 w' ib [(who, v')] ∧ RB w' v' bs := by
  have hmm := @run_makeMap Try.prog
  have l1 := ho.lookOne Try.underlying3 Try.underlying105 (Try.zeroValue108 w) hv
  rw [h1] at l1
  have l3 : (Instr.lookup 105 (.map (some ob)) (.int .i64 view) false).run Try.prog w = .ok (.map none) w := l1
  have e1 := eq_nomap w
  have l5 := nomap2 who w hw
  -- the new map
  obtain ⟨ib, hib⟩ : ∃ ib, w.heap.size = ib := ⟨_, rfl⟩
  have hne : ob ≠ ib := by have := ho.lt; omega
  have hoA : MapAt Try.prog 3 (w.alloc (.map #[] 0)) ob lo := ho.same (Below.heap_alloc _ _ _ ho.lt)
  have hiA : MapAt Try.prog 3 (w.alloc (.map #[] 0)) ib [] := hib ▸ MapAt.made w
  obtain ⟨wB, hrunB, hoB, hgB⟩ := hoA.put Try.underlying3 Try.underlying105 (by unfold maxLen; omega) hv (.map (some ib))
  have hiB : MapAt Try.prog 3 wB ib [] := hiA.same (hgB.block ib hiA.lt (fun e => hne (Option.some.inj e).symm))
  have hlB : lookM (putM view (Value.map (some ib)) lo) view = some (.map (some ib)) := by rw [lookM_putM _ _ _ ho.srt, if_pos rfl]
  have hOB : Only (· = ob) w wB := ((Only.refl (· = ob) w).alloc _).grown hgB (fun k e _ => (Option.some.inj e).symm)
  have hbB : IB wB v bs := ((hb.below ((Below.refl _ w).alloc (Nat.le_refl _) _))).map hgB hoA
  have l1d := (show MapAt Try.prog 3 wB.drew ob _ from hoB.same rfl).lookOne Try.underlying3 Try.underlying105 (Try.zeroValue108 wB.drew) hv
  rw [hlB] at l1d
  have l3d : (Instr.lookup 105 (.map (some ob)) (.int .i64 view) false).run Try.prog wB.drew = .ok (.map (some ib)) wB.drew := l1d
  have HO := Lib.hid hoB
  have HI := Lib.hid hiB
  have H1 := Lib.hid hlB
  have HB := Lib.hid hbB
  have HV := Lib.hid hv
  have HW := Lib.hid hw
  have HOB := Lib.hid hOB
  have HIB := Lib.hid hib
  have HNE := Lib.hid hne
  rw [← hib] at hrunB
  have hz : ∀ W, (zeroValue 108).run Try.prog W = .ok (.map none) W := Try.zeroValue108
  have HCL := Lib.hid (clone_in v bs wB.drew (show IB wB.drew v bs from hbB) hlen)
  clear l1 l1d h1 ho hb hoA hiA hoB hiB hlB hOB hbB hgB hib hne hv hw
  go_enter Try.func87, Try.ntmps87
  go_wp2_with fail
  rename_i Kc hKc
  clear l3 l5 e1 hrunB
  go_region_law (first
    | (go_simp; go_at_call 62; refine HCL.out.mono ?_; rintro e w1 ⟨v1, rfl, hbuf, hb0⟩; have hb1 : Below wB.heap.size wB w1 := (Below.refl _ wB).drew.trans hb0; clear hb0; have hob := HO.out.below hb1 HO.out.lt; have hib := HI.out.below hb1 HI.out.lt; have m1 := hob.lookOne Try.underlying3 Try.underlying105 (hz w1) HV.out; rw [H1.out] at m1; have m2 : (Instr.lookup 105 (.map (some ob)) (.int .i64 view) false).run Try.prog w1 = .ok (.map (some ib)) w1 := m1; obtain ⟨w2, hrun, hput, hg2⟩ := hib.put Try.underlying3 Try.underlying108 (by unfold maxLen; simp) HW.out v1; have HH := Lib.hid (And.intro hbuf (And.intro hb1 (And.intro hput hg2))); clear hbuf hb1 hput hg2 hob hib m1)
    | fail)
  all_goals
    refine hKc _ _ ?_
    go_wp2_with fail
    go_ret
    obtain ⟨hbuf, hb1, hput, hg2⟩ := HH.out
    have hne := HNE.out
    refine ⟨rfl, ib, v1, HIB.out, ?_, ?_, ?_, hput, (hbuf.rb).map hg2 (HI.out.below hb1 HI.out.lt)⟩
    · exact hput.lt
    · exact (HOB.out.trans (Only.below hb1)).trans' (G := (· = ib)) ((Only.refl _ w1).grown hg2 (fun k e _ => (Option.some.inj e).symm)) (fun k e hk => by have := HIB.out; omega)
    · exact (HO.out.below hb1 HO.out.lt).same (hg2.block ob (Nat.lt_of_lt_of_le HO.out.lt hb1.size) (fun e => hne (Option.some.inj e)))

/-- The keys lie between these. -/
def KeysIn {α : Type} (a b : Int) (l : List (Int × α)) : Prop := ∀ p ∈ l, a ≤ p.1 ∧ p.1 ≤ b
theorem srt_length {α : Type} {b : Int} : ∀ {l : List (Int × α)} {a : Int}, Srt l → KeysIn a b l → a ≤ b + 1 → (l.length : Int) ≤ b - a + 1
  | [], a, _, _, h => by simp; omega
  | p :: l, a, hs, hk, h => by
    have h' := List.pairwise_cons.1 hs
    have h1 := hk p (by simp)
    have h2 := srt_length (l := l) (a := p.1 + 1) (b := b) h'.2 (fun q hq => ⟨by have := h'.1 q hq; omega, (hk q (by simp [hq])).2⟩) (by omega)
    simp; omega
theorem KeysIn.wf {α : Type} {a b : Int} {l : List (Int × α)} (h : KeysIn a b l) (ha : -9223372036854775808 ≤ a) (hb : b ≤ 9223372036854775807) : KeysOk l := fun p hp => wf64_mk (by have := h p hp; omega) (by have := h p hp; omega)

/-- What a map of views holds is of views and peers. -/
def MapsOk (m : List (Int × TellM)) : Prop := ∀ p ∈ m, 0 ≤ p.1 ∧ p.1 ≤ 4294967295 ∧ KeysIn 1 64 p.2

theorem RelM.put2 {α β : Type} {Q Q' : α → β → Prop} {l : List (Int × α)} {t : List (Int × β)} (h : RelM Q l t) (k : Int) {v : α} {y : β} (hq : Q' v y) (hm : ∀ (x : Int × α) b, x ∈ l → x.1 ≠ k → Q x.2 b → Q' x.2 b) (hs : Srt l) : RelM Q' (putM k v l) (putM k y t) := by
  induction h with
  | nil => exact RelM.cons ⟨rfl, hq⟩ RelM.nil
  | @cons x z l t h1 h2 ih =>
    have h' := List.pairwise_cons.1 hs
    have hrest : (∀ p ∈ l, p.1 ≠ k) → RelM Q' l t := fun hne => by
      clear ih h' hs
      have hm2 : ∀ (x : Int × α) b, x ∈ l → Q x.2 b → Q' x.2 b := fun x' b hx' => hm x' b (by simp [hx']) (hne x' hx')
      clear hm hne
      induction h2 with
      | nil => exact RelM.nil
      | cons g1 _ ih2 => exact RelM.cons ⟨g1.1, hm2 _ _ (by simp) g1.2⟩ (ih2 (fun x' b hx' => hm2 x' b (by simp [hx'])))
    unfold putM
    rw [← h1.1]
    by_cases e : k < x.1
    · rw [if_pos e, if_pos e]
      exact RelM.cons ⟨rfl, hq⟩ (RelM.cons ⟨h1.1, hm x _ (by simp) (by omega) h1.2⟩ (hrest (fun p hp => by have := h'.1 p hp; omega)))
    · rw [if_neg e, if_neg e]
      by_cases e2 : k = x.1
      · rw [if_pos e2, if_pos e2]
        exact RelM.cons ⟨rfl, hq⟩ (hrest (fun p hp => by have := h'.1 p hp; omega))
      · rw [if_neg e2, if_neg e2]
        exact RelM.cons ⟨h1.1, hm x _ (by simp) (by omega) h1.2⟩ (ih (fun x' b hx' => hm x' b (by simp [hx'])) h'.2)
theorem putM_self {α : Type} {k : Int} {v : α} {l : List (Int × α)} (hs : Srt l) (h : lookM l k = some v) : putM k v l = l := by
  induction l with
  | nil => cases h
  | cons p l ih =>
    have h' := List.pairwise_cons.1 hs
    rw [lookM_cons] at h
    unfold putM
    by_cases e : p.1 = k
    · rw [if_pos e] at h
      rw [if_neg (by omega), if_pos e.symm, ← e, ← Option.some.inj h]
    · rw [if_neg e] at h
      have hm := h'.1 _ (lookM_mem h)
      simp at hm
      rw [if_neg (by omega), if_neg (by omega), ih h'.2 h]

/-- What set hands back. -/
def SetPost (o : Option (List (Int × TellM))) (col : Colour) (ci p : Nat) (ob : Nat) (w : World) (e : Ending) (w' : World) : Prop :=
  match o with
  | none => e = .returned (.bool false) ∧ w' = w
  | some m' => e = .returned (.bool true) ∧ ∃ col', Ext (· = (ci, p)) col w col' w' ∧ ViewsAt col' ci p w' ob m'

theorem set_in {col : Colour} {ci p ob : Nat} {m : List (Int × TellM)} {w : World} (view who : Int) (v : Value) (bs : Bs) (ht : Tinted col w) (hm : ViewsAt col ci p w ob m) (hok : MapsOk m) (hv : 0 ≤ view ∧ view ≤ 4294967295) (hw : 1 ≤ who ∧ who ≤ 64) (hb : IB w v bs) (hlen : bs.length ≤ 10000000000000) :
    Calls Try.prog 87 #[.map (some ob), .int .i64 view, .int .i64 who, v] w (SetPost (setV m view who bs) col ci p ob w) := by
  obtain ⟨hc, lo, hmo, hr, hinj⟩ := hm
  have hv6 : (Lit.int .i64 view).wf = true := wf64_mk (by omega) (by omega)
  have hw6 : (Lit.int .i64 who).wf = true := wf64_mk (by omega) (by omega)
  have hsm := hr.srt hmo.srt
  have hlo : lo.length ≤ 10000000000 := by
    have := srt_length hsm (a := 0) (b := 4294967295) (fun q hq => ⟨(hok q hq).1, (hok q hq).2.1⟩) (by omega)
    rw [hr.length]; omega
  unfold setV inner
  rcases hr.lookM view with ⟨h1, h2⟩ | ⟨x, t, h1, h2, ib, rfl, hne, htn, hci, li, hmi, hri⟩
  · rw [h2]
    show Calls _ _ _ _ (SetPost (some (putM view (putM who bs []) m)) _ _ _ _ _)
    refine (set_first ob lo view who v bs w hmo h1 hv6 hw6 hb hlen hlo).mono ?_
    rintro e w' ⟨rfl, ib, v', hib, hib2, hO, hmo', hmi', hrb⟩
    have hobl := hmo.lt
    refine ⟨rfl, fun k => if k = ib then some (ci, p) else col k, ⟨fun k hk => if_neg (by omega), hO.mono (fun k e => ⟨(ci, p), e ▸ hc, rfl⟩), fun k q hk e => ?_, ⟨fun k q e => ?_, fun k q e hE => ?_⟩⟩, ?_, putM view (.map (some ib)) lo, hmo', ?_, fun a b vv ha hb => ?_⟩
    · by_cases hk2 : k = ib
      · simp only [if_pos hk2, Option.some.injEq] at e; exact e.symm
      · simp only [if_neg hk2] at e
        have := ht.lo k q e; omega
    · by_cases hk2 : k = ib
      · rw [hk2]; exact hib2
      · simp only [if_neg hk2] at e
        exact Nat.lt_of_lt_of_le (ht.lo k q e) hO.size
    · obtain ⟨cs, fr, he⟩ := hE
      by_cases hk2 : k = ib
      · obtain ⟨es, clock, hh, _⟩ := hmi'.own
        rw [hk2, hh] at he; cases he
      · simp only [if_neg hk2] at e
        by_cases hk3 : k = ob
        · obtain ⟨es, clock, hh, _⟩ := hmo'.own
          rw [hk3, hh] at he; cases he
        · exact ht.nb k q e ⟨cs, fr, (hO.block k (ht.lo k q e) hk3).symm.trans he⟩
    · show (if ob = ib then _ else _) = _
      rw [if_neg (by omega)]; exact hc
    · refine hr.put2 view ⟨ib, rfl, by omega, by simp [putM], if_pos rfl, _, hmi', RelM.cons ⟨rfl, hrb⟩ RelM.nil⟩ (fun x b hx hxk hq => ?_) hmo.srt
      obtain ⟨jb, e1, e2, e3, e4, lj, e5, e6⟩ := hq
      have hjl := e5.lt
      refine ⟨jb, e1, e2, e3, ?_, lj, e5.only hO e2, e6.mono (fun v y hq => ?_)⟩
      · show (if jb = ib then _ else _) = _
        rw [if_neg (by omega)]; exact e4
      · obtain ⟨a, cap, q1, q2, q3, q4, q5, q6⟩ := hq
        refine ⟨a, cap, q1, q2, q3, q4, q5.only hO (fun k hk e => ?_), q6⟩
        exact ht.nb ob _ hc (e ▸ hk)
    · rw [lookM_putM _ _ _ hmo.srt] at ha hb
      by_cases h3 : view = a
      · by_cases h4 : view = b
        · omega
        · rw [if_pos h3] at ha
          rw [if_neg h4] at hb
          exfalso
          rcases hr.lookM b with ⟨g1, _⟩ | ⟨xx, _, g1, _, jb, rfl, _, _, _, lj, e5, _⟩
          · rw [g1] at hb; cases hb
          · rw [g1] at hb
            have := Option.some.inj (ha.trans hb.symm)
            injection this with this
            injection this with this
            have := e5.lt; omega
      · by_cases h4 : view = b
        · rw [if_neg h3] at ha
          rw [if_pos h4] at hb
          exfalso
          rcases hr.lookM a with ⟨g1, _⟩ | ⟨xx, _, g1, _, jb, rfl, _, _, _, lj, e5, _⟩
          · rw [g1] at ha; cases ha
          · rw [g1] at ha
            have := Option.some.inj (hb.trans ha.symm)
            injection this with this
            injection this with this
            have := e5.lt; omega
        · rw [if_neg h3] at ha
          rw [if_neg h4] at hb
          exact hinj a b vv ha hb
  · rw [h2]
    dsimp only [Option.getD_some]
    have hmem := lookM_mem h2
    have hst := hri.srt hmi.srt
    have hli : li.length ≤ 10000000000 := by
      have := srt_length hst (hok _ hmem).2.2 (by omega)
      rw [hri.length]; omega
    rcases hri.lookM who with ⟨h3, h4⟩ | ⟨x, y, h3, h4, _⟩
    · rw [h4]
      show Calls _ _ _ _ (SetPost (some (putM view (putM who bs t) m)) _ _ _ _ _)
      refine (set_new ob ib lo li view who v bs w hmo hmi h1 h3 hv6 hw6 hb hlen hli).mono ?_
      rintro e w' ⟨rfl, w1, v', hb1, hg, hmi', hrb⟩
      have hE := Ext.put ht hci hb1 hg ⟨_, hmi'⟩
      have hO : Only (· = ib) w w' := (Only.below hb1).grown hg (fun k e _ => (Option.some.inj e).symm)
      refine ⟨rfl, col, hE, hc, lo, hmo.only hO (fun e => hne e.symm), ?_, hinj⟩
      rw [← putM_self hmo.srt h1]
      refine hr.put2 view ⟨ib, rfl, hne, ?_, hci, _, hmi', ?_⟩ (fun x b hx hxk hq => ?_) hmo.srt
      · cases t with
        | nil => simp [putM]
        | cons q t => unfold putM; split; simp; split <;> simp
      · exact (hri.mono (fun v y hq => hq.ext hE ht)).put who hrb
      · obtain ⟨jb, e1, e2, e3, e4, lj, e5, e6⟩ := hq
        have hjne : jb ≠ ib := fun e => hxk (hinj x.1 view (.map (some ib)) (by rw [← e, ← e1]; exact lookM_of_mem hmo.srt hx) h1)
        exact ⟨jb, e1, e2, e3, e4, lj, e5.only hO hjne, e6.mono (fun v y hq => hq.ext hE ht)⟩
    · rw [h4]
      exact set_there ob ib lo li view who v x w hmo hmi h1 h3 hv6 hw6

theorem set_any {col : Colour} {ci p ob : Nat} {m : List (Int × TellM)} {w : World} (view who : Int) (v : Value) (bs : Bs) (ht : Tinted col w) (hm : ViewsAt col ci p w ob m) (hok : MapsOk m) (hv : 0 ≤ view ∧ view ≤ 4294967295) (hw : 1 ≤ who ∧ who ≤ 64) (hb : RB w v bs) (hlen : bs.length ≤ 10000000000000) :
    Calls Try.prog 87 #[.map (some ob), .int .i64 view, .int .i64 who, v] w (SetPost (setV m view who bs) col ci p ob w) := set_in view who v bs ht hm hok hv hw hb.ib hlen

end Go.Proofs.Ytilhdelijdkjpaa
