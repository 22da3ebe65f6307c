import Derived.Test.YtilhdelijdkjpaaVB
import Derived.OrdersHeld
import Derived.Deep.RegionHeld
set_option linter.unusedVariables false
set_option linter.unusedSimpArgs false
/-
  A region that draws its order, by facts: each operation is stepped once, against a frame of which only this is known: what the slots of the operations hold that came up ahead of it.
-/
namespace Go.Proofs.Ytilhdelijdkjpaa
open Go

/-- The frame whose slots are g's, at the numbers ns. -/
def mkF (ns : List Nat) (ds : List Deferred) (g : Nat → Value) : Act := { tmps := (ns.map g).toArray, defers := ds }
/-- g, with v at d. -/
def updG (g : Nat → Value) (d : Option Tmp) (v : Value) : Nat → Value := match d with
  | some d => fun t => if t = d then v else g t
  | none => g
/-- What operation j's slot holds. -/
def slotG (dst : List (Option Tmp)) (g : Nat → Value) (j : Nat) : Value := match dst.getD j none with
  | some d => g d
  | none => undef
/-- l, with k listed. -/
def setL (l : Nat → Bool) (k : Nat) : Nat → Bool := fun j => if j = k then true else l j
def preOf (pre : List (List Nat)) (k : Nat) : List Nat := pre.getD k []

theorem mkF_put {n : Nat} {ds : List Deferred} {g : Nat → Value} (d : Option Tmp) (v : Value) : (mkF (List.range n) ds g).put d v = mkF (List.range n) ds (updG g d v) := by
  cases d with
  | none => rfl
  | some d =>
    unfold mkF Act.put updG
    simp only [List.setIfInBounds_toArray, Act.mk.injEq, and_true]
    congr 1
    apply List.ext_getElem?
    intro i
    rw [List.getElem?_set]
    simp only [List.length_map, List.length_range, List.getElem?_map]
    by_cases hi : i < n
    · rw [List.getElem?_range hi]
      by_cases hd : d = i
      · subst hd
        simp [hi]
      · simp [hd, Ne.symm hd]
    · have : (List.range n)[i]? = none := List.getElem?_eq_none (by simpa using Nat.le_of_not_lt hi)
      rw [this]
      by_cases hd : d = i
      · subst hd
        simp [hi]
      · simp [hd]

section
variable (P : Program) (ops : Array Oper) (Q : Exit → Act → World → Prop) (ns : List Nat) (ds : List Deferred) (a0 : Act) (dst : List (Option Tmp)) (pre : List (List Nat))
  (B : (Nat → Bool) → World → Prop) (G : Nat → Value → World → Prop)

def baseG (g : Nat → Value) : Prop := ∀ t, dst.contains (some t) = false → g t = a0.tmps.getD t undef

/-- Operation k, stepped once. -/
def StepG (k : Nat) (o : Oper) : Prop :=
  ∀ (l : Nat → Bool) (g : Nat → Value) (w : World), baseG a0 dst g → B l w → l k = false → (∀ j, k ∈ preOf pre j → l j = false) → (∀ j ∈ preOf pre k, l j = true ∧ G j (slotG dst g j) w) →
    ∀ K : Act → World → Prop, Shut (∀ (v : Value) (w' : World), B (setL l k) w' → (∀ j, j ≠ k → ∀ u, G j u w → G j u w') → G k (if o.dst.isSome then v else undef) w' → K ((mkF ns ds g).put o.dst v) w') →
      if Region.wanted o (yielded ops (mkF ns ds g).tmps) = true then Oper.wp P o (mkF ns ds g) w K Q else K ((mkF ns ds g).put o.dst undef) w

/-- All operations from number k on. -/
def StepsG : Nat → List Oper → Prop
  | _, [] => True
  | k, o :: os => StepG P ops Q ns ds a0 dst pre B G k o ∧ StepsG (k + 1) os

def directOf (ops : Array Oper) (i : Nat) : List Nat := match ops[i]? with
  | some o => (o.after.toList.filter (Region.binds .any)).map (·.on)
  | none => []
/-- No two operations have one slot. -/
def apartB (dst : List (Option Tmp)) : Bool := (List.range dst.length).all fun i => (List.range dst.length).all fun j => (i == j) || dst.getD i none == none || dst.getD i none != dst.getD j none
/-- What 'pre' says comes up ahead of an operation does. -/
def preB (ops : Array Oper) (pre : List (List Nat)) : Bool :=
  (List.range ops.size).all fun i => (directOf ops i).all (fun k => k.blt i) && (preOf pre i).all fun j => (directOf ops i).contains j || (directOf ops i).any fun k => (preOf pre k).contains j
end

section
variable {P : Program} {ops : Array Oper} {Q : Exit → Act → World → Prop} {ns : List Nat} {ds : List Deferred} {a0 : Act} {dst : List (Option Tmp)} {pre : List (List Nat)}
  {B : (Nat → Bool) → World → Prop} {G : Nat → Value → World → Prop}

theorem StepsG.nil {k : Nat} : StepsG P ops Q ns ds a0 dst pre B G k [] := trivial
theorem StepsG.cons {k : Nat} {o : Oper} {os : List Oper} (h : StepG P ops Q ns ds a0 dst pre B G k o) (hs : StepsG P ops Q ns ds a0 dst pre B G (k + 1) os) : StepsG P ops Q ns ds a0 dst pre B G k (o :: os) := ⟨h, hs⟩
theorem StepsG.get : ∀ {os : List Oper} {k : Nat}, StepsG P ops Q ns ds a0 dst pre B G k os → ∀ (i : Nat) (o : Oper), os[i]? = some o → StepG P ops Q ns ds a0 dst pre B G (k + i) o
  | [], _, _, i, o, h => by simp at h
  | o' :: os, k, hs, 0, o, h => by
    simp at h
    subst h
    exact hs.1
  | o' :: os, k, hs, i + 1, o, h => by
    have h' : os[i]? = some o := by simpa using h
    have := StepsG.get (k := k + 1) hs.2 i o h'
    rwa [Nat.add_assoc, Nat.add_comm 1 i] at this

/-- What is known on the way. -/
def InvG (ops : Array Oper) (ns : List Nat) (ds : List Deferred) (a0 : Act) (dst : List (Option Tmp)) (pre : List (List Nat)) (B : (Nat → Bool) → World → Prop) (G : Nat → Value → World → Prop) (listed : Array Bool) (a : Act) (w : World) : Prop :=
  listed.size = ops.size ∧ (∀ j, listed.getD j false = true → ∀ k ∈ preOf pre j, listed.getD k false = true) ∧ B (fun j => listed.getD j false) w ∧
  ∃ g, a = mkF ns ds g ∧ baseG a0 dst g ∧ ∀ j, listed.getD j false = true → G j (slotG dst g j) w

theorem getD_flip {listed : Array Bool} {i : Nat} (h : listed.getD i true = false) : i < listed.size ∧ listed.getD i false = false := by
  rcases Nat.lt_or_ge i listed.size with h' | h'
  · refine ⟨h', ?_⟩
    simp [h'] at h ⊢
    exact h
  · simp [Array.getElem?_eq_none h'] at h

theorem getD_setL {listed : Array Bool} {i : Nat} (hi : i < listed.size) : (fun j => (listed.setIfInBounds i true).getD j false) = setL (fun j => listed.getD j false) i := by
  funext j
  unfold setL
  by_cases hj : j = i
  · subst hj
    simp [hi]
  · rw [if_neg hj, getD_set_ne false (Ne.symm hj)]

/-- How many are not listed yet. -/
def openN (listed : Array Bool) : Nat := listed.toList.countP (fun b => !b)
theorem openN_set {listed : Array Bool} {i : Nat} (hi : i < listed.size) (h : listed.getD i false = false) : openN (listed.setIfInBounds i true) + 1 = openN listed := by
  unfold openN
  rw [Array.toList_setIfInBounds]
  have hi' : i < listed.toList.length := by simpa using hi
  have hv : listed.toList[i] = false := by
    simp [hi] at h
    simpa using h
  rw [List.countP_set hi']
  simp only [hv, Bool.not_false, if_true, Bool.not_true, Bool.false_eq_true, if_false]
  have : 0 < listed.toList.countP (fun b => !b) := List.countP_pos_iff.2 ⟨false, hv ▸ List.getElem_mem hi', rfl⟩
  omega

theorem all_listed {listed : Array Bool} (hsz : listed.size = ops.size) (hdir : ∀ i, ∀ k ∈ directOf ops i, k < i) (hr : Region.ready .any ops listed = []) : ∀ i, i < ops.size → listed.getD i false = true := by
  intro i
  induction i using Nat.strongRecOn with
  | _ i ih =>
    intro hi
    cases hf : listed.getD i false with
    | true => rfl
    | false =>
      have hin : i ∈ Region.ready .any ops listed := by
        rw [mem_ready]
        refine ⟨?_, ops[i], by simp [hi], fun e he hb => ?_⟩
        · have : i < listed.size := by omega
          simp [this] at hf ⊢
          exact hf
        · have hd : e.on ∈ directOf ops i := by
            unfold directOf
            simp only [Array.getElem?_eq_getElem hi]
            exact List.mem_map.2 ⟨e, List.mem_filter.2 ⟨by simpa using he, hb⟩, rfl⟩
          have hlt := hdir i _ hd
          exact ih _ hlt (by omega)
      rw [hr] at hin
      cases hin

theorem slotG_upd {g : Nat → Value} {i j : Nat} {v : Value} (hap : apartB dst = true) (hi : i < dst.length) (hj : j < dst.length) (hne : j ≠ i) : slotG dst (updG g (dst.getD i none) v) j = slotG dst g j := by
  have h := List.all_eq_true.1 (List.all_eq_true.1 hap j (List.mem_range.2 hj)) i (List.mem_range.2 hi)
  simp only [Bool.or_eq_true, beq_iff_eq, bne_iff_ne] at h
  unfold slotG
  rcases h with (h | h) | h
  · exact absurd h hne
  · rw [h]
  · cases hdj : dst.getD j none with
    | none => rfl
    | some d =>
      cases hdi : dst.getD i none with
      | none => rfl
      | some d' =>
        have : d ≠ d' := fun e => h (by rw [hdj, hdi, e])
        simp [updG, this]
theorem slotG_self {g : Nat → Value} {i : Nat} {v : Value} : slotG dst (updG g (dst.getD i none) v) i = if (dst.getD i none).isSome then v else undef := by
  unfold slotG
  cases dst.getD i none with
  | none => rfl
  | some d => simp [updG]

/-- **THE RULE**: a region that draws its order, by facts. -/
theorem wp_region_facts {id n : Nat} {w : World} (B : (Nat → Bool) → World → Prop) (G : Nat → Value → World → Prop) (ns : List Nat) (dst : List (Option Tmp)) (pre : List (List Nat))
    (hm : P.follows .mixedOrders = true) (hdst : ops.toList.map (·.dst) = dst) (hns : ns = List.range n) (hn : a0.tmps.size = n)
    (hap : apartB dst = true) (hpre : preB ops pre = true) (hlen : pre.length.ble ops.size = true)
    (hB : B (fun _ => false) w.drew)     (hstep : StepsG P ops Q ns a0.defers a0 dst pre B G 0 ops.toList)
    (hQ : ∀ (l : Nat → Bool) (g : Nat → Value) (w : World), baseG a0 dst g → (∀ j, j < ops.size → l j = true) → B l w → (∀ j, j < ops.size → G j (slotG dst g j) w) → Q .normal (mkF ns a0.defers g) w) :
    (Code.region id ops true).wp P Q a0 w := by
  subst hns
  have hlen' : pre.length ≤ ops.size := Nat.le_of_ble_eq_true hlen
  have hdl : dst.length = ops.size := by rw [← hdst]; simp
  have hdi : ∀ i o, ops[i]? = some o → dst.getD i none = o.dst := fun i o ho => by
    rw [← hdst]
    simp [List.getD, ho]
  have hdir : ∀ i, ∀ k ∈ directOf ops i, k < i := fun i k hk => by
    rcases Nat.lt_or_ge i ops.size with hi | hi
    · have h := List.all_eq_true.1 hpre i (List.mem_range.2 hi)
      simp only [Bool.and_eq_true] at h
      have := List.all_eq_true.1 h.1 k hk
      simpa [Nat.blt_eq] using this
    · unfold directOf at hk
      rw [Array.getElem?_eq_none hi] at hk
      cases hk
  have hpr : ∀ i, i < ops.size → ∀ j ∈ preOf pre i, j ∈ directOf ops i ∨ ∃ k ∈ directOf ops i, j ∈ preOf pre k := fun i hi j hj => by
    have h := List.all_eq_true.1 hpre i (List.mem_range.2 hi)
    simp only [Bool.and_eq_true] at h
    have := List.all_eq_true.1 h.2 j hj
    simpa [Bool.or_eq_true, List.contains_iff_mem] using this
  have key : ∀ (fuel : Nat) (listed : Array Bool) (a : Act) (w : World), openN listed ≤ fuel → InvG ops (List.range n) a0.defers a0 dst pre B G listed a w → wpAny P .any ops Q fuel listed a w := by
    intro fuel
    induction fuel with
    | zero =>
      intro listed a w ho hI
      obtain ⟨hsz, hcl, hb, g, rfl, hbase, hG⟩ := hI
      have hr : Region.ready .any ops listed = [] := by
        cases hr : Region.ready .any ops listed with
        | nil => rfl
        | cons i is =>
          have hi : i ∈ Region.ready .any ops listed := by rw [hr]; exact List.mem_cons_self
          obtain ⟨h1, h2⟩ := getD_flip (mem_ready.1 hi).1
          have := openN_set h1 h2
          omega
      have hall := all_listed hsz hdir hr
      exact ⟨hr, hQ _ g w hbase (fun j hj => hall j hj) hb (fun j hj => hG j (hall j hj))⟩
    | succ fuel ih =>
      intro listed a w ho hI
      obtain ⟨hsz, hcl, hb, g, rfl, hbase, hG⟩ := hI
      refine ⟨fun hr => ?_, fun i hi => ?_⟩
      · have hall := all_listed hsz hdir hr
        exact hQ _ g w hbase (fun j hj => hall j hj) hb (fun j hj => hG j (hall j hj))
      · obtain ⟨h0, o, hoi, hafter⟩ := mem_ready.1 hi
        obtain ⟨h1, h2⟩ := getD_flip h0
        have hio : i < ops.size := hsz ▸ h1
        have hd : ∀ k ∈ directOf ops i, listed.getD k false = true := fun k hk => by
          unfold directOf at hk
          simp only [hoi] at hk
          obtain ⟨e, he, rfl⟩ := List.mem_map.1 hk
          obtain ⟨he, hb⟩ := List.mem_filter.1 he
          exact hafter e (by simpa using he) hb
        have hp : ∀ j ∈ preOf pre i, listed.getD j false = true := fun j hj => by
          rcases hpr i hio j hj with h | ⟨k, hk, hjk⟩
          · exact hd j h
          · exact hcl k (hd k hk) j hjk
        have hst := StepsG.get hstep i o (by simpa using hoi)
        rw [Nat.zero_add] at hst
        refine wpOp_step hoi (fun K' hK => hst (fun j => listed.getD j false) g w hbase hb h2 (fun j hj => ?_) (fun j hj => ⟨hp j hj, hG j (hp j hj)⟩) K' (fun v w' hB' hRw hGi => hK _ _ (ih _ _ _ ?_ ?_)))
        · cases hjl : listed.getD j false with
          | false => rfl
          | true => rw [hcl j hjl i hj] at h2; cases h2
        · have := openN_set h1 h2
          omega
        · have hset := getD_setL h1
          refine ⟨by simpa using hsz, fun j hj k hk => ?_, by rw [hset]; exact hB', updG g o.dst v, mkF_put _ _, fun t ht => ?_, fun j hj => ?_⟩
          · by_cases hji : j = i
            · subst hji
              exact getD_set_true (hp k hk)
            · rw [getD_set_ne false (Ne.symm hji)] at hj
              exact getD_set_true (hcl j hj k hk)
          · rw [← hbase t ht]
            cases hod : o.dst with
            | none => rfl
            | some d =>
              have : t ≠ d := fun e => by
                subst e
                have hmem : some t ∈ dst := by
                  rw [← hdst]
                  exact List.mem_map.2 ⟨o, by simpa using Array.mem_of_getElem? hoi, hod⟩
                rw [List.contains_iff_mem.2 hmem] at ht
                cases ht
              simp [updG, this]
          · rw [← hdi i o hoi]
            by_cases hji : j = i
            · subst hji
              rw [slotG_self, hdi j o hoi]
              exact hGi
            · rw [getD_set_ne false (Ne.symm hji)] at hj
              have hjl : j < dst.length := by
                rw [hdl, ← hsz]
                rcases Nat.lt_or_ge j listed.size with h' | h'
                · exact h'
                · simp [Array.getElem?_eq_none h'] at hj
              rw [slotG_upd hap (hdl ▸ hio) hjl hji]
              exact hRw j hji _ (hG j hj)
  refine wp_region_any hm (key _ _ _ _ ?_ ⟨by simp, fun j hj => ?_, ?_, fun t => a0.tmps.getD t undef, ?_, fun t _ => rfl, fun j hj => ?_⟩)
  · unfold openN
    have := List.countP_le_length (p := fun b => !b) (l := (Array.replicate ops.size false).toList)
    simpa using this
  · exfalso
    by_cases h : j < ops.size <;> simp [h] at hj
  · have : (fun j => (Array.replicate ops.size false).getD j false) = fun _ => false := by
      funext j
      by_cases h : j < ops.size <;> simp [h]
    rw [this]
    exact hB
  · cases a0 with
    | mk tm df =>
      unfold mkF
      congr 1
      subst hn
      apply Array.ext'
      apply List.ext_getElem?
      intro i
      simp only [List.getElem?_map]
      by_cases hi : i < tm.size
      · rw [List.getElem?_range hi]
        simp [hi]
      · rw [List.getElem?_eq_none (by simpa using Nat.le_of_not_lt hi), List.getElem?_eq_none (by simpa using Nat.le_of_not_lt hi)]
        rfl
  · exfalso
    by_cases h : j < ops.size <;> simp [h] at hj
end

/-! ### The same with the frame's other slots written out -/
def mixM : List Bool → List Value → Nat → (Nat → Value) → List Value
  | true :: bs, _ :: vs, t, g => g t :: mixM bs vs (t + 1) g
  | false :: bs, v :: vs, t, g => v :: mixM bs vs (t + 1) g
  | _, _, _, _ => []
def mkM (mask : List Bool) (vs : List Value) (ds : List Deferred) (g : Nat → Value) : Act := { tmps := (mixM mask vs 0 g).toArray, defers := ds }
theorem mixM_eq {g : Nat → Value} : ∀ (mask : List Bool) (vs : List Value) (k : Nat), mask.length = vs.length → (∀ i, mask.getD i true = false → g (k + i) = vs.getD i undef) → mixM mask vs k g = (List.range' k vs.length).map g
  | [], [], k, _, _ => rfl
  | b :: bs, v :: vs, k, hl, h => by
    have ih := mixM_eq bs vs (k + 1) (by simpa using hl) (fun i hi => by
      have := h (i + 1) (by simpa using hi)
      rw [show k + (i + 1) = k + 1 + i by omega] at this
      simpa using this)
    cases b with
    | true =>
      show g k :: mixM bs vs (k + 1) g = _
      rw [ih, List.length_cons, List.range'_succ, List.map_cons]
    | false =>
      show v :: mixM bs vs (k + 1) g = _
      have h0 : g k = v := by simpa using h 0 rfl
      rw [ih, List.length_cons, List.range'_succ, List.map_cons, h0]
  | [], _ :: _, _, hl, _ => by simp at hl
  | _ :: _, [], _, hl, _ => by simp at hl

section
variable (P : Program) (ops : Array Oper) (Q : Exit → Act → World → Prop) (mask : List Bool) (vs : List Value) (ds : List Deferred) (dst : List (Option Tmp)) (pre : List (List Nat))
  (B : (Nat → Bool) → World → Prop) (G : Nat → Value → World → Prop)
/-- Operation k, stepped once. -/
def StepM (k : Nat) (o : Oper) : Prop :=
  ∀ (l : Nat → Bool) (g : Nat → Value) (w : World), B l w → l k = false → (∀ j, k ∈ preOf pre j → l j = false) → (∀ j ∈ preOf pre k, l j = true ∧ G j (slotG dst g j) w) →
    ∀ K : Act → World → Prop, Shut (∀ (v : Value) (w' : World), B (setL l k) w' → (∀ j, j ≠ k → ∀ u, G j u w → G j u w') → G k (if o.dst.isSome then v else undef) w' → K ((mkM mask vs ds g).put o.dst v) w') →
      if Region.wanted o (yielded ops (mkM mask vs ds g).tmps) = true then Oper.wp P o (mkM mask vs ds g) w K Q else K ((mkM mask vs ds g).put o.dst undef) w
/-- All operations from number k on. -/
def StepsM : Nat → List Oper → Prop
  | _, [] => True
  | k, o :: os => StepM P ops Q mask vs ds dst pre B G k o ∧ StepsM (k + 1) os
end
section
variable {P : Program} {ops : Array Oper} {Q : Exit → Act → World → Prop} {mask : List Bool} {vs : List Value} {ds : List Deferred} {dst : List (Option Tmp)} {pre : List (List Nat)}
  {B : (Nat → Bool) → World → Prop} {G : Nat → Value → World → Prop}
theorem StepsM.nil {k : Nat} : StepsM P ops Q mask vs ds dst pre B G k [] := trivial
theorem StepsM.cons {k : Nat} {o : Oper} {os : List Oper} (h : StepM P ops Q mask vs ds dst pre B G k o) (hs : StepsM P ops Q mask vs ds dst pre B G (k + 1) os) : StepsM P ops Q mask vs ds dst pre B G k (o :: os) := ⟨h, hs⟩
def maskOk (mask : List Bool) (dst : List (Option Tmp)) : Bool := mask == (List.range mask.length).map (fun t => dst.contains (some t))
theorem mkM_eq {g : Nat → Value} {n : Nat} (hn : vs.length = n) (hl : mask.length = vs.length) (hk : maskOk mask dst = true) (hb : baseG { tmps := vs.toArray, defers := ds } dst g) : mkM mask vs ds g = mkF (List.range n) ds g := by
  unfold mkM mkF
  rw [mixM_eq mask vs 0 hl ?_, List.range_eq_range', hn]
  intro i hi
  rw [Nat.zero_add]
  have : dst.contains (some i) = false := by
    have e : mask = (List.range mask.length).map (fun t => dst.contains (some t)) := by simpa [maskOk] using hk
    have hlt : i < mask.length := by
      rcases Nat.lt_or_ge i mask.length with h | h
      · exact h
      · simp [List.getD, List.getElem?_eq_none h] at hi
    have h2 : mask.getD i true = dst.contains (some i) := by
      have h3 : mask[i]? = some (dst.contains (some i)) := by
        rw [e, List.getElem?_map, List.getElem?_range (by simpa using hlt)]; rfl
      simp [List.getD, h3]
    rw [← h2]; exact hi
  rw [hb i this]
  simp [List.getD]
theorem StepsM.toG {n : Nat} (hn : vs.length = n) (hl : mask.length = vs.length) (hk : maskOk mask dst = true) : ∀ {os : List Oper} {k : Nat}, StepsM P ops Q mask vs ds dst pre B G k os → StepsG P ops Q (List.range n) ds { tmps := vs.toArray, defers := ds } dst pre B G k os
  | [], _, _ => trivial
  | o :: os, k, h => ⟨fun l g w hb hB hlk hnot hp => by rw [← mkM_eq hn hl hk hb]; exact h.1 l g w hB hlk hnot hp, StepsM.toG hn hl hk h.2⟩

/-- **THE RULE**, the frame's other slots written out. -/
theorem wp_region_mix {id : Nat} {w : World} (B : (Nat → Bool) → World → Prop) (G : Nat → Value → World → Prop) (mask : List Bool) (dst : List (Option Tmp)) (pre : List (List Nat))
    (hm : P.follows .mixedOrders = true) (hdst : ops.toList.map (·.dst) = dst) (hl : mask.length = vs.length) (hk : maskOk mask dst = true)
    (hap : apartB dst = true) (hpre : preB ops pre = true) (hlen : pre.length.ble ops.size = true)
    (hB : B (fun _ => false) w.drew)
    (hstep : StepsM P ops Q mask vs ds dst pre B G 0 ops.toList)
    (hQ : ∀ (l : Nat → Bool) (g : Nat → Value) (w : World), (∀ j, j < dst.length → l j = true) → B l w → (∀ j, j < dst.length → G j (slotG dst g j) w) → Q .normal (mkM mask vs ds g) w) :
    (Code.region id ops true).wp P Q { tmps := vs.toArray, defers := ds } w :=
  wp_region_facts (n := vs.length) B G (List.range vs.length) dst pre hm hdst rfl (by simp) hap hpre hlen hB (StepsM.toG rfl hl hk hstep)
    (fun l g w hb hall hB hG => by
      have e : dst.length = ops.size := by rw [← hdst]; simp
      rw [← mkM_eq rfl hl hk hb]; exact hQ l g w (e ▸ hall) hB (e ▸ hG))
end
end Go.Proofs.Ytilhdelijdkjpaa
/-
  Facts on the slots of a region's operations: kinds of them, and that they last.
-/
namespace Go.Proofs.Ytilhdelijdkjpaa
open Go Go.RowKit Sac

/-- What is known of a slot: it lasts behind whatever leaves the elder blocks as they are; and, where 'keep' says so, behind each step of Kp. -/
structure Fk (Kp : World → World → Prop) where
  p : Value → World → Prop
  st : ∀ v w w', Below w.heap.size w w' → p v w → p v w'
  keep : Bool
  st2 : keep = true → ∀ v w w', Kp w w' → p v w → p v w'
section
variable {Kp : World → World → Prop}
def Fk.any : Fk Kp := ⟨fun _ _ => True, fun _ _ _ _ _ => trivial, true, fun _ _ _ _ _ _ => trivial⟩
def Fk.val (u : Value) : Fk Kp := ⟨fun v _ => v = u, fun _ _ _ _ h => h, true, fun _ _ _ _ _ h => h⟩
def Fk.rel (p : Value → World → Prop) (st : ∀ v w w', Below w.heap.size w w' → p v w → p v w') : Fk Kp := ⟨p, st, false, fun h => by cases h⟩
def GF (tab : List (Fk Kp)) (j : Nat) (v : Value) (w : World) : Prop := (tab.getD j .any).p v w
theorem GF.below {tab : List (Fk Kp)} {w w' : World} {k : Nat} (hb : Below w.heap.size w w') : ∀ j, j ≠ k → ∀ u, GF tab j u w → GF tab j u w' := fun j _ u h => (tab.getD j .any).st u w w' hb h
theorem GF.same {tab : List (Fk Kp)} {w : World} {k : Nat} : ∀ j, j ≠ k → ∀ u, GF tab j u w → GF tab j u w := fun _ _ _ h => h
theorem GF.alloc {tab : List (Fk Kp)} {w : World} {k : Nat} {o : Obj} : ∀ j, j ≠ k → ∀ u, GF tab j u w → GF tab j u (w.alloc o) := GF.below ((Below.refl _ w).alloc (Nat.le_refl _) _)
def keepB (tab : List (Fk Kp)) (k : Nat) : Bool := (List.range tab.length).all fun j => (j == k) || (tab.getD j .any).keep
theorem GF.kept {tab : List (Fk Kp)} {w w' : World} {k : Nat} (hk : keepB tab k = true) (h : Kp w w') : ∀ j, j ≠ k → ∀ u, GF tab j u w → GF tab j u w' := fun j hj u hu => by
  refine (tab.getD j .any).st2 ?_ u w w' h hu
  rcases Nat.lt_or_ge j tab.length with hl | hl
  · have := List.all_eq_true.1 hk j (List.mem_range.2 hl)
    simp only [Bool.or_eq_true, beq_iff_eq] at this
    exact this.resolve_left hj
  · rw [List.getD_eq_getElem?_getD, List.getElem?_eq_none hl]; rfl
end
end Go.Proofs.Ytilhdelijdkjpaa
/-
  The rule by facts once more: what is known beside the facts may speak of the slots, too.
-/
namespace Go.Proofs.Ytilhdelijdkjpaa
open Go

theorem setL_ne {l : Nat → Bool} {k j : Nat} (h : j ≠ k) : setL l k j = l j := by unfold setL; rw [if_neg h]
theorem setL_eq (l : Nat → Bool) (k : Nat) : setL l k k = true := by unfold setL; rw [if_pos rfl]
theorem updG_ne {g : Nat → Value} {d t : Nat} {v : Value} (h : t ≠ d) : updG g (some d) v t = g t := by
  show (if t = d then v else g t) = g t
  rw [if_neg h]
theorem updG_eq (g : Nat → Value) (d : Nat) (v : Value) : updG g (some d) v d = v := by
  show (if d = d then v else g d) = v
  rw [if_pos rfl]

section
variable (P : Program) (ops : Array Oper) (Q : Exit → Act → World → Prop) (ns : List Nat) (ds : List Deferred) (a0 : Act) (dst : List (Option Tmp)) (pre : List (List Nat))
  (B : (Nat → Bool) → (Nat → Value) → World → Prop) (G : Nat → Value → World → Prop)

/-- Operation k, stepped once. -/
def StepGB (k : Nat) (o : Oper) : Prop :=
  ∀ (l : Nat → Bool) (g : Nat → Value) (w : World), baseG a0 dst g → B l g w → l k = false → (∀ j, k ∈ preOf pre j → l j = false) → (∀ j ∈ preOf pre k, l j = true ∧ G j (slotG dst g j) w) →
    ∀ K : Act → World → Prop, Shut (∀ (v : Value) (w' : World), B (setL l k) (updG g o.dst v) w' → (∀ j, j ≠ k → ∀ u, G j u w → G j u w') → G k (if o.dst.isSome then v else undef) w' → K ((mkF ns ds g).put o.dst v) w') →
      if Region.wanted o (yielded ops (mkF ns ds g).tmps) = true then Oper.wp P o (mkF ns ds g) w K Q else K ((mkF ns ds g).put o.dst undef) w

/-- All operations from number k on. -/
def StepsGB : Nat → List Oper → Prop
  | _, [] => True
  | k, o :: os => StepGB P ops Q ns ds a0 dst pre B G k o ∧ StepsGB (k + 1) os

end

section
variable {P : Program} {ops : Array Oper} {Q : Exit → Act → World → Prop} {ns : List Nat} {ds : List Deferred} {a0 : Act} {dst : List (Option Tmp)} {pre : List (List Nat)}
  {B : (Nat → Bool) → (Nat → Value) → World → Prop} {G : Nat → Value → World → Prop}

theorem StepsGB.nil {k : Nat} : StepsGB P ops Q ns ds a0 dst pre B G k [] := trivial
theorem StepsGB.cons {k : Nat} {o : Oper} {os : List Oper} (h : StepGB P ops Q ns ds a0 dst pre B G k o) (hs : StepsGB P ops Q ns ds a0 dst pre B G (k + 1) os) : StepsGB P ops Q ns ds a0 dst pre B G k (o :: os) := ⟨h, hs⟩
theorem StepsGB.get : ∀ {os : List Oper} {k : Nat}, StepsGB P ops Q ns ds a0 dst pre B G k os → ∀ (i : Nat) (o : Oper), os[i]? = some o → StepGB P ops Q ns ds a0 dst pre B G (k + i) o
  | [], _, _, i, o, h => by simp at h
  | o' :: os, k, hs, 0, o, h => by
    simp at h
    subst h
    exact hs.1
  | o' :: os, k, hs, i + 1, o, h => by
    have h' : os[i]? = some o := by simpa using h
    have := StepsGB.get (k := k + 1) hs.2 i o h'
    rwa [Nat.add_assoc, Nat.add_comm 1 i] at this

/-- What is known on the way. -/
def InvGB (ops : Array Oper) (ns : List Nat) (ds : List Deferred) (a0 : Act) (dst : List (Option Tmp)) (pre : List (List Nat)) (B : (Nat → Bool) → (Nat → Value) → World → Prop) (G : Nat → Value → World → Prop) (listed : Array Bool) (a : Act) (w : World) : Prop :=
  listed.size = ops.size ∧ (∀ j, listed.getD j false = true → ∀ k ∈ preOf pre j, listed.getD k false = true) ∧ 
  ∃ g, a = mkF ns ds g ∧ baseG a0 dst g ∧ B (fun j => listed.getD j false) g w ∧ ∀ j, listed.getD j false = true → G j (slotG dst g j) w

/-- **THE RULE**: a region that draws its order, by facts. -/
theorem wp_region_factsB {id n : Nat} {w : World} (B : (Nat → Bool) → (Nat → Value) → World → Prop) (G : Nat → Value → World → Prop) (ns : List Nat) (dst : List (Option Tmp)) (pre : List (List Nat))
    (hm : P.follows .mixedOrders = true) (hdst : ops.toList.map (·.dst) = dst) (hns : ns = List.range n) (hn : a0.tmps.size = n)
    (hap : apartB dst = true) (hpre : preB ops pre = true) (hlen : pre.length.ble ops.size = true)
    (hB : B (fun _ => false) (fun t => a0.tmps.getD t undef) w.drew)     (hstep : StepsGB P ops Q ns a0.defers a0 dst pre B G 0 ops.toList)
    (hQ : ∀ (l : Nat → Bool) (g : Nat → Value) (w : World), baseG a0 dst g → (∀ j, j < ops.size → l j = true) → B l g w → (∀ j, j < ops.size → G j (slotG dst g j) w) → Q .normal (mkF ns a0.defers g) w) :
    (Code.region id ops true).wp P Q a0 w := by
  subst hns
  have hlen' : pre.length ≤ ops.size := Nat.le_of_ble_eq_true hlen
  have hdl : dst.length = ops.size := by rw [← hdst]; simp
  have hdi : ∀ i o, ops[i]? = some o → dst.getD i none = o.dst := fun i o ho => by
    rw [← hdst]
    simp [List.getD, ho]
  have hdir : ∀ i, ∀ k ∈ directOf ops i, k < i := fun i k hk => by
    rcases Nat.lt_or_ge i ops.size with hi | hi
    · have h := List.all_eq_true.1 hpre i (List.mem_range.2 hi)
      simp only [Bool.and_eq_true] at h
      have := List.all_eq_true.1 h.1 k hk
      simpa [Nat.blt_eq] using this
    · unfold directOf at hk
      rw [Array.getElem?_eq_none hi] at hk
      cases hk
  have hpr : ∀ i, i < ops.size → ∀ j ∈ preOf pre i, j ∈ directOf ops i ∨ ∃ k ∈ directOf ops i, j ∈ preOf pre k := fun i hi j hj => by
    have h := List.all_eq_true.1 hpre i (List.mem_range.2 hi)
    simp only [Bool.and_eq_true] at h
    have := List.all_eq_true.1 h.2 j hj
    simpa [Bool.or_eq_true, List.contains_iff_mem] using this
  have key : ∀ (fuel : Nat) (listed : Array Bool) (a : Act) (w : World), openN listed ≤ fuel → InvGB ops (List.range n) a0.defers a0 dst pre B G listed a w → wpAny P .any ops Q fuel listed a w := by
    intro fuel
    induction fuel with
    | zero =>
      intro listed a w ho hI
      obtain ⟨hsz, hcl, g, rfl, hbase, hb, hG⟩ := hI
      have hr : Region.ready .any ops listed = [] := by
        cases hr : Region.ready .any ops listed with
        | nil => rfl
        | cons i is =>
          have hi : i ∈ Region.ready .any ops listed := by rw [hr]; exact List.mem_cons_self
          obtain ⟨h1, h2⟩ := getD_flip (mem_ready.1 hi).1
          have := openN_set h1 h2
          omega
      have hall := all_listed hsz hdir hr
      exact ⟨hr, hQ _ g w hbase (fun j hj => hall j hj) hb (fun j hj => hG j (hall j hj))⟩
    | succ fuel ih =>
      intro listed a w ho hI
      obtain ⟨hsz, hcl, g, rfl, hbase, hb, hG⟩ := hI
      refine ⟨fun hr => ?_, fun i hi => ?_⟩
      · have hall := all_listed hsz hdir hr
        exact hQ _ g w hbase (fun j hj => hall j hj) hb (fun j hj => hG j (hall j hj))
      · obtain ⟨h0, o, hoi, hafter⟩ := mem_ready.1 hi
        obtain ⟨h1, h2⟩ := getD_flip h0
        have hio : i < ops.size := hsz ▸ h1
        have hd : ∀ k ∈ directOf ops i, listed.getD k false = true := fun k hk => by
          unfold directOf at hk
          simp only [hoi] at hk
          obtain ⟨e, he, rfl⟩ := List.mem_map.1 hk
          obtain ⟨he, hb⟩ := List.mem_filter.1 he
          exact hafter e (by simpa using he) hb
        have hp : ∀ j ∈ preOf pre i, listed.getD j false = true := fun j hj => by
          rcases hpr i hio j hj with h | ⟨k, hk, hjk⟩
          · exact hd j h
          · exact hcl k (hd k hk) j hjk
        have hst := StepsGB.get hstep i o (by simpa using hoi)
        rw [Nat.zero_add] at hst
        refine wpOp_step hoi (fun K' hK => hst (fun j => listed.getD j false) g w hbase hb h2 (fun j hj => ?_) (fun j hj => ⟨hp j hj, hG j (hp j hj)⟩) K' (fun v w' hB' hRw hGi => hK _ _ (ih _ _ _ ?_ ?_)))
        · cases hjl : listed.getD j false with
          | false => rfl
          | true => rw [hcl j hjl i hj] at h2; cases h2
        · have := openN_set h1 h2
          omega
        · have hset := getD_setL h1
          refine ⟨by simpa using hsz, fun j hj k hk => ?_, updG g o.dst v, mkF_put _ _, fun t ht => ?_, by rw [hset]; exact hB', fun j hj => ?_⟩
          · by_cases hji : j = i
            · subst hji
              exact getD_set_true (hp k hk)
            · rw [getD_set_ne false (Ne.symm hji)] at hj
              exact getD_set_true (hcl j hj k hk)
          · rw [← hbase t ht]
            cases hod : o.dst with
            | none => rfl
            | some d =>
              have : t ≠ d := fun e => by
                subst e
                have hmem : some t ∈ dst := by
                  rw [← hdst]
                  exact List.mem_map.2 ⟨o, by simpa using Array.mem_of_getElem? hoi, hod⟩
                rw [List.contains_iff_mem.2 hmem] at ht
                cases ht
              simp [updG, this]
          · rw [← hdi i o hoi]
            by_cases hji : j = i
            · subst hji
              rw [slotG_self, hdi j o hoi]
              exact hGi
            · rw [getD_set_ne false (Ne.symm hji)] at hj
              have hjl : j < dst.length := by
                rw [hdl, ← hsz]
                rcases Nat.lt_or_ge j listed.size with h' | h'
                · exact h'
                · simp [Array.getElem?_eq_none h'] at hj
              rw [slotG_upd hap (hdl ▸ hio) hjl hji]
              exact hRw j hji _ (hG j hj)
  refine wp_region_any hm (key _ _ _ _ ?_ ⟨by simp, fun j hj => ?_, fun t => a0.tmps.getD t undef, ?_, fun t _ => rfl, ?_, fun j hj => ?_⟩)
  · unfold openN
    have := List.countP_le_length (p := fun b => !b) (l := (Array.replicate ops.size false).toList)
    simpa using this
  · exfalso
    by_cases h : j < ops.size <;> simp [h] at hj
  · cases a0 with
    | mk tm df =>
      unfold mkF
      congr 1
      subst hn
      apply Array.ext'
      apply List.ext_getElem?
      intro i
      simp only [List.getElem?_map]
      by_cases hi : i < tm.size
      · rw [List.getElem?_range hi]
        simp [hi]
      · rw [List.getElem?_eq_none (by simpa using Nat.le_of_not_lt hi), List.getElem?_eq_none (by simpa using Nat.le_of_not_lt hi)]
        rfl
  · have : (fun j => (Array.replicate ops.size false).getD j false) = fun _ => false := by
      funext j
      by_cases h : j < ops.size <;> simp [h]
    rw [this]
    exact hB
  · exfalso
    by_cases h : j < ops.size <;> simp [h] at hj
end

section
variable (P : Program) (ops : Array Oper) (Q : Exit → Act → World → Prop) (mask : List Bool) (vs : List Value) (ds : List Deferred) (dst : List (Option Tmp)) (pre : List (List Nat))
  (B : (Nat → Bool) → (Nat → Value) → World → Prop) (G : Nat → Value → World → Prop)
/-- Operation k, stepped once. -/
def StepMB (k : Nat) (o : Oper) : Prop :=
  ∀ (l : Nat → Bool) (g : Nat → Value) (w : World), B l g w → l k = false → (∀ j, k ∈ preOf pre j → l j = false) → (∀ j ∈ preOf pre k, l j = true ∧ G j (slotG dst g j) w) →
    ∀ K : Act → World → Prop, Shut (∀ (v : Value) (w' : World), B (setL l k) (updG g o.dst v) w' → (∀ j, j ≠ k → ∀ u, G j u w → G j u w') → G k (if o.dst.isSome then v else undef) w' → K ((mkM mask vs ds g).put o.dst v) w') →
      if Region.wanted o (yielded ops (mkM mask vs ds g).tmps) = true then Oper.wp P o (mkM mask vs ds g) w K Q else K ((mkM mask vs ds g).put o.dst undef) w
/-- All operations from number k on. -/
def StepsMB : Nat → List Oper → Prop
  | _, [] => True
  | k, o :: os => StepMB P ops Q mask vs ds dst pre B G k o ∧ StepsMB (k + 1) os
end
section
variable {P : Program} {ops : Array Oper} {Q : Exit → Act → World → Prop} {mask : List Bool} {vs : List Value} {ds : List Deferred} {dst : List (Option Tmp)} {pre : List (List Nat)}
  {B : (Nat → Bool) → (Nat → Value) → World → Prop} {G : Nat → Value → World → Prop}
theorem StepsMB.nil {k : Nat} : StepsMB P ops Q mask vs ds dst pre B G k [] := trivial
theorem StepsMB.cons {k : Nat} {o : Oper} {os : List Oper} (h : StepMB P ops Q mask vs ds dst pre B G k o) (hs : StepsMB P ops Q mask vs ds dst pre B G (k + 1) os) : StepsMB P ops Q mask vs ds dst pre B G k (o :: os) := ⟨h, hs⟩
theorem StepsMB.toG {n : Nat} (hn : vs.length = n) (hl : mask.length = vs.length) (hk : maskOk mask dst = true) : ∀ {os : List Oper} {k : Nat}, StepsMB P ops Q mask vs ds dst pre B G k os → StepsGB P ops Q (List.range n) ds { tmps := vs.toArray, defers := ds } dst pre B G k os
  | [], _, _ => trivial
  | o :: os, k, h => ⟨fun l g w hb hB hlk hnot hp => by rw [← mkM_eq hn hl hk hb]; exact h.1 l g w hB hlk hnot hp, StepsMB.toG hn hl hk h.2⟩

/-- **THE RULE**, the frame's other slots written out. -/
theorem wp_region_mixB {id : Nat} {w : World} (B : (Nat → Bool) → (Nat → Value) → World → Prop) (G : Nat → Value → World → Prop) (mask : List Bool) (dst : List (Option Tmp)) (pre : List (List Nat))
    (hm : P.follows .mixedOrders = true) (hdst : ops.toList.map (·.dst) = dst) (hl : mask.length = vs.length) (hk : maskOk mask dst = true)
    (hap : apartB dst = true) (hpre : preB ops pre = true) (hlen : pre.length.ble ops.size = true)
    (hB : B (fun _ => false) (fun t => vs.toArray.getD t undef) w.drew)
    (hstep : StepsMB P ops Q mask vs ds dst pre B G 0 ops.toList)
    (hQ : ∀ (l : Nat → Bool) (g : Nat → Value) (w : World), (∀ j, j < dst.length → l j = true) → B l g w → (∀ j, j < dst.length → G j (slotG dst g j) w) → Q .normal (mkM mask vs ds g) w) :
    (Code.region id ops true).wp P Q { tmps := vs.toArray, defers := ds } w :=
  wp_region_factsB (n := vs.length) B G (List.range vs.length) dst pre hm hdst rfl (by simp) hap hpre hlen hB (StepsMB.toG rfl hl hk hstep)
    (fun l g w hb hall hB hG => by
      have e : dst.length = ops.size := by rw [← hdst]; simp
      rw [← mkM_eq rfl hl hk hb]; exact hQ l g w (e ▸ hall) hB (e ▸ hG))
end
end Go.Proofs.Ytilhdelijdkjpaa
