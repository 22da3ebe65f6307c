/-
  The rule by facts once more: what is known beside the facts may speak of the slots, too.
-/
import Derived.Test.YthefednendgclaaGreatInvF
set_option linter.unusedVariables false
set_option linter.unusedSimpArgs false
namespace Go.Proofs.YthefednendgclaaGreat
open Go

theorem setL_ne {l : Nat → Bool} {k j : Nat} (h : j ≠ k) : setL l k j = l j := by unfold setL; rw [if_neg h]
theorem setL_eq (l : Nat → Bool) (k : Nat) : setL l k k = true := by unfold setL; rw [if_pos rfl]
theorem updG_ne {g : Nat → Value} {d t : Nat} {v : Value} (h : t ≠ d) : updG g (some d) v t = g t := by
  show (if t = d then v else g t) = g t
  rw [if_neg h]
theorem updG_eq (g : Nat → Value) (d : Nat) (v : Value) : updG g (some d) v d = v := by
  show (if d = d then v else g d) = v
  rw [if_pos rfl]

section
variable (P : Program) (ops : Array Oper) (Q : Exit → Act → World → Prop) (ns : List Nat) (ds : List Deferred) (a0 : Act) (dst : List (Option Tmp)) (pre : List (List Nat))
  (B : (Nat → Bool) → (Nat → Value) → World → Prop) (G : Nat → Value → World → Prop)

/-- Operation k, stepped once. -/
def StepGB (k : Nat) (o : Oper) : Prop :=
  ∀ (l : Nat → Bool) (g : Nat → Value) (w : World), baseG a0 dst g → B l g w → l k = false → (∀ j, k ∈ preOf pre j → l j = false) → (∀ j ∈ preOf pre k, l j = true ∧ G j (slotG dst g j) w) →
    ∀ K : Act → World → Prop, Shut (∀ (v : Value) (w' : World), B (setL l k) (updG g o.dst v) w' → (∀ j, j ≠ k → ∀ u, G j u w → G j u w') → G k (if o.dst.isSome then v else undef) w' → K ((mkF ns ds g).put o.dst v) w') →
      if Region.wanted o (yielded ops (mkF ns ds g).tmps) = true then Oper.wp P o (mkF ns ds g) w K Q else K ((mkF ns ds g).put o.dst undef) w

/-- All operations from number k on. -/
def StepsGB : Nat → List Oper → Prop
  | _, [] => True
  | k, o :: os => StepGB P ops Q ns ds a0 dst pre B G k o ∧ StepsGB (k + 1) os

end

section
variable {P : Program} {ops : Array Oper} {Q : Exit → Act → World → Prop} {ns : List Nat} {ds : List Deferred} {a0 : Act} {dst : List (Option Tmp)} {pre : List (List Nat)}
  {B : (Nat → Bool) → (Nat → Value) → World → Prop} {G : Nat → Value → World → Prop}

theorem StepsGB.nil {k : Nat} : StepsGB P ops Q ns ds a0 dst pre B G k [] := trivial
theorem StepsGB.cons {k : Nat} {o : Oper} {os : List Oper} (h : StepGB P ops Q ns ds a0 dst pre B G k o) (hs : StepsGB P ops Q ns ds a0 dst pre B G (k + 1) os) : StepsGB P ops Q ns ds a0 dst pre B G k (o :: os) := ⟨h, hs⟩
theorem StepsGB.get : ∀ {os : List Oper} {k : Nat}, StepsGB P ops Q ns ds a0 dst pre B G k os → ∀ (i : Nat) (o : Oper), os[i]? = some o → StepGB P ops Q ns ds a0 dst pre B G (k + i) o
  | [], _, _, i, o, h => by simp at h
  | o' :: os, k, hs, 0, o, h => by
    simp at h
    subst h
    exact hs.1
  | o' :: os, k, hs, i + 1, o, h => by
    have h' : os[i]? = some o := by simpa using h
    have := StepsGB.get (k := k + 1) hs.2 i o h'
    rwa [Nat.add_assoc, Nat.add_comm 1 i] at this

/-- What is known on the way. -/
def InvGB (ops : Array Oper) (ns : List Nat) (ds : List Deferred) (a0 : Act) (dst : List (Option Tmp)) (pre : List (List Nat)) (B : (Nat → Bool) → (Nat → Value) → World → Prop) (G : Nat → Value → World → Prop) (listed : Array Bool) (a : Act) (w : World) : Prop :=
  listed.size = ops.size ∧ (∀ j, listed.getD j false = true → ∀ k ∈ preOf pre j, listed.getD k false = true) ∧ 
  ∃ g, a = mkF ns ds g ∧ baseG a0 dst g ∧ B (fun j => listed.getD j false) g w ∧ ∀ j, listed.getD j false = true → G j (slotG dst g j) w

/-- **THE RULE**: a region that draws its order, by facts. -/
theorem wp_region_factsB {id n : Nat} {w : World} (B : (Nat → Bool) → (Nat → Value) → World → Prop) (G : Nat → Value → World → Prop) (ns : List Nat) (dst : List (Option Tmp)) (pre : List (List Nat))
    (hm : P.follows .mixedOrders = true) (hdst : ops.toList.map (·.dst) = dst) (hns : ns = List.range n) (hn : a0.tmps.size = n)
    (hap : apartB dst = true) (hpre : preB ops pre = true) (hlen : pre.length.ble ops.size = true)
    (hB : B (fun _ => false) (fun t => a0.tmps.getD t undef) w.drew)     (hstep : StepsGB P ops Q ns a0.defers a0 dst pre B G 0 ops.toList)
    (hQ : ∀ (l : Nat → Bool) (g : Nat → Value) (w : World), baseG a0 dst g → (∀ j, j < ops.size → l j = true) → B l g w → (∀ j, j < ops.size → G j (slotG dst g j) w) → Q .normal (mkF ns a0.defers g) w) :
    (Code.region id ops true).wp P Q a0 w := by
  subst hns
  have hlen' : pre.length ≤ ops.size := Nat.le_of_ble_eq_true hlen
  have hdl : dst.length = ops.size := by rw [← hdst]; simp
  have hdi : ∀ i o, ops[i]? = some o → dst.getD i none = o.dst := fun i o ho => by
    rw [← hdst]
    simp [List.getD, ho]
  have hdir : ∀ i, ∀ k ∈ directOf ops i, k < i := fun i k hk => by
    rcases Nat.lt_or_ge i ops.size with hi | hi
    · have h := List.all_eq_true.1 hpre i (List.mem_range.2 hi)
      simp only [Bool.and_eq_true] at h
      have := List.all_eq_true.1 h.1 k hk
      simpa [Nat.blt_eq] using this
    · unfold directOf at hk
      rw [Array.getElem?_eq_none hi] at hk
      cases hk
  have hpr : ∀ i, i < ops.size → ∀ j ∈ preOf pre i, j ∈ directOf ops i ∨ ∃ k ∈ directOf ops i, j ∈ preOf pre k := fun i hi j hj => by
    have h := List.all_eq_true.1 hpre i (List.mem_range.2 hi)
    simp only [Bool.and_eq_true] at h
    have := List.all_eq_true.1 h.2 j hj
    simpa [Bool.or_eq_true, List.contains_iff_mem] using this
  have key : ∀ (fuel : Nat) (listed : Array Bool) (a : Act) (w : World), openN listed ≤ fuel → InvGB ops (List.range n) a0.defers a0 dst pre B G listed a w → wpAny P .any ops Q fuel listed a w := by
    intro fuel
    induction fuel with
    | zero =>
      intro listed a w ho hI
      obtain ⟨hsz, hcl, g, rfl, hbase, hb, hG⟩ := hI
      have hr : Region.ready .any ops listed = [] := by
        cases hr : Region.ready .any ops listed with
        | nil => rfl
        | cons i is =>
          have hi : i ∈ Region.ready .any ops listed := by rw [hr]; exact List.mem_cons_self
          obtain ⟨h1, h2⟩ := getD_flip (mem_ready.1 hi).1
          have := openN_set h1 h2
          omega
      have hall := all_listed hsz hdir hr
      exact ⟨hr, hQ _ g w hbase (fun j hj => hall j hj) hb (fun j hj => hG j (hall j hj))⟩
    | succ fuel ih =>
      intro listed a w ho hI
      obtain ⟨hsz, hcl, g, rfl, hbase, hb, hG⟩ := hI
      refine ⟨fun hr => ?_, fun i hi => ?_⟩
      · have hall := all_listed hsz hdir hr
        exact hQ _ g w hbase (fun j hj => hall j hj) hb (fun j hj => hG j (hall j hj))
      · obtain ⟨h0, o, hoi, hafter⟩ := mem_ready.1 hi
        obtain ⟨h1, h2⟩ := getD_flip h0
        have hio : i < ops.size := hsz ▸ h1
        have hd : ∀ k ∈ directOf ops i, listed.getD k false = true := fun k hk => by
          unfold directOf at hk
          simp only [hoi] at hk
          obtain ⟨e, he, rfl⟩ := List.mem_map.1 hk
          obtain ⟨he, hb⟩ := List.mem_filter.1 he
          exact hafter e (by simpa using he) hb
        have hp : ∀ j ∈ preOf pre i, listed.getD j false = true := fun j hj => by
          rcases hpr i hio j hj with h | ⟨k, hk, hjk⟩
          · exact hd j h
          · exact hcl k (hd k hk) j hjk
        have hst := StepsGB.get hstep i o (by simpa using hoi)
        rw [Nat.zero_add] at hst
        refine wpOp_step hoi (fun K' hK => hst (fun j => listed.getD j false) g w hbase hb h2 (fun j hj => ?_) (fun j hj => ⟨hp j hj, hG j (hp j hj)⟩) K' (fun v w' hB' hRw hGi => hK _ _ (ih _ _ _ ?_ ?_)))
        · cases hjl : listed.getD j false with
          | false => rfl
          | true => rw [hcl j hjl i hj] at h2; cases h2
        · have := openN_set h1 h2
          omega
        · have hset := getD_setL h1
          refine ⟨by simpa using hsz, fun j hj k hk => ?_, updG g o.dst v, mkF_put _ _, fun t ht => ?_, by rw [hset]; exact hB', fun j hj => ?_⟩
          · by_cases hji : j = i
            · subst hji
              exact getD_set_true (hp k hk)
            · rw [getD_set_ne false (Ne.symm hji)] at hj
              exact getD_set_true (hcl j hj k hk)
          · rw [← hbase t ht]
            cases hod : o.dst with
            | none => rfl
            | some d =>
              have : t ≠ d := fun e => by
                subst e
                have hmem : some t ∈ dst := by
                  rw [← hdst]
                  exact List.mem_map.2 ⟨o, by simpa using Array.mem_of_getElem? hoi, hod⟩
                rw [List.contains_iff_mem.2 hmem] at ht
                cases ht
              simp [updG, this]
          · rw [← hdi i o hoi]
            by_cases hji : j = i
            · subst hji
              rw [slotG_self, hdi j o hoi]
              exact hGi
            · rw [getD_set_ne false (Ne.symm hji)] at hj
              have hjl : j < dst.length := by
                rw [hdl, ← hsz]
                rcases Nat.lt_or_ge j listed.size with h' | h'
                · exact h'
                · simp [Array.getElem?_eq_none h'] at hj
              rw [slotG_upd hap (hdl ▸ hio) hjl hji]
              exact hRw j hji _ (hG j hj)
  refine wp_region_any hm (key _ _ _ _ ?_ ⟨by simp, fun j hj => ?_, fun t => a0.tmps.getD t undef, ?_, fun t _ => rfl, ?_, fun j hj => ?_⟩)
  · unfold openN
    have := List.countP_le_length (p := fun b => !b) (l := (Array.replicate ops.size false).toList)
    simpa using this
  · exfalso
    by_cases h : j < ops.size <;> simp [h] at hj
  · cases a0 with
    | mk tm df =>
      unfold mkF
      congr 1
      subst hn
      apply Array.ext'
      apply List.ext_getElem?
      intro i
      simp only [List.getElem?_map]
      by_cases hi : i < tm.size
      · rw [List.getElem?_range hi]
        simp [hi]
      · rw [List.getElem?_eq_none (by simpa using Nat.le_of_not_lt hi), List.getElem?_eq_none (by simpa using Nat.le_of_not_lt hi)]
        rfl
  · have : (fun j => (Array.replicate ops.size false).getD j false) = fun _ => false := by
      funext j
      by_cases h : j < ops.size <;> simp [h]
    rw [this]
    exact hB
  · exfalso
    by_cases h : j < ops.size <;> simp [h] at hj
end

section
variable (P : Program) (ops : Array Oper) (Q : Exit → Act → World → Prop) (mask : List Bool) (vs : List Value) (ds : List Deferred) (dst : List (Option Tmp)) (pre : List (List Nat))
  (B : (Nat → Bool) → (Nat → Value) → World → Prop) (G : Nat → Value → World → Prop)
/-- Operation k, stepped once. -/
def StepMB (k : Nat) (o : Oper) : Prop :=
  ∀ (l : Nat → Bool) (g : Nat → Value) (w : World), B l g w → l k = false → (∀ j, k ∈ preOf pre j → l j = false) → (∀ j ∈ preOf pre k, l j = true ∧ G j (slotG dst g j) w) →
    ∀ K : Act → World → Prop, Shut (∀ (v : Value) (w' : World), B (setL l k) (updG g o.dst v) w' → (∀ j, j ≠ k → ∀ u, G j u w → G j u w') → G k (if o.dst.isSome then v else undef) w' → K ((mkM mask vs ds g).put o.dst v) w') →
      if Region.wanted o (yielded ops (mkM mask vs ds g).tmps) = true then Oper.wp P o (mkM mask vs ds g) w K Q else K ((mkM mask vs ds g).put o.dst undef) w
/-- All operations from number k on. -/
def StepsMB : Nat → List Oper → Prop
  | _, [] => True
  | k, o :: os => StepMB P ops Q mask vs ds dst pre B G k o ∧ StepsMB (k + 1) os
end
section
variable {P : Program} {ops : Array Oper} {Q : Exit → Act → World → Prop} {mask : List Bool} {vs : List Value} {ds : List Deferred} {dst : List (Option Tmp)} {pre : List (List Nat)}
  {B : (Nat → Bool) → (Nat → Value) → World → Prop} {G : Nat → Value → World → Prop}
theorem StepsMB.nil {k : Nat} : StepsMB P ops Q mask vs ds dst pre B G k [] := trivial
theorem StepsMB.cons {k : Nat} {o : Oper} {os : List Oper} (h : StepMB P ops Q mask vs ds dst pre B G k o) (hs : StepsMB P ops Q mask vs ds dst pre B G (k + 1) os) : StepsMB P ops Q mask vs ds dst pre B G k (o :: os) := ⟨h, hs⟩
theorem StepsMB.toG {n : Nat} (hn : vs.length = n) (hl : mask.length = vs.length) (hk : maskOk mask dst = true) : ∀ {os : List Oper} {k : Nat}, StepsMB P ops Q mask vs ds dst pre B G k os → StepsGB P ops Q (List.range n) ds { tmps := vs.toArray, defers := ds } dst pre B G k os
  | [], _, _ => trivial
  | o :: os, k, h => ⟨fun l g w hb hB hlk hnot hp => by rw [← mkM_eq hn hl hk hb]; exact h.1 l g w hB hlk hnot hp, StepsMB.toG hn hl hk h.2⟩

/-- **THE RULE**, the frame's other slots written out. -/
theorem wp_region_mixB {id : Nat} {w : World} (B : (Nat → Bool) → (Nat → Value) → World → Prop) (G : Nat → Value → World → Prop) (mask : List Bool) (dst : List (Option Tmp)) (pre : List (List Nat))
    (hm : P.follows .mixedOrders = true) (hdst : ops.toList.map (·.dst) = dst) (hl : mask.length = vs.length) (hk : maskOk mask dst = true)
    (hap : apartB dst = true) (hpre : preB ops pre = true) (hlen : pre.length.ble ops.size = true)
    (hB : B (fun _ => false) (fun t => vs.toArray.getD t undef) w.drew)
    (hstep : StepsMB P ops Q mask vs ds dst pre B G 0 ops.toList)
    (hQ : ∀ (l : Nat → Bool) (g : Nat → Value) (w : World), (∀ j, j < dst.length → l j = true) → B l g w → (∀ j, j < dst.length → G j (slotG dst g j) w) → Q .normal (mkM mask vs ds g) w) :
    (Code.region id ops true).wp P Q { tmps := vs.toArray, defers := ds } w :=
  wp_region_factsB (n := vs.length) B G (List.range vs.length) dst pre hm hdst rfl (by simp) hap hpre hlen hB (StepsMB.toG rfl hl hk hstep)
    (fun l g w hb hall hB hG => by
      have e : dst.length = ops.size := by rw [← hdst]; simp
      rw [← mkM_eq rfl hl hk hb]; exact hQ l g w (e ▸ hall) hB (e ▸ hG))
end
end Go.Proofs.YthefednendgclaaGreat
