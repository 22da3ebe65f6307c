/-
  What holds of each core by itself, whatever it is told: plainly.
-/
import Derived.Test.YtilhdelijdkjpaaVKn
set_option linter.unusedVariables false
set_option linter.unusedSimpArgs false
namespace Go.Proofs.Ytilhdelijdkjpaa
open Go Go.RowKit Go.Maps Sac

/-- What a core itself prepared, or committed to, in a view. -/
def ownP (c : Core) (w : Int) : Option Bs := lookM (inner c.prepares w) c.me
def ownC (c : Core) (w : Int) : Option Bs := lookM (inner c.commits w) c.me

/-- A core in order, by itself. -/
structure Loc (n me slot : Int) (c : Core) : Prop where
  hn : c.n = n
  hme : c.me = me
  hslot : c.slot = slot
  ok : CoreOk c
  srt : CoreSrt c
  srt2 : Srt c.deciders ∧ Srt c.seen
  kp : ∀ p ∈ c.prepares, KeysIn 1 n p.2
  kc : ∀ p ∈ c.commits, KeysIn 1 n p.2
  kd : KeysIn 1 n c.deciders
  view : c.view ≤ 1048576
  seen : ∀ p ∈ c.seen, p.2 ≤ 1048576
  oP : ∀ w y, ownP c w = some y → 0 ≤ w ∧ w ≤ c.view
  oC : ∀ w y, ownC c w = some y → 0 ≤ w ∧ w ≤ c.view
  lock : (c.lock = -1 ∧ c.locked = [] ∧ ∀ v, ownC c v = none) ∨ (0 ≤ c.lock ∧ ownC c c.lock = some c.locked ∧ ∀ v x, ownC c v = some x → v ≤ c.lock)
  val : c.decided = false → c.value = []

theorem inner_other {m : List (Int × TellM)} (hs : Srt m) {view w : Int} (t : TellM) (h : view ≠ w) : inner (putM view t m) w = inner m w := by
  unfold inner
  rw [lookM_putM _ _ _ hs, if_neg h]
/-- What a peer told, behind a telling. -/
theorem look_set {m : List (Int × TellM)} (hs : Srt m) (hi : ∀ p ∈ m, Srt p.2) (view who w me : Int) (v : Bs) :
    lookM (inner (putM view (putM who v (inner m view)) m) w) me = if view = w ∧ who = me then some v else lookM (inner m w) me := by
  by_cases h : view = w
  · subst h
    rw [inner_put hs, lookM_putM _ _ _ (inner_srt hi _)]
    by_cases h2 : who = me
    · rw [if_pos h2, if_pos ⟨rfl, h2⟩]
    · rw [if_neg h2, if_neg (fun h => h2 h.2)]
  · rw [inner_other hs _ h, if_neg (fun e => h e.1)]
theorem srt_set {m : List (Int × TellM)} (hs : Srt m ∧ ∀ p ∈ m, Srt p.2) (view who : Int) (v : Bs) : Srt (putM view (putM who v (inner m view)) m) ∧ ∀ p ∈ putM view (putM who v (inner m view)) m, Srt p.2 := by
  refine ⟨srt_putM _ _ _ hs.1, fun p hp => ?_⟩
  rcases mem_putM _ _ _ hp with rfl | hp
  · exact srt_putM _ _ _ (inner_srt hs.2 _)
  · exact hs.2 p hp
theorem keys_put {α : Type} {a b : Int} {l : List (Int × α)} (h : KeysIn a b l) {k : Int} (hk : a ≤ k ∧ k ≤ b) (v : α) : KeysIn a b (putM k v l) := by
  intro p hp
  rcases mem_putM _ _ _ hp with rfl | hp
  · exact hk
  · exact h p hp
theorem keys_inner {a b : Int} {m : List (Int × TellM)} (h : ∀ p ∈ m, KeysIn a b p.2) (view : Int) : KeysIn a b (inner m view) := by
  unfold inner
  cases hl : lookM m view with
  | none => exact fun p hp => by cases hp
  | some t => exact h _ (lookM_mem hl)
theorem keys_set {a b : Int} {m : List (Int × TellM)} (h : ∀ p ∈ m, KeysIn a b p.2) (view : Int) {who : Int} (hw : a ≤ who ∧ who ≤ b) (v : Bs) : ∀ p ∈ putM view (putM who v (inner m view)) m, KeysIn a b p.2 := by
  intro p hp
  rcases mem_putM _ _ _ hp with rfl | hp
  · exact keys_put (keys_inner h view) hw v
  · exact h p hp

section
variable {n me slot : Int} {c c' : Core} {acc : Bs → Bool}

theorem newCore_loc (hn : 4 ≤ n ∧ n ≤ 64) (hm : 1 ≤ me ∧ me ≤ n) (hs : 0 ≤ slot ∧ slot ≤ 256) : Loc n me slot (newCore n me slot) := by
  have nk : ∀ {α : Type} {a b : Int}, KeysIn a b ([] : List (Int × α)) := fun p hp => by cases hp
  have hin : CoreIn (newCore n me slot) :=
    { n := hn, me := hm, slot := hs, view := (by show (0 : Int) ≤ 0 ∧ (0 : Int) ≤ 4294967295; decide), lock := (by show (-1 : Int) ≤ -1 ∧ (-1 : Int) ≤ 4294967295; decide), props := nk, prepares := (fun q hq => by cases hq), commits := (fun q hq => by cases hq), turns := (fun q hq => by cases hq), deciders := nk, seen := nk, len1 := (fun q hq => by cases hq), len2 := (fun q hq => by cases hq), len3 := (fun q hq => by cases hq), len0 := ⟨Nat.zero_le _, Nat.zero_le _, Nat.zero_le _⟩, len6 := (fun q hq => by cases hq) }
  exact
    { hn := rfl, hme := rfl, hslot := rfl, ok := ⟨hin, fun q hq => by cases hq⟩, srt := ⟨List.Pairwise.nil, ⟨List.Pairwise.nil, fun q hq => by cases hq⟩, ⟨List.Pairwise.nil, fun q hq => by cases hq⟩⟩, srt2 := ⟨List.Pairwise.nil, List.Pairwise.nil⟩, kp := (fun q hq => by cases hq), kc := (fun q hq => by cases hq), kd := nk, view := (by show (0 : Int) ≤ 1048576; decide), seen := (fun q hq => by cases hq), oP := (fun w y h => by cases h), oC := (fun w y h => by cases h), lock := .inl ⟨rfl, rfl, fun v => rfl⟩, val := fun _ => rfl }

/-- Only its view has risen. -/
theorem Loc.rise (h : Loc n me slot c) {v : Int} (h1 : c.view ≤ v) (h2 : v ≤ 1048576) : Loc n me slot { c with view := v } := by
  have hi := h.ok.inn
  have hv := hi.view
  exact ⟨h.hn, h.hme, h.hslot, ⟨⟨hi.n, hi.me, hi.slot, ⟨by show 0 ≤ v; omega, by show v ≤ 4294967295; omega⟩, hi.lock, hi.props, hi.prepares, hi.commits, hi.turns, hi.deciders, hi.seen, hi.len1, hi.len2, hi.len3, hi.len0, hi.len6⟩, h.ok.seen⟩, ⟨h.srt.props, h.srt.prepares, h.srt.commits⟩, h.srt2, h.kp, h.kc, h.kd, h2, h.seen,
    fun w y e => by have := h.oP w y e; exact ⟨this.1, by show w ≤ v; omega⟩, fun w y e => by have := h.oC w y e; exact ⟨this.1, by show w ≤ v; omega⟩, h.lock, h.val⟩

theorem Loc.wish (h : Loc n me slot c) {v : Bs} (hv : v.length ≤ 4096) : Loc n me slot { c with wish := v, wishes := true } := by
  have hi := h.ok.inn
  exact ⟨h.hn, h.hme, h.hslot, ⟨⟨hi.n, hi.me, hi.slot, hi.view, hi.lock, hi.props, hi.prepares, hi.commits, hi.turns, hi.deciders, hi.seen, hi.len1, hi.len2, hi.len3, ⟨hv, hi.len0.2⟩, hi.len6⟩, h.ok.seen⟩, ⟨h.srt.props, h.srt.prepares, h.srt.commits⟩, h.srt2, h.kp, h.kc, h.kd, h.view, h.seen, h.oP, h.oC, h.lock, h.val⟩

theorem Loc.turn (h : Loc n me slot c) (ht : turnC c = some c') : Loc n me slot c' ∧ ∃ v, c.view < v ∧ c' = { c with view := v } := by
  obtain ⟨v, hv, hlt, rfl⟩ := turn_some h.ok.inn ht
  obtain ⟨p, hp, rfl⟩ := List.mem_map.1 hv
  exact ⟨h.rise (by omega) (h.seen p hp), _, hlt, rfl⟩

theorem Loc.propose (h : Loc n me slot c) (ht : proposeC c = some c') : Loc n me slot c' ∧ ∃ m, c' = { c with proposals := m } := by
  have hok := propose_ok h.ok ht
  obtain ⟨hno, p, rfl, _⟩ := propose_some ht
  exact ⟨⟨h.hn, h.hme, h.hslot, hok, ⟨srt_putM _ _ _ h.srt.props, h.srt.prepares, h.srt.commits⟩, h.srt2, h.kp, h.kc, h.kd, h.view, h.seen, h.oP, h.oC, h.lock, h.val⟩, _, rfl⟩

theorem Loc.prepare (h : Loc n me slot c) (ht : prepareC acc c = some c') : Loc n me slot c' ∧ ∃ p, lookM c.proposals c.view = some p ∧ fit acc c p = true ∧ ownP c c.view = none ∧ (∀ w, ownP c' w = if w = c.view then some p.1 else ownP c w) ∧ c' = { c with prepares := putM c.view (putM c.me p.1 (inner c.prepares c.view)) c.prepares } := by
  have hok := prepare_ok h.ok ht
  have hfit : ∀ p, lookM c.proposals c.view = some p → fit acc c p = true := fun p hp => by
    unfold prepareC at ht
    rw [hp] at ht
    dsimp only at ht
    split at ht
    · cases ht
    · rename_i hx
      cases hf : fit acc c p
      · exact absurd (.inr hf) hx
      · rfl
  obtain ⟨p, hp, hno, rfl⟩ := prepare_some ht
  have hown : ∀ w, ownP { c with prepares := putM c.view (putM c.me p.1 (inner c.prepares c.view)) c.prepares } w = if w = c.view then some p.1 else ownP c w := fun w => by
    show lookM (inner (putM c.view (putM c.me p.1 (inner c.prepares c.view)) c.prepares) w) c.me = _
    rw [look_set h.srt.prepares.1 h.srt.prepares.2]
    by_cases e : w = c.view
    · rw [if_pos e, if_pos ⟨e.symm, rfl⟩]
    · rw [if_neg e, if_neg (fun x => e x.1.symm)]
      rfl
  have hi := h.ok.inn
  have hv := hi.view
  have hme := hi.me
  refine ⟨⟨h.hn, h.hme, h.hslot, hok, ⟨h.srt.props, srt_set h.srt.prepares _ _ _, h.srt.commits⟩, h.srt2, keys_set h.kp _ (by rw [← h.hn]; exact ⟨hme.1, hme.2⟩) _, h.kc, h.kd, h.view, h.seen, fun w y e => ?_, h.oC, h.lock, h.val⟩, p, hp, hfit p hp, hno, hown, rfl⟩
  rw [hown] at e
  split at e
  · rename_i e2
    rw [e2]
    exact ⟨hv.1, Int.le_refl _⟩
  · exact h.oP w y e

theorem Loc.commit (h : Loc n me slot c) (ht : commitC c = some c') : Loc n me slot c' ∧ ∃ v, prepared c c.view = some v ∧ ownC c c.view = none ∧ (∀ w, ownC c' w = if w = c.view then some v else ownC c w) ∧ c' = { c with commits := putM c.view (putM c.me v (inner c.commits c.view)) c.commits, lock := c.view, locked := v } := by
  have hok := commit_ok h.ok ht
  obtain ⟨v, hv, hno, rfl⟩ := commit_some ht
  have hown : ∀ w, ownC { c with commits := putM c.view (putM c.me v (inner c.commits c.view)) c.commits, lock := c.view, locked := v } w = if w = c.view then some v else ownC c w := fun w => by
    show lookM (inner (putM c.view (putM c.me v (inner c.commits c.view)) c.commits) w) c.me = _
    rw [look_set h.srt.commits.1 h.srt.commits.2]
    by_cases e : w = c.view
    · rw [if_pos e, if_pos ⟨e.symm, rfl⟩]
    · rw [if_neg e, if_neg (fun x => e x.1.symm)]
      rfl
  have hi := h.ok.inn
  have hvw := hi.view
  have hme := hi.me
  have hle : ∀ w y, ownC { c with commits := putM c.view (putM c.me v (inner c.commits c.view)) c.commits, lock := c.view, locked := v } w = some y → 0 ≤ w ∧ w ≤ c.view := fun w y e => by
    rw [hown] at e
    split at e
    · rename_i e2
      rw [e2]
      exact ⟨hvw.1, Int.le_refl _⟩
    · exact h.oC w y e
  refine ⟨⟨h.hn, h.hme, h.hslot, hok, ⟨h.srt.props, h.srt.prepares, srt_set h.srt.commits _ _ _⟩, h.srt2, h.kp, keys_set h.kc _ (by rw [← h.hn]; exact ⟨hme.1, hme.2⟩) _, h.kd, h.view, h.seen, h.oP, hle, .inr ⟨hvw.1, ?_, fun w x e => (hle w x e).2⟩, h.val⟩, v, hv, hno, hown, rfl⟩
  rw [hown]
  exact if_pos rfl

theorem Loc.decide (h : Loc n me slot c) : Loc n me slot (decideC c) := by
  have hok := decide_ok h.ok
  have hval : (decideC c).decided = false → (decideC c).value = [] := by
    unfold decideC
    split
    · intro e; cases e
    · split
      · intro e; cases e
      · intro _; rfl
  obtain ⟨d, v, he, _⟩ := decide_is c
  rw [he] at hok hval ⊢
  exact ⟨h.hn, h.hme, h.hslot, hok, ⟨h.srt.props, h.srt.prepares, h.srt.commits⟩, h.srt2, h.kp, h.kc, h.kd, h.view, h.seen, h.oP, h.oC, h.lock, hval⟩

theorem Loc.step (h : Loc n me slot c) : Loc n me slot (stepC acc c).1 := by
  unfold stepC
  split
  · rename_i c' e; exact (h.turn e).1
  · split
    · rename_i c' e; exact (h.propose e).1
    · split
      · rename_i c' e; exact (h.prepare e).1
      · split
        · rename_i c' e; exact (h.commit e).1
        · exact h.decide
theorem Loc.actN : ∀ {k : Nat} {c : Core}, Loc n me slot c → Loc n me slot (Sac.actN acc k c)
  | 0, _, h => h
  | k + 1, c, h => by
    unfold Sac.actN
    split
    · exact h
    · have hs := Loc.step (acc := acc) h
      split
      · rename_i e; rw [e] at hs; exact hs.actN
      · rename_i e; rw [e] at hs; exact hs

/-- What a peer told is known: its own stays. -/
theorem Loc.know (h : Loc n me slot c) {v : Vt} (hv : VtIn v) (hf : v.frm ≤ n) (hm : v.frm ≠ me) (ht : know c v = some c') : Loc n me slot c' ∧ (∀ w, ownP c' w = ownP c w) ∧ (∀ w, ownC c' w = ownC c w) ∧ c'.decided = c.decided ∧ c'.value = c.value ∧ c'.view = c.view := by
  have hok := know_ok h.ok hv ht
  have hw : 1 ≤ v.frm ∧ v.frm ≤ n := ⟨hv.frm.1, hf⟩
  have hne : v.frm ≠ c.me := by rw [h.hme]; exact hm
  unfold Sac.know at ht
  split at ht
  · split at ht
    · cases ht
    · obtain rfl := Option.some.inj ht
      exact ⟨⟨h.hn, h.hme, h.hslot, hok, ⟨srt_putM _ _ _ h.srt.props, h.srt.prepares, h.srt.commits⟩, h.srt2, h.kp, h.kc, h.kd, h.view, h.seen, h.oP, h.oC, h.lock, h.val⟩, fun _ => rfl, fun _ => rfl, rfl, rfl, rfl⟩
  · split at ht
    · obtain ⟨m, hm, rfl⟩ := Option.map_eq_some_iff.1 ht
      obtain ⟨_, rfl⟩ := setV_some hm
      have hown : ∀ w, ownP { c with prepares := putM v.view (putM v.frm v.value (inner c.prepares v.view)) c.prepares } w = ownP c w := fun w => by
        show lookM (inner (putM v.view (putM v.frm v.value (inner c.prepares v.view)) c.prepares) w) c.me = _
        rw [look_set h.srt.prepares.1 h.srt.prepares.2, if_neg (fun e => hne e.2)]
        rfl
      exact ⟨⟨h.hn, h.hme, h.hslot, hok, ⟨h.srt.props, srt_set h.srt.prepares _ _ _, h.srt.commits⟩, h.srt2, keys_set h.kp _ hw _, h.kc, h.kd, h.view, h.seen, fun w y e => h.oP w y ((hown w).symm.trans e), h.oC, h.lock, h.val⟩, hown, fun _ => rfl, rfl, rfl, rfl⟩
    · split at ht
      · obtain ⟨m, hm, rfl⟩ := Option.map_eq_some_iff.1 ht
        obtain ⟨_, rfl⟩ := setV_some hm
        have hown : ∀ w, ownC { c with commits := putM v.view (putM v.frm v.value (inner c.commits v.view)) c.commits } w = ownC c w := fun w => by
          show lookM (inner (putM v.view (putM v.frm v.value (inner c.commits v.view)) c.commits) w) c.me = _
          rw [look_set h.srt.commits.1 h.srt.commits.2, if_neg (fun e => hne e.2)]
          rfl
        refine ⟨⟨h.hn, h.hme, h.hslot, hok, ⟨h.srt.props, h.srt.prepares, srt_set h.srt.commits _ _ _⟩, h.srt2, h.kp, keys_set h.kc _ hw _, h.kd, h.view, h.seen, h.oP, fun w y e => h.oC w y ((hown w).symm.trans e), ?_, h.val⟩, fun _ => rfl, hown, rfl, rfl, rfl⟩
        rcases h.lock with ⟨a, b, d⟩ | ⟨a, b, d⟩
        · exact .inl ⟨a, b, fun w => (hown w).trans (d w)⟩
        · exact .inr ⟨a, (hown _).trans b, fun w x e => d w x ((hown w).symm.trans e)⟩
      · split at ht
        · obtain ⟨m, hm, rfl⟩ := Option.map_eq_some_iff.1 ht
          obtain ⟨_, rfl⟩ := setV_some hm
          exact ⟨⟨h.hn, h.hme, h.hslot, hok, ⟨h.srt.props, h.srt.prepares, h.srt.commits⟩, h.srt2, h.kp, h.kc, h.kd, h.view, h.seen, h.oP, h.oC, h.lock, h.val⟩, fun _ => rfl, fun _ => rfl, rfl, rfl, rfl⟩
        · split at ht
          · cases ht
          · obtain rfl := Option.some.inj ht
            exact ⟨⟨h.hn, h.hme, h.hslot, hok, ⟨h.srt.props, h.srt.prepares, h.srt.commits⟩, ⟨srt_putM _ _ _ h.srt2.1, h.srt2.2⟩, h.kp, h.kc, keys_put h.kd hw _, h.view, h.seen, h.oP, h.oC, h.lock, h.val⟩, fun _ => rfl, fun _ => rfl, rfl, rfl, rfl⟩

theorem Loc.see (h : Loc n me slot c) {v : Vt} (hv : VtIn v) : Loc n me slot { c with seen := putM v.frm (max ((lookM c.seen v.frm).getD 0) v.view) c.seen } := by
  have hok := seen_ok h.ok hv.frm (by have := hv.view; omega : 0 ≤ v.view ∧ v.view ≤ 4294967295)
  refine ⟨h.hn, h.hme, h.hslot, hok, ⟨h.srt.props, h.srt.prepares, h.srt.commits⟩, ⟨h.srt2.1, srt_putM _ _ _ h.srt2.2⟩, h.kp, h.kc, h.kd, h.view, fun q hq => ?_, h.oP, h.oC, h.lock, h.val⟩
  rcases mem_putM _ _ _ hq with rfl | hq
  · have := hv.view
    cases hl : lookM c.seen v.frm with
    | none => simp only [Option.getD_none]; omega
    | some x =>
      have := h.seen _ (lookM_mem hl)
      simp only [Option.getD_some] at this ⊢
      omega
  · exact h.seen q hq

/-- What a core is told, before it acts. -/
def heard (c' : Core) (v : Vt) : Core := if v.kind = 4 then c' else { c' with seen := putM v.frm (max ((lookM c'.seen v.frm).getD 0) v.view) c'.seen }
theorem takeC_cases (acc : Bs → Bool) (c : Core) (v : Vt) : takeC acc c v = (c, false) ∨ (v.slot = c.slot ∧ v.frm ≤ c.n ∧ v.frm ≠ c.me ∧ encOk v = true ∧ ∃ c', Sac.know c v = some c' ∧ takeC acc c v = (Sac.act acc (heard c' v), true)) := by
  unfold takeC
  split
  · exact .inl rfl
  · rename_i h
    cases hk : Sac.know c v with
    | none => exact .inl rfl
    | some c' =>
      refine .inr ⟨?_, ?_, ?_, ?_, c', rfl, rfl⟩
      · exact Decidable.byContradiction fun e => h (.inl e)
      · exact Int.not_lt.1 fun e => h (.inr (.inl e))
      · exact fun e => h (.inr (.inr (.inl e)))
      · cases he : encOk v
        · exact absurd (.inr (.inr (.inr he))) h
        · rfl
theorem Loc.heard (h : Loc n me slot c) {v : Vt} (hv : VtIn v) : Loc n me slot (heard c v) := by
  unfold Go.Proofs.Ytilhdelijdkjpaa.heard
  split
  · exact h
  · exact h.see hv
theorem Loc.take (h : Loc n me slot c) (v : Vt) : Loc n me slot (takeC acc c v).1 := by
  rcases takeC_cases acc c v with e | ⟨_, h2, h3, h4, c', h5, h6⟩
  · rw [e]; exact h
  · rw [h6]
    have hv := (encOk_in h4).2
    exact ((h.know hv (by rw [← h.hn]; exact h2) (by rw [← h.hme]; exact h3) h5).1.heard hv).actN
theorem Loc.late (h : Loc n me slot c) : Loc n me slot (lateC acc c) := by
  unfold lateC
  split
  · rename_i e
    exact (h.rise (by omega) (by omega)).actN
  · exact h
theorem Loc.wishes (h : Loc n me slot c) (v : Bs) : Loc n me slot (wishC acc c v) := by
  unfold wishC
  split
  · exact h
  · rename_i e
    exact (h.wish (Nat.le_of_not_lt fun x => e (.inr x))).actN
end
end Go.Proofs.Ytilhdelijdkjpaa
