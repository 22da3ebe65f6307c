/-
  What a core never undoes, and what it tells: the plain law of VoteViews. No program in sight.
-/
import Derived.Test.YtilhdelijdkjpaaGl
set_option linter.unusedVariables false
set_option linter.unusedSimpArgs false
namespace Go.Proofs.Ytilhdelijdkjpaa
open Go Go.RowKit Go.Maps Sac

/-- The views that its proposals name are views. -/
def PvOk (c : Core) : Prop := ∀ p ∈ c.proposals, p.2.2 ≤ 1048576
/-- What of a core stays, whatever it is told. -/
structure Keep (c c' : Core) : Prop where
  view : c.view ≤ c'.view
  oP : ∀ w y, ownP c w = some y → ownP c' w = some y
  oC : ∀ w y, ownC c w = some y → ownC c' w = some y
  dec : c.decided = true → c'.decided = true ∧ c'.value = c.value
  pv : PvOk c → PvOk c'
theorem Keep.refl (c : Core) : Keep c c := ⟨Int.le_refl _, fun _ _ h => h, fun _ _ h => h, fun h => ⟨h, rfl⟩, fun h => h⟩
theorem Keep.trans {a b c : Core} (h : Keep a b) (k : Keep b c) : Keep a c :=
  ⟨Int.le_trans h.view k.view, fun w y e => k.oP w y (h.oP w y e), fun w y e => k.oC w y (h.oC w y e), fun e => ⟨(k.dec (h.dec e).1).1, (k.dec (h.dec e).1).2.trans (h.dec e).2⟩, fun e => k.pv (h.pv e)⟩

theorem best_lt {c : Core} {below : Int} {r : Int × Bs} (h : best c below = some r) : r.1 < below := by
  unfold best at h
  obtain ⟨p, hp, h2⟩ := List.exists_of_findSome?_eq_some h
  split at h2
  · split at h2
    · cases h2; assumption
    · cases h2
  · cases h2

section
variable {n me slot : Int} {c c' : Core} {acc : Bs → Bool}
theorem Loc.keep_step (h : Loc n me slot c) (hd : c.decided = false) : Keep c (stepC acc c).1 := by
  unfold stepC
  split
  · rename_i c' e
    obtain ⟨_, v, hv, rfl⟩ := h.turn e
    exact ⟨by show c.view ≤ v; omega, fun _ _ h => h, fun _ _ h => h, fun e => ⟨e, rfl⟩, fun h => h⟩
  · split
    · rename_i c' e
      obtain ⟨hno, p, rfl, hp⟩ := propose_some e
      refine ⟨Int.le_refl _, fun _ _ h => h, fun _ _ h => h, fun e => ⟨e, rfl⟩, fun hpv q hq => ?_⟩
      rcases mem_putM _ _ _ hq with rfl | hq
      · rcases hp with ⟨r, hr, rfl⟩ | rfl
        · have h1 := best_lt hr
          have h2 := h.view
          show r.1 ≤ 1048576
          omega
        · show (-1 : Int) ≤ 1048576
          decide
      · exact hpv q hq
    · split
      · rename_i c' e
        obtain ⟨_, p, _, _, hno, hown, he⟩ := h.prepare e
        refine ⟨by rw [he]; exact Int.le_refl _, fun w y hw => ?_, by rw [he]; exact fun _ _ h => h, by rw [he]; exact fun e => ⟨e, rfl⟩, by rw [he]; exact fun h => h⟩
        rw [hown]
        split
        · rename_i e1
          rw [e1, hno] at hw; cases hw
        · exact hw
      · split
        · rename_i c' e
          obtain ⟨_, p, _, hno, hown, he⟩ := h.commit e
          refine ⟨by rw [he]; exact Int.le_refl _, by rw [he]; exact fun _ _ h => h, fun w y hw => ?_, by rw [he]; exact fun e => ⟨e, rfl⟩, by rw [he]; exact fun h => h⟩
          rw [hown]
          split
          · rename_i e1
            rw [e1, hno] at hw; cases hw
          · exact hw
        · obtain ⟨d, v, he, _⟩ := decide_is c
          show Keep c (decideC c)
          rw [he]
          exact ⟨Int.le_refl _, fun _ _ h => h, fun _ _ h => h, fun e => absurd (hd.symm.trans e) (by decide), fun h => h⟩
theorem Loc.keep_act : ∀ {k : Nat} {c : Core}, Loc n me slot c → Keep c (Sac.actN acc k c)
  | 0, c, _ => Keep.refl c
  | k + 1, c, h => by
    unfold Sac.actN
    split
    · exact Keep.refl c
    · rename_i hd
      have hd : c.decided = false := by cases e : c.decided <;> simp_all
      have hs := Loc.step (acc := acc) h
      have hk := h.keep_step (acc := acc) hd
      split
      · rename_i e
        rw [e] at hs hk
        exact hk.trans hs.keep_act
      · rename_i e
        rw [e] at hk
        exact hk
theorem Loc.keep_late (h : Loc n me slot c) : Keep c (lateC acc c) := by
  unfold lateC
  split
  · rename_i e
    refine Keep.trans (b := { c with view := c.view + 1 }) ⟨by show c.view ≤ c.view + 1; omega, fun _ _ h => h, fun _ _ h => h, fun e => ⟨e, rfl⟩, fun h => h⟩ ((h.rise (by omega) (by omega)).keep_act)
  · exact Keep.refl c
theorem Loc.keep_wish (h : Loc n me slot c) (v : Bs) : Keep c (wishC acc c v) := by
  unfold wishC
  split
  · exact Keep.refl c
  · rename_i e
    refine Keep.trans (b := { c with wish := v, wishes := true }) ⟨Int.le_refl _, fun _ _ h => h, fun _ _ h => h, fun e => ⟨e, rfl⟩, fun h => h⟩ ((h.wish (Nat.le_of_not_lt fun x => e (.inr x))).keep_act)
theorem know_pv {v : Vt} (he : encOk v = true) (ht : Sac.know c v = some c') (h : PvOk c) : PvOk c' := by
  unfold Sac.know at ht
  split at ht
  · split at ht
    · cases ht
    · obtain rfl := Option.some.inj ht
      intro q hq
      rcases mem_putM _ _ _ hq with rfl | hq
      · have := of_decide_eq_true he
        show v.valid ≤ 1048576
        omega
      · exact h q hq
  · split at ht
    · obtain ⟨m, hm, rfl⟩ := Option.map_eq_some_iff.1 ht
      exact h
    · split at ht
      · obtain ⟨m, hm, rfl⟩ := Option.map_eq_some_iff.1 ht
        exact h
      · split at ht
        · obtain ⟨m, hm, rfl⟩ := Option.map_eq_some_iff.1 ht
          exact h
        · split at ht
          · cases ht
          · obtain rfl := Option.some.inj ht
            exact h
theorem Loc.keep_take (h : Loc n me slot c) (v : Vt) : Keep c (takeC acc c v).1 := by
  rcases takeC_cases acc c v with e | ⟨_, h2, h3, h4, c', h5, h6⟩
  · rw [e]; exact Keep.refl c
  · rw [h6]
    have hv := (encOk_in h4).2
    obtain ⟨k1, k2, k3, k4, k5, k6⟩ := h.know hv (by rw [← h.hn]; exact h2) (by rw [← h.hme]; exact h3) h5
    have k7 := know_pv h4 h5
    have e1 : Keep c (Go.Proofs.Ytilhdelijdkjpaa.heard c' v) := by
      unfold Go.Proofs.Ytilhdelijdkjpaa.heard
      split
      · exact ⟨Int.le_of_eq k6.symm, fun w y e => (k2 w).trans e, fun w y e => (k3 w).trans e, fun e => ⟨k4.trans e, k5⟩, k7⟩
      · exact ⟨Int.le_of_eq k6.symm, fun w y e => (k2 w).trans e, fun w y e => (k3 w).trans e, fun e => ⟨k4.trans e, k5⟩, k7⟩
    exact e1.trans ((k1.heard hv).keep_act)

/-- All that it tells is its own, of its slot, of no later view, and can be written. -/
theorem Loc.says_own (h : Loc n me slot c) (hp : PvOk c) {v : Vt} (hv : v ∈ Sac.says c) : v.frm = me ∧ v.slot = slot ∧ v.view ≤ c.view ∧ encOk v = true := by
  obtain ⟨o2, o3⟩ := own_in h
  have hi := h.ok.inn
  have hn := hi.n
  have hme := hi.me
  have hsl := hi.slot
  have hvw := hi.view
  have hv2 := h.view
  have ok : ∀ (k : Int) (view valid : Int) (val : Bs), 1 ≤ k ∧ k ≤ 5 → 0 ≤ view ∧ view ≤ c.view → -1 ≤ valid ∧ valid ≤ 1048576 → val.length ≤ 4096 → encOk ⟨k, c.me, c.slot, view, valid, val⟩ = true := fun k view valid val h1 h2 h3 h4 => decide_eq_true (by dsimp only; omega)
  have fin : ∀ (k : Int) (view valid : Int) (val : Bs), 1 ≤ k ∧ k ≤ 5 → 0 ≤ view ∧ view ≤ c.view → -1 ≤ valid ∧ valid ≤ 1048576 → val.length ≤ 4096 → v = ⟨k, c.me, c.slot, view, valid, val⟩ → v.frm = me ∧ v.slot = slot ∧ v.view ≤ c.view ∧ encOk v = true := fun k view valid val h1 h2 h3 h4 e => by
    rw [e]
    exact ⟨h.hme, h.hslot, h2.2, ok k view valid val h1 h2 h3 h4⟩
  unfold Sac.says at hv
  rcases List.mem_append.1 hv with hv | hv
  · rcases List.mem_append.1 hv with hv | hv
    · rcases List.mem_append.1 hv with hv | hv
      · split at hv
        · exact fin 4 0 (-1) c.value (by decide) (by omega) (by decide) hi.len0.2.2 (List.mem_singleton.1 hv)
        · exact fin 5 c.view (-1) [] (by decide) (by omega) (by decide) (Nat.zero_le _) (List.mem_singleton.1 hv)
      · split at hv
        · rename_i p hl
          split at hv
          · have h1 := hi.len1 _ (lookM_mem hl)
            have h2 := hp _ (lookM_mem hl)
            exact fin 1 c.view p.2 p.1 (by decide) (by omega) ⟨h1.2.1, h2⟩ h1.1 (List.mem_singleton.1 hv)
          · cases hv
        · cases hv
    · obtain ⟨e1, e2, e3, e4, _⟩ := mem_mine h.srt.prepares.1 hv
      have hb := o2 v hv
      obtain ⟨k, f, s, w, d, y⟩ := v
      subst e1 e2 e3 e4
      exact fin 2 w (-1) y (by decide) ⟨hb.1, hb.2.1⟩ (by decide) hb.2.2.2 rfl
  · obtain ⟨e1, e2, e3, e4, _⟩ := mem_mine h.srt.commits.1 hv
    have hb := o3 v hv
    obtain ⟨k, f, s, w, d, y⟩ := v
    subst e1 e2 e3 e4
    exact fin 3 w (-1) y (by decide) ⟨hb.1, hb.2.1⟩ (by decide) hb.2.2.2 rfl
end

/-! ### the same as long as it hasn't grown -/
theorem rising_sub_len : ∀ {m l : List Vt} {a b : Int}, Rising a l → Rising b m → (∀ v ∈ l, v ∈ m) → l.length ≤ m.length
  | [], l, _, _, _, _, hs => by
    cases l with
    | nil => exact Nat.le_refl _
    | cons x l => cases hs x List.mem_cons_self
  | y :: m, l, a, b, hl, hm, hs => by
    cases l with
    | nil => exact Nat.zero_le _
    | cons x l =>
      have hx : ∀ v ∈ l, v ∈ m := fun v hv => by
        have h1 := rising_lt hl.2 v hv
        rcases List.mem_cons.1 (hs v (List.mem_cons_of_mem _ hv)) with e | e
        · exfalso
          rcases List.mem_cons.1 (hs x List.mem_cons_self) with e2 | e2
          · rw [e, ← e2] at h1; omega
          · have := rising_lt hm.2 x e2
            rw [e] at h1; omega
        · exact e
      have := rising_sub_len hl.2 hm.2 hx
      rw [List.length_cons, List.length_cons]; omega
theorem rising_eq : ∀ {l m : List Vt} {a b : Int}, Rising a l → Rising b m → (∀ v ∈ l, v ∈ m) → m.length ≤ l.length → l = m
  | [], m, _, _, _, _, _, hle => by
    cases m with
    | nil => rfl
    | cons y m => rw [List.length_cons] at hle; exact absurd hle (by simp)
  | x :: l, m, a, b, hl, hm, hs, hle => by
    cases m with
    | nil => cases hs x List.mem_cons_self
    | cons y m =>
      rcases List.mem_cons.1 (hs x List.mem_cons_self) with e | e
      · subst e
        have hx : ∀ v ∈ l, v ∈ m := fun v hv => by
          have h1 := rising_lt hl.2 v hv
          rcases List.mem_cons.1 (hs v (List.mem_cons_of_mem _ hv)) with e | e
          · rw [e] at h1; omega
          · exact e
        rw [rising_eq hl.2 hm.2 hx (by rw [List.length_cons, List.length_cons] at hle; omega)]
      · exfalso
        have hx : ∀ v ∈ x :: l, v ∈ m := fun v hv => by
          have h2 := rising_lt hm.2 x e
          rcases List.mem_cons.1 hv with rfl | hv2
          · exact e
          · have h1 := rising_lt hl.2 v hv2
            rcases List.mem_cons.1 (hs v hv) with e3 | e3
            · rw [e3] at h1; omega
            · exact e3
        have h3 := rising_sub_len hl hm.2 hx
        rw [List.length_cons] at hle
        omega
theorem mine_len (c : Core) (kind : Int) : ∀ m : List (Int × TellM), (mine c kind m).length = m.countP (fun p => (lookM p.2 c.me).isSome)
  | [] => rfl
  | p :: m => by
    have ih := mine_len c kind m
    rw [List.countP_cons, ← ih]
    unfold mine
    rw [List.filterMap_cons]
    cases lookM p.2 c.me with
    | none => rfl
    | some y => rfl
theorem mem_mine_of {c : Core} {k : Int} {m : List (Int × TellM)} {w : Int} {y : Bs} (h : lookM (inner m w) c.me = some y) : (⟨k, c.me, c.slot, w, -1, y⟩ : Vt) ∈ mine c k m := by
  unfold inner at h
  cases hl : lookM m w with
  | none => rw [hl] at h; cases h
  | some t =>
    rw [hl] at h
    exact List.mem_filterMap.2 ⟨(w, t), lookM_mem hl, by rw [show lookM (w, t).2 c.me = some y from h]; rfl⟩
theorem grown_same {n me slot : Int} {c c' : Core} (h : Loc n me slot c) (h' : Loc n me slot c') (k : Keep c c') (hg : grownC c' = grownC c) (hd : c'.decided = c.decided) : bytesC c' = bytesC c := by
  unfold grownC at hg
  injection hg with g1 g2
  injection g2 with g2 g3
  have g2 : (c'.prepares.countP fun p => (lookM p.2 c'.me).isSome) = (c.prepares.countP fun p => (lookM p.2 c.me).isSome) := by omega
  have g3 : (c'.commits.countP fun p => (lookM p.2 c'.me).isSome) = (c.commits.countP fun p => (lookM p.2 c.me).isSome) := by omega
  have hme : c'.me = c.me := h'.hme.trans h.hme.symm
  have hsl : c'.slot = c.slot := h'.hslot.trans h.hslot.symm
  have e2 : mine c 2 c.prepares = mine c' 2 c'.prepares := by
    refine rising_eq (a := -1) (b := -1) (mine_rising c 2 c.prepares (-1) h.srt.prepares.1 (fun p hp => by have := (h.ok.inn.prepares p hp).1; omega)) (mine_rising c' 2 c'.prepares (-1) h'.srt.prepares.1 (fun p hp => by have := (h'.ok.inn.prepares p hp).1; omega)) (fun v hv => ?_) (by rw [mine_len, mine_len, g2]; exact Nat.le_refl _)
    obtain ⟨e1, e2, e3, e4, e5⟩ := mem_mine h.srt.prepares.1 hv
    obtain ⟨k1, f, s, w, d, y⟩ := v
    subst e1 e2 e3 e4
    have e6 := k.oP w y e5
    have := mem_mine_of (k := 2) e6
    rw [hme, hsl] at this
    exact this
  have e3 : mine c 3 c.commits = mine c' 3 c'.commits := by
    refine rising_eq (a := -1) (b := -1) (mine_rising c 3 c.commits (-1) h.srt.commits.1 (fun p hp => by have := (h.ok.inn.commits p hp).1; omega)) (mine_rising c' 3 c'.commits (-1) h'.srt.commits.1 (fun p hp => by have := (h'.ok.inn.commits p hp).1; omega)) (fun v hv => ?_) (by rw [mine_len, mine_len, g3]; exact Nat.le_refl _)
    obtain ⟨e1, e2, e3, e4, e5⟩ := mem_mine h.srt.commits.1 hv
    obtain ⟨k1, f, s, w, d, y⟩ := v
    subst e1 e2 e3 e4
    have e6 := k.oC w y e5
    have := mem_mine_of (k := 3) e6
    rw [hme, hsl] at this
    exact this
  unfold bytesC
  rw [← e2, ← e3, g1, hd]
  cases hdd : c.decided with
  | false => rfl
  | true => rw [(k.dec hdd).2]
end Go.Proofs.Ytilhdelijdkjpaa
