/-
  know, whole; what it keeps.
-/
import Derived.Test.YtilhdelijdkjpaaVW
set_option linter.unusedVariables false
set_option linter.unusedSimpArgs false
namespace Go.Proofs.Ytilhdelijdkjpaa
open Go Go.RowKit Go.Maps Sac

theorem know_any {acc : Bs → Bool} {col : Colour} {ci b : Nat} {w : World} {c : Core} (v : Vt) (s : Value) (hk : 1 ≤ v.kind ∧ v.kind ≤ 5) (ht : Tinted col w) (h : CoreAt acc col ci w b c) (hok : CoreOk c) (hv : VtIn v) (hs : IB w s v.value) :
    Calls Try.prog 60 #[.pointer (some ⟨b, 0, none⟩), voteV v.kind v s] w (StepPost acc (know c v) col ci b w) := by
  have h5 : v.kind = 1 ∨ v.kind = 2 ∨ v.kind = 3 ∨ v.kind = 4 ∨ v.kind = 5 := by omega
  rcases h5 with e | e | e | e | e <;> rw [e]
  · exact know_1 v s e ht h hok hv hs
  · exact know_2 v s e ht h hok hv hs
  · exact know_3 v s e ht h hok hv hs
  · exact know_4 v s e ht h hok hv hs
  · exact know_5 v s e ht h hok hv hs

theorem know_ok {c c' : Core} {v : Vt} (hok : CoreOk c) (hv : VtIn v) (h : know c v = some c') : CoreOk c' := by
  have hi := hok.inn
  have hvw : 0 ≤ v.view ∧ v.view ≤ 4294967295 := by have := hv.view; omega
  unfold know at h
  split at h
  · split at h
    · cases h
    · obtain rfl := Option.some.inj h
      refine ⟨⟨hi.n, hi.me, hi.slot, hi.view, hi.lock, fun q hq => ?_, hi.prepares, hi.commits, hi.turns, hi.deciders, hi.seen, fun q hq => ?_, hi.len2, hi.len3, hi.len0, hi.len6⟩, hok.seen⟩
      · rcases mem_putM _ _ _ hq with rfl | hq
        · exact hvw
        · exact hi.props q hq
      · rcases mem_putM _ _ _ hq with rfl | hq
        · exact ⟨hv.len, hv.valid.1, by have := hv.valid; show v.valid ≤ 4294967295; omega⟩
        · exact hi.len1 q hq
  · split at h
    · obtain ⟨m, hm, rfl⟩ := Option.map_eq_some_iff.1 h
      obtain ⟨_, rfl⟩ := setV_some hm
      exact ⟨⟨hi.n, hi.me, hi.slot, hi.view, hi.lock, hi.props, mapsOk_put hi.prepares hvw hv.frm _, hi.commits, hi.turns, hi.deciders, hi.seen, hi.len1, len_put hi.len2 hv.len, hi.len3, hi.len0, hi.len6⟩, hok.seen⟩
    · split at h
      · obtain ⟨m, hm, rfl⟩ := Option.map_eq_some_iff.1 h
        obtain ⟨_, rfl⟩ := setV_some hm
        exact ⟨⟨hi.n, hi.me, hi.slot, hi.view, hi.lock, hi.props, hi.prepares, mapsOk_put hi.commits hvw hv.frm _, hi.turns, hi.deciders, hi.seen, hi.len1, hi.len2, len_put hi.len3 hv.len, hi.len0, hi.len6⟩, hok.seen⟩
      · split at h
        · obtain ⟨m, hm, rfl⟩ := Option.map_eq_some_iff.1 h
          obtain ⟨_, rfl⟩ := setV_some hm
          exact ⟨⟨hi.n, hi.me, hi.slot, hi.view, hi.lock, hi.props, hi.prepares, hi.commits, mapsOk_put hi.turns hvw hv.frm _, hi.deciders, hi.seen, hi.len1, hi.len2, hi.len3, hi.len0, hi.len6⟩, hok.seen⟩
        · split at h
          · cases h
          · obtain rfl := Option.some.inj h
            refine ⟨⟨hi.n, hi.me, hi.slot, hi.view, hi.lock, hi.props, hi.prepares, hi.commits, hi.turns, fun q hq => ?_, hi.seen, hi.len1, hi.len2, hi.len3, hi.len0, fun q hq => ?_⟩, hok.seen⟩
            · rcases mem_putM _ _ _ hq with rfl | hq
              · exact hv.frm
              · exact hi.deciders q hq
            · rcases mem_putM _ _ _ hq with rfl | hq
              · exact hv.len
              · exact hi.len6 q hq

theorem seen_ok {c : Core} (hok : CoreOk c) {who view : Int} (hw : 1 ≤ who ∧ who ≤ 64) (hv : 0 ≤ view ∧ view ≤ 4294967295) : CoreOk { c with seen := putM who (max ((lookM c.seen who).getD 0) view) c.seen } := by
  have hi := hok.inn
  refine ⟨⟨hi.n, hi.me, hi.slot, hi.view, hi.lock, hi.props, hi.prepares, hi.commits, hi.turns, hi.deciders, fun q hq => ?_, hi.len1, hi.len2, hi.len3, hi.len0, hi.len6⟩, fun q hq => ?_⟩
  · rcases mem_putM _ _ _ hq with rfl | hq
    · exact hw
    · exact hi.seen q hq
  · rcases mem_putM _ _ _ hq with rfl | hq
    · cases hl : lookM c.seen who with
      | none => simp only [Option.getD_none]; omega
      | some x =>
        have := hok.seen _ (lookM_mem hl)
        simp only [Option.getD_some] at this ⊢
        omega
    · exact hok.seen q hq

theorem encOk_in {v : Vt} (h : encOk v = true) : (1 ≤ v.kind ∧ v.kind ≤ 5) ∧ VtIn v := by
  unfold encOk at h
  simp only [decide_eq_true_eq] at h
  exact ⟨⟨h.1, h.2.1⟩, ⟨⟨h.2.2.1, h.2.2.2.1⟩, ⟨h.2.2.2.2.1, h.2.2.2.2.2.1⟩, ⟨h.2.2.2.2.2.2.1, h.2.2.2.2.2.2.2.1⟩, ⟨h.2.2.2.2.2.2.2.2.1, h.2.2.2.2.2.2.2.2.2.1⟩, h.2.2.2.2.2.2.2.2.2.2⟩⟩

theorem act_ok {acc : Bs → Bool} : ∀ {k : Nat} {c : Core}, CoreOk c → CoreOk (actN acc k c)
  | 0, _, h => h
  | k + 1, c, h => by
    unfold actN
    split
    · exact h
    · have hs := step_ok (acc := acc) h
      split
      · rename_i e; rw [e] at hs; exact act_ok hs
      · rename_i e; rw [e] at hs; exact hs

end Go.Proofs.Ytilhdelijdkjpaa
