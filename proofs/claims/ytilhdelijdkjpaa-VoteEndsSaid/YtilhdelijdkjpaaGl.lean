import Derived.Test.YtilhdelijdkjpaaPD
import Derived.Test.YtilhdelijdkjpaaBy0
set_option linter.unusedVariables false
set_option linter.unusedSimpArgs false
/-
  The peers as a list: the plain invariant of VoteAgrees.
-/
namespace Go.Proofs.Ytilhdelijdkjpaa
open Go Go.RowKit Go.Maps Sac

/-- The list's core at a place (behind the list's end: a new one). -/
def fl (n : Nat) (slot : Int) (l : List Core) : Nat → Core := fun i => l.getD i (newCore n ((i : Int) + 1) slot)
def rightL (wrong : List Bool) : Nat → Bool := fun i => !(wrong.getD i true)
structure LInv (n : Nat) (slot : Int) (wrong : List Bool) (acc : Bs → Bool) (l : List Core) : Prop where
  len : l.length = n
  wlen : wrong.length = n
  inv : PInv n slot (rightL wrong) acc (fl n slot l)
abbrev LTells (n : Nat) (slot : Int) (l : List Core) : Tells := tellsOf (fl n slot l)

theorem fl_set {n : Nat} {slot : Int} {l : List Core} {i : Nat} {c c' : Core} (hi : l[i]? = some c) : fl n slot (l.set i c') = upd (fl n slot l) i c' := by
  have hlt := (List.getElem?_eq_some_iff.1 hi).1
  funext j
  show (l.set i c').getD j _ = if j = i then c' else l.getD j _
  rw [List.getD_eq_getElem?_getD, List.getD_eq_getElem?_getD, List.getElem?_set]
  by_cases e : i = j
  · subst e; rw [if_pos rfl, if_pos hlt, if_pos rfl]; rfl
  · rw [if_neg e, if_neg (fun h => e h.symm)]
theorem fl_at {n : Nat} {slot : Int} {l : List Core} {i : Nat} {c : Core} (hi : l[i]? = some c) : fl n slot l i = c := by
  unfold fl
  rw [List.getD_eq_getElem?_getD, hi]; rfl
theorem LInv.lt {n : Nat} {slot : Int} {wrong : List Bool} {acc : Bs → Bool} {l : List Core} (h : LInv n slot wrong acc l) {i : Nat} {c : Core} (hi : l[i]? = some c) : i < n := h.len ▸ (List.getElem?_eq_some_iff.1 hi).1
theorem LInv.loc {n : Nat} {slot : Int} {wrong : List Bool} {acc : Bs → Bool} {l : List Core} (h : LInv n slot wrong acc l) {i : Nat} {c : Core} (hi : l[i]? = some c) : Loc n ((i : Int) + 1) slot c := by
  have := h.inv.loc i (h.lt hi)
  rwa [fl_at hi] at this
theorem LInv.take {n : Nat} {slot : Int} {wrong : List Bool} {acc : Bs → Bool} {l : List Core} (h : LInv n slot wrong acc l) {i : Nat} {c : Core} (hi : l[i]? = some c) {v : Vt} (hv : TrueV n (rightL wrong) (LTells n slot l) v) : LInv n slot wrong acc (l.set i (takeC acc c v).1) ∧ Tle (LTells n slot l) (LTells n slot (l.set i (takeC acc c v).1)) := by
  obtain ⟨a, b⟩ := h.inv.take (h.lt hi) hv
  rw [fl_at hi] at a b
  unfold LTells
  rw [fl_set hi]
  exact ⟨⟨by rw [List.length_set]; exact h.len, h.wlen, by rw [fl_set hi]; exact a⟩, b⟩
theorem LInv.late {n : Nat} {slot : Int} {wrong : List Bool} {acc : Bs → Bool} {l : List Core} (h : LInv n slot wrong acc l) {i : Nat} {c : Core} (hi : l[i]? = some c) : LInv n slot wrong acc (l.set i (lateC acc c)) := by
  obtain ⟨a, b⟩ := h.inv.late (h.lt hi)
  rw [fl_at hi] at a
  exact ⟨by rw [List.length_set]; exact h.len, h.wlen, by rw [fl_set hi]; exact a⟩
theorem LInv.wish {n : Nat} {slot : Int} {wrong : List Bool} {acc : Bs → Bool} {l : List Core} (h : LInv n slot wrong acc l) {i : Nat} {c : Core} (hi : l[i]? = some c) (v : Bs) : LInv n slot wrong acc (l.set i (wishC acc c v)) := by
  obtain ⟨a, b⟩ := h.inv.wish (h.lt hi) v
  rw [fl_at hi] at a
  exact ⟨by rw [List.length_set]; exact h.len, h.wlen, by rw [fl_set hi]; exact a⟩
theorem LInv.anew {n : Nat} {slot : Int} {wrong : List Bool} {acc : Bs → Bool} {l : List Core} (h : LInv n slot wrong acc l) {i : Nat} {c : Core} (hi : l[i]? = some c) : LInv n slot wrong acc (l.set i (anewC c)) := by
  obtain ⟨a, b⟩ := h.inv.anew (h.lt hi)
  rw [fl_at hi] at a
  exact ⟨by rw [List.length_set]; exact h.len, h.wlen, by rw [fl_set hi]; exact a⟩
theorem LInv.says {n : Nat} {slot : Int} {wrong : List Bool} {acc : Bs → Bool} {l : List Core} (h : LInv n slot wrong acc l) {i : Nat} {c : Core} (hi : l[i]? = some c) {v : Vt} (hv : v ∈ Sac.says c) : TrueV n (rightL wrong) (LTells n slot l) v :=
  h.inv.says (h.lt hi) (by rw [fl_at hi]; exact hv)
/-- A wrong one may say what it likes. -/
theorem trueV_wrong {n : Nat} {wrong : List Bool} {T : Tells} {v : Vt} {i : Nat} (hw : wrong[i]? = some true) (hv : v.frm = (i : Int) + 1) : TrueV n (rightL wrong) T v := by
  intro j hj rj e
  obtain rfl : j = i := by omega
  unfold rightL at rj
  rw [List.getD_eq_getElem?_getD, hw] at rj
  cases rj
theorem LInv.agree {n : Nat} {slot : Int} {wrong : List Bool} {acc : Bs → Bool} {l : List Core} (h : LInv n slot wrong acc l) {i j : Nat} {c d : Core} (hi : l[i]? = some c) (hj : l[j]? = some d) (wi : wrong[i]? = some false) (wj : wrong[j]? = some false) (hc : c.decided = true) (hd : d.decided = true) : c.value = d.value ∧ acc c.value = true := by
  have r : ∀ {k : Nat}, wrong[k]? = some false → rightL wrong k = true := fun {k} e => by unfold rightL; rw [List.getD_eq_getElem?_getD, e]; rfl
  have := h.inv.agree (h.lt hi) (h.lt hj) (r wi) (r wj) (by rw [fl_at hi]; exact hc) (by rw [fl_at hj]; exact hd)
  rwa [fl_at hi, fl_at hj] at this
theorem few_right : ∀ wrong : List Bool, (List.range wrong.length).countP (fun i => rightL wrong i && true) + wrong.countP id = wrong.length
  | [] => rfl
  | b :: l => by
    have ih := few_right l
    simp only [Bool.and_true] at ih
    rw [List.length_cons, List.range_succ_eq_map, List.countP_cons, List.countP_map, List.countP_cons]
    have e : ((fun i => rightL (b :: l) i && true) ∘ Nat.succ) = (fun i => rightL l i && true) := rfl
    rw [e]
    have e0 : rightL (b :: l) 0 = !b := rfl
    rw [e0]
    cases b <;> simp only [id, Bool.not_true, Bool.not_false, Bool.and_true, Bool.false_eq_true, if_true, if_false] <;> omega
theorem LInv.start {n : Nat} {slot : Int} {wrong : List Bool} {acc : Bs → Bool} (hn : 4 ≤ n ∧ n ≤ 64) (hs : 0 ≤ slot ∧ slot ≤ 256) (hw : wrong.length = n) (hf : wrong.countP id ≤ (n - 1) / 3) : LInv n slot wrong acc ((List.range n).map fun i : Nat => newCore n ((i : Int) + 1) slot) := by
  refine ⟨by rw [List.length_map, List.length_range], hw, ?_⟩
  have e : fl n slot ((List.range n).map fun i : Nat => newCore n ((i : Int) + 1) slot) = fun i : Nat => newCore n ((i : Int) + 1) slot := by
    funext i
    unfold fl
    rw [List.getD_eq_getElem?_getD, List.getElem?_map]
    by_cases hi : i < n
    · rw [List.getElem?_range hi]; rfl
    · rw [List.getElem?_eq_none (by rw [List.length_range]; omega)]; rfl
  rw [e]
  refine PInv.start hn hs ?_
  have := few_right wrong
  rw [hw] at this
  have h2 : cnt n (rightL wrong) (fun _ => true) = (List.range n).countP (fun i => rightL wrong i && true) := rfl
  omega
/-- What whatever happens keeps: I of the peers, T of what may come, W of what may be wished; J is what I is behind one who was late. -/
structure Kept (n : Nat) (slot : Int) (wrong : List Bool) (W : Bs → Prop) (I J : List Core → Prop) (T : List Core → Vt → Prop) : Prop where
  inv : ∀ {l : List Core}, I l → LInv n slot wrong notV l
  keep : ∀ {l : List Core}, I l → J l
  take : ∀ {l : List Core} {i : Nat} {c : Core} {v : Vt}, I l → l[i]? = some c → T l v → I (l.set i (takeC notV c v).1) ∧ ∀ u, T l u → T (l.set i (takeC notV c v).1) u
  late : ∀ {l : List Core} {i : Nat} {c : Core}, I l → l[i]? = some c → J (l.set i (lateC notV c))
  wish : ∀ {l : List Core} {i : Nat} {c : Core} {x : Bs}, W x → I l → l[i]? = some c → I (l.set i (wishC notV c x))
  anew : ∀ {l : List Core} {i : Nat} {c : Core}, I l → l[i]? = some c → I (l.set i (anewC c))
  says : ∀ {l : List Core} {i : Nat} {c : Core} {v : Vt}, I l → l[i]? = some c → wrong[i]? = some false → v ∈ Sac.says c → T l v
  wrongs : ∀ {l : List Core} {i : Nat} {v : Vt}, I l → wrong[i]? = some true → v.frm = (i : Int) + 1 → T l v
/-- The plain law of VoteAgrees is so kept. -/
theorem LInv.kept (n : Nat) (slot : Int) (wrong : List Bool) : Kept n slot wrong (fun _ => True) (LInv n slot wrong notV) (LInv n slot wrong notV) (fun l v => TrueV n (rightL wrong) (LTells n slot l) v) where
  inv h := h
  keep h := h
  take h hi hv := ⟨(h.take hi hv).1, fun _ hu => hu.mono (h.take hi hv).2⟩
  late h hi := h.late hi
  wish _ h hi := h.wish hi _
  anew h hi := h.anew hi
  says h hi _ hv := h.says hi hv
  wrongs _ hw hv := trueV_wrong hw hv
end Go.Proofs.Ytilhdelijdkjpaa
/-
  The bytes of a core that is in order can be written, and a core begins anew from them.
-/
namespace Go.Proofs.Ytilhdelijdkjpaa
open Go Go.RowKit Go.Maps Sac

theorem rising_len {hi : Int} : ∀ {l : List Vt} {last : Int}, Rising last l → (∀ v ∈ l, v.view ≤ hi) → last ≤ hi → (l.length : Int) ≤ hi - last
  | [], last, _, _, h => by simp; omega
  | v :: l, last, hr, hb, h => by
    have h1 := hb v (List.mem_cons_self ..)
    have h2 := rising_len hr.2 (fun x hx => hb x (List.mem_cons_of_mem _ hx)) h1
    have h3 := hr.1
    rw [List.length_cons]
    omega
theorem votesB_le : ∀ l : List Vt, (∀ v ∈ l, v.value.length ≤ 4096) → (votesB l).length ≤ 4 + 4104 * l.length := by
  intro l hl
  rw [votesB_eq, List.length_append, four_len]
  have : (l.flatMap voteB).length ≤ 4104 * l.length := by
    induction l with
    | nil => simp
    | cons a l ih =>
      have h1 := hl a (List.mem_cons_self ..)
      have h2 := ih (fun x hx => hl x (List.mem_cons_of_mem _ hx))
      rw [List.flatMap_cons, List.length_append, voteB_len, List.length_cons]; omega
  omega
theorem Loc.own_len {n me slot : Int} {c : Core} (h : Loc n me slot c) : (mine c 2 c.prepares).length ≤ 1048577 ∧ (mine c 3 c.commits).length ≤ 1048577 := by
  obtain ⟨o2, o3⟩ := own_in h
  have hv := h.view
  have r2 := rising_len (hi := 1048576) (mine_rising c 2 c.prepares (-1) h.srt.prepares.1 (fun p hp => by have := (h.ok.inn.prepares p hp).1; omega)) (fun v hm => by have := (o2 v hm).2.1; omega) (by omega)
  have r3 := rising_len (hi := 1048576) (mine_rising c 3 c.commits (-1) h.srt.commits.1 (fun p hp => by have := (h.ok.inn.commits p hp).1; omega)) (fun v hm => by have := (o3 v hm).2.1; omega) (by omega)
  omega
theorem Loc.byOk {n me slot : Int} {c : Core} (h : Loc n me slot c) : ByOk c := by
  obtain ⟨o2, o3⟩ := own_in h
  obtain ⟨l2, l3⟩ := h.own_len
  have b2 := votesB_le _ (fun v hm => (o2 v hm).2.2.2)
  have b3 := votesB_le _ (fun v hm => (o3 v hm).2.2.2)
  have hi := h.ok.inn
  have h0 := hi.len0.2.2
  refine ⟨hi.view, ⟨hi.me.1, by have := hi.me.2; have := hi.n.2; omega⟩, hi.prepares, hi.commits, fun q hq r hr => by have := hi.len2 q hq r hr; omega, fun q hq r hr => by have := hi.len3 q hq r hr; omega, by omega, ?_⟩
  unfold bytesC
  rw [List.length_append, List.length_append, List.length_append, four_len]
  have : (if c.decided then 1 :: four c.value.length ++ c.value else 0 :: four 0).length ≤ 5 + c.value.length := by
    split
    · rw [List.length_append, List.length_cons, four_len]; omega
    · simp [four]
  omega
theorem Loc.anew {n me slot : Int} {c : Core} (h : Loc n me slot c) : ofC n me slot (bytesC c) = some (anewC c) := by
  obtain ⟨l2, l3⟩ := h.own_len
  exact anew_of h (by omega) (by omega)
end Go.Proofs.Ytilhdelijdkjpaa
