/-
  A core that begins anew from what lasts: plainly.
-/
import Derived.Test.YtilhdelijdkjpaaPC
import Derived.Test.YtilhdelijdkjpaaPO
set_option linter.unusedVariables false
set_option linter.unusedSimpArgs false
namespace Go.Proofs.Ytilhdelijdkjpaa
open Go Go.RowKit Go.Maps Sac

theorem num4_four {n : Nat} (h : n < 4294967296) : num4 (four n) = n := by
  show ((((0 * 256 + n / 16777216 % 256) * 256 + n / 65536 % 256) * 256 + n / 256 % 256) * 256 + n % 256) = n
  omega
theorem takeR_app (l rest : Bs) : takeR l.length (l ++ rest, false) = (l, (rest, false)) := by
  unfold takeR
  rw [if_neg (by simp)]
  simp
theorem fourR_app {n : Nat} (h : n < 4294967296) (rest : Bs) : fourR (four n ++ rest, false) = (n, (rest, false)) := by
  have := takeR_app (four n) rest
  rw [show (four n).length = 4 from rfl] at this
  unfold fourR
  rw [this, num4_four h]

/-- A core's own votes, as a map. -/
def ownM (me : Int) (l : List Vt) : List (Int × TellM) := l.map fun v => (v.view, [(me, v.value)])
def Rising : Int → List Vt → Prop
  | _, [] => True
  | last, v :: l => last < v.view ∧ Rising v.view l
theorem putM_last {α : Type} {k : Int} (a : α) : ∀ {m : List (Int × α)}, (∀ p ∈ m, p.1 < k) → putM k a m = m ++ [(k, a)]
  | [], _ => rfl
  | p :: m, h => by
    have h1 := h p List.mem_cons_self
    unfold putM
    rw [if_neg (by omega), if_neg (by omega), putM_last a (fun q hq => h q (List.mem_cons_of_mem _ hq))]
    rfl
theorem setV_last {me view : Int} {v : Bs} {l : List Vt} (h : ∀ x ∈ l, x.view < view) : setV (ownM me l) view me v = some (ownM me l ++ [(view, [(me, v)])]) := by
  have hk : ∀ p ∈ ownM me l, p.1 < view := fun p hp => by
    obtain ⟨x, hx, rfl⟩ := List.mem_map.1 hp
    exact h x hx
  have hn : lookM (ownM me l) view = none := by
    cases hl : lookM (ownM me l) view with
    | none => rfl
    | some t =>
      have := hk _ (lookM_mem hl)
      simp only at this
      omega
  unfold setV inner
  rw [hn]
  show some (putM view (putM me v []) (ownM me l)) = _
  rw [putM_last _ hk]
  rfl
theorem votesR_read (me cv : Int) (rest : Bs) : ∀ (l done : List Vt) (last : Int), Rising last l → (∀ v ∈ done, v.view ≤ last) → (∀ v ∈ l, 0 ≤ v.view ∧ v.view ≤ cv ∧ v.view ≤ 4294967295 ∧ v.value.length ≤ 4294967295) →
    votesR me cv l.length last (l.flatMap voteB ++ rest, false) (ownM me done) = ((rest, false), ownM me (done ++ l))
  | [], done, last, _, _, _ => by
    show ((([] : Bs) ++ rest, false), ownM me done) = _
    rw [List.append_nil, List.nil_append]
  | v :: l, done, last, hr, hd, hv => by
    have h0 := hv v List.mem_cons_self
    have e1 : (v :: l).flatMap voteB ++ rest = four v.view.toNat ++ (four v.value.length ++ (v.value ++ (l.flatMap voteB ++ rest))) := by
      rw [List.flatMap_cons]
      unfold voteB
      simp only [List.append_assoc]
    have hw : (v.view.toNat : Int) = v.view := by omega
    rw [List.length_cons, e1]
    unfold votesR
    rw [fourR_app (by omega)]
    dsimp only
    rw [fourR_app (by omega)]
    dsimp only
    rw [takeR_app]
    dsimp only
    rw [hw, if_neg (by rintro (h | h | h); cases h; exact absurd hr.1 (by omega); omega)]
    rw [setV_last (fun x hx => by have := hd x hx; have := hr.1; omega)]
    have e2 : ownM me done ++ [(v.view, [(me, v.value)])] = ownM me (done ++ [v]) := by unfold ownM; rw [List.map_append]; rfl
    rw [Option.getD_some, e2, votesR_read me cv rest l (done ++ [v]) v.view hr.2 (fun x hx => by
      rcases List.mem_append.1 hx with hx | hx
      · have := hd x hx; have := hr.1; omega
      · rw [List.mem_singleton.1 hx]; exact Int.le_refl _) (fun x hx => hv x (List.mem_cons_of_mem _ hx)), List.append_assoc]
    rfl
theorem mine_rising (c : Core) (kind : Int) : ∀ (m : List (Int × TellM)) (last : Int), Srt m → (∀ p ∈ m, last < p.1) → Rising last (mine c kind m)
  | [], _, _, _ => trivial
  | p :: m, last, hs, hl => by
    have hs' := List.pairwise_cons.1 hs
    have h0 := hl p List.mem_cons_self
    unfold mine
    rw [List.filterMap_cons]
    cases hx : lookM p.2 c.me with
    | none =>
      have := mine_rising c kind m last hs'.2 (fun q hq => hl q (List.mem_cons_of_mem _ hq))
      unfold mine at this
      simpa using this
    | some v =>
      have := mine_rising c kind m p.1 hs'.2 (fun q hq => hs'.1 q hq)
      unfold mine at this
      exact ⟨h0, this⟩
theorem mine_own (c : Core) (kind : Int) : ∀ l : List Vt, (∀ v ∈ l, v.kind = kind ∧ v.frm = c.me ∧ v.slot = c.slot ∧ v.valid = -1) → mine c kind (ownM c.me l) = l
  | [], _ => rfl
  | v :: l, h => by
    have h0 := h v List.mem_cons_self
    have ih := mine_own c kind l (fun x hx => h x (List.mem_cons_of_mem _ hx))
    unfold mine ownM at ih ⊢
    rw [List.map_cons, List.filterMap_cons]
    have e : lookM [(c.me, v.value)] c.me = some v.value := by rw [lookM_cons, if_pos rfl]
    simp only [e, Option.map_some, ih]
    obtain ⟨k, f, s, w, d, b⟩ := v
    obtain ⟨e1, e2, e3, e4⟩ := h0
    simp only at e1 e2 e3 e4
    rw [e1, e2, e3, e4]

/-- The core that begins anew. -/
def anewC (c : Core) : Core := readC c.n c.me c.slot c.view.toNat (ownM c.me (mine c 2 c.prepares)) (ownM c.me (mine c 3 c.commits)) c.decided (if c.decided then c.value else [])
theorem mine_all {c : Core} {kind : Int} {m : List (Int × TellM)} {v : Vt} (h : v ∈ mine c kind m) : v.kind = kind ∧ v.frm = c.me ∧ v.slot = c.slot ∧ v.valid = -1 := by
  unfold mine at h
  obtain ⟨p, hp, h2⟩ := List.mem_filterMap.1 h
  obtain ⟨y, hy, rfl⟩ := Option.map_eq_some_iff.1 h2
  exact ⟨rfl, rfl, rfl, rfl⟩

section
variable {n me slot : Int} {c : Core}
theorem own_in (h : Loc n me slot c) : (∀ v ∈ mine c 2 c.prepares, 0 ≤ v.view ∧ v.view ≤ c.view ∧ v.view ≤ 4294967295 ∧ v.value.length ≤ 4096) ∧ (∀ v ∈ mine c 3 c.commits, 0 ≤ v.view ∧ v.view ≤ c.view ∧ v.view ≤ 4294967295 ∧ v.value.length ≤ 4096) := by
  have hv := h.view
  refine ⟨fun v hm => ?_, fun v hm => ?_⟩
  · have e := (mem_mine h.srt.prepares.1 hm).2.2.2.2
    have := h.oP v.view v.value e
    refine ⟨this.1, this.2, by omega, ?_⟩
    unfold inner at e
    cases hl : lookM c.prepares v.view with
    | none => rw [hl] at e; cases e
    | some t => rw [hl] at e; exact h.ok.inn.len2 _ (lookM_mem hl) _ (lookM_mem e)
  · have e := (mem_mine h.srt.commits.1 hm).2.2.2.2
    have := h.oC v.view v.value e
    refine ⟨this.1, this.2, by omega, ?_⟩
    unfold inner at e
    cases hl : lookM c.commits v.view with
    | none => rw [hl] at e; cases e
    | some t => rw [hl] at e; exact h.ok.inn.len3 _ (lookM_mem hl) _ (lookM_mem e)
theorem anew_bytes (h : Loc n me slot c) : bytesC (anewC c) = bytesC c := by
  have hv := h.ok.inn.view
  have e2 : mine (anewC c) 2 (anewC c).prepares = mine c 2 c.prepares := mine_own (anewC c) 2 _ (fun v hv => mine_all hv)
  have e3 : mine (anewC c) 3 (anewC c).commits = mine c 3 c.commits := mine_own (anewC c) 3 _ (fun v hv => mine_all hv)
  unfold bytesC
  rw [e2, e3]
  have ed : (anewC c).decided = c.decided := rfl
  have ev : (anewC c).view.toNat = c.view.toNat := by show ((c.view.toNat : Nat) : Int).toNat = _; omega
  rw [ed, ev]
  cases hd : c.decided
  · rfl
  · have : (anewC c).value = c.value := by show (if c.decided then c.value else []) = _; rw [hd]; rfl
    rw [this]
theorem anew_of (h : Loc n me slot c) (h2 : (mine c 2 c.prepares).length < 4294967296) (h3 : (mine c 3 c.commits).length < 4294967296) : ofC n me slot (bytesC c) = some (anewC c) := by
  obtain ⟨o2, o3⟩ := own_in h
  have hv := h.ok.inn.view
  have hvw : c.view ≤ 1048576 := h.view
  have hl := h.ok.inn.len0.2.2
  have hw : (c.view.toNat : Int) = c.view := by omega
  have r2 := mine_rising c 2 c.prepares (-1) h.srt.prepares.1 (fun p hp => by have := (h.ok.inn.prepares p hp).1; omega)
  have r3 := mine_rising c 3 c.commits (-1) h.srt.commits.1 (fun p hp => by have := (h.ok.inn.commits p hp).1; omega)
  obtain ⟨tail, ht⟩ : ∃ tail, (if c.decided then 1 :: four c.value.length ++ c.value else 0 :: four 0) = tail := ⟨_, rfl⟩
  have hb : bytesC c = four c.view.toNat ++ (four (mine c 2 c.prepares).length ++ ((mine c 2 c.prepares).flatMap voteB ++ (four (mine c 3 c.commits).length ++ ((mine c 3 c.commits).flatMap voteB ++ tail)))) := by
    unfold bytesC
    rw [votesB_eq, votesB_eq, ht]
    simp only [List.append_assoc]
  have hab := anew_bytes h
  unfold ofC parseC
  rw [hb, fourR_app (by omega)]
  dsimp only
  rw [fourR_app h2]
  dsimp only
  have v2 := votesR_read me (c.view.toNat : Int) (four (mine c 3 c.commits).length ++ ((mine c 3 c.commits).flatMap voteB ++ tail)) (mine c 2 c.prepares) [] (-1) r2 (fun v hv => by cases hv) (fun v hv => by have := o2 v hv; omega)
  rw [show ownM me [] = [] from rfl, List.nil_append] at v2
  rw [v2]
  dsimp only
  rw [fourR_app h3]
  dsimp only
  have v3 := votesR_read me (c.view.toNat : Int) tail (mine c 3 c.commits) [] (-1) r3 (fun v hv => by cases hv) (fun v hv => by have := o3 v hv; omega)
  rw [show ownM me [] = [] from rfl, List.nil_append] at v3
  rw [v3]
  dsimp only
  have hn := h.hn
  have hme := h.hme
  have hs := h.hslot
  cases hd : c.decided with
  | true =>
    rw [hd] at ht
    have ht2 : tail = [1] ++ (four c.value.length ++ (c.value ++ [])) := by rw [← ht]; simp
    have t1 := takeR_app [1] (four c.value.length ++ (c.value ++ []))
    rw [show ([1] : Bs).length = 1 from rfl] at t1
    rw [ht2, t1]
    dsimp only
    rw [fourR_app (by omega)]
    dsimp only
    rw [takeR_app]
    dsimp only
    rw [if_neg (by rintro (h | h | h | h); cases h; omega; exact h rfl; exact absurd h (by decide))]
    have e : readC n me slot c.view.toNat (ownM me (mine c 2 c.prepares)) (ownM me (mine c 3 c.commits)) (([1] : Bs).headD 0 == 1) c.value = anewC c := by
      unfold anewC
      rw [hn, hme, hs, hd]
      rfl
    rw [e, Option.bind_some, if_pos]
    rw [hab, hb, ht2]
  | false =>
    rw [hd] at ht
    have ht2 : tail = [0] ++ (four 0 ++ ([] ++ [])) := by rw [← ht]; simp
    have t1 := takeR_app [0] (four 0 ++ ([] ++ []))
    rw [show ([0] : Bs).length = 1 from rfl] at t1
    rw [ht2, t1]
    dsimp only
    rw [fourR_app (by omega)]
    dsimp only
    have t2 := takeR_app [] []
    rw [show ([] : Bs).length = 0 from rfl] at t2
    rw [t2]
    dsimp only
    rw [if_neg (by rintro (h | h | h | h); cases h; omega; exact h rfl; exact absurd h (by decide))]
    have e : readC n me slot c.view.toNat (ownM me (mine c 2 c.prepares)) (ownM me (mine c 3 c.commits)) (([0] : Bs).headD 0 == 1) [] = anewC c := by
      unfold anewC
      rw [hn, hme, hs, hd]
      rfl
    rw [e, Option.bind_some, if_pos]
    rw [hab, hb, ht2]
theorem lookM_ownM_none {me w : Int} {l : List Vt} (h : ∀ v ∈ l, v.view ≠ w) : lookM (ownM me l) w = none := by
  cases hl : lookM (ownM me l) w with
  | none => rfl
  | some t =>
    obtain ⟨x, hx, e⟩ := List.mem_map.1 (lookM_mem hl)
    injection e with e1 _
    exact absurd e1 (h x hx)
theorem mine_keys {c : Core} {kind : Int} {m : List (Int × TellM)} {v : Vt} (h : v ∈ mine c kind m) : ∃ p ∈ m, p.1 = v.view := by
  unfold mine at h
  obtain ⟨p, hp, h2⟩ := List.mem_filterMap.1 h
  obtain ⟨y, hy, rfl⟩ := Option.map_eq_some_iff.1 h2
  exact ⟨p, hp, rfl⟩
theorem inner_own (c : Core) (kind w : Int) : ∀ m : List (Int × TellM), Srt m → inner (ownM c.me (mine c kind m)) w = match lookM (inner m w) c.me with | none => [] | some v => [(c.me, v)]
  | [], _ => rfl
  | p :: m, hs => by
    have hs' := List.pairwise_cons.1 hs
    have ih := inner_own c kind w m hs'.2
    have hcons : mine c kind (p :: m) = (match lookM p.2 c.me with | none => mine c kind m | some v => ⟨kind, c.me, c.slot, p.1, -1, v⟩ :: mine c kind m) := by
      unfold mine
      rw [List.filterMap_cons]
      cases lookM p.2 c.me <;> rfl
    have hin : inner (p :: m) w = if p.1 = w then p.2 else inner m w := by
      unfold inner
      rw [lookM_cons]
      split <;> rfl
    rw [hin, hcons]
    by_cases e : p.1 = w
    · rw [if_pos e]
      cases hx : lookM p.2 c.me with
      | none =>
        show inner (ownM c.me (mine c kind m)) w = []
        unfold inner
        rw [lookM_ownM_none (fun v hv e2 => by obtain ⟨q, hq, e3⟩ := mine_keys hv; have := hs'.1 q hq; omega)]
        rfl
      | some v =>
        show inner ((p.1, [(c.me, v)]) :: ownM c.me (mine c kind m)) w = _
        unfold inner
        rw [lookM_cons, if_pos e]
        rfl
    · rw [if_neg e, ← ih]
      cases hx : lookM p.2 c.me with
      | none => rfl
      | some v =>
        show inner ((p.1, [(c.me, v)]) :: ownM c.me (mine c kind m)) w = _
        unfold inner
        rw [lookM_cons, if_neg e]
theorem rising_lt : ∀ {l : List Vt} {last : Int}, Rising last l → ∀ v ∈ l, last < v.view
  | x :: l, last, h, v, hv => by
    rcases List.mem_cons.1 hv with rfl | hv
    · exact h.1
    · have := rising_lt h.2 v hv; have := h.1; omega
theorem rising_srt (me : Int) : ∀ {l : List Vt} {last : Int}, Rising last l → Srt (ownM me l)
  | [], _, _ => List.Pairwise.nil
  | x :: l, last, h => List.pairwise_cons.2 ⟨fun p hp => by
      obtain ⟨y, hy, rfl⟩ := List.mem_map.1 hp
      exact rising_lt h.2 y hy, rising_srt me h.2⟩
theorem rising_last : ∀ {l : List Vt} {last : Int} {x : Vt}, Rising last l → l.getLast? = some x → x ∈ l ∧ ∀ v ∈ l, v.view ≤ x.view
  | [y], _, x, _, e => by
    obtain rfl : y = x := by simpa using e
    exact ⟨List.mem_cons_self, fun v hv => by rw [List.mem_singleton.1 hv]; exact Int.le_refl _⟩
  | y :: z :: l, last, x, h, e => by
    rw [List.getLast?_cons_cons] at e
    obtain ⟨h1, h2⟩ := rising_last h.2 e
    refine ⟨List.mem_cons_of_mem _ h1, fun v hv => ?_⟩
    rcases List.mem_cons.1 hv with rfl | hv
    · have := rising_lt h.2 x h1; omega
    · exact h2 v hv
theorem lastC_own (me : Int) (l : List Vt) : lastC me (ownM me l) = match l.getLast? with | none => (-1, []) | some x => (x.view, x.value) := by
  unfold lastC ownM
  rw [List.getLast?_map]
  cases l.getLast? with
  | none => rfl
  | some x =>
    show (x.view, (lookM [(me, x.value)] me).getD []) = _
    rw [lookM_cons, if_pos rfl]
    rfl

theorem anew_ownP (h : Loc n me slot c) (w : Int) : ownP (anewC c) w = ownP c w := by
  show lookM (inner (ownM c.me (mine c 2 c.prepares)) w) c.me = lookM (inner c.prepares w) c.me
  rw [inner_own c 2 w _ h.srt.prepares.1]
  cases lookM (inner c.prepares w) c.me with
  | none => rfl
  | some v => show lookM [(c.me, v)] c.me = _; rw [lookM_cons, if_pos rfl]
theorem anew_ownC (h : Loc n me slot c) (w : Int) : ownC (anewC c) w = ownC c w := by
  show lookM (inner (ownM c.me (mine c 3 c.commits)) w) c.me = lookM (inner c.commits w) c.me
  rw [inner_own c 3 w _ h.srt.commits.1]
  cases lookM (inner c.commits w) c.me with
  | none => rfl
  | some v => show lookM [(c.me, v)] c.me = _; rw [lookM_cons, if_pos rfl]

theorem anew_loc (h : Loc n me slot c) : Loc n me slot (anewC c) := by
  obtain ⟨o2, o3⟩ := own_in h
  have hi := h.ok.inn
  have hv := hi.view
  have hme := hi.me
  have hnn := hi.n
  have hw : (c.view.toNat : Int) = c.view := by omega
  have r2 := mine_rising c 2 c.prepares (-1) h.srt.prepares.1 (fun p hp => by have := (hi.prepares p hp).1; omega)
  have r3 := mine_rising c 3 c.commits (-1) h.srt.commits.1 (fun p hp => by have := (hi.commits p hp).1; omega)
  have nk : ∀ {α : Type} {a b : Int}, KeysIn a b ([] : List (Int × α)) := fun p hp => by cases hp
  have ok2 : ∀ {l : List Vt}, (∀ v ∈ l, 0 ≤ v.view ∧ v.view ≤ c.view ∧ v.view ≤ 4294967295 ∧ v.value.length ≤ 4096) → MapsOk (ownM c.me l) := fun ho p hp => by
    obtain ⟨x, hx, rfl⟩ := List.mem_map.1 hp
    have := ho x hx
    exact ⟨this.1, this.2.2.1, fun q hq => by rw [List.mem_singleton.1 hq]; show 1 ≤ c.me ∧ c.me ≤ 64; omega⟩
  have ln2 : ∀ {l : List Vt}, (∀ v ∈ l, 0 ≤ v.view ∧ v.view ≤ c.view ∧ v.view ≤ 4294967295 ∧ v.value.length ≤ 4096) → ∀ p ∈ ownM c.me l, ∀ q ∈ p.2, q.2.length ≤ 4096 := fun ho p hp q hq => by
    obtain ⟨x, hx, rfl⟩ := List.mem_map.1 hp
    rw [List.mem_singleton.1 hq]
    exact (ho x hx).2.2.2
  have kn2 : ∀ {l : List Vt}, ∀ p ∈ ownM c.me l, KeysIn 1 n p.2 := fun p hp q hq => by
    obtain ⟨x, hx, rfl⟩ := List.mem_map.1 hp
    rw [List.mem_singleton.1 hq]
    show 1 ≤ c.me ∧ c.me ≤ n
    rw [← h.hn]
    exact hme
  have sr2 : ∀ {l : List Vt}, ∀ p ∈ ownM c.me l, Srt p.2 := fun p hp => by
    obtain ⟨x, hx, rfl⟩ := List.mem_map.1 hp
    exact List.pairwise_singleton _ _
  have hl := lastC_own c.me (mine c 3 c.commits)
  have hlock : (-1 ≤ (anewC c).lock ∧ (anewC c).lock ≤ 4294967295) ∧ (anewC c).locked.length ≤ 4096 ∧ (((anewC c).lock = -1 ∧ (anewC c).locked = [] ∧ ∀ v, ownC (anewC c) v = none) ∨ (0 ≤ (anewC c).lock ∧ ownC (anewC c) (anewC c).lock = some (anewC c).locked ∧ ∀ v x, ownC (anewC c) v = some x → v ≤ (anewC c).lock)) := by
    have e1 : (anewC c).lock = (lastC c.me (ownM c.me (mine c 3 c.commits))).1 := rfl
    have e2 : (anewC c).locked = (lastC c.me (ownM c.me (mine c 3 c.commits))).2 := rfl
    rw [e1, e2, hl]
    have hmem : ∀ v x, ownC c v = some x → ∃ y ∈ mine c 3 c.commits, y.view = v ∧ y.value = x := fun v x e => by
      unfold ownC inner at e
      cases hq : lookM c.commits v with
      | none => rw [hq] at e; cases e
      | some t =>
        rw [hq] at e
        exact ⟨⟨3, c.me, c.slot, v, -1, x⟩, List.mem_filterMap.2 ⟨(v, t), lookM_mem hq, by rw [show lookM (v, t).2 c.me = some x from e]; rfl⟩, rfl, rfl⟩
    cases hg : (mine c 3 c.commits).getLast? with
    | none =>
      have hnil : mine c 3 c.commits = [] := List.getLast?_eq_none_iff.1 hg
      refine ⟨⟨by decide, by decide⟩, Nat.zero_le _, .inl ⟨rfl, rfl, fun v => ?_⟩⟩
      rw [anew_ownC h]
      cases hx : ownC c v with
      | none => rfl
      | some x =>
        obtain ⟨y, hy, _⟩ := hmem v x hx
        rw [hnil] at hy; cases hy
    | some x =>
      obtain ⟨hx, hmax⟩ := rising_last r3 hg
      have hox := o3 x hx
      refine ⟨⟨by show -1 ≤ x.view; omega, hox.2.2.1⟩, hox.2.2.2, .inr ⟨hox.1, ?_, fun v y e => ?_⟩⟩
      · rw [anew_ownC h]
        exact (mem_mine h.srt.commits.1 hx).2.2.2.2
      · rw [anew_ownC h] at e
        obtain ⟨z, hz, e1, _⟩ := hmem v y e
        have := hmax z hz
        show v ≤ x.view
        omega
  have hval : (anewC c).value.length ≤ 4096 := by
    show (if c.decided then c.value else []).length ≤ 4096
    split
    · exact hi.len0.2.2
    · exact Nat.zero_le _
  have hin : CoreIn (anewC c) :=
    { n := hi.n, me := hi.me, slot := hi.slot, view := (by show 0 ≤ (c.view.toNat : Int) ∧ (c.view.toNat : Int) ≤ 4294967295; omega), lock := hlock.1, props := nk, prepares := ok2 o2, commits := ok2 o3, turns := (fun q hq => by cases hq), deciders := nk, seen := nk, len1 := (fun q hq => by cases hq), len2 := ln2 o2, len3 := ln2 o3, len0 := ⟨Nat.zero_le _, hlock.2.1, hval⟩, len6 := (fun q hq => by cases hq) }
  exact
    { hn := h.hn, hme := h.hme, hslot := h.hslot, ok := ⟨hin, fun q hq => by cases hq⟩, srt := ⟨List.Pairwise.nil, ⟨rising_srt c.me r2, sr2⟩, ⟨rising_srt c.me r3, sr2⟩⟩, srt2 := ⟨List.Pairwise.nil, List.Pairwise.nil⟩, kp := kn2, kc := kn2, kd := nk, view := (by show (c.view.toNat : Int) ≤ 1048576; have := h.view; omega), seen := (fun q hq => by cases hq),
      oP := (fun w y e => by rw [anew_ownP h] at e; have := h.oP w y e; exact ⟨this.1, by show w ≤ (c.view.toNat : Int); omega⟩), oC := (fun w y e => by rw [anew_ownC h] at e; have := h.oC w y e; exact ⟨this.1, by show w ≤ (c.view.toNat : Int); omega⟩), lock := hlock.2.2,
      val := fun e => (by show (if c.decided then c.value else []) = []; rw [if_neg (by rw [show c.decided = false from e]; decide)]) }
end
theorem PInv.anew {n : Nat} {slot : Int} {right : Nat → Bool} {acc : Bs → Bool} {f : Nat → Core} {i : Nat} (h : PInv n slot right acc f) (hi : i < n) : PInv n slot right acc (upd f i (anewC (f i))) ∧ Tle (tellsOf f) (tellsOf (upd f i (anewC (f i)))) := by
  have hl := h.loc i hi
  have hown : ∀ (kind w : Int) (m : List (Int × TellM)) (j : Nat) (y : Bs), Srt m → lookM (inner (ownM (f i).me (mine (f i) kind m)) w) ((j : Int) + 1) = some y → (j : Int) + 1 = (f i).me ∧ lookM (inner m w) (f i).me = some y := fun kind w m j y hs e => by
    rw [inner_own (f i) kind w m hs] at e
    cases hx : lookM (inner m w) (f i).me with
    | none => rw [hx] at e; cases e
    | some v =>
      rw [hx] at e
      have e : lookM [((f i).me, v)] ((j : Int) + 1) = some y := e
      rw [lookM_cons] at e
      split at e
      · rename_i h1; exact ⟨h1.symm, e⟩
      · cases e
  refine h.same (fun _ => anew_loc hl) (fun _ => ⟨fun j hj rj w y e => ?_, fun j hj rj w y e => ?_, fun j hj rj y e => by cases e⟩) (anew_ownP hl) (anew_ownC hl) rfl (fun hd => ?_)
  · obtain ⟨e1, e2⟩ := hown 2 w _ j y hl.srt.prepares.1 e
    have : j = i := by rw [hl.hme] at e1; omega
    subst this
    exact e2
  · obtain ⟨e1, e2⟩ := hown 3 w _ j y hl.srt.commits.1 e
    have : j = i := by rw [hl.hme] at e1; omega
    subst this
    exact e2
  · have hd : (f i).decided = true := hd
    show (if (f i).decided then (f i).value else []) = (f i).value
    rw [if_pos hd]
end Go.Proofs.Ytilhdelijdkjpaa
