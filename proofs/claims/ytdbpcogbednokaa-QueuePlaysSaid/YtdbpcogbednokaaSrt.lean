import Derived.Test.YtdbpcogbednokaaG
import Derived.Shelf.SlSortCmp.WholeK
import Derived.Ground.SlsfProg
/-
  That the program's slices.SortFunc of the queue's items is the library's (the laying: written by the kit's lay-plain); what it does on a row of items.
-/
namespace Go.Proofs
open Go.Shelf
def Try.sortIt_ren : Go.Shelf.Ren := ⟨fun | 6 => 39 | 15 => 45 | 14 => 44 | 28 => 54 | 29 => 55 | 20 => 46 | 21 => 47 | 22 => 48 | 23 => 49 | 24 => 50 | 25 => 51 | 26 => 52 | 27 => 53 | 46 => 56 | 47 => 57 | 48 => 58 | 49 => 59 | 50 => 60 | 57 => 61 | n => n, fun | 22 => 51 | 24 => 58 | 25 => 66 | 3 => 3 | 39 => 46 | 0 => 0 | 53 => 91 | 55 => 93 | 4 => 4 | 46 => 85 | 45 => 84 | 50 => 28 | 5 => 5 | 9 => 9 | 66 => 94 | 70 => 98 | 76 => 100 | 77 => 101 | n => n, fun | n => n⟩
theorem Try.sortIt : Go.Proofs.SlLaysF0.n6 Try.prog Try.sortIt_ren := {
  mixed := by kernel_rfl
  f6 := ⟨Try.f39.name, by decide, Try.func39.trans (congrArg some (by kernel_rfl))⟩
  f14 := ⟨Try.f44.name, by decide, Try.func44.trans (congrArg some (by kernel_rfl))⟩
  f15 := Try.func45.trans (congrArg some (by kernel_rfl))
  f20 := ⟨Try.f46.name, by decide, Try.func46.trans (congrArg some (by kernel_rfl))⟩
  f21 := ⟨Try.f47.name, by decide, Try.func47.trans (congrArg some (by kernel_rfl))⟩
  f22 := ⟨Try.f48.name, by decide, Try.func48.trans (congrArg some (by kernel_rfl))⟩
  f23 := ⟨Try.f49.name, by decide, Try.func49.trans (congrArg some (by kernel_rfl))⟩
  f24 := ⟨Try.f50.name, by decide, Try.func50.trans (congrArg some (by kernel_rfl))⟩
  f25 := ⟨Try.f51.name, by decide, Try.func51.trans (congrArg some (by kernel_rfl))⟩
  f26 := ⟨Try.f52.name, by decide, Try.func52.trans (congrArg some (by kernel_rfl))⟩
  f27 := ⟨Try.f53.name, by decide, Try.func53.trans (congrArg some (by kernel_rfl))⟩
  f28 := Try.func54.trans (congrArg some (by kernel_rfl))
  f29 := Try.func55.trans (congrArg some (by kernel_rfl))
  f46 := ⟨Try.f56.name, by decide, Try.func56.trans (congrArg some (by kernel_rfl))⟩
  f47 := Try.func57.trans (congrArg some (by kernel_rfl))
  f48 := Try.func58.trans (congrArg some (by kernel_rfl))
  f49 := ⟨Try.f59.name, by decide, Try.func59.trans (congrArg some (by kernel_rfl))⟩
  f50 := ⟨Try.f60.name, by decide, Try.func60.trans (congrArg some (by kernel_rfl))⟩
  f57 := ⟨Try.f61.name, by decide, Try.func61.trans (congrArg some (by kernel_rfl))⟩
  t0 := Try.underlying0
  a0 := Try.isAgg0
  z0 := Try.sizeOf0
  v0 := Try.zeroValue0
  t3 := Try.underlying3
  a3 := Try.isAgg3
  z3 := Try.sizeOf3
  v3 := Try.zeroValue3
  t4 := Try.underlying4
  a4 := Try.isAgg4
  z4 := Try.sizeOf4
  v4 := Try.zeroValue4
  t5 := Try.underlying5
  a5 := Try.isAgg5
  z5 := Try.sizeOf5
  v5 := Try.zeroValue5
  t9 := Try.underlying9
  a9 := Try.isAgg9
  z9 := Try.sizeOf9
  v9 := Try.zeroValue9
  t22 := Try.underlying51
  a22 := Try.isAgg51
  z22 := Try.sizeOf51
  v22 := Try.zeroValue51
  t25 := Try.underlying66
  a25 := Try.isAgg66
  z25 := Try.sizeOf66
  v25 := Try.zeroValue66
  t39 := Try.underlying46
  a39 := Try.isAgg46
  z39 := Try.sizeOf46
  v39 := Try.zeroValue46
  t45 := Try.underlying84
  a45 := Try.isAgg84
  z45 := Try.sizeOf84
  v45 := Try.zeroValue84
  t46 := Try.underlying85
  a46 := Try.isAgg85
  z46 := Try.sizeOf85
  v46 := Try.zeroValue85
  t50 := Try.underlying28
  a50 := Try.isAgg28
  z50 := Try.sizeOf28
  v50 := Try.zeroValue28
  t53 := Try.underlying91
  a53 := Try.isAgg91
  z53 := Try.sizeOf91
  v53 := Try.zeroValue91
  t55 := Try.underlying93
  a55 := Try.isAgg93
  z55 := Try.sizeOf93
  v55 := Try.zeroValue93
  t66 := Try.underlying94
  a66 := Try.isAgg94
  z66 := Try.sizeOf94
  v66 := Try.zeroValue94
  t70 := Try.underlying98
  a70 := Try.isAgg98
  z70 := Try.sizeOf98
  v70 := Try.zeroValue98
  t76 := Try.underlying100
  a76 := Try.isAgg100
  z76 := Try.sizeOf100
  v76 := Try.zeroValue100
  t77 := Try.underlying101
  a77 := Try.isAgg101
  z77 := Try.sizeOf101
  v77 := Try.zeroValue101 }
end Go.Proofs
namespace Go.Proofs.Ytdbpcogbednokaa
open Go.RowKit Go.Sort Go.Shelf

/-- How two items stand: below 0, 0, above 0. -/
def icmp (p q : Item) : Int := or2 (cmp3 p.due q.due) (cmp3 p.num q.num)
set_option maxHeartbeats 1000000 in
theorem iless_any (p q : Item) (w : World) : Calls Try.prog 28 #[.agg #[.int .i64 p.due, .int .i64 p.num, .int .i64 p.x], .agg #[.int .i64 q.due, .int .i64 q.num, .int .i64 q.x]] w fun e w' => e = .returned (.int .i64 (icmp p q)) ∧ ∃ n os', w' = grow (w.drewN n) os' := by
  obtain ⟨d1, n1, x1⟩ := p
  obtain ⟨d2, n2, x2⟩ := q
  show Calls Try.prog 28 #[.agg #[.int .i64 d1, .int .i64 n1, .int .i64 x1], .agg #[.int .i64 d2, .int .i64 n2, .int .i64 x2]] w fun e w' => e = .returned (.int .i64 (or2 (cmp3 d1 d2) (cmp3 n1 n2))) ∧ ∃ n os', w' = grow (w.drewN n) os'
  go_enter Try.func28, Try.ntmps28
  go_wp2_with fail
  go_region_held3 (fun w' => w'.cell? ⟨w.heap.size, 0, none⟩ = some (.int .i64 d1) ∧ w'.cell? ⟨w.heap.size, 1, none⟩ = some (.int .i64 n1) ∧ w'.cell? ⟨w.heap.size + 1, 0, none⟩ = some (.int .i64 d2) ∧ w'.cell? ⟨w.heap.size + 1, 1, none⟩ = some (.int .i64 n2)) (simp [go_sem, World.cell?_alloc_past])
    (first
      | (go_at_call 30; refine (compare_any _ _ _).mono ?_; rintro e w' ⟨rfl, rfl⟩)
      | (go_at_call 29; refine (or_two (cmp3 d1 d2) (cmp3 n1 n2) _ _ (by simp [go_sem]) (by simp [go_sem])).mono ?_; rintro e w' ⟨rfl, rfl⟩))
  go_wp2
  go_ret
  exact ⟨ret_int rfl, 1, _, by rw [alloc_eq_grow, alloc_eq_grow, alloc_eq_grow, grow_grow, grow_grow]; rfl⟩
theorem lt_icmp (p q : Item) : ltOf icmp p q = decide (p.due < q.due ∨ p.due = q.due ∧ p.num < q.num) := by
  have := or2_ahead p.due p.num q.due q.num
  unfold ahead2 at this
  unfold ltOf icmp
  exact this
theorem swo_icmp : SWO (ltOf icmp) where
  irrefl x := by rw [lt_icmp]; simp
  trans x y z h1 h2 := by rw [lt_icmp] at *; simp at *; omega
  ntrans x y z h1 h2 := by rw [lt_icmp] at *; simp at *; omega
theorem Item.one (a : Item) : ∀ u ∈ a.enc, u.oneCell' = true := enc_one a
theorem ienc_at (p : Item) : p.enc[0]! = .int .i64 p.due ∧ p.enc[1]! = .int .i64 p.num ∧ p.enc[2]! = .int .i64 p.x := ⟨rfl, rfl, rfl⟩
theorem igetBang (L : List Item) (i : Nat) : L.toArray[i]! = L.getD i default := by
  simp [List.getD_eq_getElem?_getD]
/-- A row of items of the walk's own. -/
abbrev IOwn (w : World) (base : Nat) (v : Value) (L : List Item) : Prop := w.ownsRow base 58 3 v L.length (flat L)
theorem iget {L : List Item} {i : Nat} (h : i < L.length) : L[i]? = some (L.getD i default) := by
  rw [List.getD_eq_getElem?_getD, List.getElem?_eq_getElem h]; rfl
theorem iholds {w : World} {base g cap : Nat} {L : List Item} (h : IOwn w base (.slice (some ⟨g, 0, none⟩) L.length cap) L) : HoldsK Item.enc 3 w g 0 L.toArray := by
  obtain ⟨hx, ⟨h0, _⟩ | ⟨g', cap', rest, e, hb, hB, hn, hc, hl⟩⟩ := own_elim h
  · cases h0
  injection e with e1 e2 e3
  injection e1 with e1
  injection e1 with e1
  subst e1
  intro j hj
  rw [size_flatK, List.size_toArray] at hj
  refine ⟨?_, hB.frozen _⟩
  rw [get_flatK _ _ _ _ (by rw [List.size_toArray]; exact hj), hB.cell, igetBang, Nat.zero_add]
  obtain ⟨i, c, rfl, hc3⟩ : ∃ i c, j = i * 3 + c ∧ c < 3 := ⟨j / 3, j % 3, by omega, by omega⟩
  have hi : i < L.length := by omega
  obtain ⟨p0, p1, p2⟩ := flat_get L rest i _ (iget hi)
  obtain ⟨e0, e1, e2⟩ := ienc_at (L.getD i default)
  rw [show (i * 3 + c) / 3 = i by omega, show (i * 3 + c) % 3 = c by omega]
  show _ = some ((L.getD i default).enc[c]!)
  match c, hc3 with
  | 0, _ => rw [e0]; exact p0
  | 1, _ => rw [e1]; exact p1
  | 2, _ => rw [e2]; exact p2
theorem below_isorted {w : World} {g n base : Nat} {os : Array Obj} (d : Array Item) (hg : base ≤ g) (hbase : base ≤ w.heap.size) : Below base w (Go.Proofs.sortWorldK Item.enc 3 w g 0 n d os) := by
  unfold Go.Proofs.sortWorldK putRowK
  refine ⟨rfl, rfl, rfl, by simp, fun k hk => ?_⟩
  rw [heap_grow_old _ _ (by simp; omega)]
  have : g ≠ k := by omega
  simp [putRow, mapBlock, Sort.ahead, Array.getElem?_modify, this]
/-- A row of items that can be read. -/
def IRowAt (w : World) (g : Nat) (L : List Item) : Prop := g < w.heap.size ∧ ∀ i, i < L.length → w.cell? ⟨g, i * 3, none⟩ = some (.int .i64 (L.getD i default).due) ∧ w.cell? ⟨g, i * 3 + 1, none⟩ = some (.int .i64 (L.getD i default).num) ∧ w.cell? ⟨g, i * 3 + 2, none⟩ = some (.int .i64 (L.getD i default).x)
/-- Two rows of the same items, both in order, are one. -/
theorem sorted_one {L T : List Item} (hp : L.Perm T) (hs : Sorted T) (h : L.Pairwise (fun p q => ¬ Item.lt q p = true)) : L = T := by
  refine hp.eq_of_pairwise (le := fun p q => p.lt q = true ∨ p = q) (fun p q _ _ h1 h2 => ?_) ?_ (hs.imp fun h => .inl h)
  · rcases h1 with h1 | h1
    · rcases h2 with h2 | h2
      · unfold Item.lt ahead2 at h1 h2
        simp only [decide_eq_true_eq] at h1 h2
        omega
      · exact h2.symm
    · exact h1
  · have hne : L.Pairwise (fun p q => p.lt q = true ∨ q.lt p = true) := hp.symm.pairwise (hs.imp fun h => .inl h) fun h => h.symm
    exact (h.and hne).imp fun h => .inl (h.2.resolve_right h.1)
/-- Behind the sort. -/
def ISortPost (g : Nat) (T : List Item) (w : World) (e : Ending) (w' : World) : Prop := e = .returned (.tuple #[]) ∧ IRowAt w' g T ∧ ∀ base, base ≤ g → base ≤ w.heap.size → Below base w w'
theorem isortPost_of {w : World} {base g cap : Nat} {L T : List Item} (hT : L.Perm T) (hS : Sorted T) (h : IOwn w base (.slice (some ⟨g, 0, none⟩) L.length cap) L) {n : Nat} {os : Array Obj} {d' : Array Item} (hp : PermIn 0 L.toArray.size L.toArray d') (hs : SortedIn (ltOf icmp) 0 L.toArray.size d') (hlt : g < w.heap.size) :
    ISortPost g T w (.returned (.tuple #[])) (Go.Proofs.sortWorldK Item.enc 3 w g 0 n d' os) := by
  have hH := iholds h
  have hH' := Go.Proofs.holdsK_sortWorldK_c Item.enc 3 w g 0 L.toArray d' n os hH hlt hp.1
  have hsz : d'.size = L.length := by rw [hp.1, List.size_toArray]
  have hperm : d'.toList.Perm L := by
    have h3 : (List.take L.length d'.toList).Perm L := by simpa [hp.1] using hp.2.2
    rwa [List.take_of_length_le (by rw [Array.length_toList, hsz]; exact Nat.le_refl _)] at h3
  have hone : d'.toList = T := by
    refine sorted_one (hperm.trans hT) hS ?_
    rw [List.pairwise_iff_getElem]
    intro i j hi hj hij
    have hi' : i < d'.size := by simpa using hi
    have hj' : j < d'.size := by simpa using hj
    have := hs i j (Nat.zero_le _) hij (by rw [List.size_toArray, ← hsz]; exact hj')
    rw [lt_icmp] at this
    rw [getElem!_pos d' i hi', getElem!_pos d' j hj'] at this
    unfold Item.lt ahead2
    simp only [Array.getElem_toList]
    rw [this]
    decide
  subst hone
  refine ⟨rfl, ⟨Nat.lt_of_lt_of_le hlt (Go.Proofs.size_sortWorldK_c Item.enc 3 w g 0 n d' os), fun i hi => ?_⟩, fun b h1 h2 => below_isorted d' h1 h2⟩
  have hi' : i < d'.size := by simpa using hi
  have e : d'.toList.getD i default = d'[i]! := by
    rw [getElem!_pos d' i hi', List.getD_eq_getElem?_getD, List.getElem?_eq_getElem hi]
    simp
  obtain ⟨e0, e1, e2⟩ := ienc_at d'[i]!
  have c0 := (hH'.cell hi' (c := 0) (by decide)).1
  have c1 := (hH'.cell hi' (c := 1) (by decide)).1
  have c2 := (hH'.cell hi' (c := 2) (by decide)).1
  rw [e0] at c0
  rw [e1] at c1
  rw [e2] at c2
  simp only [Nat.zero_add, Nat.add_zero] at c0 c1 c2
  rw [e]
  exact ⟨c0, c1, c2⟩
theorem isort_any (base g m cap : Nat) (L T : List Item) (hT : L.Perm T) (hS : Sorted T) (w : World) (hm : L.length = m) (h : IOwn w base (.slice (some ⟨g, 0, none⟩) m cap) L) (hlen : m ≤ 100000) :
    Calls Try.prog 39 #[.slice (some ⟨g, 0, none⟩) m cap, .func (.func 28) #[] #[]] w (ISortPost g T w) := by
  subst hm
  have eg : ∀ args w, (callFunc 28 args).run Try.prog w = .ok (.enter 28 args) w := enters_of Try.func28 (by kernel_rfl) rfl
  have hlt : g < w.heap.size := (h.lt g rfl).2
  have hcon := AnyQ.slices_SortFunc Try.sortIt 3 Try.isAgg58 Try.sizeOf58 Item.enc (fun _ => rfl) Item.one icmp swo_icmp 28 #[] g 0 cap L.toArray w eg (fun _ _ _ _ x y => iless_any x y _) (iholds h) hlt (by rw [List.size_toArray]; omega)
  rw [List.size_toArray] at hcon
  change Calls Try.prog 39 _ _ _ at hcon
  refine hcon.mono ?_
  rintro e w' ⟨rfl, d', n, os, hp, hs, rfl⟩
  exact isortPost_of hT hS h (by rw [List.size_toArray]; exact hp) (by rw [List.size_toArray]; exact hs) hlt
end Go.Proofs.Ytdbpcogbednokaa
