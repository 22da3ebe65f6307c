/-
  Rows of bytes: one that is read, one that is appended to; what they are as strings. No function of the program in sight.
-/
import Derived.Test.YtilhdelijdkjpaaVP
import Derived.Test.YtilhdelijdkjpaaProg
import Derived.Deep.Upon
import Derived.Deep.QuietTactic
import Derived.BigQuiet
import Derived.BigRegion
import Derived.StillTailTactics
import Derived.Laws.ResultCell
import Derived.Maps.AppendAt
import Derived.Lib.ItoaNum
import Derived.Lib.EndianBits
set_option linter.unusedVariables false
set_option linter.unusedSimpArgs false
namespace Go.Proofs.Ytilhdelijdkjpaa
open Go Go.RowKit Sac

theorem Try.infoByte : (Try.prog.info? 5).map (fun i => (i.zero, i.size, i.bytes)) = some (some (.int .u8 0), 1, 1) := by kernel_rfl

/-- A byte as a value. -/
def by8 (x : Nat) : Value := .int .u8 (x : Int)

/-- The slice at a holds the cells vs; of the block's type nothing is said. -/
def RdC (w : World) (a : Option Addr) (vs : List Value) : Prop := vs ≠ [] → ∃ ad, a = some ad ∧ ∀ j u, vs[j]? = some u → w.cell? (ad.add j) = some u
theorem RdC.below {w w' : World} {a : Option Addr} {vs : List Value} (h : RdC w a vs) (hb : Below w.heap.size w w') : RdC w' a vs := fun hne => by
  obtain ⟨ad, h1, h2⟩ := h hne
  exact ⟨ad, h1, fun j u hj => (hb.cell (World.block_lt_of_cell? _ _ (h2 j u hj))).trans (h2 j u hj)⟩
theorem RdC.of_rd {w : World} {e : TypeId} {a : Option Addr} {vs : List Value} (h : Rd w e a vs) : RdC w a vs := fun hn => by
  obtain ⟨ad, h1, _, h3⟩ := h hn
  exact ⟨ad, h1, h3⟩
theorem RdC.take {w : World} {a : Option Addr} {vs : List Value} (h : RdC w a vs) (k : Nat) : RdC w a (vs.take k) := fun hn => by
  obtain ⟨ad, h1, h3⟩ := h (fun e => hn (by rw [e, List.take_nil]))
  refine ⟨ad, h1, fun j u hu => h3 j u ?_⟩
  rw [List.getElem?_take] at hu
  split at hu
  · exact hu
  · cases hu
theorem RdC.drop {w : World} {ad : Addr} {vs : List Value} (h : RdC w (some ad) vs) (k : Nat) : RdC w (some (ad.add k)) (vs.drop k) := fun hn => by
  obtain ⟨ad', e1, hc⟩ := h (fun e => hn (by rw [e, List.drop_nil]))
  obtain rfl := Option.some.inj e1
  refine ⟨_, rfl, fun j u hu => ?_⟩
  rw [Addr.add_add]
  exact hc (k + j) u (by rw [List.getElem?_drop] at hu; exact hu)
theorem RdC.at_ {w : World} {a : Option Addr} {vs : List Value} (h : RdC w a vs) {k : Nat} (hk : k < vs.length) : ∃ ad, a = some ad ∧ w.cell? (ad.add k) = some vs[k] := by
  obtain ⟨ad, h1, hc⟩ := h (by intro h0; subst h0; simp at hk)
  exact ⟨ad, h1, hc k _ (List.getElem?_eq_getElem hk)⟩
theorem RdC.of_blk {w : World} {k : Nat} {e : TypeId} {cs : List Value} (h : Blk w k e cs) : RdC w (some ⟨k, 0, none⟩) cs := fun _ => ⟨_, rfl, fun j u hj => by
  have : ((⟨k, 0, none⟩ : Addr).add j) = ⟨k, j, none⟩ := by unfold Addr.add; split <;> simp_all
  rw [this, h.cell j]; exact hj⟩
theorem blk_setCells {e : TypeId} {g : Nat} : ∀ (vs : List Value) {w : World} {o : Nat} {pre mid post : List Value}, Blk w g e (pre ++ mid ++ post) → pre.length = o → mid.length = vs.length → Blk (w.setCells g o vs) g e (pre ++ vs ++ post)
  | [], w, o, pre, mid, post, h, _, hm => by
    obtain rfl : mid = [] := List.eq_nil_of_length_eq_zero hm
    exact h
  | v :: vs, w, o, pre, [], post, h, _, hm => by simp at hm
  | v :: vs, w, o, pre, x :: mid, post, h, ho, hm => by
    have h1 := h.set o v
    have e1 : (pre ++ x :: mid ++ post).set o v = (pre ++ [v]) ++ mid ++ post := by
      subst ho
      simp
    rw [e1] at h1
    have h2 := blk_setCells vs (o := o + 1) h1 (by simp [ho]) (by simpa using hm)
    have e2 : pre ++ [v] ++ vs ++ post = pre ++ (v :: vs) ++ post := by simp
    rw [e2] at h2
    exact h2
theorem below_setCells {B : Nat} {w0 : World} (g : Nat) (hg : B ≤ g) : ∀ (vs : List Value) {w : World} (o : Nat), Below B w0 w → Below B w0 (w.setCells g o vs)
  | [], _, _, h => h
  | v :: vs, w, o, h => below_setCells g hg vs (o + 1) (h.setCell (p := ⟨g, o, none⟩) hg v)
theorem grown_setCells (g : Nat) : ∀ (vs : List Value) (w : World) (o : Nat), w.grownBy (w.setCells g o vs) (some g)
  | [], _, _ => ⟨rfl, rfl, rfl, Nat.le_refl _, fun _ _ _ => rfl⟩
  | v :: vs, w, o => by
    have h := grown_setCells g vs (w.setCell ⟨g, o, none⟩ v) (o + 1)
    have hs : (w.setCell ⟨g, o, none⟩ v).heap.size = w.heap.size := by simp [World.setCell]
    exact ⟨h.os, h.tape, h.output, hs ▸ h.size, fun k hk hne => (h.block k (hs.symm ▸ hk) hne).trans (heap_setCell_other _ _ _ _ (fun e => hne (by rw [e])))⟩

/-- The value v is a slice of the bytes bs, which are read. -/
def RB (w : World) (v : Value) (bs : List Nat) : Prop := ∃ (a : Option Addr) (cap : Nat), v = .slice a bs.length cap ∧ bs.length ≤ cap ∧ (cap : Int) ≤ 9223372036854775807 ∧ (a = none → bs = []) ∧ Rd w 5 a (bs.map by8) ∧ ∀ x ∈ bs, x < 256
theorem RB.nil (w : World) : RB w (.slice none 0 0) [] := ⟨none, 0, rfl, Nat.le_refl _, by decide, fun _ => rfl, Rd.nil _ _ _, fun x hx => by cases hx⟩
theorem RB.below {w w' : World} {v : Value} {bs : List Nat} (h : RB w v bs) (hb : Below w.heap.size w w') : RB w' v bs := by
  obtain ⟨a, cap, h1, h2, h3, h4, h5, h6⟩ := h
  exact ⟨a, cap, h1, h2, h3, h4, h5.below hb, h6⟩
/-- .. that lie below block s. -/
def RBL (s : Nat) (w : World) (v : Value) (bs : List Nat) : Prop := RB w v bs ∧ ∀ k, v.ownBlock = some k → bs ≠ [] → k < s
theorem RB.low {w : World} {v : Value} {bs : List Nat} (h : RB w v bs) : RBL w.heap.size w v bs := by
  refine ⟨h, fun k hk hn => ?_⟩
  obtain ⟨a, cap, rfl, h2, h3, h4, h5, h6⟩ := h
  obtain ⟨ad, rfl, he, _⟩ := h5 (by simpa using hn)
  injection hk with hk
  exact hk ▸ he.lt
theorem RBL.below {s : Nat} {w w' : World} {v : Value} {bs : List Nat} (h : RBL s w v bs) (hb : Below s w w') : RBL s w' v bs := by
  obtain ⟨⟨a, cap, rfl, h2, h3, h4, h5, h6⟩, hl⟩ := h
  refine ⟨⟨a, cap, rfl, h2, h3, h4, ?_, h6⟩, hl⟩
  intro hn
  obtain ⟨ad, rfl, he, hc⟩ := h5 hn
  have hlt := hl ad.block rfl (by simpa using hn)
  have hs := hb.block ad.block hlt
  refine ⟨ad, rfl, he.same hs, fun j u hu => ?_⟩
  rw [World.cell?_of_block (w := w) (by rw [block_add]; exact hs)]
  exact hc j u hu
theorem RB.src {w : World} {v : Value} {bs : List Nat} (h : RB w v bs) : Src Try.prog 1 29 v bs.length (bs.map by8) w := by
  obtain ⟨a, cap, rfl, h2, h3, h4, h5, h6⟩ := h
  rcases a with _ | ad
  · obtain rfl := h4 rfl
    exact Src.ofNil w Try.underlying29 cap
  · refine Src.ofSlice w Try.underlying29 ad _ cap _ (by simp) (fun j u hu => ?_) (fun u hu => by obtain ⟨x, _, rfl⟩ := List.mem_map.1 hu; rfl)
    obtain ⟨ad', e, _, hc⟩ := h5 (by intro h0; rw [h0] at hu; simp at hu)
    obtain rfl := Option.some.inj e
    exact hc j u hu

/-- The value v is a slice of the bytes bs, which are read; of whatever kind the block is. -/
def IB (w : World) (v : Value) (bs : List Nat) : Prop := ∃ (a : Option Addr) (cap : Nat), v = .slice a bs.length cap ∧ bs.length ≤ cap ∧ (cap : Int) ≤ 9223372036854775807 ∧ (a = none → bs = []) ∧ RdC w a (bs.map by8) ∧ ∀ x ∈ bs, x < 256
theorem RB.ib {w : World} {v : Value} {bs : List Nat} (h : RB w v bs) : IB w v bs := by
  obtain ⟨a, cap, h1, h2, h3, h4, h5, h6⟩ := h
  exact ⟨a, cap, h1, h2, h3, h4, RdC.of_rd h5, h6⟩
theorem IB.below {w w' : World} {v : Value} {bs : List Nat} (h : IB w v bs) (hb : Below w.heap.size w w') : IB w' v bs := by
  obtain ⟨a, cap, h1, h2, h3, h4, h5, h6⟩ := h
  exact ⟨a, cap, h1, h2, h3, h4, h5.below hb, h6⟩
theorem IB.form {w : World} {v : Value} {bs : List Nat} (h : IB w v bs) : ∃ a n c, v = .slice a n c := by
  obtain ⟨a, cap, e, _⟩ := h
  exact ⟨a, _, cap, e⟩
theorem IB.lt {w : World} {v : Value} {bs : List Nat} (h : IB w v bs) : ∀ x ∈ bs, x < 256 := by
  obtain ⟨_, _, _, _, _, _, _, h6⟩ := h
  exact h6
theorem cell_lt {w : World} {a : Addr} {u : Value} (h : w.cell? a = some u) : a.block < w.heap.size := by
  by_cases hl : a.block < w.heap.size
  · exact hl
  · exfalso
    simp [World.cell?, Array.getElem?_eq_none (Nat.le_of_not_lt hl)] at h
/-- .. that lie below block s. -/
def IBL (s : Nat) (w : World) (v : Value) (bs : List Nat) : Prop := IB w v bs ∧ ∀ k, v.ownBlock = some k → bs ≠ [] → k < s
theorem IB.low {w : World} {v : Value} {bs : List Nat} (h : IB w v bs) : IBL w.heap.size w v bs := by
  refine ⟨h, fun k hk hn => ?_⟩
  obtain ⟨a, cap, rfl, h2, h3, h4, h5, h6⟩ := h
  obtain ⟨ad, rfl, hc⟩ := h5 (by simpa using hn)
  injection hk with hk
  have hp : 0 < (bs.map by8).length := by rw [List.length_map]; exact List.length_pos_iff.2 hn
  have h0 : (bs.map by8)[0]? = some ((bs.map by8)[0]'hp) := List.getElem?_eq_getElem hp
  have := cell_lt (hc 0 _ h0)
  rw [block_add] at this
  exact hk ▸ this
theorem IBL.below {s : Nat} {w w' : World} {v : Value} {bs : List Nat} (h : IBL s w v bs) (hb : Below s w w') : IBL s w' v bs := by
  obtain ⟨⟨a, cap, rfl, h2, h3, h4, h5, h6⟩, hl⟩ := h
  refine ⟨⟨a, cap, rfl, h2, h3, h4, ?_, h6⟩, hl⟩
  intro hn
  obtain ⟨ad, rfl, hc⟩ := h5 hn
  have hlt := hl ad.block rfl (by simpa using hn)
  refine ⟨ad, rfl, fun j u hu => ?_⟩
  rw [World.cell?_of_block (w := w) (by rw [block_add]; exact hb.block ad.block hlt)]
  exact hc j u hu
theorem IB.src {w : World} {v : Value} {bs : List Nat} (h : IB w v bs) : Src Try.prog 1 29 v bs.length (bs.map by8) w := by
  obtain ⟨a, cap, rfl, h2, h3, h4, h5, h6⟩ := h
  rcases a with _ | ad
  · obtain rfl := h4 rfl
    exact Src.ofNil w Try.underlying29 cap
  · refine Src.ofSlice w Try.underlying29 ad _ cap _ (by simp) (fun j u hu => ?_) (fun u hu => by obtain ⟨x, _, rfl⟩ := List.mem_map.1 hu; rfl)
    obtain ⟨ad', e, hc⟩ := h5 (by intro h0; rw [h0] at hu; simp at hu)
    obtain rfl := Option.some.inj e
    exact hc j u hu

/-- The value v is a slice of bytes in a block of the walk's own (at or behind block base), which is appended to. -/
def Buf (w : World) (base : Nat) (v : Value) (bs : List Nat) : Prop := (∀ x ∈ bs, x < 256) ∧ ((v = .slice none 0 0 ∧ bs = []) ∨
  ∃ (g off cap : Nat) (pre post : List Value), v = .slice (some ⟨g, off, none⟩) bs.length cap ∧ base ≤ g ∧ Blk w g 5 (pre ++ bs.map by8 ++ post) ∧ pre.length = off ∧ (bs.length ≤ cap ∧ cap ≤ bs.length + post.length) ∧ (cap : Int) ≤ 9223372036854775807)
theorem Buf.nil (w : World) (base : Nat) : Buf w base (.slice none 0 0) [] := ⟨fun x hx => (by cases hx), .inl ⟨rfl, rfl⟩⟩
theorem Buf.lt {w : World} {base : Nat} {v : Value} {bs : List Nat} (h : Buf w base v bs) {k : Nat} (hk : v.ownBlock = some k) : base ≤ k ∧ k < w.heap.size ∧ Ety w k 5 := by
  rcases h.2 with ⟨rfl, _⟩ | ⟨g, off, cap, pre, post, rfl, h1, h2, _⟩
  · cases hk
  · injection hk with hk
    subst hk
    exact ⟨h1, h2.lt, h2.ety⟩
theorem Buf.same {w w' : World} {base : Nat} {v : Value} {bs : List Nat} (h : Buf w base v bs) (hs : ∀ k, v.ownBlock = some k → w'.heap[k]? = w.heap[k]?) : Buf w' base v bs := by
  refine ⟨h.1, ?_⟩
  rcases h.2 with h | ⟨g, off, cap, pre, post, rfl, h1, h2, h3⟩
  · exact .inl h
  · exact .inr ⟨g, off, cap, pre, post, rfl, h1, h2.same (hs g rfl), h3⟩
theorem Buf.below {w w' : World} {base : Nat} {v : Value} {bs : List Nat} (h : Buf w base v bs) (hb : Below w.heap.size w w') : Buf w' base v bs := h.same fun k hk => hb.block k (h.lt hk).2.1
theorem Buf.base {w : World} {b b' : Nat} {v : Value} {bs : List Nat} (h : Buf w b v bs) (hb : b' ≤ b) : Buf w b' v bs := by
  refine ⟨h.1, ?_⟩
  rcases h.2 with h | ⟨g, off, cap, pre, post, rfl, h1, h2⟩
  · exact .inl h
  · exact .inr ⟨g, off, cap, pre, post, rfl, Nat.le_trans hb h1, h2⟩
theorem add_zero (g off : Nat) (j : Nat) : (⟨g, off, none⟩ : Addr).add j = ⟨g, off + j, none⟩ := by
  unfold Addr.add
  by_cases h : j = 0
  · subst h; simp
  · simp [h]
theorem Buf.rb {w : World} {base : Nat} {v : Value} {bs : List Nat} (h : Buf w base v bs) : RB w v bs := by
  obtain ⟨h0, ⟨rfl, rfl⟩ | ⟨g, off, cap, pre, post, rfl, h1, h2, h3, h4, h5⟩⟩ := h
  · exact RB.nil w
  · refine ⟨some ⟨g, off, none⟩, cap, rfl, by omega, h5, (fun h => by cases h), (fun _ => ⟨_, rfl, h2.ety, fun j u hu => ?_⟩), h0⟩
    have hl := (List.getElem?_eq_some_iff.1 hu).1
    rw [add_zero, h2.cell, List.append_assoc, List.getElem?_append_right (by omega), List.getElem?_append_left (by omega), h3, Nat.add_sub_cancel_left]
    exact hu
/-- Without its first k bytes. -/
theorem Buf.drop {w : World} {base : Nat} {g off n cap : Nat} {bs : List Nat} (h : Buf w base (.slice (some ⟨g, off, none⟩) n cap) bs) (k : Nat) (hk : k ≤ bs.length) : Buf w base (.slice (some ⟨g, off + k, none⟩) (n - k) (cap - k)) (bs.drop k) := by
  obtain ⟨h0, ⟨h1, _⟩ | ⟨g', off', cap', pre, post, h1, h2, h3, h4, h5, h6⟩⟩ := h
  · cases h1
  · injection h1 with e1 e2 e3
    have e1 := Option.some.inj e1
    injection e1 with e1 e4
    subst e1 e2 e3 e4
    refine ⟨fun x hx => h0 x (List.mem_of_mem_drop hx), .inr ⟨g, off + k, cap - k, pre ++ (bs.take k).map by8, post, by rw [List.length_drop], h2, ?_, by simp [h4]; omega, by rw [List.length_drop]; omega, by omega⟩⟩
    have e : pre ++ List.map by8 (bs.take k) ++ List.map by8 (bs.drop k) ++ post = pre ++ bs.map by8 ++ post := by
      rw [List.append_assoc pre, ← List.map_append, List.take_append_drop]
    rw [e]; exact h3

/-- Without any of its bytes, at its place. -/
theorem Buf.drop0 {w : World} {base : Nat} {g off n cap : Nat} {bs : List Nat} (h : Buf w base (.slice (some ⟨g, off, none⟩) n cap) bs) : Buf w base (.slice (some ⟨g, off, none⟩) 0 0) [] := by
  obtain ⟨h0, ⟨h1, _⟩ | ⟨g', off', cap', pre, post, h1, h2, h3, h4, h5, h6⟩⟩ := h
  · cases h1
  · injection h1 with e1 e2 e3
    have e1 := Option.some.inj e1
    injection e1 with e1 e4
    subst e1 e2 e3 e4
    exact ⟨fun x hx => (by cases hx), .inr ⟨g, off, 0, pre, bs.map by8 ++ post, rfl, h2, by rw [List.map_nil, List.append_nil, ← List.append_assoc]; exact h3, h4, ⟨Nat.le_refl _, Nat.zero_le _⟩, by decide⟩⟩

/-- More bytes. -/
theorem append_in (w : World) (base : Nat) (ty : TypeId) (v : Value) (bs : List Nat) (h : Buf w base v bs) (x : Value) (cs : List Nat) (hx : IB w x cs) (hlen : bs.length + cs.length ≤ 100000000000000) (hbase : base ≤ w.heap.size) :
    ∃ v' w', (Builtin.append_ #[29, 29] ty #[v, x]).run Try.prog w = .ok v' w' ∧ Buf w' base v' (bs ++ cs) ∧ w.grownBy w' v.ownBlock ∧ (∀ k, v'.ownBlock = some k → v.ownBlock = some k ∨ w.heap.size ≤ k) := by
  obtain ⟨i, hi, hz1, hz2, hz3⟩ := info_parts Try.infoByte
  have hxs := hx.src
  have hcs : ∀ x ∈ cs, x < 256 := by obtain ⟨_, _, _, _, _, _, _, h⟩ := hx; exact h
  have hall : ∀ x ∈ bs ++ cs, x < 256 := fun y hy => by
    rcases List.mem_append.1 hy with h' | h'
    · exact h.1 y h'
    · exact hcs y h'
  have hsz : i.size = 1 := hz2
  have grow : ∀ (bo : Option Addr) (cap : Nat), v = .slice bo bs.length cap → cap < bs.length + cs.length → (Builtin.firstCells i.size bs.length (.slice bo bs.length cap)).run Try.prog w.drew = .ok (bs.map by8).toArray w.drew →
      ∃ v' w', (Builtin.append_ #[29, 29] ty #[v, x]).run Try.prog w = .ok v' w' ∧ Buf w' base v' (bs ++ cs) ∧ w.grownBy w' v.ownBlock ∧ (∀ k, v'.ownBlock = some k → v.ownBlock = some k ∨ w.heap.size ≤ k) := by
    intro bo cap hv hg hold
    subst hv
    have hr := run_append_grow_src w 29 29 ty 5 i _ Try.underlying29 hi hz1 bo bs.length cap (bs.map by8) hold x cs.length (cs.map by8) (hsz ▸ hxs) hg (by omega) (growslice_fits hg (by rw [hz3]; omega))
    have hge := grownCap_ge w (bs.length + cs.length) cap 5
    have hcm := grownCap_le_maxLen w (bs.length + cs.length) cap 5 (by unfold maxLen; omega)
    obtain ⟨G, hG⟩ : ∃ G, grownCap w (bs.length + cs.length) cap 5 = G := ⟨_, rfl⟩
    rw [hG] at hr hge hcm
    obtain ⟨Z, hZ⟩ : ∃ Z, Builtin.zeroCells (Value.cells (.int .u8 0)) (G - (bs.length + cs.length)) = Z := ⟨_, rfl⟩
    have hzc : Z.size = G - (bs.length + cs.length) := by rw [← hZ, size_zeroCells]; exact Nat.mul_one _
    rw [hZ] at hr
    refine ⟨_, _, hr, ⟨hall, .inr ⟨w.heap.size, 0, G, [], Z.toList, by rw [List.length_append], hbase, ?_, rfl, ?_, by unfold maxLen at hcm; omega⟩⟩, ⟨rfl, rfl, rfl, by simp, fun k hk _ => Below.heap_alloc w.drew _ k hk⟩, fun k hk => .inr ?_⟩
    · have e : ([] ++ (bs ++ cs).map by8 ++ Z.toList).toArray = ((bs.map by8 ++ cs.map by8).toArray ++ Z) := by
        apply Array.ext'
        rw [Array.toList_append, List.nil_append, List.map_append]
      unfold Blk
      rw [e]
      exact heap_alloc_new w.drew _
    · have hzl : Z.toList.length = Z.size := Array.length_toList
      rw [List.length_append]; omega
    · have hk' : w.heap.size = k := Option.some.inj hk
      omega
  rcases h.2 with ⟨rfl, rfl⟩ | ⟨g, off, cap, pre, post, rfl, h1, h2, h3, h4, h5⟩
  · by_cases h0 : cs.length = 0
    · obtain rfl : cs = [] := List.eq_nil_of_length_eq_zero h0
      exact ⟨_, _, run_append_nothing w 29 29 ty 5 i Try.underlying29 hi none 0 0 (Nat.le_refl _) x (hsz ▸ hxs), Buf.nil w base, ⟨rfl, rfl, rfl, Nat.le_refl _, fun _ _ _ => rfl⟩, fun k hk => .inl hk⟩
    · exact grow none 0 rfl (by simp; omega) (run_firstCells_none w.drew _ _ _ _)
  · by_cases hroom : bs.length + cs.length ≤ cap
    · have hcl : post = post.take cs.length ++ post.drop cs.length := (List.take_append_drop _ _).symm
      have hB' : Blk w g 5 ((pre ++ bs.map by8) ++ post.take cs.length ++ post.drop cs.length) := by rw [List.append_assoc _ (post.take _), ← hcl]; exact h2
      have hlt : (post.take cs.length).length = cs.length := by rw [List.length_take]; omega
      have hr := run_append_room_src w 29 29 ty 5 i Try.underlying29 hi g off bs.length cap x cs.length (cs.map by8) (hsz ▸ hxs) hroom
        (fun j hj => by
          rw [h2.cell, List.getElem?_eq_getElem (by simp only [List.length_append, List.length_map] at hj ⊢; rw [hsz]; omega)]; rfl)
        (fun j hj => h2.frozen _)
      rw [hsz, Nat.mul_one] at hr
      refine ⟨_, _, hr, ⟨hall, .inr ⟨g, off, cap, pre, post.drop cs.length, by rw [List.length_append], h1, ?_, h3, by rw [List.length_append, List.length_drop]; omega, h5⟩⟩, grown_setCells g _ _ _, fun k hk => .inl hk⟩
      have := blk_setCells (cs.map by8) (o := off + bs.length) hB' (by simp [h3]) (by simp [hlt])
      rw [List.map_append, ← List.append_assoc pre]
      exact this
    · refine grow _ cap rfl (by omega) ?_
      have hx2 := run_firstCells_some (P := Try.prog) w.drew i.size bs.length ⟨g, off, none⟩ bs.length cap (bs.map by8) (by simp [hsz]) (fun j u hu => by
        have hl := (List.getElem?_eq_some_iff.1 hu).1
        show w.cell? _ = _
        rw [add_zero, h2.cell, List.append_assoc, List.getElem?_append_right (by omega), List.getElem?_append_left (by omega), h3, Nat.add_sub_cancel_left]
        exact hu)
      exact hx2
theorem append_buf (w : World) (base : Nat) (ty : TypeId) (v : Value) (bs : List Nat) (h : Buf w base v bs) (x : Value) (cs : List Nat) (hx : RB w x cs) (hlen : bs.length + cs.length ≤ 100000000000000) (hbase : base ≤ w.heap.size) :
    ∃ v' w', (Builtin.append_ #[29, 29] ty #[v, x]).run Try.prog w = .ok v' w' ∧ Buf w' base v' (bs ++ cs) ∧ w.grownBy w' v.ownBlock ∧ (∀ k, v'.ownBlock = some k → v.ownBlock = some k ∨ w.heap.size ≤ k) :=
  append_in w base ty v bs h x cs hx.ib hlen hbase
theorem Buf.form {w : World} {base : Nat} {v : Value} {bs : List Nat} (h : Buf w base v bs) (hn : bs ≠ []) : ∃ (g off cap : Nat), v = .slice (some ⟨g, off, none⟩) bs.length cap ∧ bs.length ≤ cap ∧ (cap : Int) ≤ 9223372036854775807 ∧ Rd w 5 (some ⟨g, off, none⟩) (bs.map by8) := by
  obtain ⟨h0, ⟨h1, h2⟩ | ⟨g, off, cap, pre, post, rfl, h1, h2, h3, h4, h5⟩⟩ := h
  · exact absurd h2 hn
  · have hrb := Buf.rb ⟨h0, .inr ⟨g, off, cap, pre, post, rfl, h1, h2, h3, h4, h5⟩⟩
    obtain ⟨a, cap', e, _, _, _, hr, _⟩ := hrb
    injection e with e1 _ _
    exact ⟨g, off, cap, rfl, by omega, h5, e1 ▸ hr⟩
theorem Buf.slice {w : World} {base : Nat} {v : Value} {bs : List Nat} (h : Buf w base v bs) : ∃ (a : Option Addr) (cap : Nat), v = .slice a bs.length cap ∧ bs.length ≤ cap ∧ (cap : Int) ≤ 9223372036854775807 := by
  obtain ⟨a, cap, e, h1, h2, _⟩ := h.rb
  exact ⟨a, cap, e, h1, h2⟩

theorem wpList_append_buf (w : World) {ops : Array Oper} {rest : List Oper} {o : Oper} {a : Act} {Q : Exit → Act → World → Prop} (hg : o.guard = none) (s x : Operand)
    (hop : o.op = Op.call { callee := Callee.builtin Builtin.append, args := #[s, x], argTypes := #[29, 29] })
    (base : Nat) (v : Value) (bs : List Nat) (hs : a.eval s = v) (h : Buf w base v bs) (xv : Value) (cs : List Nat) (hx : a.eval x = xv) (hr : RB w xv cs)
    (hlen : bs.length + cs.length ≤ 100000000000000) (hbase : base ≤ w.heap.size)
    (hk : ∀ v' w', Buf w' base v' (bs ++ cs) → w.grownBy w' v.ownBlock → (∀ k, v'.ownBlock = some k → v.ownBlock = some k ∨ w.heap.size ≤ k) → wpList Try.prog ops Q rest (a.put o.dst v') w') :
    wpList Try.prog ops Q (o :: rest) a w := by
  refine wpList_plain hg fun K hK' => ?_
  obtain ⟨v', w', hr, h1, h2, h3⟩ := append_buf w base o.type v bs h xv cs hr hlen hbase
  unfold Oper.wp execOp
  simp only [hop, resolve, invoke, builtin, Sem.run_bind, Sem.run_pure, Result.andThen_ok, List.map_toArray, List.map_cons, List.map_nil, hs, hx, hr]
  exact hK' _ _ (hk v' w' h1 h2 h3)
theorem wpList_append_in (w : World) {ops : Array Oper} {rest : List Oper} {o : Oper} {a : Act} {Q : Exit → Act → World → Prop} (hg : o.guard = none) (s x : Operand)
    (hop : o.op = Op.call { callee := Callee.builtin Builtin.append, args := #[s, x], argTypes := #[29, 29] })
    (base : Nat) (v : Value) (bs : List Nat) (hs : a.eval s = v) (h : Buf w base v bs) (xv : Value) (cs : List Nat) (hx : a.eval x = xv) (hr : IB w xv cs)
    (hlen : bs.length + cs.length ≤ 100000000000000) (hbase : base ≤ w.heap.size)
    (hk : ∀ v' w', Buf w' base v' (bs ++ cs) → w.grownBy w' v.ownBlock → (∀ k, v'.ownBlock = some k → v.ownBlock = some k ∨ w.heap.size ≤ k) → wpList Try.prog ops Q rest (a.put o.dst v') w') :
    wpList Try.prog ops Q (o :: rest) a w := by
  refine wpList_plain hg fun K hK' => ?_
  obtain ⟨v', w', hr, h1, h2, h3⟩ := append_in w base o.type v bs h xv cs hr hlen hbase
  unfold Oper.wp execOp
  simp only [hop, resolve, invoke, builtin, Sem.run_bind, Sem.run_pure, Result.andThen_ok, List.map_toArray, List.map_cons, List.map_nil, hs, hx, hr]
  exact hK' _ _ (hk v' w' h1 h2 h3)
theorem step_append_buf {ops : Array Oper} {o : Oper} {a : Act} {w : World} {K : Act → World → Prop} {Q : Exit → Act → World → Prop} {E : Prop} (hg : o.guard = none) (s x : Operand)
    (hop : o.op = Op.call { callee := Callee.builtin Builtin.append, args := #[s, x], argTypes := #[29, 29] })
    (base : Nat) (v : Value) (bs : List Nat) (hs : a.eval s = v) (h : Buf w base v bs) (xv : Value) (cs : List Nat) (hx : a.eval x = xv) (hr : RB w xv cs)
    (hlen : bs.length + cs.length ≤ 100000000000000) (hbase : base ≤ w.heap.size)
    (hk : ∀ v' w', Buf w' base v' (bs ++ cs) → w.grownBy w' v.ownBlock → (∀ k, v'.ownBlock = some k → v.ownBlock = some k ∨ w.heap.size ≤ k) → K (a.put o.dst v') w') :
    if Region.wanted o (yielded ops a.tmps) = true then Oper.wp Try.prog o a w K Q else E := by
  rw [if_pos (by simp [Region.wanted, hg])]
  obtain ⟨v', w', hr, h1, h2, h3⟩ := append_buf w base o.type v bs h xv cs hr hlen hbase
  unfold Oper.wp execOp
  simp only [hop, resolve, invoke, builtin, Sem.run_bind, Sem.run_pure, Result.andThen_ok, List.map_toArray, List.map_cons, List.map_nil, hs, hx, hr]
  exact hk v' w' h1 h2 h3
theorem below_grown {B : Nat} {w0 w w' : World} {v : Value} (h : Below B w0 w) (hg : w.grownBy w' v.ownBlock) (hv : ∀ k, v.ownBlock = some k → B ≤ k) (hB : B ≤ w.heap.size) : Below B w0 w' :=
  h.trans ⟨hg.os, hg.tape, hg.output, hg.size, fun k hk => hg.block k (by omega) (fun e => by have := hv k e.symm; omega)⟩

/-! ### Bytes as a string -/
def strB (l : List Nat) : ByteArray := strOfNums (l.map Int.ofNat)
theorem strB_inj {l m : List Nat} (hl : ∀ x ∈ l, x < 256) (hm : ∀ x ∈ m, x < 256) (h : strB l = strB m) : l = m := by
  have h1 := congrArg (fun b : ByteArray => b.data.toList) h
  simp only [strB, strOfNums_data, List.map_map] at h1
  have key : ∀ (l m : List Nat), (∀ x ∈ l, x < 256) → (∀ x ∈ m, x < 256) → l.map ((fun n : Int => UInt8.ofNat n.toNat) ∘ Int.ofNat) = m.map ((fun n : Int => UInt8.ofNat n.toNat) ∘ Int.ofNat) → l = m := by
    intro l
    induction l with
    | nil => intro m _ _ h; cases m with
      | nil => rfl
      | cons _ _ => simp at h
    | cons x l ih => intro m hl hm h; cases m with
      | nil => simp at h
      | cons y m =>
        rw [List.map_cons, List.map_cons] at h
        injection h with h1 h2
        have hx := hl x List.mem_cons_self
        have hy := hm y List.mem_cons_self
        have e : x = y := by
          have h3 := congrArg UInt8.toNat h1
          simp only [Function.comp, Int.ofNat_eq_natCast, Int.toNat_natCast, UInt8.toNat_ofNat'] at h3
          omega
        rw [e, ih m (fun z hz => hl z (List.mem_cons_of_mem _ hz)) (fun z hz => hm z (List.mem_cons_of_mem _ hz)) h2]
  exact key l m hl hm h1
theorem rdc_str {w : World} {a : Option Addr} {bs : List Nat} {cap : Nat} (h : RdC w a (bs.map by8)) (h0 : a = none → bs = []) : (convert 29 9 (.slice a bs.length cap)).run Try.prog w = .ok (.string (strB bs)) w := by
  rcases a with _ | ad
  · obtain rfl := h0 rfl
    rw [run_convert_bytes_nil w 29 5 Try.underlying29 Try.underlying5 _ cap 9 Try.underlying9]
    rfl
  · have hl : (loadCells ad bs.length).run Try.prog w = .ok ((bs.map Int.ofNat).map (Value.int .u8)).toArray w := by
      have := run_loadCells_list (P := Try.prog) w ad ((bs.map Int.ofNat).map (Value.int .u8)) (fun j v hj => by
        obtain ⟨ad', e, hc⟩ := h (by intro e; have e2 : bs = [] := List.map_eq_nil_iff.1 e; subst e2; simp at hj)
        obtain rfl := Option.some.inj e
        exact hc j v (by rw [← hj, List.map_map]; rfl))
      simpa using this
    rw [run_convert_bytes_string w _ _ _ _ bs.length cap Try.underlying29 Try.underlying5 Try.underlying9, run_bytesToString w _ bs.length cap (bs.map Int.ofNat) hl, foldl_push_bytes]
    simp [strB, strOfNums, ByteArray.empty, ByteArray.emptyWithCapacity]
    rfl
theorem rb_str {w : World} {v : Value} {bs : List Nat} (h : RB w v bs) : (convert 29 9 v).run Try.prog w = .ok (.string (strB bs)) w := by
  obtain ⟨a, cap, rfl, _, _, h0, hr, _⟩ := h
  exact rdc_str (RdC.of_rd hr) h0
end Go.Proofs.Ytilhdelijdkjpaa
