/-
  Where a core lies: its blocks bear a colour (whose core, which part); what a step of one core leaves alone.
-/
import Derived.Test.YtilhdelijdkjpaaVB
set_option linter.unusedVariables false
set_option linter.unusedSimpArgs false
namespace Go.Proofs.Ytilhdelijdkjpaa
open Go Go.RowKit Sac

/-- A colouring: of which core, of which part of it, a block is. -/
abbrev Colour := Nat → Option (Nat × Nat)

/-- Two lists of entries stand to one another, key for key. -/
inductive RelM {α β : Type} (Q : α → β → Prop) : List (Int × α) → List (Int × β) → Prop
  | nil : RelM Q [] []
  | cons {x : Int × α} {y : Int × β} {l : List (Int × α)} {t : List (Int × β)} : x.1 = y.1 ∧ Q x.2 y.2 → RelM Q l t → RelM Q (x :: l) (y :: t)

section
variable {α β : Type} {Q Q' : α → β → Prop} {l : List (Int × α)} {t : List (Int × β)}
theorem RelM.lookM (h : RelM Q l t) (k : Int) : (lookM l k = none ∧ lookM t k = none) ∨ ∃ v y, lookM l k = some v ∧ lookM t k = some y ∧ Q v y := by
  induction h with
  | nil => exact .inl ⟨rfl, rfl⟩
  | @cons x y l t h1 _ ih =>
    rw [lookM_cons, lookM_cons, ← h1.1]
    by_cases e : x.1 = k
    · rw [if_pos e, if_pos e]
      exact .inr ⟨_, _, rfl, rfl, h1.2⟩
    · rw [if_neg e, if_neg e]
      exact ih
theorem RelM.put (h : RelM Q l t) (k : Int) {v : α} {y : β} (hq : Q v y) : RelM Q (putM k v l) (putM k y t) := by
  induction h with
  | nil => exact RelM.cons ⟨rfl, hq⟩ RelM.nil
  | @cons x z l t h1 h2 ih =>
    unfold putM
    rw [← h1.1]
    by_cases e : k < x.1
    · rw [if_pos e, if_pos e]
      exact RelM.cons ⟨rfl, hq⟩ (RelM.cons h1 h2)
    · rw [if_neg e, if_neg e]
      by_cases e2 : k = x.1
      · rw [if_pos e2, if_pos e2]
        exact RelM.cons ⟨rfl, hq⟩ h2
      · rw [if_neg e2, if_neg e2]
        exact RelM.cons h1 ih
theorem RelM.mono (h : RelM Q l t) (hq : ∀ v y, Q v y → Q' v y) : RelM Q' l t := by
  induction h with
  | nil => exact RelM.nil
  | cons h1 _ ih => exact RelM.cons ⟨h1.1, hq _ _ h1.2⟩ ih
theorem RelM.length (h : RelM Q l t) : l.length = t.length := by
  induction h with
  | nil => rfl
  | cons _ _ ih => rw [List.length_cons, List.length_cons, ih]
theorem RelM.keys (h : RelM Q l t) : l.map (·.1) = t.map (·.1) := by
  induction h with
  | nil => rfl
  | cons h1 _ ih => rw [List.map_cons, List.map_cons, h1.1, ih]
theorem RelM.srt (h : RelM Q l t) (hs : Srt l) : Srt t := by
  have h1 : (l.map (·.1)).Pairwise (· < ·) := List.pairwise_map.2 hs
  rw [h.keys] at h1
  exact List.pairwise_map.1 h1
end

/-- What holds of a colouring: each coloured block is there, and none is a row of bytes. -/
structure Tinted (col : Colour) (w : World) : Prop where
  lo : ∀ k q, col k = some q → k < w.heap.size
  nb : ∀ k q, col k = some q → ¬ Ety w k 5

/-- A step in which of what was there only blocks of colours G have changed, and all new coloured blocks are of G. -/
structure Ext (G : Nat × Nat → Prop) (col : Colour) (w : World) (col' : Colour) (w' : World) : Prop where
  old : ∀ k, k < w.heap.size → col' k = col k
  only : Only (fun k => ∃ q, col k = some q ∧ G q) w w'
  new : ∀ k q, w.heap.size ≤ k → col' k = some q → G q
  tint : Tinted col' w'

section
variable {G H : Nat × Nat → Prop} {col col' col'' : Colour} {w w' w'' : World}

theorem Ext.refl (h : Tinted col w) : Ext G col w col w := ⟨fun _ _ => rfl, Only.refl _ w, fun k q hk e => by have := h.lo k q e; omega, h⟩
theorem Ext.trans (h : Ext G col w col' w') (h2 : Ext G col' w' col'' w'') : Ext G col w col'' w'' := by
  have hs := h.only.size
  refine ⟨fun k hk => (h2.old k (by omega)).trans (h.old k hk), h.only.trans' h2.only (fun k ⟨q, e, g⟩ hk => ⟨q, by rw [← h.old k hk]; exact e, g⟩), fun k q hk e => ?_, h2.tint⟩
  by_cases hk2 : k < w'.heap.size
  · rw [h2.old k hk2] at e
    exact h.new k q hk e
  · exact h2.new k q (by omega) e
theorem Ext.mono (h : Ext G col w col' w') (hg : ∀ q, G q → H q) : Ext H col w col' w' :=
  ⟨h.old, h.only.mono (fun k ⟨q, e, g⟩ => ⟨q, e, hg q g⟩), fun k q hk e => hg q (h.new k q hk e), h.tint⟩
theorem Ext.below (ht : Tinted col w) (hb : Below w.heap.size w w') : Ext G col w col w' :=
  ⟨fun _ _ => rfl, Only.below hb, fun k q hk e => by have := ht.lo k q e; omega, fun k q e => Nat.lt_of_lt_of_le (ht.lo k q e) hb.size, fun k q e hE => by
    obtain ⟨cs, fr, he⟩ := hE
    exact ht.nb k q e ⟨cs, fr, (hb.block k (ht.lo k q e)).symm.trans he⟩⟩
theorem Ext.size (h : Ext G col w col' w') : w.heap.size ≤ w'.heap.size := h.only.size
/-- A block that is not of the step's colours is as it was. -/
theorem Ext.block (h : Ext G col w col' w') {k : Nat} (hk : k < w.heap.size) (hq : ∀ q, col k = some q → ¬ G q) : w'.heap[k]? = w.heap[k]? :=
  h.only.block k hk (fun ⟨q, e, g⟩ => hq q e g)
theorem Ext.ety (h : Ext G col w col' w') (ht : Tinted col w) {k : Nat} (hk : Ety w k 5) : w'.heap[k]? = w.heap[k]? :=
  h.block hk.lt (fun q e _ => ht.nb k q e hk)
theorem RB.ext (h : Ext G col w col' w') (ht : Tinted col w) {v : Value} {bs : List Nat} (hb : RB w v bs) : RB w' v bs := by
  obtain ⟨a, cap, h1, h2, h3, h4, h5, h6⟩ := hb
  exact ⟨a, cap, h1, h2, h3, h4, h5.same (fun k hk => h.ety ht hk), h6⟩
end

/-- Block ib is a map from peers to bytes; it is of the part p of core ci. -/
def ToldAt (col : Colour) (ci p : Nat) (w : World) (ib : Nat) (t : TellM) : Prop :=
  col ib = some (ci, p) ∧ ∃ l, MapAt Try.prog 3 w ib l ∧ RelM (RB w) l t
/-- Block ob is a map from views to such maps, all of the part p of core ci, each its own. -/
def ViewsAt (col : Colour) (ci p : Nat) (w : World) (ob : Nat) (m : List (Int × TellM)) : Prop :=
  col ob = some (ci, p) ∧ ∃ l, MapAt Try.prog 3 w ob l ∧ RelM (fun v t => ∃ ib, v = .map (some ib) ∧ ib ≠ ob ∧ t ≠ [] ∧ ToldAt col ci p w ib t) l m ∧ ∀ x y v, lookM l x = some v → lookM l y = some v → x = y
/-- Block b is the map of proposals. -/
def PropsAt (col : Colour) (ci p : Nat) (w : World) (b : Nat) (m : List (Int × (Bs × Int))) : Prop :=
  col b = some (ci, p) ∧ ∃ l, MapAt Try.prog 3 w b l ∧ RelM (fun v y => ∃ s, v = .agg #[s, .int .i64 y.2] ∧ RB w s y.1) l m
/-- Block b is the map of the views seen. -/
def SeenAt (col : Colour) (ci p : Nat) (w : World) (b : Nat) (m : List (Int × Int)) : Prop :=
  col b = some (ci, p) ∧ ∃ l, MapAt Try.prog 3 w b l ∧ RelM (fun v y => v = .int .i64 y ∧ (Lit.int .i64 y).wf = true) l m

section
variable {G : Nat × Nat → Prop} {col col' : Colour} {w w' : World} {ci p b : Nat}
theorem mapAt_ext {l : List (Int × Value)} (h : Ext G col w col' w') (hc : col b = some (ci, p)) (hg : ¬ G (ci, p)) (hm : MapAt Try.prog 3 w b l) : MapAt Try.prog 3 w' b l :=
  hm.same (h.block hm.lt (fun q e => by rw [hc] at e; cases e; exact hg))
theorem ToldAt.ext {t : TellM} (h : Ext G col w col' w') (ht : Tinted col w) (hg : ¬ G (ci, p)) (hm : ToldAt col ci p w b t) : ToldAt col' ci p w' b t := by
  obtain ⟨hc, l, h1, h2⟩ := hm
  exact ⟨(h.old b h1.lt).trans hc, l, mapAt_ext h hc hg h1, h2.mono (fun v y hb => hb.ext h ht)⟩
theorem ViewsAt.ext {m : List (Int × TellM)} (h : Ext G col w col' w') (ht : Tinted col w) (hg : ¬ G (ci, p)) (hm : ViewsAt col ci p w b m) : ViewsAt col' ci p w' b m := by
  obtain ⟨hc, l, h1, h2, h3⟩ := hm
  exact ⟨(h.old b h1.lt).trans hc, l, mapAt_ext h hc hg h1, h2.mono (fun v y ⟨ib, e, e2, e3, hb⟩ => ⟨ib, e, e2, e3, hb.ext h ht hg⟩), h3⟩
theorem PropsAt.ext {m : List (Int × (Bs × Int))} (h : Ext G col w col' w') (ht : Tinted col w) (hg : ¬ G (ci, p)) (hm : PropsAt col ci p w b m) : PropsAt col' ci p w' b m := by
  obtain ⟨hc, l, h1, h2⟩ := hm
  exact ⟨(h.old b h1.lt).trans hc, l, mapAt_ext h hc hg h1, h2.mono (fun v y ⟨s, e, hb⟩ => ⟨s, e, hb.ext h ht⟩)⟩
theorem SeenAt.ext {m : List (Int × Int)} (h : Ext G col w col' w') (hg : ¬ G (ci, p)) (hm : SeenAt col ci p w b m) : SeenAt col' ci p w' b m := by
  obtain ⟨hc, l, h1, h2⟩ := hm
  exact ⟨(h.old b h1.lt).trans hc, l, mapAt_ext h hc hg h1, h2⟩
end

/-- The function value that says which values are accepted. -/
structure AccAt (fv : Value) (acc : Bs → Bool) : Prop where
  form : ∃ f : Nat, fv = .func (.func f) #[] #[] ∧ (∀ args w, (callFunc f args).run Try.prog w = .ok (.enter f args) w) ∧
    ∀ (w : World) (v : Value) (bs : Bs), RB w v bs → Calls Try.prog f #[v] w fun e w' => e = .returned (.bool (acc bs)) ∧ Below w.heap.size w w'

/-- Core ci lies behind block b; where its parts lie. -/
structure CoreRaw (acc : Bs → Bool) (col : Colour) (ci : Nat) (w : World) (b : Nat) (c : Core) (fv wi lo va : Value) (pb pp cm tn sn dc : Nat) : Prop where
  hblk : Blk w b 110 [.int .i64 c.n, .int .i64 c.me, .int .i64 c.slot, fv, .int .i64 c.view, wi, .bool c.wishes, .map (some pb), .map (some pp), .map (some cm), .map (some tn), .map (some sn), .map (some dc), .int .i64 c.lock, lo, .bool c.decided, va]
  hcol : col b = some (ci, 0)
  hacc : AccAt fv acc
  hwi : RB w wi c.wish
  hlo : RB w lo c.locked
  hva : RB w va c.value
  hpb : PropsAt col ci 1 w pb c.proposals
  hpp : ViewsAt col ci 2 w pp c.prepares
  hcm : ViewsAt col ci 3 w cm c.commits
  htn : ViewsAt col ci 4 w tn c.turns
  hsn : SeenAt col ci 5 w sn c.seen
  hdc : ToldAt col ci 6 w dc c.deciders
/-- Core ci lies behind block b. -/
def CoreAt (acc : Bs → Bool) (col : Colour) (ci : Nat) (w : World) (b : Nat) (c : Core) : Prop := ∃ (fv wi lo va : Value) (pb pp cm tn sn dc : Nat), CoreRaw acc col ci w b c fv wi lo va pb pp cm tn sn dc

section
variable {acc : Bs → Bool} {G : Nat × Nat → Prop} {col col' : Colour} {w w' : World} {ci b : Nat} {c : Core} {fv wi lo va : Value} {pb pp cm tn sn dc : Nat}
theorem CoreRaw.ext (h : Ext G col w col' w') (ht : Tinted col w) (hg : ∀ p, ¬ G (ci, p)) (hc : CoreRaw acc col ci w b c fv wi lo va pb pp cm tn sn dc) : CoreRaw acc col' ci w' b c fv wi lo va pb pp cm tn sn dc :=
  ⟨hc.hblk.same (h.block hc.hblk.lt (fun q e => by rw [hc.hcol] at e; cases e; exact hg 0)), (h.old b hc.hblk.lt).trans hc.hcol, hc.hacc, hc.hwi.ext h ht, hc.hlo.ext h ht, hc.hva.ext h ht, hc.hpb.ext h ht (hg 1), hc.hpp.ext h ht (hg 2), hc.hcm.ext h ht (hg 3), hc.htn.ext h ht (hg 4), hc.hsn.ext h (hg 5), hc.hdc.ext h ht (hg 6)⟩
theorem CoreAt.ext (h : Ext G col w col' w') (ht : Tinted col w) (hg : ∀ p, ¬ G (ci, p)) (hc : CoreAt acc col ci w b c) : CoreAt acc col' ci w' b c := by
  obtain ⟨fv, wi, lo, va, pb, pp, cm, tn, sn, dc, h1⟩ := hc
  exact ⟨fv, wi, lo, va, pb, pp, cm, tn, sn, dc, h1.ext h ht hg⟩
/-- One part has changed. -/
theorem CoreRaw.part1 {m' : List (Int × (Bs × Int))} (h : Ext (· = (ci, 1)) col w col' w') (ht : Tinted col w) (hc : CoreRaw acc col ci w b c fv wi lo va pb pp cm tn sn dc) (hm : PropsAt col' ci 1 w' pb m') : CoreRaw acc col' ci w' b { c with proposals := m' } fv wi lo va pb pp cm tn sn dc :=
  ⟨hc.hblk.same (h.block hc.hblk.lt (fun q e => by rw [hc.hcol] at e; cases e; simp)), (h.old b hc.hblk.lt).trans hc.hcol, hc.hacc, hc.hwi.ext h ht, hc.hlo.ext h ht, hc.hva.ext h ht, hm, hc.hpp.ext h ht (by simp), hc.hcm.ext h ht (by simp), hc.htn.ext h ht (by simp), hc.hsn.ext h (by simp), hc.hdc.ext h ht (by simp)⟩
theorem CoreRaw.part2 {m' : List (Int × TellM)} (h : Ext (· = (ci, 2)) col w col' w') (ht : Tinted col w) (hc : CoreRaw acc col ci w b c fv wi lo va pb pp cm tn sn dc) (hm : ViewsAt col' ci 2 w' pp m') : CoreRaw acc col' ci w' b { c with prepares := m' } fv wi lo va pb pp cm tn sn dc :=
  ⟨hc.hblk.same (h.block hc.hblk.lt (fun q e => by rw [hc.hcol] at e; cases e; simp)), (h.old b hc.hblk.lt).trans hc.hcol, hc.hacc, hc.hwi.ext h ht, hc.hlo.ext h ht, hc.hva.ext h ht, hc.hpb.ext h ht (by simp), hm, hc.hcm.ext h ht (by simp), hc.htn.ext h ht (by simp), hc.hsn.ext h (by simp), hc.hdc.ext h ht (by simp)⟩
theorem CoreRaw.part3 {m' : List (Int × TellM)} (h : Ext (· = (ci, 3)) col w col' w') (ht : Tinted col w) (hc : CoreRaw acc col ci w b c fv wi lo va pb pp cm tn sn dc) (hm : ViewsAt col' ci 3 w' cm m') : CoreRaw acc col' ci w' b { c with commits := m' } fv wi lo va pb pp cm tn sn dc :=
  ⟨hc.hblk.same (h.block hc.hblk.lt (fun q e => by rw [hc.hcol] at e; cases e; simp)), (h.old b hc.hblk.lt).trans hc.hcol, hc.hacc, hc.hwi.ext h ht, hc.hlo.ext h ht, hc.hva.ext h ht, hc.hpb.ext h ht (by simp), hc.hpp.ext h ht (by simp), hm, hc.htn.ext h ht (by simp), hc.hsn.ext h (by simp), hc.hdc.ext h ht (by simp)⟩
theorem CoreRaw.part4 {m' : List (Int × TellM)} (h : Ext (· = (ci, 4)) col w col' w') (ht : Tinted col w) (hc : CoreRaw acc col ci w b c fv wi lo va pb pp cm tn sn dc) (hm : ViewsAt col' ci 4 w' tn m') : CoreRaw acc col' ci w' b { c with turns := m' } fv wi lo va pb pp cm tn sn dc :=
  ⟨hc.hblk.same (h.block hc.hblk.lt (fun q e => by rw [hc.hcol] at e; cases e; simp)), (h.old b hc.hblk.lt).trans hc.hcol, hc.hacc, hc.hwi.ext h ht, hc.hlo.ext h ht, hc.hva.ext h ht, hc.hpb.ext h ht (by simp), hc.hpp.ext h ht (by simp), hc.hcm.ext h ht (by simp), hm, hc.hsn.ext h (by simp), hc.hdc.ext h ht (by simp)⟩
theorem CoreRaw.part5 {m' : List (Int × Int)} (h : Ext (· = (ci, 5)) col w col' w') (ht : Tinted col w) (hc : CoreRaw acc col ci w b c fv wi lo va pb pp cm tn sn dc) (hm : SeenAt col' ci 5 w' sn m') : CoreRaw acc col' ci w' b { c with seen := m' } fv wi lo va pb pp cm tn sn dc :=
  ⟨hc.hblk.same (h.block hc.hblk.lt (fun q e => by rw [hc.hcol] at e; cases e; simp)), (h.old b hc.hblk.lt).trans hc.hcol, hc.hacc, hc.hwi.ext h ht, hc.hlo.ext h ht, hc.hva.ext h ht, hc.hpb.ext h ht (by simp), hc.hpp.ext h ht (by simp), hc.hcm.ext h ht (by simp), hc.htn.ext h ht (by simp), hm, hc.hdc.ext h ht (by simp)⟩
theorem CoreRaw.part6 {m' : TellM} (h : Ext (· = (ci, 6)) col w col' w') (ht : Tinted col w) (hc : CoreRaw acc col ci w b c fv wi lo va pb pp cm tn sn dc) (hm : ToldAt col' ci 6 w' dc m') : CoreRaw acc col' ci w' b { c with deciders := m' } fv wi lo va pb pp cm tn sn dc :=
  ⟨hc.hblk.same (h.block hc.hblk.lt (fun q e => by rw [hc.hcol] at e; cases e; simp)), (h.old b hc.hblk.lt).trans hc.hcol, hc.hacc, hc.hwi.ext h ht, hc.hlo.ext h ht, hc.hva.ext h ht, hc.hpb.ext h ht (by simp), hc.hpp.ext h ht (by simp), hc.hcm.ext h ht (by simp), hc.htn.ext h ht (by simp), hc.hsn.ext h (by simp), hm⟩
/-- Its own block has changed. -/
theorem Ext.own (ht : Tinted col w) (hc : CoreRaw acc col ci w b c fv wi lo va pb pp cm tn sn dc) (ho : Only (· = b) w w') (hb : ∃ cs, Blk w' b 110 cs) : Ext (· = (ci, 0)) col w col w' := by
  refine ⟨fun _ _ => rfl, ho.mono (fun k e => ⟨(ci, 0), e ▸ hc.hcol, rfl⟩), fun k q hk e => by have := ht.lo k q e; omega, fun k q e => Nat.lt_of_lt_of_le (ht.lo k q e) ho.size, fun k q e hE => ?_⟩
  by_cases hk : k = b
  · obtain ⟨cs, hb⟩ := hb
    exact hE.ne hb (by decide) hk
  · obtain ⟨cs, fr, he⟩ := hE
    exact ht.nb k q e ⟨cs, fr, (ho.block k (ht.lo k q e) hk).symm.trans he⟩
theorem CoreRaw.own {c' : Core} {wi' lo' va' : Value} (h : Ext (· = (ci, 0)) col w col w') (ht : Tinted col w) (hc : CoreRaw acc col ci w b c fv wi lo va pb pp cm tn sn dc)
    (hb : Blk w' b 110 [.int .i64 c'.n, .int .i64 c'.me, .int .i64 c'.slot, fv, .int .i64 c'.view, wi', .bool c'.wishes, .map (some pb), .map (some pp), .map (some cm), .map (some tn), .map (some sn), .map (some dc), .int .i64 c'.lock, lo', .bool c'.decided, va'])
    (h1 : RB w' wi' c'.wish) (h2 : RB w' lo' c'.locked) (h3 : RB w' va' c'.value)
    (e1 : c'.proposals = c.proposals) (e2 : c'.prepares = c.prepares) (e3 : c'.commits = c.commits) (e4 : c'.turns = c.turns) (e5 : c'.seen = c.seen) (e6 : c'.deciders = c.deciders) : CoreRaw acc col ci w' b c' fv wi' lo' va' pb pp cm tn sn dc :=
  ⟨hb, hc.hcol, hc.hacc, h1, h2, h3, e1 ▸ hc.hpb.ext h ht (by simp), e2 ▸ hc.hpp.ext h ht (by simp), e3 ▸ hc.hcm.ext h ht (by simp), e4 ▸ hc.htn.ext h ht (by simp), e5 ▸ hc.hsn.ext h (by simp), e6 ▸ hc.hdc.ext h ht (by simp)⟩
end
end Go.Proofs.Ytilhdelijdkjpaa
