/-
  tells: does a queue tell just these, in order?
-/
import Derived.Test.YtdbpcogbednokaaDl
import Derived.Test.YtdbpcogbednokaaQx
set_option linter.unusedVariables false
set_option linter.unusedSimpArgs false
namespace Go.Proofs.Ytdbpcogbednokaa
open Go.RowKit

set_option maxRecDepth 100000 in
set_option maxHeartbeats 1000000 in
theorem tells1_any (bo bi bl k n cl : Nat) (al : Option Addr) (S : List (Int × Int)) (d x : Int) (w : World) (hn : S.length = n) (hlen : (n : Int) ≤ 100000) (hk : k < n) (hS : D2 w al S) (he : S.getD k default = (d, x))
    (ho : Blk w bo 4 [.bool true]) (hi : Blk w bi 3 [.int .i64 k]) (hl : Blk w bl 38 [.slice al n cl]) (h1 : bo ≠ bi) (h2 : bl ≠ bi) :
    Calls Try.prog 35 #[.int .i64 d, .int .i64 x, .pointer (some ⟨bo, 0, none⟩), .pointer (some ⟨bi, 0, none⟩), .pointer (some ⟨bl, 0, none⟩)] w fun e w' => e = .returned (.bool true) ∧ Blk w' bi 3 [.int .i64 ((k : Int) + 1)] ∧ Blk w' bo 4 [.bool true] ∧ Only (fun j => j = bi ∨ j = bo) w w' := by
  obtain ⟨g, rfl, hg, c0, c1⟩ := hS k (by omega)
  rw [he] at c0 c1
  dsimp only at c0 c1
  have o0 := ho.cell 0
  have i0 := hi.cell 0
  have l0 := hl.cell 0
  have if0 := hi.frozen 0
  simp only [List.getElem?_cons_zero] at o0 i0 l0
  have hkn : (k : Int) < (n : Int) := by omega
  have hk0 : (0 : Int) ≤ (k : Int) := by omega
  have hwr : IntKind.i64.wrap ((k : Int) + 1) = (k : Int) + 1 := by rw [IntKind.wrap_i64]; omega
  have HI := Lib.hid hi
  have HOB := Lib.hid ho
  have of0 := ho.frozen 0
  clear hS he hi hl ho
  go_enter Try.func35, Try.ntmps35
  go_wp2_with fail
  go_ret
  exact ⟨rfl, (HI.out.other _ _ (Ne.symm h1)).set 0 _, (HOB.out.set 0 _).other _ _ h1, ((Only.refl _ w).setCell (fun _ => .inr rfl) _).setCell (fun _ => .inl rfl) _⟩

/-- What stands while a queue tells. -/
structure TellJ (bo bi bl n cl : Nat) (al : Option Addr) (S : List (Int × Int)) (W0 : World) (pre : List Item) (W : World) : Prop where
  ok : Blk W bo 4 [.bool true]
  at_ : Blk W bi 3 [.int .i64 pre.length]
  row : Blk W bl 38 [.slice al n cl]
  read : D2 W al S
  pre : pre.map Item.key = S.take pre.length
  only : Only (fun j => j = bi ∨ j = bo ∨ W0.heap.size ≤ j) W0 W

theorem D2.only {F : Nat → Prop} {w w' : World} {a : Option Addr} {D : List (Int × Int)} (h : D2 w a D) (ho : Only F w w') (hf : ∀ g, a = some ⟨g, 0, none⟩ → ¬ F g) : D2 w' a D := fun i hi => by
  obtain ⟨g, e, hg, c0, c1⟩ := h i hi
  exact ⟨g, e, Nat.lt_of_lt_of_le hg ho.size, (World.cell?_of_block (a := ⟨g, i * 2, none⟩) (ho.block g hg (hf g e))).trans c0, (World.cell?_of_block (a := ⟨g, i * 2 + 1, none⟩) (ho.block g hg (hf g e))).trans c1⟩

set_option maxHeartbeats 1000000 in
theorem each3_any {F : Nat → Prop} {bq : Nat} {S : List (Int × Int)} {m : Nat} {w : World} (hQ : QAt F bq S m w) (bo bi bl n cl : Nat) (al : Option Addr) (hn : S.length = n) (hlen : (n : Int) ≤ 100000) (hD : D2 w al S)
    (ho : Blk w bo 4 [.bool true]) (hi : Blk w bi 3 [.int .i64 0]) (hl : Blk w bl 38 [.slice al n cl]) (h1 : bo ≠ bi) (h2 : bl ≠ bi) (h3 : bl ≠ bo) (h4 : ∀ g, al = some ⟨g, 0, none⟩ → g ≠ bi ∧ g ≠ bo) :
    Calls Try.prog 13 #[.pointer (some ⟨bq, 0, none⟩), .func (.func 35) #[] #[.pointer (some ⟨bo, 0, none⟩), .pointer (some ⟨bi, 0, none⟩), .pointer (some ⟨bl, 0, none⟩)]] w fun e w' =>
      e = .returned (.tuple #[]) ∧ Blk w' bo 4 [.bool true] ∧ Blk w' bi 3 [.int .i64 n] ∧ Blk w' bl 38 [.slice al n cl] ∧ Only (fun j => j = bi ∨ j = bo ∨ w.heap.size ≤ j) w w' := by
  obtain ⟨a, cap, L, T, q0, hR, hp, hs, rfl, hlenL⟩ := qat_open hQ
  have hTl : T.length = n := by rw [← hn, List.length_map]
  have lo := ho.lt
  have li := hi.lt
  have ll := hl.lt
  refine (qeach_raw bq a cap L T hp hs hlenL w q0 hR 35 #[.pointer (some ⟨bo, 0, none⟩), .pointer (some ⟨bi, 0, none⟩), .pointer (some ⟨bl, 0, none⟩)] (enters_of Try.func35 (by kernel_rfl) rfl)
    (fun W0 pre W => TellJ bo bi bl n cl al (T.map Item.key) W0 pre W ∧ pre = T.take pre.length) (fun _ _ _ => False)
    (fun W0 h => ⟨⟨ho.below h lo, hi.below h li, hl.below h ll, hD.below h, rfl, Only.refl _ _⟩, rfl⟩)
    (fun W0 pre W o h h4 => ⟨⟨h.1.ok.alloc o, h.1.at_.alloc o, h.1.row.alloc o, h.1.read.only ((Only.refl (fun _ => False) W).alloc o) (fun _ _ h => h), h.1.pre, h.1.only.alloc o⟩, h.2⟩)
    (fun W0 pre x W h0 h h5 h6 h7 => ?_)).mono ?_
  · obtain ⟨h, hpre⟩ := h
    have hmap := congrArg (List.map Item.key) h7
    have hlp : pre.length < (T.map Item.key).length := by rw [List.length_map]; exact h5
    have he : (T.map Item.key).getD pre.length default = (x.due, x.x) := by
      have h8 : (pre ++ [x])[pre.length]? = some x := by simp
      rw [h7, List.getElem?_take, if_pos (by omega)] at h8
      rw [List.getD_eq_getElem?_getD, List.getElem?_map, h8]; rfl
    refine (tells1_any bo bi bl pre.length n cl al (T.map Item.key) x.due x.x W hn hlen (by omega) h.read he h.ok h.at_ h.row h1 h2).mono ?_
    rintro e W' ⟨rfl, hi2, ho2, hO⟩
    have hs0 := h0.size
    refine ⟨.inl ⟨rfl, ⟨ho2, by rw [List.length_append]; exact hi2, h.row.only hO (by rintro (h | h); exact h2 h; exact h3 h), h.read.only hO (fun g e => by rintro (h | h); exact (h4 g e).1 h; exact (h4 g e).2 h), ?_, h.only.trans (hO.mono (fun j hj => by rcases hj with hj | hj; exact .inl hj; exact .inr (.inl hj)))⟩, by rw [h7, List.length_take]; congr 1; omega⟩, fun k k1 k2 => hO.block k (by omega) (by omega), hO.size⟩
    rw [h7, List.length_take, List.map_take]; congr 1; omega
  · rintro e w' ⟨rfl, W0, h0, ⟨h, _⟩ | ⟨k, _, h⟩⟩
    · refine ⟨rfl, h.ok, by have := h.at_; rwa [hTl] at this, h.row, (Only.below h0).trans' h.only (fun j hj hlt => ?_)⟩
      have := h0.size
      rcases hj with hj | hj | hj
      · exact .inl hj
      · exact .inr (.inl hj)
      · exact .inr (.inr (by omega))
    · exact h.elim

theorem BoxN (w : World) (cs : List Value) (e : TypeId) : Blk (w.alloc (.cells cs.toArray e)) w.heap.size e cs := Blk.new w cs e

set_option maxRecDepth 100000 in
set_option maxHeartbeats 1000000 in
theorem tells_any {F : Nat → Prop} {bq : Nat} {S : List (Int × Int)} {m : Nat} {w : World} (hQ : QAt F bq S m w) (n cl : Nat) (al : Option Addr) (hn : S.length = n) (hlen : (n : Int) ≤ 100000) (hD : D2 w al S) (hal : ∀ g, al = some ⟨g, 0, none⟩ → g < w.heap.size) :
    Calls Try.prog 21 #[.pointer (some ⟨bq, 0, none⟩), .slice al n cl] w fun e w' => e = .returned (.bool true) ∧ Below w.heap.size w w' := by
  have hl : Blk (((w.alloc (.cells #[.slice al n cl] 38)).alloc (.cells #[.int .i64 0] 3)).alloc (.cells #[.bool true] 4)) w.heap.size 38 [.slice al n cl] := ((Blk.new w [.slice al n cl] 38).alloc _).alloc _
  have hi : Blk (((w.alloc (.cells #[.slice al n cl] 38)).alloc (.cells #[.int .i64 0] 3)).alloc (.cells #[.bool true] 4)) (w.heap.size + 1) 3 [.int .i64 0] := (Blk.new' (w.alloc _) [.int .i64 0] 3 _ (by simp)).alloc _
  have ho : Blk (((w.alloc (.cells #[.slice al n cl] 38)).alloc (.cells #[.int .i64 0] 3)).alloc (.cells #[.bool true] 4)) (w.heap.size + 1 + 1) 4 [.bool true] := Blk.new' ((w.alloc _).alloc _) [.bool true] 4 _ (by simp)
  have hO : Only (fun _ => False) w (((w.alloc (.cells #[.slice al n cl] 38)).alloc (.cells #[.int .i64 0] 3)).alloc (.cells #[.bool true] 4)) := (((Only.refl _ w).alloc _).alloc _).alloc _
  have hE := each3_any (hQ.only hO (fun _ _ h => h)) (w.heap.size + 1 + 1) (w.heap.size + 1) w.heap.size n cl al hn hlen (hD.only hO (fun _ _ h => h)) ho hi hl (by omega) (by omega) (by omega) (fun g e => by have := hal g e; omega)
  have HE := Lib.hid hE
  have HO := Lib.hid hO
  clear hl hi ho hO hE hD hQ hal hn
  go_enter Try.func21, Try.ntmps21
  go_wp2_with fail
  refine HE.out.mono ?_
  rintro e w2 ⟨rfl, ho2, hi2, hl2, hO2⟩
  have hb : Below w.heap.size w w2 := (HO.out.toBelow (Nat.le_refl _) (fun _ h => h.elim)).trans (hO2.toBelow (by simp; omega) (fun j hj => by
    rcases hj with hj | hj | hj
    · omega
    · omega
    · simp at hj; omega))
  have c0 := ho2.cell 0
  have c1 := hi2.cell 0
  have c2 := hl2.cell 0
  simp only [List.getElem?_cons_zero] at c0 c1 c2
  have HB := Lib.hid hb
  clear ho2 hi2 hl2 hO2 hb HE HO
  go_wp2_with fail
  go_ret
  exact ⟨by simp, HB.out⟩

end Go.Proofs.Ytdbpcogbednokaa
