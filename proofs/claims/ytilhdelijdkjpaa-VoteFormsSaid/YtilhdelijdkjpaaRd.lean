/-
  The reader of what lasts: take, four.
-/
import Derived.Test.YtilhdelijdkjpaaNw
import Derived.Test.YtilhdelijdkjpaaVKn
set_option linter.unusedVariables false
set_option linter.unusedSimpArgs false
namespace Go.Proofs.Ytilhdelijdkjpaa
open Go Go.RowKit Go.Maps Sac

/-- What is left to be read, and whether there wasn't enough. -/
abbrev RdS := Bs × Bool
def takeR (n : Nat) (r : RdS) : Bs × RdS := if r.1.length < n then ([], (r.1, true)) else (r.1.take n, (r.1.drop n, r.2))
def num4 (l : Bs) : Nat := l.foldl (fun n x => n * 256 + x) 0
def fourR (r : RdS) : Nat × RdS := (num4 (takeR 4 r).1, (takeR 4 r).2)

/-- A reader lies at block B. -/
def RAt (w : World) (B : Nat) (r : RdS) : Prop := ∃ v, Blk w B 126 [v, .bool r.2] ∧ RB w v r.1

theorem CoreRaw.ext6 {acc : Bs → Bool} {G : Nat × Nat → Prop} {col col' : Colour} {w w' : World} {ci b : Nat} {c : Core} {fv wi lo va : Value} {pb pp cm tn sn dc : Nat} (h : Ext G col w col' w') (ht : Tinted col w) (hg : ∀ p, p ≤ 6 → ¬ G (ci, p)) (hc : CoreRaw acc col ci w b c fv wi lo va pb pp cm tn sn dc) : CoreRaw acc col' ci w' b c fv wi lo va pb pp cm tn sn dc :=
  ⟨hc.hblk.same (h.block hc.hblk.lt (fun q e => by rw [hc.hcol] at e; cases e; exact hg 0 (by decide))), (h.old b hc.hblk.lt).trans hc.hcol, hc.hacc, hc.hwi.ext h ht, hc.hlo.ext h ht, hc.hva.ext h ht, hc.hpb.ext h ht (hg 1 (by decide)), hc.hpp.ext h ht (hg 2 (by decide)), hc.hcm.ext h ht (hg 3 (by decide)), hc.htn.ext h ht (hg 4 (by decide)), hc.hsn.ext h (hg 5 (by decide)), hc.hdc.ext h ht (hg 6 (by decide))⟩
/-- A step that writes only a coloured block of the walk's own. -/
theorem Ext.blk {col : Colour} {w w' : World} {q : Nat × Nat} {B : Nat} {e : TypeId} {cs : List Value} (ht : Tinted col w) (hB : col B = some q) (ho : Only (· = B) w w') (hb : Blk w' B e cs) (he : 5 ≠ e) : Ext (· = q) col w col w' := by
  refine ⟨fun _ _ => rfl, ho.mono (fun k e => ⟨q, e ▸ hB, rfl⟩), fun k q hk e => by have := ht.lo k q e; omega, fun k q e => Nat.lt_of_lt_of_le (ht.lo k q e) ho.size, fun k q e hE => ?_⟩
  by_cases hk : k = B
  · exact hE.ne hb he hk
  · obtain ⟨cs, fr, he⟩ := hE
    exact ht.nb k q e ⟨cs, fr, (ho.block k (ht.lo k q e) hk).symm.trans he⟩

theorem RB.slice_to {w : World} {a : Option Addr} {n cap : Nat} {bs : Bs} (h : RB w (.slice a n cap) bs) (k : Nat) (hk : k ≤ bs.length) : RB w (.slice a k cap) (bs.take k) := by
  obtain ⟨a', cap', e, h2, h3, h4, h5, h6⟩ := h
  injection e with e1 e2 e3
  subst e1 e2 e3
  refine ⟨a, cap, by rw [List.length_take, Nat.min_eq_left hk], by rw [List.length_take]; omega, h3, fun e => by rw [h4 e, List.take_nil], fun hn => ?_, fun x hx => h6 x (List.mem_of_mem_take hx)⟩
  obtain ⟨ad, e, he, hc⟩ := h5 (fun e => hn (by rw [List.map_take, e, List.take_nil]))
  refine ⟨ad, e, he, fun j u hu => hc j u ?_⟩
  rw [List.map_take] at hu
  have hl := (List.getElem?_eq_some_iff.1 hu).1
  rw [List.length_take] at hl
  rw [List.getElem?_take_of_lt (by omega)] at hu
  exact hu
theorem RB.slice_from {w : World} {ad : Addr} {n cap : Nat} {bs : Bs} (h : RB w (.slice (some ad) n cap) bs) (k : Nat) (hk : k ≤ bs.length) : RB w (.slice (some (ad.add k)) (n - k) (cap - k)) (bs.drop k) := by
  obtain ⟨a', cap', e, h2, h3, h4, h5, h6⟩ := h
  injection e with e1 e2 e3
  subst e1 e2 e3
  refine ⟨some (ad.add k), cap - k, by rw [List.length_drop], by rw [List.length_drop]; omega, by omega, (fun e => by cases e), fun hn => ?_, fun x hx => h6 x (List.mem_of_mem_drop hx)⟩
  obtain ⟨ad', e, he, hc⟩ := h5 (fun e => hn (by rw [List.map_drop, e, List.drop_nil]))
  obtain rfl := Option.some.inj e
  refine ⟨_, rfl, by rw [block_add]; exact he, fun j u hu => ?_⟩
  rw [List.map_drop, List.getElem?_drop] at hu
  rw [add_add]
  exact hc _ _ hu
theorem RB.slice_end {w : World} {a : Option Addr} {n cap : Nat} {bs : Bs} (h : RB w (.slice a n cap) bs) : RB w (.slice a 0 0) [] := by
  exact ⟨a, 0, rfl, Nat.le_refl _, by decide, fun _ => rfl, Rd.nil _ _ _, fun x hx => by cases hx⟩

set_option maxRecDepth 100000 in
set_option maxHeartbeats 2000000 in
theorem rtake_any {col : Colour} {q : Nat × Nat} {B : Nat} {w : World} (n : Nat) (r : RdS) (ht : Tinted col w) (hB : col B = some q) (h : RAt w B r) (hn : (n : Int) ≤ 4294967295) (hlen : r.1.length ≤ 1000000000000) :
    Calls Try.prog 68 #[.pointer (some ⟨B, 0, none⟩), .int .i64 (n : Int)] w fun e w' => ∃ v, e = .returned v ∧ RB w' v (takeR n r).1 ∧ RAt w' B (takeR n r).2 ∧ Ext (· = q) col w col w' := by
  obtain ⟨v, hb, hr⟩ := h
  obtain ⟨bs, bad⟩ := r
  dsimp only at hb hr hlen
  obtain ⟨a, cap, rfl, hcap, hmax, hnil, _⟩ := id hr
  obtain ⟨N, hN⟩ : ∃ N, bs.length = N := ⟨_, rfl⟩
  have c0 := hb.cell 0
  have c1 := hb.cell 1
  have f0 := hb.frozen 0
  have f1 := hb.frozen 1
  simp only [List.getElem?_cons_zero, List.getElem?_cons_succ] at c0 c1
  rw [hN] at c0 hb hr hcap
  have HT := Lib.hid ht
  have HCB := Lib.hid hB
  have HB := Lib.hid hb
  have HR := Lib.hid hr
  have HN := Lib.hid hN
  have HLEN := Lib.hid hlen
  have hnil0 := Lib.hid hnil
  clear ht hB hb hr hlen hnil hN
  have done : ∀ (W1 w2 : World) (v1 x : Value) (res rest : Bs) (bd : Bool), Only (· = B) w W1 → Blk W1 B 126 [v1, .bool bd] → Below W1.heap.size W1 w2 → RB w2 x res → ∀ y, RB w2 y rest →
      RB (w2.setCell ⟨B, 0, none⟩ y) x res ∧ RAt (w2.setCell ⟨B, 0, none⟩ y) B (rest, bd) ∧ Ext (· = q) col w col (w2.setCell ⟨B, 0, none⟩ y) := fun W1 w2 v1 x res rest bd ho hb1 hb2 hx y hy => by
    have hbw := hb1.below hb2 hb1.lt
    exact ⟨hx.boxed hbw (by decide) 0 y, ⟨y, hbw.set 0 y, hy.boxed hbw (by decide) 0 y⟩, Ext.blk HT.out HCB.out ((ho.trans' (Only.below (F := (· = B)) hb2) (fun _ h _ => h)).setCell (fun _ => rfl) y) (hbw.set 0 y) (by decide)⟩
  have DONE := Lib.hid done
  clear done
  by_cases hlt : (N : Int) < (n : Int)
  · have hd : decide ((N : Int) < (n : Int)) = true := decide_eq_true hlt
    have hr1 : RB (w.setCell ⟨B, 1, none⟩ (.bool true)) (.slice a N cap) bs := HR.out.boxed HB.out (by decide) 1 _
    have HB1 : Hid (Blk (w.setCell ⟨B, 1, none⟩ (.bool true)) B 126 [.slice a N cap, .bool true]) := HB.out.set 1 _
    have HO1 : Hid (Only (· = B) w (w.setCell ⟨B, 1, none⟩ (.bool true))) := (Only.refl (· = B) w).setCell (fun _ => rfl) _
    have HCL := Lib.hid (clone_any _ (bs.take 0) _ (hr1.slice_to 0 (Nat.zero_le _)) (by rw [List.take_zero]; exact Nat.zero_le _))
    have HR1 := Lib.hid hr1
    have HTK : Hid (takeR n (bs, bad) = ([], (bs, true))) := by
      show _ = _
      unfold takeR
      rw [if_pos (by show bs.length < n; rw [HN.out]; omega)]
    clear hr1
    go_enter Try.func68, Try.ntmps68
    go_wp2_with fail
    refine HCL.out.mono ?_
    rintro e w2 ⟨v2, rfl, hbuf, hb2⟩
    have hbw := HB1.out.below hb2 HB1.out.lt
    have g0 := hbw.cell 0
    have h0 := hbw.frozen 0
    simp only [List.getElem?_cons_zero, List.getElem?_cons_succ] at g0
    have HD := Lib.hid (DONE.out _ w2 _ v2 [] bs true HO1.out HB1.out hb2 hbuf.rb (.slice a N cap) (HR1.out.below hb2))
    clear hbuf hb2 hbw c0 c1 f0 f1
    cases a with
    | none =>
      go_wp2_with fail
      go_ret
      rw [HTK.out]
      exact ⟨_, rfl, HD.out.1, HD.out.2.1, HD.out.2.2⟩
    | some ad =>
      go_wp2_with fail
      go_ret
      rw [HTK.out]
      exact ⟨_, rfl, HD.out.1, HD.out.2.1, HD.out.2.2⟩
  · have hd : decide ((N : Int) < (n : Int)) = false := decide_eq_false hlt
    have hnN : n ≤ N := by omega
    have hncap : n ≤ cap := by omega
    have hnN2 : (n : Int) ≤ (N : Int) := by omega
    have hncap2 : (n : Int) ≤ (cap : Int) := by omega
    have hn0 : (0 : Int) ≤ (n : Int) := by omega
    have HCL := Lib.hid (clone_any _ (bs.take n) w (HR.out.slice_to n (by rw [HN.out]; exact hnN)) (by have := HN.out; have := HLEN.out; rw [List.length_take]; omega))
    have HTK : Hid (takeR n (bs, bad) = (bs.take n, (bs.drop n, bad))) := by
      show _ = _
      unfold takeR
      rw [if_neg (by show ¬ bs.length < n; rw [HN.out]; omega)]
    cases a with
    | none =>
      obtain rfl : n = 0 := by have := hnil0.out rfl; rw [this] at HN; have := HN.out; simp at this; omega
      go_enter Try.func68, Try.ntmps68
      go_wp2_with fail
      refine HCL.out.mono ?_
      rintro e w2 ⟨v2, rfl, hbuf, hb2⟩
      have hbw := HB.out.below hb2 HB.out.lt
      have g0 := hbw.cell 0
      have h0 := hbw.frozen 0
      simp only [List.getElem?_cons_zero, List.getElem?_cons_succ] at g0
      have HD := Lib.hid (DONE.out _ w2 _ v2 (bs.take 0) bs bad (Only.refl _ w) HB.out hb2 hbuf.rb (.slice none N cap) (HR.out.below hb2))
      clear hbuf hb2 hbw c0 c1 f0 f1
      go_wp2_with fail
      go_ret
      rw [HTK.out]
      exact ⟨_, rfl, HD.out.1, HD.out.2.1, HD.out.2.2⟩
    | some ad =>
      by_cases hce : cap = n
      · subst hce
        obtain rfl : N = cap := by omega
        go_enter Try.func68, Try.ntmps68
        go_wp2_with fail
        refine HCL.out.mono ?_
        rintro e w2 ⟨v2, rfl, hbuf, hb2⟩
        have hbw := HB.out.below hb2 HB.out.lt
        have g0 := hbw.cell 0
        have h0 := hbw.frozen 0
        simp only [List.getElem?_cons_zero, List.getElem?_cons_succ] at g0
        have HD := Lib.hid (DONE.out _ w2 _ v2 (bs.take N) (bs.drop N) bad (Only.refl _ w) HB.out hb2 hbuf.rb (.slice (some ad) 0 0) (by rw [List.drop_of_length_le (by rw [HN.out]; exact Nat.le_refl _)]; exact (HR.out.below hb2).slice_end))
        clear hbuf hb2 hbw c0 c1 f0 f1
        go_wp2_with fail
        go_ret
        rw [HTK.out]
        exact ⟨_, rfl, HD.out.1, HD.out.2.1, HD.out.2.2⟩
      · have hlt3 : n < cap := by omega
        go_enter Try.func68, Try.ntmps68
        go_wp2_with fail
        refine HCL.out.mono ?_
        rintro e w2 ⟨v2, rfl, hbuf, hb2⟩
        have hbw := HB.out.below hb2 HB.out.lt
        have g0 := hbw.cell 0
        have h0 := hbw.frozen 0
        simp only [List.getElem?_cons_zero, List.getElem?_cons_succ] at g0
        have HD := Lib.hid (DONE.out _ w2 _ v2 (bs.take n) (bs.drop n) bad (Only.refl _ w) HB.out hb2 hbuf.rb (.slice (some (ad.add n)) (N - n) (cap - n)) ((HR.out.below hb2).slice_from n (by rw [HN.out]; exact hnN)))
        clear hbuf hb2 hbw c0 c1 f0 f1
        go_wp2_with fail
        go_ret
        rw [HTK.out]
        exact ⟨_, rfl, HD.out.1, HD.out.2.1, HD.out.2.2⟩
end Go.Proofs.Ytilhdelijdkjpaa
