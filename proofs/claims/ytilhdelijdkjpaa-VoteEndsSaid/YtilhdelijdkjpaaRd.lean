import Derived.Test.YtilhdelijdkjpaaNw
import Derived.Test.YtilhdelijdkjpaaVKn
import Derived.Laws.BitsLemmas
set_option linter.unusedVariables false
set_option linter.unusedSimpArgs false
/-
  The reader of what lasts: take, four.
-/
namespace Go.Proofs.Ytilhdelijdkjpaa
open Go Go.RowKit Go.Maps Sac

/-- What is left to be read, and whether there wasn't enough. -/
abbrev RdS := Bs × Bool
def takeR (n : Nat) (r : RdS) : Bs × RdS := if r.1.length < n then ([], (r.1, true)) else (r.1.take n, (r.1.drop n, r.2))
def num4 (l : Bs) : Nat := l.foldl (fun n x => n * 256 + x) 0
def fourR (r : RdS) : Nat × RdS := (num4 (takeR 4 r).1, (takeR 4 r).2)

/-- A reader lies at block B. -/
def RAt (w : World) (B : Nat) (r : RdS) : Prop := ∃ v, Blk w B 126 [v, .bool r.2] ∧ RB w v r.1

theorem CoreRaw.ext6 {acc : Bs → Bool} {G : Nat × Nat → Prop} {col col' : Colour} {w w' : World} {ci b : Nat} {c : Core} {fv wi lo va : Value} {pb pp cm tn sn dc : Nat} (h : Ext G col w col' w') (ht : Tinted col w) (hg : ∀ p, p ≤ 6 → ¬ G (ci, p)) (hc : CoreRaw acc col ci w b c fv wi lo va pb pp cm tn sn dc) : CoreRaw acc col' ci w' b c fv wi lo va pb pp cm tn sn dc :=
  ⟨hc.hblk.same (h.block hc.hblk.lt (fun q e => by rw [hc.hcol] at e; cases e; exact hg 0 (by decide))), (h.old b hc.hblk.lt).trans hc.hcol, hc.hacc, hc.hwi.ext h ht, hc.hlo.ext h ht, hc.hva.ext h ht, hc.hpb.ext h ht (hg 1 (by decide)), hc.hpp.ext h ht (hg 2 (by decide)), hc.hcm.ext h ht (hg 3 (by decide)), hc.htn.ext h ht (hg 4 (by decide)), hc.hsn.ext h (hg 5 (by decide)), hc.hdc.ext h ht (hg 6 (by decide))⟩
/-- A step that writes only a coloured block of the walk's own. -/
theorem Ext.blk {col : Colour} {w w' : World} {q : Nat × Nat} {B : Nat} {e : TypeId} {cs : List Value} (ht : Tinted col w) (hB : col B = some q) (ho : Only (· = B) w w') (hb : Blk w' B e cs) (he : 5 ≠ e) : Ext (· = q) col w col w' := by
  refine ⟨fun _ _ => rfl, ho.mono (fun k e => ⟨q, e ▸ hB, rfl⟩), fun k q hk e => by have := ht.lo k q e; omega, fun k q e => Nat.lt_of_lt_of_le (ht.lo k q e) ho.size, fun k q e hE => ?_⟩
  by_cases hk : k = B
  · exact hE.ne hb he hk
  · obtain ⟨cs, fr, he⟩ := hE
    exact ht.nb k q e ⟨cs, fr, (ho.block k (ht.lo k q e) hk).symm.trans he⟩

theorem RB.slice_to {w : World} {a : Option Addr} {n cap : Nat} {bs : Bs} (h : RB w (.slice a n cap) bs) (k : Nat) (hk : k ≤ bs.length) : RB w (.slice a k cap) (bs.take k) := by
  obtain ⟨a', cap', e, h2, h3, h4, h5, h6⟩ := h
  injection e with e1 e2 e3
  subst e1 e2 e3
  refine ⟨a, cap, by rw [List.length_take, Nat.min_eq_left hk], by rw [List.length_take]; omega, h3, fun e => by rw [h4 e, List.take_nil], fun hn => ?_, fun x hx => h6 x (List.mem_of_mem_take hx)⟩
  obtain ⟨ad, e, he, hc⟩ := h5 (fun e => hn (by rw [List.map_take, e, List.take_nil]))
  refine ⟨ad, e, he, fun j u hu => hc j u ?_⟩
  rw [List.map_take] at hu
  have hl := (List.getElem?_eq_some_iff.1 hu).1
  rw [List.length_take] at hl
  rw [List.getElem?_take_of_lt (by omega)] at hu
  exact hu
theorem RB.slice_from {w : World} {ad : Addr} {n cap : Nat} {bs : Bs} (h : RB w (.slice (some ad) n cap) bs) (k : Nat) (hk : k ≤ bs.length) : RB w (.slice (some (ad.add k)) (n - k) (cap - k)) (bs.drop k) := by
  obtain ⟨a', cap', e, h2, h3, h4, h5, h6⟩ := h
  injection e with e1 e2 e3
  subst e1 e2 e3
  refine ⟨some (ad.add k), cap - k, by rw [List.length_drop], by rw [List.length_drop]; omega, by omega, (fun e => by cases e), fun hn => ?_, fun x hx => h6 x (List.mem_of_mem_drop hx)⟩
  obtain ⟨ad', e, he, hc⟩ := h5 (fun e => hn (by rw [List.map_drop, e, List.drop_nil]))
  obtain rfl := Option.some.inj e
  refine ⟨_, rfl, by rw [block_add]; exact he, fun j u hu => ?_⟩
  rw [List.map_drop, List.getElem?_drop] at hu
  rw [add_add]
  exact hc _ _ hu
theorem RB.slice_end {w : World} {a : Option Addr} {n cap : Nat} {bs : Bs} (h : RB w (.slice a n cap) bs) : RB w (.slice a 0 0) [] := by
  exact ⟨a, 0, rfl, Nat.le_refl _, by decide, fun _ => rfl, Rd.nil _ _ _, fun x hx => by cases hx⟩

set_option maxRecDepth 100000 in
set_option maxHeartbeats 2000000 in
theorem rtake_any {col : Colour} {q : Nat × Nat} {B : Nat} {w : World} (n : Nat) (r : RdS) (ht : Tinted col w) (hB : col B = some q) (h : RAt w B r) (hn : (n : Int) ≤ 4294967295) (hlen : r.1.length ≤ 1000000000000) :
    Calls Try.prog 68 #[.pointer (some ⟨B, 0, none⟩), .int .i64 (n : Int)] w fun e w' => ∃ v, e = .returned v ∧ RB w' v (takeR n r).1 ∧ RAt w' B (takeR n r).2 ∧ Ext (· = q) col w col w' := by
  obtain ⟨v, hb, hr⟩ := h
  obtain ⟨bs, bad⟩ := r
  dsimp only at hb hr hlen
  obtain ⟨a, cap, rfl, hcap, hmax, hnil, _⟩ := id hr
  obtain ⟨N, hN⟩ : ∃ N, bs.length = N := ⟨_, rfl⟩
  have c0 := hb.cell 0
  have c1 := hb.cell 1
  have f0 := hb.frozen 0
  have f1 := hb.frozen 1
  simp only [List.getElem?_cons_zero, List.getElem?_cons_succ] at c0 c1
  rw [hN] at c0 hb hr hcap
  have HT := Lib.hid ht
  have HCB := Lib.hid hB
  have HB := Lib.hid hb
  have HR := Lib.hid hr
  have HN := Lib.hid hN
  have HLEN := Lib.hid hlen
  have hnil0 := Lib.hid hnil
  clear ht hB hb hr hlen hnil hN
  have done : ∀ (W1 w2 : World) (v1 x : Value) (res rest : Bs) (bd : Bool), Only (· = B) w W1 → Blk W1 B 126 [v1, .bool bd] → Below W1.heap.size W1 w2 → RB w2 x res → ∀ y, RB w2 y rest →
      RB (w2.setCell ⟨B, 0, none⟩ y) x res ∧ RAt (w2.setCell ⟨B, 0, none⟩ y) B (rest, bd) ∧ Ext (· = q) col w col (w2.setCell ⟨B, 0, none⟩ y) := fun W1 w2 v1 x res rest bd ho hb1 hb2 hx y hy => by
    have hbw := hb1.below hb2 hb1.lt
    exact ⟨hx.boxed hbw (by decide) 0 y, ⟨y, hbw.set 0 y, hy.boxed hbw (by decide) 0 y⟩, Ext.blk HT.out HCB.out ((ho.trans' (Only.below (F := (· = B)) hb2) (fun _ h _ => h)).setCell (fun _ => rfl) y) (hbw.set 0 y) (by decide)⟩
  have DONE := Lib.hid done
  clear done
  by_cases hlt : (N : Int) < (n : Int)
  · have hd : decide ((N : Int) < (n : Int)) = true := decide_eq_true hlt
    have hr1 : RB (w.setCell ⟨B, 1, none⟩ (.bool true)) (.slice a N cap) bs := HR.out.boxed HB.out (by decide) 1 _
    have HB1 : Hid (Blk (w.setCell ⟨B, 1, none⟩ (.bool true)) B 126 [.slice a N cap, .bool true]) := HB.out.set 1 _
    have HO1 : Hid (Only (· = B) w (w.setCell ⟨B, 1, none⟩ (.bool true))) := (Only.refl (· = B) w).setCell (fun _ => rfl) _
    have HCL := Lib.hid (clone_any _ (bs.take 0) _ (hr1.slice_to 0 (Nat.zero_le _)) (by rw [List.take_zero]; exact Nat.zero_le _))
    have HR1 := Lib.hid hr1
    have HTK : Hid (takeR n (bs, bad) = ([], (bs, true))) := by
      show _ = _
      unfold takeR
      rw [if_pos (by show bs.length < n; rw [HN.out]; omega)]
    clear hr1
    go_enter Try.func68, Try.ntmps68
    go_wp2_with fail
    refine HCL.out.mono ?_
    rintro e w2 ⟨v2, rfl, hbuf, hb2⟩
    have hbw := HB1.out.below hb2 HB1.out.lt
    have g0 := hbw.cell 0
    have h0 := hbw.frozen 0
    simp only [List.getElem?_cons_zero, List.getElem?_cons_succ] at g0
    have HD := Lib.hid (DONE.out _ w2 _ v2 [] bs true HO1.out HB1.out hb2 hbuf.rb (.slice a N cap) (HR1.out.below hb2))
    clear hbuf hb2 hbw c0 c1 f0 f1
    cases a with
    | none =>
      go_wp2_with fail
      go_ret
      rw [HTK.out]
      exact ⟨_, rfl, HD.out.1, HD.out.2.1, HD.out.2.2⟩
    | some ad =>
      go_wp2_with fail
      go_ret
      rw [HTK.out]
      exact ⟨_, rfl, HD.out.1, HD.out.2.1, HD.out.2.2⟩
  · have hd : decide ((N : Int) < (n : Int)) = false := decide_eq_false hlt
    have hnN : n ≤ N := by omega
    have hncap : n ≤ cap := by omega
    have hnN2 : (n : Int) ≤ (N : Int) := by omega
    have hncap2 : (n : Int) ≤ (cap : Int) := by omega
    have hn0 : (0 : Int) ≤ (n : Int) := by omega
    have HCL := Lib.hid (clone_any _ (bs.take n) w (HR.out.slice_to n (by rw [HN.out]; exact hnN)) (by have := HN.out; have := HLEN.out; rw [List.length_take]; omega))
    have HTK : Hid (takeR n (bs, bad) = (bs.take n, (bs.drop n, bad))) := by
      show _ = _
      unfold takeR
      rw [if_neg (by show ¬ bs.length < n; rw [HN.out]; omega)]
    cases a with
    | none =>
      obtain rfl : n = 0 := by have := hnil0.out rfl; rw [this] at HN; have := HN.out; simp at this; omega
      go_enter Try.func68, Try.ntmps68
      go_wp2_with fail
      refine HCL.out.mono ?_
      rintro e w2 ⟨v2, rfl, hbuf, hb2⟩
      have hbw := HB.out.below hb2 HB.out.lt
      have g0 := hbw.cell 0
      have h0 := hbw.frozen 0
      simp only [List.getElem?_cons_zero, List.getElem?_cons_succ] at g0
      have HD := Lib.hid (DONE.out _ w2 _ v2 (bs.take 0) bs bad (Only.refl _ w) HB.out hb2 hbuf.rb (.slice none N cap) (HR.out.below hb2))
      clear hbuf hb2 hbw c0 c1 f0 f1
      go_wp2_with fail
      go_ret
      rw [HTK.out]
      exact ⟨_, rfl, HD.out.1, HD.out.2.1, HD.out.2.2⟩
    | some ad =>
      by_cases hce : cap = n
      · subst hce
        obtain rfl : N = cap := by omega
        go_enter Try.func68, Try.ntmps68
        go_wp2_with fail
        refine HCL.out.mono ?_
        rintro e w2 ⟨v2, rfl, hbuf, hb2⟩
        have hbw := HB.out.below hb2 HB.out.lt
        have g0 := hbw.cell 0
        have h0 := hbw.frozen 0
        simp only [List.getElem?_cons_zero, List.getElem?_cons_succ] at g0
        have HD := Lib.hid (DONE.out _ w2 _ v2 (bs.take N) (bs.drop N) bad (Only.refl _ w) HB.out hb2 hbuf.rb (.slice (some ad) 0 0) (by rw [List.drop_of_length_le (by rw [HN.out]; exact Nat.le_refl _)]; exact (HR.out.below hb2).slice_end))
        clear hbuf hb2 hbw c0 c1 f0 f1
        go_wp2_with fail
        go_ret
        rw [HTK.out]
        exact ⟨_, rfl, HD.out.1, HD.out.2.1, HD.out.2.2⟩
      · have hlt3 : n < cap := by omega
        go_enter Try.func68, Try.ntmps68
        go_wp2_with fail
        refine HCL.out.mono ?_
        rintro e w2 ⟨v2, rfl, hbuf, hb2⟩
        have hbw := HB.out.below hb2 HB.out.lt
        have g0 := hbw.cell 0
        have h0 := hbw.frozen 0
        simp only [List.getElem?_cons_zero, List.getElem?_cons_succ] at g0
        have HD := Lib.hid (DONE.out _ w2 _ v2 (bs.take n) (bs.drop n) bad (Only.refl _ w) HB.out hb2 hbuf.rb (.slice (some (ad.add n)) (N - n) (cap - n)) ((HR.out.below hb2).slice_from n (by rw [HN.out]; exact hnN)))
        clear hbuf hb2 hbw c0 c1 f0 f1
        go_wp2_with fail
        go_ret
        rw [HTK.out]
        exact ⟨_, rfl, HD.out.1, HD.out.2.1, HD.out.2.2⟩
end Go.Proofs.Ytilhdelijdkjpaa
/-
  The reader's four.
-/
namespace Go.Proofs.Ytilhdelijdkjpaa
open Go Go.RowKit Go.Maps Sac

theorem num4_step {l : Bs} {j : Nat} (hj : j < l.length) : num4 (l.take (j + 1)) = num4 (l.take j) * 256 + l[j] := by
  unfold num4
  rw [List.take_add_one, List.getElem?_eq_getElem hj, List.foldl_append]
  rfl
theorem num4_lt {l : Bs} (hl : ∀ x ∈ l, x < 256) : ∀ j, j ≤ l.length → num4 (l.take j) < 256 ^ j
  | 0, _ => by simp [num4]
  | j + 1, hj => by
    have ih := num4_lt hl j (by omega)
    have hx := hl l[j] (List.getElem_mem (by omega))
    rw [num4_step (by omega), Nat.pow_succ]
    omega
theorem take4_len (r : RdS) : (takeR 4 r).1.length ≤ 4 := by
  unfold takeR
  split
  · exact Nat.zero_le _
  · rw [List.length_take]; omega
theorem take4_lt {r : RdS} (h : ∀ x ∈ r.1, x < 256) : ∀ x ∈ (takeR 4 r).1, x < 256 := by
  unfold takeR
  split
  · intro x hx; cases hx
  · exact fun x hx => h x (List.mem_of_mem_take hx)
theorem fourR_lt {r : RdS} (h : ∀ x ∈ r.1, x < 256) : (fourR r).1 < 4294967296 := by
  have h1 := num4_lt (take4_lt h) (takeR 4 r).1.length (Nat.le_refl _)
  rw [List.take_length] at h1
  have h2 := take4_len r
  have h3 : 256 ^ (takeR 4 r).1.length ≤ 256 ^ 4 := Nat.pow_le_pow_right (by decide) h2
  have h4 : (256 : Nat) ^ 4 = 4294967296 := by decide
  unfold fourR
  omega
theorem or_byte (x y : Nat) (hx : x < 36028797018963968) (hy : y < 256) : bits .or .i64 ((x : Int) * 256) (y : Int) = ((x * 256 + y : Nat) : Int) := by
  have hw : ∀ n : Int, 0 ≤ n → n < 2 ^ 63 → IntKind.i64.wrap n = n := fun n h0 h1 => by rw [IntKind.wrap_i64]; omega
  rw [bits_join .i64 63 (by decide) hw 8 ((x : Int) * 256) (y : Int) (by omega) (by omega) (by omega) (by omega) (by omega) (by omega)]
  omega

set_option maxRecDepth 100000 in
set_option maxHeartbeats 2000000 in
theorem rfour_any {col : Colour} {q : Nat × Nat} {B : Nat} {w : World} (r : RdS) (ht : Tinted col w) (hB : col B = some q) (h : RAt w B r) (hlen : r.1.length ≤ 1000000000000) :
    Calls Try.prog 66 #[.pointer (some ⟨B, 0, none⟩)] w fun e w' => e = .returned (.int .i64 ((fourR r).1 : Int)) ∧ RAt w' B (fourR r).2 ∧ Ext (· = q) col w col w' := by
  have htk := rtake_any 4 r ht hB h (by decide) hlen
  have HTK : Hid (Calls Try.prog 68 #[.pointer (some ⟨B, 0, none⟩), .int .i64 4] w _) := htk
  have h256 : ∀ x ∈ (takeR 4 r).1, x < 256 := take4_lt (by obtain ⟨v, _, hr⟩ := h; exact hr.lt)
  have hl4 := take4_len r
  obtain ⟨l, hl⟩ : ∃ l, (takeR 4 r).1 = l := ⟨_, rfl⟩
  have hR : fourR r = (num4 l, (takeR 4 r).2) := by unfold fourR; rw [hl]
  rw [hl] at HTK h256 hl4
  rw [hR]
  obtain ⟨m, hm⟩ : ∃ m, l.length = m := ⟨_, rfl⟩
  have H256 := Lib.hid h256
  have HM := Lib.hid hm
  rw [hm] at hl4
  clear htk ht hB h hlen h256 hl hR hm
  go_enter Try.func66, Try.ntmps66
  go_wp2_with fail
  refine HTK.out.mono ?_
  rintro e w2 ⟨v, rfl, hrb, hra, hE⟩
  obtain ⟨a, cap, rfl, hcap, hmax, _, hrd, _⟩ := id hrb
  rw [HM.out] at hcap ⊢
  have HRD := Lib.hid hrd
  have HRA := Lib.hid hra
  have HE := Lib.hid hE
  clear hrb hrd hra hE HTK
  go_wp2_with fail
  go_loopw [3, 9] (fun t3 u wr => ∃ j : Nat, j ≤ m ∧ u = .int .i64 (j : Int) ∧ t3 = .int .i64 (num4 (l.take j) : Int) ∧ wr = w2) (fun _ u _ => m - (intOf u).toNat)
  case atStart => exact ⟨0, Nat.zero_le _, rfl, rfl, rfl⟩
  case round =>
    obtain ⟨j, hj, rfl, rfl, rfl⟩ := hrel
    by_cases hlt : (j : Int) < (m : Int)
    · obtain ⟨ad, rfl, he, hc⟩ := HRD.out.at_ (k := j) (by rw [List.length_map, HM.out]; omega)
      have hjl : j < l.length := by rw [HM.out]; omega
      obtain ⟨y, hy⟩ : ∃ y, l[j] = y := ⟨_, rfl⟩
      have hc2 : wr.cell? (ad.add j) = some (.int .u8 (y : Int)) := by rw [hc, List.getElem_map, hy]; rfl
      have hy8 : y < 256 := by rw [← hy]; exact H256.out _ (List.getElem_mem hjl)
      have hst := num4_step hjl
      rw [hy] at hst
      have hxl := num4_lt H256.out j (by omega)
      have h44 : 256 ^ j ≤ 256 ^ 4 := Nat.pow_le_pow_right (by decide) (by omega)
      have h45 : (256 : Nat) ^ 4 = 4294967296 := by decide
      obtain ⟨x, hx⟩ : ∃ x, num4 (l.take j) = x := ⟨_, rfl⟩
      rw [hx] at hst hxl ⊢
      have hx4 : x < 4294967296 := by omega
      have hor := or_byte x y (by omega) hy8
      have hsh : IntKind.i64.wrap ((x : Int) * 256) = (x : Int) * 256 := by rw [IntKind.wrap_i64]; omega
      have hcv : IntKind.i64.wrap (y : Int) = (y : Int) := by rw [IntKind.wrap_i64]; omega
      have HST := Lib.hid hst
      clear hc he hy hst hxl h44 h45 hx
      go_wp2_with fail
      refine ⟨⟨j + 1, by omega, by push_cast; rfl, ?_, trivial⟩, by simp [intOf]; omega⟩
      rw [HST.out]
      push_cast
      rfl
    · obtain rfl : j = m := by omega
      have hfin : l.take j = l := List.take_of_length_le (by rw [HM.out]; exact Nat.le_refl _)
      rw [hfin]
      clear hfin
      go_wp2_with fail
      go_ret
      exact ⟨rfl, HRA.out, HE.out⟩
end Go.Proofs.Ytilhdelijdkjpaa
/-
  The reader's votes.
-/
namespace Go.Proofs.Ytilhdelijdkjpaa
open Go Go.RowKit Go.Maps Sac

/-- A core's own votes of a kind, read. -/
def votesR (me cview : Int) : Nat → Int → RdS → List (Int × TellM) → RdS × List (Int × TellM)
  | 0, _, r, m => (r, m)
  | k + 1, last, r, m =>
    if (takeR (fourR (fourR r).2).1 (fourR (fourR r).2).2).2.2 = true ∨ ((fourR r).1 : Int) ≤ last ∨ cview < ((fourR r).1 : Int) then (((takeR (fourR (fourR r).2).1 (fourR (fourR r).2).2).2.1, true), m)
    else votesR me cview k (fourR r).1 (takeR (fourR (fourR r).2).1 (fourR (fourR r).2).2).2 ((setV m (fourR r).1 me (takeR (fourR (fourR r).2).1 (fourR (fourR r).2).2).1).getD m)

theorem takeR_len (n : Nat) (r : RdS) : (takeR n r).2.1.length ≤ r.1.length ∧ (takeR n r).1.length ≤ r.1.length := by
  unfold takeR
  split
  · exact ⟨Nat.le_refl _, Nat.zero_le _⟩
  · rw [List.length_drop, List.length_take]; omega
theorem RAt.lt {w : World} {B : Nat} {r : RdS} (h : RAt w B r) : ∀ x ∈ r.1, x < 256 := by
  obtain ⟨v, _, hr⟩ := h
  exact hr.lt
theorem ext_or {col col' : Colour} {w w' : World} {a : Nat × Nat} (b : Nat × Nat) (h : Ext (· = a) col w col' w') : Ext (fun q => q = a ∨ q = b) col w col' w' := h.mono fun _ e => .inl e
theorem RAt.ext {col col' : Colour} {w w' : World} {G : Nat × Nat → Prop} {B : Nat} {q : Nat × Nat} {r : RdS} (h : RAt w B r) (hE : Ext G col w col' w') (ht : Tinted col w) (hB : col B = some q) (hq : ¬ G q) : RAt w' B r := by
  obtain ⟨v, hb, hr⟩ := h
  exact ⟨v, hb.same (hE.block hb.lt (fun q' e => by rw [hB] at e; cases e; exact hq)), hr.ext hE ht⟩

set_option maxRecDepth 100000 in
set_option maxHeartbeats 4000000 in
theorem rvotes_any {col : Colour} {ci p : Nat} {B b ob : Nat} {w : World} {cs : List Value} {me cview : Int} {m : List (Int × TellM)} (r : RdS) (hp : p ≤ 6) (hp0 : p ≠ 0) (ht : Tinted col w) (hB : col B = some (ci, 7)) (h : RAt w B r) (hlen : r.1.length ≤ 1000000000000)
    (hb : Blk w b 110 cs) (hcb : col b = some (ci, 0)) (h1 : cs[1]? = some (.int .i64 me)) (h4 : cs[4]? = some (.int .i64 cview)) (hme : 1 ≤ me ∧ me ≤ 64) (hm : ViewsAt col ci p w ob m) (hok : MapsOk m) :
    Calls Try.prog 67 #[.pointer (some ⟨B, 0, none⟩), .pointer (some ⟨b, 0, none⟩), .map (some ob)] w fun e w' => e = .returned (.tuple #[]) ∧ ∃ col', Ext (fun q => q = (ci, 7) ∨ q = (ci, p)) col w col' w' ∧
      RAt w' B (votesR me cview (fourR r).1 (-1) (fourR r).2 m).1 ∧ ViewsAt col' ci p w' ob (votesR me cview (fourR r).1 (-1) (fourR r).2 m).2 ∧ MapsOk (votesR me cview (fourR r).1 (-1) (fourR r).2 m).2 := by
  have hfo := rfour_any r ht hB h hlen
  have hklt := fourR_lt h.lt
  have hrl := (takeR_len 4 r).1
  obtain ⟨⟨k, r1⟩, hk⟩ : ∃ x, fourR r = x := ⟨_, rfl⟩
  have hr1 : r1.1.length ≤ 1000000000000 := by
    have : r1 = (takeR 4 r).2 := by unfold fourR at hk; exact (congrArg Prod.snd hk).symm
    rw [this]; omega
  rw [hk] at hfo hklt ⊢
  dsimp only at hfo hklt hr1 ⊢
  obtain ⟨⟨rF, mF⟩, hF⟩ : ∃ x, votesR me cview k (-1) r1 m = x := ⟨_, rfl⟩
  rw [hF]
  dsimp only
  have HFO := Lib.hid hfo
  have HT := Lib.hid ht
  have HCB := Lib.hid hB
  have HBL := Lib.hid hb
  have HCC := Lib.hid hcb
  have H1 := Lib.hid h1
  have H4 := Lib.hid h4
  have HM := Lib.hid hm
  have HOK := Lib.hid hok
  have HF := Lib.hid hF
  have hne : ((ci, 0) : Nat × Nat) ≠ (ci, 7) := by simp
  have hnp : ((ci, 0) : Nat × Nat) ≠ (ci, p) := by simp; omega
  have hn7 : ((ci, p) : Nat × Nat) ≠ (ci, 7) := by simp; omega
  clear hfo ht hB h hlen hb hcb h1 h4 hm hok hk hF hrl hp0
  go_enter Try.func67, Try.ntmps67
  go_wp2_with fail
  refine HFO.out.mono ?_
  rintro e w1 ⟨rfl, hra, hE⟩
  have HV0 : Hid (ViewsAt col ci p w1 ob m) := HM.out.ext hE HT.out hn7
  have HRA := Lib.hid hra
  have HE : Hid (Ext (fun q => q = (ci, 7) ∨ q = (ci, p)) col w col w1) := ext_or (ci, p) hE
  clear hra hE HFO
  go_wp2_with fail
  go_loopw [6, 11] (fun t6 u wr => ∃ (i : Nat) (last : Int) (rr : RdS) (mm : List (Int × TellM)) (colr : Colour), i ≤ k ∧ u = .int .i64 (i : Int) ∧ t6 = .int .i64 last ∧ Hid (votesR me cview (k - i) last rr mm = (rF, mF)) ∧ Hid (rr.1.length ≤ 1000000000000) ∧ Hid (MapsOk mm) ∧ Hid (RAt wr B rr) ∧ Hid (ViewsAt colr ci p wr ob mm) ∧ Hid (Ext (fun q => q = (ci, 7) ∨ q = (ci, p)) col w colr wr)) (fun _ u _ => k - (intOf u).toNat)
  case atStart => exact ⟨0, -1, r1, m, col, Nat.zero_le _, rfl, rfl, HF, hr1, HOK, HRA, HV0, HE⟩
  case round =>
    obtain ⟨i, last, rr, mm, colr, hi, rfl, rfl, HF2, HL2, HOK2, HRA2, HV2, HE2⟩ := hrel
    clear HF HOK HRA HV0 HE hr1
    by_cases hlt : (i : Int) < (k : Int)
    · have hT2 := HE2.out.tint
      have hB2 : colr B = some (ci, 7) := (HE2.out.old B (HT.out.lo B _ HCB.out)).trans HCB.out
      have hb2 : Blk _ b _ _ := HBL.out.same (HE2.out.block HBL.out.lt (fun q e => by rw [HCC.out] at e; cases e; rintro (e | e); exact hne e; exact hnp e))
      have hcb2 : colr b = some (ci, 0) := (HE2.out.old b HBL.out.lt).trans HCC.out
      have HT2 := Lib.hid hT2
      have HB2 := Lib.hid hB2
      have HBL2 := Lib.hid hb2
      have HCB2 := Lib.hid hcb2
      have H256 := Lib.hid HRA2.out.lt
      -- the plain step
      obtain ⟨j, hj⟩ : ∃ j, k - i = j + 1 := ⟨k - i - 1, by omega⟩
      have hF3 := HF2.out
      rw [hj] at hF3
      unfold votesR at hF3
      have hfo := rfour_any rr hT2 hB2 HRA2.out HL2.out
      have hl3 : (fourR rr).2.1.length ≤ rr.1.length := (takeR_len 4 rr).1
      have hvl := fourR_lt HRA2.out.lt
      obtain ⟨⟨vw, r3⟩, h3⟩ : ∃ x, fourR rr = x := ⟨_, rfl⟩
      rw [h3] at hF3 hfo hl3 hvl
      dsimp only at hF3 hfo hl3 hvl
      have hl4 : (fourR r3).2.1.length ≤ r3.1.length := (takeR_len 4 r3).1
      obtain ⟨⟨ln, r4⟩, h4⟩ : ∃ x, fourR r3 = x := ⟨_, rfl⟩
      rw [h4] at hF3 hl4
      dsimp only at hF3 hl4
      have hl5 := takeR_len ln r4
      obtain ⟨⟨vb, r5⟩, h5⟩ : ∃ x, takeR ln r4 = x := ⟨_, rfl⟩
      rw [h5] at hF3 hl5
      dsimp only at hF3 hl5
      have HF3 := Lib.hid hF3
      have HFO := Lib.hid hfo
      have HLL : Hid (r3.1.length ≤ 1000000000000 ∧ r4.1.length ≤ 1000000000000 ∧ r5.1.length ≤ 1000000000000 ∧ vb.length ≤ 1000000000000) := by
        have := HL2.out
        exact ⟨by omega, by omega, by omega, by omega⟩
      have HH4 := Lib.hid h4
      have HH5 := Lib.hid h5
      clear hT2 hB2 hb2 hcb2 hF3 hfo hl3 hl4 hl5 h3 h4 h5 HRA2
      go_wp2_with fail
      refine HFO.out.mono ?_
      rintro e w3 ⟨rfl, hra3, hE3⟩
      have hV3 := HV2.out.ext hE3 HT2.out hn7
      have hb3 : Blk w3 b _ _ := HBL2.out.same (hE3.block HBL2.out.lt (fun q e => by rw [HCB2.out] at e; cases e; exact hne))
      have hfo4 := rfour_any r3 hE3.tint HB2.out hra3 HLL.out.1
      have hlnl := fourR_lt hra3.lt
      rw [HH4.out] at hfo4 hlnl
      dsimp only at hfo4 hlnl
      have HFO4 := Lib.hid hfo4
      have HV3 := Lib.hid hV3
      have HBL3 := Lib.hid hb3
      have HT3 := Lib.hid hE3.tint
      have HE3 : Hid (Ext (fun q => q = (ci, 7) ∨ q = (ci, p)) col w colr w3) := HE2.out.trans (ext_or (ci, p) hE3)
      clear hra3 hE3 hV3 hb3 hfo4 HFO HV2 HE2 HBL2 HT2
      go_wp2_with fail
      refine HFO4.out.mono ?_
      rintro e w4 ⟨rfl, hra4, hE4⟩
      have hV4 := HV3.out.ext hE4 HT3.out hn7
      have hb4 : Blk w4 b _ _ := HBL3.out.same (hE4.block HBL3.out.lt (fun q e => by rw [HCB2.out] at e; cases e; exact hne))
      have htk := rtake_any ln r4 hE4.tint HB2.out hra4 (by omega) HLL.out.2.1
      rw [HH5.out] at htk
      dsimp only at htk
      have HTK := Lib.hid htk
      have HV4 := Lib.hid hV4
      have HBL4 := Lib.hid hb4
      have HT4 := Lib.hid hE4.tint
      have HE4 : Hid (Ext (fun q => q = (ci, 7) ∨ q = (ci, p)) col w colr w4) := HE3.out.trans (ext_or (ci, p) hE4)
      clear hra4 hE4 hV4 hb4 htk HFO4 HV3 HE3 HBL3 HT3
      go_wp2_with fail
      refine HTK.out.mono ?_
      rintro e w5 ⟨v5, rfl, hrb5, hra5, hE5⟩
      obtain ⟨ya, yn, yc, rfl⟩ := RB.form hrb5
      have hV5 := HV4.out.ext hE5 HT4.out hn7
      have hb5 : Blk w5 b _ _ := HBL4.out.same (hE5.block HBL4.out.lt (fun q e => by rw [HCB2.out] at e; cases e; exact hne))
      obtain ⟨rbs, rbad⟩ := r5
      obtain ⟨rv, hrb, hrr⟩ := hra5
      have d1 : w5.cell? ⟨b, 1, none⟩ = some (.int .i64 me) := (hb5.cell 1).trans H1.out
      have d4 : w5.cell? ⟨b, 4, none⟩ = some (.int .i64 cview) := (hb5.cell 4).trans H4.out
      have c1 := hrb.cell 1
      have f1 := hrb.frozen 1
      simp only [List.getElem?_cons_zero, List.getElem?_cons_succ] at c1
      have HRB5 := Lib.hid hrb5
      have HRK := Lib.hid hrb
      have HRR := Lib.hid hrr
      have HV5 := Lib.hid hV5
      have HT5 := Lib.hid hE5.tint
      have HE5 : Hid (Ext (fun q => q = (ci, 7) ∨ q = (ci, p)) col w colr w5) := HE4.out.trans (ext_or (ci, p) hE5)
      clear hrb5 hrb hrr hE5 hV5 hb5 HTK HV4 HE4 HBL4 HT4
      obtain ⟨x1, hx1⟩ : ∃ x, decide ((vw : Int) ≤ last) = x := ⟨_, rfl⟩
      obtain ⟨x2, hx2⟩ : ∃ x, decide (cview < (vw : Int)) = x := ⟨_, rfl⟩
      have HBAD : Hid ((rbad || x1 || x2) = true → (rF, mF) = ((rbs, true), mm)) := fun hx => by
        have := HF3.out
        rw [if_pos] at this
        · exact this.symm
        · rw [Bool.or_eq_true, Bool.or_eq_true] at hx
          rcases hx with (hx | hx) | hx
          · exact .inl hx
          · rw [hx] at hx1; exact .inr (.inl (of_decide_eq_true hx1))
          · rw [hx] at hx2; exact .inr (.inr (of_decide_eq_true hx2))
      have stop : ∀ w6, w6 = w5.setCell ⟨B, 1, none⟩ (.bool true) → (rbad || x1 || x2) = true → ∃ col', Ext (fun q => q = (ci, 7) ∨ q = (ci, p)) col w col' w6 ∧ RAt w6 B rF ∧ ViewsAt col' ci p w6 ob mF ∧ MapsOk mF := fun w6 e6 hx => by
        have e := HBAD.out hx
        injection e with e1 e2
        subst e1 e2 e6
        have hE6 : Ext (· = (ci, 7)) colr w5 colr (w5.setCell ⟨B, 1, none⟩ (.bool true)) := Ext.blk HT5.out HB2.out ((Only.refl (· = B) w5).setCell (fun _ => rfl) _) (HRK.out.set 1 _) (by decide)
        exact ⟨colr, HE5.out.trans (ext_or (ci, p) hE6), ⟨rv, HRK.out.set 1 _, HRR.out.boxed HRK.out (by decide) 1 _⟩, HV5.out.ext hE6 HT5.out hn7, HOK2.out⟩
      have STOP := Lib.hid stop
      clear stop
      have goOn : rbad = false → x1 = false → x2 = false → votesR me cview j vw (rbs, false) ((setV mm vw me vb).getD mm) = (rF, mF) := fun e0 e1 e2 => by
        have := HF3.out
        rw [if_neg] at this
        · rw [← this, e0]
        · rw [e1] at hx1
          rw [e2] at hx2
          rintro (h | h | h)
          · rw [e0] at h; cases h
          · exact of_decide_eq_false hx1 h
          · exact of_decide_eq_false hx2 h
      have GOON := Lib.hid goOn
      have HRBB := Lib.hid (show RAt w5 B (rbs, rbad) from ⟨rv, HRK.out, HRR.out⟩)
      clear goOn HF3 HBAD HF2
      cases rbad
      case true =>
        go_wp2_with fail
        refine bodyPost_ret (results_none rfl _ _ _) rfl ?_
        exact ⟨rfl, STOP.out _ rfl rfl⟩
      case false =>
        cases x1
        case true =>
          go_wp2_with fail
          refine bodyPost_ret (results_none rfl _ _ _) rfl ?_
          exact ⟨rfl, STOP.out _ rfl rfl⟩
        case false =>
          cases x2
          case true =>
            go_wp2_with fail
            refine bodyPost_ret (results_none rfl _ _ _) rfl ?_
            exact ⟨rfl, STOP.out _ rfl rfl⟩
          case false =>
            have hset := set_any (vw : Int) me (.slice ya yn yc) vb HT5.out HV5.out HOK2.out ⟨by omega, by omega⟩ hme HRB5.out (by have := HLL.out; omega)
            have hgo := GOON.out rfl rfl rfl
            obtain ⟨o, ho⟩ : ∃ o, setV mm vw me vb = o := ⟨_, rfl⟩
            rw [ho] at hset hgo
            have hokm : MapsOk (o.getD mm) := by
              cases o with
              | none => exact HOK2.out
              | some m' =>
                obtain ⟨_, rfl⟩ := setV_some ho
                exact mapsOk_put HOK2.out ⟨by omega, by omega⟩ hme _
            have HSET := Lib.hid hset
            have HGO := Lib.hid hgo
            have HOKM := Lib.hid hokm
            clear hset hgo hokm ho GOON STOP
            go_wp2_with fail
            refine HSET.out.mono ?_
            rintro e w6 hp6
            have hx : (∃ bb, e = .returned (.bool bb)) ∧ ∃ col6, Ext (· = (ci, p)) colr w5 col6 w6 ∧ ViewsAt col6 ci p w6 ob (o.getD mm) := by
              cases o with
              | none =>
                obtain ⟨rfl, rfl⟩ := hp6
                exact ⟨⟨_, rfl⟩, colr, Ext.refl HT5.out, HV5.out⟩
              | some m' =>
                obtain ⟨rfl, col6, hE6, hV6⟩ := hp6
                exact ⟨⟨_, rfl⟩, col6, hE6, hV6⟩
            obtain ⟨⟨bb, rfl⟩, col6, hE6, hV6⟩ := hx
            have HV6 := Lib.hid hV6
            have HRA6 := Lib.hid (HRBB.out.ext hE6 HT5.out HB2.out (fun e => hn7 e.symm))
            have HE6 : Hid (Ext (fun q => q = (ci, 7) ∨ q = (ci, p)) col w col6 w6) := HE5.out.trans (hE6.mono (fun q e => .inr e))
            clear hp6 hE6 hV6 HSET d1 d4 c1 f1
            go_wp2_with fail
            exact ⟨⟨i + 1, vw, (rbs, false), o.getD mm, col6, by omega, by push_cast; rfl, rfl, by rw [show k - (i + 1) = j by omega]; exact HGO, by have := HLL.out; exact this.2.2.1, HOKM, HRA6, HV6, HE6⟩, by simp [intOf]; omega⟩
    · obtain rfl : i = k := by omega
      have hF3 := HF2.out
      rw [Nat.sub_self] at hF3
      unfold votesR at hF3
      injection hF3 with e1 e2
      have HE1 := Lib.hid e1
      have HE2' := Lib.hid e2
      clear e1 e2 HF2
      go_wp2_with fail
      go_end0
      rw [← HE1.out, ← HE2'.out]
      exact ⟨rfl, colr, HE2.out, HRA2.out, HV2.out, HOK2.out⟩
end Go.Proofs.Ytilhdelijdkjpaa
