/-
  Of: a core that begins anew.
-/
import Derived.Test.YtilhdelijdkjpaaBy
import Derived.Test.YtilhdelijdkjpaaPO
set_option linter.unusedVariables false
set_option linter.unusedSimpArgs false
namespace Go.Proofs.Ytilhdelijdkjpaa
open Go Go.RowKit Go.Maps Sac

/-- A new block of a colour. -/
theorem Ext.allocCol {col : Colour} {w : World} (q : Nat × Nat) (cs : List Value) (e : TypeId) (ht : Tinted col w) (he : 5 ≠ e) : Ext (· = q) col w (fun k => if k = w.heap.size then some q else col k) (w.alloc (.cells cs.toArray e)) := by
  refine ⟨fun k hk => if_neg (by omega), (Only.refl _ w).alloc _, fun k q' hk h => ?_, ⟨fun k q' h => ?_, fun k q' h hE => ?_⟩⟩
  · split at h
    · exact (Option.some.inj h).symm
    · have := ht.lo k q' h; omega
  · split at h
    · rw [World.size_alloc]; omega
    · have := ht.lo k q' h; rw [World.size_alloc]; omega
  · split at h
    · rename_i hk
      subst hk
      exact hE.ne (Blk.new w cs e) he rfl
    · obtain ⟨cs', fr, hh⟩ := hE
      exact ht.nb k q' h ⟨cs', fr, (Below.heap_alloc w _ k (ht.lo k q' h)).symm.trans hh⟩

section
variable {acc : Bs → Bool} {G : Nat × Nat → Prop} {col col' : Colour} {w w' : World} {ci b : Nat} {c : Core} {fv wi lo va : Value} {pb pp cm tn sn dc : Nat}
theorem CoreRaw.set2 {m' : List (Int × TellM)} (h : Ext (fun q => q = (ci, 7) ∨ q = (ci, 2)) col w col' w') (ht : Tinted col w) (hc : CoreRaw acc col ci w b c fv wi lo va pb pp cm tn sn dc) (hm : ViewsAt col' ci 2 w' pp m') : CoreRaw acc col' ci w' b { c with prepares := m' } fv wi lo va pb pp cm tn sn dc :=
  ⟨hc.hblk.same (h.block hc.hblk.lt (fun q e => by rw [hc.hcol] at e; cases e; simp)), (h.old b hc.hblk.lt).trans hc.hcol, hc.hacc, hc.hwi.ext h ht, hc.hlo.ext h ht, hc.hva.ext h ht, hc.hpb.ext h ht (by simp), hm, hc.hcm.ext h ht (by simp), hc.htn.ext h ht (by simp), hc.hsn.ext h (by simp), hc.hdc.ext h ht (by simp)⟩
theorem CoreRaw.set3 {m' : List (Int × TellM)} (h : Ext (fun q => q = (ci, 7) ∨ q = (ci, 3)) col w col' w') (ht : Tinted col w) (hc : CoreRaw acc col ci w b c fv wi lo va pb pp cm tn sn dc) (hm : ViewsAt col' ci 3 w' cm m') : CoreRaw acc col' ci w' b { c with commits := m' } fv wi lo va pb pp cm tn sn dc :=
  ⟨hc.hblk.same (h.block hc.hblk.lt (fun q e => by rw [hc.hcol] at e; cases e; simp)), (h.old b hc.hblk.lt).trans hc.hcol, hc.hacc, hc.hwi.ext h ht, hc.hlo.ext h ht, hc.hva.ext h ht, hc.hpb.ext h ht (by simp), hc.hpp.ext h ht (by simp), hm, hc.htn.ext h ht (by simp), hc.hsn.ext h (by simp), hc.hdc.ext h ht (by simp)⟩
end

theorem TMap.look1 {w : World} {mv : Value} {t : TellM} (h : TMap w mv t) {who : Int} (hw : (Lit.int .i64 who).wf = true) :
    ∃ v, (Instr.lookup 108 mv (.int .i64 who) false).run Try.prog w = .ok v w ∧ RB w v ((lookM t who).getD []) := by
  rcases h with ⟨rfl, rfl⟩ | ⟨ib, l, rfl, hm, hr⟩
  · exact ⟨_, nomap1 who w hw, RB.nil w⟩
  · have l2 := hm.lookOne Try.underlying3 Try.underlying108 (Try.zeroValue29 w) hw
    rcases hr.lookM who with ⟨h1, h2⟩ | ⟨x, y, h1, h2, h3⟩
    · rw [h1] at l2
      rw [h2]
      exact ⟨_, l2, RB.nil w⟩
    · rw [h1] at l2
      rw [h2]
      exact ⟨_, l2, h3⟩
theorem lastC_step {me : Int} {m : List (Int × TellM)} {j : Nat} (hj : j < m.length) : lastC me (m.take (j + 1)) = ((m.getD j default).1, (lookM (m.getD j default).2 me).getD []) := by
  have e : m.take (j + 1) = m.take j ++ [m[j]] := by rw [List.take_add_one, List.getElem?_eq_getElem hj]; rfl
  unfold lastC
  rw [e, List.getLast?_concat, List.getD_eq_getElem?_getD, List.getElem?_eq_getElem hj]
  rfl
theorem votesR_le (me cv : Int) : ∀ (k : Nat) (last : Int) (r : RdS) (m : List (Int × TellM)), (votesR me cv k last r m).1.1.length ≤ r.1.length
  | 0, _, _, _ => Nat.le_refl _
  | k + 1, last, r, m => by
    have l1 := (takeR_len 4 r).1
    have l2 := (takeR_len 4 (fourR r).2).1
    have l3 := (takeR_len (fourR (fourR r).2).1 (fourR (fourR r).2).2).1
    have e1 : (fourR r).2.1.length = (takeR 4 r).2.1.length := rfl
    have e2 : (fourR (fourR r).2).2.1.length = (takeR 4 (fourR r).2).2.1.length := rfl
    unfold votesR
    split
    · show (takeR (fourR (fourR r).2).1 (fourR (fourR r).2).2).2.1.length ≤ _
      omega
    · have := votesR_le me cv k (fourR r).1 (takeR (fourR (fourR r).2).1 (fourR (fourR r).2).2).2 ((setV m (fourR r).1 me (takeR (fourR (fourR r).2).1 (fourR (fourR r).2).2).1).getD m)
      omega

theorem votesR_sub (me cv : Int) : ∀ (k : Nat) (last : Int) (r : RdS) (m : List (Int × TellM)), (∀ x ∈ r.1, x < 256) → ∀ {r' m'}, votesR me cv k last r m = (r', m') → ∀ x ∈ r'.1, x < 256
  | 0, _, r, _, h, r', m', e => by
    unfold votesR at e
    injection e with e1 e2
    rw [← e1]; exact h
  | k + 1, last, r, m, h, r', m', e => by
    have sub : ∀ (j : Nat) (r : RdS), (∀ x ∈ r.1, x < 256) → ∀ x ∈ (takeR j r).2.1, x < 256 := fun j r hr => by
      unfold takeR
      split
      · exact hr
      · exact fun x hx => hr x (List.mem_of_mem_drop hx)
    have h3 := sub (fourR (fourR r).2).1 (fourR (fourR r).2).2 (sub 4 (fourR r).2 (sub 4 r h))
    unfold votesR at e
    split at e
    · injection e with e1 e2
      rw [← e1]; exact h3
    · exact votesR_sub me cv k _ _ _ h3 e

/-- The core that is read can be written again. -/
theorem byok_read {n me slot : Int} {bs : Bs} {view k2 k3 ln : Nat} {r1 r2 r3 r4 r5 r6 r7 r8 : RdS} {m2 m3 : List (Int × TellM)} {kind value : Bs} (d : Bool) (hlen : bs.length ≤ 30000000000) (h256 : ∀ x ∈ bs, x < 256) (hme : 1 ≤ me ∧ me ≤ 64)
    (h1 : fourR (bs, false) = (view, r1)) (h2 : fourR r1 = (k2, r2)) (h3 : votesR me view k2 (-1) r2 [] = (r3, m2)) (h4 : fourR r3 = (k3, r4)) (h5 : votesR me view k3 (-1) r4 [] = (r5, m3)) (h6 : takeR 1 r5 = (kind, r6)) (h7 : fourR r6 = (ln, r7)) (h8 : takeR ln r7 = (value, r8))
    (hbad : r8.2 = false) (ok2 : MapsOk m2) (ok3 : MapsOk m3) (hr2 : ∀ x ∈ r2.1, x < 256) (hr4 : ∀ x ∈ r4.1, x < 256) (hr6 : ∀ x ∈ r6.1, x < 256) : ByOk (readC n me slot view m2 m3 d value) := by
  have a8 := takeR_acc (n := ln) (r := r7) (by rw [h8]; exact hbad)
  rw [h8] at a8
  have a7 := fourR_acc (r := r6) (by rw [h7]; exact a8.1)
  rw [h7] at a7
  have a6 := takeR_acc (n := 1) (r := r5) (by rw [h6]; exact a7.1)
  rw [h6] at a6
  have a5 := votesR_acc me view k3 (-1) r4 [] (by rw [h5]; exact a6.1)
  rw [h5] at a5
  have a4 := fourR_acc (r := r3) (by rw [h4]; exact a5.1)
  rw [h4] at a4
  have a3 := votesR_acc me view k2 (-1) r2 [] (by rw [h3]; exact a4.1)
  rw [h3] at a3
  have a2 := fourR_acc (r := r1) (by rw [h2]; exact a3.1)
  rw [h2] at a2
  have a1 := fourR_acc (r := (bs, false)) (by rw [h1]; exact a2.1)
  rw [h1] at a1
  have hv := fourR_lt (r := (bs, false)) h256
  rw [h1] at hv
  have l2 := votesR_lens me view k2 (-1) r2 [] hr2 (fun q hq => by cases hq)
  have l3 := votesR_lens me view k3 (-1) r4 [] hr4 (fun q hq => by cases hq)
  rw [h3] at l2
  rw [h5] at l3
  have hln := fourR_lt (r := r6) hr6
  rw [h7] at hln
  dsimp only at a1 a2 a3 a4 a5 a6 a7 a8 hv l2 l3 hln
  refine ⟨⟨by show (0 : Int) ≤ (view : Int); omega, by show (view : Int) ≤ 4294967295; omega⟩, hme, ok2, ok3, l2, l3, by show value.length ≤ 4294967295; omega, ?_⟩
  have e2 := mine_tot (readC n me slot view m2 m3 d value) 2 m2
  have e3 := mine_tot (readC n me slot view m2 m3 d value) 3 m3
  unfold bytesC
  rw [votesB_eq, votesB_eq]
  show (_ ++ (four (mine (readC n me slot view m2 m3 d value) 2 m2).length ++ _) ++ (four (mine (readC n me slot view m2 m3 d value) 3 m3).length ++ _) ++ (if d then 1 :: four value.length ++ value else 0 :: four 0)).length ≤ _
  simp only [List.length_append, four_len]
  have e4 : (if d then 1 :: four value.length ++ value else 0 :: four 0).length ≤ 5 + value.length := by
    cases d
    · simp [four_len]
    · simp [four_len]; omega
  have t0 : ∀ m, tot (readC n me slot view m2 m3 d value).me m = tot me m := fun _ => rfl
  have z0 : tot me [] = 0 := rfl
  rw [t0] at e2 e3
  rw [show (readC n me slot view m2 m3 d value).prepares = m2 from rfl, show (readC n me slot view m2 m3 d value).commits = m3 from rfl, e2, e3]
  omega

/-- What Of hands back. -/
def OfPost (acc : Bs → Bool) (o : Option Core) (col : Colour) (ci : Nat) (w : World) (e : Ending) (w' : World) : Prop :=
  match o with
  | none => e = .returned (.tuple #[.pointer none, .int .i64 3]) ∧ ∃ col', Ext (fun q => q.1 = ci) col w col' w'
  | some c => ∃ b col', e = .returned (.tuple #[.pointer (some ⟨b, 0, none⟩), .int .i64 0]) ∧ w.heap.size ≤ b ∧ Ext (fun q => q.1 = ci) col w col' w' ∧ CoreAt acc col' ci w' b c

set_option maxRecDepth 100000 in
set_option maxHeartbeats 8000000 in
theorem of_any {acc : Bs → Bool} {col : Colour} (ci : Nat) {w : World} {n me slot : Int} {fv : Value} (v : Value) (bs : Bs) (ht : Tinted col w) (ha : AccAt fv acc) (hn : 4 ≤ n ∧ n ≤ 64) (hm : 1 ≤ me ∧ me ≤ n) (hs : 0 ≤ slot ∧ slot ≤ 256) (hb : RB w v bs) (hlen : bs.length ≤ 30000000000) :
    Calls Try.prog 25 #[.int .i64 n, .int .i64 me, .int .i64 slot, fv, v] w (OfPost acc (ofC n me slot bs) col ci w) := by
  have hnew := new_any ci ht ha hn hm hs
  obtain ⟨⟨f, rfl, hf1, hf2⟩⟩ := id ha
  obtain ⟨va, vn, vc, rfl⟩ := RB.form hb
  have HNEW := Lib.hid hnew
  have HA := Lib.hid ha
  have HN := Lib.hid hn
  have HM := Lib.hid hm
  have HB := Lib.hid hb
  have HLEN := Lib.hid hlen
  have HT := Lib.hid ht
  -- the stages, plainly
  obtain ⟨O, hO⟩ : ∃ O, ofC n me slot bs = O := ⟨_, rfl⟩
  rw [hO]
  unfold ofC parseC at hO
  obtain ⟨⟨view, r1⟩, h1⟩ : ∃ x, fourR (bs, false) = x := ⟨_, rfl⟩
  rw [h1] at hO
  obtain ⟨⟨k2, r2⟩, h2⟩ : ∃ x, fourR r1 = x := ⟨_, rfl⟩
  simp only [h2] at hO
  obtain ⟨⟨r3, m2⟩, h3⟩ : ∃ x, votesR me view k2 (-1) r2 [] = x := ⟨_, rfl⟩
  simp only [h3] at hO
  obtain ⟨⟨k3, r4⟩, h4⟩ : ∃ x, fourR r3 = x := ⟨_, rfl⟩
  simp only [h4] at hO
  obtain ⟨⟨r5, m3⟩, h5⟩ : ∃ x, votesR me view k3 (-1) r4 [] = x := ⟨_, rfl⟩
  simp only [h5] at hO
  obtain ⟨⟨kind, r6⟩, h6⟩ : ∃ x, takeR 1 r5 = x := ⟨_, rfl⟩
  simp only [h6] at hO
  obtain ⟨⟨ln, r7⟩, h7⟩ : ∃ x, fourR r6 = x := ⟨_, rfl⟩
  simp only [h7] at hO
  obtain ⟨⟨value, r8⟩, h8⟩ : ∃ x, takeR ln r7 = x := ⟨_, rfl⟩
  simp only [h8] at hO
  have q1 := (takeR_len 4 (bs, false)).1
  rw [show (takeR 4 (bs, false)).2 = (fourR (bs, false)).2 from rfl, h1] at q1
  have q2 := (takeR_len 4 r1).1
  rw [show (takeR 4 r1).2 = (fourR r1).2 from rfl, h2] at q2
  have q3 := votesR_le me view k2 (-1) r2 []
  rw [h3] at q3
  have q4 := (takeR_len 4 r3).1
  rw [show (takeR 4 r3).2 = (fourR r3).2 from rfl, h4] at q4
  have q5 := votesR_le me view k3 (-1) r4 []
  rw [h5] at q5
  have q6 := (takeR_len 1 r5).1
  rw [h6] at q6
  have q7 := (takeR_len 4 r6).1
  rw [show (takeR 4 r6).2 = (fourR r6).2 from rfl, h7] at q7
  dsimp only at q1 q2 q3 q4 q5 q6 q7
  have HQ : Hid (bs.length ≤ 1000000000000 ∧ r1.1.length ≤ 1000000000000 ∧ r3.1.length ≤ 1000000000000 ∧ r5.1.length ≤ 1000000000000 ∧ r6.1.length ≤ 1000000000000 ∧ r7.1.length ≤ 1000000000000) := ⟨by omega, by omega, by omega, by omega, by omega, by omega⟩
  clear q1 q2 q3 q4 q5 q6 q7
  have HO := Lib.hid hO
  have H1 := Lib.hid h1
  have H2 := Lib.hid h2
  have H3 := Lib.hid h3
  have H4 := Lib.hid h4
  have H5 := Lib.hid h5
  have H6 := Lib.hid h6
  have H7 := Lib.hid h7
  have H8 := Lib.hid h8
  clear hnew ha hn hm hb hlen ht hf1 hf2 hO h1 h2 h3 h4 h5 h6 h7 h8
  go_enter Try.func25, Try.ntmps25
  go_wp2_with fail
  refine HNEW.out.mono ?_
  rintro e w1 ⟨b, col1, rfl, hbs, hE1, hC1⟩
  have hb1 := HB.out.ext hE1 HT.out
  have HE1 := Lib.hid hE1
  have HBS := Lib.hid hbs
  have hT1 := hE1.tint
  -- the reader
  obtain ⟨R, hR⟩ : ∃ R, w1.heap.size = R := ⟨_, rfl⟩
  obtain ⟨w2, hw2⟩ : ∃ w2, w1.alloc (.cells #[.slice va vn vc, .bool false] 126) = w2 := ⟨_, rfl⟩
  have hE2 : Ext (· = (ci, 7)) col1 w1 (fun k => if k = w1.heap.size then some (ci, 7) else col1 k) w2 := by rw [← hw2]; exact Ext.allocCol (ci, 7) [.slice va vn vc, .bool false] _ hT1 (by decide)
  obtain ⟨col2, hc2⟩ : ∃ col2 : Colour, (fun k => if k = w1.heap.size then some (ci, 7) else col1 k) = col2 := ⟨_, rfl⟩
  rw [hc2] at hE2
  have hR2 : col2 R = some (ci, 7) := by rw [← hc2, ← hR]; exact if_pos rfl
  have hra : RAt w2 R (bs, false) := ⟨_, by rw [← hw2, ← hR]; exact Blk.new w1 [.slice va vn vc, .bool false] _, hb1.ext hE2 hT1⟩
  obtain ⟨fv, wi, lo, vv, pb, pp, cm, tn, sn, dc, hC1⟩ := hC1
  have hC2 := hC1.ext6 hE2 hT1 (fun p hp => by simp; omega)
  have HE2 : Hid (Ext (fun q => q.1 = ci) col w col2 w2) := hE1.trans (hE2.mono (fun q e => by rw [e]))
  have HR2 := Lib.hid hR2
  have HFO := Lib.hid (rfour_any (bs, false) hE2.tint hR2 hra HQ.out.1)
  rw [H1.out] at HFO
  have HT2 := Lib.hid hE2.tint
  have HC2 := Lib.hid hC2
  have HB2 := Lib.hid (hb1.ext hE2 hT1)
  clear hc2 hra hE1 hE2 hT1 hC1 hC2 hb1 hR2 hbs HNEW
  go_wp2_with fail
  refine HFO.out.mono ?_
  rintro e w3 ⟨rfl, hra3, hE3⟩
  have hC3 := HC2.out.ext6 hE3 HT2.out (fun p hp => by simp; omega)
  have f4 := hC3.hblk.frozen 4
  have d4 := hC3.hblk.cell 4
  simp only [List.getElem?_cons_zero, List.getElem?_cons_succ] at d4
  obtain ⟨w4, hw4⟩ : ∃ w4, w3.setCell ⟨b, 4, none⟩ (.int .i64 (view : Int)) = w4 := ⟨_, rfl⟩
  have hbs4 := hC3.hblk.set 4 (.int .i64 (view : Int))
  rw [hw4] at hbs4
  have hO4 : Only (· = b) w3 w4 := by rw [← hw4]; exact (Only.refl (· = b) w3).setCell (fun _ => rfl) _
  have hE4 := Ext.own hE3.tint hC3 hO4 ⟨_, hbs4⟩
  have hC4 : CoreRaw acc col2 ci w4 b { newCore n me slot with view := (view : Int) } fv wi lo vv pb pp cm tn sn dc := hC3.own hE4 hE3.tint hbs4 (hC3.hwi.ext hE4 hE3.tint) (hC3.hlo.ext hE4 hE3.tint) (hC3.hva.ext hE4 hE3.tint) rfl rfl rfl rfl rfl rfl
  have hra4 : RAt w4 R r1 := hra3.ext hE4 hE3.tint HR2.out (by simp)
  have d8 := hC4.hblk.cell 8
  simp only [List.getElem?_cons_zero, List.getElem?_cons_succ] at d8
  have HE4 : Hid (Ext (fun q => q.1 = ci) col w col2 w4) := (HE2.out.trans (hE3.mono (fun q e => by rw [e]))).trans (hE4.mono (fun q e => by rw [e]))
  have HB4 := Lib.hid ((HB2.out.ext hE3 HT2.out).ext hE4 hE3.tint)
  have hmm : 1 ≤ me ∧ me ≤ 64 := by have := HN.out; have := HM.out; omega
  have hvo := rvotes_any (ci := ci) (p := 2) (cview := (view : Int)) (me := me) r1 (by decide) (by decide) hE4.tint HR2.out hra4 HQ.out.2.1 hC4.hblk hC4.hcol rfl rfl hmm hC4.hpp (fun q hq => by cases hq)
  rw [H2.out] at hvo
  dsimp only at hvo
  rw [show (newCore n me slot).prepares = [] from rfl, H3.out] at hvo
  dsimp only at hvo
  have HVO := Lib.hid hvo
  have HT4 := Lib.hid hE4.tint
  have HC4 := Lib.hid hC4
  have HMM := Lib.hid hmm
  clear hra3 hE3 hC3 hbs4 hO4 hE4 hC4 hra4 hvo HFO HT2 HC2 HB2 HE2 hmm
  go_wp2_with fail
  refine HVO.out.mono ?_
  rintro e w5 ⟨rfl, col5, hE5, hra5, hV5, hok5⟩
  have hC5 := HC4.out.set2 hE5 HT4.out hV5
  have d9 := hC5.hblk.cell 9
  simp only [List.getElem?_cons_zero, List.getElem?_cons_succ] at d9
  have hR5 : col5 R = some (ci, 7) := (hE5.old R (HT4.out.lo R _ HR2.out)).trans HR2.out
  have hvo := rvotes_any (ci := ci) (p := 3) (cview := (view : Int)) (me := me) r3 (by decide) (by decide) hE5.tint hR5 hra5 HQ.out.2.2.1 hC5.hblk hC5.hcol rfl rfl HMM.out hC5.hcm (fun q hq => by cases hq)
  rw [H4.out] at hvo
  dsimp only at hvo
  rw [show (newCore n me slot).commits = [] from rfl, H5.out] at hvo
  dsimp only at hvo
  have HVO3 := Lib.hid hvo
  have HE5 : Hid (Ext (fun q => q.1 = ci) col w col5 w5) := HE4.out.trans (hE5.mono (fun q e => by rcases e with rfl | rfl <;> rfl))
  have HB5 := Lib.hid (HB4.out.ext hE5 HT4.out)
  have HT5 := Lib.hid hE5.tint
  have HC5 := Lib.hid hC5
  have HR5 := Lib.hid hR5
  have HOK2 := Lib.hid hok5
  clear d8 d4 f4 hE5 hra5 hV5 hok5 hC5 hR5 hvo HVO HT4 HC4 HB4 HE4
  go_wp2_with fail
  refine HVO3.out.mono ?_
  rintro e w6 ⟨rfl, col6, hE6, hra6, hV6, hok6⟩
  have hC6 := HC5.out.set3 hE6 HT5.out hV6
  have hR6 : col6 R = some (ci, 7) := (hE6.old R (HT5.out.lo R _ HR5.out)).trans HR5.out
  have htk : Calls Try.prog 68 #[.pointer (some ⟨R, 0, none⟩), .int .i64 1] w6 _ := rtake_any 1 r5 hE6.tint hR6 hra6 (by decide) HQ.out.2.2.2.1
  rw [H6.out] at htk
  dsimp only at htk
  have HTK := Lib.hid htk
  have HE6 : Hid (Ext (fun q => q.1 = ci) col w col6 w6) := HE5.out.trans (hE6.mono (fun q e => by rcases e with rfl | rfl <;> rfl))
  have HB6 := Lib.hid (HB5.out.ext hE6 HT5.out)
  have HT6 := Lib.hid hE6.tint
  have HC6 := Lib.hid hC6
  have HR6 := Lib.hid hR6
  have HOK3 := Lib.hid hok6
  clear d9 hE6 hra6 hV6 hok6 hC6 hR6 htk HVO3 HT5 HC5 HB5 HE5 HR5
  go_wp2_with fail
  refine HTK.out.mono ?_
  rintro e w7 ⟨kv, rfl, hkb, hra7, hE7⟩
  obtain ⟨ka, kc, rfl, _⟩ := id hkb
  obtain ⟨kn, hkn⟩ : ∃ kn, kind.length = kn := ⟨_, rfl⟩
  rw [hkn] at hkb ⊢
  have hC7 := HC6.out.ext6 hE7 HT6.out (fun p hp => by simp; omega)
  have hfo := rfour_any r6 hE7.tint HR6.out hra7 HQ.out.2.2.2.2.1
  rw [H7.out] at hfo
  dsimp only at hfo
  have hln := fourR_lt hra7.lt
  rw [H7.out] at hln
  dsimp only at hln
  have HFO := Lib.hid hfo
  have H256 := Lib.hid hra7.lt
  have HE7 : Hid (Ext (fun q => q.1 = ci) col w col6 w7) := HE6.out.trans (hE7.mono (fun q e => by rw [e]))
  have HB7 := Lib.hid (HB6.out.ext hE7 HT6.out)
  have HT7 := Lib.hid hE7.tint
  have HC7 := Lib.hid hC7
  have HKB := Lib.hid hkb
  have HKN := Lib.hid hkn
  clear hE7 hra7 hC7 hkb hkn hfo HTK HT6 HC6 HB6 HE6
  go_wp2_with fail
  refine HFO.out.mono ?_
  rintro e w8 ⟨rfl, hra8, hE8⟩
  have hC8 := HC7.out.ext6 hE8 HT7.out (fun p hp => by simp; omega)
  have htk := rtake_any ln r7 hE8.tint HR6.out hra8 (by omega) HQ.out.2.2.2.2.2
  rw [H8.out] at htk
  dsimp only at htk
  have HTK := Lib.hid htk
  have HE8 : Hid (Ext (fun q => q.1 = ci) col w col6 w8) := HE7.out.trans (hE8.mono (fun q e => by rw [e]))
  have HB8 := Lib.hid (HB7.out.ext hE8 HT7.out)
  have HKB8 := Lib.hid (HKB.out.ext hE8 HT7.out)
  have HT8 := Lib.hid hE8.tint
  have HC8 := Lib.hid hC8
  clear hE8 hra8 hC8 htk HFO HT7 HC7 HB7 HE7 HKB
  go_wp2_with fail
  refine HTK.out.mono ?_
  rintro e w9 ⟨xv, rfl, hxb, hra9, hE9⟩
  obtain ⟨xa, xn, xc, rfl⟩ := RB.form hxb
  have hC9 := HC8.out.ext6 hE9 HT8.out (fun p hp => by simp; omega)
  have f16 := hC9.hblk.frozen 16
  have d16 := hC9.hblk.cell 16
  simp only [List.getElem?_cons_zero, List.getElem?_cons_succ] at d16
  obtain ⟨vv1, vv2, vv3, rfl⟩ := RB.form hC9.hva
  obtain ⟨wA, hwA⟩ : ∃ wA, w9.setCell ⟨b, 16, none⟩ (.slice xa xn xc) = wA := ⟨_, rfl⟩
  have hbsA := hC9.hblk.set 16 (.slice xa xn xc)
  rw [hwA] at hbsA
  have hOA : Only (· = b) w9 wA := by rw [← hwA]; exact (Only.refl (· = b) w9).setCell (fun _ => rfl) _
  have hEA := Ext.own hE9.tint hC9 hOA ⟨_, hbsA⟩
  have hCA : CoreRaw acc col6 ci wA b { newCore n me slot with view := (view : Int), prepares := m2, commits := m3, value := value } fv wi lo (.slice xa xn xc) pb pp cm tn sn dc := hC9.own hEA hE9.tint hbsA (hC9.hwi.ext hEA hE9.tint) (hC9.hlo.ext hEA hE9.tint) (hxb.ext hEA hE9.tint) rfl rfl rfl rfl rfl rfl
  have hraA : RAt wA R r8 := hra9.ext hEA hE9.tint HR6.out (by simp)
  have HEA : Hid (Ext (fun q => q.1 = ci) col w col6 wA) := (HE8.out.trans (hE9.mono (fun q e => by rw [e]))).trans (hEA.mono (fun q e => by rw [e]))
  have HBA := Lib.hid ((HB8.out.ext hE9 HT8.out).ext hEA hE9.tint)
  have HKBA := Lib.hid ((HKB8.out.ext hE9 HT8.out).ext hEA hE9.tint)
  have HTA := Lib.hid hEA.tint
  have HCA := Lib.hid hCA
  obtain ⟨rbs, rbad⟩ := r8
  obtain ⟨rv, hrk, hrr⟩ := hraA
  have c1 := hrk.cell 1
  have e4 := hCA.hblk.cell 4
  simp only [List.getElem?_cons_zero, List.getElem?_cons_succ] at c1 e4
  clear hxb hra9 hE9 hC9 hbsA hOA hEA hCA hrk hrr HTK HT8 HC8 HB8 HE8 HKB8
  -- the check
  obtain ⟨x2, hx2⟩ : ∃ x, decide (1048576 < (view : Int)) = x := ⟨_, rfl⟩
  have REF : Hid ((rbad = true ∨ x2 = true ∨ kn ≠ 1 ∨ 1 < kind.headD 0) → O = none) := fun hx => by
    have := HO.out
    rw [if_pos] at this
    · exact this.symm
    · rcases hx with h | h | h | h
      · exact .inl h
      · rw [h] at hx2; exact .inr (.inl (of_decide_eq_true hx2))
      · exact .inr (.inr (.inl (by rw [HKN.out]; exact h)))
      · exact .inr (.inr (.inr h))
  cases rbad
  case true =>
    have hon : O = none := REF.out (.inl rfl)
    subst hon
    go_wp2_with fail
    go_ret2
    exact ⟨rfl, col6, HEA.out⟩
  case false =>
    cases x2
    case true =>
      have hon : O = none := REF.out (.inr (.inl rfl))
      subst hon
      go_wp2_with fail
      go_ret2
      exact ⟨rfl, col6, HEA.out⟩
    case false =>
      by_cases hk1 : kn = 1
      case neg =>
        have hne : ((kn : Int) != 1) = true := by simp; omega
        have hon : O = none := REF.out (.inr (.inr (.inl hk1)))
        subst hon
        go_wp2_with fail
        go_ret2
        exact ⟨rfl, col6, HEA.out⟩
      case pos =>
        subst hk1
        obtain ⟨kb, hkb⟩ : ∃ kb, kind = [kb] := by
          have := HKN.out
          match kind, this with
          | [kb], _ => exact ⟨kb, rfl⟩
        subst hkb
        have hkb8 : kb < 256 := HKBA.out.lt kb List.mem_cons_self
        obtain ⟨ad, hka, hkc⟩ : ∃ ad, ka = some ad ∧ wA.cell? (ad.add 0) = some (.int .u8 (kb : Int)) := by
          obtain ⟨a', cap', e, _, _, _, hrd, _⟩ := HKBA.out
          injection e with e1 _ _
          obtain ⟨ad, e2, _, hc⟩ := hrd.at_ (k := 0) (by simp)
          exact ⟨ad, e1.trans e2, hc⟩
        subst hka
        rw [show ad.add 0 = ad from rfl] at hkc
        have hkcap : (1 : Int) ≤ (kc : Int) := by
          obtain ⟨a', cap', e, h1, _⟩ := HKBA.out
          injection e with _ _ e3
          have : [kb].length = 1 := rfl
          omega
        by_cases hk2 : (1 : Int) < (kb : Int)
        · have hd : decide ((1 : Int) < (kb : Int)) = true := decide_eq_true hk2
          have hon : O = none := REF.out (.inr (.inr (.inr (by show 1 < kb; omega))))
          subst hon
          go_wp2_with fail
          go_ret2
          exact ⟨rfl, col6, HEA.out⟩
        · have hd : decide ((1 : Int) < (kb : Int)) = false := decide_eq_false hk2
          obtain ⟨dv, hdv⟩ : ∃ dv, (kb == 1) = dv := ⟨_, rfl⟩
          have hdi : ((kb : Int) == 1) = dv := by rw [← hdv, Bool.eq_iff_iff, beq_iff_eq, beq_iff_eq]; omega
          have f15 := HCA.out.hblk.frozen 15
          have d15 := HCA.out.hblk.cell 15
          simp only [List.getElem?_cons_zero, List.getElem?_cons_succ] at d15
          obtain ⟨wB, hwB⟩ : ∃ wB, wA.setCell ⟨b, 15, none⟩ (.bool dv) = wB := ⟨_, rfl⟩
          have hbsB := HCA.out.hblk.set 15 (.bool dv)
          rw [hwB] at hbsB
          have hOB : Only (· = b) wA wB := by rw [← hwB]; exact (Only.refl (· = b) wA).setCell (fun _ => rfl) _
          have hEB := Ext.own HTA.out HCA.out hOB ⟨_, hbsB⟩
          have hCB : CoreRaw acc col6 ci wB b { newCore n me slot with view := (view : Int), prepares := m2, commits := m3, value := value, decided := dv } fv wi lo (.slice xa xn xc) pb pp cm tn sn dc := HCA.out.own hEB HTA.out hbsB (HCA.out.hwi.ext hEB HTA.out) (HCA.out.hlo.ext hEB HTA.out) (HCA.out.hva.ext hEB HTA.out) rfl rfl rfl rfl rfl rfl
          have HEB : Hid (Ext (fun q => q.1 = ci) col w col6 wB) := HEA.out.trans (hEB.mono (fun q e => by rw [e]))
          have HBB := Lib.hid (HBA.out.ext hEB HTA.out)
          have d9 := hCB.hblk.cell 9
          simp only [List.getElem?_cons_zero, List.getElem?_cons_succ] at d9
          have hkk := viewsk_any (some cm) wB
          obtain ⟨hcc, lo2, hmo, hr, hinj⟩ := id hCB.hcm
          have hsr := hCB.hcm.srts
          have hln : m3.length ≤ 10000000000 := by
            have := srt_length hsr.1 (a := 0) (b := 4294967295) (fun q hq => ⟨(HOK3.out q hq).1, (HOK3.out q hq).2.1⟩) (by omega)
            have e : m3.length = ({ newCore n me slot with view := (view : Int), prepares := m2, commits := m3, value := value, decided := dv } : Core).commits.length := rfl
            omega
          have hrl : lo2.length = m3.length := hr.length
          have hss := viewss_any cm lo2 wB hmo (by omega)
          rw [hr.keys, show ({ newCore n me slot with view := (view : Int), prepares := m2, commits := m3, value := value, decided := dv } : Core).commits = m3 from rfl] at hss
          obtain ⟨K, hK⟩ : ∃ K, m3.length = K := ⟨_, rfl⟩
          have HRB : Hid (O = (if bytesC (readC n me slot view m2 m3 dv value) = bs then some (readC n me slot view m2 m3 dv value) else none)) := by
            show _ = _
            rw [← HO.out, if_neg (by rintro (h | h | h | h); exact Bool.noConfusion h; exact of_decide_eq_false hx2 h; exact h rfl; (have h : 1 < kb := h); omega)]
            rw [← hdv]
            rfl
          have HBYOK : Hid (ByOk (readC n me slot view m2 m3 dv value)) := by
            have hR1 := HB.out.lt
            have sub : ∀ (j : Nat) (r : RdS), (∀ x ∈ r.1, x < 256) → ∀ x ∈ (takeR j r).2.1, x < 256 := fun j r hr => by
              unfold takeR
              split
              · exact hr
              · exact fun x hx => hr x (List.mem_of_mem_drop hx)
            have s1 := sub 4 (bs, false) hR1
            rw [show (takeR 4 (bs, false)).2 = (fourR (bs, false)).2 from rfl, H1.out] at s1
            have s2 := sub 4 r1 s1
            rw [show (takeR 4 r1).2 = (fourR r1).2 from rfl, H2.out] at s2
            have s3 : ∀ x ∈ r3.1, x < 256 := votesR_sub me view k2 (-1) r2 [] s2 H3.out
            have s4 := sub 4 r3 s3
            rw [show (takeR 4 r3).2 = (fourR r3).2 from rfl, H4.out] at s4
            exact byok_read dv HLEN.out hR1 HMM.out H1.out H2.out H3.out H4.out H5.out H6.out H7.out H8.out rfl HOK2.out HOK3.out s2 s4 H256.out
          have HTB := Lib.hid hEB.tint
          have HCB := Lib.hid hCB
          have HSR := Lib.hid hsr
          have HK := Lib.hid hK
          have hK2 : K ≤ 10000000000 := by omega
          have HDV := Lib.hid hdv
          clear hbsB hOB hEB hCB hcc hmo hr hinj hsr hln hrl hK REF HCA HTA HEA HBA HKBA hdv
          go_wp2_with fail
          refine hkk.mono ?_
          rintro e wC ⟨rfl, rfl⟩
          go_wp2_with fail
          refine hss.mono ?_
          rintro e wD ⟨v, rfl, hown, hbD⟩
          obtain ⟨ya, yc, rfl, hkc2, hcell⟩ := hown.form
          rw [List.length_map, HK.out] at hkc2 hcell ⊢
          have HCE := Lib.hid hcell
          have HBD := Lib.hid hbD
          clear hown hcell hbD hkk hss d9 d15 f15 c1 e4 hkc hkcap hd hdi hx2
          have hED : Ext (fun _ => False) col6 wB col6 wD := Ext.below HTB.out HBD.out
          have HCD : Hid (∃ lo', CoreRaw acc col6 ci wD b { newCore n me slot with view := (view : Int), prepares := m2, commits := m3, value := value, decided := dv, lock := (lastC me (m3.take 0)).1, locked := (lastC me (m3.take 0)).2 } fv wi lo' (.slice xa xn xc) pb pp cm tn sn dc) := ⟨lo, HCB.out.ext hED HTB.out (fun _ h => h)⟩
          have HTD := Lib.hid hED.tint
          have HBBD := Lib.hid (HBB.out.ext hED HTB.out)
          have HED : Hid (Ext (fun q => q.1 = ci) col w col6 wD) := HEB.out.trans (hED.mono (fun _ h => h.elim))
          clear hED hwA hwB hw4 hw2 f16 d16
          go_wp2_with fail
          go_loopw [91] (fun u wr => ∃ j : Nat, j ≤ K ∧ u = .int .i64 (j : Int) ∧ Hid (Ext (· = (ci, 0)) col6 wD col6 wr) ∧ Hid (∃ lo', CoreRaw acc col6 ci wr b { newCore n me slot with view := (view : Int), prepares := m2, commits := m3, value := value, decided := dv, lock := (lastC me (m3.take j)).1, locked := (lastC me (m3.take j)).2 } fv wi lo' (.slice xa xn xc) pb pp cm tn sn dc)) (fun u _ => K - (intOf u).toNat)
          case atStart => exact ⟨0, Nat.zero_le _, rfl, Ext.refl HTD.out, HCD⟩
          case round =>
            obtain ⟨j, hj, rfl, HEr, HCr⟩ := hrel
            by_cases hlt : (j : Int) < (K : Int)
            · obtain ⟨g, rfl, hbg, hg, c0⟩ := HCE.out j (by omega)
              rw [keys_at (by rw [HK.out]; omega)] at c0
              obtain ⟨⟨x, t⟩, hx⟩ : ∃ e, m3.getD j default = e := ⟨_, rfl⟩
              have hmem : (x, t) ∈ m3 := by
                rw [← hx, List.getD_eq_getElem?_getD, List.getElem?_eq_getElem (by rw [HK.out]; omega)]
                exact List.getElem_mem _
              rw [hx] at c0
              dsimp only at c0
              have hgn : ∀ q, col6 g = some q → False := fun q e => by have := HTB.out.lo g q e; omega
              have k0 : wr.cell? ⟨g, j, none⟩ = some (.int .i64 x) := (World.cell?_of_block (HEr.out.block hg (fun q e => (hgn q e).elim))).trans c0
              have hin : inner m3 x = t := by
                have := inner_at HSR.out.1 (j := j) (by rw [HK.out]; omega)
                rw [hx] at this; exact this
              have hxv := HOK3.out _ hmem
              dsimp only at hxv
              obtain ⟨lo', hCr⟩ := HCr.out
              have hl3 := lastC_step (me := me) (m := m3) (j := j) (by rw [HK.out]; omega)
              rw [hx] at hl3
              dsimp only at hl3
              obtain ⟨mv, hl, hT⟩ := hCr.hcm.look (view := x) (wf64_mk (by omega) (by omega))
              rw [show ({ newCore n me slot with view := (view : Int), prepares := m2, commits := m3, value := value, decided := dv, lock := (lastC me (m3.take j)).1, locked := (lastC me (m3.take j)).2 } : Core).commits = m3 from rfl, hin] at hT
              obtain ⟨lv, hl2, hrb⟩ := hT.look1 (who := me) (wf64_mk (by have := HMM.out; omega) (by have := HMM.out; omega))
              obtain ⟨la, ln', lc, rfl⟩ := RB.form hrb
              obtain ⟨lb, hlb⟩ : ∃ lb, (lookM t me).getD [] = lb := ⟨_, rfl⟩
              rw [hlb] at hrb hl3
              have d9 := hCr.hblk.cell 9
              have d13 := hCr.hblk.cell 13
              have d14 := hCr.hblk.cell 14
              have f13 := hCr.hblk.frozen 13
              have f14 := hCr.hblk.frozen 14
              simp only [List.getElem?_cons_zero, List.getElem?_cons_succ] at d9 d13 d14
              obtain ⟨za, zn, zc, rfl⟩ := RB.form hCr.hlo
              have hbsN := (hCr.hblk.set 13 (.int .i64 x)).set 14 (.slice la ln' lc)
              have hON : Only (· = b) wr ((wr.setCell ⟨b, 13, none⟩ (.int .i64 x)).setCell ⟨b, 14, none⟩ (.slice la ln' lc)) := ((Only.refl (· = b) wr).setCell (fun _ => rfl) _).setCell (fun _ => rfl) _
              have hEN := Ext.own HEr.out.tint hCr hON ⟨_, hbsN⟩
              have hCN : CoreRaw acc col6 ci ((wr.setCell ⟨b, 13, none⟩ (.int .i64 x)).setCell ⟨b, 14, none⟩ (.slice la ln' lc)) b { newCore n me slot with view := (view : Int), prepares := m2, commits := m3, value := value, decided := dv, lock := x, locked := lb } fv wi (.slice la ln' lc) (.slice xa xn xc) pb pp cm tn sn dc :=
                hCr.own hEN HEr.out.tint hbsN (hCr.hwi.ext hEN HEr.out.tint) (hrb.ext hEN HEr.out.tint) (hCr.hva.ext hEN HEr.out.tint) rfl rfl rfl rfl rfl rfl
              have HCN : Hid (∃ lo', CoreRaw acc col6 ci ((wr.setCell ⟨b, 13, none⟩ (.int .i64 x)).setCell ⟨b, 14, none⟩ (.slice la ln' lc)) b { newCore n me slot with view := (view : Int), prepares := m2, commits := m3, value := value, decided := dv, lock := (lastC me (m3.take (j + 1))).1, locked := (lastC me (m3.take (j + 1))).2 } fv wi lo' (.slice xa xn xc) pb pp cm tn sn dc) := by
                show ∃ lo', _
                rw [hl3]
                exact ⟨_, hCN⟩
              have HEN := Lib.hid (HEr.out.trans hEN)
              clear hx hmem c0 hgn hin hxv hl3 hT hrb hlb hbsN hON hEN hCN hCr HCr HEr
              go_wp2_with fail
              exact ⟨⟨j + 1, by omega, by push_cast; rfl, HEN, HCN⟩, by simp [intOf]; omega⟩
            · obtain rfl : j = K := by omega
              obtain ⟨lo', hCr⟩ := HCr.out
              rw [List.take_of_length_le (by rw [HK.out]; exact Nat.le_refl _)] at hCr
              have hcr : CoreAt acc col6 ci wr b (readC n me slot view m2 m3 dv value) := ⟨_, _, _, _, _, _, _, _, _, _, hCr⟩
              have HBYT := Lib.hid (bytes_any HEr.out.tint hcr HBYOK.out)
              have HCR := Lib.hid hcr
              have HBBr := Lib.hid (HBBD.out.ext HEr.out HTD.out)
              have HER : Hid (Ext (fun q => q.1 = ci) col w col6 wr) := HED.out.trans (HEr.out.mono (fun q e => by rw [e]))
              have HTR := Lib.hid HEr.out.tint
              clear hCr hcr HCr HEr
              go_wp2_with fail
              refine HBYT.out.mono ?_
              rintro e wE ⟨bv, rfl, hbuf, hbE⟩
              have HEQ := Lib.hid (equal_any bv (.slice va vn vc) _ bs wE hbuf.rb (HBBr.out.below hbE))
              have HCE2 := Lib.hid (HCR.out.below HTR.out hbE)
              have HEE : Hid (Ext (fun q => q.1 = ci) col w col6 wE) := HER.out.trans (Ext.below HTR.out hbE)
              clear hbuf hbE
              go_wp2_with fail
              refine HEQ.out.mono ?_
              rintro e wF ⟨rfl, rfl⟩
              obtain ⟨eq, heq⟩ : ∃ eq, (bytesC (readC n me slot view m2 m3 dv value) == bs) = eq := ⟨_, rfl⟩
              rw [heq]
              cases eq
              case true =>
                have hon : O = some (readC n me slot view m2 m3 dv value) := by rw [HRB.out, if_pos (eq_of_beq heq)]
                subst hon
                clear heq
                go_wp2_with fail
                go_ret2
                exact ⟨b, col6, rfl, HBS.out, HEE.out, HCE2.out⟩
              case false =>
                have hon : O = none := by rw [HRB.out, if_neg (by simpa using heq)]
                subst hon
                clear heq
                go_wp2_with fail
                go_ret2
                exact ⟨rfl, col6, HEE.out⟩
end Go.Proofs.Ytilhdelijdkjpaa
