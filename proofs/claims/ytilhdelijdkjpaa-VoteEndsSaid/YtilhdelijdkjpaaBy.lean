/-
  Bytes: what must last.
-/
import Derived.Test.YtilhdelijdkjpaaSa
import Derived.Test.YtilhdelijdkjpaaVNu
import Derived.Test.YtilhdelijdkjpaaBy0
set_option linter.unusedVariables false
set_option linter.unusedSimpArgs false
namespace Go.Proofs.Ytilhdelijdkjpaa
open Go Go.RowKit Go.Maps Sac

/-- The votes' cells can be read at g: row i's vote. -/
theorem VOwn.at_ {w : World} {base : Nat} {v : Value} {L : List VV} (h : VOwn w base v L) {i : Nat} (hi : i < L.length) : ∃ g cap, v = .slice (some ⟨g, 0, none⟩) L.length cap ∧ base ≤ g ∧ g < w.heap.size ∧ ∀ j, j < 6 → w.cell? ⟨g, i * 6 + j, none⟩ = (L.getD i default).enc[j]? := by
  obtain ⟨hx, ⟨rfl, h0, h1⟩ | ⟨g, cap, rest, rfl, hb, hB, hn, hc, hl⟩⟩ := own_elim h
  · omega
  · refine ⟨g, cap, rfl, hb, hB.lt, fun j hj => ?_⟩
    rw [hB.cell]
    exact vflat_get L rest i hi j hj

/-- The two rows of votes that are written, kept while bytes are appended. -/
structure TwoRows (lo hi : Nat) (w : World) (R : Nat) (V : Value × Value) (l2 l3 : List Vt) : Prop where
  rows : ∃ L2 L3, Blk w R 42 [V.1, V.2] ∧ (VOwn w lo V.1 L2 ∧ VGood w L2 ∧ L2.map (·.vt) = l2 ∧ ∀ p ∈ L2, ∀ k, p.sl.ownBlock = some k → lo ≤ k ∧ (p.vt.value ≠ [] → k < hi)) ∧ (VOwn w lo V.2 L3 ∧ VGood w L3 ∧ L3.map (·.vt) = l3 ∧ ∀ p ∈ L3, ∀ k, p.sl.ownBlock = some k → lo ≤ k ∧ (p.vt.value ≠ [] → k < hi))
/-- Bytes that lie outside the rows' blocks. -/
def OutB (lo hi : Nat) (v : Value) : Prop := ∀ k, v.ownBlock = some k → k < lo ∨ hi ≤ k

theorem RB.kept_out {lo hi : Nat} {w w' : World} {v x : Value} {bs cs : Bs} {base : Nat} (hx : RB w x cs) (hl : ∀ k, x.ownBlock = some k → lo ≤ k ∧ (cs ≠ [] → k < hi)) (hb : Buf w base v bs) (ho : OutB lo hi v) (hO : Only (fun k => v.ownBlock = some k) w w') : RB w' x cs := by
  obtain ⟨a, cap, rfl, h2, h3, h4, h5, h6⟩ := hx
  refine ⟨a, cap, rfl, h2, h3, h4, fun hn => ?_, h6⟩
  obtain ⟨ad, rfl, he, hc⟩ := h5 hn
  have hcs : cs ≠ [] := fun e => hn (by rw [e]; rfl)
  have h7 := hl ad.block rfl
  have hs : w'.heap[ad.block]? = w.heap[ad.block]? := hO.block _ he.lt (fun e => by
    have := ho _ e
    have := h7.2 hcs
    omega)
  refine ⟨ad, rfl, he.same hs, fun j u hu => ?_⟩
  rw [World.cell?_of_block (w := w) (by rw [block_add]; exact hs)]
  exact hc j u hu
theorem Blk.kept_out {w w' : World} {v : Value} {bs : Bs} {base k : Nat} {e : TypeId} {cs : List Value} (h : Blk w k e cs) (he : 5 ≠ e) (hb : Buf w base v bs) (hO : Only (fun k => v.ownBlock = some k) w w') : Blk w' k e cs :=
  h.same (hO.block _ h.lt (fun e2 => (hb.lt e2).2.2.ne h he rfl))
theorem VOwn.kept_out {w w' : World} {base b2 : Nat} {v x : Value} {bs : Bs} {L : List VV} (h : VOwn w b2 x L) (hb : Buf w base v bs) (hO : Only (fun k => v.ownBlock = some k) w w') : VOwn w' b2 x L := by
  obtain ⟨hx, h0 | ⟨g, cap, rest, e, hg, hB, hn, hc, hl⟩⟩ := own_elim h
  · exact ⟨hx, .inl ⟨h0.1, h0.2.1⟩⟩
  · subst e
    exact own_intro hg (Blk.kept_out hB (by decide) hb hO) hn hc hl hx
theorem TwoRows.kept {lo hi R : Nat} {V : Value × Value} {w w' : World} {l2 l3 : List Vt} {v : Value} {bs : Bs} {base : Nat} (h : TwoRows lo hi w R V l2 l3) (hb : Buf w base v bs) (ho : OutB lo hi v) (hO : Only (fun k => v.ownBlock = some k) w w') : TwoRows lo hi w' R V l2 l3 := by
  obtain ⟨L2, L3, h1, ⟨a1, a2, a3, a4⟩, ⟨b1, b2, b3, b4⟩⟩ := h
  exact ⟨L2, L3, Blk.kept_out h1 (by decide) hb hO, ⟨a1.kept_out hb hO, fun p hp => (a2 p hp).kept_out (a4 p hp) hb ho hO, a3, a4⟩, ⟨b1.kept_out hb hO, fun p hp => (b2 p hp).kept_out (b4 p hp) hb ho hO, b3, b4⟩⟩
theorem TwoRows.below {lo hi R : Nat} {V : Value × Value} {w w' : World} {l2 l3 : List Vt} (h : TwoRows lo hi w R V l2 l3) (hb : Below w.heap.size w w') : TwoRows lo hi w' R V l2 l3 := by
  obtain ⟨L2, L3, h1, ⟨a1, a2, a3, a4⟩, ⟨b1, b2, b3, b4⟩⟩ := h
  exact ⟨L2, L3, h1.below hb h1.lt, ⟨a1.below hb, a2.below hb, a3, a4⟩, ⟨b1.below hb, b2.below hb, b3, b4⟩⟩

/-- The bytes under way. -/
structure ByAt (w0 : World) (lo hi R : Nat) (V : Value × Value) (l2 l3 : List Vt) (w : World) (v : Value) (bs : Bs) : Prop where
  buf : Buf w w0.heap.size v bs
  out : OutB lo hi v
  rows : TwoRows lo hi w R V l2 l3
  below : Below w0.heap.size w0 w
  hi : hi ≤ w.heap.size
theorem ByAt.step {w0 : World} {lo hi R : Nat} {V : Value × Value} {l2 l3 : List Vt} {w w' : World} {v v' : Value} {bs cs : Bs} (h : ByAt w0 lo hi R V l2 l3 w v bs) (hb : Buf w' w0.heap.size v' cs) (hO : Only (fun k => v.ownBlock = some k) w w') (hn : ∀ k, v'.ownBlock = some k → v.ownBlock = some k ∨ w.heap.size ≤ k) : ByAt w0 lo hi R V l2 l3 w' v' cs :=
  ⟨hb, fun k hk => by
    rcases hn k hk with e | e
    · exact h.out k e
    · have := h.hi; omega, h.rows.kept h.buf h.out hO, (h.below).trans (hO.toBelow h.below.size (fun k e => (h.buf.lt e).1)), Nat.le_trans h.hi hO.size⟩
theorem ByAt.moved {w0 : World} {lo hi R : Nat} {V : Value × Value} {l2 l3 : List Vt} {w w' : World} {v : Value} {bs : Bs} (h : ByAt w0 lo hi R V l2 l3 w v bs) (hb : Below w.heap.size w w') : ByAt w0 lo hi R V l2 l3 w' v bs :=
  ⟨h.buf.below hb, h.out, h.rows.below hb, h.below.trans (hb.mono h.below.size), Nat.le_trans h.hi hb.size⟩

theorem mine_in {c : Core} {kind : Int} {m : List (Int × TellM)} {v : Vt} (h : v ∈ mine c kind m) (hok : MapsOk m) (hlen : ∀ q ∈ m, ∀ r ∈ q.2, r.2.length ≤ 4294967295) : 0 ≤ v.view ∧ v.view ≤ 4294967295 ∧ v.value.length ≤ 4294967295 := by
  unfold mine at h
  obtain ⟨p, hp, h2⟩ := List.mem_filterMap.1 h
  obtain ⟨y, hy, rfl⟩ := Option.map_eq_some_iff.1 h2
  have := hok p hp
  exact ⟨this.1, this.2.1, hlen p hp _ (lookM_mem hy)⟩
theorem TwoRows.at_ {lo hi R : Nat} {V : Value × Value} {w : World} {l2 l3 : List Vt} (h : TwoRows lo hi w R V l2 l3) (j : Nat) (hj : j < 2) : ∃ L, w.cell? ⟨R, j, none⟩ = some (if j = 0 then V.1 else V.2) ∧ VOwn w lo (if j = 0 then V.1 else V.2) L ∧ L.map (·.vt) = (if j = 0 then l2 else l3) := by
  obtain ⟨L2, L3, h1, ⟨a1, a2, a3, a4⟩, ⟨b1, b2, b3, b4⟩⟩ := h
  have : j = 0 ∨ j = 1 := by omega
  rcases this with rfl | rfl
  · exact ⟨L2, h1.cell 0, a1, a3⟩
  · exact ⟨L3, h1.cell 1, b1, b3⟩
/-- A row's vote, and its value. -/
theorem TwoRows.vote {lo hi R : Nat} {V : Value × Value} {w : World} {l2 l3 : List Vt} (h : TwoRows lo hi w R V l2 l3) (j : Nat) (hj : j < 2) {i : Nat} (hil : i < (if j = 0 then l2 else l3).length) :
    ∃ (g cap : Nat) (p : VV), (if j = 0 then V.1 else V.2) = .slice (some ⟨g, 0, none⟩) (if j = 0 then l2 else l3).length cap ∧ (if j = 0 then l2 else l3)[i]? = some p.vt ∧ (∀ k, k < 6 → w.cell? ⟨g, i * 6 + k, none⟩ = p.enc[k]?) ∧ RB w p.sl p.vt.value ∧ (∀ k, p.sl.ownBlock = some k → lo ≤ k ∧ (p.vt.value ≠ [] → k < hi)) ∧ g < w.heap.size := by
  obtain ⟨L2, L3, h1, ⟨a1, a2, a3, a4⟩, ⟨b1, b2, b3, b4⟩⟩ := h
  have key : ∀ (v : Value) (L : List VV) (l : List Vt), VOwn w lo v L → VGood w L → L.map (·.vt) = l → (∀ p ∈ L, ∀ k, p.sl.ownBlock = some k → lo ≤ k ∧ (p.vt.value ≠ [] → k < hi)) → i < l.length →
      ∃ (g cap : Nat) (p : VV), v = .slice (some ⟨g, 0, none⟩) l.length cap ∧ l[i]? = some p.vt ∧ (∀ k, k < 6 → w.cell? ⟨g, i * 6 + k, none⟩ = p.enc[k]?) ∧ RB w p.sl p.vt.value ∧ (∀ k, p.sl.ownBlock = some k → lo ≤ k ∧ (p.vt.value ≠ [] → k < hi)) ∧ g < w.heap.size := by
    intro v L l c1 c2 c3 c4 hil
    subst c3
    rw [List.length_map] at hil ⊢
    obtain ⟨g, cap, e, hg, hlt, hc⟩ := c1.at_ hil
    have hmem : L.getD i default ∈ L := by
      rw [List.getD_eq_getElem?_getD, List.getElem?_eq_getElem hil]
      exact List.getElem_mem hil
    refine ⟨g, cap, L.getD i default, e, ?_, hc, c2 _ hmem, c4 _ hmem, hlt⟩
    rw [List.getElem?_map, List.getD_eq_getElem?_getD, List.getElem?_eq_getElem hil]
    rfl
  have hj2 : j = 0 ∨ j = 1 := by omega
  rcases hj2 with rfl | rfl
  · exact key _ L2 _ a1 a2 a3 a4 hil
  · exact key _ L3 _ b1 b2 b3 b4 hil
/-- The bytes ahead of row j. -/
def preB' (vw : Nat) (l2 l3 : List Vt) : Nat → Bs
  | 0 => four vw
  | 1 => four vw ++ votesB l2
  | _ => four vw ++ votesB l2 ++ votesB l3
theorem preB_step (vw : Nat) (l2 l3 : List Vt) {j : Nat} (hj : j < 2) : preB' vw l2 l3 (j + 1) = preB' vw l2 l3 j ++ votesB (if j = 0 then l2 else l3) := by
  have : j = 0 ∨ j = 1 := by omega
  rcases this with rfl | rfl <;> rfl
theorem flat_step {l : List Vt} {i : Nat} {p : Vt} (h : l[i]? = some p) : (l.take (i + 1)).flatMap voteB = (l.take i).flatMap voteB ++ voteB p := by
  rw [List.take_add_one, h, List.flatMap_append]
  simp

set_option maxRecDepth 100000 in
set_option maxHeartbeats 8000000 in
theorem bytes_any {acc : Bs → Bool} {col : Colour} {ci b : Nat} {w : World} {c : Core} (ht : Tinted col w) (h : CoreAt acc col ci w b c) (hok : ByOk c) :
    Calls Try.prog 16 #[.pointer (some ⟨b, 0, none⟩)] w fun e w' => ∃ v, e = .returned v ∧ Buf w' w.heap.size v (bytesC c) ∧ Below w.heap.size w w' := by
  obtain ⟨fv, wi, lo, va, pb, pp, cm, tn, sn, dc, h⟩ := h
  have d4 := h.hblk.cell 4
  simp only [List.getElem?_cons_zero, List.getElem?_cons_succ] at d4
  obtain ⟨vw, hvw⟩ : ∃ vw : Nat, c.view = (vw : Int) := ⟨c.view.toNat, by have := hok.view; omega⟩
  have hvw2 : vw < 4294967296 := by have := hok.view; omega
  rw [hvw] at d4
  have hf0 := four_own w.heap.size (.slice none 0 0) [] vw w (Buf.nil w _) hvw2 (Nat.zero_le _) (Nat.le_refl _)
  have HT := Lib.hid ht
  have HC := Lib.hid h
  have HOK := Lib.hid hok
  have HVW := Lib.hid hvw
  have HF0 := Lib.hid hf0
  clear ht h hok hf0 hvw
  go_enter Try.func16, Try.ntmps16
  go_wp2_with fail
  refine HF0.out.mono ?_
  rintro e w1 ⟨v1, rfl, hbuf1, ho1, hn1⟩
  have hb1 : Below w.heap.size w w1 := ho1.toBelow (Nat.le_refl _) (fun k e => by cases e)
  obtain ⟨xa, xn, xc, rfl⟩ := RB.form hbuf1.rb
  have HBUF1 := Lib.hid hbuf1
  have HB1 := Lib.hid hb1
  have hC1 : CoreRaw acc col ci w1 b c fv wi lo va pb pp cm tn sn dc := HC.out.ext (G := fun _ => False) (Ext.below HT.out hb1) HT.out (fun _ h => h)
  have HT1 := Lib.hid (HT.out.below hb1)
  have d8 := hC1.hblk.cell 8
  have d9 := hC1.hblk.cell 9
  simp only [List.getElem?_cons_zero, List.getElem?_cons_succ] at d8 d9
  have hE1d : Ext (fun _ => False) col w1 col w1.drew := Ext.below HT1.out (Below.refl _ w1).drew
  have hC1d := hC1.ext hE1d HT1.out (fun _ h => h)
  have HM2 := Lib.hid (mine_fresh (acc := acc) 2 hE1d.tint ⟨_, _, _, _, _, _, _, _, _, _, hC1d⟩ hC1d.hpp HOK.out.prepares HOK.out.me (fun q hq r hr => by have := HOK.out.len2 q hq r hr; omega))
  have HBLT : Hid (b < w1.heap.size) := hC1.hblk.lt
  have HC1 := Lib.hid hC1
  clear d4 HF0 hbuf1 ho1 hb1 hC1 hE1d hC1d hn1
  obtain ⟨l2, hl2⟩ : ∃ l2, mine c 2 c.prepares = l2 := ⟨_, rfl⟩
  obtain ⟨l3, hl3⟩ : ∃ l3, mine c 3 c.commits = l3 := ⟨_, rfl⟩
  rw [hl2] at HM2
  have HL2 := Lib.hid hl2
  have HL3 := Lib.hid hl3
  clear hl2 hl3
  go_upto_region 4 with fail
  go_cut [27, 28, 29] from 15 to 30 (fun t27 t28 t29 wx => t28 = .int .i64 2 ∧ t29 = .int .i64 0 ∧ ∃ (R hi : Nat) (V : Value × Value), t27 = .slice (some ⟨R, 0, none⟩) 2 2 ∧ Hid (R < wx.heap.size) ∧ Hid (ByAt w w1.heap.size hi R V l2 l3 wx (.slice xa xn xc) ([] ++ four vw)))
  case first =>
    go_region_held3 (fun w' => w'.cell? ⟨b, 8, none⟩ = some (.map (some pp)) ∧ w'.cell? ⟨b, 9, none⟩ = some (.map (some cm))) (first | exact ⟨d8, d9⟩ | exact ⟨g8, g9⟩ | exact ⟨k8, k9⟩ | exact ⟨a8, a9⟩ | assumption)
      (first
        | (go_at_call 59; refine HM3.out.mono ?_; rintro e w3 ⟨v3, L3, rfl, ho3, hg3, hv3, hb3, hf3⟩; obtain ⟨m3a, m3c, rfl, _, _⟩ := ho3.form; have k8 := (hb3.cell (p := ⟨b, 8, none⟩) (Nat.lt_of_lt_of_le HBLT.out HB2.out.size)).trans g8; have k9 := (hb3.cell (p := ⟨b, 9, none⟩) (Nat.lt_of_lt_of_le HBLT.out HB2.out.size)).trans g9; have HX3 := Lib.hid (And.intro ho3 (And.intro hg3 (And.intro hv3 (And.intro hb3 hf3)))); have a8 := Lib.cell?_alloc_some (.cells #[.slice m2a L2.length m2c, .slice m3a L3.length m3c] 42) k8; have a9 := Lib.cell?_alloc_some (.cells #[.slice m2a L2.length m2c, .slice m3a L3.length m3c] 42) k9; clear ho3 hg3 hv3 hb3 hf3)
        | (go_at_call 59; refine HM2.out.mono ?_; rintro e w2 ⟨v2, L2, rfl, ho2, hg2, hv2, hb2', hf2⟩; obtain ⟨m2a, m2c, rfl, _, _⟩ := ho2.form; have hb2 : Below w1.heap.size w1 w2 := (Below.refl _ w1).drew.trans hb2'; have g8 := (hb2.cell (p := ⟨b, 8, none⟩) HBLT.out).trans d8; have g9 := (hb2.cell (p := ⟨b, 9, none⟩) HBLT.out).trans d9; have HB2 := Lib.hid hb2; have hC2 : CoreRaw acc col ci w2 b c fv wi lo va pb pp cm tn sn dc := HC1.out.ext (G := fun _ => False) (Ext.below HT1.out hb2) HT1.out (fun _ h => h); have HM3 := Lib.hid (HL3.out ▸ mine_fresh (acc := acc) 3 (HT1.out.below hb2) ⟨_, _, _, _, _, _, _, _, _, _, hC2⟩ hC2.hcm HOK.out.commits HOK.out.me (fun q hq r hr => by have := HOK.out.len3 q hq r hr; omega)); have HX2 := Lib.hid (And.intro ho2 (And.intro hg2 (And.intro hv2 hf2))); clear ho2 hg2 hv2 hb2 hb2' hf2 hC2))
    all_goals
      go_wp2_with fail
      go_meet
      obtain ⟨ho2, hg2, hv2, hf2⟩ := HX2.out
      obtain ⟨ho3, hg3, hv3, hb3, hf3⟩ := HX3.out
      have hs2 : w1.heap.size ≤ w2.heap.size := HB2.out.size
      have hba : Below w1.heap.size w1 (w3.alloc (.cells #[.slice m2a L2.length m2c, .slice m3a L3.length m3c] 42)) := (HB2.out.trans (hb3.mono hs2)).alloc (Nat.le_trans hs2 hb3.size) _
      have hba2 : Below w2.heap.size w2 (w3.alloc (.cells #[.slice m2a L2.length m2c, .slice m3a L3.length m3c] 42)) := hb3.alloc hb3.size _
      have hba3 : Below w3.heap.size w3 (w3.alloc (.cells #[.slice m2a L2.length m2c, .slice m3a L3.length m3c] 42)) := (Below.refl _ w3).alloc (Nat.le_refl _) _
      refine ⟨rfl, rfl, w3.heap.size, w3.heap.size, (.slice m2a L2.length m2c, .slice m3a L3.length m3c), rfl, by show w3.heap.size < _; simp, ⟨HBUF1.out.below hba, fun k hk => .inl (HBUF1.out.lt hk).2.1, ⟨L2, L3, Blk.new w3 _ _, ⟨ho2.below hba2, hg2.below hba2, hv2, fun p hp k hk => ⟨hf2 p hp k hk, fun hne => Nat.lt_of_lt_of_le ((hg2 p hp).low.2 k hk hne) hb3.size⟩⟩, ⟨own_base (ho3.below hba3) hs2, hg3.below hba3, hv3, fun p hp k hk => ⟨Nat.le_trans hs2 (hf3 p hp k hk), fun hne => (hg3 p hp).low.2 k hk hne⟩⟩⟩, HB1.out.trans (hba.mono HB1.out.size), by simp⟩⟩
  case rest =>
    rename World => w4
    obtain ⟨rfl, rfl, R, hi, V, rfl, HR, HBY⟩ := hcut
    have hlens : (votesB l2).length + (votesB l3).length ≤ 30000000000 := by
      have := HOK.out.all
      unfold bytesC at this
      rw [HL2.out, HL3.out] at this
      simp only [List.length_append] at this
      omega
    have hin : ∀ j, j < 2 → ∀ v ∈ (if j = 0 then l2 else l3), 0 ≤ v.view ∧ v.view ≤ 4294967295 ∧ v.value.length ≤ 4294967295 := fun j hj v hv => by
      have : j = 0 ∨ j = 1 := by omega
      rcases this with rfl | rfl
      · rw [if_pos rfl, ← HL2.out] at hv; exact mine_in hv HOK.out.prepares HOK.out.len2
      · rw [if_neg (by decide), ← HL3.out] at hv; exact mine_in hv HOK.out.commits HOK.out.len3
    have HLENS := Lib.hid hlens
    have HIN := Lib.hid hin
    clear hlens hin d8 d9 HM2
    go_wp2_with fail
    go_loopw [3, 29] (fun t3 u wr => ∃ j : Nat, j ≤ 2 ∧ u = .int .i64 (j : Int) ∧ Hid (R < wr.heap.size) ∧ Hid (ByAt w w1.heap.size hi R V l2 l3 wr t3 (preB' vw l2 l3 j))) (fun _ u _ => 2 - (intOf u).toNat)
    case atStart => exact ⟨0, by decide, rfl, HR, HBY⟩
    case round =>
      obtain ⟨j, hj, rfl, HR2, HBY2⟩ := hrel
      clear HBY HR
      by_cases hlt : (j : Int) < 2
      · have hj2 : j < 2 := by omega
        obtain ⟨Lr, hcr, hor, hlr⟩ := HBY2.out.rows.at_ j hj2
        obtain ⟨ra, rc, hvr, _, _⟩ := hor.form
        rw [hvr] at hcr
        obtain ⟨lj, hlj⟩ : ∃ lj, (if j = 0 then l2 else l3) = lj := ⟨_, rfl⟩
        have hNL : Lr.length = lj.length := by rw [← hlj, ← hlr, List.length_map]
        rw [hNL] at hcr
        obtain ⟨N, hN⟩ : ∃ N, lj.length = N := ⟨_, rfl⟩
        rw [hN] at hcr
        have hNlt : N < 4294967296 := by
          have h1 := votesB_len l2
          have h2 := votesB_len l3
          have h3 := HLENS.out
          rw [← hN, ← hlj]
          split <;> omega
        obtain ⟨ba, bn, bc, rfl⟩ := RB.form HBY2.out.buf.rb
        have hpl : (preB' vw l2 l3 j ++ votesB (if j = 0 then l2 else l3)).length ≤ 30000000010 := by
          have : j = 0 ∨ j = 1 := by omega
          have h3 := HLENS.out
          rcases this with rfl | rfl
          · show (four vw ++ votesB l2).length ≤ _
            rw [List.length_append, four_len]; omega
          · show (four vw ++ votesB l2 ++ votesB l3).length ≤ _
            rw [List.length_append, List.length_append, four_len]; omega
        rw [hlj, List.length_append] at hpl
        have hst := preB_step vw l2 l3 hj2
        rw [hlj] at hst
        obtain ⟨pj, hpj⟩ : ∃ pj, preB' vw l2 l3 j = pj := ⟨_, rfl⟩
        rw [hpj] at HBY2 hpl hst
        have HF1 := Lib.hid (four_own w.heap.size _ pj N wr HBY2.out.buf hNlt (by omega) HBY2.out.below.size)
        have HST := Lib.hid hst
        have HLJ := Lib.hid hlj
        have HN := Lib.hid hN
        have HPL := Lib.hid hpl
        have HVR : Hid ((if j = 0 then V.1 else V.2) = .slice ra N rc) := by
          show _ = _
          rw [hvr, hNL, hN]
        clear hor hlr hNL hlj hN hpl hst hpj hvr
        go_wp2_with fail
        refine HF1.out.mono ?_
        rintro e w5 ⟨v5, rfl, hbuf5, hO5, hn5⟩
        have hby5 := HBY2.out.step hbuf5 hO5 hn5
        have HR5 : Hid (R < w5.heap.size) := Nat.lt_of_lt_of_le HR2.out hO5.size
        have HBY5 := Lib.hid hby5
        clear hbuf5 hO5 hn5 hby5 HBY2 HF1 HR2 hcr
        go_wp2_with fail
        go_loopw [3, 39] (fun t3 u wr => ∃ i : Nat, i ≤ N ∧ u = .int .i64 (i : Int) ∧ Hid (R < wr.heap.size) ∧ Hid (ByAt w w1.heap.size hi R V l2 l3 wr t3 (pj ++ four N ++ (lj.take i).flatMap voteB))) (fun _ u _ => N - (intOf u).toNat)
        case atStart => exact ⟨0, Nat.zero_le _, rfl, HR5, by rw [List.take_zero, List.flatMap_nil, List.append_nil]; exact HBY5⟩
        case round =>
          obtain ⟨i, hi2, rfl, HR6, HBY6⟩ := hrel
          clear HBY5 HR5
          by_cases hlt2 : (i : Int) < (N : Int)
          · obtain ⟨g, cap, p, e1, e2, hcs, hrb, hfr, hgl⟩ := HBY6.out.rows.vote j hj2 (i := i) (by rw [HLJ.out, HN.out]; omega)
            rw [HVR.out, HLJ.out, HN.out] at e1
            injection e1 with e3 _ e4
            subst e3 e4
            rw [HLJ.out] at e2
            have hpin := HIN.out j hj2 p.vt (by rw [HLJ.out]; exact List.mem_of_getElem? e2)
            have hfl := flat_step e2
            have k0 : wr.cell? ⟨g, i * 6, none⟩ = some (.int .i64 p.vt.kind) := hcs 0 (by decide)
            have k1 : wr.cell? ⟨g, i * 6 + 1, none⟩ = some (.int .i64 p.vt.frm) := hcs 1 (by decide)
            have k2 : wr.cell? ⟨g, i * 6 + 2, none⟩ = some (.int .i64 p.vt.slot) := hcs 2 (by decide)
            have k3 : wr.cell? ⟨g, i * 6 + 3, none⟩ = some (.int .i64 p.vt.view) := hcs 3 (by decide)
            have k4 : wr.cell? ⟨g, i * 6 + 4, none⟩ = some (.int .i64 p.vt.valid) := hcs 4 (by decide)
            have k5 : wr.cell? ⟨g, i * 6 + 5, none⟩ = some (.slice p.a p.n p.c) := hcs 5 (by decide)
            have HFL := Lib.hid hfl
            have HRB := Lib.hid hrb
            have HFR := Lib.hid hfr
            have HPIN := Lib.hid hpin
            obtain ⟨pv, hpv⟩ : ∃ pv : Nat, p.vt.view = (pv : Int) := ⟨p.vt.view.toNat, by omega⟩
            have hpn : p.n = p.vt.value.length := by
              obtain ⟨_, _, e, _⟩ := hrb
              injection e
            have hvb : voteB p.vt = four pv ++ four p.n ++ p.vt.value := by
              unfold voteB
              rw [hpn, hpv]
              rfl
            have hvl := voteB_len p.vt
            rw [hpv] at k3
            obtain ⟨ua, un, uc, rfl⟩ := RB.form HBY6.out.buf.rb
            -- how long it is
            have hbl : (pj ++ four N ++ (lj.take i).flatMap voteB).length + (8 + p.vt.value.length) ≤ 30000000010 := by
              have h1 := HPL.out
              rw [votesB_eq, HN.out, List.length_append] at h1
              have h2 : lj = lj.take (i + 1) ++ lj.drop (i + 1) := (List.take_append_drop _ _).symm
              have h3 : (lj.flatMap voteB).length = ((lj.take (i + 1)).flatMap voteB).length + ((lj.drop (i + 1)).flatMap voteB).length := by
                conv => lhs; rw [h2]
                rw [List.flatMap_append, List.length_append]
              rw [HFL.out, List.length_append, hvl] at h3
              rw [List.length_append, List.length_append]
              omega
            obtain ⟨bs6, hbs6⟩ : ∃ bs6, pj ++ four N ++ (lj.take i).flatMap voteB = bs6 := ⟨_, rfl⟩
            rw [hbs6] at HBY6 hbl
            have hnext : pj ++ four N ++ (lj.take (i + 1)).flatMap voteB = bs6 ++ four pv ++ four p.n ++ p.vt.value := by
              rw [HFL.out, ← List.append_assoc, hbs6, hvb, ← List.append_assoc, ← List.append_assoc]
            have HNEXT := Lib.hid hnext
            have HPN := Lib.hid hpn
            have HBL := Lib.hid hbl
            have hpv2 : pv < 4294967296 := by omega
            have hpn2 : p.n < 4294967296 := by omega
            clear hcs hrb hfr hpin hfl e2 hgl hpv hvb hvl hnext hpn hbl hbs6
            go_upto_region 11 with fail
            generalize hW : wr.alloc (.cells #[.int .i64 p.vt.kind, .int .i64 p.vt.frm, .int .i64 p.vt.slot, .int .i64 (pv : Int), .int .i64 p.vt.valid, .slice p.a p.n p.c] 31) = W
            generalize hX : wr.heap.size = X
            have hbW : Below wr.heap.size wr W := by rw [← hW]; exact (Below.refl _ wr).alloc (Nat.le_refl _) _
            have hbxW : Blk W X 31 [.int .i64 p.vt.kind, .int .i64 p.vt.frm, .int .i64 p.vt.slot, .int .i64 (pv : Int), .int .i64 p.vt.valid, .slice p.a p.n p.c] := by rw [← hW, ← hX]; exact Blk.new wr _ _
            have hbyW : ByAt w w1.heap.size hi R V l2 l3 W.drew (.slice ua un uc) bs6 := HBY6.out.moved hbW.drew
            have hrbW : RB W.drew (.slice p.a p.n p.c) p.vt.value := HRB.out.below hbW.drew
            have x3 := hbxW.cell 3
            have x5 := hbxW.cell 5
            simp only [List.getElem?_cons_zero, List.getElem?_cons_succ] at x3 x5
            have HF1 := Lib.hid (four_own w.heap.size _ bs6 pv W.drew hbyW.buf hpv2 (by have := HBL.out; omega) hbyW.below.size)
            have HR7 : Hid (R < W.heap.size) := Nat.lt_of_lt_of_le HR6.out hbW.size
            have HBYW := Lib.hid hbyW
            have HRBW := Lib.hid hrbW
            have HBXW := Lib.hid hbxW
            clear hW hX hbW hbxW hbyW hrbW k0 k1 k2 k3 k4 k5 HBY6 HRB HR6
            go_region_held3 (fun w' => w'.cell? ⟨X, 3, none⟩ = some (.int .i64 (pv : Int)) ∧ w'.cell? ⟨X, 5, none⟩ = some (.slice p.a p.n p.c)) (first | exact ⟨x3, x5⟩ | exact ⟨g3, g5⟩ | exact ⟨h3, h5⟩ | exact ⟨m3, m5⟩ | assumption)
              (first
                | (go_at_call 58; refine HF2.out.mono ?_; rintro e w7 ⟨v7, rfl, hbuf7, hO7, hn7⟩; obtain ⟨ya, yn, yc, rfl⟩ := RB.form hbuf7.rb; have hbx7 : Blk w7 X _ _ := Blk.kept_out HBX6.out (by decide) HBY7.out.buf hO7; have h3 : w7.cell? ⟨X, 3, none⟩ = some (.int .i64 (pv : Int)) := hbx7.cell 3; have h5 : w7.cell? ⟨X, 5, none⟩ = some (.slice p.a p.n p.c) := hbx7.cell 5; have HRB7 := Lib.hid (RB.kept_out HRB6.out HFR.out HBY7.out.buf HBY7.out.out hO7); have HBY8 := Lib.hid (HBY7.out.step hbuf7 hO7 hn7); have HBX7 := Lib.hid hbx7; have HR9 : Hid (R < w7.heap.size) := Nat.lt_of_lt_of_le HR8.out hO7.size; clear hbuf7 hO7 hn7 hbx7)
                | (go_at_call 58; refine HF1.out.mono ?_; rintro e w6 ⟨v6, rfl, hbuf6, hO6, hn6⟩; obtain ⟨za, zn, zc, rfl⟩ := RB.form hbuf6.rb; have hbx6 : Blk w6 X _ _ := Blk.kept_out (show Blk W.drew X _ _ from HBXW.out) (by decide) HBYW.out.buf hO6; have g3 : w6.cell? ⟨X, 3, none⟩ = some (.int .i64 (pv : Int)) := hbx6.cell 3; have g5 : w6.cell? ⟨X, 5, none⟩ = some (.slice p.a p.n p.c) := hbx6.cell 5; have HRB6 := Lib.hid (RB.kept_out HRBW.out HFR.out HBYW.out.buf HBYW.out.out hO6); have hby7 := HBYW.out.step hbuf6 hO6 hn6; have HF2 := Lib.hid (four_own w.heap.size _ (bs6 ++ four pv) p.n w6 hby7.buf hpn2 (by have := HBL.out; rw [List.length_append, four_len]; omega) hby7.below.size); have HBY7 := Lib.hid hby7; have HBX6 := Lib.hid hbx6; have HR8 : Hid (R < w6.heap.size) := Nat.lt_of_lt_of_le HR7.out hO6.size; clear hbuf6 hO6 hn6 hbx6 hby7)
                | (refine step_append_buf rfl (.tmp 50) (.tmp 52) rfl w.heap.size (.slice ya yn yc) (bs6 ++ four pv ++ four p.n) rfl HBY8.out.buf (.slice p.a p.n p.c) p.vt.value rfl HRB7.out (by have := HBL.out; simp only [List.length_append, four_len]; omega) HBY8.out.below.size ?_; intro v' w8 hbuf8 hgr8 hf8; have hO8 : Only (fun k => (Value.slice ya yn yc).ownBlock = some k) w7 w8 := (Only.refl _ w7).grown hgr8 (fun k e _ => e); have hbx8 : Blk w8 X _ _ := Blk.kept_out HBX7.out (by decide) HBY8.out.buf hO8; have m3 : w8.cell? ⟨X, 3, none⟩ = some (.int .i64 (pv : Int)) := hbx8.cell 3; have m5 : w8.cell? ⟨X, 5, none⟩ = some (.slice p.a p.n p.c) := hbx8.cell 5; have HBY9 := Lib.hid (HBY8.out.step hbuf8 hO8 hf8); have HR10 : Hid (R < w8.heap.size) := Nat.lt_of_lt_of_le HR9.out hO8.size; clear hbuf8 hgr8 hf8 hO8 hbx8))
            all_goals
              go_wp2_with fail
              exact ⟨⟨i + 1, by omega, by push_cast; rfl, HR10, by rw [HNEXT.out]; exact HBY9⟩, by simp [intOf]; omega⟩
          · obtain rfl : i = N := by omega
            have hall : lj.take i = lj := List.take_of_length_le (by rw [HN.out]; exact Nat.le_refl _)
            rw [hall] at HBY6
            have heq : pj ++ four i ++ lj.flatMap voteB = preB' vw l2 l3 (j + 1) := by rw [HST.out, votesB_eq, HN.out, List.append_assoc]
            rw [heq] at HBY6
            clear hall heq
            go_wp2_with fail
            exact ⟨⟨j + 1, by omega, by push_cast; rfl, HR6, HBY6⟩, by simp [intOf]; omega⟩
      · obtain rfl : j = 2 := by omega
        obtain ⟨ua, un, uc, rfl⟩ := RB.form HBY2.out.buf.rb
        obtain ⟨dv, hdv⟩ : ∃ dv, c.decided = dv := ⟨_, rfl⟩
        have hbw := HBY2.out.below
        have d15 : wr.cell? ⟨b, 15, none⟩ = some (.bool dv) := by rw [← hdv]; exact (HC.out.hblk.below hbw HC.out.hblk.lt).cell 15
        have d16 : wr.cell? ⟨b, 16, none⟩ = some va := (HC.out.hblk.below hbw HC.out.hblk.lt).cell 16
        have hcb := HC.out.hblk.below hbw HC.out.hblk.lt
        have hlow := HC.out.hva.low
        obtain ⟨sa, sc, hvs, _⟩ := id HC.out.hva
        obtain ⟨sl, hsl⟩ : ∃ sl, c.value.length = sl := ⟨_, rfl⟩
        rw [hsl] at hvs
        subst hvs
        have hsl2 : sl < 4294967296 := by have := HOK.out.len0; omega
        obtain ⟨bs6, hbs6⟩ : ∃ bs6, preB' vw l2 l3 2 = bs6 := ⟨_, rfl⟩
        have hby : bytesC c = bs6 ++ (if c.decided then 1 :: four c.value.length ++ c.value else 0 :: four 0) := by
          rw [← hbs6, ← HL2.out, ← HL3.out]
          unfold bytesC
          rw [HVW.out]
          rfl
        have hl6 : bs6.length ≤ 30000000010 := by
          rw [← hbs6]
          show (four vw ++ votesB l2 ++ votesB l3).length ≤ _
          have := HLENS.out
          rw [List.length_append, List.length_append, four_len]; omega
        rw [hbs6] at HBY2
        rw [hdv, hsl] at hby
        have HBYC := Lib.hid hby
        have HSL := Lib.hid hsl
        have HLOW := Lib.hid hlow
        have HCB := Lib.hid hcb
        clear hbs6 hby hdv hsl hbw hlow hcb HIN HLENS
        cases dv
        case true =>
          obtain ⟨LIT, hLIT⟩ : ∃ LIT, Obj.cells #[.int .u8 1] 5 = LIT := ⟨_, rfl⟩
          have HRL : Hid (RB (wr.alloc (.cells #[.int .u8 1] 5)).drew (.slice (some ⟨wr.heap.size, 0, none⟩) 1 1) [1]) := (rb_lit wr 1 (by decide)).below (Below.refl _ _).drew
          have hba : Below wr.heap.size wr (wr.alloc (.cells #[.int .u8 1] 5)).drew := ((Below.refl _ wr).alloc (Nat.le_refl _) _).drew
          have HBYL := Lib.hid (HBY2.out.moved hba)
          have HCBL := Lib.hid (HCB.out.below hba HCB.out.lt)
          have a16 : (wr.alloc (.cells #[.int .u8 1] 5)).cell? ⟨b, 16, none⟩ = some (.slice sa sl sc) := Lib.cell?_alloc_some _ d16
          clear hba hLIT
          go_wp2_with fail
          go_region_held3 (fun w' => w'.cell? ⟨b, 16, none⟩ = some (.slice sa sl sc)) (first | exact d16 | exact a16 | exact g16 | exact h16 | exact m16 | assumption)
            (first
              | (go_at_call 58; refine HF2.out.mono ?_; rintro e w7 ⟨v7, rfl, hbuf7, hO7, hn7⟩; obtain ⟨ya, yn, yc, rfl⟩ := RB.form hbuf7.rb; have hcb7 : Blk w7 b _ _ := Blk.kept_out HCB6.out (by decide) HBY6.out.buf hO7; have h16 : w7.cell? ⟨b, 16, none⟩ = some (.slice sa sl sc) := hcb7.cell 16; have HBY7 := Lib.hid (HBY6.out.step hbuf7 hO7 hn7); have HRB7 := Lib.hid (HLOW.out.below HBY7.out.below).1; have HCB7 := Lib.hid hcb7; clear hbuf7 hO7 hn7 hcb7)
              | (refine step_append_buf rfl (.tmp 60) (.tmp 61) rfl w.heap.size (.slice ua un uc) bs6 rfl HBYL.out.buf (.slice (some ⟨wr.heap.size, 0, none⟩) 1 1) [1] rfl HRL.out (by rw [List.length_singleton]; omega) HBYL.out.below.size ?_; intro v' w6 hbuf6 hgr6 hf6; obtain ⟨za, zn, zc, rfl⟩ := RB.form hbuf6.rb; have hO6 : Only (fun k => (Value.slice ua un uc).ownBlock = some k) (wr.alloc (.cells #[.int .u8 1] 5)).drew w6 := (Only.refl _ _).grown hgr6 (fun k e _ => e); have hcb6 : Blk w6 b _ _ := Blk.kept_out HCBL.out (by decide) HBYL.out.buf hO6; have g16 : w6.cell? ⟨b, 16, none⟩ = some (.slice sa sl sc) := hcb6.cell 16; have hby6 := HBYL.out.step hbuf6 hO6 hf6; have HF2 := Lib.hid (four_own w.heap.size _ (bs6 ++ [1]) sl w6 hby6.buf hsl2 (by rw [List.length_append, List.length_singleton]; omega) hby6.below.size); have HBY6 := Lib.hid hby6; have HCB6 := Lib.hid hcb6; clear hbuf6 hgr6 hf6 hO6 hcb6 hby6)
              | (refine step_append_buf rfl (.tmp 68) (.tmp 72) rfl w.heap.size (.slice ya yn yc) (bs6 ++ [1] ++ four sl) rfl HBY7.out.buf (.slice sa sl sc) c.value rfl HRB7.out (by have := HSL.out; simp only [List.length_append, four_len, List.length_singleton]; omega) HBY7.out.below.size ?_; intro v' w8 hbuf8 hgr8 hf8; have hO8 : Only (fun k => (Value.slice ya yn yc).ownBlock = some k) w7 w8 := (Only.refl _ w7).grown hgr8 (fun k e _ => e); have hcb8 : Blk w8 b _ _ := Blk.kept_out HCB7.out (by decide) HBY7.out.buf hO8; have m16 : w8.cell? ⟨b, 16, none⟩ = some (.slice sa sl sc) := hcb8.cell 16; have HBY9 := Lib.hid (HBY7.out.step hbuf8 hO8 hf8); clear hbuf8 hgr8 hf8 hO8 hcb8))
          all_goals
            go_wp2_with fail
            go_ret
            have he : bytesC c = bs6 ++ [1] ++ four sl ++ c.value := by rw [HBYC.out]; simp
            rw [he]
            exact ⟨_, rfl, HBY9.out.buf, HBY9.out.below⟩
        case false =>
          have HRL : Hid (RB (wr.alloc (.cells #[.int .u8 0] 5)) (.slice (some ⟨wr.heap.size, 0, none⟩) 1 1) [0]) := rb_lit wr 0 (by decide)
          have HBYL := Lib.hid (HBY2.out.moved ((Below.refl _ wr).alloc (Nat.le_refl _) (.cells #[.int .u8 0] 5)))
          clear d16
          go_wp2_with (first | (refine wpList_append_buf _ rfl (.tmp 74) (.tmp 75) rfl w.heap.size _ bs6 rfl HBYL.out.buf _ [0] rfl HRL.out (by rw [List.length_singleton]; omega) HBYL.out.below.size ?_; intro v' w6 hbuf6 hgr6 hf6; obtain ⟨za, zn, zc, rfl⟩ := RB.form hbuf6.rb; have hO6 : Only (fun k => (Value.slice ua un uc).ownBlock = some k) (wr.alloc (.cells #[.int .u8 0] 5)) w6 := (Only.refl _ _).grown hgr6 (fun k e _ => e); have hby6 := HBYL.out.step hbuf6 hO6 hf6; have HF2 : Hid (Calls Try.prog 58 #[.slice za zn zc, .int .i64 0] w6 _) := four_own w.heap.size _ (bs6 ++ [0]) 0 w6 hby6.buf (by decide) (by rw [List.length_append, List.length_singleton]; omega) hby6.below.size; have HBY6 := Lib.hid hby6; clear hbuf6 hgr6 hf6 hO6 hby6))
          refine HF2.out.mono ?_
          rintro e w7 ⟨v7, rfl, hbuf7, hO7, hn7⟩
          have HBY7 := Lib.hid (HBY6.out.step hbuf7 hO7 hn7)
          clear hbuf7 hO7 hn7
          go_wp2_with fail
          go_ret
          have he : bytesC c = bs6 ++ [0] ++ four 0 := by rw [HBYC.out]; simp
          rw [he]
          exact ⟨_, rfl, HBY7.out.buf, HBY7.out.below⟩
end Go.Proofs.Ytilhdelijdkjpaa
