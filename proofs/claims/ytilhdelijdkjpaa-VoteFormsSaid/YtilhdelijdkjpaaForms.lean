/-
  The law VoteForms, walked.
-/
import Derived.Test.YtilhdelijdkjpaaLi
import Derived.Test.YtilhdelijdkjpaaAr
set_option linter.unusedVariables false
set_option linter.unusedSimpArgs false
namespace Go.Proofs.Ytilhdelijdkjpaa
open Go Go.RowKit Go.Maps Sac

theorem IB.str {w : World} {v : Value} {bs : List Nat} (h : IB w v bs) : (convert 29 9 v).run Try.prog w = .ok (.string (strB bs)) w := by
  obtain ⟨a, cap, rfl, _, _, h0, hr, _⟩ := h
  exact rdc_str hr h0
theorem strB_ne {l m : List Nat} (hl : ∀ x ∈ l, x < 256) (hm : ∀ x ∈ m, x < 256) : decide (strB l = strB m) = (l == m) := strB_beq hl hm
theorem wf_wrap {x : Int} (h : (Lit.int .i64 x).wf = true) : -9223372036854775808 ≤ x ∧ x ≤ 9223372036854775807 := by
  simp only [Lit.wf, Bool.and_eq_true, decide_eq_true_eq] at h
  have e1 : IntKind.i64.min = -9223372036854775808 := rfl
  have e2 : IntKind.i64.max = 9223372036854775807 := rfl
  omega

theorem votesR_maps {me cv : Int} (hme : 1 ≤ me ∧ me ≤ 64) : ∀ (k : Nat) (last : Int) (r : RdS) (m : List (Int × TellM)), (∀ x ∈ r.1, x < 256) → MapsOk m → MapsOk (votesR me cv k last r m).2
  | 0, _, _, _, _, h => h
  | k + 1, last, r, m, hb, h => by
    unfold votesR
    split
    · exact h
    · have sub : ∀ (n : Nat) (r : RdS), (∀ x ∈ r.1, x < 256) → ∀ x ∈ (takeR n r).2.1, x < 256 := fun n r hr => by
        unfold takeR
        split
        · exact hr
        · exact fun x hx => hr x (List.mem_of_mem_drop hx)
      have h1 := sub 4 r hb
      have h2 := sub 4 (fourR r).2 h1
      refine votesR_maps hme k _ _ _ (sub _ _ h2) ?_
      have hv := fourR_lt hb
      cases hs : setV m (fourR r).1 me (takeR (fourR (fourR r).2).1 (fourR (fourR r).2).2).1 with
      | none => exact h
      | some m' =>
        obtain ⟨_, rfl⟩ := setV_some hs
        exact mapsOk_put h ⟨by omega, by omega⟩ hme _
/-- What Of accepts has just these bytes, and can be written. -/
theorem ofC_some {n me slot : Int} {bs : Bs} {c : Core} (h : ofC n me slot bs = some c) (hlen : bs.length ≤ 30000000000) (h256 : ∀ x ∈ bs, x < 256) (hme : 1 ≤ me ∧ me ≤ 64) : bytesC c = bs ∧ ByOk c := by
  unfold ofC parseC at h
  obtain ⟨⟨view, r1⟩, h1⟩ : ∃ x, fourR (bs, false) = x := ⟨_, rfl⟩
  rw [h1] at h
  obtain ⟨⟨k2, r2⟩, h2⟩ : ∃ x, fourR r1 = x := ⟨_, rfl⟩
  simp only [h2] at h
  obtain ⟨⟨r3, m2⟩, h3⟩ : ∃ x, votesR me view k2 (-1) r2 [] = x := ⟨_, rfl⟩
  simp only [h3] at h
  obtain ⟨⟨k3, r4⟩, h4⟩ : ∃ x, fourR r3 = x := ⟨_, rfl⟩
  simp only [h4] at h
  obtain ⟨⟨r5, m3⟩, h5⟩ : ∃ x, votesR me view k3 (-1) r4 [] = x := ⟨_, rfl⟩
  simp only [h5] at h
  obtain ⟨⟨kind, r6⟩, h6⟩ : ∃ x, takeR 1 r5 = x := ⟨_, rfl⟩
  simp only [h6] at h
  obtain ⟨⟨ln, r7⟩, h7⟩ : ∃ x, fourR r6 = x := ⟨_, rfl⟩
  simp only [h7] at h
  obtain ⟨⟨value, r8⟩, h8⟩ : ∃ x, takeR ln r7 = x := ⟨_, rfl⟩
  simp only [h8] at h
  split at h
  · cases h
  · rename_i hc
    simp only [Option.bind_some] at h
    split at h
    · rename_i hb
      obtain rfl := Option.some.inj h
      refine ⟨hb, ?_⟩
      have sub : ∀ (j : Nat) (r : RdS), (∀ x ∈ r.1, x < 256) → ∀ x ∈ (takeR j r).2.1, x < 256 := fun j r hr => by
        unfold takeR
        split
        · exact hr
        · exact fun x hx => hr x (List.mem_of_mem_drop hx)
      have s1 := sub 4 (bs, false) h256
      rw [show (takeR 4 (bs, false)).2 = (fourR (bs, false)).2 from rfl, h1] at s1
      have s2 := sub 4 r1 s1
      rw [show (takeR 4 r1).2 = (fourR r1).2 from rfl, h2] at s2
      have s3 : ∀ x ∈ r3.1, x < 256 := votesR_sub me view k2 (-1) r2 [] s2 h3
      have s4 := sub 4 r3 s3
      rw [show (takeR 4 r3).2 = (fourR r3).2 from rfl, h4] at s4
      have s5 : ∀ x ∈ r5.1, x < 256 := votesR_sub me view k3 (-1) r4 [] s4 h5
      have s6 := sub 1 r5 s5
      rw [h6] at s6
      have o2 := votesR_maps (cv := view) hme k2 (-1) r2 [] s2 (fun q hq => by cases hq)
      rw [h3] at o2
      have o3 := votesR_maps (cv := view) hme k3 (-1) r4 [] s4 (fun q hq => by cases hq)
      rw [h5] at o3
      have hbad : r8.2 = false := by
        cases hx : r8.2
        · rfl
        · exact absurd (.inl hx) hc
      exact byok_read _ hlen h256 hme h1 h2 h3 h4 h5 h6 h7 h8 hbad o2 o3 s2 s4 s6
    · cases h

theorem fresh_grown {w w' : World} {o : Obj} {n c : Nat} (hg : (w.alloc o).grownBy w' (Value.slice (some ⟨w.heap.size, 0, none⟩) n c).ownBlock) : Below w.heap.size w w' :=
  ((Only.refl (fun k => w.heap.size ≤ k) w).alloc _ |>.grown hg (fun k e _ => by cases e; exact Nat.le_refl _)).toBelow (Nat.le_refl _) (fun _ h => h)

set_option linter.all false in
set_option maxRecDepth 100000 in
set_option maxHeartbeats 8000000 in
theorem forms_walk (a0 a1 a2 : Int) (a3 : Option Addr) (len3 cap3 : Nat) (z3 : List Int) (w : World) (w0 : (Lit.int .i64 a0).wf = true) (w1 : (Lit.int .i64 a1).wf = true) (w2 : (Lit.int .i64 a2).wf = true)
    (w3 : (a3 = none ∧ len3 = 0 ∧ cap3 = 0 ∧ z3 = []) ∨ ∃ x, a3 = some x ∧ len3 ≤ cap3 ∧ cap3 ≤ maxLen ∧ z3.length = cap3 ∧ (∀ i, i < z3.length → w.cell? (x.add i) = some (.int .u8 (z3.getD i 0))) ∧ ∀ n ∈ z3, (Lit.int .u8 n).wf = true) :
    Calls Try.prog 4 #[.int .i64 a0, .int .i64 a1, .int .i64 a2, .slice a3 len3 cap3] w fun e w' => e = .returned (.bool true) ∧ Below w.heap.size w w' := by
  obtain ⟨bs, hl, hb⟩ := bytes_in w3
  have HB := Lib.hid hb
  have HL := Lib.hid hl
  obtain ⟨r0, hr0⟩ : ∃ r0 : Nat, (IntKind.u64.wrap a0).tmod 9 = (r0 : Int) := ⟨((IntKind.u64.wrap a0).tmod 9).toNat, by rw [IntKind.wrap_u64, Int.tmod_eq_emod_of_nonneg (by omega)]; omega⟩
  have hr0l : r0 < 9 := by rw [IntKind.wrap_u64, Int.tmod_eq_emod_of_nonneg (by omega)] at hr0; omega
  obtain ⟨n0, hn0⟩ : ∃ n0 : Nat, 4 + r0 = n0 := ⟨_, rfl⟩
  have hn4 : 4 ≤ n0 ∧ n0 ≤ 12 := by omega
  obtain ⟨r1, hr1⟩ : ∃ r1 : Nat, (IntKind.u64.wrap a1).tmod (n0 : Int) = (r1 : Int) := ⟨((IntKind.u64.wrap a1).tmod (n0 : Int)).toNat, by rw [IntKind.wrap_u64, Int.tmod_eq_emod_of_nonneg (by omega)]; have := Int.emod_nonneg (a1 % 18446744073709551616) (show (n0 : Int) ≠ 0 by omega); omega⟩
  have hr1l : r1 < n0 := by
    rw [IntKind.wrap_u64, Int.tmod_eq_emod_of_nonneg (by omega)] at hr1
    have := Int.emod_lt_of_pos (a1 % 18446744073709551616) (show (0 : Int) < (n0 : Int) by omega)
    omega
  obtain ⟨r2, hr2⟩ : ∃ r2 : Nat, (IntKind.u64.wrap a2).tmod 257 = (r2 : Int) := ⟨((IntKind.u64.wrap a2).tmod 257).toNat, by rw [IntKind.wrap_u64, Int.tmod_eq_emod_of_nonneg (by omega)]; omega⟩
  have hr2l : r2 < 257 := by rw [IntKind.wrap_u64, Int.tmod_eq_emod_of_nonneg (by omega)] at hr2; omega
  have x1 : IntKind.u64.wrap (r0 : Int) = (r0 : Int) := by rw [IntKind.wrap_u64]; omega
  have x2 : IntKind.i64.wrap (r0 : Int) = (r0 : Int) := by rw [IntKind.wrap_i64]; omega
  have x3 : IntKind.i64.wrap (4 + (r0 : Int)) = (n0 : Int) := by rw [IntKind.wrap_i64]; omega
  have x4 : IntKind.u64.wrap (n0 : Int) = (n0 : Int) := by rw [IntKind.wrap_u64]; omega
  have x5 : IntKind.u64.wrap (r1 : Int) = (r1 : Int) := by rw [IntKind.wrap_u64]; omega
  have x6 : IntKind.i64.wrap (r1 : Int) = (r1 : Int) := by rw [IntKind.wrap_i64]; omega
  have x7 : IntKind.i64.wrap (1 + (r1 : Int)) = 1 + (r1 : Int) := by rw [IntKind.wrap_i64]; omega
  have x8 : IntKind.u64.wrap (r2 : Int) = (r2 : Int) := by rw [IntKind.wrap_u64]; omega
  have x9 : IntKind.i64.wrap (r2 : Int) = (r2 : Int) := by rw [IntKind.wrap_i64]; omega
  have y1 : (n0 : Int) ≠ 0 := by omega
  have y2 : ((n0 : Int) == 0) = false := by simp; omega
  clear hn0
  have hlv := Lib.hid (lives_any w)
  clear hb hl w3
  go_enter Try.func4, Try.ntmps4
  go_wp2_with fail
  refine hlv.out.mono ?_
  rintro e wA ⟨rfl, hbA⟩
  have HBA := Lib.hid hbA
  clear hbA
  by_cases hlong : (2000 : Int) < (len3 : Int)
  · have hd : decide ((2000 : Int) < (len3 : Int)) = true := decide_eq_true hlong
    have hlv2 := Lib.hid (lives_any wA)
    go_wp2_with fail
    refine hlv2.out.mono ?_
    rintro e wB ⟨rfl, hbB⟩
    have HBB := Lib.hid (HBA.out.trans (hbB.mono HBA.out.size))
    clear hbB
    go_wp2_with fail
    go_ret
    exact ⟨rfl, HBB.out⟩
  · have hd : decide ((2000 : Int) < (len3 : Int)) = false := decide_eq_false hlong
    -- a copy of the bytes
    have hBA2 : Below w.heap.size w wA := HBA.out
    have hib : IB (wA.alloc (.cells #[] 5)) (.slice a3 len3 cap3) bs := HB.out.below (hBA2.alloc hBA2.size _)
    have hbuf0 : Buf (wA.alloc (.cells #[] 5)) wA.heap.size (.slice (some ⟨wA.heap.size, 0, none⟩) 0 0) [] := ⟨fun x hx => (by cases hx), .inr ⟨wA.heap.size, 0, 0, [], [], rfl, Nat.le_refl _, Blk.new wA [] 5, rfl, ⟨Nat.le_refl _, Nat.le_refl _⟩, by decide⟩⟩
    have HIB := Lib.hid hib
    have HBUF0 := Lib.hid hbuf0
    clear hib hbuf0 hBA2
    go_wp2_with (first | (refine wpList_append_in _ rfl (.tmp 36) (.tmp 37) rfl wA.heap.size _ [] rfl HBUF0.out _ bs rfl HIB.out (by have := HL.out; rw [List.length_nil]; omega) (by simp) ?_; intro v' wC hbuf hgr hf; rw [List.nil_append] at hbuf; obtain ⟨oa, on, oc, rfl⟩ := RB.form hbuf.rb; have hbC : Below w.heap.size w wC := HBA.out.trans ((fresh_grown hgr).mono HBA.out.size); have HBC := Lib.hid hbC; have HOWN := Lib.hid hbuf.rb; have HIC := Lib.hid (HB.out.below hbC); have HOF := Lib.hid (of_any (acc := anyV) 0 (.slice oa on oc) bs (tint_none wC) any_acc (n := (n0 : Int)) (me := 1 + (r1 : Int)) (slot := (r2 : Int)) (by omega) (by omega) (by omega) hbuf.rb (by have := HL.out; omega)); clear hbuf hgr hf hbC))
    refine HOF.out.mono ?_
    rintro e wD hpD
    cases hof : ofC (n0 : Int) (1 + (r1 : Int)) (r2 : Int) bs with
    | none =>
      rw [hof] at hpD
      obtain ⟨rfl, colD, hED⟩ := hpD
      have hf := (⟨Below.refl _ _, fun _ _ => rfl⟩ : Fresh0 wC (fun _ => none) wC).step hED
      have hs1 := rb_str (HOWN.out.ext hED (tint_none wC))
      have hs2 := (HIC.out.below hf.below).str
      have HBD := Lib.hid (HBC.out.trans (hf.below.mono HBC.out.size))
      clear hED hf HIB HBUF0 hof
      go_wp2_with fail
      go_ret
      exact ⟨rfl, HBD.out⟩
    | some c =>
      rw [hof] at hpD
      obtain ⟨b, colD, rfl, hbs, hED, hC⟩ := hpD
      obtain ⟨hbytes, hbyok⟩ := ofC_some hof (by have := HL.out; omega) HB.out.lt (by omega)
      have hf := (⟨Below.refl _ _, fun _ _ => rfl⟩ : Fresh0 wC (fun _ => none) wC).step hED
      have hs1 := rb_str (HOWN.out.ext hED (tint_none wC))
      have hs2 := (HIC.out.below hf.below).str
      have HBD := Lib.hid (HBC.out.trans (hf.below.mono HBC.out.size))
      have HBCD := Lib.hid hf.below
      have HBYT := Lib.hid (bytes_any (hED.tint.below (Below.refl _ wD).drew) (hC.below hED.tint (Below.refl _ wD).drew) hbyok)
      rw [hbytes] at HBYT
      have hs3 := (HIC.out.below (HBCD.out.trans ((Below.refl _ wD).drew.mono HBCD.out.size))).str
      clear hED hf HIB HBUF0 hof hbs hC hbytes hbyok
      go_wp2_with fail
      go_region_law (first
        | (go_simp; go_at_call 16; refine HBYT.out.mono ?_; rintro e wE ⟨bv, rfl, hbuf, hbE⟩; have hq1 := rb_str hbuf.rb; have hq2 := (HIC.out.below (HBCD.out.trans (((Below.refl _ wD).drew.trans hbE).mono HBCD.out.size))).str; have HBE := Lib.hid (HBD.out.trans (((Below.refl _ wD).drew.trans hbE).mono HBD.out.size)); clear hbuf hbE)
        | fail)
      all_goals
        go_wp2_with fail
        go_ret
        exact ⟨rfl, HBE.out⟩
end Go.Proofs.Ytilhdelijdkjpaa
