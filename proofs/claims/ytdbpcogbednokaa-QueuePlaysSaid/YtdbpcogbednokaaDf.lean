/-
  heap.Init over the queue's items; (*Queue).Drop.
-/
import Derived.Test.YtdbpcogbednokaaDe
set_option linter.unusedVariables false
set_option linter.unusedSimpArgs false
namespace Go.Proofs.Ytdbpcogbednokaa
open Go.RowKit

set_option maxRecDepth 100000 in
set_option maxHeartbeats 2000000 in
theorem init_any (bq bi cap n : Nat) (L : List Item) (rest : List Value) (hn : L.length = n) (w : World)
    (hne : bq ≠ bi) (hlen : (n : Int) ≤ 100000)
    (hq : w.cell? ⟨bq, 0, none⟩ = some (.slice (some ⟨bi, 0, none⟩) n cap)) (hql : bq < w.heap.size)
    (hB : Blk w bi 58 (flat L ++ rest)) :
    Calls Try.prog 34 #[.iface 56 (.pointer (some ⟨bq, 0, none⟩))] w fun e w' => e = .returned (.tuple #[]) ∧ ∃ L' : List Item, L'.Perm L ∧ Only (· = bi) w w' ∧ Blk w' bi 58 (flat L' ++ rest) ∧ Hp.IsHeap Item.lt (at0 L') n := by
  have mL := method_len ⟨bq, 0, none⟩ _ w hq
  have HB := Lib.hid hB
  have HQ := Lib.hid hq
  have HN := Lib.hid hn
  clear hB hq hn
  have hq1 : ((n : Int).tdiv 2) = ((n / 2 : Nat) : Int) := by rw [Int.tdiv_eq_ediv_of_nonneg (by omega)]; omega
  obtain ⟨h, hh⟩ : ∃ h, n / 2 = h := ⟨_, rfl⟩
  rw [hh] at hq1
  have HH := Lib.hid hh
  have hhb : (h : Int) ≤ 100000 := by omega
  clear hh
  go_enter Try.func34, Try.ntmps34
  go_wp2_with fail
  refine (len_any _ _ _ _).mono ?_
  rintro e w ⟨rfl, rfl⟩
  clear mL
  go_wp2_with fail
  go_loopw [3] (fun u wr => ∃ (k : Nat) (M : List Item), k ≤ h ∧ u = .int .i64 ((k : Int) - 1) ∧ Hid (M.Perm L) ∧ Hid (Only (· = bi) w wr) ∧ Hid (Blk wr bi 58 (flat M ++ rest)) ∧ Hid (Hp.HeapFrom Item.lt (at0 M) n k)) (fun u _ => (intOf u + 1).toNat)
  case atStart => exact ⟨h, L, Nat.le_refl _, by rfl, List.Perm.refl _, Only.refl _ _, HB.out, Hp.from_all (by have := HH.out; omega)⟩
  case round =>
    obtain ⟨k, M, hk, rfl, HP, HO, HBr, HF⟩ := hrel
    by_cases hk0 : 0 < k
    · obtain ⟨j, rfl⟩ : ∃ j, k = j + 1 := ⟨k - 1, by omega⟩
      have hge : (0 : Int) ≤ ((j + 1 : Nat) : Int) - 1 := by omega
      have HE : Hid (((j + 1 : Nat) : Int) - 1 = (j : Int)) := by show _ = _; omega
      have hm : M.length = n := by rw [HP.out.length_eq]; exact HN.out
      have HM := Lib.hid hm
      have hqr : wr.cell? ⟨bq, 0, none⟩ = some (.slice (some ⟨bi, 0, none⟩) n cap) := by
        rw [← HQ.out]; exact World.cell?_of_block (HO.out.block bq hql hne)
      have HQR := Lib.hid hqr
      have hqs : bq < wr.heap.size := Nat.lt_of_lt_of_le hql HO.out.size
      have hjn : j ≤ n := by have := HH.out; omega
      clear hm hqr
      go_wp2_with fail
      rw [HE.out]
      refine (down_any bq bi cap n n j M rest HM.out (Nat.le_refl _) wr hne hlen hjn HQR.out hqs HBr.out (Hp.down_start HF.out)).mono ?_
      rintro e w2 ⟨b, rfl, M2, hS⟩
      have HS := Lib.hid hS
      clear hS
      go_wp2_with fail
      go_roundw
      case rel => exact ⟨j, M2, by omega, by go_num, HS.out.perm.trans HP.out, HO.out.trans HS.out.only, HS.out.blk, HS.out.heap⟩
      case measure => simp [intOf] <;> omega
    · obtain rfl : k = 0 := by omega
      go_wp2_with fail
      go_end0
      exact ⟨rfl, M, HP.out, HO.out, HBr.out, Hp.heap_of_from HF.out⟩

def keptS (ax : Int) (e : Int × Int) : Bool := !same4 e.2 ax

theorem map_kept (ax : Int) (T : List Item) : (T.filter (kept ax)).map Item.key = (T.map Item.key).filter (keptS ax) := by
  rw [List.filter_map]; rfl

set_option maxRecDepth 100000 in
set_option maxHeartbeats 2000000 in
theorem drop_any {F : Nat → Prop} {bq : Nat} {S : List (Int × Int)} {m : Nat} {w : World} (ba : Nat) (ax : Int) (hQ : QAt F bq S m w) (harg : w.cell? ⟨ba, 2, none⟩ = some (.int .i64 ax)) (hba : ba < w.heap.size) (hF : ¬ F ba) :
    Calls Try.prog 17 #[.pointer (some ⟨bq, 0, none⟩), .func (.func 18) #[] #[.pointer (some ⟨ba, 0, none⟩)]] w fun e w' => e = .returned (.int .i64 ((S.length : Int) - (S.filter (keptS ax)).length)) ∧ Only F w w' ∧ QAt F bq (S.filter (keptS ax)) m w' := by
  have HQ0 := Lib.hid hQ
  obtain ⟨v, L, last, T, hR, hp, hs, hS, ha, h0, hm, hl⟩ := hQ
  have hlS := len_S hp hS
  have hKp : (L.filter (kept ax)).Perm (T.filter (kept ax)) := hp.filter _
  have hKs : Sorted (T.filter (kept ax)) := hs.filter _
  have hKm : (T.filter (kept ax)).map Item.key = S.filter (keptS ax) := by rw [map_kept, hS]
  have hKl := len_S hKp hKm
  have hKle : (S.filter (keptS ax)).length ≤ S.length := List.length_filter_le _ _
  obtain ⟨_, ⟨rfl, hz, _⟩ | ⟨g, cap, rest, rfl, _, hB, hc1, hc2, hcl⟩⟩ := own_elim hR.own
  · have hSz : S = [] := List.eq_nil_of_length_eq_zero (by omega)
    subst hSz
    have q0 : w.cell? ⟨bq, 0, none⟩ = some (.slice none (0 : Nat) 0) := hR.blk.cell 0
    have q1 := Lib.cell?_alloc_some (.cells #[.func (.func 18) #[] #[.pointer (some ⟨ba, 0, none⟩)]] 33) q0
    have HQ : Hid (QAt F bq [] m w) := ⟨_, L, last, T, hR, hp, hs, hS, ha, h0, hm, hl⟩
    clear q0 hR hp hs hS ha hm hKp hKs hKm
    go_enter Try.func17, Try.ntmps17
    go_wp2_with fail
    refine (qlen_raw bq 0 0 none _ q1).mono ?_
    rintro e w2 ⟨rfl, rfl⟩
    go_wp2_with fail
    go_ret
    exact ⟨rfl, (Only.refl F w).alloc _, HQ.out.only ((Only.refl (fun _ => False) w).alloc _) (fun _ _ h => h)⟩
  · have hgb : g ≠ bq := hR.ne g rfl
    obtain ⟨n, hn⟩ : ∃ n, L.length = n := ⟨_, rfl⟩
    rw [hn] at hc1
    have hlen : (n : Int) ≤ 100000 := by omega
    have q0 : w.cell? ⟨bq, 0, none⟩ = some (.slice (some ⟨g, 0, none⟩) n cap) := by rw [← hn]; exact hR.blk.cell 0
    have q1 := Lib.cell?_alloc_some (.cells #[.func (.func 18) #[] #[.pointer (some ⟨ba, 0, none⟩)]] 33) q0
    have hC : Clo (w.alloc (.cells #[.func (.func 18) #[] #[.pointer (some ⟨ba, 0, none⟩)]] 33)) w.heap.size ba ax := ⟨by simp, Lib.cell?_alloc_some _ harg, by simp, by simp; omega⟩
    have hgl := hB.lt
    have hbl := hR.blk.lt
    have hgF : F g := hR.mine.2 g rfl
    have hbF : F bq := hR.mine.1
    have hag : ba ≠ g := fun e => hF (e ▸ hgF)
    have hdel := delete_any w.heap.size ba g n cap ax L rest _ hn hlen hc1 (hB.alloc _) hC (by omega) hag
    have HBQ : Hid (Blk (w.alloc (.cells #[.func (.func 18) #[] #[.pointer (some ⟨ba, 0, none⟩)]] 33)) bq 54 [.slice (some ⟨g, 0, none⟩) n cap, .int .i64 last]) := by rw [← hn]; exact hR.blk.alloc _
    have HH := Lib.hid (And.intro hKp (And.intro hKs (And.intro hKm (And.intro ha (And.intro hm (And.intro hl hR.ne))))))
    have HN := Lib.hid hn
    have HCL := Lib.hid hcl
    have HDel := Lib.hid hdel
    have HKL := Lib.hid hKl
    have hSn : S.length = n := by omega
    obtain ⟨N, hNN⟩ : ∃ N, (S.filter (keptS ax)).length = N := ⟨_, rfl⟩
    rw [hSn, hNN]
    have HNN := Lib.hid hNN
    have hNle : N ≤ n := by omega
    clear hR hp hs hS ha hm hKp hKs hKm q0 hdel hC hn hcl hB hlS hKl hl hKle hNN
    go_enter Try.func17, Try.ntmps17
    go_wp2_with fail
    refine (qlen_raw bq n cap _ _ q1).mono ?_
    rintro e w2 ⟨rfl, rfl⟩
    by_cases hn0 : n = 0
    · have hnz : ((n : Int) == 0) = true := by rw [hn0]; rfl
      go_wp2_with fail
      go_ret
      refine ⟨by rw [hn0, show N = 0 by omega]; rfl, (Only.refl F w).alloc _, ?_⟩
      have hSz : S = [] := List.eq_nil_of_length_eq_zero (by omega)
      subst hSz
      exact HQ0.out.only ((Only.refl (fun _ => False) w).alloc _) (fun _ _ h => h)
    · have hnz : ((n : Int) == 0) = false := by rw [beq_eq_false_iff_ne]; omega
      go_wp2_with fail
      refine HDel.out.mono ?_
      rintro e w3 ⟨K, rest', hK, rfl, hB3, hO3, hl3⟩
      have HBQ3 := Lib.hid (HBQ.out.only hO3 (Ne.symm hgb))
      have HB3 := Lib.hid hB3
      have HO3 := Lib.hid hO3
      have HL3 := Lib.hid hl3
      have HK := Lib.hid hK
      have hKN : K.length = N := by rw [hK, HKL.out, HNN.out]
      have HKN := Lib.hid hKN
      rw [hKN]
      have b0 := HBQ3.out.cell 0
      have bf := HBQ3.out.frozen 0
      simp only [List.getElem?_cons_zero] at b0
      clear hB3 hO3 hl3 hK hKN q1
      go_wp2_with fail
      have HBS : Hid (Blk (w3.setCell ⟨bq, 0, none⟩ (.slice (some ⟨g, 0, none⟩) N cap)) bq 54 [.slice (some ⟨g, 0, none⟩) N cap, .int .i64 last]) := HBQ3.out.set 0 _
      have HGS : Hid (Blk (w3.setCell ⟨bq, 0, none⟩ (.slice (some ⟨g, 0, none⟩) N cap)) g 58 (flat K ++ rest')) := HB3.out.other _ _ hgb
      have HOS : Hid (Only F w (w3.setCell ⟨bq, 0, none⟩ (.slice (some ⟨g, 0, none⟩) N cap))) := (((Only.refl F w).alloc _).trans (HO3.out.mono (fun k e => e ▸ hgF))).setCell (fun _ => hbF) _
      generalize w3.setCell ⟨bq, 0, none⟩ (.slice (some ⟨g, 0, none⟩) N cap) = w4 at HBS HGS HOS ⊢
      refine (init_any bq g cap N K rest' HKN.out w4 (Ne.symm hgb) (by omega) (HBS.out.cell 0) HBS.out.lt HGS.out).mono ?_
      rintro e w5 ⟨rfl, L', hp', hO5, hB5, hh5⟩
      have HO5 := Lib.hid hO5
      have HB5 := Lib.hid hB5
      have HP5 := Lib.hid (And.intro hp' hh5)
      have HBQ5 := Lib.hid (HBS.out.only hO5 (Ne.symm hgb))
      have c5 := HBQ5.out.cell 0
      simp only [List.getElem?_cons_zero] at c5
      have hwr : IntKind.i64.wrap ((n : Int) - (N : Int)) = (n : Int) - (N : Int) := by rw [IntKind.wrap_i64]; omega
      clear hO5 hB5 hp' hh5 b0 bf
      go_wp2_with fail
      go_ret
      obtain ⟨hKp, hKs, hKm, ha, hm, hl, hne⟩ := HH.out
      have hl5 : L'.length = N := by rw [HP5.out.1.length_eq]; exact HKN.out
      refine ⟨rfl, HOS.out.trans (HO5.out.mono (fun k e => e ▸ hgF)), .slice (some ⟨g, 0, none⟩) N cap, L', last, T.filter (kept ax), ⟨HBQ5.out, ?_, hne, ⟨hbF, fun k hk => by cases hk; exact hgF⟩, by rw [hl5]; exact HP5.out.2⟩, HP5.out.1.trans (by rw [HK.out]; exact hKp), hKs, hKm, fun a h => ha a (List.mem_filter.1 h).1, h0, hm, Nat.le_trans (List.length_filter_le _ _) hl⟩
      rw [hl5]
      refine own_intro (Nat.zero_le _) HB5.out (by omega) hc2 ?_ (by rw [length_flat, hl5])
      have h7 := HL3.out
      rw [HCL.out] at h7
      rw [← h7, List.length_append, List.length_append, length_flat, length_flat, hl5, HKN.out]

end Go.Proofs.Ytdbpcogbednokaa
