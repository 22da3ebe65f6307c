/-
  The document's queue: its search, its tick.
-/
import Derived.Test.YtdbpcogbednokaaDm
import Derived.Test.YtdbpcogbednokaaOrders
set_option linter.unusedVariables false
set_option linter.unusedSimpArgs false
namespace Go.Proofs.Ytdbpcogbednokaa
open Go.RowKit

/-- The document's items as cells. -/
def enc2 (D : List (Int × Int)) : List Value := D.flatMap (fun e => [.int .i64 e.1, .int .i64 e.2])
theorem enc2_cons (e : Int × Int) (D : List (Int × Int)) : enc2 (e :: D) = .int .i64 e.1 :: .int .i64 e.2 :: enc2 D := rfl
theorem enc2_append (D E : List (Int × Int)) : enc2 (D ++ E) = enc2 D ++ enc2 E := by simp [enc2]
theorem length_enc2 (D : List (Int × Int)) : (enc2 D).length = D.length * 2 := by
  induction D with
  | nil => rfl
  | cons a D ih => rw [enc2_cons]; simp [ih]; omega
theorem enc2_get (D : List (Int × Int)) (rest : List Value) : ∀ i, i < D.length → (enc2 D ++ rest)[i * 2]? = some (.int .i64 (D.getD i default).1) ∧ (enc2 D ++ rest)[i * 2 + 1]? = some (.int .i64 (D.getD i default).2) := by
  induction D with
  | nil => intro i h; simp at h
  | cons b D ih =>
    intro i h
    cases i with
    | zero => simp [enc2_cons]
    | succ i =>
      have := ih i (by simpa using h)
      rw [show (i + 1) * 2 = i * 2 + 2 by omega, enc2_cons]
      simpa using this
theorem enc2_one (D : List (Int × Int)) : ∀ u ∈ enc2 D, u.oneCell' = true := by
  induction D with
  | nil => intro u h; cases h
  | cons b D ih =>
    intro u h
    rw [enc2_cons] at h
    rcases List.mem_cons.1 h with rfl | h
    · rfl
    · rcases List.mem_cons.1 h with rfl | h
      · rfl
      · exact ih u h

/-- A row of items, to be read. -/
def D2 (w : World) (a : Option Addr) (D : List (Int × Int)) : Prop := ∀ i, i < D.length → ∃ g, a = some ⟨g, 0, none⟩ ∧ g < w.heap.size ∧ w.cell? ⟨g, i * 2, none⟩ = some (.int .i64 (D.getD i default).1) ∧ w.cell? ⟨g, i * 2 + 1, none⟩ = some (.int .i64 (D.getD i default).2)
/-- A row of items of the walk's own. -/
abbrev DOwn (w : World) (base : Nat) (v : Value) (D : List (Int × Int)) : Prop := w.ownsRow base 44 2 v D.length (enc2 D)

theorem DOwn.form {w : World} {base : Nat} {v : Value} {D : List (Int × Int)} {n : Nat} (h : DOwn w base v D) (hn : D.length = n) : ∃ a cap, v = .slice a n cap ∧ D2 w a D ∧ (n : Int) ≤ cap := by
  obtain ⟨_, ⟨rfl, h0, _⟩ | ⟨g, cap, rest, rfl, _, hB, hc, _⟩⟩ := own_elim h
  · exact ⟨none, 0, by rw [← hn, h0], fun i hi => by omega, by omega⟩
  · refine ⟨_, cap, by rw [← hn], fun i hi => ⟨g, rfl, hB.lt, ?_, ?_⟩, by omega⟩
    · rw [hB.cell]; exact (enc2_get D rest i hi).1
    · rw [hB.cell]; exact (enc2_get D rest i hi).2

theorem D2.below {w w' : World} {a : Option Addr} {D : List (Int × Int)} (h : D2 w a D) (hb : Below w.heap.size w w') : D2 w' a D := fun i hi => by
  obtain ⟨g, e, hg, c0, c1⟩ := h i hi
  exact ⟨g, e, Nat.lt_of_lt_of_le hg hb.size, (hb.cell (p := ⟨g, i * 2, none⟩) hg).trans c0, (hb.cell (p := ⟨g, i * 2 + 1, none⟩) hg).trans c1⟩

set_option maxRecDepth 100000 in
set_option maxHeartbeats 2000000 in
theorem first_any (bw : Nat) (a : Option Addr) (n cap : Nat) (D : List (Int × Int)) (w : World) (hn : D.length = n) (hlen : (n : Int) ≤ 100000)
    (hc : w.cell? ⟨bw, 0, none⟩ = some (.slice a n cap)) (hbw : bw < w.heap.size) (hD : D2 w a D) :
    Calls Try.prog 31 #[.pointer (some ⟨bw, 0, none⟩)] w fun e w' => e = .returned (.int .i64 (firstTo D n)) ∧ Below w.heap.size w w' := by
  have HD := Lib.hid hD
  have HN := Lib.hid hn
  clear hD hn
  go_enter Try.func31, Try.ntmps31
  go_wp2_with fail
  go_loopw [3, 11] (fun v u wr => ∃ k : Nat, k ≤ n ∧ v = .int .i64 (firstTo D k) ∧ u = .int .i64 k ∧ Below w.heap.size w wr) (fun _ u _ => n - (intOf u).toNat)
  case atStart => exact ⟨0, Nat.zero_le _, rfl, rfl, Below.refl _ _⟩
  case round =>
    obtain ⟨k, hk, rfl, rfl, hb⟩ := hrel
    have HB := Lib.hid hb
    have hc2 : wr.cell? ⟨bw, 0, none⟩ = some (.slice a n cap) := (hb.cell (p := ⟨bw, 0, none⟩) hbw).trans hc
    have hsz := hb.size
    clear hc hb
    by_cases hlt : (k : Int) < (n : Int)
    · obtain ⟨g, rfl, hg, c0, c1⟩ := HD.out k (by rw [HN.out]; omega)
      have k0 : wr.cell? ⟨g, k * 2, none⟩ = _ := (HB.out.cell (p := ⟨g, k * 2, none⟩) hg).trans c0
      have k1 : wr.cell? ⟨g, k * 2 + 1, none⟩ = _ := (HB.out.cell (p := ⟨g, k * 2 + 1, none⟩) hg).trans c1
      obtain ⟨⟨d, x⟩, hx⟩ : ∃ x, D.getD k default = x := ⟨_, rfl⟩
      rw [hx] at k0 k1
      dsimp only at k0 k1
      clear c0 c1
      rcases firstTo_spec D k with ⟨rfl, h⟩ | ⟨i, h, hi, _⟩
      · have HF : Hid (firstTo D (0 + 1) = ((0 : Nat) : Int)) := by
          show _ = _
          rw [firstTo, h, if_pos (.inl (by decide))]
        rw [h]
        clear h hx
        go_wp2_with fail
        go_region
        go_wp2_with fail
        go_roundw
        case rel => exact ⟨1, by omega, by rw [show (1 : Nat) = 0 + 1 from rfl, HF.out], rfl, (HB.out.alloc (by omega) _).drew⟩
        case measure => simp [intOf]; omega
      · obtain ⟨g2, e2, hg2, c2, _⟩ := HD.out i (by rw [HN.out]; omega)
        obtain rfl : g = g2 := by simpa using e2
        have k2 : wr.cell? ⟨g, i * 2, none⟩ = _ := (HB.out.cell (p := ⟨g, i * 2, none⟩) hg).trans c2
        obtain ⟨⟨d2, x2⟩, hx2⟩ : ∃ x, D.getD i default = x := ⟨_, rfl⟩
        rw [hx2] at k2
        dsimp only at k2
        have hin : (i : Int) < (n : Int) := by omega
        have hi0 : ¬ ((i : Int) < 0) := by omega
        have hF : firstTo D (k + 1) = if d < d2 then (k : Int) else i := by
          have e : (firstTo D k).toNat = i := by rw [h]; rfl
          rw [firstTo, e, hx, hx2, h]
          by_cases hd : d < d2
          · rw [if_pos hd, if_pos (.inr hd)]
          · rw [if_neg hd, if_neg (by rintro (h | h); omega; exact hd h)]
        rw [h]
        clear h hx hx2 c2 e2
        by_cases hd : d < d2
        · rw [if_pos hd] at hF
          have HF := Lib.hid hF
          clear hF
          go_wp2_with fail
          go_region_held3 (fun w' => w'.cell? ⟨bw, 0, none⟩ = some (.slice (some ⟨g, 0, none⟩) n cap) ∧ w'.cell? ⟨wr.heap.size, 0, none⟩ = some (.int .i64 d) ∧ w'.cell? ⟨g, i * 2, none⟩ = some (.int .i64 d2)) (exact ⟨Lib.cell?_alloc_some _ hc2, by simp [go_sem], Lib.cell?_alloc_some _ k2⟩) (first | fail)
          go_wp2_with fail
          go_roundw
          case rel => exact ⟨k + 1, by omega, by rw [HF.out], by go_num, (HB.out.alloc (by omega) _).drew⟩
          case measure => simp [intOf]; omega
        · rw [if_neg hd] at hF
          have HF := Lib.hid hF
          clear hF
          go_wp2_with fail
          go_region_held3 (fun w' => w'.cell? ⟨bw, 0, none⟩ = some (.slice (some ⟨g, 0, none⟩) n cap) ∧ w'.cell? ⟨wr.heap.size, 0, none⟩ = some (.int .i64 d) ∧ w'.cell? ⟨g, i * 2, none⟩ = some (.int .i64 d2)) (exact ⟨Lib.cell?_alloc_some _ hc2, by simp [go_sem], Lib.cell?_alloc_some _ k2⟩) (first | fail)
          go_wp2_with fail
          go_roundw
          case rel => exact ⟨k + 1, by omega, by rw [HF.out], by go_num, (HB.out.alloc (by omega) _).drew⟩
          case measure => simp [intOf]; omega
    · obtain rfl : k = n := by omega
      go_wp2_with fail
      go_ret
      exact ⟨rfl, HB.out⟩

end Go.Proofs.Ytdbpcogbednokaa
