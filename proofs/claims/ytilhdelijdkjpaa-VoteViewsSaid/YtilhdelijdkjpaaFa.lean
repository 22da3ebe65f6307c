/-
  few: are acts few?
-/
import Derived.Test.YtilhdelijdkjpaaAr
set_option linter.unusedVariables false
set_option linter.unusedSimpArgs false
namespace Go.Proofs.Ytilhdelijdkjpaa
open Go Go.RowKit Go.Maps Sac

theorem ActIn.moved {w wr : World} {p : Addr} {s : ActP} (h : ActIn w p s) (hb : Below w.heap.size w wr) : ActIn wr p s := by
  obtain ⟨⟨vs, ss, c0, c1, c2, c3, c4, c5, c6, c7, hvs, hss⟩, h2, h3⟩ := h
  exact ⟨⟨vs, ss, cell_moved c0 hb, cell_moved c1 hb, cell_moved c2 hb, cell_moved c3 hb, cell_moved c4 hb, cell_moved c5 hb, cell_moved c6 hb, cell_moved c7 hb, hvs.below hb, hss.below hb⟩, h2, h3⟩
/-- An act's cells, as the walk asks for them. -/
theorem ActIn.cells {w : World} {p : Addr} {s : ActP} (h : ActIn w p s) : ∃ vs ss, (w.cell? p = some (.int .i64 s.kind) ∧ w.cell? ⟨p.block, p.off + 1, none⟩ = some (.int .i64 s.vote.kind) ∧ w.cell? ⟨p.block, p.off + 2, none⟩ = some (.int .i64 s.vote.frm) ∧ w.cell? ⟨p.block, p.off + 3, none⟩ = some (.int .i64 s.vote.slot) ∧ w.cell? ⟨p.block, p.off + 4, none⟩ = some (.int .i64 s.vote.view) ∧ w.cell? ⟨p.block, p.off + 5, none⟩ = some (.int .i64 s.vote.valid) ∧ w.cell? ⟨p.block, p.off + 6, none⟩ = some (vs) ∧ w.cell? ⟨p.block, p.off + 7, none⟩ = some (ss)) ∧ IB w vs s.vote.value ∧ IB w ss s.value := by
  obtain ⟨⟨vs, ss, c0, c1, c2, c3, c4, c5, c6, c7, hvs, hss⟩, h2, h3⟩ := h
  exact ⟨vs, ss, ⟨c0, c1, c2, c3, c4, c5, c6, c7⟩, hvs, hss⟩

/-- Acts that came in. -/
def ActsAt (w : World) (a : Option Addr) (len cap : Nat) (F : Nat → ActP) : Prop := len ≤ cap ∧ cap ≤ maxLen ∧ (a = none → len = 0 ∧ cap = 0) ∧ ∀ ad, a = some ad → ∀ i, i < len → ActIn w (ad.add (i * 8)) (F i)
theorem ActsAt.moved {w wr : World} {a : Option Addr} {len cap : Nat} {F : Nat → ActP} (h : ActsAt w a len cap F) (hb : Below w.heap.size w wr) : ActsAt wr a len cap F :=
  ⟨h.1, h.2.1, h.2.2.1, fun ad e i hi => (h.2.2.2 ad e i hi).moved hb⟩

def FewAPost (len : Nat) (F : Nat → ActP) (w : World) (e : Ending) (w' : World) : Prop := ∃ r, e = .returned (.bool r) ∧ Below w.heap.size w w' ∧ (r = true → len ≤ 100 ∧ ∀ i, i < len → (F i).value.length ≤ 100 ∧ (F i).vote.value.length ≤ 100)

set_option maxRecDepth 100000 in
set_option maxHeartbeats 4000000 in
theorem few_any (a : Option Addr) (len cap : Nat) (F : Nat → ActP) (w : World) (h : ActsAt w a len cap F) :
    Calls Try.prog 13 #[.slice a len cap] w (FewAPost len F w) := by
  obtain ⟨h1, h2, h3, h4⟩ := h
  have H4 := Lib.hid h4
  by_cases hlong : (100 : Int) < (len : Int)
  · have hd : decide ((100 : Int) < (len : Int)) = true := decide_eq_true hlong
    go_enter Try.func13, Try.ntmps13
    go_wp2_with fail
    go_ret
    exact ⟨false, rfl, Below.refl _ _, fun e => by cases e⟩
  · have hd : decide ((100 : Int) < (len : Int)) = false := decide_eq_false hlong
    clear h4
    go_enter Try.func13, Try.ntmps13
    go_wp2_with fail
    go_loopw [10] (fun u wr => ∃ i : Nat, i ≤ len ∧ u = .int .i64 (i : Int) ∧ Hid (Below w.heap.size w wr) ∧ Hid (∀ j, j < i → (F j).value.length ≤ 100 ∧ (F j).vote.value.length ≤ 100)) (fun u _ => len - (intOf u).toNat)
    case atStart => exact ⟨0, Nat.zero_le _, rfl, Below.refl _ _, fun j hj => absurd hj (Nat.not_lt_zero _)⟩
    case round =>
      obtain ⟨i, hi, rfl, HB, HA⟩ := hrel
      by_cases hlt : (i : Int) < (len : Int)
      · obtain ⟨ad, rfl⟩ : ∃ ad, a = some ad := by
          cases a with
          | none => have := h3 rfl; omega
          | some ad => exact ⟨ad, rfl⟩
        have hat := H4.out ad rfl i (by omega)
        obtain ⟨vs, ss, ⟨c0, c1, c2, c3, c4, c5, c6, c7⟩, hvs, hss⟩ := (hat.moved HB.out).cells
        obtain ⟨va, vc, rfl, _⟩ := hvs
        obtain ⟨sa, sc, rfl, _⟩ := hss
        obtain ⟨vn, hvn⟩ : ∃ vn, (F i).vote.value.length = vn := ⟨_, rfl⟩
        obtain ⟨sn, hsn⟩ : ∃ sn, (F i).value.length = sn := ⟨_, rfl⟩
        rw [hvn] at c6
        rw [hsn] at c7
        have HVN := Lib.hid hvn
        have HSN := Lib.hid hsn
        have hba : Below wr.heap.size wr (wr.alloc (.cells #[.int .i64 (F i).kind, .int .i64 (F i).vote.kind, .int .i64 (F i).vote.frm, .int .i64 (F i).vote.slot, .int .i64 (F i).vote.view, .int .i64 (F i).vote.valid, .slice va vn vc, .slice sa sn sc] 33)) := (Below.refl _ wr).alloc (Nat.le_refl _) _
        have HBA := Lib.hid (HB.out.trans (hba.mono HB.out.size))
        clear hat hvn hsn hba
        by_cases h5 : (100 : Int) < (sn : Int)
        · have hd5 : decide ((100 : Int) < (sn : Int)) = true := decide_eq_true h5
          go_wp2_with fail
          go_ret
          exact ⟨false, rfl, HBA.out, fun e => by cases e⟩
        · have hd5 : decide ((100 : Int) < (sn : Int)) = false := decide_eq_false h5
          by_cases h6 : (100 : Int) < (vn : Int)
          · have hd6 : decide ((100 : Int) < (vn : Int)) = true := decide_eq_true h6
            go_wp2_with fail
            go_ret
            exact ⟨false, rfl, HBA.out, fun e => by cases e⟩
          · have hd6 : decide ((100 : Int) < (vn : Int)) = false := decide_eq_false h6
            go_wp2_with fail
            exact ⟨⟨i + 1, by omega, by push_cast; rfl, HBA, fun j hj => by
              rcases Nat.lt_or_ge j i with hji | hji
              · exact HA.out j hji
              · obtain rfl : j = i := by omega
                rw [HVN.out, HSN.out]
                exact ⟨by omega, by omega⟩⟩, by simp [intOf]; omega⟩
      · obtain rfl : i = len := by omega
        go_wp2_with fail
        go_ret
        exact ⟨true, rfl, HB.out, fun _ => ⟨by omega, HA.out⟩⟩
end Go.Proofs.Ytilhdelijdkjpaa
