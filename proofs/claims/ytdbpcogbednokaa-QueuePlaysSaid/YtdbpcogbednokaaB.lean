/-
  The queue's heap: the items' row, comparing, exchanging.
-/
import Derived.Test.YtdbpcogbednokaaBase
import Derived.Deep.QuietTactic
import Derived.BigQuiet
import Derived.BigRegion
import Derived.StillTailTactics
import Derived.Deep.RegionWith
import Derived.Deep.RegionHeld3
namespace Go.Proofs.Ytdbpcogbednokaa
open Go.RowKit

set_option maxHeartbeats 400000 in
theorem isNaN_any (a : Int) (w : World) :
    Calls Try.prog 41 #[.int .i64 a] w fun e w' => e = .returned (.bool false) ∧ w' = w := by
  go_enter Try.func41, Try.ntmps41
  go_wp2
  go_ret
  exact ⟨by simp, rfl⟩

def cmp3 (a b : Int) : Int := if a < b then -1 else if b < a then 1 else 0

set_option maxHeartbeats 400000 in
theorem compare_any (a b : Int) (w : World) :
    Calls Try.prog 30 #[.int .i64 a, .int .i64 b] w fun e w' => e = .returned (.int .i64 (cmp3 a b)) ∧ w' = w := by
  go_enter Try.func30, Try.ntmps30
  go_wp2_with (go_at_call 41; refine (isNaN_any _ _).mono ?_; rintro e w' ⟨rfl, rfl⟩)
  all_goals (go_ret; refine ⟨ret_int ?_, rfl⟩; unfold cmp3; (repeat' split) <;> omega)

/-- cmp.Or on two. -/
def or2 (a b : Int) : Int := if (a != 0) = true then a else if (b != 0) = true then b else 0

set_option maxHeartbeats 400000 in
theorem or_two (a b : Int) (k : Nat) (w : World) (h0 : w.cell? ⟨k, 0, none⟩ = some (.int .i64 a)) (h1 : w.cell? ⟨k, 1, none⟩ = some (.int .i64 b)) :
    Calls Try.prog 29 #[.slice (some ⟨k, 0, none⟩) 2 2] w fun e w' => e = .returned (.int .i64 (or2 a b)) ∧ w' = w := by
  go_enter Try.func29, Try.ntmps29
  go_wp2
  go_rounds 3
  all_goals (go_ret; exact ⟨ret_int (by simp [or2, *]), rfl⟩)

/-- a is ahead of b: by the tick, then by the number. -/
def ahead2 (d1 n1 d2 n2 : Int) : Bool := decide (d1 < d2 ∨ d1 = d2 ∧ n1 < n2)

theorem or2_ahead (d1 n1 d2 n2 : Int) : decide (or2 (cmp3 d1 d2) (cmp3 n1 n2) < 0) = ahead2 d1 n1 d2 n2 := by
  unfold ahead2
  congr 1
  unfold or2 cmp3
  simp only [bne_iff_ne, ne_eq, eq_iff_iff]
  (repeat' split) <;> omega

set_option maxHeartbeats 400000 in
theorem before_any (d1 n1 x1 d2 n2 x2 : Int) (w : World) :
    Calls Try.prog 82 #[.agg #[.int .i64 d1, .int .i64 n1, .int .i64 x1], .agg #[.int .i64 d2, .int .i64 n2, .int .i64 x2]] w fun e w' => e = .returned (.bool (ahead2 d1 n1 d2 n2)) ∧ Below w.heap.size w w' := by
  go_enter Try.func82, Try.ntmps82
  go_wp2_with fail
  go_region_held3 (fun w' => w'.cell? ⟨w.heap.size, 0, none⟩ = some (.int .i64 d1) ∧ w'.cell? ⟨w.heap.size, 1, none⟩ = some (.int .i64 n1) ∧ w'.cell? ⟨w.heap.size + 1, 0, none⟩ = some (.int .i64 d2) ∧ w'.cell? ⟨w.heap.size + 1, 1, none⟩ = some (.int .i64 n2)) (simp [go_sem, World.cell?_alloc_past])
    (first
      | (go_at_call 30; refine (compare_any _ _ _).mono ?_; rintro e w' ⟨rfl, rfl⟩)
      | (go_at_call 29; refine (or_two (cmp3 d1 d2) (cmp3 n1 n2) _ _ (by simp [go_sem]) (by simp [go_sem])).mono ?_; rintro e w' ⟨rfl, rfl⟩))
  go_wp2
  go_ret
  exact ⟨ret_bool (or2_ahead d1 n1 d2 n2), by go_grown⟩

structure Item where
  due : Int
  num : Int
  x : Int

def Item.enc (a : Item) : List Value := [.int .i64 a.due, .int .i64 a.num, .int .i64 a.x]
def flat (L : List Item) : List Value := L.flatMap Item.enc
def Item.lt (a b : Item) : Bool := ahead2 a.due a.num b.due b.num

theorem flat_cons (a : Item) (L : List Item) : flat (a :: L) = .int .i64 a.due :: .int .i64 a.num :: .int .i64 a.x :: flat L := rfl
theorem flat_append (L M : List Item) : flat (L ++ M) = flat L ++ flat M := by simp [flat]
theorem length_flat (L : List Item) : (flat L).length = L.length * 3 := by
  induction L with
  | nil => rfl
  | cons a L ih => rw [flat_cons]; simp [ih]; omega

theorem flat_get (L : List Item) (rest : List Value) (i : Nat) (a : Item) (h : L[i]? = some a) :
    (flat L ++ rest)[i * 3]? = some (.int .i64 a.due) ∧ (flat L ++ rest)[i * 3 + 1]? = some (.int .i64 a.num) ∧ (flat L ++ rest)[i * 3 + 2]? = some (.int .i64 a.x) := by
  induction L generalizing i with
  | nil => simp at h
  | cons b L ih =>
    cases i with
    | zero => simp at h; subst h; simp [flat_cons]
    | succ i =>
      have := ih i (by simpa using h)
      rw [show (i + 1) * 3 = i * 3 + 3 by omega, flat_cons]
      simpa using this

theorem flat_set (L : List Item) (rest : List Value) (i : Nat) (a : Item) (h : i < L.length) :
    (((flat L ++ rest).set (i * 3) (.int .i64 a.due)).set (i * 3 + 1) (.int .i64 a.num)).set (i * 3 + 2) (.int .i64 a.x) = flat (L.set i a) ++ rest := by
  induction L generalizing i with
  | nil => simp at h
  | cons b L ih =>
    cases i with
    | zero => simp [flat_cons]
    | succ i =>
      have := ih i (by simpa using h)
      rw [show (i + 1) * 3 = i * 3 + 3 by omega, flat_cons]
      simpa [flat_cons] using this

set_option maxRecDepth 100000 in
set_option maxHeartbeats 400000 in
theorem less_any (bi cap n : Nat) (L : List Item) (hn : L.length = n) (rest : List Value) (i j : Nat) (a b : Item) (ha : L[i]? = some a) (hb : L[j]? = some b) (w : World) (hB : Blk w bi 58 (flat L ++ rest)) :
    Calls Try.prog 80 #[.slice (some ⟨bi, 0, none⟩) n cap, .int .i64 i, .int .i64 j] w fun e w' => e = .returned (.bool (a.lt b)) ∧ Below w.heap.size w w' := by
  subst hn
  obtain ⟨p0, p1, p2⟩ := flat_get L rest i a ha
  obtain ⟨q0, q1, q2⟩ := flat_get L rest j b hb
  rw [← hB.cell] at p0 p1 p2 q0 q1 q2
  have hi : (i : Int) < (L.length : Int) := by have := (List.getElem?_eq_some_iff.1 ha).1; omega
  have hj : (j : Int) < (L.length : Int) := by have := (List.getElem?_eq_some_iff.1 hb).1; omega
  clear hB ha hb
  go_enter Try.func80, Try.ntmps80
  go_wp2_with fail
  go_still_tail 8, (by kernel_rfl)
  change wpList _ _ _ _ _ w.drew
  go_wp2_with (go_at_call 82; refine (before_any _ _ _ _ _ _ _).mono ?_; rintro e w' ⟨rfl, hb⟩)
  go_ret
  exact ⟨rfl, (Below.refl _ _).drew.trans hb⟩

set_option maxHeartbeats 400000 in
theorem len_any (p : Option Addr) (n cap : Nat) (w : World) :
    Calls Try.prog 79 #[.slice p n cap] w fun e w' => e = .returned (.int .i64 n) ∧ w' = w := by
  go_enter Try.func79, Try.ntmps79
  go_wp2
  go_ret
  exact ⟨rfl, rfl⟩

set_option maxHeartbeats 400000 in
theorem swap_ne (bi cap : Nat) (L : List Item) (rest : List Value) (i j : Nat) (a b : Item) (ha : L[i]? = some a) (hb : L[j]? = some b) (hij : i ≠ j) (w : World) (hB : Blk w bi 58 (flat L ++ rest)) :
    Calls Try.prog 81 #[.slice (some ⟨bi, 0, none⟩) L.length cap, .int .i64 i, .int .i64 j] w fun e w' => e = .returned (.tuple #[]) ∧ Only (· = bi) w w' ∧ Blk w' bi 58 (flat ((L.set i b).set j a) ++ rest) := by
  obtain ⟨p0, p1, p2⟩ := flat_get L rest i a ha
  obtain ⟨q0, q1, q2⟩ := flat_get L rest j b hb
  rw [← hB.cell] at p0 p1 p2 q0 q1 q2
  have hi' := (List.getElem?_eq_some_iff.1 ha).1
  have hj' := (List.getElem?_eq_some_iff.1 hb).1
  have hi : (i : Int) < (L.length : Int) := by omega
  have hj : (j : Int) < (L.length : Int) := by omega
  have f0 := hB.frozen (i * 3)
  have f1 := hB.frozen (i * 3 + 1)
  have f2 := hB.frozen (i * 3 + 2)
  have g0 := hB.frozen (j * 3)
  have g1 := hB.frozen (j * 3 + 1)
  have g2 := hB.frozen (j * 3 + 2)
  have HB : Hid (Blk w bi 58 (flat L ++ rest)) := hB
  clear hB ha hb
  have e00 : ¬ (i * 3 = j * 3) := by omega
  have e01 : ¬ (i * 3 = j * 3 + 1) := by omega
  have e02 : ¬ (i * 3 = j * 3 + 2) := by omega
  have e10 : ¬ (i * 3 + 1 = j * 3) := by omega
  have e11 : ¬ (i * 3 + 1 = j * 3 + 1) := by omega
  have e12 : ¬ (i * 3 + 1 = j * 3 + 2) := by omega
  have e20 : ¬ (i * 3 + 2 = j * 3) := by omega
  have e21 : ¬ (i * 3 + 2 = j * 3 + 1) := by omega
  have e22 : ¬ (i * 3 + 2 = j * 3 + 2) := by omega
  go_enter Try.func81, Try.ntmps81
  go_wp2_with fail
  go_region
  go_end0
  have hB := HB.out
  have h1 := ((((((hB.set (i * 3) (.int .i64 b.due)).set (i * 3 + 1) (.int .i64 b.num)).set (i * 3 + 2) (.int .i64 b.x)).set (j * 3) (.int .i64 a.due)).set (j * 3 + 1) (.int .i64 a.num)).set (j * 3 + 2) (.int .i64 a.x)).drew
  rw [flat_set L rest i b hi', flat_set (L.set i b) rest j a (by simpa using hj')] at h1
  exact ⟨rfl, ((((((((Only.refl (· = bi) w).setCell (fun _ => rfl) _).setCell (fun _ => rfl) _).setCell (fun _ => rfl) _).setCell (fun _ => rfl) _).setCell (fun _ => rfl) _).setCell (fun _ => rfl) _).drew), h1⟩

set_option maxHeartbeats 400000 in
theorem swap_eq (bi cap : Nat) (L : List Item) (rest : List Value) (i : Nat) (a : Item) (ha : L[i]? = some a) (w : World) (hB : Blk w bi 58 (flat L ++ rest)) :
    Calls Try.prog 81 #[.slice (some ⟨bi, 0, none⟩) L.length cap, .int .i64 i, .int .i64 i] w fun e w' => e = .returned (.tuple #[]) ∧ Only (· = bi) w w' ∧ Blk w' bi 58 (flat L ++ rest) := by
  obtain ⟨p0, p1, p2⟩ := flat_get L rest i a ha
  rw [← hB.cell] at p0 p1 p2
  have hi' := (List.getElem?_eq_some_iff.1 ha).1
  have hi : (i : Int) < (L.length : Int) := by omega
  have f0 := hB.frozen (i * 3)
  have f1 := hB.frozen (i * 3 + 1)
  have f2 := hB.frozen (i * 3 + 2)
  have HB : Hid (Blk w bi 58 (flat L ++ rest)) := hB
  have hs : Hid (L.set i a = L) := by
    obtain ⟨h1, h2⟩ := List.getElem?_eq_some_iff.1 ha
    show _ = _
    rw [← h2, List.set_getElem_self]
  clear hB ha
  go_enter Try.func81, Try.ntmps81
  go_wp2_with fail
  go_region
  go_end0
  have hB := HB.out
  have h1 := ((((((hB.set (i * 3) (.int .i64 a.due)).set (i * 3 + 1) (.int .i64 a.num)).set (i * 3 + 2) (.int .i64 a.x)).set (i * 3) (.int .i64 a.due)).set (i * 3 + 1) (.int .i64 a.num)).set (i * 3 + 2) (.int .i64 a.x)).drew
  rw [flat_set L rest i a hi', hs.out, flat_set L rest i a hi', hs.out] at h1
  exact ⟨rfl, ((((((((Only.refl (· = bi) w).setCell (fun _ => rfl) _).setCell (fun _ => rfl) _).setCell (fun _ => rfl) _).setCell (fun _ => rfl) _).setCell (fun _ => rfl) _).setCell (fun _ => rfl) _).drew), h1⟩

theorem swap_any (bi cap n : Nat) (L : List Item) (hn : L.length = n) (rest : List Value) (i j : Nat) (a b : Item) (ha : L[i]? = some a) (hb : L[j]? = some b) (w : World) (hB : Blk w bi 58 (flat L ++ rest)) :
    Calls Try.prog 81 #[.slice (some ⟨bi, 0, none⟩) n cap, .int .i64 i, .int .i64 j] w fun e w' => e = .returned (.tuple #[]) ∧ Only (· = bi) w w' ∧ Blk w' bi 58 (flat ((L.set i b).set j a) ++ rest) := by
  subst hn
  by_cases hij : i = j
  · subst hij
    obtain rfl : a = b := by rw [ha] at hb; simpa using hb
    have hs : L.set i a = L := by
      obtain ⟨h1, h2⟩ := List.getElem?_eq_some_iff.1 ha
      rw [← h2, List.set_getElem_self]
    rw [hs, hs]
    exact swap_eq bi cap L rest i a ha w hB
  · exact swap_ne bi cap L rest i j a b ha hb hij w hB

theorem wrapChk (t : TypeId) (a : Addr) (x y : String) : Builtin.ssaWrapNilChk_ #[t] t #[.pointer (some a), strVal x, strVal y] = pure (.pointer (some a)) := rfl

theorem method_ptr {P : Program} {t e : TypeId} {f : FuncId} {name : String} {i : TypeInfo} (fuel : Nat) (a : Addr) (v : Value) (w : World)
   (hi : P.info? t = some i) (hu : P.underlying t = some (.pointer e))
   (hm : (i.methods.find? (·.name == name)).map (fun m => (m.path, m.func)) = some (#[], some (f, false)))
   (ha : ∀ w, (isAgg e).run P w = .ok false w) (hl : w.cell? a = some v) :
   (method (fuel + 1) t (.pointer (some a)) name).run P w = .ok (f, v) w := by
  obtain ⟨m, h1, h2⟩ := Option.map_eq_some_iff.1 hm
  obtain ⟨h2, h3⟩ := Prod.mk.injEq _ _ _ _ ▸ h2
  have hr : Sem.run P (Sem.load Mode.plain a Sem.pure) w = .ok v w := by simp [Sem.run, hl]
  simp [method, typeInfo, hi, h1, h2, h3, follow, receiverAt, run_underlying hu, Place.get, wrapChk, asAddr, loadVar, ha, load, hr, go_sem]

theorem method_len (a : Addr) (v : Value) (w : World) (h : w.cell? a = some v) : (method 219 56 (.pointer (some a)) "Len").run Try.prog w = .ok (79, v) w :=
  method_ptr (e := 52) (i := (Try.prog.info? 56).get (by kernel_rfl)) 218 a v w (by kernel_rfl) Try.underlying56 (by kernel_rfl) (fun _ => by kernel_rfl) h
theorem method_less (a : Addr) (v : Value) (w : World) (h : w.cell? a = some v) : (method 219 56 (.pointer (some a)) "Less").run Try.prog w = .ok (80, v) w :=
  method_ptr (e := 52) (i := (Try.prog.info? 56).get (by kernel_rfl)) 218 a v w (by kernel_rfl) Try.underlying56 (by kernel_rfl) (fun _ => by kernel_rfl) h
theorem method_swap (a : Addr) (v : Value) (w : World) (h : w.cell? a = some v) : (method 219 56 (.pointer (some a)) "Swap").run Try.prog w = .ok (81, v) w :=
  method_ptr (e := 52) (i := (Try.prog.info? 56).get (by kernel_rfl)) 218 a v w (by kernel_rfl) Try.underlying56 (by kernel_rfl) (fun _ => by kernel_rfl) h
theorem method_pop (a : Addr) (w : World) : (method 219 56 (.pointer (some a)) "Pop").run Try.prog w = .ok (83, .pointer (some a)) w := by kernel_rfl
theorem method_push (a : Addr) (w : World) : (method 219 56 (.pointer (some a)) "Push").run Try.prog w = .ok (84, .pointer (some a)) w := by kernel_rfl

end Go.Proofs.Ytdbpcogbednokaa
