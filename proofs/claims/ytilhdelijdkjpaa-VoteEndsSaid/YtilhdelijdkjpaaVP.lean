/-
  The core of a vote, plainly: what it holds, and what it does. No program in sight.
-/
import Derived.Test.YtilhdelijdkjpaaVM
set_option linter.unusedVariables false
set_option linter.unusedSimpArgs false
namespace Sac

abbrev Bs := List Nat
abbrev TellM := List (Int × Bs)

/-- A word on what shall stand at a place. -/
structure Vt where
  kind : Int
  frm : Int
  slot : Int
  view : Int
  valid : Int
  value : Bs
  deriving DecidableEq

structure Core where
  n : Int
  me : Int
  slot : Int
  view : Int
  wish : Bs
  wishes : Bool
  proposals : List (Int × (Bs × Int))
  prepares : List (Int × TellM)
  commits : List (Int × TellM)
  turns : List (Int × TellM)
  seen : List (Int × Int)
  deciders : TellM
  lock : Int
  locked : Bs
  decided : Bool
  value : Bs
  deriving DecidableEq

/-- How many told this value. -/
def howMany (t : TellM) (v : Bs) : Nat := t.countP (fun p => p.2 == v)
/-- The value that at least so many told. -/
def count (t : TellM) (least : Int) : Option Bs := (t.find? (fun p => decide (least ≤ (howMany t p.2 : Int)))).map (·.2)
def quorum (n : Int) : Int := n - (n - 1) / 3
def inner {α : Type} (m : List (Int × List (Int × α))) (view : Int) : List (Int × α) := (lookM m view).getD []
def proposer (c : Core) (view : Int) : Int := 1 + (c.slot + view) % c.n
/-- A value that a peer told in a view, if it is the first one. -/
def setV (m : List (Int × TellM)) (view who : Int) (value : Bs) : Option (List (Int × TellM)) :=
  match lookM (inner m view) who with
  | some _ => none
  | none => some (putM view (putM who value (inner m view)) m)

def newCore (n me slot : Int) : Core := ⟨n, me, slot, 0, [], false, [], [], [], [], [], [], -1, [], false, []⟩

/-- May a vote be written? -/
def encOk (v : Vt) : Bool := decide (1 ≤ v.kind ∧ v.kind ≤ 5 ∧ 1 ≤ v.frm ∧ v.frm ≤ 64 ∧ 0 ≤ v.slot ∧ v.slot ≤ 256 ∧ 0 ≤ v.view ∧ v.view ≤ 1048576 ∧ -1 ≤ v.valid ∧ v.valid ≤ 1048576 ∧ v.value.length ≤ 4096)

/-- What a peer told is known, if it is new. -/
def know (c : Core) (v : Vt) : Option Core :=
  if v.kind = 1 then
    (if (lookM c.proposals v.view).isSome ∨ v.frm ≠ proposer c v.view then none else some { c with proposals := putM v.view (v.value, v.valid) c.proposals })
  else if v.kind = 2 then (setV c.prepares v.view v.frm v.value).map fun m => { c with prepares := m }
  else if v.kind = 3 then (setV c.commits v.view v.frm v.value).map fun m => { c with commits := m }
  else if v.kind = 5 then (setV c.turns v.view v.frm v.value).map fun m => { c with turns := m }
  else match lookM c.deciders v.frm with
    | some _ => none
    | none => some { c with deciders := putM v.frm v.value c.deciders }

def prepared (c : Core) (view : Int) : Option Bs := count (inner c.prepares view) (quorum c.n)

/-- The greatest view below one in which a value is prepared. -/
def best (c : Core) (below : Int) : Option (Int × Bs) :=
  c.prepares.reverse.findSome? fun p => match prepared c p.1 with
    | some v => if p.1 < below then some (p.1, v) else none
    | none => none

def faults (n : Int) : Int := (n - 1) / 3
def insI (x : Int) : List Int → List Int
  | [] => [x]
  | y :: r => if x ≤ y then x :: y :: r else y :: insI x r
/-- The numbers, rising. -/
def sortI : List Int → List Int
  | [] => []
  | x :: r => insI x (sortI r)
theorem perm_insI (x : Int) (l : List Int) : (insI x l).Perm (x :: l) := by
  induction l with
  | nil => exact List.Perm.refl _
  | cons y r ih =>
    unfold insI
    split
    · exact List.Perm.refl _
    · exact (ih.cons y).trans (List.Perm.swap x y r)
theorem perm_sortI (l : List Int) : (sortI l).Perm l := by
  induction l with
  | nil => exact List.Perm.refl _
  | cons x r ih => exact (perm_insI _ _).trans (ih.cons x)
theorem sorted_insI (x : Int) (l : List Int) (h : l.Pairwise (· ≤ ·)) : (insI x l).Pairwise (· ≤ ·) := by
  induction l with
  | nil => simp [insI]
  | cons y r ih =>
    have h' := List.pairwise_cons.1 h
    unfold insI
    split
    · rename_i hle
      refine List.pairwise_cons.2 ⟨fun z hz => ?_, h⟩
      rcases List.mem_cons.1 hz with rfl | hz
      · exact hle
      · exact Int.le_trans hle (h'.1 z hz)
    · rename_i hle
      refine List.pairwise_cons.2 ⟨fun z hz => ?_, ih h'.2⟩
      rcases List.mem_cons.1 ((perm_insI x r).mem_iff.1 hz) with rfl | hz
      · omega
      · exact h'.1 z hz
theorem sorted_sortI (l : List Int) : (sortI l).Pairwise (· ≤ ·) := by
  induction l with
  | nil => exact List.Pairwise.nil
  | cons x r ih => exact sorted_insI _ _ ih
theorem sorted_unique : ∀ {l m : List Int}, l.Perm m → l.Pairwise (· ≤ ·) → m.Pairwise (· ≤ ·) → l = m := fun hp h1 h2 =>
  hp.eq_of_pairwise (fun _ _ _ _ a b => Int.le_antisymm a b) h1 h2
/-- The kit's sort is this one. -/
theorem mergeSort_sortI {l m : List Int} (hp : l.Perm m) : l.mergeSort (fun x y => decide (x ≤ y)) = sortI m := by
  refine sorted_unique (((List.mergeSort_perm l _).trans hp).trans (perm_sortI m).symm) ?_ (sorted_sortI m)
  have := List.pairwise_mergeSort (le := fun x y : Int => decide (x ≤ y)) (fun a b c h1 h2 => by simp at *; omega) (fun a b => by simp; omega) l
  exact this.imp (fun h => by simpa using h)
def views (c : Core) : List Int := sortI (c.seen.map (·.2))

def turnC (c : Core) : Option Core :=
  let l := views c
  if (l.length : Int) ≤ faults c.n then none
  else
    let v := l.getD (l.length - 1 - (faults c.n).toNat) 0
    if v ≤ c.view then none else some { c with view := v }

def proposeC (c : Core) : Option Core :=
  if (lookM c.proposals c.view).isSome ∨ proposer c c.view ≠ c.me then none
  else match best c c.view with
    | some (view, value) => some { c with proposals := putM c.view (value, view) c.proposals }
    | none => if c.wishes then some { c with proposals := putM c.view (c.wish, -1) c.proposals } else none

def fit (acc : Bs → Bool) (c : Core) (p : Bs × Int) : Bool :=
  acc p.1 && (decide (c.lock < 0) || p.1 == c.locked || (decide (c.lock ≤ p.2 ∧ p.2 < c.view) && (match prepared c p.2 with | some v => v == p.1 | none => false)))

def prepareC (acc : Bs → Bool) (c : Core) : Option Core :=
  match lookM c.proposals c.view with
  | none => none
  | some p => if (lookM (inner c.prepares c.view) c.me).isSome ∨ fit acc c p = false then none
    else (setV c.prepares c.view c.me p.1).map fun m => { c with prepares := m }

def commitC (c : Core) : Option Core :=
  match prepared c c.view with
  | none => none
  | some value => if (lookM (inner c.commits c.view) c.me).isSome then none
    else (setV c.commits c.view c.me value).map fun m => { c with commits := m, lock := c.view, locked := value }

/-- The value that is agreed upon in a view. -/
def agreed (c : Core) : Option Bs := c.commits.findSome? fun p => count p.2 (quorum c.n)

/-- The last two things: what it decides; what its value is. -/
def decideC (c : Core) : Core :=
  match agreed c with
  | some v => { c with decided := true, value := v }
  | none => match count c.deciders (faults c.n + 1) with
    | some v => { c with decided := true, value := v }
    | none => { c with decided := false, value := [] }

/-- One thing that it can do; false: nothing (but that its value is none). -/
def stepC (acc : Bs → Bool) (c : Core) : Core × Bool :=
  match turnC c with
  | some c' => (c', true)
  | none => match proposeC c with
    | some c' => (c', true)
    | none => match prepareC acc c with
      | some c' => (c', true)
      | none => match commitC c with
        | some c' => (c', true)
        | none => (decideC c, (decideC c).decided)

/-- All that it can do, of at most so many things. -/
def actN (acc : Bs → Bool) : Nat → Core → Core
  | 0, c => c
  | k + 1, c => if c.decided then c else
    match stepC acc c with
    | (c', true) => actN acc k c'
    | (c', false) => c'

/-- How many things there are to do at most. -/
def rest (c : Core) : Nat :=
  4 * (c.seen.countP (fun p => decide (c.view < p.2))) + (if (lookM c.proposals c.view).isSome then 0 else 1) + (if (lookM (inner c.prepares c.view) c.me).isSome then 0 else 1) + (if (lookM (inner c.commits c.view) c.me).isSome then 0 else 1) + (if c.decided then 0 else 1)

def act (acc : Bs → Bool) (c : Core) : Core := actN acc (rest c + 1) c

def wishC (acc : Bs → Bool) (c : Core) (value : Bs) : Core :=
  if c.wishes ∨ 4096 < value.length then c else act acc { c with wish := value, wishes := true }

def takeC (acc : Bs → Bool) (c : Core) (v : Vt) : Core × Bool :=
  if v.slot ≠ c.slot ∨ c.n < v.frm ∨ v.frm = c.me ∨ encOk v = false then (c, false)
  else match know c v with
    | none => (c, false)
    | some c' => (act acc (if v.kind = 4 then c' else { c' with seen := putM v.frm (max ((lookM c'.seen v.frm).getD 0) v.view) c'.seen }), true)

def lateC (acc : Bs → Bool) (c : Core) : Core :=
  if c.decided = false ∧ c.view < 1048576 then act acc { c with view := c.view + 1 } else c

/-- Its own votes of a kind. -/
def mine (c : Core) (kind : Int) (m : List (Int × TellM)) : List Vt :=
  m.filterMap fun p => (lookM p.2 c.me).map fun v => ⟨kind, c.me, c.slot, p.1, -1, v⟩

def says (c : Core) : List Vt :=
  (if c.decided then [⟨4, c.me, c.slot, 0, -1, c.value⟩] else [⟨5, c.me, c.slot, c.view, -1, []⟩]) ++
  (match lookM c.proposals c.view with
    | some p => if c.decided = false ∧ proposer c c.view = c.me then [⟨1, c.me, c.slot, c.view, p.2, p.1⟩] else []
    | none => []) ++ mine c 2 c.prepares ++ mine c 3 c.commits

def decidedC (c : Core) : Option Bs := if c.decided then some c.value else none

def grownC (c : Core) : Int × Int × Int := (c.view, (c.prepares.countP fun p => (lookM p.2 c.me).isSome), (c.commits.countP fun p => (lookM p.2 c.me).isSome))

def four (n : Nat) : Bs := [n / 16777216 % 256, n / 65536 % 256, n / 256 % 256, n % 256]
def votesB (l : List Vt) : Bs := four l.length ++ l.flatMap fun v => four v.view.toNat ++ four v.value.length ++ v.value
def bytesC (c : Core) : Bs :=
  four c.view.toNat ++ votesB (mine c 2 c.prepares) ++ votesB (mine c 3 c.commits) ++ (if c.decided then 1 :: four c.value.length ++ c.value else 0 :: four 0)

/-! ### the example -/
def anyV (b : Bs) : Bool := true
def notV (b : Bs) : Bool := match b with | [] => true | x :: _ => x != 33

/-- What a tells comes to all, one after another. -/
def tellAll (acc : Bs → Bool) (l : List Core) (v : Vt) : List Core := l.map fun c => (takeC acc c v).1
def livesRound (acc : Bs → Bool) (l : List Core) : List Core :=
  (List.range l.length).foldl (fun l i => match l[i]? with | some a => (says a).foldl (fun l v => tellAll acc l v) l | none => l) l
def livesStart : List Core := [wishC anyV (newCore 4 1 0) [119], newCore 4 2 0, newCore 4 3 0, newCore 4 4 0]
def livesEnd : List Core := livesRound anyV (livesRound anyV (livesRound anyV (livesRound anyV livesStart)))
theorem lives_end : livesEnd[3]?.map decidedC = some (some [119]) := by decide +kernel
end Sac
