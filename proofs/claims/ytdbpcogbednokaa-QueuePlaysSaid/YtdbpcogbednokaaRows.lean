/-
  No cell of these rows narrows 'for every input' (looked for: loops, veiled, ifaces, maps, wideKeys, modest, calm, conditions, laid).
  DERIVED. THE GIVEN ROWS OF THIS SEAT. 5 by the template 'for every input the law returns true; each argument reads behind the call as it read before'; 0 by the template 'total and deterministic' (their statements: YtdbpcogbednokaaTotals.lean).
  GIVEN WITH THE SEED: the statements are not yours to turn. If you find one false, say at which input.
  Laid BY PROGRAM, IN A SANDBOX (cutbox-rows.mjs): the forced cells as the released guide's own fill.sh prints them over the translation 721527c922a541f8… (all of the seat's roots in one cut). By AI agents, Wed Nov 11 2026. No macro, syntax, notation, axiom, sorry.
-/
import Derived.Test.YtdbpcogbednokaaChecked
import GoSem.Claim
import GoSem.ClaimJoined
import GoSem.ClaimMapViews
import Derived.JoinedTies
import Derived.KernelRfl
namespace Go.Proofs.Ytdbpcogbednokaa
/- THE CELL 'sum', in the pinned program and in every row, IS THE sha256 OF THE DUMP (.gsa) THAT YtdbpcogbednokaaProg.lean LOADS. Nothing in Lean hashes anything: it is a label: what it is worth is what the hold of that sum in a sandbox is worth. -/
noncomputable def Try.pinned : Pinned := { name := "ytdbpcogbednokaa", sum := "721527c922a541f857877c2096532712498c377be232117822ad348c273d1c4c", checked := Try.checked }
namespace Rows
def none {H : Type} : Left H := { results := [], args := [] }

/-- 'sacristylaw20.QueueOrders': WHATEVER THE INPUT: true; the input reads as it did. -/
def queueOrdersSpec : ChangeSpec := { name := "queueOrders", fn := fun _ => fun
  | [d] => { results := [.lit (.bool true)], args := [d] }
  | _ => none }
def queueOrdersRow : OpenClaim := { program := "ytdbpcogbednokaa", sum := "721527c922a541f857877c2096532712498c377be232117822ad348c273d1c4c", func := "sacristy/sacristylaw20.QueueOrders", spec := "queueOrders", unfollowed := true, recurses := true, apart := false }
def QueueOrdersSaid : Prop := queueOrdersRow.holds Try.pinned (OpenSpec.ofChange queueOrdersSpec)

/-- ITS FALSE NEIGHBOUR: 'it returns false'. Refute it at one input. -/
def queueOrdersWrong : ChangeSpec := { name := "queueOrders", fn := fun _ => fun
  | [d] => { results := [.lit (.bool false)], args := [d] }
  | _ => none }
def QueueOrdersWrongFalsely : Prop := queueOrdersRow.holds Try.pinned (OpenSpec.ofChange queueOrdersWrong)

/-- 'sacristylaw20.QueueWaits': WHATEVER THE INPUT: true; the input reads as it did. -/
def queueWaitsSpec : ChangeSpec := { name := "queueWaits", fn := fun _ => fun
  | [d1, d2] => { results := [.lit (.bool true)], args := [d1, d2] }
  | _ => none }
def queueWaitsRow : OpenClaim := { program := "ytdbpcogbednokaa", sum := "721527c922a541f857877c2096532712498c377be232117822ad348c273d1c4c", func := "sacristy/sacristylaw20.QueueWaits", spec := "queueWaits", unfollowed := true, recurses := true, apart := false }
def QueueWaitsSaid : Prop := queueWaitsRow.holds Try.pinned (OpenSpec.ofChange queueWaitsSpec)

/-- ITS FALSE NEIGHBOUR: 'it returns false'. Refute it at one input. -/
def queueWaitsWrong : ChangeSpec := { name := "queueWaits", fn := fun _ => fun
  | [d1, d2] => { results := [.lit (.bool false)], args := [d1, d2] }
  | _ => none }
def QueueWaitsWrongFalsely : Prop := queueWaitsRow.holds Try.pinned (OpenSpec.ofChange queueWaitsWrong)

/-- 'sacristylaw20.QueueFull': WHATEVER THE INPUT: true; the input reads as it did. -/
def queueFullSpec : ChangeSpec := { name := "queueFull", fn := fun _ => fun
  | [d] => { results := [.lit (.bool true)], args := [d] }
  | _ => none }
def queueFullRow : OpenClaim := { program := "ytdbpcogbednokaa", sum := "721527c922a541f857877c2096532712498c377be232117822ad348c273d1c4c", func := "sacristy/sacristylaw20.QueueFull", spec := "queueFull", unfollowed := true, recurses := true, apart := false }
def QueueFullSaid : Prop := queueFullRow.holds Try.pinned (OpenSpec.ofChange queueFullSpec)

/-- ITS FALSE NEIGHBOUR: 'it returns false'. Refute it at one input. -/
def queueFullWrong : ChangeSpec := { name := "queueFull", fn := fun _ => fun
  | [d] => { results := [.lit (.bool false)], args := [d] }
  | _ => none }
def QueueFullWrongFalsely : Prop := queueFullRow.holds Try.pinned (OpenSpec.ofChange queueFullWrong)

/-- 'sacristylaw20.QueueEach': WHATEVER THE INPUT: true; the input reads as it did. -/
def queueEachSpec : ChangeSpec := { name := "queueEach", fn := fun _ => fun
  | [d1, d2] => { results := [.lit (.bool true)], args := [d1, d2] }
  | _ => none }
def queueEachRow : OpenClaim := { program := "ytdbpcogbednokaa", sum := "721527c922a541f857877c2096532712498c377be232117822ad348c273d1c4c", func := "sacristy/sacristylaw20.QueueEach", spec := "queueEach", unfollowed := true, recurses := true, apart := false }
def QueueEachSaid : Prop := queueEachRow.holds Try.pinned (OpenSpec.ofChange queueEachSpec)

/-- ITS FALSE NEIGHBOUR: 'it returns false'. Refute it at one input. -/
def queueEachWrong : ChangeSpec := { name := "queueEach", fn := fun _ => fun
  | [d1, d2] => { results := [.lit (.bool false)], args := [d1, d2] }
  | _ => none }
def QueueEachWrongFalsely : Prop := queueEachRow.holds Try.pinned (OpenSpec.ofChange queueEachWrong)

/-- 'sacristylaw20.QueuePlays': WHATEVER THE INPUT: true; the input reads as it did. -/
def queuePlaysSpec : ChangeSpec := { name := "queuePlays", fn := fun _ => fun
  | [d] => { results := [.lit (.bool true)], args := [d] }
  | _ => none }
def queuePlaysRow : OpenClaim := { program := "ytdbpcogbednokaa", sum := "721527c922a541f857877c2096532712498c377be232117822ad348c273d1c4c", func := "sacristy/sacristylaw20.QueuePlays", spec := "queuePlays", unfollowed := true, recurses := true, apart := false }
def QueuePlaysSaid : Prop := queuePlaysRow.holds Try.pinned (OpenSpec.ofChange queuePlaysSpec)

/-- ITS FALSE NEIGHBOUR: 'it returns false'. Refute it at one input. -/
def queuePlaysWrong : ChangeSpec := { name := "queuePlays", fn := fun _ => fun
  | [d] => { results := [.lit (.bool false)], args := [d] }
  | _ => none }
def QueuePlaysWrongFalsely : Prop := queuePlaysRow.holds Try.pinned (OpenSpec.ofChange queuePlaysWrong)

/- THE SECOND FORM. 'bulk': how many values and letters a reading holds, each counted each time it is reached (what is shared counts as often as it is met; a slice's spare places count too). A statement '..UptoSaid' is the law's where the arguments, and the package variables that the reading takes, are together of bulk at most 1048576: NARROWER than '..Said'. Prove '..Said' where nothing that the law and all that it calls make is longer than what came in: it says more and counts as full. Else prove '..UptoSaid'. A law counts once. -/
mutual
def uptoBulk {H : Type} : DataW H → Nat
  | .lit (.string bytes) => bytes.length + 1
  | .lit _ => 1
  | .nil => 1
  | .ptr d => uptoBulk d + 1
  | .slice elems spare => uptoBulkAll elems + uptoBulkAll spare + 1
  | .agg parts => uptoBulkAll parts + 1
  | .iface _ d => uptoBulk d + 1
  | .map entries => uptoBulkEntries entries + 1
  | .held _ => 1
def uptoBulkAll {H : Type} : List (DataW H) → Nat
  | [] => 0
  | d :: r => uptoBulk d + uptoBulkAll r
def uptoBulkEntries {H : Type} : List (Lit × DataW H) → Nat
  | [] => 0
  | x :: r => uptoBulkEntry x + uptoBulkEntries r
def uptoBulkEntry {H : Type} : Lit × DataW H → Nat
  | (.string bytes, d) => bytes.length + uptoBulk d + 1
  | (_, d) => uptoBulk d + 1
 end
def uptoSmall : (H : Type) → List (DataW H) → Bool := fun _ ds => decide (uptoBulkAll ds ≤ 1048576)
def OpenSpec.upto (s : _root_.Go.ChangeSpec) : _root_.Go.OpenSpec := { _root_.Go.OpenSpec.ofChange s with cond := some uptoSmall }

/-- 'sacristylaw20.QueueOrders', WHERE WHAT IT READS IS OF BULK AT MOST 1048576: true; the input reads as it did. -/
def queueOrdersUptoRow : OpenClaim := { program := "ytdbpcogbednokaa", sum := "721527c922a541f857877c2096532712498c377be232117822ad348c273d1c4c", func := "sacristy/sacristylaw20.QueueOrders", spec := "queueOrders", unfollowed := true, recurses := true, apart := false, narrowed := true }
def QueueOrdersUptoSaid : Prop := queueOrdersUptoRow.holds Try.pinned (OpenSpec.upto queueOrdersSpec)

/-- 'sacristylaw20.QueueWaits', WHERE WHAT IT READS IS OF BULK AT MOST 1048576: true; the input reads as it did. -/
def queueWaitsUptoRow : OpenClaim := { program := "ytdbpcogbednokaa", sum := "721527c922a541f857877c2096532712498c377be232117822ad348c273d1c4c", func := "sacristy/sacristylaw20.QueueWaits", spec := "queueWaits", unfollowed := true, recurses := true, apart := false, narrowed := true }
def QueueWaitsUptoSaid : Prop := queueWaitsUptoRow.holds Try.pinned (OpenSpec.upto queueWaitsSpec)

/-- 'sacristylaw20.QueueFull', WHERE WHAT IT READS IS OF BULK AT MOST 1048576: true; the input reads as it did. -/
def queueFullUptoRow : OpenClaim := { program := "ytdbpcogbednokaa", sum := "721527c922a541f857877c2096532712498c377be232117822ad348c273d1c4c", func := "sacristy/sacristylaw20.QueueFull", spec := "queueFull", unfollowed := true, recurses := true, apart := false, narrowed := true }
def QueueFullUptoSaid : Prop := queueFullUptoRow.holds Try.pinned (OpenSpec.upto queueFullSpec)

/-- 'sacristylaw20.QueueEach', WHERE WHAT IT READS IS OF BULK AT MOST 1048576: true; the input reads as it did. -/
def queueEachUptoRow : OpenClaim := { program := "ytdbpcogbednokaa", sum := "721527c922a541f857877c2096532712498c377be232117822ad348c273d1c4c", func := "sacristy/sacristylaw20.QueueEach", spec := "queueEach", unfollowed := true, recurses := true, apart := false, narrowed := true }
def QueueEachUptoSaid : Prop := queueEachUptoRow.holds Try.pinned (OpenSpec.upto queueEachSpec)

/-- 'sacristylaw20.QueuePlays', WHERE WHAT IT READS IS OF BULK AT MOST 1048576: true; the input reads as it did. -/
def queuePlaysUptoRow : OpenClaim := { program := "ytdbpcogbednokaa", sum := "721527c922a541f857877c2096532712498c377be232117822ad348c273d1c4c", func := "sacristy/sacristylaw20.QueuePlays", spec := "queuePlays", unfollowed := true, recurses := true, apart := false, narrowed := true }
def QueuePlaysUptoSaid : Prop := queuePlaysUptoRow.holds Try.pinned (OpenSpec.upto queuePlaysSpec)

end Rows
end Go.Proofs.Ytdbpcogbednokaa
