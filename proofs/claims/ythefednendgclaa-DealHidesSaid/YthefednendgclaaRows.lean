/-
  No cell of these rows narrows 'for every input' (looked for: loops, veiled, ifaces, maps, wideKeys, modest, calm, conditions, laid).
  DERIVED. THE GIVEN ROWS OF THIS SEAT. 13 by the template 'for every input the law returns true; each argument reads behind the call as it read before'; 0 by the template 'total and deterministic' (their statements: YthefednendgclaaTotals.lean).
  GIVEN WITH THE SEED: the statements are not yours to turn. If you find one false, say at which input.
  Laid BY PROGRAM, IN A SANDBOX (cutbox-rows.mjs): the forced cells as the released guide's own fill.sh prints them over the translation 60c49d87f29c200d… (all of the seat's roots in one cut). By AI agents, Wed Nov 11 2026. No macro, syntax, notation, axiom, sorry.
-/
import Derived.Test.YthefednendgclaaChecked
import GoSem.Claim
import GoSem.ClaimJoined
import GoSem.ClaimMapViews
import Derived.JoinedTies
import Derived.KernelRfl
namespace Go.Proofs.Ythefednendgclaa
/- THE CELL 'sum', in the pinned program and in every row, IS THE sha256 OF THE DUMP (.gsa) THAT YthefednendgclaaProg.lean LOADS. Nothing in Lean hashes anything: it is a label: what it is worth is what the hold of that sum in a sandbox is worth. -/
noncomputable def Try.pinned : Pinned := { name := "ythefednendgclaa", sum := "60c49d87f29c200d00891fd90a1be171119b90619519a9221d03c997a2fe60fe", checked := Try.checked }
namespace Rows
def none {H : Type} : Left H := { results := [], args := [] }

/-- 'sacristylaw10.CurveExps': WHATEVER THE INPUT: true; the input reads as it did. -/
def curveExpsSpec : ChangeSpec := { name := "curveExps", fn := fun _ => fun
  | [d1, d2, d3, d4] => { results := [.lit (.bool true)], args := [d1, d2, d3, d4] }
  | _ => none }
def curveExpsRow : OpenClaim := { program := "ythefednendgclaa", sum := "60c49d87f29c200d00891fd90a1be171119b90619519a9221d03c997a2fe60fe", func := "sacristy/sacristylaw10.CurveExps", spec := "curveExps", unfollowed := true, recurses := true, apart := false }
def CurveExpsSaid : Prop := curveExpsRow.holds Try.pinned (OpenSpec.ofChange curveExpsSpec)

/-- ITS FALSE NEIGHBOUR: 'it returns false'. Refute it at one input. -/
def curveExpsWrong : ChangeSpec := { name := "curveExps", fn := fun _ => fun
  | [d1, d2, d3, d4] => { results := [.lit (.bool false)], args := [d1, d2, d3, d4] }
  | _ => none }
def CurveExpsWrongFalsely : Prop := curveExpsRow.holds Try.pinned (OpenSpec.ofChange curveExpsWrong)

/-- 'sacristylaw10.CurveSums': WHATEVER THE INPUT: true; the input reads as it did. -/
def curveSumsSpec : ChangeSpec := { name := "curveSums", fn := fun _ => fun
  | [d1, d2, d3] => { results := [.lit (.bool true)], args := [d1, d2, d3] }
  | _ => none }
def curveSumsRow : OpenClaim := { program := "ythefednendgclaa", sum := "60c49d87f29c200d00891fd90a1be171119b90619519a9221d03c997a2fe60fe", func := "sacristy/sacristylaw10.CurveSums", spec := "curveSums", unfollowed := true, recurses := true, apart := false }
def CurveSumsSaid : Prop := curveSumsRow.holds Try.pinned (OpenSpec.ofChange curveSumsSpec)

/-- ITS FALSE NEIGHBOUR: 'it returns false'. Refute it at one input. -/
def curveSumsWrong : ChangeSpec := { name := "curveSums", fn := fun _ => fun
  | [d1, d2, d3] => { results := [.lit (.bool false)], args := [d1, d2, d3] }
  | _ => none }
def CurveSumsWrongFalsely : Prop := curveSumsRow.holds Try.pinned (OpenSpec.ofChange curveSumsWrong)

/-- 'sacristylaw10.CurveWeighs': WHATEVER THE INPUT: true; the input reads as it did. -/
def curveWeighsSpec : ChangeSpec := { name := "curveWeighs", fn := fun _ => fun
  | [d1, d2, d3, d4] => { results := [.lit (.bool true)], args := [d1, d2, d3, d4] }
  | _ => none }
def curveWeighsRow : OpenClaim := { program := "ythefednendgclaa", sum := "60c49d87f29c200d00891fd90a1be171119b90619519a9221d03c997a2fe60fe", func := "sacristy/sacristylaw10.CurveWeighs", spec := "curveWeighs", unfollowed := true, recurses := true, apart := false }
def CurveWeighsSaid : Prop := curveWeighsRow.holds Try.pinned (OpenSpec.ofChange curveWeighsSpec)

/-- ITS FALSE NEIGHBOUR: 'it returns false'. Refute it at one input. -/
def curveWeighsWrong : ChangeSpec := { name := "curveWeighs", fn := fun _ => fun
  | [d1, d2, d3, d4] => { results := [.lit (.bool false)], args := [d1, d2, d3, d4] }
  | _ => none }
def CurveWeighsWrongFalsely : Prop := curveWeighsRow.holds Try.pinned (OpenSpec.ofChange curveWeighsWrong)

/-- 'sacristylaw13.PledgeSums': WHATEVER THE INPUT: true; the input reads as it did. -/
def pledgeSumsSpec : ChangeSpec := { name := "pledgeSums", fn := fun _ => fun
  | [d1, d2, d3, d4, d5] => { results := [.lit (.bool true)], args := [d1, d2, d3, d4, d5] }
  | _ => none }
def pledgeSumsRow : OpenClaim := { program := "ythefednendgclaa", sum := "60c49d87f29c200d00891fd90a1be171119b90619519a9221d03c997a2fe60fe", func := "sacristy/sacristylaw13.PledgeSums", spec := "pledgeSums", unfollowed := true, recurses := true, apart := false }
def PledgeSumsSaid : Prop := pledgeSumsRow.holds Try.pinned (OpenSpec.ofChange pledgeSumsSpec)

/-- ITS FALSE NEIGHBOUR: 'it returns false'. Refute it at one input. -/
def pledgeSumsWrong : ChangeSpec := { name := "pledgeSums", fn := fun _ => fun
  | [d1, d2, d3, d4, d5] => { results := [.lit (.bool false)], args := [d1, d2, d3, d4, d5] }
  | _ => none }
def PledgeSumsWrongFalsely : Prop := pledgeSumsRow.holds Try.pinned (OpenSpec.ofChange pledgeSumsWrong)

/-- 'sacristylaw13.PledgeTells': WHATEVER THE INPUT: true; the input reads as it did. -/
def pledgeTellsSpec : ChangeSpec := { name := "pledgeTells", fn := fun _ => fun
  | [d1, d2, d3, d4, d5] => { results := [.lit (.bool true)], args := [d1, d2, d3, d4, d5] }
  | _ => none }
def pledgeTellsRow : OpenClaim := { program := "ythefednendgclaa", sum := "60c49d87f29c200d00891fd90a1be171119b90619519a9221d03c997a2fe60fe", func := "sacristy/sacristylaw13.PledgeTells", spec := "pledgeTells", unfollowed := true, recurses := true, apart := false }
def PledgeTellsSaid : Prop := pledgeTellsRow.holds Try.pinned (OpenSpec.ofChange pledgeTellsSpec)

/-- ITS FALSE NEIGHBOUR: 'it returns false'. Refute it at one input. -/
def pledgeTellsWrong : ChangeSpec := { name := "pledgeTells", fn := fun _ => fun
  | [d1, d2, d3, d4, d5] => { results := [.lit (.bool false)], args := [d1, d2, d3, d4, d5] }
  | _ => none }
def PledgeTellsWrongFalsely : Prop := pledgeTellsRow.holds Try.pinned (OpenSpec.ofChange pledgeTellsWrong)

/-- 'sacristylaw13.PledgeOpens': WHATEVER THE INPUT: true; the input reads as it did. -/
def pledgeOpensSpec : ChangeSpec := { name := "pledgeOpens", fn := fun _ => fun
  | [d1, d2, d3, d4, d5] => { results := [.lit (.bool true)], args := [d1, d2, d3, d4, d5] }
  | _ => none }
def pledgeOpensRow : OpenClaim := { program := "ythefednendgclaa", sum := "60c49d87f29c200d00891fd90a1be171119b90619519a9221d03c997a2fe60fe", func := "sacristy/sacristylaw13.PledgeOpens", spec := "pledgeOpens", unfollowed := true, recurses := true, apart := false }
def PledgeOpensSaid : Prop := pledgeOpensRow.holds Try.pinned (OpenSpec.ofChange pledgeOpensSpec)

/-- ITS FALSE NEIGHBOUR: 'it returns false'. Refute it at one input. -/
def pledgeOpensWrong : ChangeSpec := { name := "pledgeOpens", fn := fun _ => fun
  | [d1, d2, d3, d4, d5] => { results := [.lit (.bool false)], args := [d1, d2, d3, d4, d5] }
  | _ => none }
def PledgeOpensWrongFalsely : Prop := pledgeOpensRow.holds Try.pinned (OpenSpec.ofChange pledgeOpensWrong)

/-- 'sacristylaw13.PledgeMakes': WHATEVER THE INPUT: true; the input reads as it did. -/
def pledgeMakesSpec : ChangeSpec := { name := "pledgeMakes", fn := fun _ => fun
  | [d1, d2, d3, d4] => { results := [.lit (.bool true)], args := [d1, d2, d3, d4] }
  | _ => none }
def pledgeMakesRow : OpenClaim := { program := "ythefednendgclaa", sum := "60c49d87f29c200d00891fd90a1be171119b90619519a9221d03c997a2fe60fe", func := "sacristy/sacristylaw13.PledgeMakes", spec := "pledgeMakes", unfollowed := true, recurses := true, apart := false }
def PledgeMakesSaid : Prop := pledgeMakesRow.holds Try.pinned (OpenSpec.ofChange pledgeMakesSpec)

/-- ITS FALSE NEIGHBOUR: 'it returns false'. Refute it at one input. -/
def pledgeMakesWrong : ChangeSpec := { name := "pledgeMakes", fn := fun _ => fun
  | [d1, d2, d3, d4] => { results := [.lit (.bool false)], args := [d1, d2, d3, d4] }
  | _ => none }
def PledgeMakesWrongFalsely : Prop := pledgeMakesRow.holds Try.pinned (OpenSpec.ofChange pledgeMakesWrong)

/-- 'sacristylaw14.DealNews': WHATEVER THE INPUT: true; the input reads as it did. -/
def dealNewsSpec : ChangeSpec := { name := "dealNews", fn := fun _ => fun
  | [d1, d2, d3, d4, d5, d6] => { results := [.lit (.bool true)], args := [d1, d2, d3, d4, d5, d6] }
  | _ => none }
def dealNewsRow : OpenClaim := { program := "ythefednendgclaa", sum := "60c49d87f29c200d00891fd90a1be171119b90619519a9221d03c997a2fe60fe", func := "sacristy/sacristylaw14.DealNews", spec := "dealNews", unfollowed := true, recurses := true, apart := false }
def DealNewsSaid : Prop := dealNewsRow.holds Try.pinned (OpenSpec.ofChange dealNewsSpec)

/-- ITS FALSE NEIGHBOUR: 'it returns false'. Refute it at one input. -/
def dealNewsWrong : ChangeSpec := { name := "dealNews", fn := fun _ => fun
  | [d1, d2, d3, d4, d5, d6] => { results := [.lit (.bool false)], args := [d1, d2, d3, d4, d5, d6] }
  | _ => none }
def DealNewsWrongFalsely : Prop := dealNewsRow.holds Try.pinned (OpenSpec.ofChange dealNewsWrong)

/-- 'sacristylaw10.CurveShares': WHATEVER THE INPUT: true; the input reads as it did. -/
def curveSharesSpec : ChangeSpec := { name := "curveShares", fn := fun _ => fun
  | [d1, d2, d3, d4] => { results := [.lit (.bool true)], args := [d1, d2, d3, d4] }
  | _ => none }
def curveSharesRow : OpenClaim := { program := "ythefednendgclaa", sum := "60c49d87f29c200d00891fd90a1be171119b90619519a9221d03c997a2fe60fe", func := "sacristy/sacristylaw10.CurveShares", spec := "curveShares", unfollowed := true, recurses := true, apart := false }
def CurveSharesSaid : Prop := curveSharesRow.holds Try.pinned (OpenSpec.ofChange curveSharesSpec)

/-- ITS FALSE NEIGHBOUR: 'it returns false'. Refute it at one input. -/
def curveSharesWrong : ChangeSpec := { name := "curveShares", fn := fun _ => fun
  | [d1, d2, d3, d4] => { results := [.lit (.bool false)], args := [d1, d2, d3, d4] }
  | _ => none }
def CurveSharesWrongFalsely : Prop := curveSharesRow.holds Try.pinned (OpenSpec.ofChange curveSharesWrong)

/-- 'sacristylaw14.DealBytes': WHATEVER THE INPUT: true; the input reads as it did. -/
def dealBytesSpec : ChangeSpec := { name := "dealBytes", fn := fun _ => fun
  | [d1, d2, d3, d4] => { results := [.lit (.bool true)], args := [d1, d2, d3, d4] }
  | _ => none }
def dealBytesRow : OpenClaim := { program := "ythefednendgclaa", sum := "60c49d87f29c200d00891fd90a1be171119b90619519a9221d03c997a2fe60fe", func := "sacristy/sacristylaw14.DealBytes", spec := "dealBytes", unfollowed := true, recurses := true, apart := false }
def DealBytesSaid : Prop := dealBytesRow.holds Try.pinned (OpenSpec.ofChange dealBytesSpec)

/-- ITS FALSE NEIGHBOUR: 'it returns false'. Refute it at one input. -/
def dealBytesWrong : ChangeSpec := { name := "dealBytes", fn := fun _ => fun
  | [d1, d2, d3, d4] => { results := [.lit (.bool false)], args := [d1, d2, d3, d4] }
  | _ => none }
def DealBytesWrongFalsely : Prop := dealBytesRow.holds Try.pinned (OpenSpec.ofChange dealBytesWrong)

/-- 'sacristylaw10.CurveThrough': WHATEVER THE INPUT: true; the input reads as it did. -/
def curveThroughSpec : ChangeSpec := { name := "curveThrough", fn := fun _ => fun
  | [d1, d2, d3] => { results := [.lit (.bool true)], args := [d1, d2, d3] }
  | _ => none }
def curveThroughRow : OpenClaim := { program := "ythefednendgclaa", sum := "60c49d87f29c200d00891fd90a1be171119b90619519a9221d03c997a2fe60fe", func := "sacristy/sacristylaw10.CurveThrough", spec := "curveThrough", unfollowed := true, recurses := true, apart := false }
def CurveThroughSaid : Prop := curveThroughRow.holds Try.pinned (OpenSpec.ofChange curveThroughSpec)

/-- ITS FALSE NEIGHBOUR: 'it returns false'. Refute it at one input. -/
def curveThroughWrong : ChangeSpec := { name := "curveThrough", fn := fun _ => fun
  | [d1, d2, d3] => { results := [.lit (.bool false)], args := [d1, d2, d3] }
  | _ => none }
def CurveThroughWrongFalsely : Prop := curveThroughRow.holds Try.pinned (OpenSpec.ofChange curveThroughWrong)

/-- 'sacristylaw13.PledgeHides': WHATEVER THE INPUT: true; the input reads as it did. -/
def pledgeHidesSpec : ChangeSpec := { name := "pledgeHides", fn := fun _ => fun
  | [d1, d2, d3, d4] => { results := [.lit (.bool true)], args := [d1, d2, d3, d4] }
  | _ => none }
def pledgeHidesRow : OpenClaim := { program := "ythefednendgclaa", sum := "60c49d87f29c200d00891fd90a1be171119b90619519a9221d03c997a2fe60fe", func := "sacristy/sacristylaw13.PledgeHides", spec := "pledgeHides", unfollowed := true, recurses := true, apart := false }
def PledgeHidesSaid : Prop := pledgeHidesRow.holds Try.pinned (OpenSpec.ofChange pledgeHidesSpec)

/-- ITS FALSE NEIGHBOUR: 'it returns false'. Refute it at one input. -/
def pledgeHidesWrong : ChangeSpec := { name := "pledgeHides", fn := fun _ => fun
  | [d1, d2, d3, d4] => { results := [.lit (.bool false)], args := [d1, d2, d3, d4] }
  | _ => none }
def PledgeHidesWrongFalsely : Prop := pledgeHidesRow.holds Try.pinned (OpenSpec.ofChange pledgeHidesWrong)

/-- 'sacristylaw14.DealHides': WHATEVER THE INPUT: true; the input reads as it did. -/
def dealHidesSpec : ChangeSpec := { name := "dealHides", fn := fun _ => fun
  | [d1, d2, d3, d4, d5, d6, d7] => { results := [.lit (.bool true)], args := [d1, d2, d3, d4, d5, d6, d7] }
  | _ => none }
def dealHidesRow : OpenClaim := { program := "ythefednendgclaa", sum := "60c49d87f29c200d00891fd90a1be171119b90619519a9221d03c997a2fe60fe", func := "sacristy/sacristylaw14.DealHides", spec := "dealHides", unfollowed := true, recurses := true, apart := false }
def DealHidesSaid : Prop := dealHidesRow.holds Try.pinned (OpenSpec.ofChange dealHidesSpec)

/-- ITS FALSE NEIGHBOUR: 'it returns false'. Refute it at one input. -/
def dealHidesWrong : ChangeSpec := { name := "dealHides", fn := fun _ => fun
  | [d1, d2, d3, d4, d5, d6, d7] => { results := [.lit (.bool false)], args := [d1, d2, d3, d4, d5, d6, d7] }
  | _ => none }
def DealHidesWrongFalsely : Prop := dealHidesRow.holds Try.pinned (OpenSpec.ofChange dealHidesWrong)

/- THE SECOND FORM. 'bulk': how many values and letters a reading holds, each counted each time it is reached (what is shared counts as often as it is met; a slice's spare places count too). A statement '..UptoSaid' is the law's where the arguments, and the package variables that the reading takes, are together of bulk at most 1048576: NARROWER than '..Said'. Prove '..Said' where nothing that the law and all that it calls make is longer than what came in: it says more and counts as full. Else prove '..UptoSaid'. A law counts once. -/
mutual
def uptoBulk {H : Type} : DataW H → Nat
  | .lit (.string bytes) => bytes.length + 1
  | .lit _ => 1
  | .nil => 1
  | .ptr d => uptoBulk d + 1
  | .slice elems spare => uptoBulkAll elems + uptoBulkAll spare + 1
  | .agg parts => uptoBulkAll parts + 1
  | .iface _ d => uptoBulk d + 1
  | .map entries => uptoBulkEntries entries + 1
  | .held _ => 1
def uptoBulkAll {H : Type} : List (DataW H) → Nat
  | [] => 0
  | d :: r => uptoBulk d + uptoBulkAll r
def uptoBulkEntries {H : Type} : List (Lit × DataW H) → Nat
  | [] => 0
  | x :: r => uptoBulkEntry x + uptoBulkEntries r
def uptoBulkEntry {H : Type} : Lit × DataW H → Nat
  | (.string bytes, d) => bytes.length + uptoBulk d + 1
  | (_, d) => uptoBulk d + 1
 end
def uptoSmall : (H : Type) → List (DataW H) → Bool := fun _ ds => decide (uptoBulkAll ds ≤ 1048576)
def OpenSpec.upto (s : _root_.Go.ChangeSpec) : _root_.Go.OpenSpec := { _root_.Go.OpenSpec.ofChange s with cond := some uptoSmall }

/-- 'sacristylaw10.CurveExps', WHERE WHAT IT READS IS OF BULK AT MOST 1048576: true; the input reads as it did. -/
def curveExpsUptoRow : OpenClaim := { program := "ythefednendgclaa", sum := "60c49d87f29c200d00891fd90a1be171119b90619519a9221d03c997a2fe60fe", func := "sacristy/sacristylaw10.CurveExps", spec := "curveExps", unfollowed := true, recurses := true, apart := false, narrowed := true }
def CurveExpsUptoSaid : Prop := curveExpsUptoRow.holds Try.pinned (OpenSpec.upto curveExpsSpec)

/-- 'sacristylaw10.CurveSums', WHERE WHAT IT READS IS OF BULK AT MOST 1048576: true; the input reads as it did. -/
def curveSumsUptoRow : OpenClaim := { program := "ythefednendgclaa", sum := "60c49d87f29c200d00891fd90a1be171119b90619519a9221d03c997a2fe60fe", func := "sacristy/sacristylaw10.CurveSums", spec := "curveSums", unfollowed := true, recurses := true, apart := false, narrowed := true }
def CurveSumsUptoSaid : Prop := curveSumsUptoRow.holds Try.pinned (OpenSpec.upto curveSumsSpec)

/-- 'sacristylaw10.CurveWeighs', WHERE WHAT IT READS IS OF BULK AT MOST 1048576: true; the input reads as it did. -/
def curveWeighsUptoRow : OpenClaim := { program := "ythefednendgclaa", sum := "60c49d87f29c200d00891fd90a1be171119b90619519a9221d03c997a2fe60fe", func := "sacristy/sacristylaw10.CurveWeighs", spec := "curveWeighs", unfollowed := true, recurses := true, apart := false, narrowed := true }
def CurveWeighsUptoSaid : Prop := curveWeighsUptoRow.holds Try.pinned (OpenSpec.upto curveWeighsSpec)

/-- 'sacristylaw13.PledgeSums', WHERE WHAT IT READS IS OF BULK AT MOST 1048576: true; the input reads as it did. -/
def pledgeSumsUptoRow : OpenClaim := { program := "ythefednendgclaa", sum := "60c49d87f29c200d00891fd90a1be171119b90619519a9221d03c997a2fe60fe", func := "sacristy/sacristylaw13.PledgeSums", spec := "pledgeSums", unfollowed := true, recurses := true, apart := false, narrowed := true }
def PledgeSumsUptoSaid : Prop := pledgeSumsUptoRow.holds Try.pinned (OpenSpec.upto pledgeSumsSpec)

/-- 'sacristylaw13.PledgeTells', WHERE WHAT IT READS IS OF BULK AT MOST 1048576: true; the input reads as it did. -/
def pledgeTellsUptoRow : OpenClaim := { program := "ythefednendgclaa", sum := "60c49d87f29c200d00891fd90a1be171119b90619519a9221d03c997a2fe60fe", func := "sacristy/sacristylaw13.PledgeTells", spec := "pledgeTells", unfollowed := true, recurses := true, apart := false, narrowed := true }
def PledgeTellsUptoSaid : Prop := pledgeTellsUptoRow.holds Try.pinned (OpenSpec.upto pledgeTellsSpec)

/-- 'sacristylaw13.PledgeOpens', WHERE WHAT IT READS IS OF BULK AT MOST 1048576: true; the input reads as it did. -/
def pledgeOpensUptoRow : OpenClaim := { program := "ythefednendgclaa", sum := "60c49d87f29c200d00891fd90a1be171119b90619519a9221d03c997a2fe60fe", func := "sacristy/sacristylaw13.PledgeOpens", spec := "pledgeOpens", unfollowed := true, recurses := true, apart := false, narrowed := true }
def PledgeOpensUptoSaid : Prop := pledgeOpensUptoRow.holds Try.pinned (OpenSpec.upto pledgeOpensSpec)

/-- 'sacristylaw13.PledgeMakes', WHERE WHAT IT READS IS OF BULK AT MOST 1048576: true; the input reads as it did. -/
def pledgeMakesUptoRow : OpenClaim := { program := "ythefednendgclaa", sum := "60c49d87f29c200d00891fd90a1be171119b90619519a9221d03c997a2fe60fe", func := "sacristy/sacristylaw13.PledgeMakes", spec := "pledgeMakes", unfollowed := true, recurses := true, apart := false, narrowed := true }
def PledgeMakesUptoSaid : Prop := pledgeMakesUptoRow.holds Try.pinned (OpenSpec.upto pledgeMakesSpec)

/-- 'sacristylaw14.DealNews', WHERE WHAT IT READS IS OF BULK AT MOST 1048576: true; the input reads as it did. -/
def dealNewsUptoRow : OpenClaim := { program := "ythefednendgclaa", sum := "60c49d87f29c200d00891fd90a1be171119b90619519a9221d03c997a2fe60fe", func := "sacristy/sacristylaw14.DealNews", spec := "dealNews", unfollowed := true, recurses := true, apart := false, narrowed := true }
def DealNewsUptoSaid : Prop := dealNewsUptoRow.holds Try.pinned (OpenSpec.upto dealNewsSpec)

/-- 'sacristylaw10.CurveShares', WHERE WHAT IT READS IS OF BULK AT MOST 1048576: true; the input reads as it did. -/
def curveSharesUptoRow : OpenClaim := { program := "ythefednendgclaa", sum := "60c49d87f29c200d00891fd90a1be171119b90619519a9221d03c997a2fe60fe", func := "sacristy/sacristylaw10.CurveShares", spec := "curveShares", unfollowed := true, recurses := true, apart := false, narrowed := true }
def CurveSharesUptoSaid : Prop := curveSharesUptoRow.holds Try.pinned (OpenSpec.upto curveSharesSpec)

/-- 'sacristylaw14.DealBytes', WHERE WHAT IT READS IS OF BULK AT MOST 1048576: true; the input reads as it did. -/
def dealBytesUptoRow : OpenClaim := { program := "ythefednendgclaa", sum := "60c49d87f29c200d00891fd90a1be171119b90619519a9221d03c997a2fe60fe", func := "sacristy/sacristylaw14.DealBytes", spec := "dealBytes", unfollowed := true, recurses := true, apart := false, narrowed := true }
def DealBytesUptoSaid : Prop := dealBytesUptoRow.holds Try.pinned (OpenSpec.upto dealBytesSpec)

/-- 'sacristylaw10.CurveThrough', WHERE WHAT IT READS IS OF BULK AT MOST 1048576: true; the input reads as it did. -/
def curveThroughUptoRow : OpenClaim := { program := "ythefednendgclaa", sum := "60c49d87f29c200d00891fd90a1be171119b90619519a9221d03c997a2fe60fe", func := "sacristy/sacristylaw10.CurveThrough", spec := "curveThrough", unfollowed := true, recurses := true, apart := false, narrowed := true }
def CurveThroughUptoSaid : Prop := curveThroughUptoRow.holds Try.pinned (OpenSpec.upto curveThroughSpec)

/-- 'sacristylaw13.PledgeHides', WHERE WHAT IT READS IS OF BULK AT MOST 1048576: true; the input reads as it did. -/
def pledgeHidesUptoRow : OpenClaim := { program := "ythefednendgclaa", sum := "60c49d87f29c200d00891fd90a1be171119b90619519a9221d03c997a2fe60fe", func := "sacristy/sacristylaw13.PledgeHides", spec := "pledgeHides", unfollowed := true, recurses := true, apart := false, narrowed := true }
def PledgeHidesUptoSaid : Prop := pledgeHidesUptoRow.holds Try.pinned (OpenSpec.upto pledgeHidesSpec)

/-- 'sacristylaw14.DealHides', WHERE WHAT IT READS IS OF BULK AT MOST 1048576: true; the input reads as it did. -/
def dealHidesUptoRow : OpenClaim := { program := "ythefednendgclaa", sum := "60c49d87f29c200d00891fd90a1be171119b90619519a9221d03c997a2fe60fe", func := "sacristy/sacristylaw14.DealHides", spec := "dealHides", unfollowed := true, recurses := true, apart := false, narrowed := true }
def DealHidesUptoSaid : Prop := dealHidesUptoRow.holds Try.pinned (OpenSpec.upto dealHidesSpec)

end Rows
end Go.Proofs.Ythefednendgclaa
