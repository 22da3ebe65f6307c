/-
  No cell of these rows narrows 'for every input' (looked for: loops, veiled, ifaces, maps, wideKeys, modest, calm, conditions, laid).
  DERIVED. THE GIVEN ROWS OF THIS SEAT. 9 by the template 'for every input the law returns true; each argument reads behind the call as it read before'; 0 by the template 'total and deterministic' (their statements: YtilhdelijdkjpaaTotals.lean).
  GIVEN WITH THE SEED: the statements are not yours to turn. If you find one false, say at which input.
  Laid BY PROGRAM, IN A SANDBOX (cutbox-rows.mjs): the forced cells as the released guide's own fill.sh prints them over the translation fcc02f108c30cb90… (all of the seat's roots in one cut). By AI agents, Wed Nov 11 2026. No macro, syntax, notation, axiom, sorry.
-/
import Derived.Test.YtilhdelijdkjpaaChecked
import GoSem.Claim
import GoSem.ClaimJoined
import GoSem.ClaimMapViews
import Derived.JoinedTies
import Derived.KernelRfl
namespace Go.Proofs.Ytilhdelijdkjpaa
/- THE CELL 'sum', in the pinned program and in every row, IS THE sha256 OF THE DUMP (.gsa) THAT YtilhdelijdkjpaaProg.lean LOADS. Nothing in Lean hashes anything: it is a label: what it is worth is what the hold of that sum in a sandbox is worth. -/
noncomputable def Try.pinned : Pinned := { name := "ytilhdelijdkjpaa", sum := "fcc02f108c30cb907e623ae4d9ec5ac4f47d82c7826b650ef6ff70ae99db6def", checked := Try.checked }
namespace Rows
def none {H : Type} : Left H := { results := [], args := [] }

/-- 'sacristylaw18.VoteViews': WHATEVER THE INPUT: true; the input reads as it did. -/
def voteViewsSpec : ChangeSpec := { name := "voteViews", fn := fun _ => fun
  | [d1, d2, d3, d4] => { results := [.lit (.bool true)], args := [d1, d2, d3, d4] }
  | _ => none }
def voteViewsRow : OpenClaim := { program := "ytilhdelijdkjpaa", sum := "fcc02f108c30cb907e623ae4d9ec5ac4f47d82c7826b650ef6ff70ae99db6def", func := "sacristy/sacristylaw18.VoteViews", spec := "voteViews", unfollowed := true, recurses := true, plainKeys := false, apart := false }
def VoteViewsSaid : Prop := voteViewsRow.holds Try.pinned (OpenSpec.ofChange voteViewsSpec)

/-- ITS FALSE NEIGHBOUR: 'it returns false'. Refute it at one input. -/
def voteViewsWrong : ChangeSpec := { name := "voteViews", fn := fun _ => fun
  | [d1, d2, d3, d4] => { results := [.lit (.bool false)], args := [d1, d2, d3, d4] }
  | _ => none }
def VoteViewsWrongFalsely : Prop := voteViewsRow.holds Try.pinned (OpenSpec.ofChange voteViewsWrong)

/-- 'sacristylaw18.VoteForms': WHATEVER THE INPUT: true; the input reads as it did. -/
def voteFormsSpec : ChangeSpec := { name := "voteForms", fn := fun _ => fun
  | [d1, d2, d3, d4] => { results := [.lit (.bool true)], args := [d1, d2, d3, d4] }
  | _ => none }
def voteFormsRow : OpenClaim := { program := "ytilhdelijdkjpaa", sum := "fcc02f108c30cb907e623ae4d9ec5ac4f47d82c7826b650ef6ff70ae99db6def", func := "sacristy/sacristylaw18.VoteForms", spec := "voteForms", unfollowed := true, recurses := true, plainKeys := false, apart := false }
def VoteFormsSaid : Prop := voteFormsRow.holds Try.pinned (OpenSpec.ofChange voteFormsSpec)

/-- ITS FALSE NEIGHBOUR: 'it returns false'. Refute it at one input. -/
def voteFormsWrong : ChangeSpec := { name := "voteForms", fn := fun _ => fun
  | [d1, d2, d3, d4] => { results := [.lit (.bool false)], args := [d1, d2, d3, d4] }
  | _ => none }
def VoteFormsWrongFalsely : Prop := voteFormsRow.holds Try.pinned (OpenSpec.ofChange voteFormsWrong)

/-- 'sacristylaw18.VoteAgrees': WHATEVER THE INPUT: true; the input reads as it did. -/
def voteAgreesSpec : ChangeSpec := { name := "voteAgrees", fn := fun _ => fun
  | [d1, d2, d3, d4] => { results := [.lit (.bool true)], args := [d1, d2, d3, d4] }
  | _ => none }
def voteAgreesRow : OpenClaim := { program := "ytilhdelijdkjpaa", sum := "fcc02f108c30cb907e623ae4d9ec5ac4f47d82c7826b650ef6ff70ae99db6def", func := "sacristy/sacristylaw18.VoteAgrees", spec := "voteAgrees", unfollowed := true, recurses := true, plainKeys := false, apart := false }
def VoteAgreesSaid : Prop := voteAgreesRow.holds Try.pinned (OpenSpec.ofChange voteAgreesSpec)

/-- ITS FALSE NEIGHBOUR: 'it returns false'. Refute it at one input. -/
def voteAgreesWrong : ChangeSpec := { name := "voteAgrees", fn := fun _ => fun
  | [d1, d2, d3, d4] => { results := [.lit (.bool false)], args := [d1, d2, d3, d4] }
  | _ => none }
def VoteAgreesWrongFalsely : Prop := voteAgreesRow.holds Try.pinned (OpenSpec.ofChange voteAgreesWrong)

/-- 'sacristylaw18.VoteOnce': WHATEVER THE INPUT: true; the input reads as it did. -/
def voteOnceSpec : ChangeSpec := { name := "voteOnce", fn := fun _ => fun
  | [d1, d2, d3, d4] => { results := [.lit (.bool true)], args := [d1, d2, d3, d4] }
  | _ => none }
def voteOnceRow : OpenClaim := { program := "ytilhdelijdkjpaa", sum := "fcc02f108c30cb907e623ae4d9ec5ac4f47d82c7826b650ef6ff70ae99db6def", func := "sacristy/sacristylaw18.VoteOnce", spec := "voteOnce", unfollowed := true, recurses := true, plainKeys := false, apart := false }
def VoteOnceSaid : Prop := voteOnceRow.holds Try.pinned (OpenSpec.ofChange voteOnceSpec)

/-- ITS FALSE NEIGHBOUR: 'it returns false'. Refute it at one input. -/
def voteOnceWrong : ChangeSpec := { name := "voteOnce", fn := fun _ => fun
  | [d1, d2, d3, d4] => { results := [.lit (.bool false)], args := [d1, d2, d3, d4] }
  | _ => none }
def VoteOnceWrongFalsely : Prop := voteOnceRow.holds Try.pinned (OpenSpec.ofChange voteOnceWrong)

/-- 'sacristylaw18.VoteEnds': WHATEVER THE INPUT: true; the input reads as it did. -/
def voteEndsSpec : ChangeSpec := { name := "voteEnds", fn := fun _ => fun
  | [d1, d2, d3] => { results := [.lit (.bool true)], args := [d1, d2, d3] }
  | _ => none }
def voteEndsRow : OpenClaim := { program := "ytilhdelijdkjpaa", sum := "fcc02f108c30cb907e623ae4d9ec5ac4f47d82c7826b650ef6ff70ae99db6def", func := "sacristy/sacristylaw18.VoteEnds", spec := "voteEnds", unfollowed := true, recurses := true, plainKeys := false, apart := false }
def VoteEndsSaid : Prop := voteEndsRow.holds Try.pinned (OpenSpec.ofChange voteEndsSpec)

/-- ITS FALSE NEIGHBOUR: 'it returns false'. Refute it at one input. -/
def voteEndsWrong : ChangeSpec := { name := "voteEnds", fn := fun _ => fun
  | [d1, d2, d3] => { results := [.lit (.bool false)], args := [d1, d2, d3] }
  | _ => none }
def VoteEndsWrongFalsely : Prop := voteEndsRow.holds Try.pinned (OpenSpec.ofChange voteEndsWrong)

/-- 'sacristylaw18.VotePlays': WHATEVER THE INPUT: true; the input reads as it did. -/
def votePlaysSpec : ChangeSpec := { name := "votePlays", fn := fun _ => fun
  | [d1, d2, d3, d4] => { results := [.lit (.bool true)], args := [d1, d2, d3, d4] }
  | _ => none }
def votePlaysRow : OpenClaim := { program := "ytilhdelijdkjpaa", sum := "fcc02f108c30cb907e623ae4d9ec5ac4f47d82c7826b650ef6ff70ae99db6def", func := "sacristy/sacristylaw18.VotePlays", spec := "votePlays", unfollowed := true, recurses := true, plainKeys := false, apart := false }
def VotePlaysSaid : Prop := votePlaysRow.holds Try.pinned (OpenSpec.ofChange votePlaysSpec)

/-- ITS FALSE NEIGHBOUR: 'it returns false'. Refute it at one input. -/
def votePlaysWrong : ChangeSpec := { name := "votePlays", fn := fun _ => fun
  | [d1, d2, d3, d4] => { results := [.lit (.bool false)], args := [d1, d2, d3, d4] }
  | _ => none }
def VotePlaysWrongFalsely : Prop := votePlaysRow.holds Try.pinned (OpenSpec.ofChange votePlaysWrong)

/-- 'sacristylaw19.BoardTells': WHATEVER THE INPUT: true; the input reads as it did. -/
def boardTellsSpec : ChangeSpec := { name := "boardTells", fn := fun _ => fun
  | [d1, d2, d3] => { results := [.lit (.bool true)], args := [d1, d2, d3] }
  | _ => none }
def boardTellsRow : OpenClaim := { program := "ytilhdelijdkjpaa", sum := "fcc02f108c30cb907e623ae4d9ec5ac4f47d82c7826b650ef6ff70ae99db6def", func := "sacristy/sacristylaw19.BoardTells", spec := "boardTells", unfollowed := true, recurses := true, plainKeys := false, apart := false }
def BoardTellsSaid : Prop := boardTellsRow.holds Try.pinned (OpenSpec.ofChange boardTellsSpec)

/-- ITS FALSE NEIGHBOUR: 'it returns false'. Refute it at one input. -/
def boardTellsWrong : ChangeSpec := { name := "boardTells", fn := fun _ => fun
  | [d1, d2, d3] => { results := [.lit (.bool false)], args := [d1, d2, d3] }
  | _ => none }
def BoardTellsWrongFalsely : Prop := boardTellsRow.holds Try.pinned (OpenSpec.ofChange boardTellsWrong)

/-- 'sacristylaw19.BoardOrders': WHATEVER THE INPUT: true; the input reads as it did. -/
def boardOrdersSpec : ChangeSpec := { name := "boardOrders", fn := fun _ => fun
  | [d1, d2, d3] => { results := [.lit (.bool true)], args := [d1, d2, d3] }
  | _ => none }
def boardOrdersRow : OpenClaim := { program := "ytilhdelijdkjpaa", sum := "fcc02f108c30cb907e623ae4d9ec5ac4f47d82c7826b650ef6ff70ae99db6def", func := "sacristy/sacristylaw19.BoardOrders", spec := "boardOrders", unfollowed := true, recurses := true, plainKeys := false, apart := false }
def BoardOrdersSaid : Prop := boardOrdersRow.holds Try.pinned (OpenSpec.ofChange boardOrdersSpec)

/-- ITS FALSE NEIGHBOUR: 'it returns false'. Refute it at one input. -/
def boardOrdersWrong : ChangeSpec := { name := "boardOrders", fn := fun _ => fun
  | [d1, d2, d3] => { results := [.lit (.bool false)], args := [d1, d2, d3] }
  | _ => none }
def BoardOrdersWrongFalsely : Prop := boardOrdersRow.holds Try.pinned (OpenSpec.ofChange boardOrdersWrong)

/-- 'sacristylaw19.BoardGrows': WHATEVER THE INPUT: true; the input reads as it did. -/
def boardGrowsSpec : ChangeSpec := { name := "boardGrows", fn := fun _ => fun
  | [d1, d2, d3] => { results := [.lit (.bool true)], args := [d1, d2, d3] }
  | _ => none }
def boardGrowsRow : OpenClaim := { program := "ytilhdelijdkjpaa", sum := "fcc02f108c30cb907e623ae4d9ec5ac4f47d82c7826b650ef6ff70ae99db6def", func := "sacristy/sacristylaw19.BoardGrows", spec := "boardGrows", unfollowed := true, recurses := true, plainKeys := false, apart := false }
def BoardGrowsSaid : Prop := boardGrowsRow.holds Try.pinned (OpenSpec.ofChange boardGrowsSpec)

/-- ITS FALSE NEIGHBOUR: 'it returns false'. Refute it at one input. -/
def boardGrowsWrong : ChangeSpec := { name := "boardGrows", fn := fun _ => fun
  | [d1, d2, d3] => { results := [.lit (.bool false)], args := [d1, d2, d3] }
  | _ => none }
def BoardGrowsWrongFalsely : Prop := boardGrowsRow.holds Try.pinned (OpenSpec.ofChange boardGrowsWrong)

/- THE SECOND FORM. 'bulk': how many values and letters a reading holds, each counted each time it is reached (what is shared counts as often as it is met; a slice's spare places count too). A statement '..UptoSaid' is the law's where the arguments, and the package variables that the reading takes, are together of bulk at most 1048576: NARROWER than '..Said'. Prove '..Said' where nothing that the law and all that it calls make is longer than what came in: it says more and counts as full. Else prove '..UptoSaid'. A law counts once. -/
mutual
def uptoBulk {H : Type} : DataW H → Nat
  | .lit (.string bytes) => bytes.length + 1
  | .lit _ => 1
  | .nil => 1
  | .ptr d => uptoBulk d + 1
  | .slice elems spare => uptoBulkAll elems + uptoBulkAll spare + 1
  | .agg parts => uptoBulkAll parts + 1
  | .iface _ d => uptoBulk d + 1
  | .map entries => uptoBulkEntries entries + 1
  | .held _ => 1
def uptoBulkAll {H : Type} : List (DataW H) → Nat
  | [] => 0
  | d :: r => uptoBulk d + uptoBulkAll r
def uptoBulkEntries {H : Type} : List (Lit × DataW H) → Nat
  | [] => 0
  | x :: r => uptoBulkEntry x + uptoBulkEntries r
def uptoBulkEntry {H : Type} : Lit × DataW H → Nat
  | (.string bytes, d) => bytes.length + uptoBulk d + 1
  | (_, d) => uptoBulk d + 1
 end
def uptoSmall : (H : Type) → List (DataW H) → Bool := fun _ ds => decide (uptoBulkAll ds ≤ 1048576)
def OpenSpec.upto (s : _root_.Go.ChangeSpec) : _root_.Go.OpenSpec := { _root_.Go.OpenSpec.ofChange s with cond := some uptoSmall }

/-- 'sacristylaw18.VoteViews', WHERE WHAT IT READS IS OF BULK AT MOST 1048576: true; the input reads as it did. -/
def voteViewsUptoRow : OpenClaim := { program := "ytilhdelijdkjpaa", sum := "fcc02f108c30cb907e623ae4d9ec5ac4f47d82c7826b650ef6ff70ae99db6def", func := "sacristy/sacristylaw18.VoteViews", spec := "voteViews", unfollowed := true, recurses := true, plainKeys := false, apart := false, narrowed := true }
def VoteViewsUptoSaid : Prop := voteViewsUptoRow.holds Try.pinned (OpenSpec.upto voteViewsSpec)

/-- 'sacristylaw18.VoteForms', WHERE WHAT IT READS IS OF BULK AT MOST 1048576: true; the input reads as it did. -/
def voteFormsUptoRow : OpenClaim := { program := "ytilhdelijdkjpaa", sum := "fcc02f108c30cb907e623ae4d9ec5ac4f47d82c7826b650ef6ff70ae99db6def", func := "sacristy/sacristylaw18.VoteForms", spec := "voteForms", unfollowed := true, recurses := true, plainKeys := false, apart := false, narrowed := true }
def VoteFormsUptoSaid : Prop := voteFormsUptoRow.holds Try.pinned (OpenSpec.upto voteFormsSpec)

/-- 'sacristylaw18.VoteAgrees', WHERE WHAT IT READS IS OF BULK AT MOST 1048576: true; the input reads as it did. -/
def voteAgreesUptoRow : OpenClaim := { program := "ytilhdelijdkjpaa", sum := "fcc02f108c30cb907e623ae4d9ec5ac4f47d82c7826b650ef6ff70ae99db6def", func := "sacristy/sacristylaw18.VoteAgrees", spec := "voteAgrees", unfollowed := true, recurses := true, plainKeys := false, apart := false, narrowed := true }
def VoteAgreesUptoSaid : Prop := voteAgreesUptoRow.holds Try.pinned (OpenSpec.upto voteAgreesSpec)

/-- 'sacristylaw18.VoteOnce', WHERE WHAT IT READS IS OF BULK AT MOST 1048576: true; the input reads as it did. -/
def voteOnceUptoRow : OpenClaim := { program := "ytilhdelijdkjpaa", sum := "fcc02f108c30cb907e623ae4d9ec5ac4f47d82c7826b650ef6ff70ae99db6def", func := "sacristy/sacristylaw18.VoteOnce", spec := "voteOnce", unfollowed := true, recurses := true, plainKeys := false, apart := false, narrowed := true }
def VoteOnceUptoSaid : Prop := voteOnceUptoRow.holds Try.pinned (OpenSpec.upto voteOnceSpec)

/-- 'sacristylaw18.VoteEnds', WHERE WHAT IT READS IS OF BULK AT MOST 1048576: true; the input reads as it did. -/
def voteEndsUptoRow : OpenClaim := { program := "ytilhdelijdkjpaa", sum := "fcc02f108c30cb907e623ae4d9ec5ac4f47d82c7826b650ef6ff70ae99db6def", func := "sacristy/sacristylaw18.VoteEnds", spec := "voteEnds", unfollowed := true, recurses := true, plainKeys := false, apart := false, narrowed := true }
def VoteEndsUptoSaid : Prop := voteEndsUptoRow.holds Try.pinned (OpenSpec.upto voteEndsSpec)

/-- 'sacristylaw18.VotePlays', WHERE WHAT IT READS IS OF BULK AT MOST 1048576: true; the input reads as it did. -/
def votePlaysUptoRow : OpenClaim := { program := "ytilhdelijdkjpaa", sum := "fcc02f108c30cb907e623ae4d9ec5ac4f47d82c7826b650ef6ff70ae99db6def", func := "sacristy/sacristylaw18.VotePlays", spec := "votePlays", unfollowed := true, recurses := true, plainKeys := false, apart := false, narrowed := true }
def VotePlaysUptoSaid : Prop := votePlaysUptoRow.holds Try.pinned (OpenSpec.upto votePlaysSpec)

/-- 'sacristylaw19.BoardTells', WHERE WHAT IT READS IS OF BULK AT MOST 1048576: true; the input reads as it did. -/
def boardTellsUptoRow : OpenClaim := { program := "ytilhdelijdkjpaa", sum := "fcc02f108c30cb907e623ae4d9ec5ac4f47d82c7826b650ef6ff70ae99db6def", func := "sacristy/sacristylaw19.BoardTells", spec := "boardTells", unfollowed := true, recurses := true, plainKeys := false, apart := false, narrowed := true }
def BoardTellsUptoSaid : Prop := boardTellsUptoRow.holds Try.pinned (OpenSpec.upto boardTellsSpec)

/-- 'sacristylaw19.BoardOrders', WHERE WHAT IT READS IS OF BULK AT MOST 1048576: true; the input reads as it did. -/
def boardOrdersUptoRow : OpenClaim := { program := "ytilhdelijdkjpaa", sum := "fcc02f108c30cb907e623ae4d9ec5ac4f47d82c7826b650ef6ff70ae99db6def", func := "sacristy/sacristylaw19.BoardOrders", spec := "boardOrders", unfollowed := true, recurses := true, plainKeys := false, apart := false, narrowed := true }
def BoardOrdersUptoSaid : Prop := boardOrdersUptoRow.holds Try.pinned (OpenSpec.upto boardOrdersSpec)

/-- 'sacristylaw19.BoardGrows', WHERE WHAT IT READS IS OF BULK AT MOST 1048576: true; the input reads as it did. -/
def boardGrowsUptoRow : OpenClaim := { program := "ytilhdelijdkjpaa", sum := "fcc02f108c30cb907e623ae4d9ec5ac4f47d82c7826b650ef6ff70ae99db6def", func := "sacristy/sacristylaw19.BoardGrows", spec := "boardGrows", unfollowed := true, recurses := true, plainKeys := false, apart := false, narrowed := true }
def BoardGrowsUptoSaid : Prop := boardGrowsUptoRow.holds Try.pinned (OpenSpec.upto boardGrowsSpec)

end Rows
end Go.Proofs.Ytilhdelijdkjpaa
