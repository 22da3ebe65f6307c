/-
  No cell of these rows narrows 'for every input' (looked for: loops, veiled, ifaces, maps, wideKeys, modest, calm, conditions, laid).
  DERIVED. THE GIVEN ROWS OF THIS SEAT. 4 by the template 'for every input the law returns true; each argument reads behind the call as it read before'; 0 by the template 'total and deterministic' (their statements: YthefednendgclaaGreatTotals.lean).
  GIVEN WITH THE SEED: the statements are not yours to turn. If you find one false, say at which input.
  Laid BY PROGRAM, IN A SANDBOX (cutbox-rows.mjs): the forced cells as the released guide's own fill.sh prints them over the translation fbafabf0b07ce124… (all of the seat's roots in one cut). By AI agents, Wed Nov 11 2026. No macro, syntax, notation, axiom, sorry.
-/
import Derived.Test.YthefednendgclaaGreatChecked
import GoSem.Claim
import GoSem.ClaimJoined
import GoSem.ClaimMapViews
import Derived.JoinedTies
import Derived.KernelRfl
namespace Go.Proofs.YthefednendgclaaGreat
/- THE CELL 'sum', in the pinned program and in every row, IS THE sha256 OF THE DUMP (.gsa) THAT YthefednendgclaaGreatProg.lean LOADS. Nothing in Lean hashes anything: it is a label: what it is worth is what the hold of that sum in a sandbox is worth. -/
noncomputable def Tryz.pinned : Pinned := { name := "ythefednendgclaagreat", sum := "fbafabf0b07ce124ea38943b27cc99141e24e77be30f6ba91a0727f055039b28", checked := Tryz.checked }
namespace Rows
def none {H : Type} : Left H := { results := [], args := [] }

/-- 'sacristylaw10.CurveJoins': WHATEVER THE INPUT: true; the input reads as it did. -/
def curveJoinsSpec : ChangeSpec := { name := "curveJoins", fn := fun _ => fun
  | [d1, d2, d3, d4] => { results := [.lit (.bool true)], args := [d1, d2, d3, d4] }
  | _ => none }
def curveJoinsRow : OpenClaim := { program := "ythefednendgclaagreat", sum := "fbafabf0b07ce124ea38943b27cc99141e24e77be30f6ba91a0727f055039b28", func := "sacristy/sacristylaw10.CurveJoins", spec := "curveJoins", unfollowed := true, recurses := true, apart := false }
def CurveJoinsSaid : Prop := curveJoinsRow.holds Tryz.pinned (OpenSpec.ofChange curveJoinsSpec)

/-- ITS FALSE NEIGHBOUR: 'it returns false'. Refute it at one input. -/
def curveJoinsWrong : ChangeSpec := { name := "curveJoins", fn := fun _ => fun
  | [d1, d2, d3, d4] => { results := [.lit (.bool false)], args := [d1, d2, d3, d4] }
  | _ => none }
def CurveJoinsWrongFalsely : Prop := curveJoinsRow.holds Tryz.pinned (OpenSpec.ofChange curveJoinsWrong)

/-- 'sacristylaw14.DealBack': WHATEVER THE INPUT: true; the input reads as it did. -/
def dealBackSpec : ChangeSpec := { name := "dealBack", fn := fun _ => fun
  | [d1, d2, d3, d4, d5, d6, d7, d8, d9] => { results := [.lit (.bool true)], args := [d1, d2, d3, d4, d5, d6, d7, d8, d9] }
  | _ => none }
def dealBackRow : OpenClaim := { program := "ythefednendgclaagreat", sum := "fbafabf0b07ce124ea38943b27cc99141e24e77be30f6ba91a0727f055039b28", func := "sacristy/sacristylaw14.DealBack", spec := "dealBack", unfollowed := true, recurses := true, apart := false }
def DealBackSaid : Prop := dealBackRow.holds Tryz.pinned (OpenSpec.ofChange dealBackSpec)

/-- ITS FALSE NEIGHBOUR: 'it returns false'. Refute it at one input. -/
def dealBackWrong : ChangeSpec := { name := "dealBack", fn := fun _ => fun
  | [d1, d2, d3, d4, d5, d6, d7, d8, d9] => { results := [.lit (.bool false)], args := [d1, d2, d3, d4, d5, d6, d7, d8, d9] }
  | _ => none }
def DealBackWrongFalsely : Prop := dealBackRow.holds Tryz.pinned (OpenSpec.ofChange dealBackWrong)

/-- 'sacristylaw14.DealAdds': WHATEVER THE INPUT: true; the input reads as it did. -/
def dealAddsSpec : ChangeSpec := { name := "dealAdds", fn := fun _ => fun
  | [d1, d2, d3, d4, d5, d6, d7] => { results := [.lit (.bool true)], args := [d1, d2, d3, d4, d5, d6, d7] }
  | _ => none }
def dealAddsRow : OpenClaim := { program := "ythefednendgclaagreat", sum := "fbafabf0b07ce124ea38943b27cc99141e24e77be30f6ba91a0727f055039b28", func := "sacristy/sacristylaw14.DealAdds", spec := "dealAdds", unfollowed := true, recurses := true, apart := false }
def DealAddsSaid : Prop := dealAddsRow.holds Tryz.pinned (OpenSpec.ofChange dealAddsSpec)

/-- ITS FALSE NEIGHBOUR: 'it returns false'. Refute it at one input. -/
def dealAddsWrong : ChangeSpec := { name := "dealAdds", fn := fun _ => fun
  | [d1, d2, d3, d4, d5, d6, d7] => { results := [.lit (.bool false)], args := [d1, d2, d3, d4, d5, d6, d7] }
  | _ => none }
def DealAddsWrongFalsely : Prop := dealAddsRow.holds Tryz.pinned (OpenSpec.ofChange dealAddsWrong)

/-- 'sacristylaw14.DealRecovers': WHATEVER THE INPUT: true; the input reads as it did. -/
def dealRecoversSpec : ChangeSpec := { name := "dealRecovers", fn := fun _ => fun
  | [d1, d2, d3, d4, d5, d6, d7] => { results := [.lit (.bool true)], args := [d1, d2, d3, d4, d5, d6, d7] }
  | _ => none }
def dealRecoversRow : OpenClaim := { program := "ythefednendgclaagreat", sum := "fbafabf0b07ce124ea38943b27cc99141e24e77be30f6ba91a0727f055039b28", func := "sacristy/sacristylaw14.DealRecovers", spec := "dealRecovers", unfollowed := true, recurses := true, apart := false }
def DealRecoversSaid : Prop := dealRecoversRow.holds Tryz.pinned (OpenSpec.ofChange dealRecoversSpec)

/-- ITS FALSE NEIGHBOUR: 'it returns false'. Refute it at one input. -/
def dealRecoversWrong : ChangeSpec := { name := "dealRecovers", fn := fun _ => fun
  | [d1, d2, d3, d4, d5, d6, d7] => { results := [.lit (.bool false)], args := [d1, d2, d3, d4, d5, d6, d7] }
  | _ => none }
def DealRecoversWrongFalsely : Prop := dealRecoversRow.holds Tryz.pinned (OpenSpec.ofChange dealRecoversWrong)

/- THE SECOND FORM. 'bulk': how many values and letters a reading holds, each counted each time it is reached (what is shared counts as often as it is met; a slice's spare places count too). A statement '..UptoSaid' is the law's where the arguments, and the package variables that the reading takes, are together of bulk at most 1048576: NARROWER than '..Said'. Prove '..Said' where nothing that the law and all that it calls make is longer than what came in: it says more and counts as full. Else prove '..UptoSaid'. A law counts once. -/
mutual
def uptoBulk {H : Type} : DataW H → Nat
  | .lit (.string bytes) => bytes.length + 1
  | .lit _ => 1
  | .nil => 1
  | .ptr d => uptoBulk d + 1
  | .slice elems spare => uptoBulkAll elems + uptoBulkAll spare + 1
  | .agg parts => uptoBulkAll parts + 1
  | .iface _ d => uptoBulk d + 1
  | .map entries => uptoBulkEntries entries + 1
  | .held _ => 1
def uptoBulkAll {H : Type} : List (DataW H) → Nat
  | [] => 0
  | d :: r => uptoBulk d + uptoBulkAll r
def uptoBulkEntries {H : Type} : List (Lit × DataW H) → Nat
  | [] => 0
  | x :: r => uptoBulkEntry x + uptoBulkEntries r
def uptoBulkEntry {H : Type} : Lit × DataW H → Nat
  | (.string bytes, d) => bytes.length + uptoBulk d + 1
  | (_, d) => uptoBulk d + 1
 end
def uptoSmall : (H : Type) → List (DataW H) → Bool := fun _ ds => decide (uptoBulkAll ds ≤ 1048576)
def OpenSpec.upto (s : _root_.Go.ChangeSpec) : _root_.Go.OpenSpec := { _root_.Go.OpenSpec.ofChange s with cond := some uptoSmall }

/-- 'sacristylaw10.CurveJoins', WHERE WHAT IT READS IS OF BULK AT MOST 1048576: true; the input reads as it did. -/
def curveJoinsUptoRow : OpenClaim := { program := "ythefednendgclaagreat", sum := "fbafabf0b07ce124ea38943b27cc99141e24e77be30f6ba91a0727f055039b28", func := "sacristy/sacristylaw10.CurveJoins", spec := "curveJoins", unfollowed := true, recurses := true, apart := false, narrowed := true }
def CurveJoinsUptoSaid : Prop := curveJoinsUptoRow.holds Tryz.pinned (OpenSpec.upto curveJoinsSpec)

/-- 'sacristylaw14.DealBack', WHERE WHAT IT READS IS OF BULK AT MOST 1048576: true; the input reads as it did. -/
def dealBackUptoRow : OpenClaim := { program := "ythefednendgclaagreat", sum := "fbafabf0b07ce124ea38943b27cc99141e24e77be30f6ba91a0727f055039b28", func := "sacristy/sacristylaw14.DealBack", spec := "dealBack", unfollowed := true, recurses := true, apart := false, narrowed := true }
def DealBackUptoSaid : Prop := dealBackUptoRow.holds Tryz.pinned (OpenSpec.upto dealBackSpec)

/-- 'sacristylaw14.DealAdds', WHERE WHAT IT READS IS OF BULK AT MOST 1048576: true; the input reads as it did. -/
def dealAddsUptoRow : OpenClaim := { program := "ythefednendgclaagreat", sum := "fbafabf0b07ce124ea38943b27cc99141e24e77be30f6ba91a0727f055039b28", func := "sacristy/sacristylaw14.DealAdds", spec := "dealAdds", unfollowed := true, recurses := true, apart := false, narrowed := true }
def DealAddsUptoSaid : Prop := dealAddsUptoRow.holds Tryz.pinned (OpenSpec.upto dealAddsSpec)

/-- 'sacristylaw14.DealRecovers', WHERE WHAT IT READS IS OF BULK AT MOST 1048576: true; the input reads as it did. -/
def dealRecoversUptoRow : OpenClaim := { program := "ythefednendgclaagreat", sum := "fbafabf0b07ce124ea38943b27cc99141e24e77be30f6ba91a0727f055039b28", func := "sacristy/sacristylaw14.DealRecovers", spec := "dealRecovers", unfollowed := true, recurses := true, apart := false, narrowed := true }
def DealRecoversUptoSaid : Prop := dealRecoversUptoRow.holds Tryz.pinned (OpenSpec.upto dealRecoversSpec)

end Rows
end Go.Proofs.YthefednendgclaaGreat
