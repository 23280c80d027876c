/-
  No cell of these rows narrows 'for every input' (looked for: loops, veiled, ifaces, maps, wideKeys, modest, calm, conditions, laid).
  DERIVED. THE GIVEN ROWS OF THIS SEAT. 6 by the template 'for every input the law returns true; each argument reads behind the call as it read before'; 0 by the template 'total and deterministic' (their statements: YtbidancfbilbkaaTotals.lean).
  GIVEN WITH THE SEED: the statements are not yours to turn. If you find one false, say at which input.
  Laid BY PROGRAM, IN A SANDBOX (cutbox-rows.mjs): the forced cells as the released guide's own fill.sh prints them over the translation 3dbb256a1f9ce1d7… (all of the seat's roots in one cut). By AI agents, Wed Nov 11 2026. No macro, syntax, notation, axiom, sorry.
-/
import Derived.Test.YtbidancfbilbkaaChecked
import GoSem.Claim
import GoSem.ClaimJoined
import GoSem.ClaimMapViews
import Derived.JoinedTies
import Derived.KernelRfl
namespace Go.Proofs.Ytbidancfbilbkaa
/- THE CELL 'sum', in the pinned program and in every row, IS THE sha256 OF THE DUMP (.gsa) THAT YtbidancfbilbkaaProg.lean LOADS. Nothing in Lean hashes anything: it is a label: what it is worth is what the hold of that sum in a sandbox is worth. -/
noncomputable def Try.pinned : Pinned := { name := "ytbidancfbilbkaa", sum := "3dbb256a1f9ce1d73f66bb141bc2323216efea03312abefced03c9bcd239def3", checked := Try.checked }
namespace Rows
def none {H : Type} : Left H := { results := [], args := [] }

/-- 'aumbrylaw13.ArrayNames': WHATEVER THE INPUT: true; the input reads as it did. -/
def arrayNamesSpec : ChangeSpec := { name := "arrayNames", fn := fun _ => fun
  | [] => { results := [.lit (.bool true)], args := [] }
  | _ => none }
def arrayNamesRow : OpenClaim := { program := "ytbidancfbilbkaa", sum := "3dbb256a1f9ce1d73f66bb141bc2323216efea03312abefced03c9bcd239def3", func := "aumbry/aumbrylaw13.ArrayNames", spec := "arrayNames", apart := false }
def ArrayNamesSaid : Prop := arrayNamesRow.holds Try.pinned (OpenSpec.ofChange arrayNamesSpec)

/-- ITS FALSE NEIGHBOUR: 'it returns false'. Refute it at one input. -/
def arrayNamesWrong : ChangeSpec := { name := "arrayNames", fn := fun _ => fun
  | [] => { results := [.lit (.bool false)], args := [] }
  | _ => none }
def ArrayNamesWrongFalsely : Prop := arrayNamesRow.holds Try.pinned (OpenSpec.ofChange arrayNamesWrong)

/-- 'aumbrylaw13.ArrayCounts': WHATEVER THE INPUT: true; the input reads as it did. -/
def arrayCountsSpec : ChangeSpec := { name := "arrayCounts", fn := fun _ => fun
  | [d1, d2, d3] => { results := [.lit (.bool true)], args := [d1, d2, d3] }
  | _ => none }
def arrayCountsRow : OpenClaim := { program := "ytbidancfbilbkaa", sum := "3dbb256a1f9ce1d73f66bb141bc2323216efea03312abefced03c9bcd239def3", func := "aumbry/aumbrylaw13.ArrayCounts", spec := "arrayCounts", unfollowed := true, recurses := true, apart := false }
def ArrayCountsSaid : Prop := arrayCountsRow.holds Try.pinned (OpenSpec.ofChange arrayCountsSpec)

/-- ITS FALSE NEIGHBOUR: 'it returns false'. Refute it at one input. -/
def arrayCountsWrong : ChangeSpec := { name := "arrayCounts", fn := fun _ => fun
  | [d1, d2, d3] => { results := [.lit (.bool false)], args := [d1, d2, d3] }
  | _ => none }
def ArrayCountsWrongFalsely : Prop := arrayCountsRow.holds Try.pinned (OpenSpec.ofChange arrayCountsWrong)

/-- 'aumbrylaw13.ArrayPlays': WHATEVER THE INPUT: true; the input reads as it did. -/
def arrayPlaysSpec : ChangeSpec := { name := "arrayPlays", fn := fun _ => fun
  | [d1, d2, d3] => { results := [.lit (.bool true)], args := [d1, d2, d3] }
  | _ => none }
def arrayPlaysRow : OpenClaim := { program := "ytbidancfbilbkaa", sum := "3dbb256a1f9ce1d73f66bb141bc2323216efea03312abefced03c9bcd239def3", func := "aumbry/aumbrylaw13.ArrayPlays", spec := "arrayPlays", unfollowed := true, recurses := true, apart := false }
def ArrayPlaysSaid : Prop := arrayPlaysRow.holds Try.pinned (OpenSpec.ofChange arrayPlaysSpec)

/-- ITS FALSE NEIGHBOUR: 'it returns false'. Refute it at one input. -/
def arrayPlaysWrong : ChangeSpec := { name := "arrayPlays", fn := fun _ => fun
  | [d1, d2, d3] => { results := [.lit (.bool false)], args := [d1, d2, d3] }
  | _ => none }
def ArrayPlaysWrongFalsely : Prop := arrayPlaysRow.holds Try.pinned (OpenSpec.ofChange arrayPlaysWrong)

/-- 'aumbrylaw13.ArrayApart': WHATEVER THE INPUT: true; the input reads as it did. -/
def arrayApartSpec : ChangeSpec := { name := "arrayApart", fn := fun _ => fun
  | [d1, d2] => { results := [.lit (.bool true)], args := [d1, d2] }
  | _ => none }
def arrayApartRow : OpenClaim := { program := "ytbidancfbilbkaa", sum := "3dbb256a1f9ce1d73f66bb141bc2323216efea03312abefced03c9bcd239def3", func := "aumbry/aumbrylaw13.ArrayApart", spec := "arrayApart", unfollowed := true, recurses := true, apart := false }
def ArrayApartSaid : Prop := arrayApartRow.holds Try.pinned (OpenSpec.ofChange arrayApartSpec)

/-- ITS FALSE NEIGHBOUR: 'it returns false'. Refute it at one input. -/
def arrayApartWrong : ChangeSpec := { name := "arrayApart", fn := fun _ => fun
  | [d1, d2] => { results := [.lit (.bool false)], args := [d1, d2] }
  | _ => none }
def ArrayApartWrongFalsely : Prop := arrayApartRow.holds Try.pinned (OpenSpec.ofChange arrayApartWrong)

/-- 'aumbrylaw13.ArrayNil': WHATEVER THE INPUT: true; the input reads as it did. -/
def arrayNilSpec : ChangeSpec := { name := "arrayNil", fn := fun _ => fun
  | [d1, d2] => { results := [.lit (.bool true)], args := [d1, d2] }
  | _ => none }
def arrayNilRow : OpenClaim := { program := "ytbidancfbilbkaa", sum := "3dbb256a1f9ce1d73f66bb141bc2323216efea03312abefced03c9bcd239def3", func := "aumbry/aumbrylaw13.ArrayNil", spec := "arrayNil", unfollowed := true, recurses := true, apart := false }
def ArrayNilSaid : Prop := arrayNilRow.holds Try.pinned (OpenSpec.ofChange arrayNilSpec)

/-- ITS FALSE NEIGHBOUR: 'it returns false'. Refute it at one input. -/
def arrayNilWrong : ChangeSpec := { name := "arrayNil", fn := fun _ => fun
  | [d1, d2] => { results := [.lit (.bool false)], args := [d1, d2] }
  | _ => none }
def ArrayNilWrongFalsely : Prop := arrayNilRow.holds Try.pinned (OpenSpec.ofChange arrayNilWrong)

/-- 'aumbrylaw13.ArrayRestarts': WHATEVER THE INPUT: true; the input reads as it did. -/
def arrayRestartsSpec : ChangeSpec := { name := "arrayRestarts", fn := fun _ => fun
  | [d1, d2] => { results := [.lit (.bool true)], args := [d1, d2] }
  | _ => none }
def arrayRestartsRow : OpenClaim := { program := "ytbidancfbilbkaa", sum := "3dbb256a1f9ce1d73f66bb141bc2323216efea03312abefced03c9bcd239def3", func := "aumbry/aumbrylaw13.ArrayRestarts", spec := "arrayRestarts", unfollowed := true, recurses := true, apart := false }
def ArrayRestartsSaid : Prop := arrayRestartsRow.holds Try.pinned (OpenSpec.ofChange arrayRestartsSpec)

/-- ITS FALSE NEIGHBOUR: 'it returns false'. Refute it at one input. -/
def arrayRestartsWrong : ChangeSpec := { name := "arrayRestarts", fn := fun _ => fun
  | [d1, d2] => { results := [.lit (.bool false)], args := [d1, d2] }
  | _ => none }
def ArrayRestartsWrongFalsely : Prop := arrayRestartsRow.holds Try.pinned (OpenSpec.ofChange arrayRestartsWrong)

/- THE SECOND FORM. 'bulk': how many values and letters a reading holds, each counted each time it is reached (what is shared counts as often as it is met; a slice's spare places count too). A statement '..UptoSaid' is the law's where the arguments, and the package variables that the reading takes, are together of bulk at most 1048576: NARROWER than '..Said'. Prove '..Said' where nothing that the law and all that it calls make is longer than what came in: it says more and counts as full. Else prove '..UptoSaid'. A law counts once. -/
mutual
def uptoBulk {H : Type} : DataW H → Nat
  | .lit (.string bytes) => bytes.length + 1
  | .lit _ => 1
  | .nil => 1
  | .ptr d => uptoBulk d + 1
  | .slice elems spare => uptoBulkAll elems + uptoBulkAll spare + 1
  | .agg parts => uptoBulkAll parts + 1
  | .iface _ d => uptoBulk d + 1
  | .map entries => uptoBulkEntries entries + 1
  | .held _ => 1
def uptoBulkAll {H : Type} : List (DataW H) → Nat
  | [] => 0
  | d :: r => uptoBulk d + uptoBulkAll r
def uptoBulkEntries {H : Type} : List (Lit × DataW H) → Nat
  | [] => 0
  | x :: r => uptoBulkEntry x + uptoBulkEntries r
def uptoBulkEntry {H : Type} : Lit × DataW H → Nat
  | (.string bytes, d) => bytes.length + uptoBulk d + 1
  | (_, d) => uptoBulk d + 1
 end
def uptoSmall : (H : Type) → List (DataW H) → Bool := fun _ ds => decide (uptoBulkAll ds ≤ 1048576)
def OpenSpec.upto (s : _root_.Go.ChangeSpec) : _root_.Go.OpenSpec := { _root_.Go.OpenSpec.ofChange s with cond := some uptoSmall }

/-- 'aumbrylaw13.ArrayNames', WHERE WHAT IT READS IS OF BULK AT MOST 1048576: true; the input reads as it did. -/
def arrayNamesUptoRow : OpenClaim := { program := "ytbidancfbilbkaa", sum := "3dbb256a1f9ce1d73f66bb141bc2323216efea03312abefced03c9bcd239def3", func := "aumbry/aumbrylaw13.ArrayNames", spec := "arrayNames", apart := false, narrowed := true }
def ArrayNamesUptoSaid : Prop := arrayNamesUptoRow.holds Try.pinned (OpenSpec.upto arrayNamesSpec)

/-- 'aumbrylaw13.ArrayCounts', WHERE WHAT IT READS IS OF BULK AT MOST 1048576: true; the input reads as it did. -/
def arrayCountsUptoRow : OpenClaim := { program := "ytbidancfbilbkaa", sum := "3dbb256a1f9ce1d73f66bb141bc2323216efea03312abefced03c9bcd239def3", func := "aumbry/aumbrylaw13.ArrayCounts", spec := "arrayCounts", unfollowed := true, recurses := true, apart := false, narrowed := true }
def ArrayCountsUptoSaid : Prop := arrayCountsUptoRow.holds Try.pinned (OpenSpec.upto arrayCountsSpec)

/-- 'aumbrylaw13.ArrayPlays', WHERE WHAT IT READS IS OF BULK AT MOST 1048576: true; the input reads as it did. -/
def arrayPlaysUptoRow : OpenClaim := { program := "ytbidancfbilbkaa", sum := "3dbb256a1f9ce1d73f66bb141bc2323216efea03312abefced03c9bcd239def3", func := "aumbry/aumbrylaw13.ArrayPlays", spec := "arrayPlays", unfollowed := true, recurses := true, apart := false, narrowed := true }
def ArrayPlaysUptoSaid : Prop := arrayPlaysUptoRow.holds Try.pinned (OpenSpec.upto arrayPlaysSpec)

/-- 'aumbrylaw13.ArrayApart', WHERE WHAT IT READS IS OF BULK AT MOST 1048576: true; the input reads as it did. -/
def arrayApartUptoRow : OpenClaim := { program := "ytbidancfbilbkaa", sum := "3dbb256a1f9ce1d73f66bb141bc2323216efea03312abefced03c9bcd239def3", func := "aumbry/aumbrylaw13.ArrayApart", spec := "arrayApart", unfollowed := true, recurses := true, apart := false, narrowed := true }
def ArrayApartUptoSaid : Prop := arrayApartUptoRow.holds Try.pinned (OpenSpec.upto arrayApartSpec)

/-- 'aumbrylaw13.ArrayNil', WHERE WHAT IT READS IS OF BULK AT MOST 1048576: true; the input reads as it did. -/
def arrayNilUptoRow : OpenClaim := { program := "ytbidancfbilbkaa", sum := "3dbb256a1f9ce1d73f66bb141bc2323216efea03312abefced03c9bcd239def3", func := "aumbry/aumbrylaw13.ArrayNil", spec := "arrayNil", unfollowed := true, recurses := true, apart := false, narrowed := true }
def ArrayNilUptoSaid : Prop := arrayNilUptoRow.holds Try.pinned (OpenSpec.upto arrayNilSpec)

/-- 'aumbrylaw13.ArrayRestarts', WHERE WHAT IT READS IS OF BULK AT MOST 1048576: true; the input reads as it did. -/
def arrayRestartsUptoRow : OpenClaim := { program := "ytbidancfbilbkaa", sum := "3dbb256a1f9ce1d73f66bb141bc2323216efea03312abefced03c9bcd239def3", func := "aumbry/aumbrylaw13.ArrayRestarts", spec := "arrayRestarts", unfollowed := true, recurses := true, apart := false, narrowed := true }
def ArrayRestartsUptoSaid : Prop := arrayRestartsUptoRow.holds Try.pinned (OpenSpec.upto arrayRestartsSpec)

end Rows
end Go.Proofs.Ytbidancfbilbkaa
