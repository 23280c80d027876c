/-
  No cell of these rows narrows 'for every input' (looked for: loops, veiled, ifaces, maps, wideKeys, modest, calm, conditions, laid).
  DERIVED. THE GIVEN ROWS OF THIS SEAT. 6 by the template 'for every input the law returns true; each argument reads behind the call as it read before'; 0 by the template 'total and deterministic' (their statements: YtpmkjpgoekjcfaaTotals.lean).
  GIVEN WITH THE SEED: the statements are not yours to turn. If you find one false, say at which input.
  Laid BY PROGRAM, IN A SANDBOX (cutbox-rows.mjs): the forced cells as the released guide's own fill.sh prints them over the translation 810acc13b52b6797… (all of the seat's roots in one cut). By AI agents, Wed Nov 11 2026. No macro, syntax, notation, axiom, sorry.
-/
import Derived.Test.YtpmkjpgoekjcfaaChecked
import GoSem.Claim
import GoSem.ClaimJoined
import GoSem.ClaimMapViews
import Derived.JoinedTies
import Derived.KernelRfl
namespace Go.Proofs.Ytpmkjpgoekjcfaa
/- THE CELL 'sum', in the pinned program and in every row, IS THE sha256 OF THE DUMP (.gsa) THAT YtpmkjpgoekjcfaaProg.lean LOADS. Nothing in Lean hashes anything: it is a label: what it is worth is what the hold of that sum in a sandbox is worth. -/
noncomputable def Try.pinned : Pinned := { name := "ytpmkjpgoekjcfaa", sum := "810acc13b52b67977b095d3461121c34af220e158acface29ed1bd944efba709", checked := Try.checked }
namespace Rows
def none {H : Type} : Left H := { results := [], args := [] }

/-- 'aumbrylaw10.ErrdecWords': WHATEVER THE INPUT: true; the input reads as it did. -/
def errdecWordsSpec : ChangeSpec := { name := "errdecWords", fn := fun _ => fun
  | [d1, d2, d3, d4] => { results := [.lit (.bool true)], args := [d1, d2, d3, d4] }
  | _ => none }
def errdecWordsRow : OpenClaim := { program := "ytpmkjpgoekjcfaa", sum := "810acc13b52b67977b095d3461121c34af220e158acface29ed1bd944efba709", func := "aumbry/aumbrylaw10.ErrdecWords", spec := "errdecWords", unfollowed := true, recurses := true, apart := false }
def ErrdecWordsSaid : Prop := errdecWordsRow.holds Try.pinned (OpenSpec.ofChange errdecWordsSpec)

/-- ITS FALSE NEIGHBOUR: 'it returns false'. Refute it at one input. -/
def errdecWordsWrong : ChangeSpec := { name := "errdecWords", fn := fun _ => fun
  | [d1, d2, d3, d4] => { results := [.lit (.bool false)], args := [d1, d2, d3, d4] }
  | _ => none }
def ErrdecWordsWrongFalsely : Prop := errdecWordsRow.holds Try.pinned (OpenSpec.ofChange errdecWordsWrong)

/-- 'aumbrylaw10.ErrdecShards': WHATEVER THE INPUT: true; the input reads as it did. -/
def errdecShardsSpec : ChangeSpec := { name := "errdecShards", fn := fun _ => fun
  | [d1, d2, d3, d4] => { results := [.lit (.bool true)], args := [d1, d2, d3, d4] }
  | _ => none }
def errdecShardsRow : OpenClaim := { program := "ytpmkjpgoekjcfaa", sum := "810acc13b52b67977b095d3461121c34af220e158acface29ed1bd944efba709", func := "aumbry/aumbrylaw10.ErrdecShards", spec := "errdecShards", unfollowed := true, recurses := true, apart := false }
def ErrdecShardsSaid : Prop := errdecShardsRow.holds Try.pinned (OpenSpec.ofChange errdecShardsSpec)

/-- ITS FALSE NEIGHBOUR: 'it returns false'. Refute it at one input. -/
def errdecShardsWrong : ChangeSpec := { name := "errdecShards", fn := fun _ => fun
  | [d1, d2, d3, d4] => { results := [.lit (.bool false)], args := [d1, d2, d3, d4] }
  | _ => none }
def ErrdecShardsWrongFalsely : Prop := errdecShardsRow.holds Try.pinned (OpenSpec.ofChange errdecShardsWrong)

/-- 'aumbrylaw10.ErrdecNear': WHATEVER THE INPUT: true; the input reads as it did. -/
def errdecNearSpec : ChangeSpec := { name := "errdecNear", fn := fun _ => fun
  | [d1, d2, d3, d4] => { results := [.lit (.bool true)], args := [d1, d2, d3, d4] }
  | _ => none }
def errdecNearRow : OpenClaim := { program := "ytpmkjpgoekjcfaa", sum := "810acc13b52b67977b095d3461121c34af220e158acface29ed1bd944efba709", func := "aumbry/aumbrylaw10.ErrdecNear", spec := "errdecNear", unfollowed := true, recurses := true, apart := false }
def ErrdecNearSaid : Prop := errdecNearRow.holds Try.pinned (OpenSpec.ofChange errdecNearSpec)

/-- ITS FALSE NEIGHBOUR: 'it returns false'. Refute it at one input. -/
def errdecNearWrong : ChangeSpec := { name := "errdecNear", fn := fun _ => fun
  | [d1, d2, d3, d4] => { results := [.lit (.bool false)], args := [d1, d2, d3, d4] }
  | _ => none }
def ErrdecNearWrongFalsely : Prop := errdecNearRow.holds Try.pinned (OpenSpec.ofChange errdecNearWrong)

/-- 'aumbrylaw10.ErrdecBack': WHATEVER THE INPUT: true; the input reads as it did. -/
def errdecBackSpec : ChangeSpec := { name := "errdecBack", fn := fun _ => fun
  | [d1, d2, d3, d4, d5] => { results := [.lit (.bool true)], args := [d1, d2, d3, d4, d5] }
  | _ => none }
def errdecBackRow : OpenClaim := { program := "ytpmkjpgoekjcfaa", sum := "810acc13b52b67977b095d3461121c34af220e158acface29ed1bd944efba709", func := "aumbry/aumbrylaw10.ErrdecBack", spec := "errdecBack", unfollowed := true, recurses := true, apart := false }
def ErrdecBackSaid : Prop := errdecBackRow.holds Try.pinned (OpenSpec.ofChange errdecBackSpec)

/-- ITS FALSE NEIGHBOUR: 'it returns false'. Refute it at one input. -/
def errdecBackWrong : ChangeSpec := { name := "errdecBack", fn := fun _ => fun
  | [d1, d2, d3, d4, d5] => { results := [.lit (.bool false)], args := [d1, d2, d3, d4, d5] }
  | _ => none }
def ErrdecBackWrongFalsely : Prop := errdecBackRow.holds Try.pinned (OpenSpec.ofChange errdecBackWrong)

/-- 'aumbrylaw10.ErrdecStripes': WHATEVER THE INPUT: true; the input reads as it did. -/
def errdecStripesSpec : ChangeSpec := { name := "errdecStripes", fn := fun _ => fun
  | [d1, d2, d3, d4, d5, d6] => { results := [.lit (.bool true)], args := [d1, d2, d3, d4, d5, d6] }
  | _ => none }
def errdecStripesRow : OpenClaim := { program := "ytpmkjpgoekjcfaa", sum := "810acc13b52b67977b095d3461121c34af220e158acface29ed1bd944efba709", func := "aumbry/aumbrylaw10.ErrdecStripes", spec := "errdecStripes", unfollowed := true, recurses := true, apart := false }
def ErrdecStripesSaid : Prop := errdecStripesRow.holds Try.pinned (OpenSpec.ofChange errdecStripesSpec)

/-- ITS FALSE NEIGHBOUR: 'it returns false'. Refute it at one input. -/
def errdecStripesWrong : ChangeSpec := { name := "errdecStripes", fn := fun _ => fun
  | [d1, d2, d3, d4, d5, d6] => { results := [.lit (.bool false)], args := [d1, d2, d3, d4, d5, d6] }
  | _ => none }
def ErrdecStripesWrongFalsely : Prop := errdecStripesRow.holds Try.pinned (OpenSpec.ofChange errdecStripesWrong)

/-- 'aumbrylaw10.ErrdecErases': WHATEVER THE INPUT: true; the input reads as it did. -/
def errdecErasesSpec : ChangeSpec := { name := "errdecErases", fn := fun _ => fun
  | [d1, d2, d3, d4] => { results := [.lit (.bool true)], args := [d1, d2, d3, d4] }
  | _ => none }
def errdecErasesRow : OpenClaim := { program := "ytpmkjpgoekjcfaa", sum := "810acc13b52b67977b095d3461121c34af220e158acface29ed1bd944efba709", func := "aumbry/aumbrylaw10.ErrdecErases", spec := "errdecErases", unfollowed := true, recurses := true, apart := false }
def ErrdecErasesSaid : Prop := errdecErasesRow.holds Try.pinned (OpenSpec.ofChange errdecErasesSpec)

/-- ITS FALSE NEIGHBOUR: 'it returns false'. Refute it at one input. -/
def errdecErasesWrong : ChangeSpec := { name := "errdecErases", fn := fun _ => fun
  | [d1, d2, d3, d4] => { results := [.lit (.bool false)], args := [d1, d2, d3, d4] }
  | _ => none }
def ErrdecErasesWrongFalsely : Prop := errdecErasesRow.holds Try.pinned (OpenSpec.ofChange errdecErasesWrong)

/- THE SECOND FORM. 'bulk': how many values and letters a reading holds, each counted each time it is reached (what is shared counts as often as it is met; a slice's spare places count too). A statement '..UptoSaid' is the law's where the arguments, and the package variables that the reading takes, are together of bulk at most 1048576: NARROWER than '..Said'. Prove '..Said' where nothing that the law and all that it calls make is longer than what came in: it says more and counts as full. Else prove '..UptoSaid'. A law counts once. -/
mutual
def uptoBulk {H : Type} : DataW H → Nat
  | .lit (.string bytes) => bytes.length + 1
  | .lit _ => 1
  | .nil => 1
  | .ptr d => uptoBulk d + 1
  | .slice elems spare => uptoBulkAll elems + uptoBulkAll spare + 1
  | .agg parts => uptoBulkAll parts + 1
  | .iface _ d => uptoBulk d + 1
  | .map entries => uptoBulkEntries entries + 1
  | .held _ => 1
def uptoBulkAll {H : Type} : List (DataW H) → Nat
  | [] => 0
  | d :: r => uptoBulk d + uptoBulkAll r
def uptoBulkEntries {H : Type} : List (Lit × DataW H) → Nat
  | [] => 0
  | x :: r => uptoBulkEntry x + uptoBulkEntries r
def uptoBulkEntry {H : Type} : Lit × DataW H → Nat
  | (.string bytes, d) => bytes.length + uptoBulk d + 1
  | (_, d) => uptoBulk d + 1
 end
def uptoSmall : (H : Type) → List (DataW H) → Bool := fun _ ds => decide (uptoBulkAll ds ≤ 1048576)
def OpenSpec.upto (s : _root_.Go.ChangeSpec) : _root_.Go.OpenSpec := { _root_.Go.OpenSpec.ofChange s with cond := some uptoSmall }

/-- 'aumbrylaw10.ErrdecWords', WHERE WHAT IT READS IS OF BULK AT MOST 1048576: true; the input reads as it did. -/
def errdecWordsUptoRow : OpenClaim := { program := "ytpmkjpgoekjcfaa", sum := "810acc13b52b67977b095d3461121c34af220e158acface29ed1bd944efba709", func := "aumbry/aumbrylaw10.ErrdecWords", spec := "errdecWords", unfollowed := true, recurses := true, apart := false, narrowed := true }
def ErrdecWordsUptoSaid : Prop := errdecWordsUptoRow.holds Try.pinned (OpenSpec.upto errdecWordsSpec)

/-- 'aumbrylaw10.ErrdecShards', WHERE WHAT IT READS IS OF BULK AT MOST 1048576: true; the input reads as it did. -/
def errdecShardsUptoRow : OpenClaim := { program := "ytpmkjpgoekjcfaa", sum := "810acc13b52b67977b095d3461121c34af220e158acface29ed1bd944efba709", func := "aumbry/aumbrylaw10.ErrdecShards", spec := "errdecShards", unfollowed := true, recurses := true, apart := false, narrowed := true }
def ErrdecShardsUptoSaid : Prop := errdecShardsUptoRow.holds Try.pinned (OpenSpec.upto errdecShardsSpec)

/-- 'aumbrylaw10.ErrdecNear', WHERE WHAT IT READS IS OF BULK AT MOST 1048576: true; the input reads as it did. -/
def errdecNearUptoRow : OpenClaim := { program := "ytpmkjpgoekjcfaa", sum := "810acc13b52b67977b095d3461121c34af220e158acface29ed1bd944efba709", func := "aumbry/aumbrylaw10.ErrdecNear", spec := "errdecNear", unfollowed := true, recurses := true, apart := false, narrowed := true }
def ErrdecNearUptoSaid : Prop := errdecNearUptoRow.holds Try.pinned (OpenSpec.upto errdecNearSpec)

/-- 'aumbrylaw10.ErrdecBack', WHERE WHAT IT READS IS OF BULK AT MOST 1048576: true; the input reads as it did. -/
def errdecBackUptoRow : OpenClaim := { program := "ytpmkjpgoekjcfaa", sum := "810acc13b52b67977b095d3461121c34af220e158acface29ed1bd944efba709", func := "aumbry/aumbrylaw10.ErrdecBack", spec := "errdecBack", unfollowed := true, recurses := true, apart := false, narrowed := true }
def ErrdecBackUptoSaid : Prop := errdecBackUptoRow.holds Try.pinned (OpenSpec.upto errdecBackSpec)

/-- 'aumbrylaw10.ErrdecStripes', WHERE WHAT IT READS IS OF BULK AT MOST 1048576: true; the input reads as it did. -/
def errdecStripesUptoRow : OpenClaim := { program := "ytpmkjpgoekjcfaa", sum := "810acc13b52b67977b095d3461121c34af220e158acface29ed1bd944efba709", func := "aumbry/aumbrylaw10.ErrdecStripes", spec := "errdecStripes", unfollowed := true, recurses := true, apart := false, narrowed := true }
def ErrdecStripesUptoSaid : Prop := errdecStripesUptoRow.holds Try.pinned (OpenSpec.upto errdecStripesSpec)

/-- 'aumbrylaw10.ErrdecErases', WHERE WHAT IT READS IS OF BULK AT MOST 1048576: true; the input reads as it did. -/
def errdecErasesUptoRow : OpenClaim := { program := "ytpmkjpgoekjcfaa", sum := "810acc13b52b67977b095d3461121c34af220e158acface29ed1bd944efba709", func := "aumbry/aumbrylaw10.ErrdecErases", spec := "errdecErases", unfollowed := true, recurses := true, apart := false, narrowed := true }
def ErrdecErasesUptoSaid : Prop := errdecErasesUptoRow.holds Try.pinned (OpenSpec.upto errdecErasesSpec)

end Rows
end Go.Proofs.Ytpmkjpgoekjcfaa
