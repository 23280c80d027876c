/-
  No cell of these rows narrows 'for every input' (looked for: loops, veiled, ifaces, maps, wideKeys, modest, calm, conditions, laid).
  DERIVED. THE GIVEN ROWS OF THIS SEAT. 5 by the template 'for every input the law returns true; each argument reads behind the call as it read before'; 0 by the template 'total and deterministic' (their statements: YtnfcfbljdibinaaTotals.lean).
  GIVEN WITH THE SEED: the statements are not yours to turn. If you find one false, say at which input.
  Laid BY PROGRAM, IN A SANDBOX (cutbox-rows.mjs): the forced cells as the released guide's own fill.sh prints them over the translation ae10103707efc5d5… (all of the seat's roots in one cut). By AI agents, Wed Nov 11 2026. No macro, syntax, notation, axiom, sorry.
-/
import Derived.Test.YtnfcfbljdibinaaChecked
import GoSem.Claim
import GoSem.ClaimJoined
import GoSem.ClaimMapViews
import Derived.JoinedTies
import Derived.KernelRfl
namespace Go.Proofs.Ytnfcfbljdibinaa
/- THE CELL 'sum', in the pinned program and in every row, IS THE sha256 OF THE DUMP (.gsa) THAT YtnfcfbljdibinaaProg.lean LOADS. Nothing in Lean hashes anything: it is a label: what it is worth is what the hold of that sum in a sandbox is worth. -/
noncomputable def Try.pinned : Pinned := { name := "ytnfcfbljdibinaa", sum := "ae10103707efc5d597e4750b16aed6a64054bd9d6e7a96bc4a86c1acd101b973", checked := Try.checked }
namespace Rows
def none {H : Type} : Left H := { results := [], args := [] }

/-- 'aumbrylaw18.MetalogNames': WHATEVER THE INPUT: true; the input reads as it did. -/
def metalogNamesSpec : ChangeSpec := { name := "metalogNames", fn := fun _ => fun
  | [] => { results := [.lit (.bool true)], args := [] }
  | _ => none }
def metalogNamesRow : OpenClaim := { program := "ytnfcfbljdibinaa", sum := "ae10103707efc5d597e4750b16aed6a64054bd9d6e7a96bc4a86c1acd101b973", func := "aumbry/aumbrylaw18.MetalogNames", spec := "metalogNames", unfollowed := true, recurses := true, plainKeys := false, apart := false }
def MetalogNamesSaid : Prop := metalogNamesRow.holds Try.pinned (OpenSpec.ofChange metalogNamesSpec)

/-- ITS FALSE NEIGHBOUR: 'it returns false'. Refute it at one input. -/
def metalogNamesWrong : ChangeSpec := { name := "metalogNames", fn := fun _ => fun
  | [] => { results := [.lit (.bool false)], args := [] }
  | _ => none }
def MetalogNamesWrongFalsely : Prop := metalogNamesRow.holds Try.pinned (OpenSpec.ofChange metalogNamesWrong)

/-- 'aumbrylaw18.MetalogNil': WHATEVER THE INPUT: true; the input reads as it did. -/
def metalogNilSpec : ChangeSpec := { name := "metalogNil", fn := fun _ => fun
  | [d1, d2, d3] => { results := [.lit (.bool true)], args := [d1, d2, d3] }
  | _ => none }
def metalogNilRow : OpenClaim := { program := "ytnfcfbljdibinaa", sum := "ae10103707efc5d597e4750b16aed6a64054bd9d6e7a96bc4a86c1acd101b973", func := "aumbry/aumbrylaw18.MetalogNil", spec := "metalogNil", unfollowed := true, recurses := true, plainKeys := false, apart := false }
def MetalogNilSaid : Prop := metalogNilRow.holds Try.pinned (OpenSpec.ofChange metalogNilSpec)

/-- ITS FALSE NEIGHBOUR: 'it returns false'. Refute it at one input. -/
def metalogNilWrong : ChangeSpec := { name := "metalogNil", fn := fun _ => fun
  | [d1, d2, d3] => { results := [.lit (.bool false)], args := [d1, d2, d3] }
  | _ => none }
def MetalogNilWrongFalsely : Prop := metalogNilRow.holds Try.pinned (OpenSpec.ofChange metalogNilWrong)

/-- 'aumbrylaw18.MetalogCuts': WHATEVER THE INPUT: true; the input reads as it did. -/
def metalogCutsSpec : ChangeSpec := { name := "metalogCuts", fn := fun _ => fun
  | [d1, d2, d3, d4, d5, d6, d7, d8] => { results := [.lit (.bool true)], args := [d1, d2, d3, d4, d5, d6, d7, d8] }
  | _ => none }
def metalogCutsRow : OpenClaim := { program := "ytnfcfbljdibinaa", sum := "ae10103707efc5d597e4750b16aed6a64054bd9d6e7a96bc4a86c1acd101b973", func := "aumbry/aumbrylaw18.MetalogCuts", spec := "metalogCuts", unfollowed := true, recurses := true, plainKeys := false, apart := false }
def MetalogCutsSaid : Prop := metalogCutsRow.holds Try.pinned (OpenSpec.ofChange metalogCutsSpec)

/-- ITS FALSE NEIGHBOUR: 'it returns false'. Refute it at one input. -/
def metalogCutsWrong : ChangeSpec := { name := "metalogCuts", fn := fun _ => fun
  | [d1, d2, d3, d4, d5, d6, d7, d8] => { results := [.lit (.bool false)], args := [d1, d2, d3, d4, d5, d6, d7, d8] }
  | _ => none }
def MetalogCutsWrongFalsely : Prop := metalogCutsRow.holds Try.pinned (OpenSpec.ofChange metalogCutsWrong)

/-- 'aumbrylaw18.MetalogKnows': WHATEVER THE INPUT: true; the input reads as it did. -/
def metalogKnowsSpec : ChangeSpec := { name := "metalogKnows", fn := fun _ => fun
  | [d1, d2, d3, d4, d5] => { results := [.lit (.bool true)], args := [d1, d2, d3, d4, d5] }
  | _ => none }
def metalogKnowsRow : OpenClaim := { program := "ytnfcfbljdibinaa", sum := "ae10103707efc5d597e4750b16aed6a64054bd9d6e7a96bc4a86c1acd101b973", func := "aumbry/aumbrylaw18.MetalogKnows", spec := "metalogKnows", unfollowed := true, recurses := true, plainKeys := false, apart := false }
def MetalogKnowsSaid : Prop := metalogKnowsRow.holds Try.pinned (OpenSpec.ofChange metalogKnowsSpec)

/-- ITS FALSE NEIGHBOUR: 'it returns false'. Refute it at one input. -/
def metalogKnowsWrong : ChangeSpec := { name := "metalogKnows", fn := fun _ => fun
  | [d1, d2, d3, d4, d5] => { results := [.lit (.bool false)], args := [d1, d2, d3, d4, d5] }
  | _ => none }
def MetalogKnowsWrongFalsely : Prop := metalogKnowsRow.holds Try.pinned (OpenSpec.ofChange metalogKnowsWrong)

/-- 'aumbrylaw18.MetalogLasts': WHATEVER THE INPUT: true; the input reads as it did. -/
def metalogLastsSpec : ChangeSpec := { name := "metalogLasts", fn := fun _ => fun
  | [d1, d2, d3, d4, d5] => { results := [.lit (.bool true)], args := [d1, d2, d3, d4, d5] }
  | _ => none }
def metalogLastsRow : OpenClaim := { program := "ytnfcfbljdibinaa", sum := "ae10103707efc5d597e4750b16aed6a64054bd9d6e7a96bc4a86c1acd101b973", func := "aumbry/aumbrylaw18.MetalogLasts", spec := "metalogLasts", unfollowed := true, recurses := true, plainKeys := false, apart := false }
def MetalogLastsSaid : Prop := metalogLastsRow.holds Try.pinned (OpenSpec.ofChange metalogLastsSpec)

/-- ITS FALSE NEIGHBOUR: 'it returns false'. Refute it at one input. -/
def metalogLastsWrong : ChangeSpec := { name := "metalogLasts", fn := fun _ => fun
  | [d1, d2, d3, d4, d5] => { results := [.lit (.bool false)], args := [d1, d2, d3, d4, d5] }
  | _ => none }
def MetalogLastsWrongFalsely : Prop := metalogLastsRow.holds Try.pinned (OpenSpec.ofChange metalogLastsWrong)

/- THE SECOND FORM. 'bulk': how many values and letters a reading holds, each counted each time it is reached (what is shared counts as often as it is met; a slice's spare places count too). A statement '..UptoSaid' is the law's where the arguments, and the package variables that the reading takes, are together of bulk at most 1048576: NARROWER than '..Said'. Prove '..Said' where nothing that the law and all that it calls make is longer than what came in: it says more and counts as full. Else prove '..UptoSaid'. A law counts once. -/
mutual
def uptoBulk {H : Type} : DataW H → Nat
  | .lit (.string bytes) => bytes.length + 1
  | .lit _ => 1
  | .nil => 1
  | .ptr d => uptoBulk d + 1
  | .slice elems spare => uptoBulkAll elems + uptoBulkAll spare + 1
  | .agg parts => uptoBulkAll parts + 1
  | .iface _ d => uptoBulk d + 1
  | .map entries => uptoBulkEntries entries + 1
  | .held _ => 1
def uptoBulkAll {H : Type} : List (DataW H) → Nat
  | [] => 0
  | d :: r => uptoBulk d + uptoBulkAll r
def uptoBulkEntries {H : Type} : List (Lit × DataW H) → Nat
  | [] => 0
  | x :: r => uptoBulkEntry x + uptoBulkEntries r
def uptoBulkEntry {H : Type} : Lit × DataW H → Nat
  | (.string bytes, d) => bytes.length + uptoBulk d + 1
  | (_, d) => uptoBulk d + 1
 end
def uptoSmall : (H : Type) → List (DataW H) → Bool := fun _ ds => decide (uptoBulkAll ds ≤ 1048576)
def OpenSpec.upto (s : _root_.Go.ChangeSpec) : _root_.Go.OpenSpec := { _root_.Go.OpenSpec.ofChange s with cond := some uptoSmall }

/-- 'aumbrylaw18.MetalogNames', WHERE WHAT IT READS IS OF BULK AT MOST 1048576: true; the input reads as it did. -/
def metalogNamesUptoRow : OpenClaim := { program := "ytnfcfbljdibinaa", sum := "ae10103707efc5d597e4750b16aed6a64054bd9d6e7a96bc4a86c1acd101b973", func := "aumbry/aumbrylaw18.MetalogNames", spec := "metalogNames", unfollowed := true, recurses := true, plainKeys := false, apart := false, narrowed := true }
def MetalogNamesUptoSaid : Prop := metalogNamesUptoRow.holds Try.pinned (OpenSpec.upto metalogNamesSpec)

/-- 'aumbrylaw18.MetalogNil', WHERE WHAT IT READS IS OF BULK AT MOST 1048576: true; the input reads as it did. -/
def metalogNilUptoRow : OpenClaim := { program := "ytnfcfbljdibinaa", sum := "ae10103707efc5d597e4750b16aed6a64054bd9d6e7a96bc4a86c1acd101b973", func := "aumbry/aumbrylaw18.MetalogNil", spec := "metalogNil", unfollowed := true, recurses := true, plainKeys := false, apart := false, narrowed := true }
def MetalogNilUptoSaid : Prop := metalogNilUptoRow.holds Try.pinned (OpenSpec.upto metalogNilSpec)

/-- 'aumbrylaw18.MetalogCuts', WHERE WHAT IT READS IS OF BULK AT MOST 1048576: true; the input reads as it did. -/
def metalogCutsUptoRow : OpenClaim := { program := "ytnfcfbljdibinaa", sum := "ae10103707efc5d597e4750b16aed6a64054bd9d6e7a96bc4a86c1acd101b973", func := "aumbry/aumbrylaw18.MetalogCuts", spec := "metalogCuts", unfollowed := true, recurses := true, plainKeys := false, apart := false, narrowed := true }
def MetalogCutsUptoSaid : Prop := metalogCutsUptoRow.holds Try.pinned (OpenSpec.upto metalogCutsSpec)

/-- 'aumbrylaw18.MetalogKnows', WHERE WHAT IT READS IS OF BULK AT MOST 1048576: true; the input reads as it did. -/
def metalogKnowsUptoRow : OpenClaim := { program := "ytnfcfbljdibinaa", sum := "ae10103707efc5d597e4750b16aed6a64054bd9d6e7a96bc4a86c1acd101b973", func := "aumbry/aumbrylaw18.MetalogKnows", spec := "metalogKnows", unfollowed := true, recurses := true, plainKeys := false, apart := false, narrowed := true }
def MetalogKnowsUptoSaid : Prop := metalogKnowsUptoRow.holds Try.pinned (OpenSpec.upto metalogKnowsSpec)

/-- 'aumbrylaw18.MetalogLasts', WHERE WHAT IT READS IS OF BULK AT MOST 1048576: true; the input reads as it did. -/
def metalogLastsUptoRow : OpenClaim := { program := "ytnfcfbljdibinaa", sum := "ae10103707efc5d597e4750b16aed6a64054bd9d6e7a96bc4a86c1acd101b973", func := "aumbry/aumbrylaw18.MetalogLasts", spec := "metalogLasts", unfollowed := true, recurses := true, plainKeys := false, apart := false, narrowed := true }
def MetalogLastsUptoSaid : Prop := metalogLastsUptoRow.holds Try.pinned (OpenSpec.upto metalogLastsSpec)

end Rows
end Go.Proofs.Ytnfcfbljdibinaa
