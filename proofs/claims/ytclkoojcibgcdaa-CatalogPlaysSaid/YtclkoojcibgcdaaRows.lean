/-
  No cell of these rows narrows 'for every input' (looked for: loops, veiled, ifaces, maps, wideKeys, modest, calm, conditions, laid).
  DERIVED. THE GIVEN ROWS OF THIS SEAT. 7 by the template 'for every input the law returns true; each argument reads behind the call as it read before'; 0 by the template 'total and deterministic' (their statements: YtclkoojcibgcdaaTotals.lean).
  GIVEN WITH THE SEED: the statements are not yours to turn. If you find one false, say at which input.
  Laid BY PROGRAM, IN A SANDBOX (cutbox-rows.mjs): the forced cells as the released guide's own fill.sh prints them over the translation 21d8b6cae8d7e362… (all of the seat's roots in one cut). By AI agents, Wed Nov 11 2026. No macro, syntax, notation, axiom, sorry.
-/
import Derived.Test.YtclkoojcibgcdaaChecked
import GoSem.Claim
import GoSem.ClaimJoined
import GoSem.ClaimMapViews
import Derived.JoinedTies
import Derived.KernelRfl
namespace Go.Proofs.Ytclkoojcibgcdaa
/- THE CELL 'sum', in the pinned program and in every row, IS THE sha256 OF THE DUMP (.gsa) THAT YtclkoojcibgcdaaProg.lean LOADS. Nothing in Lean hashes anything: it is a label: what it is worth is what the hold of that sum in a sandbox is worth. -/
noncomputable def Try.pinned : Pinned := { name := "ytclkoojcibgcdaa", sum := "21d8b6cae8d7e362d7a0f3b81c04dd06e140e64d1ebf26ffbf8e1638ba53f9b9", checked := Try.checked }
namespace Rows
def none {H : Type} : Left H := { results := [], args := [] }

/-- 'aumbrylaw19.CatalogNames': WHATEVER THE INPUT: true; the input reads as it did. -/
def catalogNamesSpec : ChangeSpec := { name := "catalogNames", fn := fun _ => fun
  | [] => { results := [.lit (.bool true)], args := [] }
  | _ => none }
def catalogNamesRow : OpenClaim := { program := "ytclkoojcibgcdaa", sum := "21d8b6cae8d7e362d7a0f3b81c04dd06e140e64d1ebf26ffbf8e1638ba53f9b9", func := "aumbry/aumbrylaw19.CatalogNames", spec := "catalogNames", unfollowed := true, recurses := true, apart := false }
def CatalogNamesSaid : Prop := catalogNamesRow.holds Try.pinned (OpenSpec.ofChange catalogNamesSpec)

/-- ITS FALSE NEIGHBOUR: 'it returns false'. Refute it at one input. -/
def catalogNamesWrong : ChangeSpec := { name := "catalogNames", fn := fun _ => fun
  | [] => { results := [.lit (.bool false)], args := [] }
  | _ => none }
def CatalogNamesWrongFalsely : Prop := catalogNamesRow.holds Try.pinned (OpenSpec.ofChange catalogNamesWrong)

/-- 'aumbrylaw19.CatalogPlays': WHATEVER THE INPUT: true; the input reads as it did. -/
def catalogPlaysSpec : ChangeSpec := { name := "catalogPlays", fn := fun _ => fun
  | [d1, d2, d3] => { results := [.lit (.bool true)], args := [d1, d2, d3] }
  | _ => none }
def catalogPlaysRow : OpenClaim := { program := "ytclkoojcibgcdaa", sum := "21d8b6cae8d7e362d7a0f3b81c04dd06e140e64d1ebf26ffbf8e1638ba53f9b9", func := "aumbry/aumbrylaw19.CatalogPlays", spec := "catalogPlays", unfollowed := true, recurses := true, apart := false }
def CatalogPlaysSaid : Prop := catalogPlaysRow.holds Try.pinned (OpenSpec.ofChange catalogPlaysSpec)

/-- ITS FALSE NEIGHBOUR: 'it returns false'. Refute it at one input. -/
def catalogPlaysWrong : ChangeSpec := { name := "catalogPlays", fn := fun _ => fun
  | [d1, d2, d3] => { results := [.lit (.bool false)], args := [d1, d2, d3] }
  | _ => none }
def CatalogPlaysWrongFalsely : Prop := catalogPlaysRow.holds Try.pinned (OpenSpec.ofChange catalogPlaysWrong)

/-- 'aumbrylaw19.CatalogApart': WHATEVER THE INPUT: true; the input reads as it did. -/
def catalogApartSpec : ChangeSpec := { name := "catalogApart", fn := fun _ => fun
  | [d1, d2] => { results := [.lit (.bool true)], args := [d1, d2] }
  | _ => none }
def catalogApartRow : OpenClaim := { program := "ytclkoojcibgcdaa", sum := "21d8b6cae8d7e362d7a0f3b81c04dd06e140e64d1ebf26ffbf8e1638ba53f9b9", func := "aumbry/aumbrylaw19.CatalogApart", spec := "catalogApart", unfollowed := true, recurses := true, apart := false }
def CatalogApartSaid : Prop := catalogApartRow.holds Try.pinned (OpenSpec.ofChange catalogApartSpec)

/-- ITS FALSE NEIGHBOUR: 'it returns false'. Refute it at one input. -/
def catalogApartWrong : ChangeSpec := { name := "catalogApart", fn := fun _ => fun
  | [d1, d2] => { results := [.lit (.bool false)], args := [d1, d2] }
  | _ => none }
def CatalogApartWrongFalsely : Prop := catalogApartRow.holds Try.pinned (OpenSpec.ofChange catalogApartWrong)

/-- 'aumbrylaw19.CatalogPlans': WHATEVER THE INPUT: true; the input reads as it did. -/
def catalogPlansSpec : ChangeSpec := { name := "catalogPlans", fn := fun _ => fun
  | [d1, d2, d3, d4, d5] => { results := [.lit (.bool true)], args := [d1, d2, d3, d4, d5] }
  | _ => none }
def catalogPlansRow : OpenClaim := { program := "ytclkoojcibgcdaa", sum := "21d8b6cae8d7e362d7a0f3b81c04dd06e140e64d1ebf26ffbf8e1638ba53f9b9", func := "aumbry/aumbrylaw19.CatalogPlans", spec := "catalogPlans", unfollowed := true, recurses := true, apart := false }
def CatalogPlansSaid : Prop := catalogPlansRow.holds Try.pinned (OpenSpec.ofChange catalogPlansSpec)

/-- ITS FALSE NEIGHBOUR: 'it returns false'. Refute it at one input. -/
def catalogPlansWrong : ChangeSpec := { name := "catalogPlans", fn := fun _ => fun
  | [d1, d2, d3, d4, d5] => { results := [.lit (.bool false)], args := [d1, d2, d3, d4, d5] }
  | _ => none }
def CatalogPlansWrongFalsely : Prop := catalogPlansRow.holds Try.pinned (OpenSpec.ofChange catalogPlansWrong)

/-- 'aumbrylaw19.CatalogDeletes': WHATEVER THE INPUT: true; the input reads as it did. -/
def catalogDeletesSpec : ChangeSpec := { name := "catalogDeletes", fn := fun _ => fun
  | [d1, d2, d3] => { results := [.lit (.bool true)], args := [d1, d2, d3] }
  | _ => none }
def catalogDeletesRow : OpenClaim := { program := "ytclkoojcibgcdaa", sum := "21d8b6cae8d7e362d7a0f3b81c04dd06e140e64d1ebf26ffbf8e1638ba53f9b9", func := "aumbry/aumbrylaw19.CatalogDeletes", spec := "catalogDeletes", unfollowed := true, recurses := true, apart := false }
def CatalogDeletesSaid : Prop := catalogDeletesRow.holds Try.pinned (OpenSpec.ofChange catalogDeletesSpec)

/-- ITS FALSE NEIGHBOUR: 'it returns false'. Refute it at one input. -/
def catalogDeletesWrong : ChangeSpec := { name := "catalogDeletes", fn := fun _ => fun
  | [d1, d2, d3] => { results := [.lit (.bool false)], args := [d1, d2, d3] }
  | _ => none }
def CatalogDeletesWrongFalsely : Prop := catalogDeletesRow.holds Try.pinned (OpenSpec.ofChange catalogDeletesWrong)

/-- 'aumbrylaw19.CatalogNil': WHATEVER THE INPUT: true; the input reads as it did. -/
def catalogNilSpec : ChangeSpec := { name := "catalogNil", fn := fun _ => fun
  | [d1, d2] => { results := [.lit (.bool true)], args := [d1, d2] }
  | _ => none }
def catalogNilRow : OpenClaim := { program := "ytclkoojcibgcdaa", sum := "21d8b6cae8d7e362d7a0f3b81c04dd06e140e64d1ebf26ffbf8e1638ba53f9b9", func := "aumbry/aumbrylaw19.CatalogNil", spec := "catalogNil", unfollowed := true, recurses := true, apart := false }
def CatalogNilSaid : Prop := catalogNilRow.holds Try.pinned (OpenSpec.ofChange catalogNilSpec)

/-- ITS FALSE NEIGHBOUR: 'it returns false'. Refute it at one input. -/
def catalogNilWrong : ChangeSpec := { name := "catalogNil", fn := fun _ => fun
  | [d1, d2] => { results := [.lit (.bool false)], args := [d1, d2] }
  | _ => none }
def CatalogNilWrongFalsely : Prop := catalogNilRow.holds Try.pinned (OpenSpec.ofChange catalogNilWrong)

/-- 'aumbrylaw19.CatalogAgain': WHATEVER THE INPUT: true; the input reads as it did. -/
def catalogAgainSpec : ChangeSpec := { name := "catalogAgain", fn := fun _ => fun
  | [d1, d2] => { results := [.lit (.bool true)], args := [d1, d2] }
  | _ => none }
def catalogAgainRow : OpenClaim := { program := "ytclkoojcibgcdaa", sum := "21d8b6cae8d7e362d7a0f3b81c04dd06e140e64d1ebf26ffbf8e1638ba53f9b9", func := "aumbry/aumbrylaw19.CatalogAgain", spec := "catalogAgain", unfollowed := true, recurses := true, apart := false }
def CatalogAgainSaid : Prop := catalogAgainRow.holds Try.pinned (OpenSpec.ofChange catalogAgainSpec)

/-- ITS FALSE NEIGHBOUR: 'it returns false'. Refute it at one input. -/
def catalogAgainWrong : ChangeSpec := { name := "catalogAgain", fn := fun _ => fun
  | [d1, d2] => { results := [.lit (.bool false)], args := [d1, d2] }
  | _ => none }
def CatalogAgainWrongFalsely : Prop := catalogAgainRow.holds Try.pinned (OpenSpec.ofChange catalogAgainWrong)

/- THE SECOND FORM. 'bulk': how many values and letters a reading holds, each counted each time it is reached (what is shared counts as often as it is met; a slice's spare places count too). A statement '..UptoSaid' is the law's where the arguments, and the package variables that the reading takes, are together of bulk at most 1048576: NARROWER than '..Said'. Prove '..Said' where nothing that the law and all that it calls make is longer than what came in: it says more and counts as full. Else prove '..UptoSaid'. A law counts once. -/
mutual
def uptoBulk {H : Type} : DataW H → Nat
  | .lit (.string bytes) => bytes.length + 1
  | .lit _ => 1
  | .nil => 1
  | .ptr d => uptoBulk d + 1
  | .slice elems spare => uptoBulkAll elems + uptoBulkAll spare + 1
  | .agg parts => uptoBulkAll parts + 1
  | .iface _ d => uptoBulk d + 1
  | .map entries => uptoBulkEntries entries + 1
  | .held _ => 1
def uptoBulkAll {H : Type} : List (DataW H) → Nat
  | [] => 0
  | d :: r => uptoBulk d + uptoBulkAll r
def uptoBulkEntries {H : Type} : List (Lit × DataW H) → Nat
  | [] => 0
  | x :: r => uptoBulkEntry x + uptoBulkEntries r
def uptoBulkEntry {H : Type} : Lit × DataW H → Nat
  | (.string bytes, d) => bytes.length + uptoBulk d + 1
  | (_, d) => uptoBulk d + 1
 end
def uptoSmall : (H : Type) → List (DataW H) → Bool := fun _ ds => decide (uptoBulkAll ds ≤ 1048576)
def OpenSpec.upto (s : _root_.Go.ChangeSpec) : _root_.Go.OpenSpec := { _root_.Go.OpenSpec.ofChange s with cond := some uptoSmall }

/-- 'aumbrylaw19.CatalogNames', WHERE WHAT IT READS IS OF BULK AT MOST 1048576: true; the input reads as it did. -/
def catalogNamesUptoRow : OpenClaim := { program := "ytclkoojcibgcdaa", sum := "21d8b6cae8d7e362d7a0f3b81c04dd06e140e64d1ebf26ffbf8e1638ba53f9b9", func := "aumbry/aumbrylaw19.CatalogNames", spec := "catalogNames", unfollowed := true, recurses := true, apart := false, narrowed := true }
def CatalogNamesUptoSaid : Prop := catalogNamesUptoRow.holds Try.pinned (OpenSpec.upto catalogNamesSpec)

/-- 'aumbrylaw19.CatalogPlays', WHERE WHAT IT READS IS OF BULK AT MOST 1048576: true; the input reads as it did. -/
def catalogPlaysUptoRow : OpenClaim := { program := "ytclkoojcibgcdaa", sum := "21d8b6cae8d7e362d7a0f3b81c04dd06e140e64d1ebf26ffbf8e1638ba53f9b9", func := "aumbry/aumbrylaw19.CatalogPlays", spec := "catalogPlays", unfollowed := true, recurses := true, apart := false, narrowed := true }
def CatalogPlaysUptoSaid : Prop := catalogPlaysUptoRow.holds Try.pinned (OpenSpec.upto catalogPlaysSpec)

/-- 'aumbrylaw19.CatalogApart', WHERE WHAT IT READS IS OF BULK AT MOST 1048576: true; the input reads as it did. -/
def catalogApartUptoRow : OpenClaim := { program := "ytclkoojcibgcdaa", sum := "21d8b6cae8d7e362d7a0f3b81c04dd06e140e64d1ebf26ffbf8e1638ba53f9b9", func := "aumbry/aumbrylaw19.CatalogApart", spec := "catalogApart", unfollowed := true, recurses := true, apart := false, narrowed := true }
def CatalogApartUptoSaid : Prop := catalogApartUptoRow.holds Try.pinned (OpenSpec.upto catalogApartSpec)

/-- 'aumbrylaw19.CatalogPlans', WHERE WHAT IT READS IS OF BULK AT MOST 1048576: true; the input reads as it did. -/
def catalogPlansUptoRow : OpenClaim := { program := "ytclkoojcibgcdaa", sum := "21d8b6cae8d7e362d7a0f3b81c04dd06e140e64d1ebf26ffbf8e1638ba53f9b9", func := "aumbry/aumbrylaw19.CatalogPlans", spec := "catalogPlans", unfollowed := true, recurses := true, apart := false, narrowed := true }
def CatalogPlansUptoSaid : Prop := catalogPlansUptoRow.holds Try.pinned (OpenSpec.upto catalogPlansSpec)

/-- 'aumbrylaw19.CatalogDeletes', WHERE WHAT IT READS IS OF BULK AT MOST 1048576: true; the input reads as it did. -/
def catalogDeletesUptoRow : OpenClaim := { program := "ytclkoojcibgcdaa", sum := "21d8b6cae8d7e362d7a0f3b81c04dd06e140e64d1ebf26ffbf8e1638ba53f9b9", func := "aumbry/aumbrylaw19.CatalogDeletes", spec := "catalogDeletes", unfollowed := true, recurses := true, apart := false, narrowed := true }
def CatalogDeletesUptoSaid : Prop := catalogDeletesUptoRow.holds Try.pinned (OpenSpec.upto catalogDeletesSpec)

/-- 'aumbrylaw19.CatalogNil', WHERE WHAT IT READS IS OF BULK AT MOST 1048576: true; the input reads as it did. -/
def catalogNilUptoRow : OpenClaim := { program := "ytclkoojcibgcdaa", sum := "21d8b6cae8d7e362d7a0f3b81c04dd06e140e64d1ebf26ffbf8e1638ba53f9b9", func := "aumbry/aumbrylaw19.CatalogNil", spec := "catalogNil", unfollowed := true, recurses := true, apart := false, narrowed := true }
def CatalogNilUptoSaid : Prop := catalogNilUptoRow.holds Try.pinned (OpenSpec.upto catalogNilSpec)

/-- 'aumbrylaw19.CatalogAgain', WHERE WHAT IT READS IS OF BULK AT MOST 1048576: true; the input reads as it did. -/
def catalogAgainUptoRow : OpenClaim := { program := "ytclkoojcibgcdaa", sum := "21d8b6cae8d7e362d7a0f3b81c04dd06e140e64d1ebf26ffbf8e1638ba53f9b9", func := "aumbry/aumbrylaw19.CatalogAgain", spec := "catalogAgain", unfollowed := true, recurses := true, apart := false, narrowed := true }
def CatalogAgainUptoSaid : Prop := catalogAgainUptoRow.holds Try.pinned (OpenSpec.upto catalogAgainSpec)

end Rows
end Go.Proofs.Ytclkoojcibgcdaa
