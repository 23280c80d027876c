/-
  No cell of these rows narrows 'for every input' (looked for: loops, veiled, ifaces, maps, wideKeys, modest, calm, conditions, laid).
  DERIVED. THE GIVEN ROWS OF THIS SEAT. 6 by the template 'for every input the law returns true; each argument reads behind the call as it read before'; 0 by the template 'total and deterministic' (their statements: YtkolafpgbhpdlaaGreatTotals.lean).
  GIVEN WITH THE SEED: the statements are not yours to turn. If you find one false, say at which input.
  Laid BY PROGRAM, IN A SANDBOX (cutbox-rows.mjs): the forced cells as the released guide's own fill.sh prints them over the translation 4dd903e3cb3c7d0e… (all of the seat's roots in one cut). By AI agents, Wed Nov 11 2026. No macro, syntax, notation, axiom, sorry.
-/
import Derived.Test.YtkolafpgbhpdlaaGreatChecked
import GoSem.Claim
import GoSem.ClaimJoined
import GoSem.ClaimMapViews
import Derived.JoinedTies
import Derived.KernelRfl
namespace Go.Proofs.YtkolafpgbhpdlaaGreat
/- THE CELL 'sum', in the pinned program and in every row, IS THE sha256 OF THE DUMP (.gsa) THAT YtkolafpgbhpdlaaGreatProg.lean LOADS. Nothing in Lean hashes anything: it is a label: what it is worth is what the hold of that sum in a sandbox is worth. -/
noncomputable def Tryz.pinned : Pinned := { name := "ytkolafpgbhpdlaagreat", sum := "4dd903e3cb3c7d0ee5a8fd6f31510bde8195240801990481dbd3063a8c3ea83a", checked := Tryz.checked }
namespace Rows
def none {H : Type} : Left H := { results := [], args := [] }

/-- 'aumbrylaw15.StripeioNames': WHATEVER THE INPUT: true; the input reads as it did. -/
def stripeioNamesSpec : ChangeSpec := { name := "stripeioNames", fn := fun _ => fun
  | [] => { results := [.lit (.bool true)], args := [] }
  | _ => none }
def stripeioNamesRow : OpenClaim := { program := "ytkolafpgbhpdlaagreat", sum := "4dd903e3cb3c7d0ee5a8fd6f31510bde8195240801990481dbd3063a8c3ea83a", func := "aumbry/aumbrylaw15.StripeioNames", spec := "stripeioNames", inPlace := ["internal/bytealg.MakeNoZero"], unfollowed := true, recurses := true, apart := false }
def StripeioNamesSaid : Prop := stripeioNamesRow.holds Tryz.pinned (OpenSpec.ofChange stripeioNamesSpec)

/-- ITS FALSE NEIGHBOUR: 'it returns false'. Refute it at one input. -/
def stripeioNamesWrong : ChangeSpec := { name := "stripeioNames", fn := fun _ => fun
  | [] => { results := [.lit (.bool false)], args := [] }
  | _ => none }
def StripeioNamesWrongFalsely : Prop := stripeioNamesRow.holds Tryz.pinned (OpenSpec.ofChange stripeioNamesWrong)

/-- 'aumbrylaw15.StripeioNil': WHATEVER THE INPUT: true; the input reads as it did. -/
def stripeioNilSpec : ChangeSpec := { name := "stripeioNil", fn := fun _ => fun
  | [d1, d2, d3] => { results := [.lit (.bool true)], args := [d1, d2, d3] }
  | _ => none }
def stripeioNilRow : OpenClaim := { program := "ytkolafpgbhpdlaagreat", sum := "4dd903e3cb3c7d0ee5a8fd6f31510bde8195240801990481dbd3063a8c3ea83a", func := "aumbry/aumbrylaw15.StripeioNil", spec := "stripeioNil", inPlace := ["internal/bytealg.MakeNoZero"], unfollowed := true, recurses := true, apart := false }
def StripeioNilSaid : Prop := stripeioNilRow.holds Tryz.pinned (OpenSpec.ofChange stripeioNilSpec)

/-- ITS FALSE NEIGHBOUR: 'it returns false'. Refute it at one input. -/
def stripeioNilWrong : ChangeSpec := { name := "stripeioNil", fn := fun _ => fun
  | [d1, d2, d3] => { results := [.lit (.bool false)], args := [d1, d2, d3] }
  | _ => none }
def StripeioNilWrongFalsely : Prop := stripeioNilRow.holds Tryz.pinned (OpenSpec.ofChange stripeioNilWrong)

/-- 'aumbrylaw15.StripeioEpochs': WHATEVER THE INPUT: true; the input reads as it did. -/
def stripeioEpochsSpec : ChangeSpec := { name := "stripeioEpochs", fn := fun _ => fun
  | [d1, d2, d3, d4, d5, d6, d7] => { results := [.lit (.bool true)], args := [d1, d2, d3, d4, d5, d6, d7] }
  | _ => none }
def stripeioEpochsRow : OpenClaim := { program := "ytkolafpgbhpdlaagreat", sum := "4dd903e3cb3c7d0ee5a8fd6f31510bde8195240801990481dbd3063a8c3ea83a", func := "aumbry/aumbrylaw15.StripeioEpochs", spec := "stripeioEpochs", inPlace := ["internal/bytealg.MakeNoZero"], unfollowed := true, recurses := true, apart := false }
def StripeioEpochsSaid : Prop := stripeioEpochsRow.holds Tryz.pinned (OpenSpec.ofChange stripeioEpochsSpec)

/-- ITS FALSE NEIGHBOUR: 'it returns false'. Refute it at one input. -/
def stripeioEpochsWrong : ChangeSpec := { name := "stripeioEpochs", fn := fun _ => fun
  | [d1, d2, d3, d4, d5, d6, d7] => { results := [.lit (.bool false)], args := [d1, d2, d3, d4, d5, d6, d7] }
  | _ => none }
def StripeioEpochsWrongFalsely : Prop := stripeioEpochsRow.holds Tryz.pinned (OpenSpec.ofChange stripeioEpochsWrong)

/-- 'aumbrylaw15.StripeioBack': WHATEVER THE INPUT: true; the input reads as it did. -/
def stripeioBackSpec : ChangeSpec := { name := "stripeioBack", fn := fun _ => fun
  | [d1, d2, d3, d4, d5, d6] => { results := [.lit (.bool true)], args := [d1, d2, d3, d4, d5, d6] }
  | _ => none }
def stripeioBackRow : OpenClaim := { program := "ytkolafpgbhpdlaagreat", sum := "4dd903e3cb3c7d0ee5a8fd6f31510bde8195240801990481dbd3063a8c3ea83a", func := "aumbry/aumbrylaw15.StripeioBack", spec := "stripeioBack", inPlace := ["internal/bytealg.MakeNoZero"], unfollowed := true, recurses := true, apart := false }
def StripeioBackSaid : Prop := stripeioBackRow.holds Tryz.pinned (OpenSpec.ofChange stripeioBackSpec)

/-- ITS FALSE NEIGHBOUR: 'it returns false'. Refute it at one input. -/
def stripeioBackWrong : ChangeSpec := { name := "stripeioBack", fn := fun _ => fun
  | [d1, d2, d3, d4, d5, d6] => { results := [.lit (.bool false)], args := [d1, d2, d3, d4, d5, d6] }
  | _ => none }
def StripeioBackWrongFalsely : Prop := stripeioBackRow.holds Tryz.pinned (OpenSpec.ofChange stripeioBackWrong)

/-- 'aumbrylaw15.StripeioApart': WHATEVER THE INPUT: true; the input reads as it did. -/
def stripeioApartSpec : ChangeSpec := { name := "stripeioApart", fn := fun _ => fun
  | [d1, d2, d3, d4, d5] => { results := [.lit (.bool true)], args := [d1, d2, d3, d4, d5] }
  | _ => none }
def stripeioApartRow : OpenClaim := { program := "ytkolafpgbhpdlaagreat", sum := "4dd903e3cb3c7d0ee5a8fd6f31510bde8195240801990481dbd3063a8c3ea83a", func := "aumbry/aumbrylaw15.StripeioApart", spec := "stripeioApart", inPlace := ["internal/bytealg.MakeNoZero"], unfollowed := true, recurses := true, apart := false }
def StripeioApartSaid : Prop := stripeioApartRow.holds Tryz.pinned (OpenSpec.ofChange stripeioApartSpec)

/-- ITS FALSE NEIGHBOUR: 'it returns false'. Refute it at one input. -/
def stripeioApartWrong : ChangeSpec := { name := "stripeioApart", fn := fun _ => fun
  | [d1, d2, d3, d4, d5] => { results := [.lit (.bool false)], args := [d1, d2, d3, d4, d5] }
  | _ => none }
def StripeioApartWrongFalsely : Prop := stripeioApartRow.holds Tryz.pinned (OpenSpec.ofChange stripeioApartWrong)

/-- 'aumbrylaw15.StripeioPlays': WHATEVER THE INPUT: true; the input reads as it did. -/
def stripeioPlaysSpec : ChangeSpec := { name := "stripeioPlays", fn := fun _ => fun
  | [d1, d2, d3] => { results := [.lit (.bool true)], args := [d1, d2, d3] }
  | _ => none }
def stripeioPlaysRow : OpenClaim := { program := "ytkolafpgbhpdlaagreat", sum := "4dd903e3cb3c7d0ee5a8fd6f31510bde8195240801990481dbd3063a8c3ea83a", func := "aumbry/aumbrylaw15.StripeioPlays", spec := "stripeioPlays", inPlace := ["internal/bytealg.MakeNoZero"], unfollowed := true, recurses := true, apart := false }
def StripeioPlaysSaid : Prop := stripeioPlaysRow.holds Tryz.pinned (OpenSpec.ofChange stripeioPlaysSpec)

/-- ITS FALSE NEIGHBOUR: 'it returns false'. Refute it at one input. -/
def stripeioPlaysWrong : ChangeSpec := { name := "stripeioPlays", fn := fun _ => fun
  | [d1, d2, d3] => { results := [.lit (.bool false)], args := [d1, d2, d3] }
  | _ => none }
def StripeioPlaysWrongFalsely : Prop := stripeioPlaysRow.holds Tryz.pinned (OpenSpec.ofChange stripeioPlaysWrong)

/- THE SECOND FORM. 'bulk': how many values and letters a reading holds, each counted each time it is reached (what is shared counts as often as it is met; a slice's spare places count too). A statement '..UptoSaid' is the law's where the arguments, and the package variables that the reading takes, are together of bulk at most 1048576: NARROWER than '..Said'. Prove '..Said' where nothing that the law and all that it calls make is longer than what came in: it says more and counts as full. Else prove '..UptoSaid'. A law counts once. -/
mutual
def uptoBulk {H : Type} : DataW H → Nat
  | .lit (.string bytes) => bytes.length + 1
  | .lit _ => 1
  | .nil => 1
  | .ptr d => uptoBulk d + 1
  | .slice elems spare => uptoBulkAll elems + uptoBulkAll spare + 1
  | .agg parts => uptoBulkAll parts + 1
  | .iface _ d => uptoBulk d + 1
  | .map entries => uptoBulkEntries entries + 1
  | .held _ => 1
def uptoBulkAll {H : Type} : List (DataW H) → Nat
  | [] => 0
  | d :: r => uptoBulk d + uptoBulkAll r
def uptoBulkEntries {H : Type} : List (Lit × DataW H) → Nat
  | [] => 0
  | x :: r => uptoBulkEntry x + uptoBulkEntries r
def uptoBulkEntry {H : Type} : Lit × DataW H → Nat
  | (.string bytes, d) => bytes.length + uptoBulk d + 1
  | (_, d) => uptoBulk d + 1
 end
def uptoSmall : (H : Type) → List (DataW H) → Bool := fun _ ds => decide (uptoBulkAll ds ≤ 1048576)
def OpenSpec.upto (s : _root_.Go.ChangeSpec) : _root_.Go.OpenSpec := { _root_.Go.OpenSpec.ofChange s with cond := some uptoSmall }

/-- 'aumbrylaw15.StripeioNames', WHERE WHAT IT READS IS OF BULK AT MOST 1048576: true; the input reads as it did. -/
def stripeioNamesUptoRow : OpenClaim := { program := "ytkolafpgbhpdlaagreat", sum := "4dd903e3cb3c7d0ee5a8fd6f31510bde8195240801990481dbd3063a8c3ea83a", func := "aumbry/aumbrylaw15.StripeioNames", spec := "stripeioNames", inPlace := ["internal/bytealg.MakeNoZero"], unfollowed := true, recurses := true, apart := false, narrowed := true }
def StripeioNamesUptoSaid : Prop := stripeioNamesUptoRow.holds Tryz.pinned (OpenSpec.upto stripeioNamesSpec)

/-- 'aumbrylaw15.StripeioNil', WHERE WHAT IT READS IS OF BULK AT MOST 1048576: true; the input reads as it did. -/
def stripeioNilUptoRow : OpenClaim := { program := "ytkolafpgbhpdlaagreat", sum := "4dd903e3cb3c7d0ee5a8fd6f31510bde8195240801990481dbd3063a8c3ea83a", func := "aumbry/aumbrylaw15.StripeioNil", spec := "stripeioNil", inPlace := ["internal/bytealg.MakeNoZero"], unfollowed := true, recurses := true, apart := false, narrowed := true }
def StripeioNilUptoSaid : Prop := stripeioNilUptoRow.holds Tryz.pinned (OpenSpec.upto stripeioNilSpec)

/-- 'aumbrylaw15.StripeioEpochs', WHERE WHAT IT READS IS OF BULK AT MOST 1048576: true; the input reads as it did. -/
def stripeioEpochsUptoRow : OpenClaim := { program := "ytkolafpgbhpdlaagreat", sum := "4dd903e3cb3c7d0ee5a8fd6f31510bde8195240801990481dbd3063a8c3ea83a", func := "aumbry/aumbrylaw15.StripeioEpochs", spec := "stripeioEpochs", inPlace := ["internal/bytealg.MakeNoZero"], unfollowed := true, recurses := true, apart := false, narrowed := true }
def StripeioEpochsUptoSaid : Prop := stripeioEpochsUptoRow.holds Tryz.pinned (OpenSpec.upto stripeioEpochsSpec)

/-- 'aumbrylaw15.StripeioBack', WHERE WHAT IT READS IS OF BULK AT MOST 1048576: true; the input reads as it did. -/
def stripeioBackUptoRow : OpenClaim := { program := "ytkolafpgbhpdlaagreat", sum := "4dd903e3cb3c7d0ee5a8fd6f31510bde8195240801990481dbd3063a8c3ea83a", func := "aumbry/aumbrylaw15.StripeioBack", spec := "stripeioBack", inPlace := ["internal/bytealg.MakeNoZero"], unfollowed := true, recurses := true, apart := false, narrowed := true }
def StripeioBackUptoSaid : Prop := stripeioBackUptoRow.holds Tryz.pinned (OpenSpec.upto stripeioBackSpec)

/-- 'aumbrylaw15.StripeioApart', WHERE WHAT IT READS IS OF BULK AT MOST 1048576: true; the input reads as it did. -/
def stripeioApartUptoRow : OpenClaim := { program := "ytkolafpgbhpdlaagreat", sum := "4dd903e3cb3c7d0ee5a8fd6f31510bde8195240801990481dbd3063a8c3ea83a", func := "aumbry/aumbrylaw15.StripeioApart", spec := "stripeioApart", inPlace := ["internal/bytealg.MakeNoZero"], unfollowed := true, recurses := true, apart := false, narrowed := true }
def StripeioApartUptoSaid : Prop := stripeioApartUptoRow.holds Tryz.pinned (OpenSpec.upto stripeioApartSpec)

/-- 'aumbrylaw15.StripeioPlays', WHERE WHAT IT READS IS OF BULK AT MOST 1048576: true; the input reads as it did. -/
def stripeioPlaysUptoRow : OpenClaim := { program := "ytkolafpgbhpdlaagreat", sum := "4dd903e3cb3c7d0ee5a8fd6f31510bde8195240801990481dbd3063a8c3ea83a", func := "aumbry/aumbrylaw15.StripeioPlays", spec := "stripeioPlays", inPlace := ["internal/bytealg.MakeNoZero"], unfollowed := true, recurses := true, apart := false, narrowed := true }
def StripeioPlaysUptoSaid : Prop := stripeioPlaysUptoRow.holds Tryz.pinned (OpenSpec.upto stripeioPlaysSpec)

end Rows
end Go.Proofs.YtkolafpgbhpdlaaGreat
