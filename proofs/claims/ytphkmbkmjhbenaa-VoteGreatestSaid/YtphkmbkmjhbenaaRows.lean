/-
  No cell of these rows narrows 'for every input' (looked for: loops, veiled, ifaces, maps, wideKeys, modest, calm, conditions, laid).
  DERIVED. THE GIVEN ROWS OF THIS SEAT. 4 by the template 'for every input the law returns true; each argument reads behind the call as it read before'; 0 by the template 'total and deterministic' (their statements: YtphkmbkmjhbenaaTotals.lean).
  GIVEN WITH THE SEED: the statements are not yours to turn. If you find one false, say at which input.
  Laid BY PROGRAM, IN A SANDBOX (cutbox-rows.mjs): the forced cells as the released guide's own fill.sh prints them over the translation cfa103026b2e31b3… (all of the seat's roots in one cut). By AI agents, Wed Nov 11 2026. No macro, syntax, notation, axiom, sorry.
-/
import Derived.Test.YtphkmbkmjhbenaaChecked
import GoSem.Claim
import GoSem.ClaimJoined
import GoSem.ClaimMapViews
import Derived.JoinedTies
import Derived.KernelRfl
namespace Go.Proofs.Ytphkmbkmjhbenaa
/- THE CELL 'sum', in the pinned program and in every row, IS THE sha256 OF THE DUMP (.gsa) THAT YtphkmbkmjhbenaaProg.lean LOADS. Nothing in Lean hashes anything: it is a label: what it is worth is what the hold of that sum in a sandbox is worth. -/
noncomputable def Try.pinned : Pinned := { name := "ytphkmbkmjhbenaa", sum := "cfa103026b2e31b316f87fa658cf175d92696e89044621bd789b5faac30900e3", checked := Try.checked }
namespace Rows
def none {H : Type} : Left H := { results := [], args := [] }

/-- 'aumbrylaw17.VoteNil': WHATEVER THE INPUT: true; the input reads as it did. -/
def voteNilSpec : ChangeSpec := { name := "voteNil", fn := fun _ => fun
  | [d1, d2] => { results := [.lit (.bool true)], args := [d1, d2] }
  | _ => none }
def voteNilRow : OpenClaim := { program := "ytphkmbkmjhbenaa", sum := "cfa103026b2e31b316f87fa658cf175d92696e89044621bd789b5faac30900e3", func := "aumbry/aumbrylaw17.VoteNil", spec := "voteNil", unfollowed := true, recurses := true, plainKeys := false, apart := false }
def VoteNilSaid : Prop := voteNilRow.holds Try.pinned (OpenSpec.ofChange voteNilSpec)

/-- ITS FALSE NEIGHBOUR: 'it returns false'. Refute it at one input. -/
def voteNilWrong : ChangeSpec := { name := "voteNil", fn := fun _ => fun
  | [d1, d2] => { results := [.lit (.bool false)], args := [d1, d2] }
  | _ => none }
def VoteNilWrongFalsely : Prop := voteNilRow.holds Try.pinned (OpenSpec.ofChange voteNilWrong)

/-- 'aumbrylaw17.VoteGreatest': WHATEVER THE INPUT: true; the input reads as it did. -/
def voteGreatestSpec : ChangeSpec := { name := "voteGreatest", fn := fun _ => fun
  | [d1, d2, d3] => { results := [.lit (.bool true)], args := [d1, d2, d3] }
  | _ => none }
def voteGreatestRow : OpenClaim := { program := "ytphkmbkmjhbenaa", sum := "cfa103026b2e31b316f87fa658cf175d92696e89044621bd789b5faac30900e3", func := "aumbry/aumbrylaw17.VoteGreatest", spec := "voteGreatest", unfollowed := true, recurses := true, plainKeys := false, apart := false }
def VoteGreatestSaid : Prop := voteGreatestRow.holds Try.pinned (OpenSpec.ofChange voteGreatestSpec)

/-- ITS FALSE NEIGHBOUR: 'it returns false'. Refute it at one input. -/
def voteGreatestWrong : ChangeSpec := { name := "voteGreatest", fn := fun _ => fun
  | [d1, d2, d3] => { results := [.lit (.bool false)], args := [d1, d2, d3] }
  | _ => none }
def VoteGreatestWrongFalsely : Prop := voteGreatestRow.holds Try.pinned (OpenSpec.ofChange voteGreatestWrong)

/-- 'aumbrylaw17.VoteKnows': WHATEVER THE INPUT: true; the input reads as it did. -/
def voteKnowsSpec : ChangeSpec := { name := "voteKnows", fn := fun _ => fun
  | [d1, d2, d3, d4] => { results := [.lit (.bool true)], args := [d1, d2, d3, d4] }
  | _ => none }
def voteKnowsRow : OpenClaim := { program := "ytphkmbkmjhbenaa", sum := "cfa103026b2e31b316f87fa658cf175d92696e89044621bd789b5faac30900e3", func := "aumbry/aumbrylaw17.VoteKnows", spec := "voteKnows", unfollowed := true, recurses := true, plainKeys := false, apart := false }
def VoteKnowsSaid : Prop := voteKnowsRow.holds Try.pinned (OpenSpec.ofChange voteKnowsSpec)

/-- ITS FALSE NEIGHBOUR: 'it returns false'. Refute it at one input. -/
def voteKnowsWrong : ChangeSpec := { name := "voteKnows", fn := fun _ => fun
  | [d1, d2, d3, d4] => { results := [.lit (.bool false)], args := [d1, d2, d3, d4] }
  | _ => none }
def VoteKnowsWrongFalsely : Prop := voteKnowsRow.holds Try.pinned (OpenSpec.ofChange voteKnowsWrong)

/-- 'aumbrylaw17.VoteTwice': WHATEVER THE INPUT: true; the input reads as it did. -/
def voteTwiceSpec : ChangeSpec := { name := "voteTwice", fn := fun _ => fun
  | [d1, d2, d3] => { results := [.lit (.bool true)], args := [d1, d2, d3] }
  | _ => none }
def voteTwiceRow : OpenClaim := { program := "ytphkmbkmjhbenaa", sum := "cfa103026b2e31b316f87fa658cf175d92696e89044621bd789b5faac30900e3", func := "aumbry/aumbrylaw17.VoteTwice", spec := "voteTwice", unfollowed := true, recurses := true, plainKeys := false, apart := false }
def VoteTwiceSaid : Prop := voteTwiceRow.holds Try.pinned (OpenSpec.ofChange voteTwiceSpec)

/-- ITS FALSE NEIGHBOUR: 'it returns false'. Refute it at one input. -/
def voteTwiceWrong : ChangeSpec := { name := "voteTwice", fn := fun _ => fun
  | [d1, d2, d3] => { results := [.lit (.bool false)], args := [d1, d2, d3] }
  | _ => none }
def VoteTwiceWrongFalsely : Prop := voteTwiceRow.holds Try.pinned (OpenSpec.ofChange voteTwiceWrong)

/- THE SECOND FORM. 'bulk': how many values and letters a reading holds, each counted each time it is reached (what is shared counts as often as it is met; a slice's spare places count too). A statement '..UptoSaid' is the law's where the arguments, and the package variables that the reading takes, are together of bulk at most 1048576: NARROWER than '..Said'. Prove '..Said' where nothing that the law and all that it calls make is longer than what came in: it says more and counts as full. Else prove '..UptoSaid'. A law counts once. -/
mutual
def uptoBulk {H : Type} : DataW H → Nat
  | .lit (.string bytes) => bytes.length + 1
  | .lit _ => 1
  | .nil => 1
  | .ptr d => uptoBulk d + 1
  | .slice elems spare => uptoBulkAll elems + uptoBulkAll spare + 1
  | .agg parts => uptoBulkAll parts + 1
  | .iface _ d => uptoBulk d + 1
  | .map entries => uptoBulkEntries entries + 1
  | .held _ => 1
def uptoBulkAll {H : Type} : List (DataW H) → Nat
  | [] => 0
  | d :: r => uptoBulk d + uptoBulkAll r
def uptoBulkEntries {H : Type} : List (Lit × DataW H) → Nat
  | [] => 0
  | x :: r => uptoBulkEntry x + uptoBulkEntries r
def uptoBulkEntry {H : Type} : Lit × DataW H → Nat
  | (.string bytes, d) => bytes.length + uptoBulk d + 1
  | (_, d) => uptoBulk d + 1
 end
def uptoSmall : (H : Type) → List (DataW H) → Bool := fun _ ds => decide (uptoBulkAll ds ≤ 1048576)
def OpenSpec.upto (s : _root_.Go.ChangeSpec) : _root_.Go.OpenSpec := { _root_.Go.OpenSpec.ofChange s with cond := some uptoSmall }

/-- 'aumbrylaw17.VoteNil', WHERE WHAT IT READS IS OF BULK AT MOST 1048576: true; the input reads as it did. -/
def voteNilUptoRow : OpenClaim := { program := "ytphkmbkmjhbenaa", sum := "cfa103026b2e31b316f87fa658cf175d92696e89044621bd789b5faac30900e3", func := "aumbry/aumbrylaw17.VoteNil", spec := "voteNil", unfollowed := true, recurses := true, plainKeys := false, apart := false, narrowed := true }
def VoteNilUptoSaid : Prop := voteNilUptoRow.holds Try.pinned (OpenSpec.upto voteNilSpec)

/-- 'aumbrylaw17.VoteGreatest', WHERE WHAT IT READS IS OF BULK AT MOST 1048576: true; the input reads as it did. -/
def voteGreatestUptoRow : OpenClaim := { program := "ytphkmbkmjhbenaa", sum := "cfa103026b2e31b316f87fa658cf175d92696e89044621bd789b5faac30900e3", func := "aumbry/aumbrylaw17.VoteGreatest", spec := "voteGreatest", unfollowed := true, recurses := true, plainKeys := false, apart := false, narrowed := true }
def VoteGreatestUptoSaid : Prop := voteGreatestUptoRow.holds Try.pinned (OpenSpec.upto voteGreatestSpec)

/-- 'aumbrylaw17.VoteKnows', WHERE WHAT IT READS IS OF BULK AT MOST 1048576: true; the input reads as it did. -/
def voteKnowsUptoRow : OpenClaim := { program := "ytphkmbkmjhbenaa", sum := "cfa103026b2e31b316f87fa658cf175d92696e89044621bd789b5faac30900e3", func := "aumbry/aumbrylaw17.VoteKnows", spec := "voteKnows", unfollowed := true, recurses := true, plainKeys := false, apart := false, narrowed := true }
def VoteKnowsUptoSaid : Prop := voteKnowsUptoRow.holds Try.pinned (OpenSpec.upto voteKnowsSpec)

/-- 'aumbrylaw17.VoteTwice', WHERE WHAT IT READS IS OF BULK AT MOST 1048576: true; the input reads as it did. -/
def voteTwiceUptoRow : OpenClaim := { program := "ytphkmbkmjhbenaa", sum := "cfa103026b2e31b316f87fa658cf175d92696e89044621bd789b5faac30900e3", func := "aumbry/aumbrylaw17.VoteTwice", spec := "voteTwice", unfollowed := true, recurses := true, plainKeys := false, apart := false, narrowed := true }
def VoteTwiceUptoSaid : Prop := voteTwiceUptoRow.holds Try.pinned (OpenSpec.upto voteTwiceSpec)

end Rows
end Go.Proofs.Ytphkmbkmjhbenaa
