/-
  No cell of these rows narrows 'for every input' (looked for: loops, veiled, ifaces, maps, wideKeys, modest, calm, conditions, laid).
  DERIVED. THE GIVEN ROWS OF THIS SEAT. 13 by the template 'for every input the law returns true; each argument reads behind the call as it read before'; 0 by the template 'total and deterministic' (their statements: YtngcjhiflplkbaaTotals.lean).
  GIVEN WITH THE SEED: the statements are not yours to turn. If you find one false, say at which input.
  Laid BY PROGRAM, IN A SANDBOX (cutbox-rows.mjs): the forced cells as the released guide's own fill.sh prints them over the translation fe006cddc5b9b7a3… (all of the seat's roots in one cut). By AI agents, Wed Nov 11 2026. No macro, syntax, notation, axiom, sorry.
-/
import Derived.Test.YtngcjhiflplkbaaChecked
import GoSem.Claim
import GoSem.ClaimJoined
import GoSem.ClaimMapViews
import Derived.JoinedTies
import Derived.KernelRfl
namespace Go.Proofs.Ytngcjhiflplkbaa
/- THE CELL 'sum', in the pinned program and in every row, IS THE sha256 OF THE DUMP (.gsa) THAT YtngcjhiflplkbaaProg.lean LOADS. Nothing in Lean hashes anything: it is a label: what it is worth is what the hold of that sum in a sandbox is worth. -/
noncomputable def Try.pinned : Pinned := { name := "ytngcjhiflplkbaa", sum := "fe006cddc5b9b7a3815cbbb434db64193bf59afbe105bd76399f6ecda551e63f", checked := Try.checked }
namespace Rows
def none {H : Type} : Left H := { results := [], args := [] }

/-- 'clavigerlaw19.HandoffBack': WHATEVER THE INPUT: true; the input reads as it did. -/
def handoffBackSpec : ChangeSpec := { name := "handoffBack", fn := fun _ => fun
  | [d1, d2, d3, d4, d5, d6] => { results := [.lit (.bool true)], args := [d1, d2, d3, d4, d5, d6] }
  | _ => none }
def handoffBackRow : OpenClaim := { program := "ytngcjhiflplkbaa", sum := "fe006cddc5b9b7a3815cbbb434db64193bf59afbe105bd76399f6ecda551e63f", func := "claviger/clavigerlaw19.HandoffBack", spec := "handoffBack", inPlace := ["internal/bytealg.Compare"], plainKeys := false, apart := false }
def HandoffBackSaid : Prop := handoffBackRow.holds Try.pinned (OpenSpec.ofChange handoffBackSpec)

/-- ITS FALSE NEIGHBOUR: 'it returns false'. Refute it at one input. -/
def handoffBackWrong : ChangeSpec := { name := "handoffBack", fn := fun _ => fun
  | [d1, d2, d3, d4, d5, d6] => { results := [.lit (.bool false)], args := [d1, d2, d3, d4, d5, d6] }
  | _ => none }
def HandoffBackWrongFalsely : Prop := handoffBackRow.holds Try.pinned (OpenSpec.ofChange handoffBackWrong)

/-- 'clavigerlaw10.JournalBack': WHATEVER THE INPUT: true; the input reads as it did. -/
def journalBackSpec : ChangeSpec := { name := "journalBack", fn := fun _ => fun
  | [d1, d2] => { results := [.lit (.bool true)], args := [d1, d2] }
  | _ => none }
def journalBackRow : OpenClaim := { program := "ytngcjhiflplkbaa", sum := "fe006cddc5b9b7a3815cbbb434db64193bf59afbe105bd76399f6ecda551e63f", func := "claviger/clavigerlaw10.JournalBack", spec := "journalBack", inPlace := ["internal/bytealg.Compare"], plainKeys := false, apart := false }
def JournalBackSaid : Prop := journalBackRow.holds Try.pinned (OpenSpec.ofChange journalBackSpec)

/-- ITS FALSE NEIGHBOUR: 'it returns false'. Refute it at one input. -/
def journalBackWrong : ChangeSpec := { name := "journalBack", fn := fun _ => fun
  | [d1, d2] => { results := [.lit (.bool false)], args := [d1, d2] }
  | _ => none }
def JournalBackWrongFalsely : Prop := journalBackRow.holds Try.pinned (OpenSpec.ofChange journalBackWrong)

/-- 'clavigerlaw16.StateLends': WHATEVER THE INPUT: true; the input reads as it did. -/
def stateLendsSpec : ChangeSpec := { name := "stateLends", fn := fun _ => fun
  | [d1, d2] => { results := [.lit (.bool true)], args := [d1, d2] }
  | _ => none }
def stateLendsRow : OpenClaim := { program := "ytngcjhiflplkbaa", sum := "fe006cddc5b9b7a3815cbbb434db64193bf59afbe105bd76399f6ecda551e63f", func := "claviger/clavigerlaw16.StateLends", spec := "stateLends", inPlace := ["internal/bytealg.Compare", "slices.overlaps[claviger/api.Vault]"], unfollowed := true, recurses := true, plainKeys := false, apart := false }
def StateLendsSaid : Prop := stateLendsRow.holds Try.pinned (OpenSpec.ofChange stateLendsSpec)

/-- ITS FALSE NEIGHBOUR: 'it returns false'. Refute it at one input. -/
def stateLendsWrong : ChangeSpec := { name := "stateLends", fn := fun _ => fun
  | [d1, d2] => { results := [.lit (.bool false)], args := [d1, d2] }
  | _ => none }
def StateLendsWrongFalsely : Prop := stateLendsRow.holds Try.pinned (OpenSpec.ofChange stateLendsWrong)

/-- 'clavigerlaw16.StateKeeps': WHATEVER THE INPUT: true; the input reads as it did. -/
def stateKeepsSpec : ChangeSpec := { name := "stateKeeps", fn := fun _ => fun
  | [d] => { results := [.lit (.bool true)], args := [d] }
  | _ => none }
def stateKeepsRow : OpenClaim := { program := "ytngcjhiflplkbaa", sum := "fe006cddc5b9b7a3815cbbb434db64193bf59afbe105bd76399f6ecda551e63f", func := "claviger/clavigerlaw16.StateKeeps", spec := "stateKeeps", inPlace := ["internal/bytealg.Compare", "slices.overlaps[claviger/api.Vault]"], unfollowed := true, recurses := true, plainKeys := false, apart := false }
def StateKeepsSaid : Prop := stateKeepsRow.holds Try.pinned (OpenSpec.ofChange stateKeepsSpec)

/-- ITS FALSE NEIGHBOUR: 'it returns false'. Refute it at one input. -/
def stateKeepsWrong : ChangeSpec := { name := "stateKeeps", fn := fun _ => fun
  | [d] => { results := [.lit (.bool false)], args := [d] }
  | _ => none }
def StateKeepsWrongFalsely : Prop := stateKeepsRow.holds Try.pinned (OpenSpec.ofChange stateKeepsWrong)

/-- 'clavigerlaw14.RosterMajorities': WHATEVER THE INPUT: true; the input reads as it did. -/
def rosterMajoritiesSpec : ChangeSpec := { name := "rosterMajorities", fn := fun _ => fun
  | [d1, d2, d3, d4] => { results := [.lit (.bool true)], args := [d1, d2, d3, d4] }
  | _ => none }
def rosterMajoritiesRow : OpenClaim := { program := "ytngcjhiflplkbaa", sum := "fe006cddc5b9b7a3815cbbb434db64193bf59afbe105bd76399f6ecda551e63f", func := "claviger/clavigerlaw14.RosterMajorities", spec := "rosterMajorities", unfollowed := true, recurses := true, plainKeys := false, apart := false }
def RosterMajoritiesSaid : Prop := rosterMajoritiesRow.holds Try.pinned (OpenSpec.ofChange rosterMajoritiesSpec)

/-- ITS FALSE NEIGHBOUR: 'it returns false'. Refute it at one input. -/
def rosterMajoritiesWrong : ChangeSpec := { name := "rosterMajorities", fn := fun _ => fun
  | [d1, d2, d3, d4] => { results := [.lit (.bool false)], args := [d1, d2, d3, d4] }
  | _ => none }
def RosterMajoritiesWrongFalsely : Prop := rosterMajoritiesRow.holds Try.pinned (OpenSpec.ofChange rosterMajoritiesWrong)

/-- 'clavigerlaw14.RosterBack': WHATEVER THE INPUT: true; the input reads as it did. -/
def rosterBackSpec : ChangeSpec := { name := "rosterBack", fn := fun _ => fun
  | [d1, d2, d3] => { results := [.lit (.bool true)], args := [d1, d2, d3] }
  | _ => none }
def rosterBackRow : OpenClaim := { program := "ytngcjhiflplkbaa", sum := "fe006cddc5b9b7a3815cbbb434db64193bf59afbe105bd76399f6ecda551e63f", func := "claviger/clavigerlaw14.RosterBack", spec := "rosterBack", unfollowed := true, recurses := true, plainKeys := false, apart := false }
def RosterBackSaid : Prop := rosterBackRow.holds Try.pinned (OpenSpec.ofChange rosterBackSpec)

/-- ITS FALSE NEIGHBOUR: 'it returns false'. Refute it at one input. -/
def rosterBackWrong : ChangeSpec := { name := "rosterBack", fn := fun _ => fun
  | [d1, d2, d3] => { results := [.lit (.bool false)], args := [d1, d2, d3] }
  | _ => none }
def RosterBackWrongFalsely : Prop := rosterBackRow.holds Try.pinned (OpenSpec.ofChange rosterBackWrong)

/-- 'clavigerlaw14.RosterNumbers': WHATEVER THE INPUT: true; the input reads as it did. -/
def rosterNumbersSpec : ChangeSpec := { name := "rosterNumbers", fn := fun _ => fun
  | [] => { results := [.lit (.bool true)], args := [] }
  | _ => none }
def rosterNumbersRow : OpenClaim := { program := "ytngcjhiflplkbaa", sum := "fe006cddc5b9b7a3815cbbb434db64193bf59afbe105bd76399f6ecda551e63f", func := "claviger/clavigerlaw14.RosterNumbers", spec := "rosterNumbers", unfollowed := true, recurses := true, plainKeys := false, apart := false }
def RosterNumbersSaid : Prop := rosterNumbersRow.holds Try.pinned (OpenSpec.ofChange rosterNumbersSpec)

/-- ITS FALSE NEIGHBOUR: 'it returns false'. Refute it at one input. -/
def rosterNumbersWrong : ChangeSpec := { name := "rosterNumbers", fn := fun _ => fun
  | [] => { results := [.lit (.bool false)], args := [] }
  | _ => none }
def RosterNumbersWrongFalsely : Prop := rosterNumbersRow.holds Try.pinned (OpenSpec.ofChange rosterNumbersWrong)

/-- 'clavigerlaw14.RosterTells': WHATEVER THE INPUT: true; the input reads as it did. -/
def rosterTellsSpec : ChangeSpec := { name := "rosterTells", fn := fun _ => fun
  | [d1, d2, d3, d4, d5, d6] => { results := [.lit (.bool true)], args := [d1, d2, d3, d4, d5, d6] }
  | _ => none }
def rosterTellsRow : OpenClaim := { program := "ytngcjhiflplkbaa", sum := "fe006cddc5b9b7a3815cbbb434db64193bf59afbe105bd76399f6ecda551e63f", func := "claviger/clavigerlaw14.RosterTells", spec := "rosterTells", unfollowed := true, recurses := true, plainKeys := false, apart := false }
def RosterTellsSaid : Prop := rosterTellsRow.holds Try.pinned (OpenSpec.ofChange rosterTellsSpec)

/-- ITS FALSE NEIGHBOUR: 'it returns false'. Refute it at one input. -/
def rosterTellsWrong : ChangeSpec := { name := "rosterTells", fn := fun _ => fun
  | [d1, d2, d3, d4, d5, d6] => { results := [.lit (.bool false)], args := [d1, d2, d3, d4, d5, d6] }
  | _ => none }
def RosterTellsWrongFalsely : Prop := rosterTellsRow.holds Try.pinned (OpenSpec.ofChange rosterTellsWrong)

/-- 'clavigerlaw16.StateEpochs': WHATEVER THE INPUT: true; the input reads as it did. -/
def stateEpochsSpec : ChangeSpec := { name := "stateEpochs", fn := fun _ => fun
  | [d] => { results := [.lit (.bool true)], args := [d] }
  | _ => none }
def stateEpochsRow : OpenClaim := { program := "ytngcjhiflplkbaa", sum := "fe006cddc5b9b7a3815cbbb434db64193bf59afbe105bd76399f6ecda551e63f", func := "claviger/clavigerlaw16.StateEpochs", spec := "stateEpochs", inPlace := ["internal/bytealg.Compare", "slices.overlaps[claviger/api.Vault]"], unfollowed := true, recurses := true, plainKeys := false, apart := false }
def StateEpochsSaid : Prop := stateEpochsRow.holds Try.pinned (OpenSpec.ofChange stateEpochsSpec)

/-- ITS FALSE NEIGHBOUR: 'it returns false'. Refute it at one input. -/
def stateEpochsWrong : ChangeSpec := { name := "stateEpochs", fn := fun _ => fun
  | [d] => { results := [.lit (.bool false)], args := [d] }
  | _ => none }
def StateEpochsWrongFalsely : Prop := stateEpochsRow.holds Try.pinned (OpenSpec.ofChange stateEpochsWrong)

/-- 'clavigerlaw16.StateNumbers': WHATEVER THE INPUT: true; the input reads as it did. -/
def stateNumbersSpec : ChangeSpec := { name := "stateNumbers", fn := fun _ => fun
  | [] => { results := [.lit (.bool true)], args := [] }
  | _ => none }
def stateNumbersRow : OpenClaim := { program := "ytngcjhiflplkbaa", sum := "fe006cddc5b9b7a3815cbbb434db64193bf59afbe105bd76399f6ecda551e63f", func := "claviger/clavigerlaw16.StateNumbers", spec := "stateNumbers", inPlace := ["internal/bytealg.Compare", "slices.overlaps[claviger/api.Vault]"], unfollowed := true, recurses := true, plainKeys := false, apart := false }
def StateNumbersSaid : Prop := stateNumbersRow.holds Try.pinned (OpenSpec.ofChange stateNumbersSpec)

/-- ITS FALSE NEIGHBOUR: 'it returns false'. Refute it at one input. -/
def stateNumbersWrong : ChangeSpec := { name := "stateNumbers", fn := fun _ => fun
  | [] => { results := [.lit (.bool false)], args := [] }
  | _ => none }
def StateNumbersWrongFalsely : Prop := stateNumbersRow.holds Try.pinned (OpenSpec.ofChange stateNumbersWrong)

/-- 'clavigerlaw16.StatePlays': WHATEVER THE INPUT: true; the input reads as it did. -/
def statePlaysSpec : ChangeSpec := { name := "statePlays", fn := fun _ => fun
  | [d1, d2, d3] => { results := [.lit (.bool true)], args := [d1, d2, d3] }
  | _ => none }
def statePlaysRow : OpenClaim := { program := "ytngcjhiflplkbaa", sum := "fe006cddc5b9b7a3815cbbb434db64193bf59afbe105bd76399f6ecda551e63f", func := "claviger/clavigerlaw16.StatePlays", spec := "statePlays", inPlace := ["internal/bytealg.Compare", "slices.overlaps[claviger/api.Vault]"], unfollowed := true, recurses := true, plainKeys := false, apart := false }
def StatePlaysSaid : Prop := statePlaysRow.holds Try.pinned (OpenSpec.ofChange statePlaysSpec)

/-- ITS FALSE NEIGHBOUR: 'it returns false'. Refute it at one input. -/
def statePlaysWrong : ChangeSpec := { name := "statePlays", fn := fun _ => fun
  | [d1, d2, d3] => { results := [.lit (.bool false)], args := [d1, d2, d3] }
  | _ => none }
def StatePlaysWrongFalsely : Prop := statePlaysRow.holds Try.pinned (OpenSpec.ofChange statePlaysWrong)

/-- 'clavigerlaw15.EndorseMajority': WHATEVER THE INPUT: true; the input reads as it did. -/
def endorseMajoritySpec : ChangeSpec := { name := "endorseMajority", fn := fun _ => fun
  | [d1, d2, d3, d4] => { results := [.lit (.bool true)], args := [d1, d2, d3, d4] }
  | _ => none }
def endorseMajorityRow : OpenClaim := { program := "ytngcjhiflplkbaa", sum := "fe006cddc5b9b7a3815cbbb434db64193bf59afbe105bd76399f6ecda551e63f", func := "claviger/clavigerlaw15.EndorseMajority", spec := "endorseMajority", recurses := true, plainKeys := false, apart := false }
def EndorseMajoritySaid : Prop := endorseMajorityRow.holds Try.pinned (OpenSpec.ofChange endorseMajoritySpec)

/-- ITS FALSE NEIGHBOUR: 'it returns false'. Refute it at one input. -/
def endorseMajorityWrong : ChangeSpec := { name := "endorseMajority", fn := fun _ => fun
  | [d1, d2, d3, d4] => { results := [.lit (.bool false)], args := [d1, d2, d3, d4] }
  | _ => none }
def EndorseMajorityWrongFalsely : Prop := endorseMajorityRow.holds Try.pinned (OpenSpec.ofChange endorseMajorityWrong)

/-- 'clavigerlaw19.HandoffOf': WHATEVER THE INPUT: true; the input reads as it did. -/
def handoffOfSpec : ChangeSpec := { name := "handoffOf", fn := fun _ => fun
  | [d1, d2, d3] => { results := [.lit (.bool true)], args := [d1, d2, d3] }
  | _ => none }
def handoffOfRow : OpenClaim := { program := "ytngcjhiflplkbaa", sum := "fe006cddc5b9b7a3815cbbb434db64193bf59afbe105bd76399f6ecda551e63f", func := "claviger/clavigerlaw19.HandoffOf", spec := "handoffOf", inPlace := ["internal/bytealg.Compare", "slices.overlaps[claviger/api.Vault]"], unfollowed := true, recurses := true, plainKeys := false, apart := false }
def HandoffOfSaid : Prop := handoffOfRow.holds Try.pinned (OpenSpec.ofChange handoffOfSpec)

/-- ITS FALSE NEIGHBOUR: 'it returns false'. Refute it at one input. -/
def handoffOfWrong : ChangeSpec := { name := "handoffOf", fn := fun _ => fun
  | [d1, d2, d3] => { results := [.lit (.bool false)], args := [d1, d2, d3] }
  | _ => none }
def HandoffOfWrongFalsely : Prop := handoffOfRow.holds Try.pinned (OpenSpec.ofChange handoffOfWrong)

/- THE SECOND FORM. 'bulk': how many values and letters a reading holds, each counted each time it is reached (what is shared counts as often as it is met; a slice's spare places count too). A statement '..UptoSaid' is the law's where the arguments, and the package variables that the reading takes, are together of bulk at most 1048576: NARROWER than '..Said'. Prove '..Said' where nothing that the law and all that it calls make is longer than what came in: it says more and counts as full. Else prove '..UptoSaid'. A law counts once. -/
mutual
def uptoBulk {H : Type} : DataW H → Nat
  | .lit (.string bytes) => bytes.length + 1
  | .lit _ => 1
  | .nil => 1
  | .ptr d => uptoBulk d + 1
  | .slice elems spare => uptoBulkAll elems + uptoBulkAll spare + 1
  | .agg parts => uptoBulkAll parts + 1
  | .iface _ d => uptoBulk d + 1
  | .map entries => uptoBulkEntries entries + 1
  | .held _ => 1
def uptoBulkAll {H : Type} : List (DataW H) → Nat
  | [] => 0
  | d :: r => uptoBulk d + uptoBulkAll r
def uptoBulkEntries {H : Type} : List (Lit × DataW H) → Nat
  | [] => 0
  | x :: r => uptoBulkEntry x + uptoBulkEntries r
def uptoBulkEntry {H : Type} : Lit × DataW H → Nat
  | (.string bytes, d) => bytes.length + uptoBulk d + 1
  | (_, d) => uptoBulk d + 1
 end
def uptoSmall : (H : Type) → List (DataW H) → Bool := fun _ ds => decide (uptoBulkAll ds ≤ 1048576)
def OpenSpec.upto (s : _root_.Go.ChangeSpec) : _root_.Go.OpenSpec := { _root_.Go.OpenSpec.ofChange s with cond := some uptoSmall }

/-- 'clavigerlaw19.HandoffBack', WHERE WHAT IT READS IS OF BULK AT MOST 1048576: true; the input reads as it did. -/
def handoffBackUptoRow : OpenClaim := { program := "ytngcjhiflplkbaa", sum := "fe006cddc5b9b7a3815cbbb434db64193bf59afbe105bd76399f6ecda551e63f", func := "claviger/clavigerlaw19.HandoffBack", spec := "handoffBack", inPlace := ["internal/bytealg.Compare"], plainKeys := false, apart := false, narrowed := true }
def HandoffBackUptoSaid : Prop := handoffBackUptoRow.holds Try.pinned (OpenSpec.upto handoffBackSpec)

/-- 'clavigerlaw10.JournalBack', WHERE WHAT IT READS IS OF BULK AT MOST 1048576: true; the input reads as it did. -/
def journalBackUptoRow : OpenClaim := { program := "ytngcjhiflplkbaa", sum := "fe006cddc5b9b7a3815cbbb434db64193bf59afbe105bd76399f6ecda551e63f", func := "claviger/clavigerlaw10.JournalBack", spec := "journalBack", inPlace := ["internal/bytealg.Compare"], plainKeys := false, apart := false, narrowed := true }
def JournalBackUptoSaid : Prop := journalBackUptoRow.holds Try.pinned (OpenSpec.upto journalBackSpec)

/-- 'clavigerlaw16.StateLends', WHERE WHAT IT READS IS OF BULK AT MOST 1048576: true; the input reads as it did. -/
def stateLendsUptoRow : OpenClaim := { program := "ytngcjhiflplkbaa", sum := "fe006cddc5b9b7a3815cbbb434db64193bf59afbe105bd76399f6ecda551e63f", func := "claviger/clavigerlaw16.StateLends", spec := "stateLends", inPlace := ["internal/bytealg.Compare", "slices.overlaps[claviger/api.Vault]"], unfollowed := true, recurses := true, plainKeys := false, apart := false, narrowed := true }
def StateLendsUptoSaid : Prop := stateLendsUptoRow.holds Try.pinned (OpenSpec.upto stateLendsSpec)

/-- 'clavigerlaw16.StateKeeps', WHERE WHAT IT READS IS OF BULK AT MOST 1048576: true; the input reads as it did. -/
def stateKeepsUptoRow : OpenClaim := { program := "ytngcjhiflplkbaa", sum := "fe006cddc5b9b7a3815cbbb434db64193bf59afbe105bd76399f6ecda551e63f", func := "claviger/clavigerlaw16.StateKeeps", spec := "stateKeeps", inPlace := ["internal/bytealg.Compare", "slices.overlaps[claviger/api.Vault]"], unfollowed := true, recurses := true, plainKeys := false, apart := false, narrowed := true }
def StateKeepsUptoSaid : Prop := stateKeepsUptoRow.holds Try.pinned (OpenSpec.upto stateKeepsSpec)

/-- 'clavigerlaw14.RosterMajorities', WHERE WHAT IT READS IS OF BULK AT MOST 1048576: true; the input reads as it did. -/
def rosterMajoritiesUptoRow : OpenClaim := { program := "ytngcjhiflplkbaa", sum := "fe006cddc5b9b7a3815cbbb434db64193bf59afbe105bd76399f6ecda551e63f", func := "claviger/clavigerlaw14.RosterMajorities", spec := "rosterMajorities", unfollowed := true, recurses := true, plainKeys := false, apart := false, narrowed := true }
def RosterMajoritiesUptoSaid : Prop := rosterMajoritiesUptoRow.holds Try.pinned (OpenSpec.upto rosterMajoritiesSpec)

/-- 'clavigerlaw14.RosterBack', WHERE WHAT IT READS IS OF BULK AT MOST 1048576: true; the input reads as it did. -/
def rosterBackUptoRow : OpenClaim := { program := "ytngcjhiflplkbaa", sum := "fe006cddc5b9b7a3815cbbb434db64193bf59afbe105bd76399f6ecda551e63f", func := "claviger/clavigerlaw14.RosterBack", spec := "rosterBack", unfollowed := true, recurses := true, plainKeys := false, apart := false, narrowed := true }
def RosterBackUptoSaid : Prop := rosterBackUptoRow.holds Try.pinned (OpenSpec.upto rosterBackSpec)

/-- 'clavigerlaw14.RosterNumbers', WHERE WHAT IT READS IS OF BULK AT MOST 1048576: true; the input reads as it did. -/
def rosterNumbersUptoRow : OpenClaim := { program := "ytngcjhiflplkbaa", sum := "fe006cddc5b9b7a3815cbbb434db64193bf59afbe105bd76399f6ecda551e63f", func := "claviger/clavigerlaw14.RosterNumbers", spec := "rosterNumbers", unfollowed := true, recurses := true, plainKeys := false, apart := false, narrowed := true }
def RosterNumbersUptoSaid : Prop := rosterNumbersUptoRow.holds Try.pinned (OpenSpec.upto rosterNumbersSpec)

/-- 'clavigerlaw14.RosterTells', WHERE WHAT IT READS IS OF BULK AT MOST 1048576: true; the input reads as it did. -/
def rosterTellsUptoRow : OpenClaim := { program := "ytngcjhiflplkbaa", sum := "fe006cddc5b9b7a3815cbbb434db64193bf59afbe105bd76399f6ecda551e63f", func := "claviger/clavigerlaw14.RosterTells", spec := "rosterTells", unfollowed := true, recurses := true, plainKeys := false, apart := false, narrowed := true }
def RosterTellsUptoSaid : Prop := rosterTellsUptoRow.holds Try.pinned (OpenSpec.upto rosterTellsSpec)

/-- 'clavigerlaw16.StateEpochs', WHERE WHAT IT READS IS OF BULK AT MOST 1048576: true; the input reads as it did. -/
def stateEpochsUptoRow : OpenClaim := { program := "ytngcjhiflplkbaa", sum := "fe006cddc5b9b7a3815cbbb434db64193bf59afbe105bd76399f6ecda551e63f", func := "claviger/clavigerlaw16.StateEpochs", spec := "stateEpochs", inPlace := ["internal/bytealg.Compare", "slices.overlaps[claviger/api.Vault]"], unfollowed := true, recurses := true, plainKeys := false, apart := false, narrowed := true }
def StateEpochsUptoSaid : Prop := stateEpochsUptoRow.holds Try.pinned (OpenSpec.upto stateEpochsSpec)

/-- 'clavigerlaw16.StateNumbers', WHERE WHAT IT READS IS OF BULK AT MOST 1048576: true; the input reads as it did. -/
def stateNumbersUptoRow : OpenClaim := { program := "ytngcjhiflplkbaa", sum := "fe006cddc5b9b7a3815cbbb434db64193bf59afbe105bd76399f6ecda551e63f", func := "claviger/clavigerlaw16.StateNumbers", spec := "stateNumbers", inPlace := ["internal/bytealg.Compare", "slices.overlaps[claviger/api.Vault]"], unfollowed := true, recurses := true, plainKeys := false, apart := false, narrowed := true }
def StateNumbersUptoSaid : Prop := stateNumbersUptoRow.holds Try.pinned (OpenSpec.upto stateNumbersSpec)

/-- 'clavigerlaw16.StatePlays', WHERE WHAT IT READS IS OF BULK AT MOST 1048576: true; the input reads as it did. -/
def statePlaysUptoRow : OpenClaim := { program := "ytngcjhiflplkbaa", sum := "fe006cddc5b9b7a3815cbbb434db64193bf59afbe105bd76399f6ecda551e63f", func := "claviger/clavigerlaw16.StatePlays", spec := "statePlays", inPlace := ["internal/bytealg.Compare", "slices.overlaps[claviger/api.Vault]"], unfollowed := true, recurses := true, plainKeys := false, apart := false, narrowed := true }
def StatePlaysUptoSaid : Prop := statePlaysUptoRow.holds Try.pinned (OpenSpec.upto statePlaysSpec)

/-- 'clavigerlaw15.EndorseMajority', WHERE WHAT IT READS IS OF BULK AT MOST 1048576: true; the input reads as it did. -/
def endorseMajorityUptoRow : OpenClaim := { program := "ytngcjhiflplkbaa", sum := "fe006cddc5b9b7a3815cbbb434db64193bf59afbe105bd76399f6ecda551e63f", func := "claviger/clavigerlaw15.EndorseMajority", spec := "endorseMajority", recurses := true, plainKeys := false, apart := false, narrowed := true }
def EndorseMajorityUptoSaid : Prop := endorseMajorityUptoRow.holds Try.pinned (OpenSpec.upto endorseMajoritySpec)

/-- 'clavigerlaw19.HandoffOf', WHERE WHAT IT READS IS OF BULK AT MOST 1048576: true; the input reads as it did. -/
def handoffOfUptoRow : OpenClaim := { program := "ytngcjhiflplkbaa", sum := "fe006cddc5b9b7a3815cbbb434db64193bf59afbe105bd76399f6ecda551e63f", func := "claviger/clavigerlaw19.HandoffOf", spec := "handoffOf", inPlace := ["internal/bytealg.Compare", "slices.overlaps[claviger/api.Vault]"], unfollowed := true, recurses := true, plainKeys := false, apart := false, narrowed := true }
def HandoffOfUptoSaid : Prop := handoffOfUptoRow.holds Try.pinned (OpenSpec.upto handoffOfSpec)

end Rows
end Go.Proofs.Ytngcjhiflplkbaa
