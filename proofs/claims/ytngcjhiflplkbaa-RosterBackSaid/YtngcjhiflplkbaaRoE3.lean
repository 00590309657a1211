/- A part of the proof of a law about rosters over an abstract machine. No condition. -/
import Derived.Test.YtngcjhiflplkbaaRoP4
namespace Ro
open Go Go.AL Go.Proofs
def knownB : Bool :=
  let m := withL 1 [0, 2, 5] 3
  let n := withoutL 1 [4] 4
  rightB 1 [0, 2, 5] && m.2.2 && (m.1 == 2) && (m.2.1 == [0, 2, 3, 5]) && followsB 1 [0, 2, 5] m.1 m.2.1 && !followsB 1 [0, 2, 5] 1 [0, 2, 5] && !n.2.2 && true && hasB 1 [0, 2, 5] 5
def s50 (args : List T) (ins : List Cont) : Option (Prop × T × List Cont) := match args, ins with
  | [], [] => some (True, .b true, [])
  | _, _ => none
def e50 : Ent := ⟨50, false, s50⟩
end Ro
