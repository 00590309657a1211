/- A part of the proof of a law about rosters over an abstract machine. No condition. -/
import Derived.Test.YtngcjhiflplkbaaALMain
import Derived.Test.YtngcjhiflplkbaaProg
import Derived.Tactics
namespace Ro
open Go Go.AL Go.Proofs

def li (ms : List Int) : List T := ms.map .i
def ls (v : UInt64) (ms : List Int) : T := .agg [.u64 v, .sl .lf (li ms)]

/-! ## Right -/
def badAt (ms : List Int) (i : Nat) : Bool := decide (ms.getD i 0 < 0) || decide (ms.getD i 0 ≥ 8) || (decide (0 < i) && decide (ms.getD (i - 1) 0 ≥ ms.getD i 0))
def okTo (ms : List Int) (n : Nat) : Bool := (List.range n).all fun i => !badAt ms i
def rightB (v : UInt64) (ms : List Int) : Bool := !decide (v < 1) && !decide (1099511627776 < v) && !decide (ms.length < 1) && !decide (8 < ms.length) && okTo ms ms.length

def noO : Orc2 := ⟨⟨fun _ => []⟩, fun _ => .unroll 0⟩
def O112 (ms : List Int) : Orc2 := ⟨⟨fun _ => []⟩, fun _ => .inv Nat 0 (fun i => i ≤ ms.length ∧ okTo ms i = true) (fun i => ms.length - i) [] (fun i => [(28, .i i)]) [1, 26, 27] (fun _ => []) [1]
  (fun i k => match k with
    | 31 => [.i (ms.getD i 0)]
    | 47 => [.i (ms.getD (i - 1) 0)]
    | _ => []) (fun _ _ => .unroll 0)⟩
end Ro
