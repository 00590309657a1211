/- A part of the proof of a law about rosters over an abstract machine. No condition. -/
import Derived.Test.YtngcjhiflplkbaaRoS
namespace Ro
open Go Go.AL Go.Proofs

def s117 (args : List T) (ins : List Cont) : Option (Prop × T × List Cont) := match args, ins with
  | [.i n, .pt (.i m)], [] => some (True, .b (n == m), [])
  | _, _ => none
def e117 : Ent := ⟨117, false, s117⟩

def O167 (ms : List Int) (k : Int) : Orc2 := ⟨⟨fun _ => []⟩, fun _ => .inv Nat 0 (fun i => i ≤ ms.length ∧ ∀ j, j < i → ms.getD j 0 ≠ k) (fun i => ms.length - i) [] (fun i => [(8, .i i)]) [0, 1, 7] (fun _ => []) []
  (fun i j => match j with
    | 14 => [.i (ms.getD i 0)]
    | _ => []) (fun _ _ => .unroll 0)⟩
def s167 (args : List T) (ins : List Cont) : Option (Prop × T × List Cont) := match args, ins with
  | [m, .clo 117 [.pt (.i k)]], [] => match asL m with
    | some xs => some (xs = li (unli xs) ∧ xs.length ≤ 9223372036854775807, .i (findI (unli xs) k 0), [])
    | none => none
  | _, _ => none
def e167 : Ent := ⟨167, false, s167⟩

/-! ## DeleteFunc -/
def delI (ms : List Int) (k : Int) : List Int := ms.filter fun x => !(x == k)
def delP (ms : List Int) (k : Int) (s : Nat × Nat × List Int) : Prop :=
  s.1 < s.2.1 ∧ s.2.1 ≤ ms.length ∧ s.2.2.length = ms.length ∧ s.1 = (delI (ms.take s.2.1) k).length ∧ s.2.2.take s.1 = delI (ms.take s.2.1) k ∧ s.2.2.drop s.2.1 = ms.drop s.2.1
def O116 (ms : List Int) (k : Int) : Orc2 := ⟨⟨fun _ => []⟩, fun _ => .inv (Nat × Nat × List Int) ((findI ms k 0).toNat, (findI ms k 0).toNat + 1, ms) (delP ms k) (fun s => ms.length - s.2.1) []
  (fun s => [(5, .i s.1), (6, .i s.2.1)]) [0, 1] (fun s => [(0, .rs .lf (li s.2.2), false)]) []
  (fun s j => match j with
    | 25 => [.i (ms.getD s.2.1 0)]
    | 33 => [.i (s.2.2.getD s.1 0)]
    | _ => []) (fun _ _ => .unroll 0)⟩
def s116 (args : List T) (ins : List Cont) : Option (Prop × T × List Cont) := match args, ins with
  | [.row 0 [] 0 none, .clo 117 [.pt (.i k)]], [.rs .lf xs] => some (xs = li (unli xs) ∧ 0 ≤ findI (unli xs) k 0 ∧ xs.length ≤ 1000000, .row 0 [] 0 (some (delI (unli xs) k).length), [.rs .lf (li (delI (unli xs) k ++ List.replicate ((unli xs).length - (delI (unli xs) k).length) 0))])
  | _, _ => none
def e116 : Ent := ⟨116, true, s116⟩

/-! ## list -/
def bitI (b : Int) (i : Nat) : Bool := ibits .and (b.fdiv (2 ^ (UInt64.ofInt i).toNat)) 1 == 1
def bitsL (b : Int) : Nat → List Int
  | 0 => []
  | n + 1 => if bitI b n then bitsL b n ++ [(n : Int)] else bitsL b n
def O45 (v : UInt64) (b : Int) : Orc2 := ⟨⟨fun _ => []⟩, fun _ => .inv Nat 0 (fun i => i ≤ 8) (fun i => 8 - i) [.fld 2 [1] (.rs .lf [])] (fun i => [(6, .i i)]) [0, 1, 4, 5]
  (fun i => [(2, .var (.agg [.u64 v, .row 3 [] 0 none]), false), (3, .rs .lf (li (bitsL b i)), false)]) [1] (fun _ _ => []) (fun _ _ => .unroll 0)⟩
def s45 (args : List T) (ins : List Cont) : Option (Prop × T × List Cont) := match args, ins with
  | [.u64 v, .i b], [] => some (True, ls v (bitsL b 8), [])
  | _, _ => none
def e45 : Ent := ⟨45, false, s45⟩

/-! ## With, Without -/
def soL (v : UInt64) (ms : List Int) : UInt64 × List Int × Bool := if rightB v ms then (v, ms, true) else (0, [], false)
def withL (v : UInt64) (ms : List Int) (k : Int) : UInt64 × List Int × Bool := if rightB v ms && !hasB v ms k then soL (v + 1) (sortI (ms ++ [k])) else (0, [], false)
def withoutL (v : UInt64) (ms : List Int) (k : Int) : UInt64 × List Int × Bool := if hasB v ms k then soL (v + 1) (delI ms k) else (0, [], false)
def s46 (args : List T) (ins : List Cont) : Option (Prop × T × List Cont) := match args, ins with
  | [.agg [.u64 v, m], .i k], [] => match asL m with
    | some xs => some (xs = li (unli xs), .tup [ls (withL v (unli xs) k).1 (withL v (unli xs) k).2.1, .b (withL v (unli xs) k).2.2], [])
    | none => none
  | _, _ => none
def e46 : Ent := ⟨46, false, s46⟩
def s51 (args : List T) (ins : List Cont) : Option (Prop × T × List Cont) := match args, ins with
  | [.agg [.u64 v, m], .i k], [] => match asL m with
    | some xs => some (xs = li (unli xs), .tup [ls (withoutL v (unli xs) k).1 (withoutL v (unli xs) k).2.1, .b (withoutL v (unli xs) k).2.2], [])
    | none => none
  | _, _ => none
def e51 : Ent := ⟨51, false, s51⟩
end Ro
