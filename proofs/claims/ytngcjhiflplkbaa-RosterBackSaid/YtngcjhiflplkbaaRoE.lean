/- A part of the proof of a law about rosters over an abstract machine. No condition. -/
import Derived.Test.YtngcjhiflplkbaaRoP
namespace Ro
open Go Go.AL Go.Proofs

def unI : T → Int
  | .i n => n
  | _ => 0
def unli (xs : List T) : List Int := xs.map unI
theorem unli_li (ms : List Int) : unli (li ms) = ms := by simp [unli, li, Function.comp_def, unI]

/-- A slice of numbers, or nil. -/
def asL : T → Option (List T)
  | .sl .lf xs => some xs
  | .v (.slice none 0 0) => some []
  | _ => none

theorem asL_vle {m : T} {xs : List T} (h : asL m = some xs) : vle m (.sl .lf xs) := by
  unfold asL at h
  split at h
  · simp only [Option.some.injEq] at h; subst h
    simp [vle, teq, Sk.beq]
  · simp only [Option.some.injEq] at h; subst h
    simp [vle]
  · cases h

/-! ## Entries -/
def s112 (args : List T) (ins : List Cont) : Option (Prop × T × List Cont) := match args, ins with
  | [.agg [.u64 v, m]], [] => match asL m with
    | some xs => some (xs = li (unli xs), .b (rightB v (unli xs)), [])
    | none => none
  | _, _ => none
def e112 : Ent := ⟨112, false, s112⟩

theorem ok112 : EntOk Try.prog e112 := by
  intro args ins pre res outs h hp
  simp only [e112] at h ⊢
  unfold s112 at h
  split at h
  · rename_i v m
    split at h
    · rename_i xs hm
      simp only [Option.some.injEq, Prod.mk.injEq] at h
      obtain ⟨rfl, rfl, rfl⟩ := h
      have := spec112 v (unli xs) (tbl_ok (by simp))
      rw [ls, ← hp] at this
      exact this.args (by simp [vles, vle, teq, asL_vle hm])
    · cases h
  · cases h

/-! ## Index, Contains -/
def findI (ms : List Int) (k : Int) (i : Nat) : Int := match ms with
  | [] => -1
  | m :: ms => if k = m then i else findI ms k (i + 1)

def O168 (ms : List Int) (k : Int) : Orc2 := ⟨⟨fun _ => []⟩, fun _ => .inv Nat 0 (fun i => i ≤ ms.length ∧ ∀ j, j < i → ms.getD j 0 ≠ k) (fun i => ms.length - i) [] (fun i => [(8, .i i)]) [0, 1, 7] (fun _ => []) []
  (fun i j => match j with
    | 14 => [.i (ms.getD i 0)]
    | _ => []) (fun _ _ => .unroll 0)⟩

def s168 (args : List T) (ins : List Cont) : Option (Prop × T × List Cont) := match args, ins with
  | [m, .i k], [] => match asL m with
    | some xs => some (xs = li (unli xs) ∧ xs.length ≤ 9223372036854775807, .i (findI (unli xs) k 0), [])
    | none => none
  | _, _ => none
def e168 : Ent := ⟨168, false, s168⟩

def s118 (args : List T) (ins : List Cont) : Option (Prop × T × List Cont) := match args, ins with
  | [m, .i k], [] => match asL m with
    | some xs => some (xs = li (unli xs) ∧ xs.length ≤ 9223372036854775807, .b (decide (0 ≤ findI (unli xs) k 0)), [])
    | none => none
  | _, _ => none
def e118 : Ent := ⟨118, false, s118⟩

/-! ## Clone -/
def s113 (args : List T) (ins : List Cont) : Option (Prop × T × List Cont) := match args, ins with
  | [m], [] => match asL m with
    | some xs => some (xs.length * 8 ≤ 140737488355328, .os .lf xs, [])
    | none => none
  | _, _ => none
def e113 : Ent := ⟨113, false, s113⟩

/-! ## Has, Majority, so -/
def hasB (v : UInt64) (ms : List Int) (k : Int) : Bool := rightB v ms && decide (0 ≤ findI ms k 0)
def s53 (args : List T) (ins : List Cont) : Option (Prop × T × List Cont) := match args, ins with
  | [.agg [.u64 v, m], .i k], [] => match asL m with
    | some xs => some (xs = li (unli xs), .b (hasB v (unli xs) k), [])
    | none => none
  | _, _ => none
def e53 : Ent := ⟨53, false, s53⟩
def s49 (args : List T) (ins : List Cont) : Option (Prop × T × List Cont) := match args, ins with
  | [.agg [.u64 v, m]], [] => match asL m with
    | some xs => some (xs = li (unli xs), .i (if rightB v (unli xs) then ((unli xs).length / 2 + 1 : Nat) else 0), [])
    | none => none
  | _, _ => none
def e49 : Ent := ⟨49, false, s49⟩
def s115 (args : List T) (ins : List Cont) : Option (Prop × T × List Cont) := match args, ins with
  | [.agg [.u64 v, m]], [] => match asL m with
    | some xs => some (xs = li (unli xs), .tup [ls (if rightB v (unli xs) then v else 0) (if rightB v (unli xs) then unli xs else []), .b (rightB v (unli xs))], [])
    | none => none
  | _, _ => none
def e115 : Ent := ⟨115, false, s115⟩

/-! ## Same -/
def O35 (xa xb : List Int) : Orc2 := ⟨⟨fun _ => []⟩, fun _ => .inv Nat 0 (fun i => i ≤ xa.length ∧ xa.take i = xb.take i) (fun i => xa.length - i) [] (fun i => [(5, .i i)]) [0, 1] (fun _ => []) []
  (fun i j => match j with
    | 19 => [.i (xa.getD i 0)]
    | 23 => [.i (xb.getD i 0)]
    | _ => []) (fun _ _ => .unroll 0)⟩
def s35 (args : List T) (ins : List Cont) : Option (Prop × T × List Cont) := match args, ins with
  | [m, n], [] => match asL m, asL n with
    | some xs, some ys => some (xs = li (unli xs) ∧ ys = li (unli ys) ∧ xs.length ≤ 9223372036854775807 ∧ ys.length ≤ 9223372036854775807, .b (unli xs == unli ys), [])
    | _, _ => none
  | _, _ => none
def e35 : Ent := ⟨35, false, s35⟩

/-! ## Follows -/
def diffN (v : UInt64) (xa : List Int) (w : UInt64) (xb : List Int) : Nat → Nat
  | 0 => 0
  | n + 1 => diffN v xa w xb n + (if hasB v xa n != hasB w xb n then 1 else 0)
def followsB (v : UInt64) (xa : List Int) (w : UInt64) (xb : List Int) : Bool := rightB v xa && rightB w xb && (w == v + 1) && (diffN v xa w xb 8 == 1)
def O52 (v : UInt64) (xa : List Int) (w : UInt64) (xb : List Int) : Orc2 := ⟨⟨fun _ => []⟩, fun _ => .inv Nat 0 (fun i => i ≤ 8) (fun i => 8 - i) [] (fun i => [(23, .i i), (5, .i (diffN v xa w xb i))]) [2, 3] (fun _ => []) [1, 2]
  (fun _ _ => []) (fun _ _ => .unroll 0)⟩
def s52 (args : List T) (ins : List Cont) : Option (Prop × T × List Cont) := match args, ins with
  | [.agg [.u64 v, m], .agg [.u64 w, n]], [] => match asL m, asL n with
    | some xs, some ys => some (xs = li (unli xs) ∧ ys = li (unli ys), .b (followsB v (unli xs) w (unli ys)), [])
    | _, _ => none
  | _, _ => none
def e52 : Ent := ⟨52, false, s52⟩
end Ro
