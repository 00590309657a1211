/- What a function's code comes to in the abstract machine: what must hold. No condition. -/
import Derived.Test.YtngcjhiflplkbaaALDraw3
namespace Go.AL
open Go

/-- Does an operation make an object? -/
def mkSlot : Op → Bool
  | .alloc _ | .box _ _ | .buildSlice _ _ _ | .makeSlice _ _ _ | .call _ => true
  | _ => false

def countMk : List Oper → Nat
  | [] => 0
  | o :: os => match mkSlot o.op with
    | true => countMk os + 1
    | false => countMk os

def addNone : Nat → List (Option Obj) → List (Option Obj)
  | 0, m => m
  | n + 1, m => m ++ none :: List.replicate n none

/-- Where an operation's elements are asked after. -/
def Oper.key (o : Oper) : Nat := match o.dst with
  | some d => d
  | none => match o.op with
    | .store _ (.tmp a) _ => a
    | _ => 0

def dstIs (d : Option Nat) : Operand → Bool
  | .tmp t => match d with | some d => Nat.beq d t | none => false
  | _ => false

/-- Does one of these hang on what operation 'i' yields? -/
def hangs (i : Nat) (d : Option Nat) : List Oper → Bool
  | [] => false
  | o :: os => (match o.guard with | some (j, _) => Nat.beq i j | none => false) || (match o.op with | .pick c _ _ => dstIs d c | _ => false) || hangs i d os

/-- What is told from outside. -/
structure Orc where
  el : Nat → List T

/-- A truth that others hang on is made plain. -/
def plainB (b : Bool) (x : T) (K : T → Prop) : Prop := match b with
  | true => match x with
    | .b c => match c with
      | true => K (.b true)
      | false => K (.b false)
    | x => K x
  | false => K x

theorem plainB_ok {b : Bool} {x : T} {K : T → Prop} (h : plainB b x K) : K x := by
  unfold plainB at h
  split at h
  · split at h
    · split at h <;> exact h
    · exact h
  · exact h

def nilC : Operand → Bool
  | .const (.slice none 0 0) => true
  | _ => false
/-- 'x == nil' of a slice: what is known if it is so; and what it is then. -/
def St.unk (P : Program) (st : St) (o : Oper) : Option (Prop × Bool) :=
  match o.op with
  | .binOp op t x y _ => match nilC y, P.underlying t with
    | true, some (.slice _) => match st.ev x with
      | some (.sl e xs) => match Nat.ble 1 e.size, op with
        | true, .eql => some (xs = [], true)
        | true, .neq => some (xs = [], false)
        | _, _ => none
      | some (.sb l) => match op with
        | .eql => some (l = [], true)
        | .neq => some (l = [], false)
        | _ => none
      | _ => none
    | _, _ => none
  | _ => none

/-- A region, in its order. 'slot': the next object's number; 'dm': a number that stays free. -/
def trL (P : Program) (S : Tbl) (nio : Nat) (O : Orc) (all : List Oper) (dm : Nat) : List Oper → Nat → Nat → St → (St → Prop) → Prop
  | [], _, _, st, K => K st
  | o :: os, i, slot, st, K => match wantT all st o with
    | some true => match st.unk P o with
      | some (p, b) => (p → trL P S nio O all dm os (i + 1) slot (st.put o.dst (.b b)) K) ∧ trL P S nio O all dm os (i + 1) slot (st.put o.dst (.b (!b))) K
      | none => match st.step P S nio (match mkSlot o.op with | true => slot | false => dm) (O.el (Oper.key o)) o with
        | some e => e.ob ∧ plainB (hangs i o.dst os) e.x fun x => trL P S nio O all dm os (i + 1) (match mkSlot o.op with | true => slot + 1 | false => slot) ((st.apply e).put o.dst x) K
        | none => False
    | some false => trL P S nio O all dm os (i + 1) (match mkSlot o.op with | true => slot + 1 | false => slot) (st.put o.dst (.tup [])) K
    | none => False

/-- What is known of an operation of a region that draws its order. -/
structure DR where
  c : Rec
  slot : Nat
  v : St
  h : List Nat × List Nat

def mayHard (S : Tbl) : Op → Bool
  | .store _ _ _ => true
  | .call c => match c.callee with
    | .builtin .append => true
    | .builtin .clear => true
    | .value (.func f) => S.io f
    | .value _ => true
    | _ => false
  | _ => false

/-- In the order of the text: which objects an operation writes, which it grows. -/
def preH (P : Program) (S : Tbl) (nio : Nat) (O : Orc) (dm : Nat) : List Oper → Nat → St → List (List Nat × List Nat)
  | [], _, _ => []
  | o :: os, slot, st => match st.step P S nio (match mkSlot o.op with | true => slot | false => dm) (O.el (Oper.key o)) o with
    | some e => (e.ws.map (·.1), match e.kl with | some a => [a] | none => []) :: preH P S nio O dm os (match mkSlot o.op with | true => slot + 1 | false => slot) ((st.apply e).put o.dst e.x)
    | none => ([], []) :: preH P S nio O dm os (match mkSlot o.op with | true => slot + 1 | false => slot) (st.put o.dst .junk)

/-- What must be hidden from the i-th: what those write that may come on either side. -/
def hidFor (S : Tbl) (anc : List Nat) (i : Nat) : List Oper → List (List Nat × List Nat) → Nat → List Nat × List Nat
  | o :: os, pre, k => match mayHard S o.op && !Nat.beq i k && !hasB (anc.getD i 0) k && !hasB (anc.getD k 0) i with
    | true => let r := hidFor S anc i os (pre.drop 1) (k + 1)
              let p := pre.headD ([], [])
              (p.1 ++ r.1, p.2 ++ r.2)
    | false => hidFor S anc i os (pre.drop 1) (k + 1)
  | [], _, _ => ([], [])

/-- No two touch that may come in either order: 'c' against those behind it. -/
def pairB (os : List Oper) (anc : List Nat) (i : Nat) (c : DR) : List DR → Nat → Bool
  | [], _ => true
  | d :: ds, k => (hasB (anc.getD k 0) i || (commB c.c d.c && harmB c.v (readsOf os c.c.o) c.slot c.h c.c d.c && harmB d.v (readsOf os d.c.o) d.slot d.h d.c c.c)) && pairB os anc i c ds (k + 1)
def pairsB (os : List Oper) (anc : List Nat) : Nat → List DR → Bool
  | _, [] => true
  | i, c :: cs => pairB os anc i c cs (i + 1) && pairsB os anc (i + 1) cs

def recs : List DR → List Rec
  | [] => []
  | d :: ds => d.c :: recs ds

/-- A region that draws its order. -/
def trD (P : Program) (S : Tbl) (nio : Nat) (O : Orc) (all : List Oper) (anc : List Nat) (pre : List (List Nat × List Nat)) (dm : Nat) (st0 : St) : List Oper → Nat → Nat → List DR → (St → Prop) → Prop
  | [], _, _, done, K => match pairsB all anc 0 done with
    | true => K (SD st0 (recs done) 0 fun _ => true)
    | false => False
  | o :: os, i, slot, done, K =>
    let v := SD st0 (recs done) 0 (hasB (anc.getD i 0))
    let sl := match mkSlot o.op with | true => slot | false => dm
    let h := hidFor S anc i all pre 0
    match wantT all v o, v.m[sl]? with
    | some true, some none => match (v.hide h).step P S nio sl (O.el (Oper.key o)) o with
      | some e => e.ob ∧ plainB (hangs i o.dst os) e.x fun x => trD P S nio O all anc pre dm st0 os (i + 1) (match mkSlot o.op with | true => slot + 1 | false => slot) (done ++ [⟨⟨o, some ⟨e.ob, e.fr, e.kl, e.ws, x⟩⟩, sl, v, h⟩]) K
      | none => False
    | some false, some none => trD P S nio O all anc pre dm st0 os (i + 1) (match mkSlot o.op with | true => slot + 1 | false => slot) (done ++ [⟨⟨o, none⟩, sl, v, h⟩]) K
    | _, _ => False

/-- How a piece of code may end. -/
inductive AX where
  | normal
  | ret
  | exit (id : Nat)

def region (P : Program) (S : Tbl) (nio : Nat) (O : Orc) (ops : List Oper) (draw : Bool) (st : St) (K : St → Prop) : Prop :=
  let st1 : St := ⟨st.t, addNone (countMk ops) st.m⟩
  match draw with
  | false => trL P S nio O ops nio ops 0 st.m.length st1 K
  | true => match backB 0 ops with
    | true => trD P S nio O ops (ancs ops []) (preH P S nio O nio ops st.m.length st1) nio st1 ops 0 st.m.length [] K
    | false => False

end Go.AL
