/- The step of the abstract machine at one operation. No condition. -/
import Derived.Test.YtngcjhiflplkbaaALClr
namespace Go.AL
open Go

def isSliceT (P : Program) (t : TypeId) : Bool := match P.underlying t with
  | some (.slice _) => true
  | _ => false
def isStrT (P : Program) (t : TypeId) : Bool := match P.underlying t with
  | some .string => true
  | _ => false
def isBoolT (P : Program) (t : TypeId) : Bool := match P.underlying t with
  | some .bool => true
  | _ => false
/-- The length of what can be seen of it. -/
def St.lenT (P : Program) (st : St) (t : TypeId) (x : T) : Option Int :=
  match x with
  | .s l => if isStrT P t then some l.length else none
  | .sb l => if isSliceT P t then some l.length else none
  | .sl _ xs => if isSliceT P t then some xs.length else none
  | .v (.slice none 0 0) => if isSliceT P t then some 0 else none
  | .row id p off rest => if isSliceT P t then match st.m[id]? with
    | some (some o) => match o.c.len p with
      | some _ => some (o.c.rlen p off rest)
      | none => none
    | _ => none
    else none
  | _ => none

def concT (P : Program) (t : TypeId) : Bool := match P.underlying t with
  | some (.interface _) | none => false
  | _ => true

def binOk (P : Program) (t : TypeId) (x y : T) : Bool := match x, y with
  | .b _, .b _ => isBoolT P t
  | _, _ => true

/-- A new row of n zeros, with room for m. -/
def zeros (P : Program) (t : TypeId) (n m : Int) : Option (Cont × Prop) :=
  match P.underlying t with
  | some (.slice e) => match zeroOk P e, P.info? e with
    | some (z, _), some i => if Nat.ble 1 z.sk.size then match z with
        | .u8 x => if Nat.beq x.toNat 0 then some (.rb (List.replicate n.toNat 0), 0 ≤ n ∧ n ≤ m ∧ i.bytes * m ≤ 140737488355328 ∧ m ≤ 9223372036854775807) else none
        | z => if z.data then some (.rs z.sk (List.replicate n.toNat z), 0 ≤ n ∧ n ≤ m ∧ i.bytes * m ≤ 140737488355328 ∧ m ≤ 9223372036854775807) else none
      else none
    | _, _ => none
  | _ => none

/-- An operation that writes nothing that is there: 'slot' is the number of an object that it may make. -/
def St.soft (P : Program) (S : Tbl) (nio : Nat) (st : St) (slot : Nat) (q : List T) (o : Oper) : Option Eff :=
  match o.op with
  | .move x => match st.ev x with
    | some y => some ⟨True, [], none, [], y⟩
    | none => none
  | .assign x => match st.ev x with
    | some y => some ⟨True, [], none, [], y⟩
    | none => none
  | .pick c x y => match st.ev c with
    | some (.b cc) => match cc with
      | true => match st.ev x with
        | some z => some ⟨True, [], none, [], z⟩
        | none => none
      | false => match st.ev y with
        | some z => some ⟨True, [], none, [], z⟩
        | none => none
    | _ => none
  | .alloc e => match zeroOk P e, st.m[slot]? with
    | some (x, _), some none => some ⟨True, [], none, [(slot, (.var x))], .ref slot []⟩
    | _, _ => none
  | .box _ x => match st.ev x, st.m[slot]? with
    | some y, some none => if y.plain then some ⟨True, [], none, [(slot, (.var y))], .ref slot []⟩ else none
    | _, _ => none
  | .build t ps => match st.evp ps.toList with
    | some xs => match bld P t xs with
      | some y => some ⟨True, [], none, [], y⟩
      | none => none
    | none => none
  | .buildSlice t n ps => match st.evp ps.toList, st.m[slot]? with
    | some xs, some none => match bldS P t n xs with
      | some c => some ⟨True, [], none, [(slot, c)], .row slot [] 0 none⟩
      | none => none
    | _, _ => none
  | .load t x => match st.ev x with
    | some y => match st.ld P t y q with
      | some (z, ob) => some ⟨ob, [], none, [], z⟩
      | none => none
    | none => none
  | .nilCheck x => match st.ev x with
    | some (.ref id p) => some ⟨True, [], none, [], .ref id p⟩
    | some (.pt y) => some ⟨True, [], none, [], .pt y⟩
    | _ => none
  | .binOp op t x y _ => match st.ev x, st.ev y with
    | some a, some b => match bin op a b with
      | some (z, ob) => if binOk P t a b then some ⟨ob, [], none, [], z⟩ else none
      | none => match eqT P t op a b with
        | some z => some ⟨True, [], none, [], z⟩
        | none => none
    | _, _ => none
  | .unOp u _ x => match u, st.ev x with
    | .not, some (.b c) => some ⟨True, [], none, [], .b (!c)⟩
    | .neg, some (.i n) => some ⟨InI (0 - n), [], none, [], .i (0 - n)⟩
    | _, _ => none
  | .convert s d x => match st.ev x with
    | some y => match conv P s d y with
      | some (z, ob) => some ⟨ob, [], none, [], z⟩
      | none => match P.underlying s, P.underlying d with
        | some (.slice e), some .string => match P.underlying e, st.src y with
          | some (.int .u8), some (.rb l, ob) => some ⟨ob, [], none, [], .s l⟩
          | _, _ => none
        | some .string, some (.slice e) => match P.underlying e, y with
          | some (.int .u8), .s l => some ⟨True, [], none, [], .sb l⟩
          | _, _ => none
        | _, _ => none
    | none => none
  | .slice t x lo hi none => match st.ev x, st.bd lo, st.bd hi with
    | some y, some l, some h => match st.slc P t y l h q with
      | some (z, ob) => some ⟨ob, [], none, [], z⟩
      | none => none
    | _, _, _ => none
  | .fieldAddr s x f => match st.ev x with
    | some y => match st.fa P s y f with
      | some z => some ⟨True, [], none, [], z⟩
      | none => none
    | none => none
  | .indexAddr t x i => match st.ev x, st.ev i with
    | some y, some j => match j.int? with
      | some n => match st.ia P t y n q with
        | some (z, ob) => some ⟨ob, [], none, [], z⟩
        | none => none
      | none => none
    | _, _ => none
  | .makeSlice t l c => match st.ev l, st.ev c, st.m[slot]? with
      | some (.i n), some (.i m), some none => match zeros P t n m with
        | some (ct, ob) => some ⟨ob, [], none, [(slot, ct)], .row slot [] 0 none⟩
        | none => none
      | _, _, _ => none
  | .makeFunc (.func f) ⟨[]⟩ caps => match st.evs caps.toList with
    | some xs => if xs.all T.plain && xs.all (fun x => !x.isAgg) then some ⟨True, [], none, [], .clo f xs⟩ else none
    | none => none
  | .makeInterface t x => match st.ev x with
    | some y => if (concT P t && y.plain) then some ⟨True, [], none, [], .ifc t y⟩ else none
    | none => none
  | .sliceToArrayPointer t x => match st.ev x, P.underlying t with
    | some (.sb l), some (.array n e) => match P.underlying e with
      | some (.int .u8) => if Nat.ble 1 n then some ⟨n ≤ l.length, [], none, [], .pt (.ba n (l.take n))⟩ else none
      | _ => none
    | _, _ => none
  | .extract x k => match st.ev x with
    | some (.tup xs) => match xs[k]? with
      | some y => some ⟨True, [], none, [], y⟩
      | none => none
    | _ => none
  | .call c => match c.callee with
    | .builtin b => match b, st.evs c.args.toList, c.argTypes.toList with
      | .len, some [x], [t] => match st.lenT P t x with
        | some n => some ⟨True, [], none, [], .i n⟩
        | none => none
      | .min, some [.i a, .i b], _ => some ⟨True, [], none, [], .i (if b < a then b else a)⟩
      | .max, some [.i a, .i b], _ => some ⟨True, [], none, [], .i (if b > a then b else a)⟩
      | .append, some [x, y], _ => match st.app0 P c.argTypes x y, st.m[slot]? with
          | some (ct, ob), some none => some ⟨ob, [], none, [(slot, ct)], .row slot [] 0 none⟩
          | _, _ => none
      | _, _, _ => none
    | .value g => match st.ev g, st.evs c.args.toList with
      | some (.clo f caps), some xs => if (callOk P f && caps.all (fun x => !x.isAgg) && !S.io f) then st.callS S nio f (xs ++ caps) slot else none
      | _, _ => none
    | _ => none
  | _ => none

/-- An operation that writes what is there. -/
def St.hard (P : Program) (S : Tbl) (nio : Nat) (st : St) (q : List T) (o : Oper) : Option Eff :=
  match o.op with
  | .store t x v => match st.ev x, st.ev v with
    | some y, some z => if z.plain then match st.sto P t y z q with
        | some (id, c', ob) => some ⟨ob, [], none, [(id, c')], .junk⟩
        | none => none
      else none
    | _, _ => none
  | .call c => match c.callee with
    | .builtin b => match b, st.evs c.args.toList with
      | .append, some [x, y] => match st.app P nio c.argTypes x y with
          | some (id, ct, ob) => some ⟨ob, [], some id, [(id, ct)], .row id [] 0 none⟩
          | none => none
      | .clear, some [x] => match c.argTypes.toList with
        | [t] => match st.clr P t x with
          | some (id, ct) => some ⟨True, [], none, [(id, ct)], .tup []⟩
          | none => none
        | _ => none
      | _, _ => none
    | .value g => match st.ev g, st.evs c.args.toList with
      | some (.clo f caps), some (x :: xs) => if (callOk P f && caps.all (fun x => !x.isAgg) && S.io f) then match x with
          | .ref j [] => st.callI S nio f (x :: (xs ++ caps)) j
          | .row j _ _ _ => st.callI S nio f (x :: (xs ++ caps)) j
          | _ => none
        else none
      | _, _ => none
    | _ => none
  | _ => none

/-- Does it write what is there? -/
def St.isHard (S : Tbl) (st : St) (o : Oper) : Bool := match o.op with
  | .store _ _ _ => true
  | .call c => match c.callee with
    | .builtin b => match b, st.evs c.args.toList with
      | .append, some [.row _ _ _ _, _] => true
      | .clear, _ => true
      | _, _ => false
    | .value g => match st.ev g with
      | some (.clo f _) => S.io f
      | _ => false
    | _ => false
  | _ => false

/-- One operation. -/
def St.step (P : Program) (S : Tbl) (nio : Nat) (st : St) (slot : Nat) (q : List T) (o : Oper) : Option Eff :=
  match st.isHard S o with
  | true => st.hard P S nio q o
  | false => st.soft P S nio slot q o

end Go.AL
