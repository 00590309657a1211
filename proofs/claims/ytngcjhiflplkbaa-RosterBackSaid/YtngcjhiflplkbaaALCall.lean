/- A function's contract in the abstract machine, and what a call does. No condition. -/
import Derived.Test.YtngcjhiflplkbaaALApp
namespace Go.AL
open Go

/-- In a call: pointers to what is handed in to be written, and slices of it. -/
def rio (w : World) (bs : List Nat) (cs : List Cont) : Ext where
  rf id p a := ∃ b c, bs[id]? = some b ∧ cs[id]? = some c ∧ a = ⟨b, c.off p, none⟩
  rw id p off rest v := ∃ b c xs e, bs[id]? = some b ∧ cs[id]? = some c ∧ w.heap[b]? = some (.cells xs e (0, 0)) ∧ RowAt c (some (b, xs.size)) p off rest v

/-- A slice that is its holder's alone. -/
def OwnS (w w' : World) (N : Nat → Prop) (c : Cont) (v : Value) : Prop :=
  ∃ n sz, c.len [] = some (n, sz) ∧ c.off [] = 0 ∧ ((v = .slice none 0 0 ∧ n = 0) ∨
    ∃ b cap cs e A, w.heap.size ≤ b ∧ v = .slice (some A) n cap ∧ (0 < cap → A = ⟨b, 0, none⟩) ∧ n ≤ cap ∧ cap * sz ≤ cs.size ∧ w'.heap[b]? = some (.cells cs e (0, 0)) ∧ CC w' (fun x => N x ∨ x = b) Ext.none c cs.toList)

/-- A call's result. -/
def RR (w w' : World) (N : Nat → Prop) (bs : List Nat) (outs : List Cont) : T → Value → Prop
  | .ow l, v => OwnS w w' N (.rb l) v
  | .os e xs, v => OwnS w w' N (.rs e xs) v
  | x, v => RT w' N (rio w' bs outs) x v

/-- 'f, called with arguments that read so, returns what reads so; what was handed in to be written holds what is said.' -/
def Spec (P : Program) (f : FuncId) (args : List T) (ins : List Cont) (res : T) (outs : List Cont) : Prop :=
  ∀ (w : World) (N : Nat → Prop) (bs : List Nat) (vs : List Value), bs.length = ins.length → bs.Nodup → (∀ b ∈ bs, N b) → (∀ b, N b → b < w.heap.size) →
    (∀ (k : Nat) (x : Cont), ins[k]? = some x → ∃ b cs e, bs[k]? = some b ∧ w.heap[b]? = some (.cells cs e (0, 0)) ∧ CC w N Ext.none x cs.toList) →
    vs.length = args.length → (∀ (k : Nat) (x : T), args[k]? = some x → ∃ v, vs[k]? = some v ∧ RV w N (rio w bs ins) x v) →
    Calls P f vs.toArray w fun e w' => ∃ v, e = .returned v ∧ Keeps (· ∈ bs) w w' ∧ RR w w' N bs outs res v ∧ outs.length = ins.length ∧
      ∀ (k : Nat) (y : Cont), outs[k]? = some y → ∃ b cs cs' e e', bs[k]? = some b ∧ w.heap[b]? = some (.cells cs e (0, 0)) ∧ w'.heap[b]? = some (.cells cs' e' (0, 0)) ∧ cs'.size = cs.size ∧ CC w' N Ext.none y cs'.toList

mutual
/-- Does a value need no memory at all? -/
def T.pure : T → Bool
  | .agg fs => T.pures fs
  | .i _ | .b _ | .u8 _ | .u32 _ | .u64 _ | .s _ | .v _ | .ba _ _ | .junk => true
  | .ifc _ x => T.pure x
  | _ => false
def T.pures : List T → Bool
  | [] => true
  | x :: xs => T.pure x && T.pures xs
end

mutual
theorem RC.pure {w w' : World} {N N' : Nat → Prop} {X X' : Ext} : ∀ (x : T) (cs : List Value), x.pure = true → RC w N X x cs → RC w' N' X' x cs
  | .i _, _, _, k | .b _, _, _, k | .u8 _, _, _, k | .u32 _, _, _, k | .u64 _, _, _, k | .s _, _, _, k | .v _, _, _, k | .ba _ _, _, _, k | .junk, _, _, k => by simpa only [RC] using k
  | .agg fs, cs, d, k => by
    simp only [RC] at k ⊢
    exact RL.pure fs cs (by simpa [T.pure] using d) k
  | .ifc t x, cs, d, k => by
    simp only [RC] at k ⊢
    obtain ⟨y, h1, h2⟩ := k
    refine ⟨y, h1, ?_⟩
    have d' : x.pure = true := by simpa [T.pure] using d
    rcases h2 with ⟨h2, ds, h3, h4⟩ | ⟨h2, h4⟩
    · exact .inl ⟨h2, ds, h3, RC.pure x ds d' h4⟩
    · exact .inr ⟨h2, RC.pure x _ d' h4⟩
  | .arr _ _ _, _, d, _ | .sb _, _, d, _ | .sl _ _, _, d, _ | .pt _, _, d, _ | .clo _ _, _, d, _ | .tup _, _, d, _ | .ref _ _, _, d, _ | .row _ _ _ _, _, d, _ | .ow _, _, d, _ | .os _ _, _, d, _ => by simp [T.pure] at d
theorem RL.pure {w w' : World} {N N' : Nat → Prop} {X X' : Ext} : ∀ (xs : List T) (cs : List Value), T.pures xs = true → RL w N X xs cs → RL w' N' X' xs cs
  | [], cs, _, k => by simpa only [RL] using k
  | x :: xs, cs, d, k => by
    simp only [RL] at k ⊢
    obtain ⟨c1, c2, h1, h2, h3, h4⟩ := k
    simp [T.pures] at d
    exact ⟨c1, c2, h1, h2, RC.pure x c1 d.1 h3, RL.pure xs c2 d.2 h4⟩
end

def T.pureR : T → Bool
  | .tup xs => T.pures xs
  | x => T.pure x

theorem RV.pure {w w' : World} {N N' : Nat → Prop} {X X' : Ext} {x : T} {v : Value} (d : x.pure = true) (k : RV w N X x v) : RV w' N' X' x v := by
  rcases k with ⟨h1, ds, h2, h3⟩ | ⟨h1, h2⟩
  · exact .inl ⟨h1, ds, h2, RC.pure x ds d h3⟩
  · exact .inr ⟨h1, RC.pure x _ d h2⟩

theorem pures_get : ∀ (xs : List T) (k : Nat) (x : T), T.pures xs = true → xs[k]? = some x → x.pure = true
  | [], _, _, _, h => by simp at h
  | y :: ys, 0, x, d, h => by simp [T.pures] at d; simp at h; subst h; exact d.1
  | y :: ys, k + 1, x, d, h => by simp [T.pures] at d; simp at h; exact pures_get ys k x d.2 h

theorem RR.pure {w w' w1 : World} {N N' : Nat → Prop} {bs : List Nat} {outs : List Cont} {X : Ext} {x : T} {v : Value} (d : x.pureR = true) (k : RR w w' N bs outs x v) : RT w1 N' X x v := by
  cases x
  case tup xs =>
    obtain ⟨vs, h1, h2, h3⟩ := k
    refine ⟨vs, h1, h2, fun j x hx => ?_⟩
    obtain ⟨y, hy, hr⟩ := h3 j x hx
    exact ⟨y, hy, hr.pure (pures_get xs j x d hx)⟩
  case junk => exact trivial
  case ow => simp [T.pureR, T.pure] at d
  case os => simp [T.pureR, T.pure] at d
  all_goals exact RT.of_RV (RV.pure d k)

/-- An argument of a call, as the callee reads it: a pointer to object 'io' stays one (to the callee's object 0), all else is data. -/
def St.arg1 (st : St) (g : Nat → Bool) (io : Option Nat) (x : T) : Option (T × Prop) :=
  match x with
  | .tup _ => none
  | .junk => none
  | .ref id [] => match io with
    | some j => if Nat.beq id j then some (.ref 0 [], True) else St.view st g 12 (.ref id [])
    | none => St.view st g 12 (.ref id [])
  | .row id p off rest => match io with
    | some j => if Nat.beq id j then some (.row 0 p off rest, True) else St.view st g 12 (.row id p off rest)
    | none => St.view st g 12 (.row id p off rest)
  | x => St.view st g 12 x

def St.argsOf (st : St) (g : Nat → Bool) (io : Option Nat) : List T → Option (List T × Prop)
  | [] => some ([], True)
  | x :: xs => match St.arg1 st g io x, St.argsOf st g io xs with
    | some (y, o1), some (ys, o2) => some (y :: ys, o1 ∧ o2)
    | _, _ => none

section
variable {w : World} {N' : Nat → Prop} {C : Ctx} {β : Bel} {st : St} {a : Act} {g : Nat → Bool} (hN : ∀ b, ¬ Mut C.N0 st.m β b → ¬ N' b)
    (hN' : ∀ id o b k, st.m[id]? = some (some o) → β id = some (b, k) → g id = false → ¬ N' b) (h : Sim C β st a w) {io : Option Nat} {bs : List Nat} {ins : List Cont}
    (hio : ∀ j, io = some j → ∃ b o cs e, β j = some (b, Array.size cs) ∧ bs[0]? = some b ∧ st.m[j]? = some (some o) ∧ ins[0]? = some o.c ∧ w.heap[b]? = some (.cells cs e (0, 0)))
include hN hN' h

theorem view_RV {x y : T} {ob : Prop} {v : Value} {X : Ext} (hvw : St.view st g 12 x = some (y, ob)) (ho : ob) (hx : RV w (Mut C.N0 st.m β) (ext st.m β) x v) : RV w N' X y v := by
  rcases hx with ⟨h2, ds, h3, h4⟩ | ⟨h2, h4⟩
  · obtain ⟨r1, r2, _⟩ := view_ok hN hN' h 12 x y ob ds hvw ho h4
    exact .inl ⟨by rw [r2]; exact h2, ds, h3, RC.mono (fun b hb _ => ⟨hb, rfl⟩) (Ext.none_le _) _ _ r1⟩
  · obtain ⟨r1, r2, _⟩ := view_ok hN hN' h 12 x y ob _ hvw ho h4
    exact .inr ⟨by rw [r2]; exact h2, RC.mono (fun b hb _ => ⟨hb, rfl⟩) (Ext.none_le _) _ _ r1⟩

include hio

theorem arg1_ok {x y : T} {ob : Prop} {v : Value} (hv : st.arg1 g io x = some (y, ob)) (ho : ob) (hx : RT w (Mut C.N0 st.m β) (ext st.m β) x v) : RV w N' (rio w bs ins) y v := by
  unfold St.arg1 at hv
  split at hv
  · cases hv
  · cases hv
  · rename_i id
    split at hv
    · rename_i j
      split at hv
      · rename_i hj
        have hj := Nat.eq_of_beq_eq_true hj
        subst hj
        simp only [Option.some.injEq, Prod.mk.injEq] at hv
        obtain ⟨rfl, rfl⟩ := hv
        obtain ⟨ad, rfl, o, b, k, e1, e2, rfl⟩ := hx.ref
        obtain ⟨b', o', cs, e, q1, q2, q3, q4, q5⟩ := hio id rfl
        rw [e2] at q1; simp only [Option.some.injEq, Prod.mk.injEq] at q1
        obtain ⟨rfl, rfl⟩ := q1
        rw [e1] at q3; simp only [Option.some.injEq] at q3; subst q3
        refine .inr ⟨rfl, ?_⟩
        simp only [RC]
        exact ⟨_, rfl, b, o.c, q2, q4, rfl⟩
      · exact view_RV hN hN' h hv ho (RV.of_RT hx (fun _ hq => by cases hq) (fun hq => by cases hq))
    · exact view_RV hN hN' h hv ho (RV.of_RT hx (fun _ hq => by cases hq) (fun hq => by cases hq))
  · rename_i id p off rest
    split at hv
    · rename_i j
      split at hv
      · rename_i hj
        have hj := Nat.eq_of_beq_eq_true hj
        subst hj
        simp only [Option.some.injEq, Prod.mk.injEq] at hv
        obtain ⟨rfl, rfl⟩ := hv
        obtain ⟨hone, o, e1, e2⟩ := hx.row
        obtain ⟨b', o', cs, e, q1, q2, q3, q4, q5⟩ := hio id rfl
        rw [e1] at q3; simp only [Option.some.injEq] at q3; subst q3
        rw [q1] at e2
        refine .inr ⟨rfl, ?_⟩
        simp only [RC]
        exact ⟨_, rfl, hone, b', o.c, cs, e, q2, q4, q5, e2⟩
      · exact view_RV hN hN' h hv ho (RV.of_RT hx (fun _ hq => by cases hq) (fun hq => by cases hq))
    · exact view_RV hN hN' h hv ho (RV.of_RT hx (fun _ hq => by cases hq) (fun hq => by cases hq))
  · rename_i h1 h2 _ _
    exact view_RV hN hN' h hv ho (RV.of_RT hx (fun xs hq => h1 xs hq) (fun hq => h2 hq))

theorem argsOf_ok :
    ∀ (xs ys : List T) (ob : Prop) (vs : List Value), st.argsOf g io xs = some (ys, ob) → ob → vs.length = xs.length →
      (∀ (k : Nat) (x : T), xs[k]? = some x → ∃ v, vs[k]? = some v ∧ RT w (Mut C.N0 st.m β) (ext st.m β) x v) →
      ys.length = xs.length ∧ ∀ (k : Nat) (y : T), ys[k]? = some y → ∃ v, vs[k]? = some v ∧ RV w N' (rio w bs ins) y v
  | [], ys, ob, vs, hv, _, hl, _ => by
    simp only [St.argsOf, Option.some.injEq, Prod.mk.injEq] at hv
    obtain ⟨rfl, rfl⟩ := hv
    exact ⟨rfl, fun k y hy => by simp at hy⟩
  | x :: xs, ys, ob, vs, hv, ho, hl, hx => by
    simp only [St.argsOf] at hv
    cases vs with
    | nil => simp at hl
    | cons v vs =>
    have hx0 := hx 0 x (by simp)
    have hxs : ∀ (k : Nat) (x' : T), xs[k]? = some x' → ∃ v, vs[k]? = some v ∧ RT w (Mut C.N0 st.m β) (ext st.m β) x' v := fun k x' hk => by
      have := hx (k + 1) x' (by simpa using hk)
      simpa using this
    obtain ⟨v0, hv0, hx0⟩ := hx0
    simp at hv0
    subst hv0
    split at hv
    · rename_i y o1 ys' o2 h1 h2
      simp only [Option.some.injEq, Prod.mk.injEq] at hv
      obtain ⟨rfl, rfl⟩ := hv
      obtain ⟨r1, r2⟩ := argsOf_ok xs ys' o2 vs h2 ho.2 (by simpa using hl) hxs
      refine ⟨by simp [r1], fun k y' hy => ?_⟩
      cases k with
      | zero =>
        simp at hy
        subst hy
        exact ⟨v, rfl, arg1_ok hN hN' h hio h1 ho.1 hx0⟩
      | succ k =>
        simp at hy
        simpa using r2 k y' hy
    · cases hv
end

/-! ## Which objects a call looks at: they are not written any more -/

mutual
def T.ids : T → List Nat
  | .agg fs => T.idss fs
  | .ifc _ x => T.ids x
  | .clo _ caps => T.idss caps
  | .ref id _ => [id]
  | .row id _ _ _ => [id]
  | _ => []
def T.idss : List T → List Nat
  | [] => []
  | x :: xs => T.ids x ++ T.idss xs
end

def memB (n : Nat) : List Nat → Bool
  | [] => false
  | m :: ms => Nat.beq n m || memB n ms

def contIds (m : List (Option Obj)) (id : Nat) : List Nat :=
  match m[id]? with
  | some (some o) => match o.c with
    | .var x => x.ids
    | _ => []
  | _ => []

/-- All that is led to, in so many steps. -/
def reach (m : List (Option Obj)) : Nat → List Nat → List Nat
  | 0, l => l
  | n + 1, l => l ++ reach m n (l.flatMap (contIds m))

def freeze (fr : List Nat) : Nat → List (Option Obj) → List (Option Obj)
  | _, [] => []
  | k, some o :: m => (if memB k fr then some ⟨o.c, true⟩ else some o) :: freeze fr (k + 1) m
  | k, none :: m => none :: freeze fr (k + 1) m

def St.frz (st : St) (fr : List Nat) : St := { st with m := freeze fr 0 st.m }

theorem freeze_get (fr : List Nat) : ∀ (m : List (Option Obj)) (k j : Nat), (freeze fr k m)[j]? = (m[j]?).map (fun o => o.map fun o => if memB (k + j) fr then ⟨o.c, true⟩ else o)
  | [], k, j => by simp [freeze]
  | some o :: m, k, 0 => by simp only [freeze]; split <;> simp [*]
  | none :: m, k, 0 => by simp [freeze]
  | some o :: m, k, j + 1 => by simp [freeze, freeze_get fr m (k + 1) j, Nat.add_comm, Nat.add_left_comm]
  | none :: m, k, j + 1 => by simp [freeze, freeze_get fr m (k + 1) j, Nat.add_comm, Nat.add_left_comm]

theorem frz_get {st : St} {fr : List Nat} {id : Nat} {o : Obj} (h : st.m[id]? = some (some o)) : (st.frz fr).m[id]? = some (some (if memB id fr then ⟨o.c, true⟩ else o)) := by
  simp only [St.frz, freeze_get, h]; simp

theorem frz_inv {st : St} {fr : List Nat} {id : Nat} {o' : Obj} (h : (st.frz fr).m[id]? = some (some o')) : ∃ o, st.m[id]? = some (some o) ∧ o' = if memB id fr then ⟨o.c, true⟩ else o := by
  simp only [St.frz, freeze_get] at h
  cases hm : st.m[id]? with
  | none => simp [hm] at h
  | some oo =>
    cases oo with
    | none => simp [hm] at h
    | some o => simp [hm] at h; exact ⟨o, rfl, h.symm⟩

theorem frz_c (o : Obj) (fr : List Nat) (id : Nat) : (if memB id fr then (⟨o.c, true⟩ : Obj) else o).c = o.c := by split <;> rfl

theorem frz_stay {st : St} {β : Bel} {N0 : Nat → Prop} {w : World} (fr : List Nat) : Stay w w (Mut N0 st.m β) (Mut N0 (st.frz fr).m β) := by
  intro b hb _
  refine ⟨?_, rfl⟩
  rintro (hN | ⟨id, o', k, e1, e2, e3⟩)
  · exact hb (.inl hN)
  · obtain ⟨o, q1, rfl⟩ := frz_inv e1
    by_cases hm : memB id fr = true
    · simp [hm] at e2
    · simp only [hm] at e2
      exact hb (.inr ⟨id, o, k, q1, e2, e3⟩)

theorem frz_ext {st : St} {β : Bel} (fr : List Nat) : (ext st.m β).Le (ext (st.frz fr).m β) := by
  refine ⟨fun id p ad hh => ?_, fun id p off r v hh => ?_⟩
  · obtain ⟨o, b, k, e1, e2, e3⟩ := hh
    exact ⟨_, b, k, frz_get e1, e2, by rw [frz_c]; exact e3⟩
  · obtain ⟨o, e1, e2⟩ := hh
    exact ⟨_, frz_get e1, by rw [frz_c]; exact e2⟩

theorem Sim.frz {C : Ctx} {β : Bel} {st : St} {a : Act} {w : World} (h : Sim C β st a w) (fr : List Nat) (hfr : ∀ id, memB id fr = true → C.nio ≤ id) : Sim C β (st.frz fr) a w := by
  have hS := frz_stay (st := st) (β := β) (N0 := C.N0) (w := w) fr
  have hX := frz_ext (st := st) (β := β) fr
  have hc := fun (o : Obj) id => frz_c o fr id
  refine ⟨h.sz, h.df, fun k x hx => (h.tm k x hx).mono hS hX, ?_, ?_, ?_, ?_, ?_, h.fn, h.nl, h.kp, h.iob⟩
  · intro id o' e1
    obtain ⟨o, q1, rfl⟩ := frz_inv e1
    have := h.me id o q1
    revert this
    cases hq : β id with
    | none => rw [hc]; exact fun this => this
    | some bk =>
      obtain ⟨b, k⟩ := bk
      rintro ⟨cs, e, fz, r1, r2, r3, r4⟩
      refine ⟨cs, e, fz, r1, r2, fun hf => ?_, by rw [hc]; exact CC.mono hS hX _ _ r4⟩
      by_cases hm : memB id fr = true
      · simp [hm] at hf
      · simp only [hm] at hf
        exact r3 hf
  · intro i1 i2 o1 o2 b k1 k2 e1 e2 e3 e4
    obtain ⟨p1, q1, _⟩ := frz_inv e1
    obtain ⟨p2, q2, _⟩ := frz_inv e2
    exact h.inj i1 i2 p1 p2 b k1 k2 q1 q2 e3 e4
  · intro id o' b k e1 e2
    obtain ⟨o, q1, _⟩ := frz_inv e1
    exact h.loc id o b k q1 e2
  · intro id hlt
    obtain ⟨x, hx⟩ := h.ios id hlt
    refine ⟨x, ?_⟩
    rw [frz_get hx]
    cases hm : memB id fr with
    | false => simp
    | true => have := hfr id hm; omega
  · intro id o' b k e1 hz e2
    obtain ⟨o, q1, rfl⟩ := frz_inv e1
    by_cases hm : memB id fr = true
    · rcases h.loc id o b k q1 e2 with q | q
      · exact q.2
      · have := hfr id hm; omega
    · simp only [hm] at hz
      exact h.fzl id o b k q1 hz e2

/-- What may be written is apart from what is frozen. -/
theorem Sim.frozen_out {C : Ctx} {β : Bel} {st : St} {a : Act} {w : World} (h : Sim C β st a w) {id : Nat} {o : Obj} {b k : Nat} (e1 : st.m[id]? = some (some o)) (hz : o.fz = true) (e2 : β id = some (b, k)) : ¬ Mut C.N0 st.m β b := by
  rintro (hN | ⟨id', o', k', q1, q2, q3⟩)
  · have := h.fzl id o b k e1 hz e2
    have := h.nl b hN
    omega
  · have := h.inj id id' o o' b k k' e1 q1 e2 q3
    subst this
    rw [e1] at q1
    simp only [Option.some.injEq] at q1
    subst q1
    rw [hz] at q2
    cases q2

def ltB (n : Nat) : List Nat → Bool
  | [] => true
  | m :: ms => Nat.ble n m && ltB n ms

theorem ltB_ok {n id : Nat} : ∀ {l : List Nat}, ltB n l = true → memB id l = true → n ≤ id
  | [], _, h => by simp [memB] at h
  | m :: ms, h1, h2 => by
    simp only [ltB, memB, Bool.and_eq_true, Bool.or_eq_true] at h1 h2
    rcases h2 with h2 | h2
    · have := Nat.eq_of_beq_eq_true h2
      have := Nat.le_of_ble_eq_true h1.1
      omega
    · exact ltB_ok h1.2 h2

def optId : Option Nat → T → List Nat
  | some j, .ref id [] => if Nat.beq id j then [] else [id]
  | some j, .row id _ _ _ => if Nat.beq id j then [] else [id]
  | _, x => x.ids

/-- What an operation does: what must hold; what is frozen; which object is grown anew (what leads to it is lost); what objects hold then; what its slot gets. -/
structure Eff where
  ob : Prop
  fr : List Nat
  kl : Option Nat
  ws : List (Nat × Cont)
  x : T

def setWs : List (Option Obj) → List (Nat × Cont) → List (Option Obj)
  | m, [] => m
  | m, (id, c) :: ws => setWs (m.set id (some ⟨c, false⟩)) ws

def freezeO (fr : List Nat) (m : List (Option Obj)) : List (Option Obj) := match fr with
  | [] => m
  | fr => freeze fr 0 m

def St.apply (st : St) (e : Eff) : St := match e.kl with
  | none => ⟨st.t, setWs (freezeO e.fr st.m) e.ws⟩
  | some id => ⟨T.kills id st.t, setWs (killM id (freezeO e.fr st.m)) e.ws⟩

/-- What the functions do: which ones write through their first argument; and each one's contract: what must hold, its result, what the objects handed in hold then. -/
structure Tbl where
  io : FuncId → Bool
  s : FuncId → List T → List Cont → Option (Prop × T × List Cont)

def TblOk (P : Program) (S : Tbl) : Prop := ∀ f args ins pre res outs, S.s f args ins = some (pre, res, outs) → pre → Spec P f args ins res outs

def notIn (fr : List Nat) (id : Nat) : Bool := !memB id fr

/-- All of these objects are there. -/
def allIn (m : List (Option Obj)) : List Nat → Bool
  | [] => true
  | id :: ids => match m[id]? with
    | some (some _) => allIn m ids
    | _ => false

theorem allIn_ok {m : List (Option Obj)} : ∀ {l : List Nat}, allIn m l = true → ∀ id ∈ l, ∃ o, m[id]? = some (some o)
  | [], _, id, h => by simp at h
  | i :: l, h, id, hm => by
    simp only [allIn] at h
    split at h
    · rename_i o ho
      rcases List.mem_cons.1 hm with rfl | hm
      · exact ⟨o, ho⟩
      · exact allIn_ok h id hm
    · cases h

/-- The second knows all objects that the first knows. -/
def MLe (m m2 : List (Option Obj)) : Prop := ∀ (id : Nat) (o : Obj), m[id]? = some (some o) → ∃ o2 : Obj, m2[id]? = some (some o2) ∧ o2.c = o.c

theorem MLe.frz (st : St) (fr : List Nat) : MLe st.m (st.frz fr).m := fun _ o h => ⟨_, frz_get h, frz_c o fr _⟩

mutual
theorem view_mono {st st2 : St} (h : MLe st.m st2.m) {g : Nat → Bool} : ∀ (f : Nat) (x : T) (r : T × Prop), St.view st g f x = some r → St.view st2 g f x = some r
  | 0, _, _, k => by simp [St.view] at k
  | f + 1, x, r, k => by
    cases x <;> simp only [St.view] at k ⊢ <;> try assumption
    case agg fs =>
      split at k
      · rename_i ys ob hv
        rw [views_mono h f fs _ hv]
        exact k
      · cases k
    case ifc t x =>
      split at k
      · rename_i ys ob hv
        rw [view_mono h f x _ hv]
        exact k
      · cases k
    case clo t caps =>
      split at k
      · rename_i ys ob hv
        rw [views_mono h f caps _ hv]
        exact k
      · cases k
    case ref id p =>
      split at k
      · rename_i o ho
        obtain ⟨o2, h1, h2⟩ := h id o ho
        rw [h1]
        simp only [h2]
        split at k
        · cases k
        · rename_i hg
          rw [if_neg hg]
          split at k
          · rename_i n hn
            split at k
            · rename_i y ob hy
              rw [view_mono h f n.y _ hy]
              exact k
            · cases k
          · cases k
      · cases k
    case row id p off rest =>
      split at k
      · rename_i o ho
        obtain ⟨o2, h1, h2⟩ := h id o ho
        rw [h1]
        simp only [h2]
        exact k
      · cases k
theorem views_mono {st st2 : St} (h : MLe st.m st2.m) {g : Nat → Bool} : ∀ (f : Nat) (xs : List T) (r : List T × Prop), St.views st g f xs = some r → St.views st2 g f xs = some r
  | 0, _, _, k => by simp [St.views] at k
  | f + 1, [], r, k => by simpa only [St.views] using k
  | f + 1, x :: xs, r, k => by
    simp only [St.views] at k ⊢
    split at k
    · rename_i y o1 ys o2 h1 h2
      rw [view_mono h f x _ h1, views_mono h f xs _ h2]
      exact k
    · cases k
end

theorem arg1_mono {st st2 : St} (h : MLe st.m st2.m) {g : Nat → Bool} {io : Option Nat} {x : T} {r : T × Prop} (k : st.arg1 g io x = some r) : st2.arg1 g io x = some r := by
  unfold St.arg1 at k ⊢
  split at k
  · cases k
  · cases k
  · split at k
    · split at k
      · rename_i hj; rw [if_pos hj]; exact k
      · rename_i hj; rw [if_neg hj]; exact view_mono h _ _ _ k
    · exact view_mono h _ _ _ k
  · split at k
    · split at k
      · rename_i hj; rw [if_pos hj]; exact k
      · rename_i hj; rw [if_neg hj]; exact view_mono h _ _ _ k
    · exact view_mono h _ _ _ k
  · exact view_mono h _ _ _ k

theorem argsOf_mono {st st2 : St} (h : MLe st.m st2.m) {g : Nat → Bool} {io : Option Nat} : ∀ (xs : List T) (r : List T × Prop), st.argsOf g io xs = some r → st2.argsOf g io xs = some r
  | [], r, k => by simpa only [St.argsOf] using k
  | x :: xs, r, k => by
    simp only [St.argsOf] at k ⊢
    split at k
    · rename_i y o1 ys o2 h1 h2
      rw [arg1_mono h h1, argsOf_mono h xs _ h2]
      exact k
    · cases k

theorem contIds_mono {m m2 : List (Option Obj)} (h : MLe m m2) {id : Nat} (hi : ∃ o, m[id]? = some (some o)) : contIds m2 id = contIds m id := by
  obtain ⟨o, ho⟩ := hi
  obtain ⟨o2, h1, h2⟩ := h id o ho
  unfold contIds
  rw [ho, h1]
  simp only [h2]

theorem reach_mono {m m2 : List (Option Obj)} (h : MLe m m2) : ∀ (n : Nat) (l : List Nat), (∀ id ∈ reach m n l, ∃ o, m[id]? = some (some o)) → reach m2 n l = reach m n l
  | 0, l, _ => rfl
  | n + 1, l, k => by
    simp only [reach] at k ⊢
    have hl : l.flatMap (contIds m2) = l.flatMap (contIds m) := by
      have : ∀ id ∈ l, contIds m2 id = contIds m id := fun id hid => contIds_mono h (k id (List.mem_append_left _ hid))
      clear k
      induction l with
      | nil => rfl
      | cons x l ih => simp only [List.flatMap_cons]; rw [this x (by simp), ih (fun id hid => this id (by simp [hid]))]
    rw [hl, reach_mono h n _ (fun id hid => k id (List.mem_append_right _ hid))]

/-- A result that is handed over: a slice that is its holder's alone becomes an object. -/
def St.own (st : St) (slot : Nat) (fr : List Nat) (ob : Prop) (res : T) : Option Eff :=
  match res with
  | .ow l => match st.m[slot]? with
    | some none => some ⟨ob, fr, none, [(slot, .rb l)], .row slot [] 0 none⟩
    | _ => none
  | .os e us => match st.m[slot]? with
    | some none => some ⟨ob, fr, none, [(slot, .rs e us)], .row slot [] 0 none⟩
    | _ => none
  | res => some ⟨ob, fr, none, [], res⟩

/-- A call that writes nothing of the caller's. 'slot': where a slice that is handed over comes to lie. -/
def St.callS (S : Tbl) (st : St) (nio : Nat) (f : FuncId) (xs : List T) (slot : Nat) : Option Eff :=
  match st.argsOf (fun _ => false) none xs with
  | some (ys, ob) => match S.s f ys [] with
    | some (pre, res, []) => if res.pureR then some ⟨ob ∧ pre, [], none, [], res⟩ else
      let fr := reach st.m 4 (xs.flatMap T.ids)
      if (ltB nio fr && allIn st.m fr) then match st.argsOf (notIn fr) none xs with
        | some (zs, ob2) => match S.s f zs [] with
          | some (pre2, res2, []) => st.own slot fr (ob2 ∧ pre2) res2
          | _ => none
        | none => none
      else none
    | _ => none
  | none => none

def Cont.data : Cont → Bool
  | .var x => x.data
  | _ => true
/-- Of one form, and as long: what must hold. -/
def Cont.likeP : Cont → Cont → Option Prop
  | .var x, .var y => if Sk.beq x.sk y.sk then some True else none
  | .rb l, .rb k => some (0 < l.length ∧ l.length = k.length)
  | .rs e xs, .rs f ys => if Sk.beq e f then some (0 < xs.length ∧ xs.length = ys.length) else none
  | _, _ => none

theorem likeP_ok {c d : Cont} {p : Prop} (h : c.likeP d = some p) (hp : p) : c.Like d ∧ c ≠ .rb [] ∧ ∀ e, c ≠ .rs e [] := by
  unfold Cont.likeP at h
  split at h
  · split at h
    · rename_i hs
      exact ⟨Sk.eq_of_beq _ _ hs, by simp, by simp⟩
    · cases h
  · simp only [Option.some.injEq] at h; subst h
    refine ⟨hp.2, ?_, by simp⟩
    intro hq; simp only [Cont.rb.injEq] at hq; subst hq; simp at hp
  · split at h
    · rename_i hs
      simp only [Option.some.injEq] at h; subst h
      refine ⟨⟨Sk.eq_of_beq _ _ hs, hp.2⟩, by simp, ?_⟩
      intro e hq; simp only [Cont.rs.injEq] at hq; rw [hq.2] at hp; simp at hp
    · cases h
  · cases h

/-- A result that needs no word of an object. -/
def T.dataR : T → Bool
  | .tup xs => T.datas xs
  | .ow _ => false
  | .os _ _ => false
  | x => x.data

/-- A call that is handed object 'j' to write. -/
def St.callI (S : Tbl) (st : St) (nio : Nat) (f : FuncId) (xs : List T) (j : Nat) : Option Eff :=
    let fr := reach st.m 4 (xs.flatMap (optId (some j)))
    if (ltB nio fr && allIn st.m fr && !memB j fr) then match st.argsOf (notIn fr) (some j) xs with
      | some (ys, ob) => match st.m[j]? with
          | some (some o) => match S.s f ys [o.c] with
            | some (pre, res, [y]) => if (!o.fz && o.c.data && y.data) then match o.c.likeP y with
              | some lk => match res with
                | .row 0 p off rest => some ⟨ob ∧ pre ∧ lk, fr, none, [(j, y)], .row j p off rest⟩
                | res => if res.dataR then some ⟨ob ∧ pre ∧ lk, fr, none, [(j, y)], res⟩ else none
              | none => none
              else none
            | _ => none
          | _ => none
      | none => none
    else none

theorem RT.of_none {w : World} {N N' : Nat → Prop} {X : Ext} {x : T} {v : Value} (hN : ∀ b, ¬ N b → ¬ N' b) (h : RT w N Ext.none x v) : RT w N' X x v :=
  h.mono (fun b hb _ => ⟨hN b hb, rfl⟩) (Ext.none_le X)

theorem RR.plain {w w' : World} {N : Nat → Prop} {bs : List Nat} {outs : List Cont} {x : T} {v : Value} (h : RR w w' N bs outs x v) (h1 : ∀ l, x ≠ .ow l) (h2 : ∀ e l, x ≠ .os e l) : RT w' N (rio w' bs outs) x v := by
  cases x
  case ow l => exact absurd rfl (h1 l)
  case os e l => exact absurd rfl (h2 e l)
  all_goals exact h

theorem rio_nil (w : World) (cs : List Cont) (X : Ext) : (rio w [] cs).Le X := by
  refine ⟨?_, ?_⟩
  · rintro id p a ⟨b, c, h, _⟩; simp at h
  · rintro id p off r v ⟨b, c, xs, e, h, _⟩; simp at h

theorem RV.dataX {w : World} {N : Nat → Prop} {X X' : Ext} {x : T} {v : Value} (hd : x.data = true) (h : RV w N X x v) : RV w N X' x v := by
  rcases h with ⟨h1, ds, h2, h3⟩ | ⟨h1, h2⟩
  · exact .inl ⟨h1, ds, h2, RC.data _ _ hd h3⟩
  · exact .inr ⟨h1, RC.data _ _ hd h2⟩

theorem datas_get : ∀ (xs : List T) (k : Nat) (x : T), T.datas xs = true → xs[k]? = some x → x.data = true
  | [], k, x, _, h => by simp at h
  | y :: xs, 0, x, hg, h => by
    simp at h; subst h
    simp only [T.datas, Bool.and_eq_true] at hg; exact hg.1
  | y :: xs, k + 1, x, hg, h => by
    simp at h
    simp only [T.datas, Bool.and_eq_true] at hg; exact datas_get xs k x hg.2 h

theorem RT.dataR {w : World} {N : Nat → Prop} {X X' : Ext} {x : T} {v : Value} (hd : x.dataR = true) (h : RT w N X x v) : RT w N X' x v := by
  cases x
  case junk => trivial
  case tup xs =>
    obtain ⟨vs, h1, h2, h3⟩ := h
    refine ⟨vs, h1, h2, fun k x hx => ?_⟩
    obtain ⟨y, hy, hr⟩ := h3 k x hx
    exact ⟨y, hy, RV.dataX (datas_get xs k x hd hx) hr⟩
  case ow => cases hd
  case os => cases hd
  all_goals exact RV.dataX hd h

theorem notIn_fz {st : St} {fr : List Nat} {id : Nat} {o : Obj} (h : (st.frz fr).m[id]? = some (some o)) (hg : notIn fr id = false) : o.fz = true := by
  obtain ⟨o', _, rfl⟩ := frz_inv h
  unfold notIn at hg
  rw [if_pos (by simpa using hg)]

theorem Sim.frzA {C : Ctx} {β : Bel} {st : St} {a : Act} {w : World} (h : Sim C β st a w) {fr : List Nat} (hlt : ltB C.nio fr = true) : Sim C β (match fr with | [] => st | fr => st.frz fr) a w := by
  cases fr with
  | nil => exact h
  | cons i fr => exact h.frz (i :: fr) (fun id hid => ltB_ok hlt hid)

theorem freeze_nil : ∀ (m : List (Option Obj)) (k : Nat), freeze [] k m = m
  | [], _ => rfl
  | some o :: m, k => by simp [freeze, memB, freeze_nil m]
  | none :: m, k => by simp [freeze, freeze_nil m]

theorem St.frz_nil (st : St) : st.frz [] = st := by cases st; simp [St.frz, freeze_nil]

theorem freezeO_eq (fr : List Nat) (m : List (Option Obj)) : freezeO fr m = freeze fr 0 m := by
  cases fr with
  | nil => simp [freezeO, freeze_nil]
  | cons i fr => rfl

theorem St.apply_eq (st : St) (e : Eff) (h : e.kl = none) : st.apply e = ⟨st.t, setWs (st.frz e.fr).m e.ws⟩ := by
  unfold St.apply
  rw [h]
  simp [freezeO_eq, St.frz]

section
variable {P : Program} {C : Ctx} {β : Bel} {st : St} {a : Act} {w : World} (h : Sim C β st a w) {f : FuncId} {xs : List T} {res : T} {vs : List Value}
include h

theorem Sim.mut_lt (b : Nat) : Mut C.N0 st.m β b → b < w.heap.size := by
  rintro (hN | ⟨id, o, k, e1, _, e2⟩)
  · exact Nat.lt_of_lt_of_le (h.nl b hN) h.kp.size
  · exact h.live_lt e1 e2

theorem callS_frz {S : Tbl} (hS : TblOk P S) {slot : Nat} {e : Eff} {ys : List T} {ob' pre : Prop} {res : T} (hlt : ltB C.nio (reach st.m 4 (xs.flatMap T.ids)) = true)
    (hargs : st.argsOf (notIn (reach st.m 4 (xs.flatMap T.ids))) none xs = some (ys, ob')) (hsem : S.s f ys [] = some (pre, res, []))
    (hl : st.own slot (reach st.m 4 (xs.flatMap T.ids)) (ob' ∧ pre) res = some e) (ho : e.ob) (hvl : vs.length = xs.length)
    (hx : ∀ (k : Nat) (x : T), xs[k]? = some x → ∃ v, vs[k]? = some v ∧ RT w (Mut C.N0 st.m β) (ext st.m β) x v) :
    Calls P f vs.toArray w fun en w' => ∃ v β', en = .returned v ∧ Sim C β' (st.apply e) a w' ∧ RT w' (Mut C.N0 (st.apply e).m β') (ext (st.apply e).m β') e.x v := by
  have hsp : pre → Spec P f ys [] res [] := fun hp => hS _ _ _ _ _ _ hsem hp
  clear hsem
  have h1 := h.frz (reach st.m 4 (xs.flatMap T.ids)) (fun id hid => ltB_ok hlt hid)
  have hx1 : ∀ (k : Nat) (x : T), xs[k]? = some x → ∃ v, vs[k]? = some v ∧ RT w (Mut C.N0 (st.frz (reach st.m 4 (xs.flatMap T.ids))).m β) (ext (st.frz (reach st.m 4 (xs.flatMap T.ids))).m β) x v := by
    intro k x hk
    obtain ⟨v, q1, q2⟩ := hx k x hk
    exact ⟨v, q1, q2.mono (frz_stay _) (frz_ext _)⟩
  have hargs1 := argsOf_mono (MLe.frz st (reach st.m 4 (xs.flatMap T.ids))) xs _ hargs
  have hgfz : ∀ id o, (st.frz (reach st.m 4 (xs.flatMap T.ids))).m[id]? = some (some o) → notIn (reach st.m 4 (xs.flatMap T.ids)) id = false → o.fz = true := fun id o => notIn_fz
  have happ : ∀ (ws : List (Nat × Cont)) (x : T) (p : Prop), st.apply ⟨p, reach st.m 4 (xs.flatMap T.ids), none, ws, x⟩ = ⟨(st.frz (reach st.m 4 (xs.flatMap T.ids))).t, setWs (st.frz (reach st.m 4 (xs.flatMap T.ids))).m ws⟩ := fun ws x p => St.apply_eq st _ rfl
  generalize hst1 : st.frz (reach st.m 4 (xs.flatMap T.ids)) = st1 at h1 hx1 hargs1 hgfz happ
  have hslot0 : st.m[slot]? = some none → st1.m[slot]? = some none := fun hs => by
    rw [← hst1]; simp [St.frz, freeze_get, hs]
  have hbl := h1.mut_lt
  have base : ob' → Spec P f ys [] res [] → Calls P f vs.toArray w fun e w' => ∃ v, e = .returned v ∧ Keeps (fun _ => False) w w' ∧ RR w w' (Mut C.N0 st1.m β) [] [] res v := by
      intro ho1 hspec
      obtain ⟨r1, r2⟩ := argsOf_ok (N' := Mut C.N0 st1.m β) (bs := []) (ins := []) (io := none) (fun _ hb => hb) (fun id o b k e1 e2 hg => h1.frozen_out e1 (hgfz id o e1 hg) e2) h1 (fun j hj => by cases hj) xs ys ob' vs hargs1 ho1 hvl hx1
      refine (hspec w (Mut C.N0 st1.m β) [] vs rfl List.nodup_nil (fun b hb => by simp at hb) hbl (fun k c hk => by simp at hk) (by rw [hvl, r1]) r2).mono ?_
      rintro e w' ⟨v, rfl, hk, hr, _⟩
      exact ⟨v, rfl, hk.mono (fun x _ hx => by simp at hx), hr⟩
  have own : ∀ (c : Cont) (n sz : Nat), c.len [] = some (n, sz) → c.off [] = 0 → st1.m[slot]? = some none → ∀ w' v, Keeps (fun _ => False) w w' → OwnS w w' (Mut C.N0 st1.m β) c v → (n = 0 → c = .rb [] ∨ ∃ e, c = .rs e []) → ((∃ l, c = .rb l) ∨ ∃ e xs, c = .rs e xs) →
      ∃ β', Sim C β' (st1.fill slot ⟨c, false⟩) a w' ∧ RT w' (Mut C.N0 (st1.fill slot ⟨c, false⟩).m β') (ext (st1.fill slot ⟨c, false⟩).m β') (.row slot [] 0 none) v := by
    intro c n sz hcl hco hslot w' v hk hown hn0 hform
    have hlt' : slot < st1.m.length := (List.getElem?_eq_some_iff.1 hslot).1
    obtain ⟨n', sz', q1, q2, q3⟩ := hown
    rw [hcl] at q1; simp only [Option.some.injEq, Prod.mk.injEq] at q1
    obtain ⟨rfl, rfl⟩ := q1
    rcases q3 with ⟨rfl, q3⟩ | ⟨b, cap, cs, e, A, g1, rfl, gA, g2, g3, g4, g5⟩
    · refine ⟨β.with slot none, h1.fill hk hslot _ none (fun b k hq => by cases hq) (fun _ => hn0 q3), RT.leaf ?_ rfl⟩
      simp only [RC]
      refine ⟨_, rfl, rfl, ⟨c, false⟩, by simp [St.fill, hlt'], n, sz, hcl, by simp, ?_⟩
      simp [Bel.with, q3]
    · refine ⟨β.with slot (some (b, cs.size)), h1.fill hk hslot _ (some (b, cs.size)) (fun b' k hq => ?_) (fun hq => by cases hq), RT.leaf ?_ rfl⟩
      · simp only [Option.some.injEq, Prod.mk.injEq] at hq
        obtain ⟨rfl, rfl⟩ := hq
        refine ⟨g1, cs, e, g4, rfl, ?_⟩
        have hS : Stay w' w' (fun x => Mut C.N0 st1.m β x ∨ x = b) (Mut C.N0 (st1.fill slot ⟨c, false⟩).m (β.with slot (some (b, cs.size)))) := by
          intro b'' hb'' _
          refine ⟨?_, rfl⟩
          rintro (hN | ⟨id', o', k, e1, e2, e3⟩)
          · exact hb'' (.inl (.inl hN))
          · rcases fill_inv e1 with ⟨rfl, rfl⟩ | ⟨hne, e1'⟩
            · simp only [Bel.with, if_true, Option.some.injEq, Prod.mk.injEq] at e3
              exact hb'' (.inr e3.1.symm)
            · simp only [Bel.with, if_neg hne] at e3
              exact hb'' (.inl (.inr ⟨id', o', k, e1', e2, e3⟩))
        exact CC.mono hS (Ext.none_le _) _ _ g5
      · simp only [RC]
        refine ⟨_, rfl, rfl, ⟨c, false⟩, by simp [St.fill, hlt'], n, sz, hcl, by simp, ?_⟩
        simp only [Bel.with, if_true]
        exact ⟨A, cap, by simp, by simpa using g2, by rw [hco]; simpa using g3, fun hc => by simpa [hco] using gA hc⟩
  unfold St.own at hl
  split at hl
  · rename_i l
    split at hl
    · rename_i hslot
      simp only [Option.some.injEq] at hl
      subst hl
      rw [happ]
      refine (base ho.1 (hsp ho.2)).mono ?_
      rintro e w' ⟨v, rfl, hk, hr⟩
      obtain ⟨β', s1, s2⟩ := own (.rb l) l.length 1 rfl rfl (hslot0 hslot) w' v hk hr (fun h0 => .inl (by rw [List.length_eq_zero_iff.1 h0])) (.inl ⟨l, rfl⟩)
      exact ⟨v, β', rfl, s1, s2⟩
    · cases hl
  · rename_i e zs
    split at hl
    · rename_i hslot
      simp only [Option.some.injEq] at hl
      subst hl
      rw [happ]
      refine (base ho.1 (hsp ho.2)).mono ?_
      rintro e' w' ⟨v, rfl, hk, hr⟩
      obtain ⟨β', s1, s2⟩ := own (.rs e zs) zs.length e.size rfl rfl (hslot0 hslot) w' v hk hr (fun h0 => .inr ⟨e, by rw [List.length_eq_zero_iff.1 h0]⟩) (.inr ⟨e, zs, rfl⟩)
      exact ⟨v, β', rfl, s1, s2⟩
    · cases hl
  · rename_i r1 r2
    simp only [Option.some.injEq] at hl
    subst hl
    rw [happ]
    refine (base ho.1 (hsp ho.2)).mono ?_
    rintro e w' ⟨v, rfl, hk, hr⟩
    exact ⟨v, β, rfl, h1.grow hk, (hr.plain r1 r2).mono (fun _ hb _ => ⟨hb, rfl⟩) (rio_nil _ _ _)⟩

theorem Sim.callS {S : Tbl} (hS : TblOk P S) {slot : Nat} {e : Eff}
    (hl : st.callS S C.nio f xs slot = some e) (ho : e.ob) (hvl : vs.length = xs.length)
    (hx : ∀ (k : Nat) (x : T), xs[k]? = some x → ∃ v, vs[k]? = some v ∧ RT w (Mut C.N0 st.m β) (ext st.m β) x v) :
    Calls P f vs.toArray w fun en w' => ∃ v β', en = .returned v ∧ Sim C β' (st.apply e) a w' ∧ RT w' (Mut C.N0 (st.apply e).m β') (ext (st.apply e).m β') e.x v := by
  unfold St.callS at hl
  split at hl
  · rename_i ys0 ob0 hargs0
    split at hl
    · rename_i pre0 res0 hsem0
      split at hl
      · rename_i hc
        simp only [Option.some.injEq] at hl
        subst hl
        obtain ⟨ho1, hpre⟩ := ho
        have hspec := hS _ _ _ _ _ _ hsem0 hpre
        obtain ⟨r1, r2⟩ := argsOf_ok (N' := fun _ => False) (bs := []) (ins := []) (io := none) (fun _ _ f => f) (fun _ _ _ _ _ _ _ f => f) h (fun j hj => by cases hj) xs ys0 ob0 vs hargs0 ho1 hvl hx
        refine (hspec w (fun _ => False) [] vs rfl List.nodup_nil (fun b hb => by simp at hb) (fun b hb => hb.elim) (fun k c hk => by simp at hk) (by rw [hvl, r1]) r2).mono ?_
        rintro e w' ⟨v, rfl, hk, hr, _⟩
        exact ⟨v, β, rfl, h.grow (hk.mono (fun x _ hx => by simp at hx)), RR.pure hc hr⟩
      · simp only at hl
        split at hl
        · rename_i hlt
          simp only [Bool.and_eq_true] at hlt
          split at hl
          · rename_i zs ob2 hargs
            split at hl
            · rename_i pre2 res2 hsem
              exact callS_frz h hS hlt.1 hargs hsem hl ho hvl hx
            · cases hl
          · cases hl
        · cases hl
    · cases hl
  · cases hl

theorem Sim.callI {S : Tbl} (hS : TblOk P S) {e : Eff} {j : Nat}
    (hl : st.callI S C.nio f xs j = some e) (ho : e.ob) (hvl : vs.length = xs.length)
    (hx : ∀ (k : Nat) (x : T), xs[k]? = some x → ∃ v, vs[k]? = some v ∧ RT w (Mut C.N0 st.m β) (ext st.m β) x v) :
    Calls P f vs.toArray w fun en w' => ∃ v β', en = .returned v ∧ Sim C β' (st.apply e) a w' ∧ RT w' (Mut C.N0 (st.apply e).m β') (ext (st.apply e).m β') e.x v := by
  unfold St.callI at hl
  simp only at hl
  split at hl
  · rename_i hlt
    simp only [Bool.and_eq_true, Bool.not_eq_true'] at hlt
    obtain ⟨⟨hlt, _⟩, hjfr⟩ := hlt
    have h1 := h.frz (reach st.m 4 (xs.flatMap (optId (some j)))) (fun id hid => ltB_ok hlt hid)
    have hx1 : ∀ (k : Nat) (x : T), xs[k]? = some x → ∃ v, vs[k]? = some v ∧ RT w (Mut C.N0 (st.frz (reach st.m 4 (xs.flatMap (optId (some j))))).m β) (ext (st.frz (reach st.m 4 (xs.flatMap (optId (some j))))).m β) x v := by
        intro k x hk
        obtain ⟨v, q1, q2⟩ := hx k x hk
        exact ⟨v, q1, q2.mono (frz_stay _) (frz_ext _)⟩
    have hgfz : ∀ id o, (st.frz (reach st.m 4 (xs.flatMap (optId (some j))))).m[id]? = some (some o) → notIn (reach st.m 4 (xs.flatMap (optId (some j)))) id = false → o.fz = true := fun id o => notIn_fz
    have happ : ∀ (ws : List (Nat × Cont)) (x : T) (p : Prop), st.apply ⟨p, reach st.m 4 (xs.flatMap (optId (some j))), none, ws, x⟩ = ⟨(st.frz (reach st.m 4 (xs.flatMap (optId (some j))))).t, setWs (st.frz (reach st.m 4 (xs.flatMap (optId (some j))))).m ws⟩ := fun ws x p => St.apply_eq st _ rfl
    split at hl
    · rename_i ys ob' hargs
      have hargs1 := argsOf_mono (MLe.frz st (reach st.m 4 (xs.flatMap (optId (some j))))) xs _ hargs
      split at hl
      · rename_i o hj
        have hj1 : (st.frz (reach st.m 4 (xs.flatMap (optId (some j))))).m[j]? = some (some o) := by
          have := frz_get (fr := reach st.m 4 (xs.flatMap (optId (some j)))) hj
          rw [hjfr] at this
          simpa using this
        generalize st.frz (reach st.m 4 (xs.flatMap (optId (some j)))) = st1 at h1 hx1 hgfz happ hargs1 hj1
        have hbl := h1.mut_lt
        split at hl
        · rename_i pre res y hsem
          split at hl
          · rename_i hcond
            simp only [Bool.and_eq_true, Bool.not_eq_true'] at hcond
            obtain ⟨⟨hfz, hxd⟩, hyd⟩ := hcond
            split at hl
            · rename_i lk hlk
              have hlt : j < st1.m.length := (List.getElem?_eq_some_iff.1 hj1).1
              have key : ∀ x' : T, ob' ∧ pre ∧ lk → (∀ l, res ≠ .ow l) → (∀ e l, res ≠ .os e l) → e = ⟨ob' ∧ pre ∧ lk, reach st.m 4 (xs.flatMap (optId (some j))), none, [(j, y)], x'⟩ →
                  (∀ (w' : World) (b : Nat) (N' : Nat → Prop) (v : Value) (k : Nat), β j = some (b, k) → (∃ cs e, w'.heap[b]? = some (.cells cs e (0, 0)) ∧ cs.size = k) → (∀ b', ¬ Mut C.N0 st1.m β b' → ¬ N' b') → RT w' (Mut C.N0 st1.m β) (rio w' [b] [y]) res v → RT w' N' (ext (st1.fill j ⟨y, false⟩).m β) x' v) →
                  Calls P f vs.toArray w fun en w' => ∃ v β', en = .returned v ∧ Sim C β' (st.apply e) a w' ∧ RT w' (Mut C.N0 (st.apply e).m β') (ext (st.apply e).m β') e.x v := by
                rintro x' ⟨ho1, hpre, hlkp⟩ hr1 hr2 rfl hres
                rw [happ]
                obtain ⟨hlike, hne1, hne2⟩ := likeP_ok hlk hlkp
                have hspec := hS _ _ _ _ _ _ hsem hpre
                have hme := h1.me j o hj1
                cases hβ : β j with
                | none =>
                  rw [hβ] at hme
                  rcases hme with hme | ⟨e', hme⟩
                  · exact absurd hme hne1
                  · exact absurd hme (hne2 e')
                | some bk =>
                  obtain ⟨b, k⟩ := bk
                  rw [hβ] at hme
                  obtain ⟨cs, e, fz, q1, q2, q3, q4⟩ := hme
                  have q3' := q3 hfz
                  subst q3'
                  have hdata : CC w (Mut C.N0 st1.m β) Ext.none o.c cs.toList := by
                    cases hoc : o.c with
                    | var x => rw [hoc] at q4 hxd; exact RC.data _ _ hxd q4
                    | rb l => rw [hoc] at q4; exact q4
                    | rs e xs => rw [hoc] at q4; exact q4
                  obtain ⟨r1, r2⟩ := argsOf_ok (N' := Mut C.N0 st1.m β) (bs := [b]) (ins := [o.c]) (io := some j) (fun _ hb => hb) (fun id o b k e1 e2 hg => h1.frozen_out e1 (hgfz id o e1 hg) e2) h1 (fun j' hj' => by
                    simp only [Option.some.injEq] at hj'; subst hj'; exact ⟨b, o, cs, e, by rw [hβ, q2], rfl, hj1, rfl, q1⟩) xs ys ob' vs hargs1 ho1 hvl hx1
                  refine (hspec w (Mut C.N0 st1.m β) [b] vs rfl (by simp) (fun b' hb' => by simp at hb'; subst hb'; exact .inr ⟨j, o, k, hj1, hfz, hβ⟩) hbl (fun k' x0 hk' => ?_) (by rw [hvl, r1]) r2).mono ?_
                  · cases k' with
                    | zero =>
                      simp at hk'; subst hk'
                      exact ⟨b, cs, e, rfl, q1, hdata⟩
                    | succ k' => simp at hk'
                  · rintro e' w' ⟨v, rfl, hk, hr, _, hout⟩
                    obtain ⟨b', cs0, cs', e0, e'', p1, p0, p2, psz, p3⟩ := hout 0 y rfl
                    simp at p1; subst p1
                    rw [q1] at p0
                    simp only [Option.some.injEq, Obj.cells.injEq] at p0
                    have hsz : cs'.size = k := by rw [psz, ← p0.1, q2]
                    have hkb : Keeps (fun x => x = b) w w' := hk.mono (fun x _ hx => by simpa using hx)
                    have hs := h1.write hj1 hfz hβ y hlike cs' e'' hkb p2 hsz (CC.mono (fun b' hb' _ => ⟨hb', rfl⟩) (Ext.none_le _) _ _ p3)
                    refine ⟨v, β, rfl, hs, hres w' b _ v k hβ ⟨cs', e'', p2, hsz⟩ (fun b' hb' => ?_) (hr.plain hr1 hr2)⟩
                    rintro (hN | ⟨id', o', k', e1, e2, e3⟩)
                    · exact hb' (.inl hN)
                    · rcases fill_inv e1 with ⟨rfl, rfl⟩ | ⟨hne, e1'⟩
                      · exact hb' (.inr ⟨id', o, k', hj1, hfz, e3⟩)
                      · exact hb' (.inr ⟨id', o', k', e1', e2, e3⟩)
              split at hl
              · rename_i p off rest
                simp only [Option.some.injEq] at hl
                subst hl
                refine key _ ho (fun l hq => by cases hq) (fun e l hq => by cases hq) rfl ?_
                intro w' b N' v k hβ hcs hN' hr
                obtain ⟨hone, b', c, xs, e, g1, g2, g3, g4⟩ := hr.row
                simp at g1 g2
                subst g1; subst g2
                obtain ⟨cs, e', g5, g6⟩ := hcs
                rw [g5] at g3
                simp only [Option.some.injEq, Obj.cells.injEq] at g3
                refine RT.leaf ?_ rfl
                simp only [RC]
                refine ⟨v, rfl, hone, ⟨y, false⟩, by simp [St.fill, hlt], ?_⟩
                rw [hβ, ← g6, g3.1]
                exact g4
              · split at hl
                · rename_i hd
                  simp only [Option.some.injEq] at hl
                  subst hl
                  refine key _ ho (fun l he => by rw [he] at hd; cases hd) (fun e l he => by rw [he] at hd; cases hd) rfl ?_
                  intro w' b N' v k hβ hcs hN' hr
                  exact (RT.dataR hd hr).mono (fun b' hb' _ => ⟨hN' b' hb', rfl⟩) (Ext.Le.refl _)
                · cases hl
            · cases hl
          · cases hl
        · cases hl
      · cases hl
    · cases hl
  · cases hl
end

end Go.AL
