/- A function's contract out of its code. No condition. -/
import Derived.Test.YtngcjhiflplkbaaALSpec
namespace Go.AL
open Go

theorem start_sim {fn : Func} {args : List T} {ins : List Cont} {w : World} {N : Nat → Prop} {bs : List Nat} {vs : List Value} (h1 : bs.length = ins.length) (h2 : bs.Nodup) (h3 : ∀ b ∈ bs, N b) (h4 : ∀ b, N b → b < w.heap.size)
    (h5 : ∀ (k : Nat) (x : Cont), ins[k]? = some x → ∃ b cs e, bs[k]? = some b ∧ w.heap[b]? = some (.cells cs e (0, 0)) ∧ CC w N Ext.none x cs.toList)
    (h6 : vs.length = args.length) (h7 : ∀ (k : Nat) (x : T), args[k]? = some x → ∃ v, vs[k]? = some v ∧ RV w N (rio w bs ins) x v) :
    ∃ β, Sim ⟨w, (· ∈ bs), N, ins.length, fun k => bs.getD k 0, fun k => match w.heap[bs.getD k 0]? with | some (.cells cs _ _) => cs.size | _ => 0⟩ β (St.start fn args ins) { tmps := vs.toArray ++ Array.replicate (fn.ntmps - vs.toArray.size) undef, defers := [] } w := by
  have hget : ∀ (id : Nat) (o : Obj), (St.start fn args ins).m[id]? = some (some o) → id < ins.length ∧ ∃ x, ins[id]? = some x ∧ o = ⟨x, false⟩ := by
    intro id o ho
    simp only [St.start] at ho
    by_cases hlt : id < ins.length
    · rw [List.getElem?_append_left (by simpa using hlt)] at ho
      refine ⟨hlt, ins[id], List.getElem?_eq_getElem hlt, ?_⟩
      simp [hlt] at ho
      exact ho.symm
    · rw [List.getElem?_append_right (by simp; omega)] at ho
      have hm := List.mem_of_getElem? ho
      simp at hm
  have hinv : ∀ (id : Nat) (x : Cont), ins[id]? = some x → (St.start fn args ins).m[id]? = some (some ⟨x, false⟩) := by
    intro id x hx
    have hlt := (List.getElem?_eq_some_iff.1 hx).1
    simp only [St.start]
    rw [List.getElem?_append_left (by simpa using hlt)]
    simp [hx]
  let sz : Nat → Nat := fun b => match w.heap[b]? with | some (.cells cs _ _) => cs.size | _ => 0
  let β : Bel := fun id => (bs[id]?).map fun b => (b, sz b)
  have hβ : ∀ id b k, β id = some (b, k) → bs[id]? = some b ∧ k = sz b := by
    intro id b k hb
    simp only [β] at hb
    cases hbs : bs[id]? with
    | none => simp [hbs] at hb
    | some b' =>
      simp [hbs] at hb
      exact ⟨by rw [hb.1], by rw [← hb.2, hb.1]⟩
  have hMut : ∀ b, Mut N (St.start fn args ins).m β b → N b := by
    rintro b (hN | ⟨id, o, k, e1, e2, e3⟩)
    · exact hN
    · exact h3 b (List.mem_of_getElem? (hβ id b k e3).1)
  have hS : Stay w w N (Mut N (St.start fn args ins).m β) := fun b hb _ => ⟨fun hm => hb (hMut b hm), rfl⟩
  have hX : (rio w bs ins).Le (ext (St.start fn args ins).m β) := by
    refine ⟨?_, ?_⟩
    · rintro id p ad ⟨b, c, hb, hc, rfl⟩
      exact ⟨_, b, sz b, hinv id c hc, by simp [β, hb], rfl⟩
    · rintro id p off r v ⟨b, c, xs, e, hb, hc, hh, hr⟩
      refine ⟨_, hinv id c hc, ?_⟩
      have : β id = some (b, xs.size) := by simp [β, hb, sz, hh]
      rw [this]
      exact hr
  refine ⟨β, ⟨?_, rfl, ?_, ?_, ?_, ?_, ?_, ?_, h3, h4, Keeps.refl _ w, ?_⟩⟩
  · simp [St.start, h6]
  · intro k x hx
    simp only [St.start] at hx
    by_cases hlt : k < args.length
    · rw [List.getElem?_append_left hlt] at hx
      obtain ⟨v, q1, q2⟩ := h7 k x hx
      have hvl : k < vs.length := by omega
      have : (vs.toArray ++ Array.replicate (fn.ntmps - vs.toArray.size) undef).getD k undef = v := by
        rw [Array.getD_eq_getD_getElem?, Array.getElem?_append_left (by simpa using hvl)]
        simp [q1]
      simp only
      rw [this]
      exact RT.of_RV (RV.mono hS hX q2)
    · rw [List.getElem?_append_right (by omega)] at hx
      have hx' : x = .tup [] := by
        have := List.mem_of_getElem? hx
        simp at this; exact this.2
      subst hx'
      have : (vs.toArray ++ Array.replicate (fn.ntmps - vs.toArray.size) undef).getD k undef = undef := by
        rw [Array.getD_eq_getD_getElem?, Array.getElem?_append_right (by simp; omega)]
        rw [Array.getElem?_replicate]
        split <;> rfl
      simp only
      rw [this]
      exact ⟨[], rfl, rfl, fun k x hk => by simp at hk⟩
  · intro id o ho
    obtain ⟨hlt, x, hx, rfl⟩ := hget id o ho
    obtain ⟨b, cs, e, q1, q2, q3⟩ := h5 id x hx
    have hb : β id = some (b, cs.size) := by simp [β, q1, sz, q2]
    rw [hb]
    exact ⟨cs, e, (0, 0), q2, rfl, fun _ => rfl, CC.mono hS (Ext.none_le _) x _ q3⟩
  · intro id id' o o' b k k' e1 e2 e3 e4
    have q1 := (hβ id b k e3).1
    have q2 := (hβ id' b k' e4).1
    obtain ⟨l1, g1⟩ := List.getElem?_eq_some_iff.1 q1
    exact (List.getElem?_inj l1 h2).1 (q1.trans q2.symm)
  · intro id o b k e1 e2
    obtain ⟨hlt, _⟩ := hget id o e1
    obtain ⟨q1, q2⟩ := hβ id b k e2
    refine .inr ⟨hlt, by simp [q1], List.mem_of_getElem? q1, ?_⟩
    simp only [List.getD_eq_getElem?_getD, q1, Option.getD_some]
    exact q2.symm
  · intro id hlt
    exact ⟨ins[id], hinv id _ (List.getElem?_eq_getElem hlt)⟩
  · intro id o b k e1 hz
    obtain ⟨_, x, _, rfl⟩ := hget id o e1
    cases hz
  · intro id hlt
    have hlt' : id < bs.length := by rw [h1]; exact hlt
    exact ⟨bs[id], sz bs[id], by simp [β, List.getElem?_eq_getElem hlt']⟩

/-- THE CONTRACT. -/
theorem spec_of_tr {P : Program} (hm : P.follows .mixedOrders = true) {S : Tbl} (hS : TblOk P S) {f : FuncId} {fn : Func} {c : Code} (hf : P.funcs[f]? = some fn) (hb : fn.body = some c) (O : Orc2) {args : List T} {ins : List Cont} {res : T} {outs : List Cont}
    (h : tr P S ins.length c O 0 (St.start fn args ins) (atEnd P fn ins.length res outs)) : Spec P f args ins res outs := by
  intro w N bs vs h1 h2 h3 h4 h5 h6 h7
  obtain ⟨β, hsim⟩ := start_sim (fn := fn) h1 h2 h3 h4 h5 h6 h7
  refine calls_of_wp hf hb (tr_ok hm hS c O 0 _ _ _ β _ w ?_ hsim h)
  intro ex st β' a w' hk hs
  have hend : ∀ (_ : st.fin P ins.length fn.results.toList res outs), a.defers = [] ∧ ∃ v, (results fn a.tmps).run P w' = .ok v w' ∧ ∃ v', Ending.returned v = .returned v' ∧ Keeps (· ∈ bs) w w' ∧ RR w w' N bs outs res v' ∧ outs.length = ins.length ∧
      ∀ (k : Nat) (y : Cont), outs[k]? = some y → ∃ b cs cs' e e', bs[k]? = some b ∧ w.heap[b]? = some (.cells cs e (0, 0)) ∧ w'.heap[b]? = some (.cells cs' e' (0, 0)) ∧ cs'.size = cs.size ∧ CC w' N Ext.none y cs'.toList := by
    intro hfin
    obtain ⟨v, g1, g2, g3, g4⟩ := fin_ok hs (bs := bs) (fun k hk => by
      have hlt : k < bs.length := by simp only at hk; omega
      simp [List.getElem?_eq_getElem hlt]) hfin
    refine ⟨hs.df, v, g1, v, rfl, hs.kp, g2, g3, fun k y hk => ?_⟩
    obtain ⟨cs', e', q1, q2, q3⟩ := g4 k y hk
    simp only at g3
    have hkl := (List.getElem?_eq_some_iff.1 hk).1
    have hlt : k < bs.length := by omega
    have hil : k < ins.length := by omega
    obtain ⟨b, cs, e, r1, r2, _⟩ := h5 k ins[k] (List.getElem?_eq_getElem hil)
    have hbk : bs.getD k 0 = b := by simp [r1]
    simp only [hbk, r2] at q1 q2
    exact ⟨b, cs, cs', e, e', r1, r2, q1, q2, q3⟩
  cases ex with
  | normal => exact hend hk
  | ret => exact hend hk
  | exit id => exact hk.elim

/-- Two cases of a truth. -/
def cases2 (c : Bool) (A B : Prop) : Prop := match c with
  | true => A
  | false => B

theorem cases2_of {c : Bool} {A B : Prop} (h1 : c = true → A) (h2 : c = false → B) : cases2 c A B := by
  cases c
  · exact h2 rfl
  · exact h1 rfl

theorem cases2_dec {p : Prop} {_ : Decidable p} {A B : Prop} (h1 : p → A) (h2 : ¬ p → B) : cases2 (decide p) A B :=
  cases2_of (fun h => h1 (of_decide_eq_true h)) (fun h => h2 (of_decide_eq_false h))

/-! ## Tables of contracts -/

structure Ent where
  f : FuncId
  io : Bool
  s : List T → List Cont → Option (Prop × T × List Cont)

def EntOk (P : Program) (e : Ent) : Prop := ∀ args ins pre res outs, e.s args ins = some (pre, res, outs) → pre → Spec P e.f args ins res outs

def findE : List Ent → FuncId → Option Ent
  | [], _ => none
  | e :: es, f => match Nat.beq e.f f with
    | true => some e
    | false => findE es f

def tbl (es : List Ent) : Tbl := ⟨fun f => match findE es f with | some e => e.io | none => false, fun f args ins => match findE es f with | some e => e.s args ins | none => none⟩

theorem tbl_ok {P : Program} : ∀ {es : List Ent}, (∀ e ∈ es, EntOk P e) → TblOk P (tbl es) := by
  intro es h f args ins pre res outs hs hp
  have : ∀ (es : List Ent), (∀ e ∈ es, EntOk P e) → ∀ e, findE es f = some e → EntOk P e ∧ e.f = f := by
    intro es
    induction es with
    | nil => intro _ e he; simp [findE] at he
    | cons e0 es ih =>
      intro hall e he
      simp only [findE] at he
      split at he
      · rename_i hb
        simp only [Option.some.injEq] at he
        subst he
        exact ⟨hall e0 (by simp), Nat.eq_of_beq_eq_true hb⟩
      · exact ih (fun e he => hall e (by simp [he])) e he
  simp only [tbl] at hs
  split at hs
  · rename_i e he
    obtain ⟨h1, h2⟩ := this es h e he
    rw [← h2]
    exact h1 args ins pre res outs hs hp
  · cases hs

end Go.AL
