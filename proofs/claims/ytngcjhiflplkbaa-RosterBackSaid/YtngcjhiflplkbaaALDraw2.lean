/- A region whose operations may come in any order: sound. No condition. -/
import Derived.Test.YtngcjhiflplkbaaALDraw
namespace Go.AL
open Go

/-- Is the operation wanted? By its guard. -/
def wantT (ops : List Oper) (st : St) (o : Oper) : Option Bool :=
  match o.guard with
  | none => some true
  | some (j, w) => match ops[j]? with
    | some oj => match oj.dst with
      | some d => match st.t[d]? with
        | some (.b c) => match c with
          | true => some w
          | false => some (!w)
        | some (.tup []) => some false
        | _ => none
      | none => some false
    | none => some false

def guardTmp (ops : List Oper) (o : Oper) : List Nat :=
  match o.guard with
  | none => []
  | some (j, _) => match ops[j]? with
    | some oj => match oj.dst with
      | some d => [d]
      | none => []
    | none => []

theorem want_ok {C : Ctx} {β : Bel} {st : St} {a : Act} {w : World} (h : Sim C β st a w) {ops : Array Oper} {o : Oper} {r : Bool} (hw : wantT ops.toList st o = some r) : Region.wanted o (yielded ops a.tmps) = r := by
  unfold wantT at hw
  unfold Region.wanted
  split at hw
  · rename_i hg
    rw [hg]
    simp only [Option.some.injEq] at hw; exact hw
  · rename_i j wt hg
    rw [hg]
    simp only
    split at hw
    · rename_i oj hoj
      have hoj' : ops[j]? = some oj := by simpa using hoj
      split at hw
      · rename_i d hd
        have hy : yielded ops a.tmps j = match a.tmps[d]? with | some (.bool b) => some b | _ => none := by
          simp [yielded, hoj', hd]
          rfl
        split at hw
        · rename_i c hc
          have hlt : d < st.t.length := (List.getElem?_eq_some_iff.1 hc).1
          have hv := (h.tm d _ hc).val rfl
          have hlt2 : d < a.tmps.size := by rw [h.sz]; exact hlt
          have hv2 : a.tmps[d]? = some (.bool c) := by
            rw [Array.getElem?_eq_getElem hlt2]
            have : a.tmps.getD d undef = a.tmps[d] := by simp [hlt2]
            rw [← this, hv]
          rw [hy, hv2]
          split at hw <;> simp only [Option.some.injEq] at hw <;> subst hw <;> cases wt <;> rfl
        · rename_i hc
          have hlt : d < st.t.length := (List.getElem?_eq_some_iff.1 hc).1
          obtain ⟨vs, h1, h2, _⟩ := h.tm d _ hc
          have hlt2 : d < a.tmps.size := by rw [h.sz]; exact hlt
          have hv2 : a.tmps[d]? = some (.tuple vs.toArray) := by
            rw [Array.getElem?_eq_getElem hlt2]
            have : a.tmps.getD d undef = a.tmps[d] := by simp [hlt2]
            rw [← this, h1]
          rw [hy, hv2]
          simp only [Option.some.injEq] at hw
          rw [← hw]
          cases wt <;> rfl
        · cases hw
      · rename_i hd
        have hy : yielded ops a.tmps j = none := by simp [yielded, hoj', hd]
        rw [hy]
        simp only [Option.some.injEq] at hw
        rw [← hw]; cases wt <;> rfl
    · rename_i hoj
      have hoj' : ops[j]? = none := by simpa using hoj
      have hy : yielded ops a.tmps j = none := by simp [yielded, hoj']
      rw [hy]
      simp only [Option.some.injEq] at hw
      rw [← hw]; cases wt <;> rfl

theorem want_eq {ops : List Oper} {st st2 : St} {o : Oper} (h : ∀ p ∈ guardTmp ops o, st2.t[p]? = st.t[p]?) : wantT ops st2 o = wantT ops st o := by
  unfold wantT guardTmp at *
  split
  · rfl
  · split
    · split
      · rename_i d hd
        simp_all
      · rfl
    · rfl

def tmpsOf : List Operand → List Nat
  | [] => []
  | .tmp t :: os => t :: tmpsOf os
  | _ :: os => tmpsOf os

theorem tmpsOf_mem : ∀ (os : List Operand) (t : Nat), Operand.tmp t ∈ os → t ∈ tmpsOf os
  | [], t, h => by simp at h
  | o :: os, t, h => by
    rcases List.mem_cons.1 h with h | h
    · subst h; simp [tmpsOf]
    · have := tmpsOf_mem os t h
      cases o <;> simp [tmpsOf, this]

/-- The temporaries that an operation looks at. -/
def readsOf (ops : List Oper) (o : Oper) : List Nat := guardTmp ops o ++ tmpsOf o.op.operands.toList

def freeAll (c : Cont) : List Nat → Bool
  | [] => true
  | a :: as => c.free a && freeAll c as

def hideM (h1 h2 : List Nat) : Nat → List (Option Obj) → List (Option Obj)
  | _, [] => []
  | k, none :: m => none :: hideM h1 h2 (k + 1) m
  | k, some o :: m => (match memB k h1 || !freeAll o.c h2 with | true => none | false => some o) :: hideM h1 h2 (k + 1) m

/-- Some objects hidden; and what speaks of the second ones. -/
def St.hide (st : St) (h : List Nat × List Nat) : St := match h.1, h.2 with
  | [], [] => st
  | h1, h2 => ⟨st.t, hideM h1 h2 0 st.m⟩

theorem freeAll_ok {c : Cont} : ∀ {l : List Nat}, freeAll c l = true → ∀ a ∈ l, c.free a = true
  | [], _, a, h => by simp at h
  | b :: l, h, a, hm => by
    simp only [freeAll, Bool.and_eq_true] at h
    rcases List.mem_cons.1 hm with rfl | hm
    · exact h.1
    · exact freeAll_ok h.2 a hm

theorem hideM_get (h1 h2 : List Nat) : ∀ (m : List (Option Obj)) (k j : Nat), (hideM h1 h2 k m)[j]? = (m[j]?).map fun o => o.bind fun o => match memB (k + j) h1 || !freeAll o.c h2 with | true => none | false => some o
  | [], k, j => by simp [hideM]
  | none :: m, k, 0 => by simp [hideM]
  | some o :: m, k, 0 => by simp [hideM]
  | none :: m, k, j + 1 => by simp [hideM, hideM_get h1 h2 m (k + 1) j, Nat.add_comm, Nat.add_left_comm]
  | some o :: m, k, j + 1 => by simp [hideM, hideM_get h1 h2 m (k + 1) j, Nat.add_comm, Nat.add_left_comm]

theorem hide_t (st : St) (h : List Nat × List Nat) : (st.hide h).t = st.t := by
  unfold St.hide; split <;> rfl

theorem hide_some {st : St} {h : List Nat × List Nat} {id : Nat} {o : Obj} (k : (st.hide h).m[id]? = some (some o)) : st.m[id]? = some (some o) ∧ memB id h.1 = false ∧ ∀ a ∈ h.2, o.c.free a = true := by
  unfold St.hide at k
  split at k
  · rename_i e1 e2
    exact ⟨k, by rw [e1]; rfl, by rw [e2]; intro a ha; simp at ha⟩
  · simp only [hideM_get, Nat.zero_add] at k
    cases hm : st.m[id]? with
    | none => simp [hm] at k
    | some oo =>
      cases oo with
      | none => simp [hm] at k
      | some o' =>
        rw [hm] at k
        simp only [Option.map_some, Option.bind_some, Option.some.injEq] at k
        split at k
        · cases k
        · rename_i hc
          simp only [Option.some.injEq] at k; subst k
          simp only [Bool.or_eq_false_iff, Bool.not_eq_false'] at hc
          exact ⟨rfl, hc.1, freeAll_ok hc.2⟩

theorem hide_none {st : St} {h : List Nat × List Nat} {id : Nat} (k : st.m[id]? = some none) : (st.hide h).m[id]? = some none := by
  unfold St.hide
  split
  · exact k
  · simp [hideM_get, k]

def notDst : Option Nat → List Nat → Bool
  | none, _ => true
  | some d, rs => !memB d rs
def readsFree (k : Option Nat) (t : List T) : List Nat → Bool
  | [] => true
  | p :: ps => (match t[p]? with | some x => freeo k x | none => true) && readsFree k t ps
/-- What the other one writes cannot be seen here. -/
def wsHid (st : St) (h1 : List Nat) (slot : Nat) : List (Nat × Cont) → Bool
  | [] => true
  | (j, _) :: ws => (memB j h1 || (match st.m[j]? with | some none => true | _ => false)) && !Nat.beq j slot && wsHid st h1 slot ws
def wsNotFr (fr : List Nat) : List (Nat × Cont) → Bool
  | [] => true
  | (j, _) :: ws => !memB j fr && wsNotFr fr ws
def klHid (h2 : List Nat) : Option Nat → Bool
  | none => true
  | some a => memB a h2

/-- What the operation 'd' does is not felt by 'c', which was reckoned in state 'v' with 'h' hidden. -/
def harmB (v : St) (reads : List Nat) (slot : Nat) (h : List Nat × List Nat) (c d : Rec) : Bool :=
  notDst d.o.dst reads && readsFree d.kl v.t reads && wsHid v h.1 slot d.ws && wsNotFr d.fr c.ws && klHid h.2 d.kl

theorem memB_ok {n : Nat} : ∀ {l : List Nat}, memB n l = true ↔ n ∈ l
  | [] => by simp [memB]
  | m :: l => by
    simp only [memB, Bool.or_eq_true, List.mem_cons, memB_ok (l := l)]
    constructor
    · rintro (h | h)
      · exact .inl (Nat.eq_of_beq_eq_true h)
      · exact .inr h
    · rintro (rfl | h)
      · exact .inl (Nat.beq_refl n)
      · exact .inr h

theorem readsFree_ok {k : Option Nat} {t : List T} : ∀ {ps : List Nat}, readsFree k t ps = true → ∀ p ∈ ps, ∀ x, t[p]? = some x → freeo k x = true
  | [], _, p, h, _, _ => by simp at h
  | q :: ps, h, p, hp, x, hx => by
    simp only [readsFree, Bool.and_eq_true] at h
    rcases List.mem_cons.1 hp with rfl | hp
    · rw [hx] at h; exact h.1
    · exact readsFree_ok h.2 p hp x hx

theorem wsHid_ok {v : St} {h1 : List Nat} {slot : Nat} : ∀ {ws : List (Nat × Cont)}, wsHid v h1 slot ws = true → ∀ {id : Nat} {c : Cont}, wsAt ws id = some c → (memB id h1 = true ∨ v.m[id]? = some none) ∧ id ≠ slot
  | [], _, id, c, h => by simp [wsAt] at h
  | (j, c0) :: ws, h, id, c, hw => by
    simp only [wsHid, Bool.and_eq_true, Bool.or_eq_true, Bool.not_eq_true'] at h
    simp only [wsAt] at hw
    split at hw
    · rename_i hc'
      exact wsHid_ok h.2 hc'
    · split at hw
      · rename_i hj
        have hj := Nat.eq_of_beq_eq_true hj
        subst hj
        refine ⟨h.1.1.imp_right fun h => ?_, fun he => ?_⟩
        · split at h
          · assumption
          · cases h
        · have := h.1.2
          rw [he, Nat.beq_refl] at this
          cases this
      · cases hw

theorem wsNotFr_ok {fr : List Nat} : ∀ {ws : List (Nat × Cont)}, wsNotFr fr ws = true → ∀ {id : Nat} {c : Cont}, (id, c) ∈ ws → memB id fr = false
  | [], _, id, c, h => by simp at h
  | (j, c0) :: ws, h, id, c, hw => by
    simp only [wsNotFr, Bool.and_eq_true, Bool.not_eq_true'] at h
    rcases List.mem_cons.1 hw with he | hw
    · cases he; exact h.1
    · exact wsNotFr_ok h.2 hw

/-- How a later state is like the one in which an operation was reckoned. -/
structure Near (v : St) (reads : List Nat) (slot : Nat) (h : List Nat × List Nat) (c : Rec) (s : St) : Prop where
  t : ∀ p ∈ reads, s.t[p]? = v.t[p]?
  m : ∀ (id : Nat) (o : Obj), (v.hide h).m[id]? = some (some o) → ∃ o2 : Obj, s.m[id]? = some (some o2) ∧ o2.c = o.c ∧ (∀ ct, (id, ct) ∈ c.ws → o2.fz = o.fz)
  s : v.m[slot]? = some none → s.m[slot]? = some none

theorem Near.refl (v : St) (reads : List Nat) (slot : Nat) (h : List Nat × List Nat) (c : Rec) : Near v reads slot h c v :=
  ⟨fun _ _ => rfl, fun _ o k => ⟨o, (hide_some k).1, rfl, fun _ _ => rfl⟩, fun k => k⟩

theorem Near.step {v s : St} {reads : List Nat} {slot : Nat} {h : List Nat × List Nat} {c d : Rec} (k : Near v reads slot h c s) (hd : harmB v reads slot h c d = true) : Near v reads slot h c (d.ap s) := by
  simp only [harmB, Bool.and_eq_true] at hd
  obtain ⟨⟨⟨⟨h1, h2⟩, h3⟩, h4⟩, h5⟩ := hd
  refine ⟨fun p hp => ?_, fun id o ho => ?_, fun hs => ?_⟩
  · rw [ap_t]
    have hne : d.o.dst ≠ some p := by
      intro he
      rw [he] at h1
      simp only [notDst, Bool.not_eq_true'] at h1
      rw [memB_ok.2 hp] at h1
      cases h1
    rw [if_neg hne, k.t p hp]
    cases hx : v.t[p]? with
    | none => rfl
    | some x =>
      have := readsFree_ok h2 p hp x hx
      simp [killo_free this]
  · obtain ⟨o2, e1, e2, e3⟩ := k.m id o ho
    obtain ⟨g1, g2, g3⟩ := hide_some ho
    have hw : wsAt d.ws id = none := by
      cases hw : wsAt d.ws id with
      | none => rfl
      | some ct =>
        rcases (wsHid_ok h3 hw).1 with hq | hq
        · rw [g2] at hq; cases hq
        · rw [g1] at hq; cases hq
    rw [ap_m, hw]
    simp only [e1, Option.map_some]
    refine ⟨_, rfl, ?_, fun ct hct => ?_⟩
    · simp only
      rw [e2]
      cases hk : d.kl with
      | none => rfl
      | some a =>
        rw [hk] at h5
        simp only [klHid] at h5
        exact Cont.kill_free a o.c (g3 a (memB_ok.1 h5))
    · simp only
      rw [e3 ct hct, wsNotFr_ok h4 hct]
      simp
  · have hw : wsAt d.ws slot = none := by
      cases hw : wsAt d.ws slot with
      | none => rfl
      | some ct => exact absurd rfl (wsHid_ok h3 hw).2
    rw [ap_m, hw]
    simp [k.s hs]

end Go.AL
