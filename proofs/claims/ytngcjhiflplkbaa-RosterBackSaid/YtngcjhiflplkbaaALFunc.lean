/- A function's contract out of its code. No condition. -/
import Derived.Test.YtngcjhiflplkbaaALCode
namespace Go.AL
open Go

/-! ## A value that stands for less -/

mutual
/-- The first as the second tells it: a nil slice may be told as an empty one. -/
def vle : T → T → Prop
  | .v (.slice none 0 0), .sb l => l = []
  | .v (.slice none 0 0), .sl _ l => l = []
  | .agg xs, .agg ys => vles xs ys
  | x, y => teq x y
def vles : List T → List T → Prop
  | [], [] => True
  | x :: xs, y :: ys => vle x y ∧ vles xs ys
  | _, _ => False
end

section
variable {w : World} {N : Nat → Prop} {X : Ext}
mutual
theorem vle_ok : ∀ (x y : T) (cs : List Value), vle x y → RC w N X x cs → RC w N X y cs ∧ y.isAgg = x.isAgg ∧ y.sk = x.sk := by
  intro x y cs h k
  unfold vle at h
  split at h
  · subst h
    simp only [RC] at k ⊢
    exact ⟨⟨none, 0, k.2, by simp, .inl rfl⟩, rfl, rfl⟩
  · subst h
    simp only [RC] at k ⊢
    exact ⟨⟨none, 0, k.2, by simp, [], by simp only [RU], .inl rfl⟩, rfl, rfl⟩
  · simp only [RC] at k ⊢
    obtain ⟨r1, r2⟩ := vles_ok _ _ cs h k
    exact ⟨r1, rfl, by simp only [T.sk, r2]⟩
  · have := teq_ok _ _ h
    subst this
    exact ⟨k, rfl, rfl⟩
theorem vles_ok : ∀ (xs ys : List T) (cs : List Value), vles xs ys → RL w N X xs cs → RL w N X ys cs ∧ T.sks ys = T.sks xs := by
  intro xs ys cs h k
  unfold vles at h
  split at h
  · exact ⟨k, rfl⟩
  · simp only [RL] at k ⊢
    obtain ⟨c1, c2, h1, h2, h3, h4⟩ := k
    obtain ⟨r1, _, r2⟩ := vle_ok _ _ c1 h.1 h3
    obtain ⟨q1, q2⟩ := vles_ok _ _ c2 h.2 h4
    exact ⟨⟨c1, c2, h1, by rw [r2]; exact h2, r1, q1⟩, by simp only [T.sks, r2, q2]⟩
  · exact h.elim
end

theorem RV.vle {x y : T} {v : Value} (h : vle x y) (k : RV w N X x v) : RV w N X y v := by
  rcases k with ⟨h1, ds, h2, h3⟩ | ⟨h1, h2⟩
  · obtain ⟨r1, r2, _⟩ := vle_ok x y ds h h3
    exact .inl ⟨by rw [r2]; exact h1, ds, h2, r1⟩
  · obtain ⟨r1, r2, _⟩ := vle_ok x y _ h h2
    exact .inr ⟨by rw [r2]; exact h1, r1⟩
end

/-- A contract with arguments that are told so. -/
theorem Spec.args {P : Program} {f : FuncId} {xs ys : List T} {ins : List Cont} {res : T} {outs : List Cont} (h : Spec P f ys ins res outs) (hl : vles xs ys) : Spec P f xs ins res outs := by
  intro w N bs vs h1 h2 h3 h4 h5 h6 h7
  have hlen : ∀ xs ys : List T, vles xs ys → ys.length = xs.length ∧ ∀ (k : Nat) (y : T), ys[k]? = some y → ∃ x, xs[k]? = some x ∧ vle x y := by
    intro xs
    induction xs with
    | nil =>
      intro ys h
      cases ys with
      | nil => exact ⟨rfl, fun k y hk => by simp at hk⟩
      | cons y ys => simp [vles] at h
    | cons x xs ih =>
      intro ys h
      cases ys with
      | nil => simp [vles] at h
      | cons y ys =>
        simp only [vles] at h
        obtain ⟨r1, r2⟩ := ih ys h.2
        refine ⟨by simp [r1], fun k z hk => ?_⟩
        cases k with
        | zero => simp at hk; subst hk; exact ⟨x, rfl, h.1⟩
        | succ k => simp at hk; simpa using r2 k z hk
  obtain ⟨l1, l2⟩ := hlen xs ys hl
  refine h w N bs vs h1 h2 h3 h4 h5 (by rw [h6, l1]) (fun k y hy => ?_)
  obtain ⟨x, hx, hxy⟩ := l2 k y hy
  obtain ⟨v, q1, q2⟩ := h7 k x hx
  exact ⟨v, q1, q2.vle hxy⟩

/-! ## The end -/

/-- What the results hold. -/
def St.outT (P : Program) (st : St) : List ResultVar → Option (List T × Prop)
  | [] => some ([], True)
  | .tmp t :: rs => match st.t[t]?, st.outT P rs with
    | some x, some (xs, ob) => if x.plain then some (x :: xs, ob) else none
    | _, _ => none
  | .cell a ty :: rs => match st.t[a]?, st.outT P rs with
    | some x, some (xs, ob) => match st.ld P ty x [] with
      | some (y, ob2) => if y.plain then some (y :: xs, ob2 ∧ ob) else none
      | none => none
    | _, _ => none

def outsOk (nio : Nat) : Nat → List (Option Obj) → List Cont → Prop
  | k, _, [] => match Nat.beq k nio with
    | true => True
    | false => False
  | k, some o :: m, y :: ys => match !o.fz && o.c.data && Nat.blt k nio with
      | true => ceq o.c y ∧ outsOk nio (k + 1) m ys
      | false => False
  | _, _, _ => False

def ltG (nio : Nat) (id : Nat) : Bool := Nat.blt id nio

def St.fin (P : Program) (nio : Nat) (st : St) (rs : List ResultVar) (res : T) (outs : List Cont) : Prop :=
  match st.outT P rs with
  | some (xs, ob) => ob ∧ outsOk nio 0 st.m outs ∧ match res with
    | .ow l => match xs with
      | [.row id [] 0 none] => match st.m[id]? with
        | some (some o) => match o.c with
          | .rb l' => match !o.fz && Nat.ble nio id with
            | true => l' = l
            | false => False
          | _ => False
        | _ => False
      | [.v (.slice none 0 0)] => l = []
      | _ => False
    | .os e ys => match xs with
      | [.row id [] 0 none] => match st.m[id]? with
        | some (some o) => match o.c with
          | .rs e' ys' => match !o.fz && Nat.ble nio id && Sk.beq e' e with
            | true => ys' = ys
            | false => False
          | _ => False
        | _ => False
      | [.v (.slice none 0 0)] => ys = []
      | _ => False
    | .tup ys => match st.views (ltG nio) 13 xs with
      | some (zs, ob2) => match Nat.beq xs.length 1 with
        | true => False
        | false => ob2 ∧ vles zs ys
      | none => False
    | .row j [] off rest => match xs with
      | [.row i [] off' rest'] => match Nat.beq i j && Nat.blt i nio with
        | true => off' = off ∧ rest' = rest
        | false => False
      | _ => False
    | res => match xs with
      | [x] => match st.view (ltG nio) 12 x with
        | some (z, ob2) => ob2 ∧ vle z res
        | none => False
      | _ => False
  | none => False

end Go.AL
