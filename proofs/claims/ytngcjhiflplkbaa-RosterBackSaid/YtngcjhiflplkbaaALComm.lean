/- Effects that may come in any order. No condition. -/
import Derived.Test.YtngcjhiflplkbaaALMono
namespace Go.AL
open Go

mutual
/-- No word of object 'id'. -/
def T.free (id : Nat) : T → Bool
  | .agg fs => T.frees id fs
  | .ifc _ x => T.free id x
  | .clo _ caps => T.frees id caps
  | .tup xs => T.frees id xs
  | .ref j _ => !Nat.beq j id
  | .row j _ _ _ => !Nat.beq j id
  | _ => true
def T.frees (id : Nat) : List T → Bool
  | [] => true
  | x :: xs => T.free id x && T.frees id xs
end

mutual
theorem kill_free (id : Nat) : ∀ x : T, x.free id = true → x.kill id = x
  | .agg fs, h => by simp only [T.free] at h; simp only [T.kill, kills_free id fs h]
  | .ifc _ x, h => by simp only [T.free] at h; simp only [T.kill, kill_free id x h]
  | .clo _ fs, h => by simp only [T.free] at h; simp only [T.kill, kills_free id fs h]
  | .tup fs, h => by simp only [T.free] at h; simp only [T.kill, kills_free id fs h]
  | .ref j p, h => by
    simp only [T.free, Bool.not_eq_true'] at h
    simp only [T.kill]
    rw [if_neg (by rw [h]; simp)]
  | .row j p o r, h => by
    simp only [T.free, Bool.not_eq_true'] at h
    simp only [T.kill]
    rw [if_neg (by rw [h]; simp)]
  | .i _, _ | .b _, _ | .u8 _, _ | .u32 _, _ | .u64 _, _ | .s _, _ | .v _, _ | .ba _ _, _ | .arr _ _ _, _ | .sb _, _ | .sl _ _, _ | .pt _, _ | .junk, _ | .ow _, _ | .os _ _, _ => by simp only [T.kill]
theorem kills_free (id : Nat) : ∀ xs : List T, T.frees id xs = true → T.kills id xs = xs
  | [], _ => rfl
  | x :: xs, h => by
    simp only [T.frees, Bool.and_eq_true] at h
    simp only [T.kills, kill_free id x h.1, kills_free id xs h.2]
end

def Cont.free (id : Nat) : Cont → Bool
  | .var x => x.free id
  | _ => true

theorem Cont.kill_free (id : Nat) (c : Cont) (h : c.free id = true) : c.kill id = c := by
  cases c with
  | var x => simp only [Cont.free] at h; simp only [Cont.kill, AL.kill_free id x h]
  | rb _ => rfl
  | rs _ _ => rfl

def killo : Option Nat → T → T
  | none, x => x
  | some a, x => x.kill a
def Cont.killo : Option Nat → Cont → Cont
  | none, c => c
  | some a, c => c.kill a
def freeo : Option Nat → T → Bool
  | none, _ => true
  | some a, x => x.free a
def Cont.freeo : Option Nat → Cont → Bool
  | none, _ => true
  | some a, c => c.free a

theorem killo_free {k : Option Nat} {x : T} (h : freeo k x = true) : killo k x = x := by
  cases k with
  | none => rfl
  | some a => exact kill_free a x h
theorem Cont.killo_free {k : Option Nat} {c : Cont} (h : c.freeo k = true) : c.killo k = c := by
  cases k with
  | none => rfl
  | some a => exact c.kill_free a h

structure Rec where
  o : Oper
  r : Option Eff

def Rec.x (c : Rec) : T := match c.r with | none => .tup [] | some e => e.x
def Rec.fr (c : Rec) : List Nat := match c.r with | none => [] | some e => e.fr
def Rec.kl (c : Rec) : Option Nat := match c.r with | none => none | some e => e.kl
def Rec.ws (c : Rec) : List (Nat × Cont) := match c.r with | none => [] | some e => e.ws

def Rec.ap (c : Rec) (st : St) : St := match c.r with
  | none => st.put c.o.dst (.tup [])
  | some e => (st.apply e).put c.o.dst e.x

def wsAt : List (Nat × Cont) → Nat → Option Cont
  | [], _ => none
  | (j, c) :: ws, id => match wsAt ws id with
    | some c => some c
    | none => if Nat.beq j id then some c else none

theorem setWs_get : ∀ (ws : List (Nat × Cont)) (m : List (Option Obj)) (id : Nat), (setWs m ws)[id]? = match wsAt ws id with
    | some c => (m[id]?).map fun _ => some ⟨c, false⟩
    | none => m[id]?
  | [], m, id => rfl
  | (j, c) :: ws, m, id => by
    simp only [setWs, wsAt]
    rw [setWs_get ws]
    have hg : (m.set j (some ⟨c, false⟩))[id]? = if j = id then (m[id]?).map (fun _ => some ⟨c, false⟩) else m[id]? := by
      rw [List.getElem?_set]
      by_cases hj : j = id
      · subst hj
        by_cases hl : j < m.length
        · simp [hl]
        · simp [hl]
      · simp [hj]
    cases hw : wsAt ws id with
    | some c' =>
      simp only
      rw [hg]
      by_cases hj : j = id
      · subst hj; cases m[j]? <;> simp
      · simp [hj]
    | none =>
      simp only
      rw [hg]
      by_cases hj : j = id
      · subst hj; simp
      · rw [if_neg hj, if_neg (by intro hb; exact hj (Nat.eq_of_beq_eq_true hb))]

theorem kills_getq (id : Nat) : ∀ (xs : List T) (k : Nat), (T.kills id xs)[k]? = (xs[k]?).map (T.kill id)
  | [], k => by simp [T.kills]
  | x :: xs, 0 => by simp [T.kills]
  | x :: xs, k + 1 => by simp [T.kills, kills_getq id xs k]

theorem put_get (st : St) (d : Option Nat) (x : T) (p : Nat) : (st.put d x).t[p]? = if d = some p then (st.t[p]?).map (fun _ => x) else st.t[p]? := by
  cases d with
  | none => simp [St.put]
  | some d =>
    simp only [St.put, List.getElem?_set, Option.some.injEq]
    by_cases hd : d = p
    · subst hd
      by_cases hl : d < st.t.length
      · simp [hl]
      · simp [hl]
    · simp [hd]

theorem put_m (st : St) (d : Option Nat) (x : T) : (st.put d x).m = st.m := by cases d <;> rfl

theorem apply_t (st : St) (e : Eff) (p : Nat) : (st.apply e).t[p]? = (st.t[p]?).map (killo e.kl) := by
  unfold St.apply
  split
  · rename_i h; rw [h]; cases st.t[p]? <;> rfl
  · rename_i id h; rw [h]; exact kills_getq _ _ _

theorem apply_m (st : St) (e : Eff) (id : Nat) : (st.apply e).m[id]? = match wsAt e.ws id with
    | some c => (st.m[id]?).map fun _ => some ⟨c, false⟩
    | none => (st.m[id]?).map fun o => o.map fun o => ⟨o.c.killo e.kl, o.fz || memB id e.fr⟩ := by
  have hfr : (freezeO e.fr st.m)[id]? = (st.m[id]?).map fun o => o.map fun o => ⟨o.c, o.fz || memB id e.fr⟩ := by
    rw [freezeO_eq, freeze_get]
    congr 1
    funext o
    cases o with
    | none => rfl
    | some o =>
      simp only [Option.map_some, Nat.zero_add]
      cases hm : memB id e.fr <;> simp
  unfold St.apply
  split
  · rename_i h
    simp only [setWs_get, hfr]
    cases wsAt e.ws id with
    | some c => simp [Function.comp_def]
    | none => simp [h, Cont.killo]
  · rename_i a h
    simp only [setWs_get, killM_get, hfr]
    cases wsAt e.ws id with
    | some c => simp [Function.comp_def]
    | none =>
      simp only [h, Option.map_map]
      congr 1
      funext o
      cases o <;> simp [Cont.killo]

theorem ap_t (c : Rec) (st : St) (p : Nat) : (c.ap st).t[p]? = if c.o.dst = some p then (st.t[p]?).map (fun _ => c.x) else (st.t[p]?).map (killo c.kl) := by
  unfold Rec.ap Rec.x Rec.kl
  split
  · rw [put_get]
    split
    · rfl
    · cases st.t[p]? <;> rfl
  · rename_i e _
    rw [put_get, apply_t]
    split
    · cases st.t[p]? <;> rfl
    · rfl

theorem ap_m (c : Rec) (st : St) (id : Nat) : (c.ap st).m[id]? = match wsAt c.ws id with
    | some ct => (st.m[id]?).map fun _ => some ⟨ct, false⟩
    | none => (st.m[id]?).map fun o => o.map fun o => ⟨o.c.killo c.kl, o.fz || memB id c.fr⟩ := by
  unfold Rec.ap Rec.ws Rec.kl Rec.fr
  split
  · rw [put_m]
    simp only [wsAt, Cont.killo, memB, Bool.or_false]
    cases h : st.m[id]? with
    | none => rfl
    | some o => cases o <;> rfl
  · rw [put_m, apply_m]

/-! ## Two effects -/

def dstNe : Option Nat → Option Nat → Bool
  | some a, some b => !Nat.beq a b
  | _, _ => true
def wsFree (k : Option Nat) : List (Nat × Cont) → Bool
  | [] => true
  | (_, c) :: ws => c.freeo k && wsFree k ws
/-- None of what the first writes is written or frozen by the second. -/
def wsOff (d : Rec) : List (Nat × Cont) → Bool
  | [] => true
  | (j, _) :: ws => (match wsAt d.ws j with | some _ => false | none => !memB j d.fr) && wsOff d ws
def isNo : Option Nat → Bool
  | none => true
  | some _ => false
def commB (c d : Rec) : Bool :=
  dstNe c.o.dst d.o.dst && (isNo c.kl || isNo d.kl) && freeo d.kl c.x && freeo c.kl d.x && wsFree d.kl c.ws && wsFree c.kl d.ws && wsOff d c.ws && wsOff c d.ws

theorem wsFree_ok {k : Option Nat} : ∀ {ws : List (Nat × Cont)}, wsFree k ws = true → ∀ {id : Nat} {c : Cont}, wsAt ws id = some c → c.killo k = c
  | [], _, id, c, h => by simp [wsAt] at h
  | (j, c0) :: ws, h, id, c, hw => by
    simp only [wsFree, Bool.and_eq_true] at h
    simp only [wsAt] at hw
    split at hw
    · rename_i c' hc'
      simp only [Option.some.injEq] at hw; subst hw
      exact wsFree_ok h.2 hc'
    · split at hw
      · simp only [Option.some.injEq] at hw; subst hw
        exact Cont.killo_free h.1
      · cases hw

theorem wsOff_ok {d : Rec} : ∀ {ws : List (Nat × Cont)}, wsOff d ws = true → ∀ {id : Nat} {c : Cont}, wsAt ws id = some c → wsAt d.ws id = none ∧ memB id d.fr = false
  | [], _, id, c, h => by simp [wsAt] at h
  | (j, c0) :: ws, h, id, c, hw => by
    simp only [wsOff, Bool.and_eq_true] at h
    simp only [wsAt] at hw
    split at hw
    · rename_i c' hc'
      exact wsOff_ok h.2 hc'
    · split at hw
      · rename_i hj
        have hj := Nat.eq_of_beq_eq_true hj
        subst hj
        have h1 := h.1
        split at h1
        · cases h1
        · rename_i hn
          exact ⟨hn, by simpa using h1⟩
      · cases hw

theorem killo_comm {a b : Option Nat} (h : (isNo a || isNo b) = true) (x : T) : killo a (killo b x) = killo b (killo a x) := by
  cases a <;> cases b <;> simp [killo, isNo] at h ⊢
theorem Cont.killo_comm {a b : Option Nat} (h : (isNo a || isNo b) = true) (x : Cont) : (x.killo b).killo a = (x.killo a).killo b := by
  cases a <;> cases b <;> simp [Cont.killo, isNo] at h ⊢

theorem St.ext' {a b : St} (h1 : ∀ p : Nat, a.t[p]? = b.t[p]?) (h2 : ∀ p : Nat, a.m[p]? = b.m[p]?) : a = b := by
  cases a; cases b
  simp only [St.mk.injEq]
  exact ⟨List.ext_getElem? h1, List.ext_getElem? h2⟩

theorem ap_comm {c d : Rec} (h : commB c d = true) (st : St) : d.ap (c.ap st) = c.ap (d.ap st) := by
  simp only [commB, Bool.and_eq_true] at h
  obtain ⟨⟨⟨⟨⟨⟨⟨h1, h2⟩, h3⟩, h4⟩, h5⟩, h6⟩, h7⟩, h8⟩ := h
  refine St.ext' (fun p => ?_) (fun id => ?_)
  · rw [ap_t, ap_t, ap_t, ap_t]
    by_cases hd : d.o.dst = some p
    · have hc : c.o.dst ≠ some p := by
        intro hc
        rw [hc, hd] at h1
        simp [dstNe] at h1
      rw [if_pos hd, if_neg hc, if_neg hc, if_pos hd]
      cases st.t[p]? with
      | none => rfl
      | some y => simp [killo_free h4]
    · rw [if_neg hd, if_neg hd]
      by_cases hc : c.o.dst = some p
      · rw [if_pos hc, if_pos hc]
        cases st.t[p]? with
        | none => rfl
        | some y => simp [killo_free h3]
      · rw [if_neg hc, if_neg hc]
        cases st.t[p]? with
        | none => rfl
        | some y => simp only [Option.map_some]; rw [killo_comm (by simpa [Bool.or_comm] using h2)]
  · rw [ap_m, ap_m, ap_m, ap_m]
    cases hd : wsAt d.ws id with
    | some ct =>
      obtain ⟨g1, g2⟩ := wsOff_ok h8 hd
      simp only [g1]
      cases st.m[id]? with
      | none => rfl
      | some y => simp [wsFree_ok h6 hd, g2]
    | none =>
      cases hc : wsAt c.ws id with
      | some ct =>
        obtain ⟨g1, g2⟩ := wsOff_ok h7 hc
        cases st.m[id]? with
        | none => rfl
        | some y => simp [wsFree_ok h5 hc, g2]
      | none =>
        cases st.m[id]? with
        | none => rfl
        | some y =>
          cases y with
          | none => rfl
          | some y =>
            simp only [Option.map_some, Option.some.injEq, Obj.mk.injEq]
            exact ⟨Cont.killo_comm (by simpa [Bool.or_comm] using h2) _, by cases y.fz <;> cases memB id c.fr <;> cases memB id d.fr <;> rfl⟩

end Go.AL
