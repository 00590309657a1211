/- The state of the abstract machine, and what it says of a frame and a world. No condition. -/
import Derived.Test.YtngcjhiflplkbaaALBase
namespace Go.AL
open Go

mutual
/-- Does it lead to no memory of the call's own? -/
def T.data : T → Bool
  | .agg fs => T.datas fs
  | .ifc _ x => T.data x
  | .clo _ caps => T.datas caps
  | .ref .. | .row .. => false
  | _ => true
def T.datas : List T → Bool
  | [] => true
  | x :: xs => T.data x && T.datas xs
end

section
variable {w : World} {N : Nat → Prop} {X X' : Ext}
mutual
theorem RC.data : ∀ (x : T) (cs : List Value), x.data = true → RC w N X x cs → RC w N X' x cs
  | .i _, _, _, k | .b _, _, _, k | .u8 _, _, _, k | .u32 _, _, _, k | .u64 _, _, _, k | .s _, _, _, k | .v _, _, _, k | .ba _ _, _, _, k | .sb _, _, _, k | .sl _ _, _, _, k | .pt _, _, _, k | .arr _ _ _, _, _, k | .junk, _, _, k => by simpa only [RC] using k
  | .agg fs, cs, d, k => by
    simp only [RC] at k ⊢
    exact RL.data fs cs (by simpa [T.data] using d) k
  | .ifc t x, cs, d, k => by
    simp only [RC] at k ⊢
    obtain ⟨y, h1, h2⟩ := k
    refine ⟨y, h1, ?_⟩
    have d' : x.data = true := by simpa [T.data] using d
    rcases h2 with ⟨h2, ds, h3, h4⟩ | ⟨h2, h4⟩
    · exact .inl ⟨h2, ds, h3, RC.data x ds d' h4⟩
    · exact .inr ⟨h2, RC.data x _ d' h4⟩
  | .clo f caps, cs, d, k => by
    simp only [RC] at k ⊢
    obtain ⟨vs, h1, h2, h3⟩ := k
    exact ⟨vs, h1, RL.data caps vs (by simpa [T.data] using d) h2, h3⟩
  | .ref id path, cs, d, k => by simp [T.data] at d
  | .row id path off rest, cs, d, k => by simp [T.data] at d
  | .tup _, _, _, k | .ow _, _, _, k | .os _ _, _, _, k => by simp only [RC] at k
theorem RL.data : ∀ (xs : List T) (cs : List Value), T.datas xs = true → RL w N X xs cs → RL w N X' xs cs
  | [], cs, _, k => by simpa only [RL] using k
  | x :: xs, cs, d, k => by
    simp only [RL] at k ⊢
    obtain ⟨c1, c2, h1, h2, h3, h4⟩ := k
    simp [T.datas] at d
    exact ⟨c1, c2, h1, h2, RC.data x c1 d.1 h3, RL.data xs c2 d.2 h4⟩
end
end

theorem Ext.none_le (X : Ext) : Ext.none.Le X := ⟨fun _ _ _ h => False.elim h, fun _ _ _ _ _ h => False.elim h⟩

theorem RC.up {w : World} {N : Nat → Prop} {X : Ext} (x : T) (cs : List Value) (h : RC w N Ext.none x cs) : RC w N X x cs :=
  RC.mono (fun _ hb _ => ⟨hb, rfl⟩) (Ext.none_le X) x cs h

/-- A part: what stands there, how the whole is made anew with another one, what must hold, whether it lies in an array of structs. -/
structure Nav where
  y : T
  f : T → Option T
  ob : Prop
  ar : Bool

def T.nav : List Nat → T → List T → Option Nav
  | [], x, _ => some ⟨x, some, True, false⟩
  | k :: p, .agg fs, q =>
    match fs[k]? with
    | some x => match T.nav p x q with
      | some n => some ⟨n.y, fun z => match n.f z with | some x' => some (.agg (fs.set k x')) | none => none, n.ob, n.ar⟩
      | none => none
    | none => none
  | [k], .ba n l, _ => some ⟨.u8 (l.getD k 0), fun | .u8 x => some (.ba n (l.set k x)) | _ => none, k < n, false⟩
  | k :: p, .arr n e xs, [] =>
    match xs[k]? with
    | some x => if Sk.beq x.sk e then match T.nav p x [] with
      | some m => some ⟨m.y, fun z => match m.f z with | some x' => some (.arr n e (xs.set k x')) | none => none, m.ob, true⟩
      | none => none
      else none
    | none => none
  | k :: p, .arr n e xs, x :: q =>
    if Sk.beq x.sk e then match T.nav p x q with
      | some m => some ⟨m.y, fun z => match m.f z with | some x' => some (.arr n e (xs.set k x')) | none => none, xs[k]? = some x ∧ m.ob, true⟩
      | none => none
    else none
  | _, _, _ => none

theorem sks_length : ∀ (xs : List T), (T.sks xs).length = xs.length
  | [] => rfl
  | _ :: xs => by simp [T.sks, sks_length xs]

theorem sks_get : ∀ (xs : List T) (k : Nat) (x : T), xs[k]? = some x → (T.sks xs)[k]? = some x.sk
  | [], _, _, h => by simp at h
  | z :: zs, 0, x, h => by simp at h; subst h; rfl
  | z :: zs, k + 1, x, h => by simp at h; simpa [T.sks] using sks_get zs k x h

theorem sks_set : ∀ (xs : List T) (k : Nat) (x y : T), xs[k]? = some x → y.sk = x.sk → T.sks (xs.set k y) = T.sks xs
  | [], _, _, _, h, _ => by simp at h
  | z :: zs, 0, x, y, h, e => by simp at h; subst h; simp [T.sks, e]
  | z :: zs, k + 1, x, y, h, e => by simp at h; simp [T.sks, sks_set zs k x y h e]

theorem ba_at (l : List UInt8) (k : Nat) (hk : k < l.length) : l.map u8v = (l.take k).map u8v ++ [u8v (l.getD k 0)] ++ (l.drop (k + 1)).map u8v := by
  rw [← List.map_singleton, ← List.map_append, ← List.map_append]
  congr 1
  rw [List.getD_eq_getElem?_getD, List.getElem?_eq_getElem hk, Option.getD_some]
  simp

theorem ba_set (l : List UInt8) (k : Nat) (x : UInt8) (hk : k < l.length) : (l.set k x).map u8v = (l.take k).map u8v ++ [u8v x] ++ (l.drop (k + 1)).map u8v := by
  rw [← List.map_singleton, ← List.map_append, ← List.map_append]
  congr 1
  rw [List.set_eq_take_append_cons_drop]
  simp [hk]

theorem T.nav_ok {w : World} {N : Nat → Prop} {X : Ext} : ∀ (p : List Nat) (x : T) (q : List T) (n : Nav) (cs : List Value), T.nav p x q = some n → RC w N X x cs → n.ob →
    x.sk.sub p = some n.y.sk ∧ ∃ pre c post, cs = pre ++ c ++ post ∧ pre.length = x.sk.off p ∧ RC w N X n.y c ∧
      ∀ z c' x', z.sk = n.y.sk → (n.ar = true → z.data = true) → RC w N X z c' → n.f z = some x' → RC w N X x' (pre ++ c' ++ post) ∧ x'.sk = x.sk
  | [], x, q, n, cs, h, hc, _ => by
    simp only [T.nav, Option.some.injEq] at h
    subst h
    refine ⟨by simp [Sk.sub], [], cs, [], by simp, by simp [Sk.off], hc, fun z c' x' hz _ hzc hf => ?_⟩
    simp only [Option.some.injEq] at hf
    subst hf
    exact ⟨by simpa using hzc, hz⟩
  | k :: p, .agg fs, q, n, cs, h, hc, ho => by
    simp only [T.nav] at h
    cases hx : fs[k]? with
    | none => simp [hx] at h
    | some x =>
      cases hn : T.nav p x q with
      | none => simp [hx, hn] at h
      | some m =>
        simp only [hx, hn, Option.some.injEq] at h
        subst h
        simp only [RC] at hc
        obtain ⟨pre, c, post, e1, e2, e3, e4⟩ := RL.at fs cs k x hc hx
        obtain ⟨s1, pre', c', post', g1, g2, g3, g4⟩ := T.nav_ok p x q m c hn e3 ho
        have hk := sks_get fs k x hx
        refine ⟨by simp only [T.sk, Sk.sub, hk]; exact s1, pre ++ pre', c', post' ++ post, by rw [e1, g1]; simp, ?_, g3, ?_⟩
        · simp only [T.sk, Sk.off, hk, List.length_append, e2, g2]
        · intro z d x' hz hd hzd hf
          cases hfz : m.f z with
          | none => simp [hfz] at hf
          | some y' =>
            simp only [hfz, Option.some.injEq] at hf
            subst hf
            obtain ⟨r1, r2⟩ := g4 z d y' hz hd hzd hfz
            refine ⟨?_, ?_⟩
            · simp only [RC]
              have := e4 y' (pre' ++ d ++ post') (by rw [r2]) r1
              simpa using this
            · simp only [T.sk, sks_set fs k x y' hx r2]
  | [k], .ba m l, q, n, cs, h, hc, ho => by
    simp only [T.nav, Option.some.injEq] at h
    subst h
    simp only [RC] at hc
    obtain ⟨hl, rfl⟩ := hc
    simp only at ho
    have hk : k < l.length := by omega
    refine ⟨by simp [T.sk, Sk.sub], (l.take k).map u8v, [u8v (l.getD k 0)], (l.drop (k + 1)).map u8v, ba_at l k hk, ?_, by simp only [RC], ?_⟩
    · simp [T.sk, Sk.off]; omega
    · intro z c' x' hz _ hzc hf
      cases z <;> simp at hf
      subst hf
      simp only [RC] at hzc ⊢
      subst hzc
      exact ⟨⟨by simpa using hl, (ba_set l k _ hk).symm⟩, rfl⟩
  | k :: p, .arr m e xs, [], n, cs, h, hc, ho => by
    simp only [T.nav] at h
    cases hx : xs[k]? with
    | none => simp [hx] at h
    | some x =>
      by_cases hb : Sk.beq x.sk e = true
      · cases hn : T.nav p x [] with
        | none => simp [hx, hb, hn] at h
        | some m' =>
          simp only [hx, hb, hn, if_true, Option.some.injEq] at h
          subst h
          simp only [RC] at hc
          obtain ⟨pre, c, post, e1, e2, e2', e3, e4⟩ := RU.at xs cs k x hc.2 hx
          obtain ⟨s1, pre', c', post', g1, g2, g3, g4⟩ := T.nav_ok (X := X) p x [] m' c hn (RC.up x c e3) ho
          refine ⟨by simp only [T.sk, Sk.sub]; rw [← e2']; exact s1, pre ++ pre', c', post' ++ post, by rw [e1, g1]; simp, ?_, g3, ?_⟩
          · simp only [T.sk, Sk.off, List.length_append, e2, g2, e2']
          · intro z d x' hz hd hzd hf
            cases hfz : m'.f z with
            | none => simp [hfz] at hf
            | some y' =>
              simp only [hfz, Option.some.injEq] at hf
              subst hf
              have hd' := hd rfl
              obtain ⟨s1', pre2, c2, post2, k1, k2, k3, k4⟩ := T.nav_ok (X := Ext.none) p x [] m' c hn e3 ho
              have hpre : pre2 = pre' ∧ c2 = c' ∧ post2 = post' := by
                have hl : pre2.length = pre'.length := by rw [k2, g2]
                have hc2 : c2.length = c'.length := by rw [RC.length _ _ k3, RC.length _ _ g3]
                rw [g1, List.append_assoc, List.append_assoc] at k1
                obtain ⟨q1, q2⟩ := List.append_inj k1 hl.symm
                obtain ⟨q3, q4⟩ := List.append_inj q2 hc2.symm
                exact ⟨q1.symm, q3.symm, q4.symm⟩
              obtain ⟨rfl, rfl, rfl⟩ := hpre
              obtain ⟨r1, r2⟩ := k4 z d y' hz (fun _ => hd') (RC.data z d hd' hzd) hfz
              refine ⟨?_, by simp [T.sk]⟩
              simp only [RC]
              refine ⟨by simpa using hc.1, ?_⟩
              have := e4 y' (pre2 ++ d ++ post2) (by rw [r2, e2']) r1
              simpa using this
      · simp [hx, hb] at h
  | k :: p, .arr m e xs, x :: q, n, cs, h, hc, ho => by
    simp only [T.nav] at h
    by_cases hb : Sk.beq x.sk e = true
    · cases hn : T.nav p x q with
      | none => simp [hb, hn] at h
      | some m' =>
        simp only [hb, hn, if_true, Option.some.injEq] at h
        subst h
        simp only at ho
        obtain ⟨hx, ho⟩ := ho
        simp only [RC] at hc
        obtain ⟨pre, c, post, e1, e2, e2', e3, e4⟩ := RU.at xs cs k x hc.2 hx
        obtain ⟨s1, pre', c', post', g1, g2, g3, g4⟩ := T.nav_ok (X := X) p x q m' c hn (RC.up x c e3) ho
        refine ⟨by simp only [T.sk, Sk.sub]; rw [← e2']; exact s1, pre ++ pre', c', post' ++ post, by rw [e1, g1]; simp, ?_, g3, ?_⟩
        · simp only [T.sk, Sk.off, List.length_append, e2, g2, e2']
        · intro z d x' hz hd hzd hf
          cases hfz : m'.f z with
          | none => simp [hfz] at hf
          | some y' =>
            simp only [hfz, Option.some.injEq] at hf
            subst hf
            have hd' := hd rfl
            obtain ⟨s1', pre2, c2, post2, k1, k2, k3, k4⟩ := T.nav_ok (X := Ext.none) p x q m' c hn e3 ho
            have hpre : pre2 = pre' ∧ c2 = c' ∧ post2 = post' := by
              have hl : pre2.length = pre'.length := by rw [k2, g2]
              have hc2 : c2.length = c'.length := by rw [RC.length _ _ k3, RC.length _ _ g3]
              rw [g1, List.append_assoc, List.append_assoc] at k1
              obtain ⟨q1, q2⟩ := List.append_inj k1 hl.symm
              obtain ⟨q3, q4⟩ := List.append_inj q2 hc2.symm
              exact ⟨q1.symm, q3.symm, q4.symm⟩
            obtain ⟨rfl, rfl, rfl⟩ := hpre
            obtain ⟨r1, r2⟩ := k4 z d y' hz (fun _ => hd') (RC.data z d hd' hzd) hfz
            refine ⟨?_, by simp [T.sk]⟩
            simp only [RC]
            refine ⟨by simpa using hc.1, ?_⟩
            have := e4 y' (pre2 ++ d ++ post2) (by rw [r2, e2']) r1
            simpa using this
    · simp [hb] at h

/-- What an object holds: a variable; a row of bytes; a row. -/
inductive Cont where
  | var (x : T)
  | rb (l : List UInt8)
  | rs (e : Sk) (xs : List T)

def Cont.off : Cont → List Nat → Nat
  | .var x, p => x.sk.off p
  | .rb _, [] => 0
  | .rb _, k :: _ => k
  | .rs _ _, [] => 0
  | .rs e _, k :: p => k * e.size + e.off p

/-- Of the array at a place: how many, and how many cells each. -/
def Sk.arrOf : Option Sk → Option (Nat × Nat)
  | some (.ba n) => some (n, 1)
  | some (.ar n e) => some (n, e.size)
  | _ => none

def Cont.len : Cont → List Nat → Option (Nat × Nat)
  | .var x, p => Sk.arrOf (x.sk.sub p)
  | .rb l, [] => some (l.length, 1)
  | .rs e xs, [] => some (xs.length, e.size)
  | _, _ => none

structure CNav where
  y : T
  f : T → Option Cont
  ob : Prop
  ar : Bool

def Cont.nav : Cont → List Nat → List T → Option CNav
  | .var x, p, q => match T.nav p x q with
    | some n => some ⟨n.y, fun z => match n.f z with | some x' => some (.var x') | none => none, n.ob, n.ar⟩
    | none => none
  | .rb l, [k], _ => some ⟨.u8 (l.getD k 0), fun | .u8 x => some (.rb (l.set k x)) | _ => none, k < l.length, false⟩
  | .rs e xs, k :: p, [] => match T.nav (k :: p) (.arr xs.length e xs) [] with
    | some n => some ⟨n.y, fun z => match n.f z with | some (.arr _ _ ys) => some (.rs e ys) | _ => none, n.ob, true⟩
    | none => none
  | .rs e xs, k :: p, x :: q => match T.nav (k :: p) (.arr xs.length e xs) (x :: q) with
    | some n => some ⟨n.y, fun z => match n.f z with | some (.arr _ _ ys) => some (.rs e ys) | _ => none, n.ob, true⟩
    | none => none
  | _, _, _ => none

/-- The cells of an object's block. -/
def CC (w : World) (N : Nat → Prop) (X : Ext) : Cont → List Value → Prop
  | .var x, cs => RC w N X x cs
  | .rb l, cs => ∃ r, cs = l.map u8v ++ r
  | .rs e xs, cs => ∃ c r, cs = c ++ r ∧ RU w N e xs c

theorem CC.mono {w w' : World} {N N' : Nat → Prop} {X X' : Ext} (h : Stay w w' N N') (hX : X.Le X') (c : Cont) (cs : List Value) (k : CC w N X c cs) : CC w' N' X' c cs := by
  cases c with
  | var x => exact RC.mono h hX x cs k
  | rb l => exact k
  | rs e xs =>
    obtain ⟨c, r, h1, h2⟩ := k
    exact ⟨c, r, h1, RU.mono h xs c h2⟩

/-- The same parts, and as many. -/
def Cont.Like (c c' : Cont) : Prop :=
  match c, c' with
  | .var x, .var y => x.sk = y.sk
  | .rb l, .rb k => l.length = k.length
  | .rs e xs, .rs f ys => e = f ∧ xs.length = ys.length
  | _, _ => False

theorem Cont.Like.off {c c' : Cont} (h : c.Like c') (p : List Nat) : c'.off p = c.off p := by
  cases c <;> cases c' <;> simp only [Cont.Like] at h
  · simp [Cont.off, h]
  · cases p <;> rfl
  · obtain ⟨rfl, _⟩ := h; cases p <;> rfl

theorem Cont.Like.len {c c' : Cont} (h : c.Like c') (p : List Nat) : c'.len p = c.len p := by
  cases c <;> cases c' <;> simp only [Cont.Like] at h
  · simp [Cont.len, h]
  · cases p <;> simp [Cont.len, h]
  · obtain ⟨rfl, h⟩ := h; cases p <;> simp [Cont.len, h]

theorem Cont.Like.refl (c : Cont) : c.Like c := by cases c <;> simp [Cont.Like]

theorem arr_f {m : Nat} {e : Sk} {xs : List T} {k : Nat} {p : List Nat} {q : List T} {n : Nav} (h : T.nav (k :: p) (.arr m e xs) q = some n) {z x' : T} (hf : n.f z = some x') :
    ∃ ys, x' = .arr m e ys ∧ ys.length = xs.length := by
  cases q with
  | nil =>
    simp only [T.nav] at h
    cases hx : xs[k]? with
    | none => simp [hx] at h
    | some x =>
      by_cases hb : Sk.beq x.sk e = true
      · cases hn : T.nav p x [] with
        | none => simp [hx, hb, hn] at h
        | some m' =>
          simp only [hx, hb, hn, if_true, Option.some.injEq] at h
          subst h
          cases hfz : m'.f z with
          | none => simp [hfz] at hf
          | some y' =>
            simp only [hfz, Option.some.injEq] at hf
            exact ⟨_, hf.symm, by simp⟩
      · simp [hx, hb] at h
  | cons x q =>
    simp only [T.nav] at h
    by_cases hb : Sk.beq x.sk e = true
    · cases hn : T.nav p x q with
      | none => simp [hb, hn] at h
      | some m' =>
        simp only [hb, hn, if_true, Option.some.injEq] at h
        subst h
        cases hfz : m'.f z with
        | none => simp [hfz] at hf
        | some y' =>
          simp only [hfz, Option.some.injEq] at hf
          exact ⟨_, hf.symm, by simp⟩
    · simp [hb] at h

theorem arr_ar {m : Nat} {e : Sk} {xs : List T} {k : Nat} {p : List Nat} {q : List T} {n : Nav} (h : T.nav (k :: p) (.arr m e xs) q = some n) : n.ar = true := by
  cases q with
  | nil =>
    simp only [T.nav] at h
    split at h
    · split at h
      · split at h
        · simp only [Option.some.injEq] at h; subst h; rfl
        · cases h
      · cases h
    · cases h
  | cons x q =>
    simp only [T.nav] at h
    split at h
    · split at h
      · simp only [Option.some.injEq] at h; subst h; rfl
      · cases h
    · cases h

theorem Cont.nav_ok {w : World} {N : Nat → Prop} {X : Ext} (c : Cont) (p : List Nat) (q : List T) (n : CNav) (cs : List Value) (h : c.nav p q = some n) (hc : CC w N X c cs) (ho : n.ob) :
    ∃ pre d post, cs = pre ++ d ++ post ∧ pre.length = c.off p ∧ RC w N X n.y d ∧
      ∀ z d' c', z.sk = n.y.sk → (n.ar = true → z.data = true) → RC w N X z d' → n.f z = some c' → CC w N X c' (pre ++ d' ++ post) ∧ c.Like c' := by
  cases c with
  | var x =>
    simp only [Cont.nav] at h
    cases hn : T.nav p x q with
    | none => simp [hn] at h
    | some m =>
      simp only [hn, Option.some.injEq] at h
      subst h
      obtain ⟨_, pre, d, post, e1, e2, e3, e4⟩ := T.nav_ok p x q m cs hn hc ho
      refine ⟨pre, d, post, e1, e2, e3, fun z d' c' hz hd hzd hf => ?_⟩
      cases hfz : m.f z with
      | none => simp [hfz] at hf
      | some x' =>
        simp only [hfz, Option.some.injEq] at hf
        subst hf
        obtain ⟨r1, r2⟩ := e4 z d' x' hz hd hzd hfz
        exact ⟨r1, r2.symm⟩
  | rb l =>
    obtain ⟨r, hr⟩ := hc
    cases p with
    | nil => simp [Cont.nav] at h
    | cons k p =>
      cases p with
      | cons k' p => simp [Cont.nav] at h
      | nil =>
        simp only [Cont.nav, Option.some.injEq] at h
        subst h
        simp only at ho
        refine ⟨(l.take k).map u8v, [u8v (l.getD k 0)], (l.drop (k + 1)).map u8v ++ r, ?_, ?_, by simp only [RC], ?_⟩
        · rw [hr, ba_at l k ho]; simp
        · simp [Cont.off]; omega
        · intro z d' c' hz _ hzd hf
          cases z <;> simp at hf
          subst hf
          simp only [RC] at hzd
          subst hzd
          refine ⟨⟨r, ?_⟩, by simp [Cont.Like]⟩
          rw [ba_set l k _ ho]; simp
  | rs e xs =>
    obtain ⟨c0, r, hr, hu⟩ := hc
    have main : ∀ (k : Nat) (p : List Nat) (q : List T) (m : Nav), T.nav (k :: p) (.arr xs.length e xs) q = some m → m.ob →
        ∃ pre d post, cs = pre ++ d ++ post ∧ pre.length = (Cont.rs e xs).off (k :: p) ∧ RC w N X m.y d ∧
          ∀ z d' c', z.sk = m.y.sk → (true = true → z.data = true) → RC w N X z d' → (match m.f z with | some (.arr _ _ ys) => some (Cont.rs e ys) | _ => none) = some c' → CC w N X c' (pre ++ d' ++ post) ∧ (Cont.rs e xs).Like c' := by
      intro k p q m hm ho
      have hc : RC w N X (.arr xs.length e xs) c0 := by simp only [RC]; exact ⟨trivial, hu⟩
      obtain ⟨_, pre, d, post, e1, e2, e3, e4⟩ := T.nav_ok (k :: p) _ q m c0 hm hc ho
      refine ⟨pre, d, post ++ r, by rw [hr, e1]; simp, ?_, e3, fun z d' c' hz hd hzd hf => ?_⟩
      · rw [e2]; simp [T.sk, Sk.off, Cont.off]
      · cases hfz : m.f z with
        | none => simp [hfz] at hf
        | some x' =>
          obtain ⟨ys, rfl, hlen⟩ := arr_f hm hfz
          simp only [hfz, Option.some.injEq] at hf
          subst hf
          obtain ⟨r1, r2⟩ := e4 z d' _ hz (fun _ => hd rfl) hzd hfz
          simp only [RC] at r1
          exact ⟨⟨pre ++ d' ++ post, r, by simp, r1.2⟩, rfl, hlen.symm⟩
    cases p with
    | nil => simp [Cont.nav] at h
    | cons k p =>
      cases q with
      | nil =>
        simp only [Cont.nav] at h
        cases hn : T.nav (k :: p) (.arr xs.length e xs) [] with
        | none => simp [hn] at h
        | some m =>
          simp only [hn, Option.some.injEq] at h
          subst h
          exact main k p [] m hn ho
      | cons x q =>
        simp only [Cont.nav] at h
        cases hn : T.nav (k :: p) (.arr xs.length e xs) (x :: q) with
        | none => simp [hn] at h
        | some m =>
          simp only [hn, Option.some.injEq] at h
          subst h
          exact main k p (x :: q) m hn ho

structure Obj where
  c : Cont
  fz : Bool

structure St where
  t : List T
  m : List (Option Obj)

/-- Where the objects lie: block, cells; none: a row that is nil. -/
abbrev Bel := Nat → Option (Nat × Nat)

def RowAt (c : Cont) (β : Option (Nat × Nat)) (p : List Nat) (off : Nat) (rest : Option Nat) (v : Value) : Prop :=
  ∃ n sz, c.len p = some (n, sz) ∧ off + rest.getD (n - off) ≤ n ∧
    match β with
    | some (b, k) => ∃ A cap, v = .slice (some A) (rest.getD (n - off)) cap ∧ rest.getD (n - off) ≤ cap ∧ c.off p + (off + cap) * sz ≤ k ∧ (0 < cap → A = ⟨b, c.off p + off * sz, none⟩)
    | none => v = .slice none 0 0 ∧ rest.getD (n - off) = 0 ∧ p = [] ∧ off = 0

def ext (m : List (Option Obj)) (β : Bel) : Ext where
  rf id p a := ∃ o b k, m[id]? = some (some o) ∧ β id = some (b, k) ∧ a = ⟨b, o.c.off p, none⟩
  rw id p off rest v := ∃ o, m[id]? = some (some o) ∧ RowAt o.c (β id) p off rest v

/-- The blocks that may be written. -/
def Mut (N0 : Nat → Prop) (m : List (Option Obj)) (β : Bel) (b : Nat) : Prop :=
  N0 b ∨ ∃ id o k, m[id]? = some (some o) ∧ o.fz = false ∧ β id = some (b, k)

/-- All old blocks but some are as they were. -/
structure Keeps (F : Nat → Prop) (w w' : World) : Prop where
  os : w'.os = w.os
  tape : w'.tape = w.tape
  output : w'.output = w.output
  size : w.heap.size ≤ w'.heap.size
  block : ∀ b, b < w.heap.size → ¬ F b → w'.heap[b]? = w.heap[b]?

theorem Keeps.refl (F : Nat → Prop) (w : World) : Keeps F w w := ⟨rfl, rfl, rfl, Nat.le_refl _, fun _ _ _ => rfl⟩

theorem Keeps.trans {F G H : Nat → Prop} {a b c : World} (h : Keeps F a b) (k : Keeps G b c) (hF : ∀ x, F x → H x) (hG : ∀ x, x < a.heap.size → G x → H x) : Keeps H a c :=
  ⟨k.os.trans h.os, k.tape.trans h.tape, k.output.trans h.output, Nat.le_trans h.size k.size,
    fun x hx hn => (k.block x (Nat.lt_of_lt_of_le hx h.size) fun g => hn (hG x hx g)).trans (h.block x hx fun f => hn (hF x f))⟩

theorem Keeps.mono {F G : Nat → Prop} {a b : World} (h : Keeps F a b) (hF : ∀ x, x < a.heap.size → F x → G x) : Keeps G a b :=
  ⟨h.os, h.tape, h.output, h.size, fun x hx hn => h.block x hx fun f => hn (hF x hx f)⟩

/-- What a slot holds. -/
def RT (w : World) (N : Nat → Prop) (X : Ext) : T → Value → Prop
  | .junk, _ => True
  | .tup xs, v => ∃ vs : List Value, v = .tuple vs.toArray ∧ vs.length = xs.length ∧ ∀ (k : Nat) (x : T), xs[k]? = some x → ∃ y, vs[k]? = some y ∧ RV w N X x y
  | x, v => RV w N X x v

theorem RT.mono {w w' : World} {N N' : Nat → Prop} {X X' : Ext} (h : Stay w w' N N') (hX : X.Le X') {x : T} {v : Value} (k : RT w N X x v) : RT w' N' X' x v := by
  cases x
  case junk => trivial
  case tup xs =>
    obtain ⟨vs, h1, h2, h3⟩ := k
    refine ⟨vs, h1, h2, fun j x hx => ?_⟩
    obtain ⟨y, hy, hr⟩ := h3 j x hx
    exact ⟨y, hy, hr.mono h hX⟩
  all_goals exact RV.mono h hX k

/-- Around a call: the world in which it began, the blocks that it may write, the caller's. -/
structure Ctx where
  w0 : World
  F : Nat → Prop
  N0 : Nat → Prop
  nio : Nat
  io : Nat → Nat
  sz : Nat → Nat

structure Sim (C : Ctx) (β : Bel) (st : St) (a : Act) (w : World) : Prop where
  sz : a.tmps.size = st.t.length
  df : a.defers = []
  tm : ∀ k x, st.t[k]? = some x → RT w (Mut C.N0 st.m β) (ext st.m β) x (a.tmps.getD k undef)
  me : ∀ id o, st.m[id]? = some (some o) → match β id with
    | some (b, k) => ∃ cs e fz, w.heap[b]? = some (.cells cs e fz) ∧ cs.size = k ∧ (o.fz = false → fz = (0, 0)) ∧ CC w (Mut C.N0 st.m β) (ext st.m β) o.c cs.toList
    | none => o.c = .rb [] ∨ ∃ e, o.c = .rs e []
  inj : ∀ id id' o o' b k k', st.m[id]? = some (some o) → st.m[id']? = some (some o') → β id = some (b, k) → β id' = some (b, k') → id = id'
  loc : ∀ id o b k, st.m[id]? = some (some o) → β id = some (b, k) → (C.nio ≤ id ∧ C.w0.heap.size ≤ b) ∨ (id < C.nio ∧ C.io id = b ∧ C.F b ∧ C.sz id = k)
  ios : ∀ id, id < C.nio → ∃ c, st.m[id]? = some (some ⟨c, false⟩)
  fzl : ∀ id o b k, st.m[id]? = some (some o) → o.fz = true → β id = some (b, k) → C.w0.heap.size ≤ b
  fn : ∀ b, C.F b → C.N0 b
  nl : ∀ b, C.N0 b → b < C.w0.heap.size
  kp : Keeps C.F C.w0 w
  iob : ∀ id, id < C.nio → ∃ b k, β id = some (b, k)

end Go.AL
