/- A state that knows less holds where one that knows more holds. No condition. -/
import Derived.Test.YtngcjhiflplkbaaALWeak
namespace Go.AL
open Go

def ceq : Cont → Cont → Prop
  | .var x, .var y => teq x y
  | .rb a, .rb b => a = b
  | .rs e a, .rs f b => match Sk.beq e f with | true => a = b | false => False
  | _, _ => False

theorem ceq_ok {c d : Cont} (h : ceq c d) : c = d := by
  unfold ceq at h
  split at h
  · rw [teq_ok _ _ h]
  · rw [h]
  · split at h
    · rename_i hn; rw [h, Sk.eq_of_beq _ _ hn]
    · exact h.elim
  · exact h.elim

/-- The second knows no more: temporaries. -/
def leT : List T → List T → Prop
  | [], [] => True
  | x :: xs, y :: ys => match y with
    | .junk => leT xs ys
    | y => teq x y ∧ leT xs ys
  | _, _ => False

def fzOk (nio k : Nat) : Bool → Bool → Bool
  | true, false => false
  | false, true => Nat.ble nio k
  | _, _ => true

/-- The second knows no more: objects. -/
def leM (nio : Nat) : Nat → List (Option Obj) → List (Option Obj) → Prop
  | k, _, [] => match Nat.ble nio k with
    | true => True
    | false => False
  | k, [], y :: ys => match y with
    | none => match Nat.ble nio k with
      | true => leM nio (k + 1) [] ys
      | false => False
    | some _ => False
  | k, x :: xs, y :: ys => match y with
    | none => match Nat.ble nio k with
      | true => leM nio (k + 1) xs ys
      | false => False
    | some p => match x with
      | some o => match fzOk nio k o.fz p.fz with
        | true => ceq o.c p.c ∧ leM nio (k + 1) xs ys
        | false => False
      | none => False

def isIn (m : List (Option Obj)) (id : Nat) : Bool := match m[id]? with
  | some (some _) => true
  | _ => false
def onlyM (g : Nat → Bool) : List (Option Obj) → Bool
  | [] => true
  | none :: m => onlyM g m
  | some o :: m => o.c.only g && onlyM g m

def St.le (nio : Nat) (s v : St) : Prop := match T.onlys (isIn v.m) v.t && onlyM (isIn v.m) v.m with
  | true => leT s.t v.t ∧ leM nio 0 s.m v.m
  | false => False

theorem leT_ok : ∀ (xs ys : List T), leT xs ys → xs.length = ys.length ∧ ∀ (k : Nat) (y : T), ys[k]? = some y → y = .junk ∨ xs[k]? = some y
  | [], [], _ => ⟨rfl, fun k y h => by simp at h⟩
  | x :: xs, y :: ys, h => by
    have key : leT xs ys ∧ (y = .junk ∨ teq x y) := by
      simp only [leT] at h
      split at h
      · exact ⟨h, .inl rfl⟩
      · exact ⟨h.2, .inr h.1⟩
    obtain ⟨r1, r2⟩ := leT_ok xs ys key.1
    refine ⟨by simp [r1], fun k z hk => ?_⟩
    cases k with
    | zero =>
      simp at hk; subst hk
      rcases key.2 with hq | hq
      · exact .inl hq
      · exact .inr (by rw [teq_ok _ _ hq]; rfl)
    | succ k => simp at hk; simpa using r2 k z hk
  | [], _ :: _, h => by simp [leT] at h
  | _ :: _, [], h => by simp [leT] at h

theorem leM_ok (nio : Nat) : ∀ (b : Nat) (xs ys : List (Option Obj)), leM nio b xs ys → ∀ (k : Nat) (p : Obj), ys[k]? = some (some p) → ∃ o : Obj, xs[k]? = some (some o) ∧ o.c = p.c ∧ fzOk nio (b + k) o.fz p.fz = true
  | _, _, [], _, k, p, h => by simp at h
  | b, [], y :: ys, hl, k, p, h => by
    simp only [leM] at hl
    split at hl
    · split at hl
      · cases k with
        | zero => simp at h
        | succ k =>
          simp at h
          obtain ⟨o, h1, _⟩ := leM_ok nio (b + 1) [] ys hl k p h
          simp at h1
      · exact hl.elim
    · exact hl.elim
  | b, x :: xs, y :: ys, hl, k, p, h => by
    simp only [leM] at hl
    split at hl
    · split at hl
      · cases k with
        | zero => simp at h
        | succ k =>
          simp at h
          obtain ⟨o, h1, h2, h3⟩ := leM_ok nio (b + 1) xs ys hl k p h
          exact ⟨o, by simpa using h1, h2, by rw [← h3]; congr 1; omega⟩
      · exact hl.elim
    · split at hl
      · split at hl
        · rename_i hf
          cases k with
          | zero =>
            simp at h; subst h
            exact ⟨_, rfl, ceq_ok hl.1, hf⟩
          | succ k =>
            simp at h
            obtain ⟨o, h1, h2, h3⟩ := leM_ok nio (b + 1) xs ys hl.2 k p h
            exact ⟨o, by simpa using h1, h2, by rw [← h3]; congr 1; omega⟩
        · exact hl.elim
      · exact hl.elim

/-- What was handed in to be written is still there. -/
theorem leM_io (nio : Nat) : ∀ (b : Nat) (xs ys : List (Option Obj)), leM nio b xs ys → ∀ k, b + k < nio → ∃ p : Obj, ys[k]? = some (some p)
  | b, xs, [], hl, k, hk => by
    simp only [leM] at hl
    split at hl
    · rename_i hb; have := Nat.le_of_ble_eq_true hb; omega
    · exact hl.elim
  | b, [], y :: ys, hl, k, hk => by
    simp only [leM] at hl
    split at hl
    · split at hl
      · rename_i hb; have := Nat.le_of_ble_eq_true hb; omega
      · exact hl.elim
    · exact hl.elim
  | b, x :: xs, y :: ys, hl, k, hk => by
    simp only [leM] at hl
    split at hl
    · split at hl
      · rename_i hb; have := Nat.le_of_ble_eq_true hb; omega
      · exact hl.elim
    · split at hl
      · split at hl
        · cases k with
          | zero => exact ⟨_, rfl⟩
          | succ k =>
            obtain ⟨p, hp⟩ := leM_io nio (b + 1) xs ys hl.2 k (by omega)
            exact ⟨p, by simpa using hp⟩
        · exact hl.elim
      · exact hl.elim

theorem onlyM_ok {g : Nat → Bool} : ∀ (m : List (Option Obj)) (k : Nat) (o : Obj), onlyM g m = true → m[k]? = some (some o) → o.c.only g = true
  | [], k, o, _, h => by simp at h
  | none :: m, 0, o, _, h => by simp at h
  | none :: m, k + 1, o, hg, h => by simp at h; exact onlyM_ok m k o hg h
  | some p :: m, 0, o, hg, h => by
    simp at h; subst h
    simp only [onlyM, Bool.and_eq_true] at hg; exact hg.1
  | some p :: m, k + 1, o, hg, h => by
    simp at h
    simp only [onlyM, Bool.and_eq_true] at hg; exact onlyM_ok m k o hg.2 h

theorem fzOk_back {nio k : Nat} {a b : Bool} (h : fzOk nio k a b = true) (hb : b = false) : a = false := by
  subst hb; cases a <;> simp [fzOk] at h ⊢

theorem fzOk_new {nio k : Nat} {a b : Bool} (h : fzOk nio k a b = true) (hb : b = true) : a = true ∨ nio ≤ k := by
  subst hb
  cases a with
  | true => exact .inl rfl
  | false => exact .inr (Nat.le_of_ble_eq_true h)

theorem Sim.less {C : Ctx} {β : Bel} {s v : St} {a : Act} {w : World} (h : Sim C β s a w) (hl : s.le C.nio v) : Sim C β v a w := by
  unfold St.le at hl
  split at hl
  · rename_i ho
    simp only [Bool.and_eq_true] at ho
    obtain ⟨ho1, ho2⟩ := ho
    obtain ⟨l1, l2⟩ := leT_ok _ _ hl.1
    have hm := leM_ok C.nio 0 _ _ hl.2
    have hN : ∀ b, ¬ Mut C.N0 s.m β b → ¬ Mut C.N0 v.m β b := by
      intro b hb
      rintro (hq | ⟨id, p, k, e1, e2, e3⟩)
      · exact hb (.inl hq)
      · obtain ⟨o, q1, q2, q3⟩ := hm id p e1
        exact hb (.inr ⟨id, o, k, q1, fzOk_back q3 e2, e3⟩)
    have hX : On (isIn v.m) (ext s.m β) (ext v.m β) := by
      refine ⟨?_, ?_⟩
      · rintro j p ad hj ⟨o, b, k, e1, e2, e3⟩
        unfold isIn at hj
        split at hj
        · rename_i o' ho'
          obtain ⟨o2, q1, q2, _⟩ := hm j o' ho'
          rw [e1] at q1; simp only [Option.some.injEq] at q1; subst q1
          exact ⟨o', b, k, ho', e2, by rw [← q2]; exact e3⟩
        · cases hj
      · rintro j p off r u hj ⟨o, e1, e2⟩
        unfold isIn at hj
        split at hj
        · rename_i o' ho'
          obtain ⟨o2, q1, q2, _⟩ := hm j o' ho'
          rw [e1] at q1; simp only [Option.some.injEq] at q1; subst q1
          exact ⟨o', ho', by rw [← q2]; exact e2⟩
        · cases hj
    refine { sz := h.sz.trans l1, df := h.df, tm := ?_, me := ?_, inj := ?_, loc := ?_, ios := ?_, fzl := ?_, fn := h.fn, nl := h.nl, kp := h.kp, iob := h.iob }
    · intro k x hx
      rcases l2 k x hx with rfl | hx'
      · trivial
      · exact RT.on hN hX (onlys_get _ k x ho1 hx) (h.tm k x hx')
    · intro id p hp
      obtain ⟨o, q1, q2, q3⟩ := hm id p hp
      have := h.me id o q1
      revert this
      split
      · rintro ⟨cs, e, fz, g1, g2, g3, g4⟩
        exact ⟨cs, e, fz, g1, g2, fun hf => g3 (fzOk_back q3 hf), by rw [← q2]; exact CC.on hN hX _ _ (by rw [q2]; exact onlyM_ok _ id p ho2 hp) g4⟩
      · intro g; rw [← q2]; exact g
    · intro id id' p p' b k k' e1 e2
      obtain ⟨o, q1, _⟩ := hm id p e1
      obtain ⟨o', q1', _⟩ := hm id' p' e2
      exact h.inj id id' o o' b k k' q1 q1'
    · intro id p b k e1
      obtain ⟨o, q1, _⟩ := hm id p e1
      exact h.loc id o b k q1
    · intro id hlt
      obtain ⟨p, hp⟩ := leM_io C.nio 0 _ _ hl.2 id (by omega)
      obtain ⟨o, q1, q2, q3⟩ := hm id p hp
      obtain ⟨x, hx⟩ := h.ios id hlt
      rw [hx] at q1; simp only [Option.some.injEq] at q1; subst q1
      obtain ⟨c, fz⟩ := p
      simp only at q2 q3
      subst q2
      cases fz with
      | false => exact ⟨_, hp⟩
      | true =>
        rcases fzOk_new q3 rfl with hq | hq
        · cases hq
        · omega
    · intro id p b k e1 e2 e3
      obtain ⟨o, q1, _, q3⟩ := hm id p e1
      rcases fzOk_new q3 e2 with hq | hq
      · exact h.fzl id o b k q1 hq e3
      · rcases h.loc id o b k q1 e3 with hr | hr
        · exact hr.2
        · have := hr.1; omega
  · exact hl.elim

end Go.AL
