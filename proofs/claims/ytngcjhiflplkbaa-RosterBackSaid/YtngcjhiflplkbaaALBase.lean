/- The values of the abstract machine: trees of data, what cells they stand for, and that they stay. No condition. -/
import Derived.WalkKit
namespace Go.AL
open Go

/-- How many cells, and in which parts. -/
inductive Sk where
  | lf
  | ag (ks : List Sk)
  | ba (n : Nat)
  | ar (n : Nat) (e : Sk)

mutual
def Sk.size : Sk → Nat
  | .lf => 1
  | .ag ks => Sk.sizes ks
  | .ba n => n
  | .ar n e => n * Sk.size e
def Sk.sizes : List Sk → Nat
  | [] => 0
  | k :: ks => Sk.size k + Sk.sizes ks
end

mutual
def Sk.beq : Sk → Sk → Bool
  | .lf, .lf => true
  | .ag ks, .ag js => Sk.beqs ks js
  | .ba n, .ba m => Nat.beq n m
  | .ar n e, .ar m f => Nat.beq n m && Sk.beq e f
  | _, _ => false
def Sk.beqs : List Sk → List Sk → Bool
  | [], [] => true
  | k :: ks, j :: js => Sk.beq k j && Sk.beqs ks js
  | _, _ => false
end

mutual
theorem Sk.eq_of_beq : ∀ (a b : Sk), Sk.beq a b = true → a = b
  | .lf, b, h => by cases b <;> simp [Sk.beq] at h ⊢
  | .ag ks, b, h => by
    cases b <;> simp [Sk.beq] at h ⊢
    exact Sk.eqs_of_beq ks _ h
  | .ba n, b, h => by cases b <;> simp [Sk.beq] at h ⊢; exact h
  | .ar n e, b, h => by
    cases b <;> simp [Sk.beq] at h ⊢
    exact ⟨h.1, Sk.eq_of_beq e _ h.2⟩
theorem Sk.eqs_of_beq : ∀ (a b : List Sk), Sk.beqs a b = true → a = b
  | [], b, h => by cases b <;> simp [Sk.beqs] at h ⊢
  | k :: ks, b, h => by
    cases b <;> simp [Sk.beqs] at h ⊢
    exact ⟨Sk.eq_of_beq k _ h.1, Sk.eqs_of_beq ks _ h.2⟩
end

/-- Where a part begins. -/
def Sk.off : Sk → List Nat → Nat
  | _, [] => 0
  | .ag ks, k :: p => Sk.sizes (ks.take k) + (match ks[k]? with | some s => Sk.off s p | none => 0)
  | .ba _, k :: _ => k
  | .ar _ e, k :: p => k * Sk.size e + Sk.off e p
  | .lf, _ :: _ => 0
termination_by _ p => p.length

/-- A part. -/
def Sk.sub : Sk → List Nat → Option Sk
  | k, [] => some k
  | .ag ks, k :: p => match ks[k]? with | some s => Sk.sub s p | none => none
  | .ba _, [_] => some .lf
  | .ar _ e, _ :: p => Sk.sub e p
  | _, _ => none
termination_by _ p => p.length

/-- Data, and what leads to the call's own memory. -/
inductive T where
  | i (n : Int) | b (c : Bool) | u8 (x : UInt8) | u32 (x : UInt32) | u64 (x : UInt64)
  | s (l : List UInt8)
  | v (x : Value)
  | agg (fs : List T)
  | ba (n : Nat) (l : List UInt8)
  | arr (n : Nat) (e : Sk) (xs : List T)
  | sb (l : List UInt8)
  | sl (e : Sk) (xs : List T)
  | pt (x : T)
  | ifc (t : TypeId) (x : T)
  | clo (f : FuncId) (caps : List T)
  | tup (xs : List T)
  | junk
  | ref (id : Nat) (path : List Nat)
  | row (id : Nat) (path : List Nat) (off : Nat) (rest : Option Nat)
  | ow (l : List UInt8)
  | os (e : Sk) (xs : List T)

mutual
def T.sk : T → Sk
  | .agg fs => .ag (T.sks fs)
  | .ba n _ => .ba n
  | .arr n e _ => .ar n e
  | _ => .lf
def T.sks : List T → List Sk
  | [] => []
  | x :: xs => T.sk x :: T.sks xs
end

def T.isAgg : T → Bool
  | .agg _ | .ba .. | .arr .. => true
  | _ => false

def u8v (x : UInt8) : Value := .int .u8 x.toNat

/-- Cells that lie in blocks outside N. -/
def Lies (w : World) (N : Nat → Prop) (A : Option Addr) (ds : List Value) : Prop :=
  ds = [] ∨ ∃ b off, A = some ⟨b, off, none⟩ ∧ ¬ N b ∧ ∃ cs e fz, w.heap[b]? = some (.cells cs e fz) ∧ off + ds.length ≤ cs.size ∧ ∀ j, j < ds.length → cs[off + j]? = ds[j]?

/-- What 'ref' and 'row' mean. -/
structure Ext where
  rf : Nat → List Nat → Addr → Prop
  rw : Nat → List Nat → Nat → Option Nat → Value → Prop

def Ext.none : Ext := ⟨fun _ _ _ => False, fun _ _ _ _ _ => False⟩

/-- The one cell of a leaf that needs no memory. -/
def T.leaf : T → Option Value
  | .i n => some (.int .i64 n)
  | .b c => some (.bool c)
  | .u8 x => some (u8v x)
  | .u32 x => some (.int .u32 x.toNat)
  | .u64 x => some (.int .u64 x.toNat)
  | .s l => some (.string ⟨l.toArray⟩)
  | .v x => if x.oneCell' then some x else Option.none
  | _ => Option.none

mutual
def RC (w : World) (N : Nat → Prop) (X : Ext) : T → List Value → Prop
  | .i n, cs => cs = [.int .i64 n]
  | .b c, cs => cs = [.bool c]
  | .u8 x, cs => cs = [u8v x]
  | .u32 x, cs => cs = [.int .u32 x.toNat]
  | .u64 x, cs => cs = [.int .u64 x.toNat]
  | .s l, cs => cs = [.string ⟨l.toArray⟩]
  | .v x, cs => x.oneCell' = true ∧ cs = [x]
  | .agg fs, cs => RL w N X fs cs
  | .ba n l, cs => l.length = n ∧ cs = l.map u8v
  | .arr n e xs, cs => xs.length = n ∧ RU w N e xs cs
  | .sb l, cs => ∃ A c, cs = [.slice A l.length c] ∧ l.length ≤ c ∧ Lies w N A (l.map u8v)
  | .sl e xs, cs => ∃ A c, cs = [.slice A xs.length c] ∧ xs.length ≤ c ∧ ∃ ds, RU w N e xs ds ∧ Lies w N A ds
  | .pt x, cs => ∃ a ds, cs = [.pointer (some a)] ∧ ds ≠ [] ∧ RC w N Ext.none x ds ∧ Lies w N (some a) ds
  | .ifc t x, cs => ∃ y, cs = [.iface t y] ∧ ((x.isAgg = true ∧ ∃ ds, y = .agg ds.toArray ∧ RC w N X x ds) ∨ (x.isAgg = false ∧ RC w N X x [y]))
  | .clo f caps, cs => ∃ vs, cs = [.func (.func f) #[] vs.toArray] ∧ RL w N X caps vs ∧ vs.length = caps.length
  | .ref id path, cs => ∃ a, cs = [.pointer (some a)] ∧ X.rf id path a
  | .row id path off rest, cs => ∃ v, cs = [v] ∧ v.oneCell' = true ∧ X.rw id path off rest v
  | .junk, cs => ∃ v, cs = [v] ∧ v.oneCell' = true
  | _, _ => False
def RL (w : World) (N : Nat → Prop) (X : Ext) : List T → List Value → Prop
  | [], cs => cs = []
  | x :: xs, cs => ∃ c1 c2, cs = c1 ++ c2 ∧ c1.length = x.sk.size ∧ RC w N X x c1 ∧ RL w N X xs c2
def RU (w : World) (N : Nat → Prop) (e : Sk) : List T → List Value → Prop
  | [], cs => cs = []
  | x :: xs, cs => ∃ c1 c2, cs = c1 ++ c2 ∧ c1.length = e.size ∧ x.sk = e ∧ RC w N Ext.none x c1 ∧ RU w N e xs c2
end

/-- A value as it stands in a slot. -/
def RV (w : World) (N : Nat → Prop) (X : Ext) (x : T) (y : Value) : Prop :=
  (x.isAgg = true ∧ ∃ ds, y = .agg ds.toArray ∧ RC w N X x ds) ∨ (x.isAgg = false ∧ RC w N X x [y])

theorem u8v_one (x : UInt8) : (u8v x).oneCell' = true := rfl

theorem Lies.mono {w w' : World} {N N' : Nat → Prop} (h : ∀ b, ¬ N b → b < w.heap.size → ¬ N' b ∧ w'.heap[b]? = w.heap[b]?) {A : Option Addr} {ds : List Value} (k : Lies w N A ds) : Lies w' N' A ds := by
  rcases k with k | ⟨b, off, hA, hN, cs, e, fz, hb, hs, hd⟩
  · exact .inl k
  · have hlt : b < w.heap.size := (Array.getElem?_eq_some_iff.1 hb).1
    exact .inr ⟨b, off, hA, (h b hN hlt).1, cs, e, fz, (h b hN hlt).2.trans hb, hs, hd⟩

structure Ext.Le (X X' : Ext) : Prop where
  rf : ∀ id p a, X.rf id p a → X'.rf id p a
  rw : ∀ id p o r v, X.rw id p o r v → X'.rw id p o r v

theorem Ext.Le.refl (X : Ext) : X.Le X := ⟨fun _ _ _ h => h, fun _ _ _ _ _ h => h⟩

def Stay (w w' : World) (N N' : Nat → Prop) : Prop := ∀ b, ¬ N b → b < w.heap.size → ¬ N' b ∧ w'.heap[b]? = w.heap[b]?

section
variable {w w' : World} {N N' : Nat → Prop}
mutual
theorem RC.mono {X X' : Ext} (h : Stay w w' N N') (hX : X.Le X') : ∀ (x : T) (cs : List Value), RC w N X x cs → RC w' N' X' x cs
  | .i _, _, k | .b _, _, k | .u8 _, _, k | .u32 _, _, k | .u64 _, _, k | .s _, _, k | .v _, _, k | .ba _ _, _, k | .junk, _, k => by simpa only [RC] using k
  | .agg fs, cs, k => by
    simp only [RC] at k ⊢
    exact RL.mono h hX fs cs k
  | .arr n e xs, cs, k => by
    simp only [RC] at k ⊢
    exact ⟨k.1, RU.mono h xs cs k.2⟩
  | .sb l, cs, k => by
    simp only [RC] at k ⊢
    obtain ⟨A, c, h1, h2, h3⟩ := k
    exact ⟨A, c, h1, h2, h3.mono h⟩
  | .sl e xs, cs, k => by
    simp only [RC] at k ⊢
    obtain ⟨A, c, h1, h2, ds, h3, h4⟩ := k
    exact ⟨A, c, h1, h2, ds, RU.mono h xs ds h3, h4.mono h⟩
  | .pt x, cs, k => by
    simp only [RC] at k ⊢
    obtain ⟨a, ds, h1, h0, h2, h3⟩ := k
    exact ⟨a, ds, h1, h0, RC.mono h (Ext.Le.refl _) x ds h2, h3.mono h⟩
  | .ifc t x, cs, k => by
    simp only [RC] at k ⊢
    obtain ⟨y, h1, h2⟩ := k
    refine ⟨y, h1, ?_⟩
    rcases h2 with ⟨h2, ds, h3, h4⟩ | ⟨h2, h4⟩
    · exact .inl ⟨h2, ds, h3, RC.mono h hX x ds h4⟩
    · exact .inr ⟨h2, RC.mono h hX x _ h4⟩
  | .clo f caps, cs, k => by
    simp only [RC] at k ⊢
    obtain ⟨vs, h1, h2, h3⟩ := k
    exact ⟨vs, h1, RL.mono h hX caps vs h2, h3⟩
  | .ref id path, cs, k => by
    simp only [RC] at k ⊢
    obtain ⟨a, h1, h2⟩ := k
    exact ⟨a, h1, hX.rf _ _ _ h2⟩
  | .row id path off rest, cs, k => by
    simp only [RC] at k ⊢
    obtain ⟨a, h1, h3, h2⟩ := k
    exact ⟨a, h1, h3, hX.rw _ _ _ _ _ h2⟩
  | .tup _, _, k | .ow _, _, k | .os _ _, _, k => by simp only [RC] at k
theorem RL.mono {X X' : Ext} (h : Stay w w' N N') (hX : X.Le X') : ∀ (xs : List T) (cs : List Value), RL w N X xs cs → RL w' N' X' xs cs
  | [], cs, k => by simpa only [RL] using k
  | x :: xs, cs, k => by
    simp only [RL] at k ⊢
    obtain ⟨c1, c2, h1, h2, h3, h4⟩ := k
    exact ⟨c1, c2, h1, h2, RC.mono h hX x c1 h3, RL.mono h hX xs c2 h4⟩
theorem RU.mono {e : Sk} (h : Stay w w' N N') : ∀ (xs : List T) (cs : List Value), RU w N e xs cs → RU w' N' e xs cs
  | [], cs, k => by simpa only [RU] using k
  | x :: xs, cs, k => by
    simp only [RU] at k ⊢
    obtain ⟨c1, c2, h1, h2, h2', h3, h4⟩ := k
    exact ⟨c1, c2, h1, h2, h2', RC.mono h (Ext.Le.refl _) x c1 h3, RU.mono h xs c2 h4⟩
end
end

theorem RV.mono {w w' : World} {N N' : Nat → Prop} (h : Stay w w' N N') {X X' : Ext} (hX : X.Le X') {x : T} {y : Value} (k : RV w N X x y) : RV w' N' X' x y := by
  rcases k with ⟨h1, ds, h2, h3⟩ | ⟨h1, h2⟩
  · exact .inl ⟨h1, ds, h2, RC.mono h hX x ds h3⟩
  · exact .inr ⟨h1, RC.mono h hX x _ h2⟩

section
variable {w : World} {N : Nat → Prop}
mutual
theorem RC.length {X : Ext} : ∀ (x : T) (cs : List Value), RC w N X x cs → cs.length = x.sk.size
  | .i _, _, k | .b _, _, k | .u8 _, _, k | .u32 _, _, k | .u64 _, _, k | .s _, _, k => by simp only [RC] at k; subst k; rfl
  | .v _, _, k => by simp only [RC] at k; rw [k.2]; rfl
  | .ba _ _, _, k => by simp only [RC] at k; rw [k.2]; simpa [T.sk, Sk.size] using k.1
  | .agg fs, cs, k => by
    simp only [RC] at k
    simpa only [T.sk, Sk.size] using RL.length fs cs k
  | .arr n e xs, cs, k => by
    simp only [RC] at k
    simp only [T.sk, Sk.size]
    rw [RU.length xs cs k.2, k.1]
  | .sb l, cs, k => by simp only [RC] at k; obtain ⟨A, c, h1, _⟩ := k; rw [h1]; rfl
  | .sl e xs, cs, k => by simp only [RC] at k; obtain ⟨A, c, h1, _⟩ := k; rw [h1]; rfl
  | .pt x, cs, k => by simp only [RC] at k; obtain ⟨A, c, h1, _⟩ := k; rw [h1]; rfl
  | .ifc t x, cs, k => by simp only [RC] at k; obtain ⟨A, h1, _⟩ := k; rw [h1]; rfl
  | .clo f caps, cs, k => by simp only [RC] at k; obtain ⟨A, h1, _⟩ := k; rw [h1]; rfl
  | .ref id path, cs, k => by simp only [RC] at k; obtain ⟨A, h1, _⟩ := k; rw [h1]; rfl
  | .row id path off rest, cs, k => by simp only [RC] at k; obtain ⟨A, h1, _⟩ := k; rw [h1]; rfl
  | .junk, cs, k => by simp only [RC] at k; obtain ⟨A, h1, _⟩ := k; rw [h1]; rfl
  | .tup _, _, k | .ow _, _, k | .os _ _, _, k => by simp only [RC] at k
theorem RL.length {X : Ext} : ∀ (xs : List T) (cs : List Value), RL w N X xs cs → cs.length = Sk.sizes (T.sks xs)
  | [], cs, k => by simp only [RL] at k; subst k; rfl
  | x :: xs, cs, k => by
    simp only [RL] at k
    obtain ⟨c1, c2, h1, h2, h3, h4⟩ := k
    rw [h1, List.length_append, h2, RL.length xs c2 h4]
    rfl
theorem RU.length {e : Sk} : ∀ (xs : List T) (cs : List Value), RU w N e xs cs → cs.length = xs.length * e.size
  | [], cs, k => by simp only [RU] at k; subst k; simp
  | x :: xs, cs, k => by
    simp only [RU] at k
    obtain ⟨c1, c2, h1, h2, _, h3, h4⟩ := k
    rw [h1, List.length_append, h2, RU.length xs c2 h4, List.length_cons, Nat.succ_mul]
    omega
end

theorem RL.at {X : Ext} : ∀ (xs : List T) (cs : List Value) (k : Nat) (x : T), RL w N X xs cs → xs[k]? = some x →
    ∃ pre c post, cs = pre ++ c ++ post ∧ pre.length = Sk.sizes ((T.sks xs).take k) ∧ RC w N X x c ∧
      ∀ y c', y.sk.size = x.sk.size → RC w N X y c' → RL w N X (xs.set k y) (pre ++ c' ++ post)
  | [], _, k, _, _, h => by simp at h
  | z :: zs, cs, 0, x, h, hx => by
    simp only [RL] at h
    obtain ⟨c1, c2, h1, h2, h3, h4⟩ := h
    simp at hx
    subst hx
    refine ⟨[], c1, c2, by simpa using h1, by simp [Sk.sizes], h3, fun y c' hy hc => ?_⟩
    simp only [List.set_cons_zero, RL, List.nil_append]
    exact ⟨c', c2, rfl, RC.length y c' hc, hc, h4⟩
  | z :: zs, cs, k + 1, x, h, hx => by
    simp only [RL] at h
    obtain ⟨c1, c2, h1, h2, h3, h4⟩ := h
    simp at hx
    obtain ⟨pre, c, post, e1, e2, e3, e4⟩ := RL.at zs c2 k x h4 hx
    refine ⟨c1 ++ pre, c, post, by rw [h1, e1]; simp, ?_, e3, fun y c' hy hc => ?_⟩
    · simp [T.sks, Sk.sizes, e2, h2]
    · have := e4 y c' hy hc
      simp only [List.set_cons_succ, RL]
      exact ⟨c1, pre ++ c' ++ post, by simp, h2, h3, this⟩

theorem RU.at {e : Sk} : ∀ (xs : List T) (cs : List Value) (k : Nat) (x : T), RU w N e xs cs → xs[k]? = some x →
    ∃ pre c post, cs = pre ++ c ++ post ∧ pre.length = k * e.size ∧ x.sk = e ∧ RC w N Ext.none x c ∧
      ∀ y c', y.sk = e → RC w N Ext.none y c' → RU w N e (xs.set k y) (pre ++ c' ++ post)
  | [], _, k, _, _, h => by simp at h
  | z :: zs, cs, 0, x, h, hx => by
    simp only [RU] at h
    obtain ⟨c1, c2, h1, h2, h2', h3, h4⟩ := h
    simp at hx
    subst hx
    refine ⟨[], c1, c2, by simpa using h1, by simp, h2', h3, fun y c' hy hc => ?_⟩
    simp only [List.set_cons_zero, RU, List.nil_append]
    exact ⟨c', c2, rfl, by rw [RC.length y c' hc, hy], hy, hc, h4⟩
  | z :: zs, cs, k + 1, x, h, hx => by
    simp only [RU] at h
    obtain ⟨c1, c2, h1, h2, h2', h3, h4⟩ := h
    simp at hx
    obtain ⟨pre, c, post, e1, e2, e2', e3, e4⟩ := RU.at zs c2 k x h4 hx
    refine ⟨c1 ++ pre, c, post, by rw [h1, e1]; simp, ?_, e2', e3, fun y c' hy hc => ?_⟩
    · simp [e2, h2, Nat.succ_mul]; omega
    · have := e4 y c' hy hc
      simp only [List.set_cons_succ, RU]
      exact ⟨c1, pre ++ c' ++ post, by simp, h2, h2', h3, this⟩

theorem RU.append {e : Sk} : ∀ (xs ys : List T) (cs ds : List Value), RU w N e xs cs → RU w N e ys ds → RU w N e (xs ++ ys) (cs ++ ds)
  | [], ys, cs, ds, h, k => by simp only [RU] at h; subst h; simpa using k
  | x :: xs, ys, cs, ds, h, k => by
    simp only [RU] at h
    obtain ⟨c1, c2, h1, h2, h2', h3, h4⟩ := h
    simp only [List.cons_append, RU]
    exact ⟨c1, c2 ++ ds, by rw [h1]; simp, h2, h2', h3, RU.append xs ys c2 ds h4 k⟩

theorem RU.drop {e : Sk} : ∀ (xs : List T) (cs : List Value) (k : Nat), RU w N e xs cs → RU w N e (xs.drop k) (cs.drop (k * e.size))
  | xs, cs, 0, h => by simpa using h
  | [], cs, k + 1, h => by simp only [RU] at h; subst h; simp [RU]
  | x :: xs, cs, k + 1, h => by
    simp only [RU] at h
    obtain ⟨c1, c2, h1, h2, h2', h3, h4⟩ := h
    have := RU.drop xs c2 k h4
    rw [h1, Nat.succ_mul, List.drop_succ_cons]
    rw [show k * e.size + e.size = c1.length + k * e.size by rw [h2]; omega, ← List.drop_drop, List.drop_left]
    exact this

theorem RU.take {e : Sk} : ∀ (xs : List T) (cs : List Value) (k : Nat), RU w N e xs cs → RU w N e (xs.take k) (cs.take (k * e.size))
  | xs, cs, 0, h => by simp [RU]
  | [], cs, k + 1, h => by simp only [RU] at h; subst h; simp [RU]
  | x :: xs, cs, k + 1, h => by
    simp only [RU] at h
    obtain ⟨c1, c2, h1, h2, h2', h3, h4⟩ := h
    have := RU.take xs c2 k h4
    rw [h1, Nat.succ_mul, List.take_succ_cons]
    simp only [RU]
    refine ⟨c1, c2.take (k * e.size), ?_, h2, h2', h3, this⟩
    rw [List.take_append, List.take_of_length_le (by omega)]
    congr 2
    omega
end

end Go.AL
