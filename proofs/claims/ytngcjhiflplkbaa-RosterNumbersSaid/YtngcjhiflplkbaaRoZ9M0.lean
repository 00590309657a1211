/- The values of the abstract machine: trees of data, what cells they stand for, and that they stay. No condition. -/
import Derived.WalkKit
namespace Go.AL
open Go

/-- How many cells, and in which parts. -/
inductive Sk where
  | lf
  | ag (ks : List Sk)
  | ba (n : Nat)
  | ar (n : Nat) (e : Sk)

mutual
def Sk.size : Sk → Nat
  | .lf => 1
  | .ag ks => Sk.sizes ks
  | .ba n => n
  | .ar n e => n * Sk.size e
def Sk.sizes : List Sk → Nat
  | [] => 0
  | k :: ks => Sk.size k + Sk.sizes ks
end

mutual
def Sk.beq : Sk → Sk → Bool
  | .lf, .lf => true
  | .ag ks, .ag js => Sk.beqs ks js
  | .ba n, .ba m => Nat.beq n m
  | .ar n e, .ar m f => Nat.beq n m && Sk.beq e f
  | _, _ => false
def Sk.beqs : List Sk → List Sk → Bool
  | [], [] => true
  | k :: ks, j :: js => Sk.beq k j && Sk.beqs ks js
  | _, _ => false
end

mutual
theorem Sk.eq_of_beq : ∀ (a b : Sk), Sk.beq a b = true → a = b
  | .lf, b, h => by cases b <;> simp [Sk.beq] at h ⊢
  | .ag ks, b, h => by
    cases b <;> simp [Sk.beq] at h ⊢
    exact Sk.eqs_of_beq ks _ h
  | .ba n, b, h => by cases b <;> simp [Sk.beq] at h ⊢; exact h
  | .ar n e, b, h => by
    cases b <;> simp [Sk.beq] at h ⊢
    exact ⟨h.1, Sk.eq_of_beq e _ h.2⟩
theorem Sk.eqs_of_beq : ∀ (a b : List Sk), Sk.beqs a b = true → a = b
  | [], b, h => by cases b <;> simp [Sk.beqs] at h ⊢
  | k :: ks, b, h => by
    cases b <;> simp [Sk.beqs] at h ⊢
    exact ⟨Sk.eq_of_beq k _ h.1, Sk.eqs_of_beq ks _ h.2⟩
end

/-- Where a part begins. -/
def Sk.off : Sk → List Nat → Nat
  | _, [] => 0
  | .ag ks, k :: p => Sk.sizes (ks.take k) + (match ks[k]? with | some s => Sk.off s p | none => 0)
  | .ba _, k :: _ => k
  | .ar _ e, k :: p => k * Sk.size e + Sk.off e p
  | .lf, _ :: _ => 0
termination_by _ p => p.length

/-- A part. -/
def Sk.sub : Sk → List Nat → Option Sk
  | k, [] => some k
  | .ag ks, k :: p => match ks[k]? with | some s => Sk.sub s p | none => none
  | .ba _, [_] => some .lf
  | .ar _ e, _ :: p => Sk.sub e p
  | _, _ => none
termination_by _ p => p.length

/-- Data, and what leads to the call's own memory. -/
inductive T where
  | i (n : Int) | b (c : Bool) | u8 (x : UInt8) | u32 (x : UInt32) | u64 (x : UInt64)
  | s (l : List UInt8)
  | v (x : Value)
  | agg (fs : List T)
  | ba (n : Nat) (l : List UInt8)
  | arr (n : Nat) (e : Sk) (xs : List T)
  | sb (l : List UInt8)
  | sl (e : Sk) (xs : List T)
  | pt (x : T)
  | ifc (t : TypeId) (x : T)
  | clo (f : FuncId) (caps : List T)
  | tup (xs : List T)
  | junk
  | ref (id : Nat) (path : List Nat)
  | row (id : Nat) (path : List Nat) (off : Nat) (rest : Option Nat)
  | ow (l : List UInt8)
  | os (e : Sk) (xs : List T)

mutual
def T.sk : T → Sk
  | .agg fs => .ag (T.sks fs)
  | .ba n _ => .ba n
  | .arr n e _ => .ar n e
  | _ => .lf
def T.sks : List T → List Sk
  | [] => []
  | x :: xs => T.sk x :: T.sks xs
end

def T.isAgg : T → Bool
  | .agg _ | .ba .. | .arr .. => true
  | _ => false

def u8v (x : UInt8) : Value := .int .u8 x.toNat

/-- Cells that lie in blocks outside N. -/
def Lies (w : World) (N : Nat → Prop) (A : Option Addr) (ds : List Value) : Prop :=
  ds = [] ∨ ∃ b off, A = some ⟨b, off, none⟩ ∧ ¬ N b ∧ ∃ cs e fz, w.heap[b]? = some (.cells cs e fz) ∧ off + ds.length ≤ cs.size ∧ ∀ j, j < ds.length → cs[off + j]? = ds[j]?

/-- What 'ref' and 'row' mean. -/
structure Ext where
  rf : Nat → List Nat → Addr → Prop
  rw : Nat → List Nat → Nat → Option Nat → Value → Prop

def Ext.none : Ext := ⟨fun _ _ _ => False, fun _ _ _ _ _ => False⟩

/-- The one cell of a leaf that needs no memory. -/
def T.leaf : T → Option Value
  | .i n => some (.int .i64 n)
  | .b c => some (.bool c)
  | .u8 x => some (u8v x)
  | .u32 x => some (.int .u32 x.toNat)
  | .u64 x => some (.int .u64 x.toNat)
  | .s l => some (.string ⟨l.toArray⟩)
  | .v x => if x.oneCell' then some x else Option.none
  | _ => Option.none

mutual
def RC (w : World) (N : Nat → Prop) (X : Ext) : T → List Value → Prop
  | .i n, cs => cs = [.int .i64 n]
  | .b c, cs => cs = [.bool c]
  | .u8 x, cs => cs = [u8v x]
  | .u32 x, cs => cs = [.int .u32 x.toNat]
  | .u64 x, cs => cs = [.int .u64 x.toNat]
  | .s l, cs => cs = [.string ⟨l.toArray⟩]
  | .v x, cs => x.oneCell' = true ∧ cs = [x]
  | .agg fs, cs => RL w N X fs cs
  | .ba n l, cs => l.length = n ∧ cs = l.map u8v
  | .arr n e xs, cs => xs.length = n ∧ RU w N e xs cs
  | .sb l, cs => ∃ A c, cs = [.slice A l.length c] ∧ l.length ≤ c ∧ Lies w N A (l.map u8v)
  | .sl e xs, cs => ∃ A c, cs = [.slice A xs.length c] ∧ xs.length ≤ c ∧ ∃ ds, RU w N e xs ds ∧ Lies w N A ds
  | .pt x, cs => ∃ a ds, cs = [.pointer (some a)] ∧ ds ≠ [] ∧ RC w N Ext.none x ds ∧ Lies w N (some a) ds
  | .ifc t x, cs => ∃ y, cs = [.iface t y] ∧ ((x.isAgg = true ∧ ∃ ds, y = .agg ds.toArray ∧ RC w N X x ds) ∨ (x.isAgg = false ∧ RC w N X x [y]))
  | .clo f caps, cs => ∃ vs, cs = [.func (.func f) #[] vs.toArray] ∧ RL w N X caps vs ∧ vs.length = caps.length
  | .ref id path, cs => ∃ a, cs = [.pointer (some a)] ∧ X.rf id path a
  | .row id path off rest, cs => ∃ v, cs = [v] ∧ v.oneCell' = true ∧ X.rw id path off rest v
  | .junk, cs => ∃ v, cs = [v] ∧ v.oneCell' = true
  | _, _ => False
def RL (w : World) (N : Nat → Prop) (X : Ext) : List T → List Value → Prop
  | [], cs => cs = []
  | x :: xs, cs => ∃ c1 c2, cs = c1 ++ c2 ∧ c1.length = x.sk.size ∧ RC w N X x c1 ∧ RL w N X xs c2
def RU (w : World) (N : Nat → Prop) (e : Sk) : List T → List Value → Prop
  | [], cs => cs = []
  | x :: xs, cs => ∃ c1 c2, cs = c1 ++ c2 ∧ c1.length = e.size ∧ x.sk = e ∧ RC w N Ext.none x c1 ∧ RU w N e xs c2
end

/-- A value as it stands in a slot. -/
def RV (w : World) (N : Nat → Prop) (X : Ext) (x : T) (y : Value) : Prop :=
  (x.isAgg = true ∧ ∃ ds, y = .agg ds.toArray ∧ RC w N X x ds) ∨ (x.isAgg = false ∧ RC w N X x [y])

theorem u8v_one (x : UInt8) : (u8v x).oneCell' = true := rfl

theorem Lies.mono {w w' : World} {N N' : Nat → Prop} (h : ∀ b, ¬ N b → b < w.heap.size → ¬ N' b ∧ w'.heap[b]? = w.heap[b]?) {A : Option Addr} {ds : List Value} (k : Lies w N A ds) : Lies w' N' A ds := by
  rcases k with k | ⟨b, off, hA, hN, cs, e, fz, hb, hs, hd⟩
  · exact .inl k
  · have hlt : b < w.heap.size := (Array.getElem?_eq_some_iff.1 hb).1
    exact .inr ⟨b, off, hA, (h b hN hlt).1, cs, e, fz, (h b hN hlt).2.trans hb, hs, hd⟩

structure Ext.Le (X X' : Ext) : Prop where
  rf : ∀ id p a, X.rf id p a → X'.rf id p a
  rw : ∀ id p o r v, X.rw id p o r v → X'.rw id p o r v

theorem Ext.Le.refl (X : Ext) : X.Le X := ⟨fun _ _ _ h => h, fun _ _ _ _ _ h => h⟩

def Stay (w w' : World) (N N' : Nat → Prop) : Prop := ∀ b, ¬ N b → b < w.heap.size → ¬ N' b ∧ w'.heap[b]? = w.heap[b]?

section
variable {w w' : World} {N N' : Nat → Prop}
mutual
theorem RC.mono {X X' : Ext} (h : Stay w w' N N') (hX : X.Le X') : ∀ (x : T) (cs : List Value), RC w N X x cs → RC w' N' X' x cs
  | .i _, _, k | .b _, _, k | .u8 _, _, k | .u32 _, _, k | .u64 _, _, k | .s _, _, k | .v _, _, k | .ba _ _, _, k | .junk, _, k => by simpa only [RC] using k
  | .agg fs, cs, k => by
    simp only [RC] at k ⊢
    exact RL.mono h hX fs cs k
  | .arr n e xs, cs, k => by
    simp only [RC] at k ⊢
    exact ⟨k.1, RU.mono h xs cs k.2⟩
  | .sb l, cs, k => by
    simp only [RC] at k ⊢
    obtain ⟨A, c, h1, h2, h3⟩ := k
    exact ⟨A, c, h1, h2, h3.mono h⟩
  | .sl e xs, cs, k => by
    simp only [RC] at k ⊢
    obtain ⟨A, c, h1, h2, ds, h3, h4⟩ := k
    exact ⟨A, c, h1, h2, ds, RU.mono h xs ds h3, h4.mono h⟩
  | .pt x, cs, k => by
    simp only [RC] at k ⊢
    obtain ⟨a, ds, h1, h0, h2, h3⟩ := k
    exact ⟨a, ds, h1, h0, RC.mono h (Ext.Le.refl _) x ds h2, h3.mono h⟩
  | .ifc t x, cs, k => by
    simp only [RC] at k ⊢
    obtain ⟨y, h1, h2⟩ := k
    refine ⟨y, h1, ?_⟩
    rcases h2 with ⟨h2, ds, h3, h4⟩ | ⟨h2, h4⟩
    · exact .inl ⟨h2, ds, h3, RC.mono h hX x ds h4⟩
    · exact .inr ⟨h2, RC.mono h hX x _ h4⟩
  | .clo f caps, cs, k => by
    simp only [RC] at k ⊢
    obtain ⟨vs, h1, h2, h3⟩ := k
    exact ⟨vs, h1, RL.mono h hX caps vs h2, h3⟩
  | .ref id path, cs, k => by
    simp only [RC] at k ⊢
    obtain ⟨a, h1, h2⟩ := k
    exact ⟨a, h1, hX.rf _ _ _ h2⟩
  | .row id path off rest, cs, k => by
    simp only [RC] at k ⊢
    obtain ⟨a, h1, h3, h2⟩ := k
    exact ⟨a, h1, h3, hX.rw _ _ _ _ _ h2⟩
  | .tup _, _, k | .ow _, _, k | .os _ _, _, k => by simp only [RC] at k
theorem RL.mono {X X' : Ext} (h : Stay w w' N N') (hX : X.Le X') : ∀ (xs : List T) (cs : List Value), RL w N X xs cs → RL w' N' X' xs cs
  | [], cs, k => by simpa only [RL] using k
  | x :: xs, cs, k => by
    simp only [RL] at k ⊢
    obtain ⟨c1, c2, h1, h2, h3, h4⟩ := k
    exact ⟨c1, c2, h1, h2, RC.mono h hX x c1 h3, RL.mono h hX xs c2 h4⟩
theorem RU.mono {e : Sk} (h : Stay w w' N N') : ∀ (xs : List T) (cs : List Value), RU w N e xs cs → RU w' N' e xs cs
  | [], cs, k => by simpa only [RU] using k
  | x :: xs, cs, k => by
    simp only [RU] at k ⊢
    obtain ⟨c1, c2, h1, h2, h2', h3, h4⟩ := k
    exact ⟨c1, c2, h1, h2, h2', RC.mono h (Ext.Le.refl _) x c1 h3, RU.mono h xs c2 h4⟩
end
end

theorem RV.mono {w w' : World} {N N' : Nat → Prop} (h : Stay w w' N N') {X X' : Ext} (hX : X.Le X') {x : T} {y : Value} (k : RV w N X x y) : RV w' N' X' x y := by
  rcases k with ⟨h1, ds, h2, h3⟩ | ⟨h1, h2⟩
  · exact .inl ⟨h1, ds, h2, RC.mono h hX x ds h3⟩
  · exact .inr ⟨h1, RC.mono h hX x _ h2⟩

section
variable {w : World} {N : Nat → Prop}
mutual
theorem RC.length {X : Ext} : ∀ (x : T) (cs : List Value), RC w N X x cs → cs.length = x.sk.size
  | .i _, _, k | .b _, _, k | .u8 _, _, k | .u32 _, _, k | .u64 _, _, k | .s _, _, k => by simp only [RC] at k; subst k; rfl
  | .v _, _, k => by simp only [RC] at k; rw [k.2]; rfl
  | .ba _ _, _, k => by simp only [RC] at k; rw [k.2]; simpa [T.sk, Sk.size] using k.1
  | .agg fs, cs, k => by
    simp only [RC] at k
    simpa only [T.sk, Sk.size] using RL.length fs cs k
  | .arr n e xs, cs, k => by
    simp only [RC] at k
    simp only [T.sk, Sk.size]
    rw [RU.length xs cs k.2, k.1]
  | .sb l, cs, k => by simp only [RC] at k; obtain ⟨A, c, h1, _⟩ := k; rw [h1]; rfl
  | .sl e xs, cs, k => by simp only [RC] at k; obtain ⟨A, c, h1, _⟩ := k; rw [h1]; rfl
  | .pt x, cs, k => by simp only [RC] at k; obtain ⟨A, c, h1, _⟩ := k; rw [h1]; rfl
  | .ifc t x, cs, k => by simp only [RC] at k; obtain ⟨A, h1, _⟩ := k; rw [h1]; rfl
  | .clo f caps, cs, k => by simp only [RC] at k; obtain ⟨A, h1, _⟩ := k; rw [h1]; rfl
  | .ref id path, cs, k => by simp only [RC] at k; obtain ⟨A, h1, _⟩ := k; rw [h1]; rfl
  | .row id path off rest, cs, k => by simp only [RC] at k; obtain ⟨A, h1, _⟩ := k; rw [h1]; rfl
  | .junk, cs, k => by simp only [RC] at k; obtain ⟨A, h1, _⟩ := k; rw [h1]; rfl
  | .tup _, _, k | .ow _, _, k | .os _ _, _, k => by simp only [RC] at k
theorem RL.length {X : Ext} : ∀ (xs : List T) (cs : List Value), RL w N X xs cs → cs.length = Sk.sizes (T.sks xs)
  | [], cs, k => by simp only [RL] at k; subst k; rfl
  | x :: xs, cs, k => by
    simp only [RL] at k
    obtain ⟨c1, c2, h1, h2, h3, h4⟩ := k
    rw [h1, List.length_append, h2, RL.length xs c2 h4]
    rfl
theorem RU.length {e : Sk} : ∀ (xs : List T) (cs : List Value), RU w N e xs cs → cs.length = xs.length * e.size
  | [], cs, k => by simp only [RU] at k; subst k; simp
  | x :: xs, cs, k => by
    simp only [RU] at k
    obtain ⟨c1, c2, h1, h2, _, h3, h4⟩ := k
    rw [h1, List.length_append, h2, RU.length xs c2 h4, List.length_cons, Nat.succ_mul]
    omega
end

theorem RL.at {X : Ext} : ∀ (xs : List T) (cs : List Value) (k : Nat) (x : T), RL w N X xs cs → xs[k]? = some x →
    ∃ pre c post, cs = pre ++ c ++ post ∧ pre.length = Sk.sizes ((T.sks xs).take k) ∧ RC w N X x c ∧
      ∀ y c', y.sk.size = x.sk.size → RC w N X y c' → RL w N X (xs.set k y) (pre ++ c' ++ post)
  | [], _, k, _, _, h => by simp at h
  | z :: zs, cs, 0, x, h, hx => by
    simp only [RL] at h
    obtain ⟨c1, c2, h1, h2, h3, h4⟩ := h
    simp at hx
    subst hx
    refine ⟨[], c1, c2, by simpa using h1, by simp [Sk.sizes], h3, fun y c' hy hc => ?_⟩
    simp only [List.set_cons_zero, RL, List.nil_append]
    exact ⟨c', c2, rfl, RC.length y c' hc, hc, h4⟩
  | z :: zs, cs, k + 1, x, h, hx => by
    simp only [RL] at h
    obtain ⟨c1, c2, h1, h2, h3, h4⟩ := h
    simp at hx
    obtain ⟨pre, c, post, e1, e2, e3, e4⟩ := RL.at zs c2 k x h4 hx
    refine ⟨c1 ++ pre, c, post, by rw [h1, e1]; simp, ?_, e3, fun y c' hy hc => ?_⟩
    · simp [T.sks, Sk.sizes, e2, h2]
    · have := e4 y c' hy hc
      simp only [List.set_cons_succ, RL]
      exact ⟨c1, pre ++ c' ++ post, by simp, h2, h3, this⟩

theorem RU.at {e : Sk} : ∀ (xs : List T) (cs : List Value) (k : Nat) (x : T), RU w N e xs cs → xs[k]? = some x →
    ∃ pre c post, cs = pre ++ c ++ post ∧ pre.length = k * e.size ∧ x.sk = e ∧ RC w N Ext.none x c ∧
      ∀ y c', y.sk = e → RC w N Ext.none y c' → RU w N e (xs.set k y) (pre ++ c' ++ post)
  | [], _, k, _, _, h => by simp at h
  | z :: zs, cs, 0, x, h, hx => by
    simp only [RU] at h
    obtain ⟨c1, c2, h1, h2, h2', h3, h4⟩ := h
    simp at hx
    subst hx
    refine ⟨[], c1, c2, by simpa using h1, by simp, h2', h3, fun y c' hy hc => ?_⟩
    simp only [List.set_cons_zero, RU, List.nil_append]
    exact ⟨c', c2, rfl, by rw [RC.length y c' hc, hy], hy, hc, h4⟩
  | z :: zs, cs, k + 1, x, h, hx => by
    simp only [RU] at h
    obtain ⟨c1, c2, h1, h2, h2', h3, h4⟩ := h
    simp at hx
    obtain ⟨pre, c, post, e1, e2, e2', e3, e4⟩ := RU.at zs c2 k x h4 hx
    refine ⟨c1 ++ pre, c, post, by rw [h1, e1]; simp, ?_, e2', e3, fun y c' hy hc => ?_⟩
    · simp [e2, h2, Nat.succ_mul]; omega
    · have := e4 y c' hy hc
      simp only [List.set_cons_succ, RU]
      exact ⟨c1, pre ++ c' ++ post, by simp, h2, h2', h3, this⟩

theorem RU.append {e : Sk} : ∀ (xs ys : List T) (cs ds : List Value), RU w N e xs cs → RU w N e ys ds → RU w N e (xs ++ ys) (cs ++ ds)
  | [], ys, cs, ds, h, k => by simp only [RU] at h; subst h; simpa using k
  | x :: xs, ys, cs, ds, h, k => by
    simp only [RU] at h
    obtain ⟨c1, c2, h1, h2, h2', h3, h4⟩ := h
    simp only [List.cons_append, RU]
    exact ⟨c1, c2 ++ ds, by rw [h1]; simp, h2, h2', h3, RU.append xs ys c2 ds h4 k⟩

theorem RU.drop {e : Sk} : ∀ (xs : List T) (cs : List Value) (k : Nat), RU w N e xs cs → RU w N e (xs.drop k) (cs.drop (k * e.size))
  | xs, cs, 0, h => by simpa using h
  | [], cs, k + 1, h => by simp only [RU] at h; subst h; simp [RU]
  | x :: xs, cs, k + 1, h => by
    simp only [RU] at h
    obtain ⟨c1, c2, h1, h2, h2', h3, h4⟩ := h
    have := RU.drop xs c2 k h4
    rw [h1, Nat.succ_mul, List.drop_succ_cons]
    rw [show k * e.size + e.size = c1.length + k * e.size by rw [h2]; omega, ← List.drop_drop, List.drop_left]
    exact this

theorem RU.take {e : Sk} : ∀ (xs : List T) (cs : List Value) (k : Nat), RU w N e xs cs → RU w N e (xs.take k) (cs.take (k * e.size))
  | xs, cs, 0, h => by simp [RU]
  | [], cs, k + 1, h => by simp only [RU] at h; subst h; simp [RU]
  | x :: xs, cs, k + 1, h => by
    simp only [RU] at h
    obtain ⟨c1, c2, h1, h2, h2', h3, h4⟩ := h
    have := RU.take xs c2 k h4
    rw [h1, Nat.succ_mul, List.take_succ_cons]
    simp only [RU]
    refine ⟨c1, c2.take (k * e.size), ?_, h2, h2', h3, this⟩
    rw [List.take_append, List.take_of_length_le (by omega)]
    congr 2
    omega
end

end Go.AL

/- The state of the abstract machine, and what it says of a frame and a world. No condition. -/
namespace Go.AL
open Go

mutual
/-- Does it lead to no memory of the call's own? -/
def T.data : T → Bool
  | .agg fs => T.datas fs
  | .ifc _ x => T.data x
  | .clo _ caps => T.datas caps
  | .ref .. | .row .. => false
  | _ => true
def T.datas : List T → Bool
  | [] => true
  | x :: xs => T.data x && T.datas xs
end

section
variable {w : World} {N : Nat → Prop} {X X' : Ext}
mutual
theorem RC.data : ∀ (x : T) (cs : List Value), x.data = true → RC w N X x cs → RC w N X' x cs
  | .i _, _, _, k | .b _, _, _, k | .u8 _, _, _, k | .u32 _, _, _, k | .u64 _, _, _, k | .s _, _, _, k | .v _, _, _, k | .ba _ _, _, _, k | .sb _, _, _, k | .sl _ _, _, _, k | .pt _, _, _, k | .arr _ _ _, _, _, k | .junk, _, _, k => by simpa only [RC] using k
  | .agg fs, cs, d, k => by
    simp only [RC] at k ⊢
    exact RL.data fs cs (by simpa [T.data] using d) k
  | .ifc t x, cs, d, k => by
    simp only [RC] at k ⊢
    obtain ⟨y, h1, h2⟩ := k
    refine ⟨y, h1, ?_⟩
    have d' : x.data = true := by simpa [T.data] using d
    rcases h2 with ⟨h2, ds, h3, h4⟩ | ⟨h2, h4⟩
    · exact .inl ⟨h2, ds, h3, RC.data x ds d' h4⟩
    · exact .inr ⟨h2, RC.data x _ d' h4⟩
  | .clo f caps, cs, d, k => by
    simp only [RC] at k ⊢
    obtain ⟨vs, h1, h2, h3⟩ := k
    exact ⟨vs, h1, RL.data caps vs (by simpa [T.data] using d) h2, h3⟩
  | .ref id path, cs, d, k => by simp [T.data] at d
  | .row id path off rest, cs, d, k => by simp [T.data] at d
  | .tup _, _, _, k | .ow _, _, _, k | .os _ _, _, _, k => by simp only [RC] at k
theorem RL.data : ∀ (xs : List T) (cs : List Value), T.datas xs = true → RL w N X xs cs → RL w N X' xs cs
  | [], cs, _, k => by simpa only [RL] using k
  | x :: xs, cs, d, k => by
    simp only [RL] at k ⊢
    obtain ⟨c1, c2, h1, h2, h3, h4⟩ := k
    simp [T.datas] at d
    exact ⟨c1, c2, h1, h2, RC.data x c1 d.1 h3, RL.data xs c2 d.2 h4⟩
end
end

theorem Ext.none_le (X : Ext) : Ext.none.Le X := ⟨fun _ _ _ h => False.elim h, fun _ _ _ _ _ h => False.elim h⟩

theorem RC.up {w : World} {N : Nat → Prop} {X : Ext} (x : T) (cs : List Value) (h : RC w N Ext.none x cs) : RC w N X x cs :=
  RC.mono (fun _ hb _ => ⟨hb, rfl⟩) (Ext.none_le X) x cs h

/-- A part: what stands there, how the whole is made anew with another one, what must hold, whether it lies in an array of structs. -/
structure Nav where
  y : T
  f : T → Option T
  ob : Prop
  ar : Bool

def T.nav : List Nat → T → List T → Option Nav
  | [], x, _ => some ⟨x, some, True, false⟩
  | k :: p, .agg fs, q =>
    match fs[k]? with
    | some x => match T.nav p x q with
      | some n => some ⟨n.y, fun z => match n.f z with | some x' => some (.agg (fs.set k x')) | none => none, n.ob, n.ar⟩
      | none => none
    | none => none
  | [k], .ba n l, _ => some ⟨.u8 (l.getD k 0), fun | .u8 x => some (.ba n (l.set k x)) | _ => none, k < n, false⟩
  | k :: p, .arr n e xs, [] =>
    match xs[k]? with
    | some x => if Sk.beq x.sk e then match T.nav p x [] with
      | some m => some ⟨m.y, fun z => match m.f z with | some x' => some (.arr n e (xs.set k x')) | none => none, m.ob, true⟩
      | none => none
      else none
    | none => none
  | k :: p, .arr n e xs, x :: q =>
    if Sk.beq x.sk e then match T.nav p x q with
      | some m => some ⟨m.y, fun z => match m.f z with | some x' => some (.arr n e (xs.set k x')) | none => none, xs[k]? = some x ∧ m.ob, true⟩
      | none => none
    else none
  | _, _, _ => none

theorem sks_length : ∀ (xs : List T), (T.sks xs).length = xs.length
  | [] => rfl
  | _ :: xs => by simp [T.sks, sks_length xs]

theorem sks_get : ∀ (xs : List T) (k : Nat) (x : T), xs[k]? = some x → (T.sks xs)[k]? = some x.sk
  | [], _, _, h => by simp at h
  | z :: zs, 0, x, h => by simp at h; subst h; rfl
  | z :: zs, k + 1, x, h => by simp at h; simpa [T.sks] using sks_get zs k x h

theorem sks_set : ∀ (xs : List T) (k : Nat) (x y : T), xs[k]? = some x → y.sk = x.sk → T.sks (xs.set k y) = T.sks xs
  | [], _, _, _, h, _ => by simp at h
  | z :: zs, 0, x, y, h, e => by simp at h; subst h; simp [T.sks, e]
  | z :: zs, k + 1, x, y, h, e => by simp at h; simp [T.sks, sks_set zs k x y h e]

theorem ba_at (l : List UInt8) (k : Nat) (hk : k < l.length) : l.map u8v = (l.take k).map u8v ++ [u8v (l.getD k 0)] ++ (l.drop (k + 1)).map u8v := by
  rw [← List.map_singleton, ← List.map_append, ← List.map_append]
  congr 1
  rw [List.getD_eq_getElem?_getD, List.getElem?_eq_getElem hk, Option.getD_some]
  simp

theorem ba_set (l : List UInt8) (k : Nat) (x : UInt8) (hk : k < l.length) : (l.set k x).map u8v = (l.take k).map u8v ++ [u8v x] ++ (l.drop (k + 1)).map u8v := by
  rw [← List.map_singleton, ← List.map_append, ← List.map_append]
  congr 1
  rw [List.set_eq_take_append_cons_drop]
  simp [hk]

theorem T.nav_ok {w : World} {N : Nat → Prop} {X : Ext} : ∀ (p : List Nat) (x : T) (q : List T) (n : Nav) (cs : List Value), T.nav p x q = some n → RC w N X x cs → n.ob →
    x.sk.sub p = some n.y.sk ∧ ∃ pre c post, cs = pre ++ c ++ post ∧ pre.length = x.sk.off p ∧ RC w N X n.y c ∧
      ∀ z c' x', z.sk = n.y.sk → (n.ar = true → z.data = true) → RC w N X z c' → n.f z = some x' → RC w N X x' (pre ++ c' ++ post) ∧ x'.sk = x.sk
  | [], x, q, n, cs, h, hc, _ => by
    simp only [T.nav, Option.some.injEq] at h
    subst h
    refine ⟨by simp [Sk.sub], [], cs, [], by simp, by simp [Sk.off], hc, fun z c' x' hz _ hzc hf => ?_⟩
    simp only [Option.some.injEq] at hf
    subst hf
    exact ⟨by simpa using hzc, hz⟩
  | k :: p, .agg fs, q, n, cs, h, hc, ho => by
    simp only [T.nav] at h
    cases hx : fs[k]? with
    | none => simp [hx] at h
    | some x =>
      cases hn : T.nav p x q with
      | none => simp [hx, hn] at h
      | some m =>
        simp only [hx, hn, Option.some.injEq] at h
        subst h
        simp only [RC] at hc
        obtain ⟨pre, c, post, e1, e2, e3, e4⟩ := RL.at fs cs k x hc hx
        obtain ⟨s1, pre', c', post', g1, g2, g3, g4⟩ := T.nav_ok p x q m c hn e3 ho
        have hk := sks_get fs k x hx
        refine ⟨by simp only [T.sk, Sk.sub, hk]; exact s1, pre ++ pre', c', post' ++ post, by rw [e1, g1]; simp, ?_, g3, ?_⟩
        · simp only [T.sk, Sk.off, hk, List.length_append, e2, g2]
        · intro z d x' hz hd hzd hf
          cases hfz : m.f z with
          | none => simp [hfz] at hf
          | some y' =>
            simp only [hfz, Option.some.injEq] at hf
            subst hf
            obtain ⟨r1, r2⟩ := g4 z d y' hz hd hzd hfz
            refine ⟨?_, ?_⟩
            · simp only [RC]
              have := e4 y' (pre' ++ d ++ post') (by rw [r2]) r1
              simpa using this
            · simp only [T.sk, sks_set fs k x y' hx r2]
  | [k], .ba m l, q, n, cs, h, hc, ho => by
    simp only [T.nav, Option.some.injEq] at h
    subst h
    simp only [RC] at hc
    obtain ⟨hl, rfl⟩ := hc
    simp only at ho
    have hk : k < l.length := by omega
    refine ⟨by simp [T.sk, Sk.sub], (l.take k).map u8v, [u8v (l.getD k 0)], (l.drop (k + 1)).map u8v, ba_at l k hk, ?_, by simp only [RC], ?_⟩
    · simp [T.sk, Sk.off]; omega
    · intro z c' x' hz _ hzc hf
      cases z <;> simp at hf
      subst hf
      simp only [RC] at hzc ⊢
      subst hzc
      exact ⟨⟨by simpa using hl, (ba_set l k _ hk).symm⟩, rfl⟩
  | k :: p, .arr m e xs, [], n, cs, h, hc, ho => by
    simp only [T.nav] at h
    cases hx : xs[k]? with
    | none => simp [hx] at h
    | some x =>
      by_cases hb : Sk.beq x.sk e = true
      · cases hn : T.nav p x [] with
        | none => simp [hx, hb, hn] at h
        | some m' =>
          simp only [hx, hb, hn, if_true, Option.some.injEq] at h
          subst h
          simp only [RC] at hc
          obtain ⟨pre, c, post, e1, e2, e2', e3, e4⟩ := RU.at xs cs k x hc.2 hx
          obtain ⟨s1, pre', c', post', g1, g2, g3, g4⟩ := T.nav_ok (X := X) p x [] m' c hn (RC.up x c e3) ho
          refine ⟨by simp only [T.sk, Sk.sub]; rw [← e2']; exact s1, pre ++ pre', c', post' ++ post, by rw [e1, g1]; simp, ?_, g3, ?_⟩
          · simp only [T.sk, Sk.off, List.length_append, e2, g2, e2']
          · intro z d x' hz hd hzd hf
            cases hfz : m'.f z with
            | none => simp [hfz] at hf
            | some y' =>
              simp only [hfz, Option.some.injEq] at hf
              subst hf
              have hd' := hd rfl
              obtain ⟨s1', pre2, c2, post2, k1, k2, k3, k4⟩ := T.nav_ok (X := Ext.none) p x [] m' c hn e3 ho
              have hpre : pre2 = pre' ∧ c2 = c' ∧ post2 = post' := by
                have hl : pre2.length = pre'.length := by rw [k2, g2]
                have hc2 : c2.length = c'.length := by rw [RC.length _ _ k3, RC.length _ _ g3]
                rw [g1, List.append_assoc, List.append_assoc] at k1
                obtain ⟨q1, q2⟩ := List.append_inj k1 hl.symm
                obtain ⟨q3, q4⟩ := List.append_inj q2 hc2.symm
                exact ⟨q1.symm, q3.symm, q4.symm⟩
              obtain ⟨rfl, rfl, rfl⟩ := hpre
              obtain ⟨r1, r2⟩ := k4 z d y' hz (fun _ => hd') (RC.data z d hd' hzd) hfz
              refine ⟨?_, by simp [T.sk]⟩
              simp only [RC]
              refine ⟨by simpa using hc.1, ?_⟩
              have := e4 y' (pre2 ++ d ++ post2) (by rw [r2, e2']) r1
              simpa using this
      · simp [hx, hb] at h
  | k :: p, .arr m e xs, x :: q, n, cs, h, hc, ho => by
    simp only [T.nav] at h
    by_cases hb : Sk.beq x.sk e = true
    · cases hn : T.nav p x q with
      | none => simp [hb, hn] at h
      | some m' =>
        simp only [hb, hn, if_true, Option.some.injEq] at h
        subst h
        simp only at ho
        obtain ⟨hx, ho⟩ := ho
        simp only [RC] at hc
        obtain ⟨pre, c, post, e1, e2, e2', e3, e4⟩ := RU.at xs cs k x hc.2 hx
        obtain ⟨s1, pre', c', post', g1, g2, g3, g4⟩ := T.nav_ok (X := X) p x q m' c hn (RC.up x c e3) ho
        refine ⟨by simp only [T.sk, Sk.sub]; rw [← e2']; exact s1, pre ++ pre', c', post' ++ post, by rw [e1, g1]; simp, ?_, g3, ?_⟩
        · simp only [T.sk, Sk.off, List.length_append, e2, g2, e2']
        · intro z d x' hz hd hzd hf
          cases hfz : m'.f z with
          | none => simp [hfz] at hf
          | some y' =>
            simp only [hfz, Option.some.injEq] at hf
            subst hf
            have hd' := hd rfl
            obtain ⟨s1', pre2, c2, post2, k1, k2, k3, k4⟩ := T.nav_ok (X := Ext.none) p x q m' c hn e3 ho
            have hpre : pre2 = pre' ∧ c2 = c' ∧ post2 = post' := by
              have hl : pre2.length = pre'.length := by rw [k2, g2]
              have hc2 : c2.length = c'.length := by rw [RC.length _ _ k3, RC.length _ _ g3]
              rw [g1, List.append_assoc, List.append_assoc] at k1
              obtain ⟨q1, q2⟩ := List.append_inj k1 hl.symm
              obtain ⟨q3, q4⟩ := List.append_inj q2 hc2.symm
              exact ⟨q1.symm, q3.symm, q4.symm⟩
            obtain ⟨rfl, rfl, rfl⟩ := hpre
            obtain ⟨r1, r2⟩ := k4 z d y' hz (fun _ => hd') (RC.data z d hd' hzd) hfz
            refine ⟨?_, by simp [T.sk]⟩
            simp only [RC]
            refine ⟨by simpa using hc.1, ?_⟩
            have := e4 y' (pre2 ++ d ++ post2) (by rw [r2, e2']) r1
            simpa using this
    · simp [hb] at h

/-- What an object holds: a variable; a row of bytes; a row. -/
inductive Cont where
  | var (x : T)
  | rb (l : List UInt8)
  | rs (e : Sk) (xs : List T)

def Cont.off : Cont → List Nat → Nat
  | .var x, p => x.sk.off p
  | .rb _, [] => 0
  | .rb _, k :: _ => k
  | .rs _ _, [] => 0
  | .rs e _, k :: p => k * e.size + e.off p

/-- Of the array at a place: how many, and how many cells each. -/
def Sk.arrOf : Option Sk → Option (Nat × Nat)
  | some (.ba n) => some (n, 1)
  | some (.ar n e) => some (n, e.size)
  | _ => none

def Cont.len : Cont → List Nat → Option (Nat × Nat)
  | .var x, p => Sk.arrOf (x.sk.sub p)
  | .rb l, [] => some (l.length, 1)
  | .rs e xs, [] => some (xs.length, e.size)
  | _, _ => none

structure CNav where
  y : T
  f : T → Option Cont
  ob : Prop
  ar : Bool

def Cont.nav : Cont → List Nat → List T → Option CNav
  | .var x, p, q => match T.nav p x q with
    | some n => some ⟨n.y, fun z => match n.f z with | some x' => some (.var x') | none => none, n.ob, n.ar⟩
    | none => none
  | .rb l, [k], _ => some ⟨.u8 (l.getD k 0), fun | .u8 x => some (.rb (l.set k x)) | _ => none, k < l.length, false⟩
  | .rs e xs, k :: p, [] => match T.nav (k :: p) (.arr xs.length e xs) [] with
    | some n => some ⟨n.y, fun z => match n.f z with | some (.arr _ _ ys) => some (.rs e ys) | _ => none, n.ob, true⟩
    | none => none
  | .rs e xs, k :: p, x :: q => match T.nav (k :: p) (.arr xs.length e xs) (x :: q) with
    | some n => some ⟨n.y, fun z => match n.f z with | some (.arr _ _ ys) => some (.rs e ys) | _ => none, n.ob, true⟩
    | none => none
  | _, _, _ => none

/-- The cells of an object's block. -/
def CC (w : World) (N : Nat → Prop) (X : Ext) : Cont → List Value → Prop
  | .var x, cs => RC w N X x cs
  | .rb l, cs => ∃ r, cs = l.map u8v ++ r
  | .rs e xs, cs => ∃ c r, cs = c ++ r ∧ RU w N e xs c

theorem CC.mono {w w' : World} {N N' : Nat → Prop} {X X' : Ext} (h : Stay w w' N N') (hX : X.Le X') (c : Cont) (cs : List Value) (k : CC w N X c cs) : CC w' N' X' c cs := by
  cases c with
  | var x => exact RC.mono h hX x cs k
  | rb l => exact k
  | rs e xs =>
    obtain ⟨c, r, h1, h2⟩ := k
    exact ⟨c, r, h1, RU.mono h xs c h2⟩

/-- The same parts, and as many. -/
def Cont.Like (c c' : Cont) : Prop :=
  match c, c' with
  | .var x, .var y => x.sk = y.sk
  | .rb l, .rb k => l.length = k.length
  | .rs e xs, .rs f ys => e = f ∧ xs.length = ys.length
  | _, _ => False

theorem Cont.Like.off {c c' : Cont} (h : c.Like c') (p : List Nat) : c'.off p = c.off p := by
  cases c <;> cases c' <;> simp only [Cont.Like] at h
  · simp [Cont.off, h]
  · cases p <;> rfl
  · obtain ⟨rfl, _⟩ := h; cases p <;> rfl

theorem Cont.Like.len {c c' : Cont} (h : c.Like c') (p : List Nat) : c'.len p = c.len p := by
  cases c <;> cases c' <;> simp only [Cont.Like] at h
  · simp [Cont.len, h]
  · cases p <;> simp [Cont.len, h]
  · obtain ⟨rfl, h⟩ := h; cases p <;> simp [Cont.len, h]

theorem Cont.Like.refl (c : Cont) : c.Like c := by cases c <;> simp [Cont.Like]

theorem arr_f {m : Nat} {e : Sk} {xs : List T} {k : Nat} {p : List Nat} {q : List T} {n : Nav} (h : T.nav (k :: p) (.arr m e xs) q = some n) {z x' : T} (hf : n.f z = some x') :
    ∃ ys, x' = .arr m e ys ∧ ys.length = xs.length := by
  cases q with
  | nil =>
    simp only [T.nav] at h
    cases hx : xs[k]? with
    | none => simp [hx] at h
    | some x =>
      by_cases hb : Sk.beq x.sk e = true
      · cases hn : T.nav p x [] with
        | none => simp [hx, hb, hn] at h
        | some m' =>
          simp only [hx, hb, hn, if_true, Option.some.injEq] at h
          subst h
          cases hfz : m'.f z with
          | none => simp [hfz] at hf
          | some y' =>
            simp only [hfz, Option.some.injEq] at hf
            exact ⟨_, hf.symm, by simp⟩
      · simp [hx, hb] at h
  | cons x q =>
    simp only [T.nav] at h
    by_cases hb : Sk.beq x.sk e = true
    · cases hn : T.nav p x q with
      | none => simp [hb, hn] at h
      | some m' =>
        simp only [hb, hn, if_true, Option.some.injEq] at h
        subst h
        cases hfz : m'.f z with
        | none => simp [hfz] at hf
        | some y' =>
          simp only [hfz, Option.some.injEq] at hf
          exact ⟨_, hf.symm, by simp⟩
    · simp [hb] at h

theorem arr_ar {m : Nat} {e : Sk} {xs : List T} {k : Nat} {p : List Nat} {q : List T} {n : Nav} (h : T.nav (k :: p) (.arr m e xs) q = some n) : n.ar = true := by
  cases q with
  | nil =>
    simp only [T.nav] at h
    split at h
    · split at h
      · split at h
        · simp only [Option.some.injEq] at h; subst h; rfl
        · cases h
      · cases h
    · cases h
  | cons x q =>
    simp only [T.nav] at h
    split at h
    · split at h
      · simp only [Option.some.injEq] at h; subst h; rfl
      · cases h
    · cases h

theorem Cont.nav_ok {w : World} {N : Nat → Prop} {X : Ext} (c : Cont) (p : List Nat) (q : List T) (n : CNav) (cs : List Value) (h : c.nav p q = some n) (hc : CC w N X c cs) (ho : n.ob) :
    ∃ pre d post, cs = pre ++ d ++ post ∧ pre.length = c.off p ∧ RC w N X n.y d ∧
      ∀ z d' c', z.sk = n.y.sk → (n.ar = true → z.data = true) → RC w N X z d' → n.f z = some c' → CC w N X c' (pre ++ d' ++ post) ∧ c.Like c' := by
  cases c with
  | var x =>
    simp only [Cont.nav] at h
    cases hn : T.nav p x q with
    | none => simp [hn] at h
    | some m =>
      simp only [hn, Option.some.injEq] at h
      subst h
      obtain ⟨_, pre, d, post, e1, e2, e3, e4⟩ := T.nav_ok p x q m cs hn hc ho
      refine ⟨pre, d, post, e1, e2, e3, fun z d' c' hz hd hzd hf => ?_⟩
      cases hfz : m.f z with
      | none => simp [hfz] at hf
      | some x' =>
        simp only [hfz, Option.some.injEq] at hf
        subst hf
        obtain ⟨r1, r2⟩ := e4 z d' x' hz hd hzd hfz
        exact ⟨r1, r2.symm⟩
  | rb l =>
    obtain ⟨r, hr⟩ := hc
    cases p with
    | nil => simp [Cont.nav] at h
    | cons k p =>
      cases p with
      | cons k' p => simp [Cont.nav] at h
      | nil =>
        simp only [Cont.nav, Option.some.injEq] at h
        subst h
        simp only at ho
        refine ⟨(l.take k).map u8v, [u8v (l.getD k 0)], (l.drop (k + 1)).map u8v ++ r, ?_, ?_, by simp only [RC], ?_⟩
        · rw [hr, ba_at l k ho]; simp
        · simp [Cont.off]; omega
        · intro z d' c' hz _ hzd hf
          cases z <;> simp at hf
          subst hf
          simp only [RC] at hzd
          subst hzd
          refine ⟨⟨r, ?_⟩, by simp [Cont.Like]⟩
          rw [ba_set l k _ ho]; simp
  | rs e xs =>
    obtain ⟨c0, r, hr, hu⟩ := hc
    have main : ∀ (k : Nat) (p : List Nat) (q : List T) (m : Nav), T.nav (k :: p) (.arr xs.length e xs) q = some m → m.ob →
        ∃ pre d post, cs = pre ++ d ++ post ∧ pre.length = (Cont.rs e xs).off (k :: p) ∧ RC w N X m.y d ∧
          ∀ z d' c', z.sk = m.y.sk → (true = true → z.data = true) → RC w N X z d' → (match m.f z with | some (.arr _ _ ys) => some (Cont.rs e ys) | _ => none) = some c' → CC w N X c' (pre ++ d' ++ post) ∧ (Cont.rs e xs).Like c' := by
      intro k p q m hm ho
      have hc : RC w N X (.arr xs.length e xs) c0 := by simp only [RC]; exact ⟨trivial, hu⟩
      obtain ⟨_, pre, d, post, e1, e2, e3, e4⟩ := T.nav_ok (k :: p) _ q m c0 hm hc ho
      refine ⟨pre, d, post ++ r, by rw [hr, e1]; simp, ?_, e3, fun z d' c' hz hd hzd hf => ?_⟩
      · rw [e2]; simp [T.sk, Sk.off, Cont.off]
      · cases hfz : m.f z with
        | none => simp [hfz] at hf
        | some x' =>
          obtain ⟨ys, rfl, hlen⟩ := arr_f hm hfz
          simp only [hfz, Option.some.injEq] at hf
          subst hf
          obtain ⟨r1, r2⟩ := e4 z d' _ hz (fun _ => hd rfl) hzd hfz
          simp only [RC] at r1
          exact ⟨⟨pre ++ d' ++ post, r, by simp, r1.2⟩, rfl, hlen.symm⟩
    cases p with
    | nil => simp [Cont.nav] at h
    | cons k p =>
      cases q with
      | nil =>
        simp only [Cont.nav] at h
        cases hn : T.nav (k :: p) (.arr xs.length e xs) [] with
        | none => simp [hn] at h
        | some m =>
          simp only [hn, Option.some.injEq] at h
          subst h
          exact main k p [] m hn ho
      | cons x q =>
        simp only [Cont.nav] at h
        cases hn : T.nav (k :: p) (.arr xs.length e xs) (x :: q) with
        | none => simp [hn] at h
        | some m =>
          simp only [hn, Option.some.injEq] at h
          subst h
          exact main k p (x :: q) m hn ho

structure Obj where
  c : Cont
  fz : Bool

structure St where
  t : List T
  m : List (Option Obj)

/-- Where the objects lie: block, cells; none: a row that is nil. -/
abbrev Bel := Nat → Option (Nat × Nat)

def RowAt (c : Cont) (β : Option (Nat × Nat)) (p : List Nat) (off : Nat) (rest : Option Nat) (v : Value) : Prop :=
  ∃ n sz, c.len p = some (n, sz) ∧ off + rest.getD (n - off) ≤ n ∧
    match β with
    | some (b, k) => ∃ A cap, v = .slice (some A) (rest.getD (n - off)) cap ∧ rest.getD (n - off) ≤ cap ∧ c.off p + (off + cap) * sz ≤ k ∧ (0 < cap → A = ⟨b, c.off p + off * sz, none⟩)
    | none => v = .slice none 0 0 ∧ rest.getD (n - off) = 0 ∧ p = [] ∧ off = 0

def ext (m : List (Option Obj)) (β : Bel) : Ext where
  rf id p a := ∃ o b k, m[id]? = some (some o) ∧ β id = some (b, k) ∧ a = ⟨b, o.c.off p, none⟩
  rw id p off rest v := ∃ o, m[id]? = some (some o) ∧ RowAt o.c (β id) p off rest v

/-- The blocks that may be written. -/
def Mut (N0 : Nat → Prop) (m : List (Option Obj)) (β : Bel) (b : Nat) : Prop :=
  N0 b ∨ ∃ id o k, m[id]? = some (some o) ∧ o.fz = false ∧ β id = some (b, k)

/-- All old blocks but some are as they were. -/
structure Keeps (F : Nat → Prop) (w w' : World) : Prop where
  os : w'.os = w.os
  tape : w'.tape = w.tape
  output : w'.output = w.output
  size : w.heap.size ≤ w'.heap.size
  block : ∀ b, b < w.heap.size → ¬ F b → w'.heap[b]? = w.heap[b]?

theorem Keeps.refl (F : Nat → Prop) (w : World) : Keeps F w w := ⟨rfl, rfl, rfl, Nat.le_refl _, fun _ _ _ => rfl⟩

theorem Keeps.trans {F G H : Nat → Prop} {a b c : World} (h : Keeps F a b) (k : Keeps G b c) (hF : ∀ x, F x → H x) (hG : ∀ x, x < a.heap.size → G x → H x) : Keeps H a c :=
  ⟨k.os.trans h.os, k.tape.trans h.tape, k.output.trans h.output, Nat.le_trans h.size k.size,
    fun x hx hn => (k.block x (Nat.lt_of_lt_of_le hx h.size) fun g => hn (hG x hx g)).trans (h.block x hx fun f => hn (hF x f))⟩

theorem Keeps.mono {F G : Nat → Prop} {a b : World} (h : Keeps F a b) (hF : ∀ x, x < a.heap.size → F x → G x) : Keeps G a b :=
  ⟨h.os, h.tape, h.output, h.size, fun x hx hn => h.block x hx fun f => hn (hF x hx f)⟩

/-- What a slot holds. -/
def RT (w : World) (N : Nat → Prop) (X : Ext) : T → Value → Prop
  | .junk, _ => True
  | .tup xs, v => ∃ vs : List Value, v = .tuple vs.toArray ∧ vs.length = xs.length ∧ ∀ (k : Nat) (x : T), xs[k]? = some x → ∃ y, vs[k]? = some y ∧ RV w N X x y
  | x, v => RV w N X x v

theorem RT.mono {w w' : World} {N N' : Nat → Prop} {X X' : Ext} (h : Stay w w' N N') (hX : X.Le X') {x : T} {v : Value} (k : RT w N X x v) : RT w' N' X' x v := by
  cases x
  case junk => trivial
  case tup xs =>
    obtain ⟨vs, h1, h2, h3⟩ := k
    refine ⟨vs, h1, h2, fun j x hx => ?_⟩
    obtain ⟨y, hy, hr⟩ := h3 j x hx
    exact ⟨y, hy, hr.mono h hX⟩
  all_goals exact RV.mono h hX k

/-- Around a call: the world in which it began, the blocks that it may write, the caller's. -/
structure Ctx where
  w0 : World
  F : Nat → Prop
  N0 : Nat → Prop
  nio : Nat
  io : Nat → Nat
  sz : Nat → Nat

structure Sim (C : Ctx) (β : Bel) (st : St) (a : Act) (w : World) : Prop where
  sz : a.tmps.size = st.t.length
  df : a.defers = []
  tm : ∀ k x, st.t[k]? = some x → RT w (Mut C.N0 st.m β) (ext st.m β) x (a.tmps.getD k undef)
  me : ∀ id o, st.m[id]? = some (some o) → match β id with
    | some (b, k) => ∃ cs e fz, w.heap[b]? = some (.cells cs e fz) ∧ cs.size = k ∧ (o.fz = false → fz = (0, 0)) ∧ CC w (Mut C.N0 st.m β) (ext st.m β) o.c cs.toList
    | none => o.c = .rb [] ∨ ∃ e, o.c = .rs e []
  inj : ∀ id id' o o' b k k', st.m[id]? = some (some o) → st.m[id']? = some (some o') → β id = some (b, k) → β id' = some (b, k') → id = id'
  loc : ∀ id o b k, st.m[id]? = some (some o) → β id = some (b, k) → (C.nio ≤ id ∧ C.w0.heap.size ≤ b) ∨ (id < C.nio ∧ C.io id = b ∧ C.F b ∧ C.sz id = k)
  ios : ∀ id, id < C.nio → ∃ c, st.m[id]? = some (some ⟨c, false⟩)
  fzl : ∀ id o b k, st.m[id]? = some (some o) → o.fz = true → β id = some (b, k) → C.w0.heap.size ≤ b
  fn : ∀ b, C.F b → C.N0 b
  nl : ∀ b, C.N0 b → b < C.w0.heap.size
  kp : Keeps C.F C.w0 w
  iob : ∀ id, id < C.nio → ∃ b k, β id = some (b, k)

end Go.AL

/- How the relation of state and world goes on: a slot is set, the heap grows, an object is new, an object is written. No condition. -/
namespace Go.AL
open Go

def St.put (st : St) (d : Option Nat) (x : T) : St :=
  match d with
  | some d => { st with t := st.t.set d x }
  | none => st

theorem getD_set (ts : Array Value) (d k : Nat) (v : Value) : (ts.setIfInBounds d v).getD k undef = if d = k ∧ d < ts.size then v else ts.getD k undef := by
  simp only [Array.getD_eq_getD_getElem?, Array.getElem?_setIfInBounds]
  by_cases h : d = k
  · subst h
    by_cases hs : d < ts.size
    · simp [hs]
    · simp [hs]
  · simp [h]

theorem Sim.put {C : Ctx} {β : Bel} {st : St} {a : Act} {w : World} (h : Sim C β st a w) (d : Option Nat) {x : T} {v : Value}
    (hx : RT w (Mut C.N0 st.m β) (ext st.m β) x v) : Sim C β (st.put d x) (a.put d v) w := by
  cases d with
  | none => exact h
  | some d =>
    refine { h with sz := ?_, tm := ?_ }
    · simp [St.put, Act.put, h.sz]
    · intro k y hy
      simp only [St.put, List.getElem?_set] at hy
      simp only [Act.put, St.put, getD_set]
      by_cases hk : d = k
      · subst hk
        by_cases hs : d < st.t.length
        · simp only [hs, if_true, Option.some.injEq] at hy
          subst hy
          rw [if_pos ⟨rfl, by rw [h.sz]; exact hs⟩]
          exact hx
        · simp [hs] at hy
      · simp only [hk, if_false] at hy
        rw [if_neg (by simp [hk])]
        exact h.tm k y hy

/-- The value of an operand. -/
def ofV : Value → Option T
  | .bool c => some (.b c)
  | .int .i64 n => some (.i n)
  | .int .u8 (.ofNat n) => if n < 256 then some (.u8 (UInt8.ofNat n)) else none
  | .int .u32 (.ofNat n) => if n < 4294967296 then some (.u32 (UInt32.ofNat n)) else none
  | .int .u64 (.ofNat n) => if n < 18446744073709551616 then some (.u64 (UInt64.ofNat n)) else none
  | .string s => some (.s s.data.toList)
  | .pointer none => some (.v (.pointer none))
  | .slice none 0 0 => some (.v (.slice none 0 0))
  | .map none => some (.v (.map none))
  | .nilFunc => some (.v .nilFunc)
  | .nilIface => some (.v .nilIface)
  | .tuple ⟨[]⟩ => some (.tup [])
  | .int k n => some (.v (.int k n))
  | _ => none

def St.ev (st : St) : Operand → Option T
  | .tmp t => st.t[t]?
  | .const v => ofV v
  | .func f => some (.clo f [])
  | .global _ => none

theorem RV.of_leaf {w : World} {N : Nat → Prop} {X : Ext} {x : T} {v : Value} (h : RC w N X x [v]) (ha : x.isAgg = false) : RV w N X x v := .inr ⟨ha, h⟩

theorem ofV_ok {w : World} {N : Nat → Prop} {X : Ext} {v : Value} {x : T} (h : ofV v = some x) : RT w N X x v := by
  unfold ofV at h
  split at h <;> (try (simp only [Option.some.injEq] at h; subst h))
  · exact .of_leaf (by simp [RC]) rfl
  · exact .of_leaf (by simp [RC]) rfl
  · rename_i n
    by_cases hn : n < 256
    · simp only [hn, if_true, Option.some.injEq] at h; subst h
      exact .of_leaf (by simp only [RC, u8v, UInt8.toNat_ofNat']; rw [Nat.mod_eq_of_lt (by simpa using hn)]; rfl) rfl
    · simp [hn] at h
  · rename_i n
    by_cases hn : n < 4294967296
    · simp only [hn, if_true, Option.some.injEq] at h; subst h
      exact .of_leaf (by simp only [RC, UInt32.toNat_ofNat']; rw [Nat.mod_eq_of_lt (by simpa using hn)]; rfl) rfl
    · simp [hn] at h
  · rename_i n
    by_cases hn : n < 18446744073709551616
    · simp only [hn, if_true, Option.some.injEq] at h; subst h
      exact .of_leaf (by simp only [RC, UInt64.toNat_ofNat']; rw [Nat.mod_eq_of_lt (by simpa using hn)]; rfl) rfl
    · simp [hn] at h
  · exact .of_leaf (by simp only [RC, Array.toArray_toList]) rfl
  · exact .of_leaf (by simp [RC, Value.oneCell']) rfl
  · exact .of_leaf (by simp [RC, Value.oneCell']) rfl
  · exact .of_leaf (by simp [RC, Value.oneCell']) rfl
  · exact .of_leaf (by simp [RC, Value.oneCell']) rfl
  · exact .of_leaf (by simp [RC, Value.oneCell']) rfl
  · exact ⟨[], rfl, rfl, fun k x hx => by simp at hx⟩
  · exact .of_leaf (by simp [RC, Value.oneCell']) rfl
  · cases h

theorem Sim.ev {C : Ctx} {β : Bel} {st : St} {a : Act} {w : World} (h : Sim C β st a w) {o : Operand} {x : T} (hx : st.ev o = some x) :
    RT w (Mut C.N0 st.m β) (ext st.m β) x (a.eval o) := by
  cases o with
  | tmp t => exact h.tm t x hx
  | const v => exact ofV_ok hx
  | func f =>
    simp only [St.ev, Option.some.injEq] at hx
    subst hx
    exact .of_leaf (by simp [RC, RL, Act.eval]) rfl
  | global g => simp [St.ev] at hx

/-- The heap grows: nothing that was there is turned. -/
theorem Sim.grow {C : Ctx} {β : Bel} {st : St} {a : Act} {w w' : World} (h : Sim C β st a w) (hk : Keeps (fun _ => False) w w') : Sim C β st a w' := by
  have hs : Stay w w' (Mut C.N0 st.m β) (Mut C.N0 st.m β) := fun b hb hlt => ⟨hb, hk.block b hlt (fun f => f)⟩
  refine { h with tm := fun k x hx => (h.tm k x hx).mono hs (Ext.Le.refl _), me := fun id o ho => ?_, kp := h.kp.trans hk (fun x f => f) (fun x _ f => f.elim) }
  have := h.me id o ho
  revert this
  cases β id with
  | none => exact fun this => this
  | some bk =>
    obtain ⟨b, k⟩ := bk
    rintro ⟨cs, e, fz, h1, h2, h3, h4⟩
    have hlt : b < w.heap.size := (Array.getElem?_eq_some_iff.1 h1).1
    exact ⟨cs, e, fz, (hk.block b hlt (fun f => f)).trans h1, h2, h3, CC.mono hs (Ext.Le.refl _) _ _ h4⟩

def setAt (m : List (Option Obj)) (id : Nat) (o : Option Obj) : List (Option Obj) := m.set id o

def St.fill (st : St) (id : Nat) (o : Obj) : St := { st with m := st.m.set id (some o) }

theorem fill_old {m : List (Option Obj)} {id id' : Nat} {o o' : Obj} (hn : m[id]? = some none) (h : m[id']? = some (some o')) : (m.set id (some o))[id']? = some (some o') := by
  rw [List.getElem?_set]
  by_cases e : id = id'
  · subst e; rw [hn] at h; cases h
  · rw [if_neg e]; exact h

theorem fill_inv {m : List (Option Obj)} {id id' : Nat} {o o' : Obj} (h : (m.set id (some o))[id']? = some (some o')) : (id' = id ∧ o' = o) ∨ (id' ≠ id ∧ m[id']? = some (some o')) := by
  rw [List.getElem?_set] at h
  by_cases e : id = id'
  · subst e
    by_cases hl : id < m.length
    · simp [hl] at h; exact .inl ⟨rfl, h.symm⟩
    · simp [hl] at h
  · rw [if_neg e] at h; exact .inr ⟨fun e' => e e'.symm, h⟩

/-- The places of the objects, with one more. -/
def Bel.with (β : Bel) (id : Nat) (bk : Option (Nat × Nat)) : Bel := fun i => if i = id then bk else β i

theorem Sim.live_lt {C : Ctx} {β : Bel} {st : St} {a : Act} {w : World} (h : Sim C β st a w) {id : Nat} {o : Obj} {b k : Nat} (e1 : st.m[id]? = some (some o)) (e2 : β id = some (b, k)) : b < w.heap.size := by
  have := h.me id o e1
  rw [e2] at this
  obtain ⟨cs, e, fz, q, _⟩ := this
  exact (Array.getElem?_eq_some_iff.1 q).1

theorem fill_ext {st : St} {β : Bel} {id : Nat} (hn : st.m[id]? = some none) (o : Obj) (bk : Option (Nat × Nat)) : (ext st.m β).Le (ext (st.fill id o).m (β.with id bk)) := by
  have hid : ∀ id' o', st.m[id']? = some (some o') → id' ≠ id := fun id' o' h' e => by subst e; rw [hn] at h'; cases h'
  refine ⟨fun id' p ad hh => ?_, fun id' p off r v hh => ?_⟩
  · obtain ⟨o', b, k, e1, e2, e3⟩ := hh
    exact ⟨o', b, k, fill_old hn e1, by simp only [Bel.with]; rw [if_neg (hid _ _ e1)]; exact e2, e3⟩
  · obtain ⟨o', e1, e2⟩ := hh
    exact ⟨o', fill_old hn e1, by simp only [Bel.with]; rw [if_neg (hid _ _ e1)]; exact e2⟩

theorem fill_stay {C : Ctx} {β : Bel} {st : St} {w1 w : World} (hk : Keeps (fun _ => False) w1 w) {id : Nat} (o : Obj) {bk : Option (Nat × Nat)}
    (hb : ∀ b k, bk = some (b, k) → w1.heap.size ≤ b) : Stay w1 w (Mut C.N0 st.m β) (Mut C.N0 (st.fill id o).m (β.with id bk)) := by
  intro b hm hlt
  refine ⟨?_, hk.block b hlt (fun f => f)⟩
  rintro (hN | ⟨id', o', k, e1, e2, e3⟩)
  · exact hm (.inl hN)
  · rcases fill_inv e1 with ⟨rfl, rfl⟩ | ⟨hne, e1'⟩
    · simp only [Bel.with, if_true] at e3
      have := hb b k e3
      omega
    · simp only [Bel.with, if_neg hne] at e3
      exact hm (.inr ⟨id', o', k, e1', e2, e3⟩)

/-- A new object: in a block that was not there, or none (a row that is nil). -/
theorem Sim.fill {C : Ctx} {β : Bel} {st : St} {a : Act} {w1 w : World} (h : Sim C β st a w1) (hk : Keeps (fun _ => False) w1 w) {id : Nat} (hn : st.m[id]? = some none) (o : Obj) (bk : Option (Nat × Nat))
    (hb : ∀ b k, bk = some (b, k) → w1.heap.size ≤ b ∧ ∃ cs e, w.heap[b]? = some (.cells cs e (0, 0)) ∧ cs.size = k ∧
      CC w (Mut C.N0 (st.fill id o).m (β.with id bk)) (ext (st.fill id o).m (β.with id bk)) o.c cs.toList)
    (h0 : bk = none → o.c = .rb [] ∨ ∃ e, o.c = .rs e []) : Sim C (β.with id bk) (st.fill id o) a w := by
  have hid : ∀ id' o', st.m[id']? = some (some o') → id' ≠ id := fun id' o' h' e => by subst e; rw [hn] at h'; cases h'
  have hX := fill_ext hn o bk (β := β)
  have hS := fill_stay (C := C) (β := β) (st := st) hk o (id := id) (bk := bk) (fun b k e => (hb b k e).1)
  have hge : C.nio ≤ id := by
    apply Nat.le_of_not_lt
    intro hlt
    obtain ⟨x, hx⟩ := h.ios id hlt
    rw [hn] at hx; cases hx
  refine ⟨h.sz, h.df, fun k x hx => (h.tm k x hx).mono hS hX, ?_, ?_, ?_, ?_, ?_, h.fn, h.nl, h.kp.trans hk (fun x f => f) (fun x _ f => f.elim), fun i hi => by
    have hne : i ≠ id := by omega
    simp only [Bel.with, if_neg hne]
    exact h.iob i hi⟩
  · intro id' o' e1
    rcases fill_inv e1 with ⟨rfl, rfl⟩ | ⟨hne, e1'⟩
    · simp only [Bel.with, if_true]
      cases bk with
      | none => exact h0 rfl
      | some bk =>
        obtain ⟨b, k⟩ := bk
        obtain ⟨_, cs, e, q1, q2, q3⟩ := hb b k rfl
        exact ⟨cs, e, (0, 0), q1, q2, fun _ => rfl, q3⟩
    · have := h.me id' o' e1'
      simp only [Bel.with, if_neg hne]
      revert this
      cases hq : β id' with
      | none => exact fun this => this
      | some bk' =>
        obtain ⟨b, k⟩ := bk'
        rintro ⟨cs, e, fz, q1, q2, q3, q4⟩
        exact ⟨cs, e, fz, (hk.block b (h.live_lt e1' hq) (fun f => f)).trans q1, q2, q3, CC.mono hS hX _ _ q4⟩
  · intro i1 i2 o1 o2 b k1 k2 e1 e2 e3 e4
    rcases fill_inv e1 with ⟨rfl, rfl⟩ | ⟨n1, e1'⟩ <;> rcases fill_inv e2 with ⟨rfl, rfl⟩ | ⟨n2, e2'⟩
    · rfl
    · simp only [Bel.with, if_true, if_neg n2] at e3 e4
      have := (hb _ _ e3).1
      have := h.live_lt e2' e4
      omega
    · simp only [Bel.with, if_true, if_neg n1] at e3 e4
      have := (hb _ _ e4).1
      have := h.live_lt e1' e3
      omega
    · simp only [Bel.with, if_neg n1, if_neg n2] at e3 e4
      exact h.inj i1 i2 o1 o2 b k1 k2 e1' e2' e3 e4
  · intro id' o' b k e1 e2
    rcases fill_inv e1 with ⟨rfl, rfl⟩ | ⟨n1, e1'⟩
    · simp only [Bel.with, if_true] at e2
      exact .inl ⟨hge, Nat.le_trans h.kp.size (hb _ _ e2).1⟩
    · simp only [Bel.with, if_neg n1] at e2
      exact h.loc id' o' b k e1' e2
  · intro id' hlt
    obtain ⟨x, hx⟩ := h.ios id' hlt
    exact ⟨x, by simp only [St.fill]; rw [List.getElem?_set_ne (by omega)]; exact hx⟩
  · intro id' o' b k e1 hz e2
    rcases fill_inv e1 with ⟨rfl, rfl⟩ | ⟨n1, e1'⟩
    · simp only [Bel.with, if_true] at e2
      exact Nat.le_trans h.kp.size (hb _ _ e2).1
    · simp only [Bel.with, if_neg n1] at e2
      exact h.fzl id' o' b k e1' hz e2

theorem keeps_alloc (w : World) (o : Go.Obj) : Keeps (fun _ => False) w (w.alloc o) := by
  refine ⟨rfl, rfl, rfl, by simp, fun b hb _ => ?_⟩
  show (w.heap.push o)[b]? = _
  rw [Array.getElem?_push, if_neg (by omega)]

theorem keeps_drew (w : World) : Keeps (fun _ => False) w w.drew := ⟨rfl, rfl, rfl, Nat.le_refl _, fun _ _ _ => rfl⟩

theorem heap_new (w : World) (o : Go.Obj) : (w.alloc o).heap[w.heap.size]? = some o := by
  show (w.heap.push o)[w.heap.size]? = _
  simp

/-- An object is written: a part of its cells. -/
theorem Sim.write {C : Ctx} {β : Bel} {st : St} {a : Act} {w w' : World} (h : Sim C β st a w) {id : Nat} {o : Obj} (ho : st.m[id]? = some (some o)) (hf : o.fz = false) {b k : Nat} (hβ : β id = some (b, k))
    (c' : Cont) (hl : o.c.Like c') (cs' : Array Value) (e' : TypeId)
    (hk : Keeps (fun x => x = b) w w') (hb : w'.heap[b]? = some (.cells cs' e' (0, 0))) (hs : cs'.size = k)
    (hc : CC w' (Mut C.N0 st.m β) (ext st.m β) c' cs'.toList) : Sim C β (st.fill id ⟨c', false⟩) a w' := by
  have hlt : id < st.m.length := (List.getElem?_eq_some_iff.1 ho).1
  have hm : ∀ b', Mut C.N0 (st.fill id ⟨c', false⟩).m β b' ↔ Mut C.N0 st.m β b' := by
    intro b'
    constructor
    · rintro (hN | ⟨id', o', k', e1, e2, e3⟩)
      · exact .inl hN
      · rcases fill_inv e1 with ⟨rfl, rfl⟩ | ⟨hne, e1'⟩
        · exact .inr ⟨id', o, k', ho, hf, e3⟩
        · exact .inr ⟨id', o', k', e1', e2, e3⟩
    · rintro (hN | ⟨id', o', k', e1, e2, e3⟩)
      · exact .inl hN
      · by_cases hne : id' = id
        · subst hne
          exact .inr ⟨id', ⟨c', false⟩, k', by simp [St.fill, hlt], rfl, e3⟩
        · exact .inr ⟨id', o', k', by simp only [St.fill]; rw [List.getElem?_set_ne (fun e => hne e.symm)]; exact e1, e2, e3⟩
  have hX : (ext st.m β).Le (ext (st.fill id ⟨c', false⟩).m β) := by
    refine ⟨fun id' p ad hh => ?_, fun id' p off r v hh => ?_⟩
    · obtain ⟨o', b', k', e1, e2, e3⟩ := hh
      by_cases hne : id' = id
      · subst hne
        rw [ho] at e1; simp only [Option.some.injEq] at e1; subst e1
        exact ⟨⟨c', false⟩, b', k', by simp [St.fill, hlt], e2, by rw [e3, hl.off]⟩
      · exact ⟨o', b', k', by simp only [St.fill]; rw [List.getElem?_set_ne (fun e => hne e.symm)]; exact e1, e2, e3⟩
    · obtain ⟨o', e1, e2⟩ := hh
      by_cases hne : id' = id
      · subst hne
        rw [ho] at e1; simp only [Option.some.injEq] at e1; subst e1
        refine ⟨⟨c', false⟩, by simp [St.fill, hlt], ?_⟩
        obtain ⟨n, sz, q1, q2, q3⟩ := e2
        refine ⟨n, sz, by rw [hl.len]; exact q1, q2, ?_⟩
        rw [hβ] at q3 ⊢
        simpa only [hl.off] using q3
      · exact ⟨o', by simp only [St.fill]; rw [List.getElem?_set_ne (fun e => hne e.symm)]; exact e1, e2⟩
  have hbm : Mut C.N0 st.m β b := .inr ⟨id, o, k, ho, hf, hβ⟩
  have hS : Stay w w' (Mut C.N0 st.m β) (Mut C.N0 (st.fill id ⟨c', false⟩).m β) := by
    intro b' hb' hlt'
    refine ⟨fun hx => hb' ((hm b').1 hx), hk.block b' hlt' (fun e => hb' (e ▸ hbm))⟩
  refine ⟨h.sz, h.df, fun j x hx => (h.tm j x hx).mono hS hX, ?_, ?_, ?_, ?_, ?_, h.fn, h.nl, h.kp.trans hk (fun x f => f) ?_, h.iob⟩
  · intro id' o' e1
    rcases fill_inv e1 with ⟨rfl, rfl⟩ | ⟨hne, e1'⟩
    · rw [hβ]
      exact ⟨cs', e', (0, 0), hb, hs, fun _ => rfl, CC.mono (fun b' hb' _ => ⟨fun hx => hb' ((hm b').1 hx), rfl⟩) hX _ _ hc⟩
    · have := h.me id' o' e1'
      revert this
      cases hq : β id' with
      | none => exact fun this => this
      | some bk' =>
        obtain ⟨b', k'⟩ := bk'
        rintro ⟨cs, e, fz, q1, q2, q3, q4⟩
        have hne' : b' ≠ b := fun e => hne (h.inj id' id o' o b k' k e1' ho (by rw [hq, e]) hβ)
        exact ⟨cs, e, fz, (hk.block b' (h.live_lt e1' hq) hne').trans q1, q2, q3, CC.mono hS hX _ _ q4⟩
  · intro i1 i2 o1 o2 b' k1 k2 e1 e2 e3 e4
    have g1 : ∃ o1', st.m[i1]? = some (some o1') := by
      rcases fill_inv e1 with ⟨rfl, _⟩ | ⟨_, e⟩
      · exact ⟨o, ho⟩
      · exact ⟨o1, e⟩
    have g2 : ∃ o2', st.m[i2]? = some (some o2') := by
      rcases fill_inv e2 with ⟨rfl, _⟩ | ⟨_, e⟩
      · exact ⟨o, ho⟩
      · exact ⟨o2, e⟩
    obtain ⟨o1', g1⟩ := g1
    obtain ⟨o2', g2⟩ := g2
    exact h.inj i1 i2 o1' o2' b' k1 k2 g1 g2 e3 e4
  · intro id' o' b' k' e1 e2
    rcases fill_inv e1 with ⟨rfl, _⟩ | ⟨_, e⟩
    · exact h.loc id' o b' k' ho e2
    · exact h.loc id' o' b' k' e e2
  · intro id' hl'
    obtain ⟨x, hx⟩ := h.ios id' hl'
    by_cases hne : id' = id
    · subst hne
      rw [ho] at hx; simp only [Option.some.injEq] at hx; subst hx
      exact ⟨c', by simp [St.fill, hlt]⟩
    · exact ⟨x, by simp only [St.fill]; rw [List.getElem?_set_ne (fun e => hne e.symm)]; exact hx⟩
  · intro id' o' b' k' e1 hz e2
    rcases fill_inv e1 with ⟨rfl, rfl⟩ | ⟨_, e⟩
    · cases hz
    · exact h.fzl id' o' b' k' e hz e2
  · intro x hx hxb
    subst hxb
    rcases h.loc id o x k ho hβ with q | q
    · have := q.2; omega
    · exact q.2.2.1

end Go.AL

/- What the operations on memory do to the abstract state. No condition. -/
namespace Go.AL
open Go

theorem addr_add (b off j : Nat) : (⟨b, off, none⟩ : Addr).add j = ⟨b, off + j, none⟩ := by unfold Addr.add; split <;> simp_all

theorem RT.of_RV {w : World} {N : Nat → Prop} {X : Ext} {x : T} {v : Value} (h : RV w N X x v) : RT w N X x v := by
  cases x
  case junk => exact True.intro
  case tup xs =>
    rcases h with ⟨h, _⟩ | ⟨_, h⟩
    · simp [T.isAgg] at h
    · simp [RC] at h
  all_goals exact h

theorem RV.of_RT {w : World} {N : Nat → Prop} {X : Ext} {x : T} {v : Value} (h : RT w N X x v) (h1 : ∀ xs, x ≠ .tup xs) (h2 : x ≠ .junk) : RV w N X x v := by
  cases x
  case junk => exact absurd rfl h2
  case tup xs => exact absurd rfl (h1 xs)
  all_goals exact h

section
variable {w : World} {N : Nat → Prop}
mutual
theorem RC.one {X : Ext} : ∀ (x : T) (cs : List Value), RC w N X x cs → ∀ v ∈ cs, v.oneCell' = true
  | .i _, _, k, v, h | .b _, _, k, v, h | .u8 _, _, k, v, h | .u32 _, _, k, v, h | .u64 _, _, k, v, h | .s _, _, k, v, h => by
    simp only [RC] at k; subst k; simp at h; subst h; rfl
  | .v _, _, k, v, h => by simp only [RC] at k; rw [k.2] at h; simp at h; subst h; exact k.1
  | .ba _ _, _, k, v, h => by simp only [RC] at k; rw [k.2] at h; simp at h; obtain ⟨a, _, rfl⟩ := h; rfl
  | .agg fs, cs, k, v, h => by simp only [RC] at k; exact RL.one fs cs k v h
  | .arr n e xs, cs, k, v, h => by simp only [RC] at k; exact RU.one xs cs k.2 v h
  | .sb l, cs, k, v, h => by simp only [RC] at k; obtain ⟨A, c, h1, _⟩ := k; rw [h1] at h; simp at h; subst h; rfl
  | .sl e xs, cs, k, v, h => by simp only [RC] at k; obtain ⟨A, c, h1, _⟩ := k; rw [h1] at h; simp at h; subst h; rfl
  | .pt x, cs, k, v, h => by simp only [RC] at k; obtain ⟨A, c, h1, _⟩ := k; rw [h1] at h; simp at h; subst h; rfl
  | .ifc t x, cs, k, v, h => by simp only [RC] at k; obtain ⟨A, h1, _⟩ := k; rw [h1] at h; simp at h; subst h; rfl
  | .clo f caps, cs, k, v, h => by simp only [RC] at k; obtain ⟨A, h1, _⟩ := k; rw [h1] at h; simp at h; subst h; rfl
  | .ref id path, cs, k, v, h => by simp only [RC] at k; obtain ⟨A, h1, _⟩ := k; rw [h1] at h; simp at h; subst h; rfl
  | .row id path off rest, cs, k, v, h => by simp only [RC] at k; obtain ⟨A, h1, h2, _⟩ := k; rw [h1] at h; simp at h; subst h; exact h2
  | .junk, cs, k, v, h => by simp only [RC] at k; obtain ⟨A, h1, h2⟩ := k; rw [h1] at h; simp at h; subst h; exact h2
  | .tup _, _, k, _, _ | .ow _, _, k, _, _ | .os _ _, _, k, _, _ => by simp only [RC] at k
theorem RL.one {X : Ext} : ∀ (xs : List T) (cs : List Value), RL w N X xs cs → ∀ v ∈ cs, v.oneCell' = true
  | [], cs, k, v, h => by simp only [RL] at k; subst k; simp at h
  | x :: xs, cs, k, v, h => by
    simp only [RL] at k
    obtain ⟨c1, c2, h1, h2, h3, h4⟩ := k
    rw [h1] at h
    rcases List.mem_append.1 h with h | h
    · exact RC.one x c1 h3 v h
    · exact RL.one xs c2 h4 v h
theorem RU.one {e : Sk} : ∀ (xs : List T) (cs : List Value), RU w N e xs cs → ∀ v ∈ cs, v.oneCell' = true
  | [], cs, k, v, h => by simp only [RU] at k; subst k; simp at h
  | x :: xs, cs, k, v, h => by
    simp only [RU] at k
    obtain ⟨c1, c2, h1, h2, _, h3, h4⟩ := k
    rw [h1] at h
    rcases List.mem_append.1 h with h | h
    · exact RC.one x c1 h3 v h
    · exact RU.one xs c2 h4 v h
end
end

theorem RV.cells {w : World} {N : Nat → Prop} {X : Ext} {x : T} {v : Value} (h : RV w N X x v) : RC w N X x v.cells.toList := by
  rcases h with ⟨_, ds, rfl, h⟩ | ⟨ha, h⟩
  · simpa [Value.cells] using h
  · have h1 : v.oneCell' = true := RC.one x [v] h v (by simp)
    have : v.cells = #[v] := by cases v <;> first | rfl | simp [Value.oneCell'] at h1
    rw [this]
    exact h

theorem Sk.off_append : ∀ (p : List Nat) (s t : Sk) (q : List Nat), s.sub p = some t → s.off (p ++ q) = s.off p + t.off q
  | [], s, t, q, h => by simp only [Sk.sub, Option.some.injEq] at h; subst h; simp [Sk.off]
  | k :: p, .lf, t, q, h => by simp [Sk.sub] at h
  | k :: p, .ag ks, t, q, h => by
    simp only [Sk.sub] at h
    simp only [List.cons_append, Sk.off]
    cases hk : ks[k]? with
    | none => simp [hk] at h
    | some s' =>
      simp only [hk] at h ⊢
      rw [Sk.off_append p s' t q h]
      omega
  | [k], .ba n, t, q, h => by
    simp only [Sk.sub, Option.some.injEq] at h
    subst h
    cases q <;> simp [Sk.off]
  | k :: k' :: p, .ba n, t, q, h => by simp [Sk.sub] at h
  | k :: p, .ar n e, t, q, h => by
    simp only [Sk.sub] at h
    simp only [List.cons_append, Sk.off]
    rw [Sk.off_append p e t q h]
    omega

def Cont.sub : Cont → List Nat → Option Sk
  | .var x, p => x.sk.sub p
  | .rb _, [_] => some .lf
  | .rs e _, _ :: p => e.sub p
  | _, _ => none

theorem Cont.off_append (c : Cont) (p : List Nat) (t : Sk) (q : List Nat) (h : c.sub p = some t) : c.off (p ++ q) = c.off p + t.off q := by
  cases c with
  | var x => exact Sk.off_append p x.sk t q h
  | rb l =>
    match p, h with
    | [k], h =>
      simp only [Cont.sub, Option.some.injEq] at h; subst h
      cases q <;> simp [Cont.off, Sk.off]
    | [], h => simp [Cont.sub] at h
    | _ :: _ :: _, h => simp [Cont.sub] at h
  | rs e xs =>
    match p, h with
    | [], h => simp [Cont.sub] at h
    | k :: p, h =>
      simp only [Cont.sub] at h
      simp only [List.cons_append, Cont.off]
      rw [Sk.off_append p e t q h]
      omega

/-! ## Types -/

def aggT (P : Program) (t : TypeId) : Option Bool := match P.underlying t with
  | some (.struct _) | some (.array _ _) => some true
  | some _ => some false
  | none => none

def szT (P : Program) (t : TypeId) : Option Nat := match P.info? t with
  | some i => some i.size
  | none => none

theorem run_sizeOf' {P : Program} {t : TypeId} {n : Nat} (h : szT P t = some n) (w : World) : (sizeOf t).run P w = .ok n w := by
  unfold szT at h
  cases hi : P.info? t with
  | none => simp [hi] at h
  | some i => simp [hi] at h; simp [sizeOf, typeInfo, hi, h]

theorem run_isAgg' {P : Program} {t : TypeId} {g : Bool} (h : aggT P t = some g) (w : World) : (isAgg t).run P w = .ok g w := by
  unfold aggT at h
  cases hu : P.underlying t with
  | none => simp [hu] at h
  | some d => cases d <;> simp [hu] at h <;> subst h <;> simp [isAgg, run_underlying hu]

/-! ## Loads and stores -/

theorem run_load_at {P : Program} {w : World} {t : TypeId} {b off : Nat} {cs : Array Value} {e : TypeId} {fz : Nat × Nat} {pre d post : List Value}
    (hb : w.heap[b]? = some (.cells cs e fz)) (hcs : cs.toList = pre ++ d ++ post) (hp : pre.length = off) (hsz : szT P t = some d.length) {g : Bool} (hg : aggT P t = some g)
    (hd : g = false → ∃ y, d = [y]) :
    (Instr.loadAt t (.pointer (some ⟨b, off, none⟩))).run P w = .ok (if g then .agg d.toArray else d.headD undef) w := by
  have hcell : ∀ j v, d[j]? = some v → w.cell? ((⟨b, off, none⟩ : Addr).add j) = some v := by
    intro j v hj
    rw [addr_add]
    simp only [World.cell?, hb]
    have : cs[off + j]? = cs.toList[off + j]? := by simp
    simp only [Option.isSome_none, Bool.false_eq_true, if_false]
    rw [this, hcs, ← hp, List.append_assoc, List.getElem?_append_right (by omega)]
    have hl : j < d.length := (List.getElem?_eq_some_iff.1 hj).1
    rw [show pre.length + j - pre.length = j by omega, List.getElem?_append_left hl]
    exact hj
  simp only [Instr.loadAt, Instr.sureAddr, loadVar, Sem.run_bind, Sem.run_pure, Result.andThen_ok, run_isAgg' hg]
  cases g with
  | true =>
    have := run_loadCells_list (P := P) w ⟨b, off, none⟩ d hcell
    simp [run_sizeOf' hsz, this]
  | false =>
    obtain ⟨y, rfl⟩ := hd rfl
    have := hcell 0 y rfl
    rw [addr_add] at this
    simp at this
    simp [this]

theorem run_store_at {P : Program} {w : World} {t : TypeId} {b off : Nat} {cs : Array Value} {e : TypeId} {pre d post d' : List Value} {v : Value}
    (hb : w.heap[b]? = some (.cells cs e (0, 0))) (hcs : cs.toList = pre ++ d ++ post) (hp : pre.length = off) (hsz : szT P t = some d'.length) (hv : v.cells.toList = d') (hl : d'.length = d.length)
    (h1 : ∀ x ∈ d', x.oneCell' = true) :
    (Instr.storeAt t (.pointer (some ⟨b, off, none⟩)) v).run P w = .ok () (w.setRow b (pre ++ d' ++ post).toArray) := by
  have hvs : v.cells.size = d'.length := by rw [← hv]; simp
  have hlen : cs.size = pre.length + d.length + post.length := by
    have := congrArg List.length hcs
    simp at this
    omega
  have := run_storeCells_at P b off e d' 0 cs w hb (by omega) h1
  simp only [Instr.storeAt, Instr.sureAddr, storeVar, Sem.run_bind, Sem.run_pure, Result.andThen_ok, run_sizeOf' hsz, hvs]
  simp only [ne_eq, not_true_eq_false, if_false, hv]
  rw [this]
  congr 3
  rw [hcs]
  congr 1
  · congr 1
    rw [show off + 0 = pre.length by omega, List.append_assoc, List.take_left']
    rfl
  · rw [show off + 0 + d'.length = pre.length + d.length by omega, ← List.drop_drop]
    rw [List.append_assoc, List.drop_left, List.drop_left]

def bbeq : Bool → Bool → Bool
  | true, true | false, false => true
  | _, _ => false

/-- What is loaded: the tree, and what must hold. -/
def St.ld (P : Program) (st : St) (t : TypeId) (x : T) (q : List T) : Option (T × Prop) :=
  match x with
  | .ref id p => match st.m[id]? with
    | some (some o) => match o.c.nav p q with
      | some n => match aggT P t, szT P t with
        | some g, some k => if (bbeq g n.y.isAgg && Nat.beq k n.y.sk.size) then some (n.y, n.ob) else none
        | _, _ => none
      | none => none
    | _ => none
  | .pt y => match aggT P t, szT P t with
    | some g, some k => if (bbeq g y.isAgg && Nat.beq k y.sk.size) then some (y, True) else none
    | _, _ => none
  | _ => none

theorem RV.of_cells {w : World} {N : Nat → Prop} {X : Ext} {y : T} {d : List Value} (h : RC w N X y d) {g : Bool} (hg : g = y.isAgg) : RV w N X y (if g then .agg d.toArray else d.headD undef) ∧ (g = false → ∃ v, d = [v]) := by
  subst hg
  cases ha : y.isAgg with
  | true => exact ⟨.inl ⟨ha, d, by simp, h⟩, fun h => by cases h⟩
  | false =>
    have hl : d.length = 1 := by
      rw [RC.length y d h]
      cases y <;> first | rfl | simp [T.isAgg] at ha
    obtain ⟨v, rfl⟩ := List.length_eq_one_iff.1 hl
    exact ⟨.inr ⟨ha, by simpa using h⟩, fun _ => ⟨v, rfl⟩⟩

theorem bool_beq {a b : Bool} (h : bbeq a b = true) : a = b := by cases a <;> cases b <;> simp_all [bbeq]

theorem Lies.split {w : World} {N : Nat → Prop} {a : Addr} {ds : List Value} (h : Lies w N (some a) ds) (hne : ds ≠ []) :
    ∃ b off cs e fz pre post, a = ⟨b, off, none⟩ ∧ ¬ N b ∧ w.heap[b]? = some (.cells cs e fz) ∧ cs.toList = pre ++ ds ++ post ∧ pre.length = off := by
  rcases h with h | ⟨b, off, hA, hN, cs, e, fz, hb, hs, hd⟩
  · exact absurd h hne
  · simp only [Option.some.injEq] at hA
    refine ⟨b, off, cs, e, fz, cs.toList.take off, cs.toList.drop (off + ds.length), hA, hN, hb, ?_, by simp; omega⟩
    apply List.ext_getElem?
    intro j
    by_cases h1 : j < off
    · rw [List.append_assoc, List.getElem?_append_left (by simp; omega), List.getElem?_take, if_pos h1]
    · by_cases h2 : j < off + ds.length
      · rw [List.append_assoc, List.getElem?_append_right (by simp; omega)]
        rw [List.getElem?_append_left (by simp; omega)]
        have := hd (j - off) (by omega)
        rw [show off + (j - off) = j by omega] at this
        simp only [List.length_take, Array.length_toList]
        rw [show min off cs.size = off by omega, ← this]
        simp
      · rw [List.append_assoc, List.getElem?_append_right (by simp; omega), List.getElem?_append_right (by simp; omega)]
        simp only [List.length_take, Array.length_toList, List.getElem?_drop]
        congr 1
        omega

theorem Sim.ld {P : Program} {C : Ctx} {β : Bel} {st : St} {a : Act} {w : World} (h : Sim C β st a w) {t : TypeId} {x : T} {q : List T} {y : T} {ob : Prop} {v : Value}
    (hx : RT w (Mut C.N0 st.m β) (ext st.m β) x v) (hl : st.ld P t x q = some (y, ob)) (ho : ob) :
    ∃ u, (Instr.loadAt t v).run P w = .ok u w ∧ RT w (Mut C.N0 st.m β) (ext st.m β) y u := by
  cases x <;> simp only [St.ld] at hl <;> try (cases hl; done)
  case ref id p =>
    cases hm : st.m[id]? with
    | none => simp [hm] at hl
    | some oo =>
      cases oo with
      | none => simp [hm] at hl
      | some o =>
        cases hn : o.c.nav p q with
        | none => simp [hm, hn] at hl
        | some n =>
          cases hg : aggT P t with
          | none => simp [hm, hn, hg] at hl
          | some g =>
            cases hk : szT P t with
            | none => simp [hm, hn, hg, hk] at hl
            | some k =>
              simp only [hm, hn, hg, hk] at hl
              by_cases hc : (bbeq g n.y.isAgg && Nat.beq k n.y.sk.size) = true
              · simp only [hc, if_true, Option.some.injEq, Prod.mk.injEq] at hl
                obtain ⟨rfl, rfl⟩ := hl
                simp only [Bool.and_eq_true] at hc
                have hc1 := bool_beq hc.1
                have hc2 := Nat.eq_of_beq_eq_true hc.2
                have hv : RC w (Mut C.N0 st.m β) (ext st.m β) (.ref id p) [v] := by
                  rcases hx with ⟨h1, _⟩ | ⟨_, h1⟩
                  · simp [T.isAgg] at h1
                  · exact h1
                simp only [RC] at hv
                obtain ⟨ad, hv, o', b, k', e1, e2, e3⟩ := hv
                rw [hm] at e1; simp only [Option.some.injEq] at e1; subst e1
                have := h.me id o hm
                rw [e2] at this
                obtain ⟨cs, e, fz, q1, q2, q3, q4⟩ := this
                obtain ⟨pre, d, post, r1, r2, r3, r4⟩ := Cont.nav_ok o.c p q n cs.toList hn q4 ho
                obtain ⟨s1, s2⟩ := RV.of_cells r3 hc1
                have hlen : d.length = k := by rw [RC.length _ _ r3, hc2]
                simp at hv; subst hv; subst e3
                refine ⟨_, run_load_at (P := P) (t := t) q1 r1 r2 (by rw [hk, hlen]) hg s2, RT.of_RV s1⟩
              · simp [hc] at hl
  case pt z =>
    cases hg : aggT P t with
    | none => simp [hg] at hl
    | some g =>
      cases hk : szT P t with
      | none => simp [hg, hk] at hl
      | some k =>
        simp only [hg, hk] at hl
        by_cases hc : (bbeq g z.isAgg && Nat.beq k z.sk.size) = true
        · simp only [hc, if_true, Option.some.injEq, Prod.mk.injEq] at hl
          obtain ⟨rfl, rfl⟩ := hl
          simp only [Bool.and_eq_true] at hc
          have hc1 := bool_beq hc.1
          have hc2 := Nat.eq_of_beq_eq_true hc.2
          have hv : RC w (Mut C.N0 st.m β) (ext st.m β) (.pt z) [v] := by
            rcases hx with ⟨h1, _⟩ | ⟨_, h1⟩
            · simp [T.isAgg] at h1
            · exact h1
          simp only [RC] at hv
          obtain ⟨ad, ds, hv, hne, r3, hlies⟩ := hv
          obtain ⟨b, off, cs, e, fz, pre, post, rfl, hN, hb, r1, r2⟩ := hlies.split hne
          obtain ⟨s1, s2⟩ := RV.of_cells (RC.up _ _ r3 (X := ext st.m β)) hc1
          have hlen : ds.length = k := by rw [RC.length _ _ r3, hc2]
          simp at hv; subst hv
          exact ⟨_, run_load_at (P := P) (t := t) hb r1 r2 (by rw [hk, hlen]) hg s2, RT.of_RV s1⟩
        · simp [hc] at hl

/-- What is stored: the object's new content, and what must hold. -/
def St.sto (P : Program) (st : St) (t : TypeId) (x z : T) (q : List T) : Option (Nat × Cont × Prop) :=
  match x with
  | .ref id p => match st.m[id]? with
    | some (some o) => if o.fz then none else match o.c.nav p q with
      | some n => match szT P t with
        | some k => if (Nat.beq k z.sk.size && Sk.beq z.sk n.y.sk && (!n.ar || z.data)) then match n.f z with
            | some c' => some (id, c', n.ob)
            | none => none
          else none
        | _ => none
      | none => none
    | _ => none
  | _ => none

theorem Sim.sto {P : Program} {C : Ctx} {β : Bel} {st : St} {a : Act} {w : World} (h : Sim C β st a w) {t : TypeId} {x z : T} {q : List T} {id : Nat} {c' : Cont} {ob : Prop} {v u : Value}
    (hx : RT w (Mut C.N0 st.m β) (ext st.m β) x v) (hz : RV w (Mut C.N0 st.m β) (ext st.m β) z u) (hl : st.sto P t x z q = some (id, c', ob)) (ho : ob) :
    ∃ w', (Instr.storeAt t v u).run P w = .ok () w' ∧ Sim C β (st.fill id ⟨c', false⟩) a w' := by
  cases x <;> simp only [St.sto] at hl <;> try (cases hl; done)
  case ref id' p =>
    cases hm : st.m[id']? with
    | none => simp [hm] at hl
    | some oo =>
      cases oo with
      | none => simp [hm] at hl
      | some o =>
        cases hf : o.fz with
        | true => simp [hm, hf] at hl
        | false =>
        cases hn : o.c.nav p q with
        | none => simp [hm, hn, hf] at hl
        | some n =>
          cases hk : szT P t with
          | none => simp [hm, hn, hf, hk] at hl
          | some k =>
            simp only [hm, hn, hf, hk, Bool.false_eq_true, if_false] at hl
            by_cases hc : (Nat.beq k z.sk.size && Sk.beq z.sk n.y.sk && (!n.ar || z.data)) = true
            · simp only [hc, if_true] at hl
              cases hfz : n.f z with
              | none => simp [hfz] at hl
              | some c'' =>
                simp only [hfz, Option.some.injEq, Prod.mk.injEq] at hl
                obtain ⟨rfl, rfl, rfl⟩ := hl
                simp only [Bool.and_eq_true, Bool.or_eq_true, Bool.not_eq_true'] at hc
                have hc1 := Nat.eq_of_beq_eq_true hc.1.1
                have hc2 := Sk.eq_of_beq _ _ hc.1.2
                have hv : RC w (Mut C.N0 st.m β) (ext st.m β) (.ref id' p) [v] := by
                  rcases hx with ⟨h1, _⟩ | ⟨_, h1⟩
                  · simp [T.isAgg] at h1
                  · exact h1
                simp only [RC] at hv
                obtain ⟨ad, hv, o', b, k', e1, e2, e3⟩ := hv
                rw [hm] at e1; simp only [Option.some.injEq] at e1; subst e1
                have hme := h.me id' o hm
                rw [e2] at hme
                obtain ⟨cs, e, fz, q1, q2, q3, q4⟩ := hme
                have q3' := q3 hf
                subst q3'
                obtain ⟨pre, d, post, r1, r2, r3, r4⟩ := Cont.nav_ok o.c p q n cs.toList hn q4 ho
                obtain ⟨s1, s2⟩ := r4 z u.cells.toList c'' hc2 (fun har => by rcases hc.2 with h | h; · rw [har] at h; cases h
                                                                              · exact h) hz.cells hfz
                have hlen : u.cells.toList.length = d.length := by rw [RC.length _ _ hz.cells, RC.length _ _ r3, hc2]
                simp at hv; subst hv; subst e3
                have hrun := run_store_at (P := P) (t := t) (v := u) q1 r1 r2 (by rw [hk, hc1, RC.length _ _ hz.cells]) rfl hlen (RC.one _ _ hz.cells)
                refine ⟨_, hrun, ?_⟩
                have hsz : (pre ++ u.cells.toList ++ post).toArray.size = k' := by
                  have := congrArg List.length r1
                  simp at this hlen ⊢
                  omega
                refine h.write hm hf e2 c'' s2 _ e ⟨rfl, rfl, rfl, by simp, fun b' hb' hne => setRow_other w b b' _ hne⟩ (setRow_heap w b cs _ e (0, 0) q1) hsz ?_
                refine CC.mono (w := w) (N := Mut C.N0 st.m β) (fun b' hb' _ => ⟨hb', setRow_other w b b' _ (fun e => hb' (.inr ⟨id', o, k', hm, hf, by rw [e2, e]⟩))⟩) (Ext.Le.refl _) _ _ ?_
                simpa using s1
            · simp [hc] at hl

end Go.AL

/- Addresses and slices in the abstract state. No condition. -/
namespace Go.AL
open Go

def fieldOff (P : Program) (s : TypeId) (k : Nat) : Option Nat := match P.underlying s with
  | some (.struct fs) => match fs[k]? with
    | some f => match szT P f.type with
      | some (_ + 1) => some f.offset
      | _ => none
    | none => none
  | _ => none

theorem run_fieldAt {P : Program} {s : TypeId} {k off : Nat} (h : fieldOff P s k = some off) (a : Addr) (w : World) :
    (Instr.fieldAt s (.pointer (some a)) k).run P w = .ok (.pointer (some (a.add off))) w := by
  unfold fieldOff at h
  cases hu : P.underlying s with
  | none => simp [hu] at h
  | some d =>
    cases d <;> simp only [hu] at h <;> try (cases h; done)
    rename_i fs
    cases hf : fs[k]? with
    | none => simp [hf] at h
    | some f =>
      simp only [hf] at h
      cases hs : szT P f.type with
      | none => simp [hs] at h
      | some n =>
        cases n with
        | zero => simp [hs] at h
        | succ n =>
          simp [hs] at h
          subst h
          simp [Instr.fieldAt, Instr.sureAddr, run_underlying hu, hf, fieldPlace, run_sizeOf' hs]

theorem RT.ref {w : World} {N : Nat → Prop} {X : Ext} {id : Nat} {p : List Nat} {v : Value} (h : RT w N X (.ref id p) v) : ∃ a, v = .pointer (some a) ∧ X.rf id p a := by
  rcases h with ⟨h1, _⟩ | ⟨_, h1⟩
  · simp [T.isAgg] at h1
  · simp only [RC] at h1
    obtain ⟨a, h1, h2⟩ := h1
    simp at h1
    exact ⟨a, h1, h2⟩

theorem RT.pt {w : World} {N : Nat → Prop} {X : Ext} {x : T} {v : Value} (h : RT w N X (.pt x) v) : ∃ a ds, v = .pointer (some a) ∧ ds ≠ [] ∧ RC w N Ext.none x ds ∧ Lies w N (some a) ds := by
  rcases h with ⟨h1, _⟩ | ⟨_, h1⟩
  · simp [T.isAgg] at h1
  · simp only [RC] at h1
    obtain ⟨a, ds, h1, h2⟩ := h1
    simp at h1
    exact ⟨a, ds, h1, h2⟩

theorem RT.leaf {w : World} {N : Nat → Prop} {X : Ext} {x : T} {v : Value} (h : RC w N X x [v]) (ha : x.isAgg = false) : RT w N X x v := RT.of_RV (.inr ⟨ha, h⟩)

theorem Lies.part {w : World} {N : Nat → Prop} {b off : Nat} {pre d post : List Value} (h : Lies w N (some ⟨b, off, none⟩) (pre ++ d ++ post)) : Lies w N (some ⟨b, off + pre.length, none⟩) d := by
  rcases h with h | ⟨b', off', hA, hN, cs, e, fz, hb, hs, hd⟩
  · left
    simp at h
    exact h.2.1
  · right
    simp only [Option.some.injEq, Addr.mk.injEq, and_true] at hA
    obtain ⟨rfl, rfl⟩ := hA
    refine ⟨b, off + pre.length, rfl, hN, cs, e, fz, hb, by simp at hs; omega, fun j hj => ?_⟩
    have := hd (pre.length + j) (by simp; omega)
    rw [Nat.add_assoc, this, List.append_assoc, List.getElem?_append_right (by omega), List.getElem?_append_left (by omega)]
    congr 1
    omega

/-- The address of a field. -/
def St.fa (P : Program) (st : St) (s : TypeId) (x : T) (k : Nat) : Option T :=
  match x with
  | .ref id p => match st.m[id]? with
    | some (some o) => match o.c.sub p, fieldOff P s k with
      | some sk, some off => if Nat.beq (sk.off [k]) off then some (.ref id (p ++ [k])) else none
      | _, _ => none
    | _ => none
  | .pt (.agg fs) => match fs[k]?, fieldOff P s k with
    | some y, some off => if (Nat.beq (Sk.sizes ((T.sks fs).take k)) off && Nat.ble 1 y.sk.size) then some (.pt y) else none
    | _, _ => none
  | _ => none

theorem Sim.fa {P : Program} {C : Ctx} {β : Bel} {st : St} {a : Act} {w : World} (_h : Sim C β st a w) {s : TypeId} {x y : T} {k : Nat} {v : Value}
    (hx : RT w (Mut C.N0 st.m β) (ext st.m β) x v) (hl : st.fa P s x k = some y) :
    ∃ u, (Instr.fieldAt s v k).run P w = .ok u w ∧ RT w (Mut C.N0 st.m β) (ext st.m β) y u := by
  unfold St.fa at hl
  split at hl
  · rename_i id p
    split at hl
    · rename_i o hm
      split at hl
      · rename_i sk off h1 h2
        split at hl
        · rename_i hc
          simp only [Option.some.injEq] at hl; subst hl
          obtain ⟨ad, rfl, o', b, k', e1, e2, rfl⟩ := hx.ref
          rw [hm] at e1; simp only [Option.some.injEq] at e1; subst e1
          refine ⟨_, run_fieldAt h2 _ w, ?_⟩
          refine RT.leaf ?_ rfl
          simp only [RC]
          refine ⟨_, rfl, o, b, k', hm, e2, ?_⟩
          rw [addr_add, Cont.off_append _ _ _ _ h1, Nat.eq_of_beq_eq_true hc]
        · cases hl
      · cases hl
    · cases hl
  · rename_i fs
    split at hl
    · rename_i y' off h1 h2
      split at hl
      · rename_i hc
        simp only [Option.some.injEq] at hl; subst hl
        obtain ⟨ad, ds, rfl, hne, hr, hlies⟩ := hx.pt
        simp only [Bool.and_eq_true] at hc
        have hc1 := Nat.eq_of_beq_eq_true hc.1
        have hc2 := Nat.le_of_ble_eq_true hc.2
        simp only [RC] at hr
        obtain ⟨pre, c, post, q1, q2, q3, _⟩ := RL.at fs ds k y' hr h1
        obtain ⟨b, off', cs, e, fz, pre', post', rfl, _⟩ := hlies.split hne
        refine ⟨_, run_fieldAt h2 _ w, ?_⟩
        refine RT.leaf ?_ rfl
        simp only [RC]
        refine ⟨_, c, rfl, ?_, q3, ?_⟩
        · intro hc0; subst hc0
          have := RC.length _ _ q3
          simp at this; omega
        · rw [addr_add]
          rw [q1] at hlies
          have := hlies.part
          rwa [q2, hc1] at this
      · cases hl
    · cases hl
  · cases hl

def T.int? : T → Option Int
  | .i n => some n
  | .u8 x => some x.toNat
  | .u32 x => some x.toNat
  | .u64 x => some x.toNat
  | _ => none

theorem RT.int {w : World} {N : Nat → Prop} {X : Ext} {x : T} {n : Int} {v : Value} (h : RT w N X x v) (hi : x.int? = some n) : ∃ k, v = .int k n := by
  cases x <;> simp [T.int?] at hi <;> subst hi <;> (
    rcases h with ⟨h1, _⟩ | ⟨_, h1⟩
    · simp [T.isAgg] at h1
    · simp only [RC, List.cons.injEq, and_true] at h1
      exact ⟨_, h1⟩)

theorem Cont.len_off (c : Cont) (p : List Nat) (n sz k : Nat) (h : c.len p = some (n, sz)) : c.off (p ++ [k]) = c.off p + k * sz := by
  cases c with
  | var x =>
    simp only [Cont.len] at h
    cases hs : x.sk.sub p with
    | none => simp [hs, Sk.arrOf] at h
    | some s =>
      simp only [Cont.off]
      rw [Sk.off_append p _ s _ hs]
      cases s <;> simp [hs, Sk.arrOf] at h
      · obtain ⟨rfl, rfl⟩ := h; simp [Sk.off]
      · obtain ⟨rfl, rfl⟩ := h; simp [Sk.off]
  | rb l =>
    cases p with
    | nil => simp [Cont.len] at h; obtain ⟨rfl, rfl⟩ := h; simp [Cont.off]
    | cons a p => simp [Cont.len] at h
  | rs e xs =>
    cases p with
    | nil => simp [Cont.len] at h; obtain ⟨rfl, rfl⟩ := h; simp [Cont.off, Sk.off]
    | cons a p => simp [Cont.len] at h

/-- The length of a slice that is a row. -/
def Cont.rlen (c : Cont) (p : List Nat) (off : Nat) (rest : Option Nat) : Nat :=
  match rest with
  | some k => k
  | none => match c.len p with
    | some (n, _) => n - off
    | none => 0

def plus (off i : Nat) : Nat := match off with
  | 0 => i
  | k + 1 => (k + 1) + i

theorem plus_eq (off i : Nat) : plus off i = off + i := by cases off <;> simp [plus]

/-- The address of an element. -/
def St.ia (P : Program) (st : St) (t : TypeId) (x : T) (i : Int) (q : List T) : Option (T × Prop) :=
  match P.underlying t, x with
  | some (.array n el), .ref id p => match st.m[id]? with
    | some (some o) => match o.c.len p, szT P el with
      | some (n', sz), some k => if (Nat.beq n n' && Nat.beq sz k) then some (.ref id (p ++ [i.toNat]), 0 ≤ i ∧ i < n) else none
      | _, _ => none
    | _ => none
  | some (.array n el), .pt (.ba n' l) => match szT P el with
    | some 1 => if Nat.beq n n' then some (.pt (.u8 (l.getD i.toNat 0)), 0 ≤ i ∧ i < n) else none
    | _ => none
  | some (.slice el), .row id p off rest => match st.m[id]? with
    | some (some o) => match o.c.len p, szT P el with
      | some (_, sz), some k => if Nat.beq sz k then some (.ref id (p ++ [plus off i.toNat]), 0 ≤ i ∧ i < o.c.rlen p off rest) else none
      | _, _ => none
    | _ => none
  | some (.slice el), .sb l => match szT P el with
    | some 1 => some (.pt (.u8 (l.getD i.toNat 0)), 0 ≤ i ∧ i < l.length)
    | _ => none
  | some (.slice el), .sl e xs => match szT P el with
    | some k => if (Nat.beq e.size k && Nat.ble 1 k) then match q with
        | y :: _ => some (.pt y, 0 ≤ i ∧ xs[i.toNat]? = some y)
        | [] => match xs[i.toNat]? with
          | some y => some (.pt y, 0 ≤ i)
          | none => none
      else none
    | none => none
  | _, _ => none

theorem RT.row {w : World} {N : Nat → Prop} {X : Ext} {id : Nat} {p : List Nat} {off : Nat} {rest : Option Nat} {v : Value} (h : RT w N X (.row id p off rest) v) : v.oneCell' = true ∧ X.rw id p off rest v := by
  rcases h with ⟨h1, _⟩ | ⟨_, h1⟩
  · simp [T.isAgg] at h1
  · simp only [RC] at h1
    obtain ⟨a, h1, h2, h3⟩ := h1
    simp at h1; subst h1
    exact ⟨h2, h3⟩

theorem RT.sb {w : World} {N : Nat → Prop} {X : Ext} {l : List UInt8} {v : Value} (h : RT w N X (.sb l) v) : ∃ A c, v = .slice A l.length c ∧ l.length ≤ c ∧ Lies w N A (l.map u8v) := by
  rcases h with ⟨h1, _⟩ | ⟨_, h1⟩
  · simp [T.isAgg] at h1
  · simp only [RC] at h1
    obtain ⟨A, c, h1, h2⟩ := h1
    simp at h1
    exact ⟨A, c, h1, h2⟩

theorem RT.sl {w : World} {N : Nat → Prop} {X : Ext} {e : Sk} {xs : List T} {v : Value} (h : RT w N X (.sl e xs) v) : ∃ A c ds, v = .slice A xs.length c ∧ xs.length ≤ c ∧ RU w N e xs ds ∧ Lies w N A ds := by
  rcases h with ⟨h1, _⟩ | ⟨_, h1⟩
  · simp [T.isAgg] at h1
  · simp only [RC] at h1
    obtain ⟨A, c, h1, h2, ds, h3⟩ := h1
    simp at h1
    exact ⟨A, c, ds, h1, h2, h3⟩

theorem rlen_eq {c : Cont} {p : List Nat} {off n sz : Nat} {rest : Option Nat} (h : c.len p = some (n, sz)) : c.rlen p off rest = rest.getD (n - off) := by
  unfold Cont.rlen
  cases rest <;> simp [h]

theorem run_indexAt_array {P : Program} {t el : TypeId} {n k : Nat} (hu : P.underlying t = some (.array n el)) (hk : szT P el = some k) {kd : IntKind} {i : Int} (h0 : 0 ≤ i) (h1 : i < n) (a : Addr) (w : World) :
    (Instr.indexAt t (.pointer (some a)) (.int kd i)).run P w = .ok (.pointer (some (a.add (i.toNat * k)))) w := by
  simp [Instr.indexAt, asIntOf, run_underlying hu, Instr.sureAddr, h0, h1, run_sizeOf' hk]

theorem run_indexAt_slice {P : Program} {t el : TypeId} {k : Nat} (hu : P.underlying t = some (.slice el)) (hk : szT P el = some k) {kd : IntKind} {i : Int} {len cap : Nat} (h0 : 0 ≤ i) (h1 : i < len) (a : Addr) (w : World) :
    (Instr.indexAt t (.slice (some a) len cap) (.int kd i)).run P w = .ok (.pointer (some (a.add (i.toNat * k)))) w := by
  simp [Instr.indexAt, asIntOf, run_underlying hu, h0, h1, run_sizeOf' hk]

theorem lies_u8 {w : World} {N : Nat → Prop} {A : Option Addr} {l : List UInt8} (h : Lies w N A (l.map u8v)) {k : Nat} (hk : k < l.length) :
    ∃ b off, A = some ⟨b, off, none⟩ ∧ Lies w N (some ⟨b, off + k, none⟩) [u8v (l.getD k 0)] := by
  have hne : l.map u8v ≠ [] := by intro h; simp at h; subst h; simp at hk
  have : ∃ a, A = some a := by
    rcases h with h | ⟨b, off, hA, _⟩
    · exact absurd h hne
    · exact ⟨_, hA⟩
  obtain ⟨a, rfl⟩ := this
  obtain ⟨b, off, cs, e, fz, pre', post', rfl, _⟩ := h.split hne
  refine ⟨b, off, rfl, ?_⟩
  rw [ba_at l k hk] at h
  have := h.part
  simpa [Nat.min_eq_left (Nat.le_of_lt hk)] using this

theorem lies_ru {w : World} {N : Nat → Prop} {A : Option Addr} {e : Sk} {xs : List T} {ds : List Value} (hr : RU w N e xs ds) (h : Lies w N A ds) {k : Nat} {y : T} (hy : xs[k]? = some y) (hs : 1 ≤ e.size) :
    ∃ b off d, A = some ⟨b, off, none⟩ ∧ d ≠ [] ∧ y.sk = e ∧ RC w N Ext.none y d ∧ Lies w N (some ⟨b, off + k * e.size, none⟩) d := by
  obtain ⟨pre, c, post, e1, e2, e2', e3, _⟩ := RU.at xs ds k y hr hy
  have hcl : c.length = e.size := by rw [RC.length _ _ e3, e2']
  have hc : c ≠ [] := by intro h; rw [h] at hcl; simp at hcl; omega
  have hne : ds ≠ [] := by intro h; rw [h] at e1; simp at e1; exact hc e1.2.1
  have : ∃ a, A = some a := by
    rcases h with h | ⟨b, off, hA, _⟩
    · exact absurd h hne
    · exact ⟨_, hA⟩
  obtain ⟨a, rfl⟩ := this
  obtain ⟨b, off, cs, e', fz, pre', post', rfl, _⟩ := h.split hne
  refine ⟨b, off, c, rfl, hc, e2', e3, ?_⟩
  rw [e1] at h
  have := h.part
  rwa [e2] at this

theorem Sim.ia {P : Program} {C : Ctx} {β : Bel} {st : St} {a : Act} {w : World} (_h : Sim C β st a w) {t : TypeId} {x y z : T} {i : Int} {q : List T} {ob : Prop} {v iv : Value}
    (hx : RT w (Mut C.N0 st.m β) (ext st.m β) x v) (hz : RT w (Mut C.N0 st.m β) (ext st.m β) z iv) (hi : z.int? = some i) (hl : st.ia P t x i q = some (y, ob)) (ho : ob) :
    ∃ u, (Instr.indexAt t v iv).run P w = .ok u w ∧ RT w (Mut C.N0 st.m β) (ext st.m β) y u := by
  obtain ⟨kd, rfl⟩ := hz.int hi
  unfold St.ia at hl
  split at hl
  · rename_i n el id p hu
    split at hl
    · rename_i o hm
      split at hl
      · rename_i n' sz k h1 h2
        split at hl
        · rename_i hc
          simp only [Option.some.injEq, Prod.mk.injEq] at hl
          obtain ⟨rfl, rfl⟩ := hl
          simp only [Bool.and_eq_true] at hc
          have hc2 := Nat.eq_of_beq_eq_true hc.2
          subst hc2
          obtain ⟨ad, rfl, o', b, k', e1, e2, rfl⟩ := hx.ref
          rw [hm] at e1; simp only [Option.some.injEq] at e1; subst e1
          refine ⟨_, run_indexAt_array hu h2 ho.1 ho.2 _ w, RT.leaf ?_ rfl⟩
          simp only [RC]
          refine ⟨_, rfl, o, b, k', hm, e2, ?_⟩
          rw [addr_add, Cont.len_off _ _ _ _ _ h1]
        · cases hl
      · cases hl
    · cases hl
  · rename_i n el n' l hu
    split at hl
    · rename_i h2
      split at hl
      · rename_i hc
        simp only [Option.some.injEq, Prod.mk.injEq] at hl
        obtain ⟨rfl, rfl⟩ := hl
        have hc1 := Nat.eq_of_beq_eq_true hc
        subst hc1
        obtain ⟨ad, ds, rfl, hne, hr, hlies⟩ := hx.pt
        simp only [RC] at hr
        obtain ⟨hln, rfl⟩ := hr
        obtain ⟨b, off, hA, hl'⟩ := lies_u8 hlies (k := i.toNat) (by omega)
        simp only [Option.some.injEq] at hA; subst hA
        refine ⟨_, run_indexAt_array hu h2 ho.1 ho.2 _ w, RT.leaf ?_ rfl⟩
        simp only [RC]
        exact ⟨_, _, rfl, by simp, rfl, by rw [addr_add, Nat.mul_one]; exact hl'⟩
      · cases hl
    · cases hl
  · rename_i el id p off rest hu
    split at hl
    · rename_i o hm
      split at hl
      · rename_i n sz k h1 h2
        split at hl
        · rename_i hc
          simp only [Option.some.injEq, Prod.mk.injEq] at hl
          obtain ⟨rfl, rfl⟩ := hl
          have hc2 := Nat.eq_of_beq_eq_true hc
          subst hc2
          obtain ⟨_, o', e1, n', sz', e3, e4, e5⟩ := hx.row
          rw [hm] at e1; simp only [Option.some.injEq] at e1; subst e1
          rw [h1] at e3; simp only [Option.some.injEq, Prod.mk.injEq] at e3
          obtain ⟨rfl, rfl⟩ := e3
          rw [rlen_eq h1] at ho
          cases hβ : β id with
          | none => rw [hβ] at e5; simp only at e5; omega
          | some bk =>
            obtain ⟨b, k'⟩ := bk
            rw [hβ] at e5
            obtain ⟨A, cap, rfl, g1, g2, g3⟩ := e5
            have := g3 (by omega)
            subst this
            refine ⟨_, run_indexAt_slice hu h2 ho.1 ho.2 _ w, RT.leaf ?_ rfl⟩
            simp only [RC]
            refine ⟨_, rfl, o, b, k', hm, hβ, ?_⟩
            rw [addr_add, Cont.len_off _ _ _ _ _ h1, plus_eq, Nat.add_mul, Nat.add_assoc]
        · cases hl
      · cases hl
    · cases hl
  · rename_i el l hu
    split at hl
    · rename_i h2
      simp only [Option.some.injEq, Prod.mk.injEq] at hl
      obtain ⟨rfl, rfl⟩ := hl
      obtain ⟨A, c, rfl, hc, hlies⟩ := hx.sb
      obtain ⟨b, off, rfl, hl'⟩ := lies_u8 hlies (k := i.toNat) (by omega)
      refine ⟨_, run_indexAt_slice hu h2 ho.1 ho.2 _ w, RT.leaf ?_ rfl⟩
      simp only [RC]
      exact ⟨_, _, rfl, by simp, rfl, by rw [addr_add, Nat.mul_one]; exact hl'⟩
    · cases hl
  · rename_i el e xs hu
    split at hl
    · rename_i k h2
      split at hl
      · rename_i hc
        simp only [Bool.and_eq_true] at hc
        have hc1 := Nat.eq_of_beq_eq_true hc.1
        have hc2 := Nat.le_of_ble_eq_true hc.2
        subst hc1
        have key : ∀ y', xs[i.toNat]? = some y' → 0 ≤ i → ∃ u, (Instr.indexAt t v (.int kd i)).run P w = .ok u w ∧ RT w (Mut C.N0 st.m β) (ext st.m β) (.pt y') u := by
          intro y' hy h0
          obtain ⟨A, c, ds, rfl, hc, hr, hlies⟩ := hx.sl
          obtain ⟨b, off, d, rfl, q1, q2, q3, q4⟩ := lies_ru hr hlies hy hc2
          have hlt : i.toNat < xs.length := (List.getElem?_eq_some_iff.1 hy).1
          refine ⟨_, run_indexAt_slice hu h2 h0 (by omega) _ w, RT.leaf ?_ rfl⟩
          simp only [RC]
          exact ⟨_, d, rfl, q1, q3, by rw [addr_add]; exact q4⟩
        split at hl
        · simp only [Option.some.injEq, Prod.mk.injEq] at hl
          obtain ⟨rfl, rfl⟩ := hl
          exact key _ ho.2 ho.1
        · split at hl
          · rename_i y' hy
            simp only [Option.some.injEq, Prod.mk.injEq] at hl
            obtain ⟨rfl, rfl⟩ := hl
            exact key _ hy ho
          · cases hl
      · cases hl
    · cases hl
  · cases hl

end Go.AL

/- Slicing in the abstract state. No condition. -/
namespace Go.AL
open Go

/-- A bound of a slice: none, or a number. -/
inductive Bd where
  | no
  | at (n : Int)

def Bd.lo : Bd → Int
  | .no => 0
  | .at n => n

/-- What the low and the high bound come to, of so many. -/
def bnds (n : Int) : Bd → Bd → Prop
  | .no, .no => True
  | .at l, .no => 0 ≤ l ∧ l ≤ n
  | .no, .at h => 0 ≤ h ∧ h ≤ n
  | .at l, .at h => 0 ≤ l ∧ l ≤ h ∧ h ≤ n

def cut {α : Type} (l : List α) : Bd → Bd → List α
  | .no, .no => l
  | .at a, .no => l.drop a.toNat
  | .no, .at h => l.take h.toNat
  | .at a, .at h => (l.take h.toNat).drop a.toNat

def BdV (b : Bd) (v : Option Value) : Prop := match b, v with
  | .no, none => True
  | .at n, some v => ∃ k, v = .int k n
  | _, _ => False

def Bd.hi (n : Nat) : Bd → Nat
  | .no => n
  | .at h => h.toNat

theorem run_sliceBound {P : Program} {k : IntKind} {i : Int} {y : Nat} (h0 : 0 ≤ i) (h1 : i ≤ y) (code : BoundsCode) (w : World) :
    (Instr.sliceBound (.int k i) y code).run P w = .ok i.toNat w := by
  simp only [Instr.sliceBound, asIntOf, Sem.run_bind, Sem.run_pure, Result.andThen_ok]
  rw [if_pos ⟨h0, h1⟩]
  rfl

theorem run_sliceBounds {P : Program} (sl : Bool) {n c : Nat} (hnc : n ≤ c) {lo hi : Bd} {vl vh : Option Value} (hl : BdV lo vl) (hh : BdV hi vh) (hb : bnds n lo hi) (w : World) :
    (Instr.sliceBounds sl n c vl vh none).run P w = .ok (lo.lo.toNat, hi.hi n, c) w := by
  cases lo <;> cases hi <;> cases vl <;> cases vh <;> simp only [BdV] at hl hh <;> simp only [bnds] at hb
  · simp [Instr.sliceBounds, Bd.lo, Bd.hi]
  · obtain ⟨k, rfl⟩ := hh
    rename_i h
    have h2 : h ≤ (c : Int) := by omega
    simp [Instr.sliceBounds, run_sliceBound hb.1 h2, Bd.lo, Bd.hi]
  · obtain ⟨k, rfl⟩ := hl
    simp [Instr.sliceBounds, run_sliceBound hb.1 hb.2, Bd.lo, Bd.hi]
  · obtain ⟨k, rfl⟩ := hl
    obtain ⟨k', rfl⟩ := hh
    rename_i l h
    have h1 : 0 ≤ h := by omega
    have h2 : h ≤ (c : Int) := by omega
    have h3 : l ≤ ((h.toNat : Nat) : Int) := by omega
    simp [Instr.sliceBounds, run_sliceBound h1 h2, run_sliceBound hb.1 h3, Bd.lo, Bd.hi]

theorem bnds_lo {n : Nat} {lo hi : Bd} (h : bnds n lo hi) : lo.lo.toNat ≤ hi.hi n ∧ hi.hi n ≤ n := by
  cases lo <;> cases hi <;> simp only [bnds, Bd.lo, Bd.hi] at h ⊢ <;> omega

theorem cut_eq {α : Type} (l : List α) (lo hi : Bd) : cut l lo hi = (l.take (hi.hi l.length)).drop lo.lo.toNat := by
  cases lo <;> cases hi <;> simp [cut, Bd.lo, Bd.hi]

theorem cut_length {α : Type} (l : List α) {lo hi : Bd} (h : bnds l.length lo hi) : (cut l lo hi).length = hi.hi l.length - lo.lo.toNat := by
  have := bnds_lo h
  rw [cut_eq]; simp; omega

theorem cut_map {α γ : Type} (f : α → γ) (l : List α) (lo hi : Bd) : (cut l lo hi).map f = cut (l.map f) lo hi := by
  cases lo <;> cases hi <;> simp [cut]

/-- Of a row: from where on, how many. -/
def restOf (rest : Option Nat) (lo hi : Bd) : Option Nat := match hi with
  | .at h => match lo with
    | .no => some h.toNat
    | .at l => some (h.toNat - l.toNat)
  | .no => match rest with
    | none => none
    | some k => some (k - lo.lo.toNat)

/-- A slice of a string, of a slice, of an array by its address. -/
def St.slc (P : Program) (st : St) (t : TypeId) (x : T) (lo hi : Bd) (q : List T) : Option (T × Prop) :=
  match P.underlying t, x with
  | some (.array n el), .ref id p => match st.m[id]? with
    | some (some o) => match o.c.len p, szT P el, o.c.nav p q with
      | some (n', sz), some k, some nv => if (Nat.beq n n' && Nat.beq sz k && Nat.beq nv.y.sk.size (n * k)) then some (.row id p lo.lo.toNat (restOf none lo hi), bnds n lo hi ∧ nv.ob) else none
      | _, _, _ => none
    | _ => none
  | some (.slice el), .row id p off rest => match st.m[id]? with
    | some (some o) => match o.c.len p, szT P el with
      | some (_, sz), some k => if Nat.beq sz k then some (.row id p (plus off lo.lo.toNat) (restOf rest lo hi), bnds (o.c.rlen p off rest) lo hi) else none
      | _, _ => none
    | _ => none
  | some (.slice el), .sb l => match szT P el with
    | some 1 => some (.sb (cut l lo hi), bnds l.length lo hi)
    | _ => none
  | some (.slice el), .sl e xs => match szT P el with
    | some k => if Nat.beq e.size k then some (.sl e (cut xs lo hi), bnds xs.length lo hi) else none
    | none => none
  | some (.slice el), .v (.slice none 0 0) => match szT P el with
    | some _ => some (.v (.slice none 0 0), bnds 0 lo hi)
    | none => none
  | some .string, .s l => some (.s (cut l lo hi), bnds l.length lo hi)
  | _, _ => none

theorem run_sliceAt_slice {P : Program} {t el : TypeId} {k : Nat} (hu : P.underlying t = some (.slice el)) (hk : szT P el = some k) {A : Option Addr} {n c : Nat} (hnc : n ≤ c) {lo hi : Bd} {vl vh : Option Value}
    (hl : BdV lo vl) (hh : BdV hi vh) (hb : bnds n lo hi) (w : World) :
    (Instr.sliceAt t (.slice A n c) vl vh none).run P w = .ok (.slice (if c = lo.lo.toNat then A else A.map (·.add (lo.lo.toNat * k))) (hi.hi n - lo.lo.toNat) (c - lo.lo.toNat)) w := by
  simp [Instr.sliceAt, Instr.slice, run_underlying hu, run_sliceBounds true hnc hl hh hb, run_sizeOf' hk]

theorem run_sliceAt_array {P : Program} {t el : TypeId} {n k : Nat} (hu : P.underlying t = some (.array n el)) (hk : szT P el = some k) {a : Addr} {lo hi : Bd} {vl vh : Option Value}
    (hl : BdV lo vl) (hh : BdV hi vh) (hb : bnds n lo hi) (w : World) :
    (Instr.sliceAt t (.pointer (some a)) vl vh none).run P w = .ok (.slice (some (if n = lo.lo.toNat then a else a.add (lo.lo.toNat * k))) (hi.hi n - lo.lo.toNat) (n - lo.lo.toNat)) w := by
  simp [Instr.sliceAt, run_underlying hu, Instr.sureAddr, run_sliceBounds false (Nat.le_refl n) hl hh hb, run_sizeOf' hk]

theorem toList_extract (s : ByteArray) (i j : Nat) : (s.extract i j).data.toList = (s.data.toList.take j).drop i := by
  simp [ByteArray.extract, ByteArray.copySlice, List.drop_take]

theorem lies_cut {w : World} {N : Nat → Prop} {A : Option Addr} {ds : List Value} {sz n c : Nat} (h : Lies w N A ds) (hn : ds.length = n * sz) (hc : n ≤ c) {lo hi : Nat} (h1 : lo ≤ hi) (h2 : hi ≤ n) :
    Lies w N (if c = lo then A else A.map (·.add (lo * sz))) ((ds.take (hi * sz)).drop (lo * sz)) := by
  by_cases he : (ds.take (hi * sz)).drop (lo * sz) = []
  · exact .inl he
  · have hlen : 0 < ((ds.take (hi * sz)).drop (lo * sz)).length := List.length_pos_iff.2 he
    have hm : hi * sz ≤ n * sz := Nat.mul_le_mul_right _ h2
    have hm1 : lo * sz ≤ hi * sz := Nat.mul_le_mul_right _ h1
    simp at hlen
    have hlt : lo * sz < hi * sz := by omega
    have hlt' : lo < hi := Nat.lt_of_mul_lt_mul_right hlt
    have hne : ds ≠ [] := by intro e; subst e; simp at he
    rw [if_neg (by omega)]
    have : ∃ a, A = some a := by
      rcases h with h | ⟨b, off, hA, _⟩
      · exact absurd h hne
      · exact ⟨_, hA⟩
    obtain ⟨a, rfl⟩ := this
    obtain ⟨b, off, cs, e, fz, pre, post, rfl, _⟩ := h.split hne
    have hsplit : ds = ds.take (lo * sz) ++ (ds.take (hi * sz)).drop (lo * sz) ++ ds.drop (hi * sz) := by
      have : ds.take (lo * sz) = (ds.take (hi * sz)).take (lo * sz) := by rw [List.take_take, Nat.min_eq_left hm1]
      rw [this, List.take_append_drop, List.take_append_drop]
    rw [hsplit] at h
    have := h.part
    simp only [Option.map_some, addr_add]
    have hl : (ds.take (lo * sz)).length = lo * sz := by simp; omega
    rwa [hl] at this

theorem RU.cut {w : World} {N : Nat → Prop} {e : Sk} {xs : List T} {cs : List Value} (h : RU w N e xs cs) {lo hi : Bd} :
    RU w N e (cut xs lo hi) ((cs.take (hi.hi xs.length * e.size)).drop (lo.lo.toNat * e.size)) := by
  rw [cut_eq]
  exact RU.drop _ _ _ (RU.take _ _ _ h)

theorem cut_u8 {l : List UInt8} {lo hi : Bd} : ((l.map u8v).take (hi.hi l.length * 1)).drop (lo.lo.toNat * 1) = (cut l lo hi).map u8v := by
  rw [cut_eq, Nat.mul_one, Nat.mul_one, List.map_drop, List.map_take]

theorem Sim.slc {P : Program} {C : Ctx} {β : Bel} {st : St} {a : Act} {w : World} (h : Sim C β st a w) {t : TypeId} {x y : T} {lo hi : Bd} {q : List T} {ob : Prop} {v : Value} {vl vh : Option Value}
    (hx : RT w (Mut C.N0 st.m β) (ext st.m β) x v) (hlo : BdV lo vl) (hhi : BdV hi vh) (hl : st.slc P t x lo hi q = some (y, ob)) (ho : ob) :
    ∃ u, (Instr.sliceAt t v vl vh none).run P w = .ok u w ∧ RT w (Mut C.N0 st.m β) (ext st.m β) y u := by
  unfold St.slc at hl
  split at hl
  · rename_i n el id p hu
    split at hl
    · rename_i o hm
      split at hl
      · rename_i n' sz k nv h1 h2 hn
        split at hl
        · rename_i hc
          simp only [Option.some.injEq, Prod.mk.injEq] at hl
          obtain ⟨rfl, rfl⟩ := hl
          simp only [Bool.and_eq_true] at hc
          have hc1 := Nat.eq_of_beq_eq_true hc.1.1
          have hc2 := Nat.eq_of_beq_eq_true hc.1.2
          have hc3 := Nat.eq_of_beq_eq_true hc.2
          subst hc1 hc2
          obtain ⟨ad, rfl, o', b, k', e1, e2, rfl⟩ := hx.ref
          rw [hm] at e1; simp only [Option.some.injEq] at e1; subst e1
          have hb := bnds_lo ho.1
          have hme := h.me id o hm
          rw [e2] at hme
          obtain ⟨cs, e, fz, q1, q2, q3, q4⟩ := hme
          obtain ⟨pre, d, post, r1, r2, r3, _⟩ := Cont.nav_ok o.c p q nv cs.toList hn q4 ho.2
          have hd : d.length = n * sz := by rw [RC.length _ _ r3, hc3]
          have htot : o.c.off p + n * sz ≤ k' := by
            have := congrArg List.length r1
            simp at this
            omega
          refine ⟨_, run_sliceAt_array hu h2 hlo hhi ho.1 w, RT.leaf ?_ rfl⟩
          simp only [RC]
          refine ⟨_, rfl, rfl, o, hm, n, sz, h1, ?_, ?_⟩
          · cases lo <;> cases hi <;> simp only [restOf, Bd.lo, Bd.hi, Option.getD_none, Option.getD_some] at hb ⊢ <;> omega
          · rw [e2]
            have hr : (restOf none lo hi).getD (n - lo.lo.toNat) = hi.hi n - lo.lo.toNat := by
              cases lo <;> cases hi <;> simp [restOf, Bd.lo, Bd.hi]
            have hadd : lo.lo.toNat + (n - lo.lo.toNat) = n := by omega
            refine ⟨_, n - lo.lo.toNat, by rw [hr], by omega, by rw [hadd]; exact htot, fun hcap => ?_⟩
            rw [if_neg (by omega), addr_add]
        · cases hl
      · cases hl
    · cases hl
  · rename_i el id p off rest hu
    split at hl
    · rename_i o hm
      split at hl
      · rename_i n sz k h1 h2
        split at hl
        · rename_i hc
          simp only [Option.some.injEq, Prod.mk.injEq] at hl
          obtain ⟨rfl, rfl⟩ := hl
          have hc2 := Nat.eq_of_beq_eq_true hc
          subst hc2
          obtain ⟨_, o', e1, n', sz', e3, e4, e5⟩ := hx.row
          rw [hm] at e1; simp only [Option.some.injEq] at e1; subst e1
          rw [h1] at e3; simp only [Option.some.injEq, Prod.mk.injEq] at e3
          obtain ⟨rfl, rfl⟩ := e3
          rw [rlen_eq h1] at ho
          have hb := bnds_lo ho
          have hr : (restOf rest lo hi).getD (n - (off + lo.lo.toNat)) = hi.hi (rest.getD (n - off)) - lo.lo.toNat := by
            cases lo <;> cases hi <;> cases rest <;> simp [restOf, Bd.lo, Bd.hi, Nat.sub_sub]
          cases hβ : β id with
          | none =>
            rw [hβ] at e5
            obtain ⟨rfl, g1, rfl, rfl⟩ := e5
            rw [g1] at hb ho hr
            have hlo0 : lo.lo.toNat = 0 := by omega
            have hhi0 : hi.hi 0 = 0 := by omega
            refine ⟨_, run_sliceAt_slice hu h2 (Nat.le_refl 0) hlo hhi ho w, RT.leaf ?_ rfl⟩
            simp only [RC]
            rw [plus_eq]
            refine ⟨_, rfl, rfl, o, hm, n, sz, h1, by rw [hr]; omega, ?_⟩
            rw [hβ]
            simp only
            rw [hr, hlo0, hhi0]
            simp
          | some bk =>
            obtain ⟨b, k'⟩ := bk
            rw [hβ] at e5
            obtain ⟨A, cap, rfl, g1, g2, g3⟩ := e5
            refine ⟨_, run_sliceAt_slice hu h2 g1 hlo hhi ho w, RT.leaf ?_ rfl⟩
            simp only [RC]
            rw [plus_eq]
            refine ⟨_, rfl, rfl, o, hm, n, sz, h1, by rw [hr]; omega, ?_⟩
            rw [hβ]
            simp only
            rw [hr]
            refine ⟨if cap = lo.lo.toNat then A else A.add (lo.lo.toNat * sz), cap - lo.lo.toNat, ?_, by omega, ?_, ?_⟩
            · congr 1
              split <;> simp
            · have : off + lo.lo.toNat + (cap - lo.lo.toNat) = off + cap := by omega
              rw [this]; exact g2
            · intro hcap
              rw [if_neg (by omega), g3 (by omega), addr_add, Nat.add_mul, Nat.add_assoc]
        · cases hl
      · cases hl
    · cases hl
  · rename_i el l hu
    split at hl
    · rename_i h2
      simp only [Option.some.injEq, Prod.mk.injEq] at hl
      obtain ⟨rfl, rfl⟩ := hl
      obtain ⟨A, c, rfl, hc, hlies⟩ := hx.sb
      have hb := bnds_lo ho
      refine ⟨_, run_sliceAt_slice hu h2 hc hlo hhi ho w, RT.leaf ?_ rfl⟩
      simp only [RC]
      refine ⟨_, _, by rw [cut_length l ho], by rw [cut_length l ho]; omega, ?_⟩
      have := lies_cut (sz := 1) hlies (by simp) hc hb.1 hb.2
      rwa [cut_u8] at this
    · cases hl
  · rename_i el e xs hu
    split at hl
    · rename_i k h2
      split at hl
      · rename_i hc
        simp only [Option.some.injEq, Prod.mk.injEq] at hl
        obtain ⟨rfl, rfl⟩ := hl
        have hc1 := Nat.eq_of_beq_eq_true hc
        subst hc1
        obtain ⟨A, c, ds, rfl, hc, hr, hlies⟩ := hx.sl
        have hb := bnds_lo ho
        refine ⟨_, run_sliceAt_slice hu h2 hc hlo hhi ho w, RT.leaf ?_ rfl⟩
        simp only [RC]
        exact ⟨_, _, by rw [cut_length xs ho], by rw [cut_length xs ho]; omega, _, hr.cut, lies_cut hlies (RU.length _ _ hr) hc hb.1 hb.2⟩
      · cases hl
    · cases hl
  · rename_i el hu
    split at hl <;> try (cases hl; done)
    rename_i k hk
    simp only [Option.some.injEq, Prod.mk.injEq] at hl
    obtain ⟨rfl, rfl⟩ := hl
    have hv : v = .slice none 0 0 := by
      rcases hx with ⟨h1, _⟩ | ⟨_, h1⟩
      · simp [T.isAgg] at h1
      · simp only [RC] at h1; simpa using h1.2
    subst hv
    have hb : lo.lo.toNat ≤ hi.hi 0 ∧ hi.hi 0 ≤ 0 := bnds_lo (n := 0) ho
    have h0 : hi.hi 0 = 0 := by omega
    have h1 : lo.lo.toNat = 0 := by omega
    refine ⟨_, run_sliceAt_slice hu hk (Nat.le_refl 0) hlo hhi ho w, ?_⟩
    rw [h0, h1]
    exact RT.leaf (by simp [RC, Value.oneCell']) rfl
  · rename_i l hu
    simp only [Option.some.injEq, Prod.mk.injEq] at hl
    obtain ⟨rfl, rfl⟩ := hl
    have hv : v = .string ⟨l.toArray⟩ := by
      rcases hx with ⟨h1, _⟩ | ⟨_, h1⟩
      · simp [T.isAgg] at h1
      · simp only [RC] at h1; simpa using h1
    subst hv
    have hsz : (⟨l.toArray⟩ : ByteArray).size = l.length := by simp [ByteArray.size]
    have hrun : (Instr.sliceAt t (.string ⟨l.toArray⟩) vl vh none).run P w = .ok (.string ((⟨l.toArray⟩ : ByteArray).extract lo.lo.toNat (hi.hi l.length))) w := by
      simp [Instr.sliceAt, Instr.slice, run_underlying hu, hsz, run_sliceBounds false (Nat.le_refl _) hlo hhi ho]
    refine ⟨_, hrun, RT.leaf ?_ rfl⟩
    simp only [RC]
    congr 2
    have := toList_extract ⟨l.toArray⟩ lo.lo.toNat (hi.hi l.length)
    rw [cut_eq]
    simp only [] at this
    rw [← this]
  · cases hl

end Go.AL

/- New objects in the abstract state: zero values, boxes, arrays, slices. No condition. -/
namespace Go.AL
open Go

/-- The zero value of a type, as a tree. -/
def zeroF (P : Program) : Nat → TypeId → Option T
  | 0, _ => none
  | n + 1, t => match P.underlying t with
    | some .bool => some (.b false)
    | some (.int .i64) => some (.i 0)
    | some (.int .u8) => some (.u8 0)
    | some (.int .u32) => some (.u32 0)
    | some (.int .u64) => some (.u64 0)
    | some (.int k) => some (.v (.int k 0))
    | some .string => some (.s [])
    | some (.pointer _) => some (.v (.pointer none))
    | some (.slice _) => some (.v (.slice none 0 0))
    | some (.map _ _) => some (.v (.map none))
    | some (.func _ _ _) => some (.v .nilFunc)
    | some (.interface _) => some (.v .nilIface)
    | some (.struct fs) => match fs.toList.mapM (fun f => zeroF P n f.type) with
      | some xs => some (.agg xs)
      | none => none
    | some (.array m e) => match P.underlying e with
      | some (.int .u8) => some (.ba m (List.replicate m 0))
      | _ => match zeroF P n e with
        | some x => some (.arr m x.sk (List.replicate m x))
        | none => none
    | _ => none

def zeroT (P : Program) (t : TypeId) : Option T := zeroF P 12 t

mutual
/-- The cells of a tree that needs no memory. -/
def T.flat : T → Option (List Value)
  | .agg fs => T.flats fs
  | .ba n l => if Nat.beq l.length n then some (l.map u8v) else none
  | .arr n e xs => if Nat.beq xs.length n then T.flatu e xs else none
  | .i n => some [.int .i64 n]
  | .b c => some [.bool c]
  | .u8 x => some [u8v x]
  | .u32 x => some [.int .u32 x.toNat]
  | .u64 x => some [.int .u64 x.toNat]
  | .s l => some [.string ⟨l.toArray⟩]
  | .v x => if x.oneCell' then some [x] else none
  | _ => none
def T.flats : List T → Option (List Value)
  | [] => some []
  | x :: xs => match T.flat x, T.flats xs with
    | some ca, some cb => some (ca ++ cb)
    | _, _ => none
def T.flatu (e : Sk) : List T → Option (List Value)
  | [] => some []
  | x :: xs => if Sk.beq x.sk e then match T.flat x, T.flatu e xs with
    | some ca, some cb => some (ca ++ cb)
    | _, _ => none
    else none
end

section
variable {w : World} {N : Nat → Prop}
mutual
theorem RC.of_flat {X : Ext} : ∀ (x : T) (cs : List Value), x.flat = some cs → RC w N X x cs
  | .i _, _, h | .b _, _, h | .u8 _, _, h | .u32 _, _, h | .u64 _, _, h | .s _, _, h => by simp only [T.flat, Option.some.injEq] at h; subst h; simp only [RC]
  | .v x, cs, h => by
    simp only [T.flat] at h
    split at h
    · rename_i h1; simp only [Option.some.injEq] at h; subst h; simp only [RC]; exact ⟨h1, trivial⟩
    · cases h
  | .ba n l, cs, h => by
    simp only [T.flat] at h
    split at h
    · rename_i h1; simp only [Option.some.injEq] at h; subst h; simp only [RC]; exact ⟨Nat.eq_of_beq_eq_true h1, trivial⟩
    · cases h
  | .agg fs, cs, h => by simp only [T.flat] at h; simp only [RC]; exact RL.of_flat fs cs h
  | .arr n e xs, cs, h => by
    simp only [T.flat] at h
    split at h
    · rename_i h1; simp only [RC]; exact ⟨Nat.eq_of_beq_eq_true h1, RU.of_flat e xs cs h⟩
    · cases h
  | .sb _, _, h | .sl _ _, _, h | .pt _, _, h | .ifc _ _, _, h | .clo _ _, _, h | .tup _, _, h | .junk, _, h | .ref _ _, _, h | .row _ _ _ _, _, h | .ow _, _, h | .os _ _, _, h => by simp [T.flat] at h
theorem RL.of_flat {X : Ext} : ∀ (xs : List T) (cs : List Value), T.flats xs = some cs → RL w N X xs cs
  | [], cs, h => by simp only [T.flats, Option.some.injEq] at h; subst h; simp only [RL]
  | x :: xs, cs, h => by
    simp only [T.flats] at h
    cases ha : T.flat x with
    | none => simp [ha] at h
    | some a =>
      cases hb : T.flats xs with
      | none => simp [ha, hb] at h
      | some b =>
        simp only [ha, hb, Option.some.injEq] at h
        subst h
        have := RC.of_flat (X := X) x a ha
        simp only [RL]
        exact ⟨a, b, rfl, RC.length _ _ this, this, RL.of_flat xs b hb⟩
theorem RU.of_flat (e : Sk) : ∀ (xs : List T) (cs : List Value), T.flatu e xs = some cs → RU w N e xs cs
  | [], cs, h => by simp only [T.flatu, Option.some.injEq] at h; subst h; simp only [RU]
  | x :: xs, cs, h => by
    simp only [T.flatu] at h
    split at h
    · rename_i he
      have he := Sk.eq_of_beq _ _ he
      cases ha : T.flat x with
      | none => simp [ha] at h
      | some a =>
        cases hb : T.flatu e xs with
        | none => simp [ha, hb] at h
        | some b =>
          simp only [ha, hb, Option.some.injEq] at h
          subst h
          have := RC.of_flat (X := Ext.none) x a ha
          simp only [RU]
          exact ⟨a, b, rfl, by rw [RC.length _ _ this, he], he, this, RU.of_flat e xs b hb⟩
    · cases h
end
end

/-- The same value, as far as it can be told by looking. -/
def veq : Value → Value → Bool
  | .bool a, .bool b => bbeq a b
  | .int k n, .int j m => (match k, j with
    | .i8, .i8 | .i16, .i16 | .i32, .i32 | .i64, .i64 | .u8, .u8 | .u16, .u16 | .u32, .u32 | .u64, .u64 => true
    | _, _ => false) && (match n, m with
    | .ofNat a, .ofNat b => Nat.beq a b
    | _, _ => false)
  | .string a, .string b => (match a.data.toList, b.data.toList with
    | [], [] => true
    | _, _ => false)
  | .pointer none, .pointer none => true
  | .slice none 0 0, .slice none 0 0 => true
  | .map none, .map none => true
  | .nilFunc, .nilFunc => true
  | .nilIface, .nilIface => true
  | _, _ => false

theorem veq_ok {a b : Value} (h : veq a b = true) : a = b := by
  unfold veq at h
  split at h
  · rw [bool_beq h]
  · rename_i k n j m
    simp only [Bool.and_eq_true] at h
    obtain ⟨h1, h2⟩ := h
    have hk : k = j := by cases k <;> cases j <;> simp at h1 <;> rfl
    have hn : n = m := by
      cases n <;> cases m <;> simp at h2
      rw [h2]
    rw [hk, hn]
  · rename_i a b
    split at h
    · rename_i h1 h2
      have e1 : a = b := by
        have : a.data = b.data := Array.toList_inj.1 (by rw [h1, h2])
        cases a; cases b; simpa using this
      rw [e1]
    · cases h
  all_goals first | rfl | cases h

def veqs : List Value → List Value → Bool
  | [], [] => true
  | a :: x, b :: y => veq a b && veqs x y
  | _, _ => false

theorem veqs_ok : ∀ {a b : List Value}, veqs a b = true → a = b
  | [], [], _ => rfl
  | a :: x, b :: y, h => by
    simp only [veqs, Bool.and_eq_true] at h
    rw [veq_ok h.1, veqs_ok h.2]
  | [], _ :: _, h => by simp [veqs] at h
  | _ :: _, [], h => by simp [veqs] at h

def isAggV : Value → Bool
  | .agg _ => true
  | _ => false

/-- The zero value of a type, with its cells, checked against the program's. -/
def zeroOk (P : Program) (t : TypeId) : Option (T × List Value) :=
  match zeroT P t with
  | some x => match x.flat, P.info? t with
    | some cs, some i => match i.zero with
      | some z => if (veqs cs z.cells.toList && bbeq x.isAgg (isAggV z) && Nat.beq i.size x.sk.size) then some (x, cs) else none
      | none => none
    | _, _ => none
  | none => none

theorem zeroOk_spec {P : Program} {t : TypeId} {x : T} {cs : List Value} (h : zeroOk P t = some (x, cs)) :
    ∃ i z, P.info? t = some i ∧ i.zero = some z ∧ z.cells.toList = cs ∧ x.flat = some cs ∧ szT P t = some x.sk.size ∧ ∀ (w : World) (N : Nat → Prop) (X : Ext), RV w N X x z := by
  unfold zeroOk at h
  split at h
  · rename_i x' hx
    split at h
    · rename_i cs' i hf hi
      split at h
      · rename_i z hz
        split at h
        · rename_i hc
          simp only [Option.some.injEq, Prod.mk.injEq] at h
          obtain ⟨rfl, rfl⟩ := h
          simp only [Bool.and_eq_true] at hc
          have h1 := veqs_ok hc.1.1
          have h2 := bool_beq hc.1.2
          have h3 := Nat.eq_of_beq_eq_true hc.2
          refine ⟨i, z, hi, hz, h1.symm, hf, by simp [szT, hi, h3], fun w N X => ?_⟩
          have hr := RC.of_flat (w := w) (N := N) (X := X) x' cs' hf
          rw [h1] at hr
          clear h1 hc
          cases z with
          | agg cs0 => exact .inl ⟨h2, cs0.toList, by simp, hr⟩
          | _ => exact .inr ⟨h2, hr⟩
        · cases h
      · cases h
    · cases h
  · cases h

theorem run_zeroValue' {P : Program} {t : TypeId} {i : TypeInfo} {z : Value} (hi : P.info? t = some i) (hz : i.zero = some z) (w : World) : (zeroValue t).run P w = .ok z w := by
  simp [zeroValue, typeInfo, hi, hz]

theorem run_newVar (P : Program) (t : TypeId) (v : Value) (w : World) : (newVar t v).run P w = .ok ⟨w.heap.size, 0, none⟩ (w.alloc (.cells v.cells t)) := by
  simp [newVar, newRow]

/-- A new variable in memory. -/
theorem Sim.newVar {C : Ctx} {β : Bel} {st : St} {a : Act} {w : World} (h : Sim C β st a w) {id : Nat} (hn : st.m[id]? = some none) {x : T} {v : Value} (hx : RV w (Mut C.N0 st.m β) (ext st.m β) x v) (t : TypeId) :
    ∃ β', Sim C β' (st.fill id ⟨.var x, false⟩) a (w.alloc (.cells v.cells t)) ∧
      RT (w.alloc (.cells v.cells t)) (Mut C.N0 (st.fill id ⟨.var x, false⟩).m β') (ext (st.fill id ⟨.var x, false⟩).m β') (.ref id []) (.pointer (some ⟨w.heap.size, 0, none⟩)) := by
  have hk := keeps_alloc w (.cells v.cells t)
  have hX := fill_ext hn (⟨.var x, false⟩ : Obj) (some (w.heap.size, v.cells.size)) (β := β)
  have hS := fill_stay (C := C) (β := β) (st := st) hk (⟨.var x, false⟩ : Obj) (id := id) (bk := some (w.heap.size, v.cells.size)) (fun b k e => by simp at e; omega)
  refine ⟨β.with id (some (w.heap.size, v.cells.size)), h.fill hk hn _ _ ?_ (fun e => by cases e), ?_⟩
  · intro b k e
    simp only [Option.some.injEq, Prod.mk.injEq] at e
    obtain ⟨rfl, rfl⟩ := e
    exact ⟨Nat.le_refl _, v.cells, t, heap_new _ _, rfl, RC.mono hS hX _ _ hx.cells⟩
  · refine RT.leaf ?_ rfl
    have hlt : id < st.m.length := (List.getElem?_eq_some_iff.1 hn).1
    simp only [RC]
    exact ⟨_, rfl, ⟨.var x, false⟩, w.heap.size, v.cells.size, by simp [St.fill, hlt], by simp [Bel.with], by simp [Cont.off, Sk.off]⟩

/-- A new row of bytes. -/
theorem Sim.newRow {C : Ctx} {β : Bel} {st : St} {a : Act} {w : World} (h : Sim C β st a w) {id : Nat} (hn : st.m[id]? = some none) (c : Cont) (n sz : Nat) (hlen : c.len [] = some (n, sz)) (hoff : c.off [] = 0) {cs : List Value} 
    (hc : CC w (Mut C.N0 st.m β) (ext st.m β) c cs) (t : TypeId) {cap : Nat} (h1 : n ≤ cap) (h2 : cap * sz ≤ cs.length) {w1 : World} (hw1 : Keeps (fun _ => False) w w1) :
    ∃ β', Sim C β' (st.fill id ⟨c, false⟩) a (w1.alloc (.cells cs.toArray t)) ∧
      RT (w1.alloc (.cells cs.toArray t)) (Mut C.N0 (st.fill id ⟨c, false⟩).m β') (ext (st.fill id ⟨c, false⟩).m β') (.row id [] 0 none) (.slice (some ⟨w1.heap.size, 0, none⟩) n cap) := by
  have hk := keeps_alloc w1 (.cells cs.toArray t)
  have h' := h.grow hw1
  have hX := fill_ext hn (⟨c, false⟩ : Obj) (some (w1.heap.size, cs.length)) (β := β)
  have hS := fill_stay (C := C) (β := β) (st := st) hk (⟨c, false⟩ : Obj) (id := id) (bk := some (w1.heap.size, cs.length)) (fun b k e => by simp at e; omega)
  have hS1 : Stay w w1 (Mut C.N0 st.m β) (Mut C.N0 st.m β) := fun b hb hlt => ⟨hb, hw1.block b hlt (fun f => f)⟩
  refine ⟨β.with id (some (w1.heap.size, cs.length)), h'.fill hk hn _ _ ?_ (fun e => by cases e), ?_⟩
  · intro b k e
    simp only [Option.some.injEq, Prod.mk.injEq] at e
    obtain ⟨rfl, rfl⟩ := e
    exact ⟨Nat.le_refl _, cs.toArray, t, heap_new _ _, by simp, by simpa using CC.mono hS hX _ _ (CC.mono hS1 (Ext.Le.refl _) _ _ hc)⟩
  · refine RT.leaf ?_ rfl
    have hlt : id < st.m.length := (List.getElem?_eq_some_iff.1 hn).1
    simp only [RC]
    refine ⟨_, rfl, rfl, ⟨c, false⟩, by simp [St.fill, hlt], n, sz, hlen, by simp, ?_⟩
    simp only [Bel.with, if_true]
    refine ⟨⟨w1.heap.size, 0, none⟩, cap, by simp, by simpa using h1, ?_, fun _ => by simp⟩
    rw [hoff]; simpa using h2

end Go.AL

/- Numbers in the abstract state. No condition. -/
namespace Go.AL
open Go

def InI (n : Int) : Prop := -9223372036854775808 ≤ n ∧ n ≤ 9223372036854775807

theorem wrap_i64 {n : Int} (h : InI n) : IntKind.i64.wrap n = n := by
  unfold InI at h
  simp only [IntKind.wrap, IntKind.bits, IntKind.signed, Bool.true_and]
  split
  · rename_i hc
    simp at hc
    omega
  · rename_i hc
    simp at hc
    omega

theorem wrap_u8 (n : Int) : IntKind.u8.wrap n = n % 256 := by
  simp [IntKind.wrap, IntKind.signed, IntKind.bits]
theorem wrap_u32 (n : Int) : IntKind.u32.wrap n = n % 4294967296 := by
  simp [IntKind.wrap, IntKind.signed, IntKind.bits]
theorem wrap_u64 (n : Int) : IntKind.u64.wrap n = n % 18446744073709551616 := by
  simp [IntKind.wrap, IntKind.signed, IntKind.bits]

/-- & and its kin of two ints. -/
def ibits (op : BinOp) (x y : Int) : Int :=
  let a := BitVec.ofInt 64 x
  let b := BitVec.ofInt 64 y
  IntKind.i64.wrap (match op with
    | .and => (a &&& b).toNat
    | .or => (a ||| b).toNat
    | .xor => (a ^^^ b).toNat
    | _ => (a &&& ~~~b).toNat)

/-- What an operation on two values comes to, and what must hold. -/
def bin (op : BinOp) (x y : T) : Option (T × Prop) :=
  match x, y with
  | .i a, .i b => match op with
    | .add => some (.i (a + b), InI (a + b))
    | .sub => some (.i (a - b), InI (a - b))
    | .mul => some (.i (a * b), InI (a * b))
    | .quo => some (.i (a.tdiv b), b ≠ 0 ∧ InI (a.tdiv b))
    | .rem => some (.i (a.tmod b), b ≠ 0)
    | .and => some (.i (ibits .and a b), True)
    | .or => some (.i (ibits .or a b), True)
    | .xor => some (.i (ibits .xor a b), True)
    | .andNot => some (.i (ibits .andNot a b), True)
    | .eql => some (.b (a == b), True)
    | .neq => some (.b (a != b), True)
    | .lss => some (.b (decide (a < b)), True)
    | .leq => some (.b (decide (a ≤ b)), True)
    | .gtr => some (.b (decide (a > b)), True)
    | .geq => some (.b (decide (a ≥ b)), True)
    | .shl => some (.i (a * 2 ^ b.toNat), 0 ≤ b ∧ b < 64 ∧ InI (a * 2 ^ b.toNat))
    | .shr => some (.i (a.fdiv (2 ^ b.toNat)), 0 ≤ b ∧ b < 64)
  | .i a, .u64 b => match op with
    | .shl => some (.i (a * 2 ^ b.toNat), b.toNat < 64 ∧ InI (a * 2 ^ b.toNat))
    | .shr => some (.i (a.fdiv (2 ^ b.toNat)), b.toNat < 64)
    | _ => none
  | .u8 a, .u8 b => match op with
    | .add => some (.u8 (a + b), True)
    | .sub => some (.u8 (a - b), True)
    | .mul => some (.u8 (a * b), True)
    | .quo => some (.u8 (a / b), b ≠ 0)
    | .rem => some (.u8 (a % b), b ≠ 0)
    | .and => some (.u8 (a &&& b), True)
    | .or => some (.u8 (a ||| b), True)
    | .xor => some (.u8 (a ^^^ b), True)
    | .eql => some (.b (a == b), True)
    | .neq => some (.b (a != b), True)
    | .lss => some (.b (decide (a < b)), True)
    | .leq => some (.b (decide (a ≤ b)), True)
    | .gtr => some (.b (decide (b < a)), True)
    | .geq => some (.b (decide (b ≤ a)), True)
    | _ => none
  | .u32 a, .u32 b => match op with
    | .add => some (.u32 (a + b), True)
    | .sub => some (.u32 (a - b), True)
    | .mul => some (.u32 (a * b), True)
    | .quo => some (.u32 (a / b), b ≠ 0)
    | .rem => some (.u32 (a % b), b ≠ 0)
    | .and => some (.u32 (a &&& b), True)
    | .or => some (.u32 (a ||| b), True)
    | .xor => some (.u32 (a ^^^ b), True)
    | .eql => some (.b (a == b), True)
    | .neq => some (.b (a != b), True)
    | .lss => some (.b (decide (a < b)), True)
    | .leq => some (.b (decide (a ≤ b)), True)
    | .gtr => some (.b (decide (b < a)), True)
    | .geq => some (.b (decide (b ≤ a)), True)
    | _ => none
  | .u64 a, .u64 b => match op with
    | .add => some (.u64 (a + b), True)
    | .sub => some (.u64 (a - b), True)
    | .mul => some (.u64 (a * b), True)
    | .quo => some (.u64 (a / b), b ≠ 0)
    | .rem => some (.u64 (a % b), b ≠ 0)
    | .and => some (.u64 (a &&& b), True)
    | .or => some (.u64 (a ||| b), True)
    | .xor => some (.u64 (a ^^^ b), True)
    | .eql => some (.b (a == b), True)
    | .neq => some (.b (a != b), True)
    | .lss => some (.b (decide (a < b)), True)
    | .leq => some (.b (decide (a ≤ b)), True)
    | .gtr => some (.b (decide (b < a)), True)
    | .geq => some (.b (decide (b ≤ a)), True)
    | _ => none
  | .u8 a, .i b => match op with
    | .shl => some (.u8 (a <<< UInt8.ofNat b.toNat), 0 ≤ b ∧ b < 8)
    | .shr => some (.u8 (a >>> UInt8.ofNat b.toNat), 0 ≤ b ∧ b < 8)
    | _ => none
  | .u32 a, .i b => match op with
    | .shl => some (.u32 (a <<< UInt32.ofNat b.toNat), 0 ≤ b ∧ b < 32)
    | .shr => some (.u32 (a >>> UInt32.ofNat b.toNat), 0 ≤ b ∧ b < 32)
    | _ => none
  | .u32 a, .u64 b => match op with
    | .shl => some (.u32 (a <<< b.toUInt32), b.toNat < 32)
    | .shr => some (.u32 (a >>> b.toUInt32), b.toNat < 32)
    | _ => none
  | .u64 a, .i b => match op with
    | .shl => some (.u64 (a <<< UInt64.ofNat b.toNat), 0 ≤ b ∧ b < 64)
    | .shr => some (.u64 (a >>> UInt64.ofNat b.toNat), 0 ≤ b ∧ b < 64)
    | _ => none
  | .b a, .b c => match op with
    | .eql => some (.b (a == c), True)
    | .neq => some (.b (a != c), True)
    | _ => none
  | .s a, .s c => match op with
    | .eql => some (.b (a == c), True)
    | .neq => some (.b (a != c), True)
    | _ => none
  | _, _ => none

theorem u8_bits (a b : UInt8) (f : ∀ w, BitVec w → BitVec w → BitVec w) : (f 8 (BitVec.ofInt 8 (a.toNat : Int)) (BitVec.ofInt 8 (b.toNat : Int))) = f 8 a.toBitVec b.toBitVec := by
  have h : ∀ x : UInt8, BitVec.ofInt 8 (x.toNat : Int) = x.toBitVec := fun x => by
    apply BitVec.eq_of_toNat_eq
    rw [BitVec.toNat_ofInt]
    have := x.toNat_lt
    simp
    omega
  rw [h, h]
theorem u32_bits (a b : UInt32) (f : ∀ w, BitVec w → BitVec w → BitVec w) : (f 32 (BitVec.ofInt 32 (a.toNat : Int)) (BitVec.ofInt 32 (b.toNat : Int))) = f 32 a.toBitVec b.toBitVec := by
  have h : ∀ x : UInt32, BitVec.ofInt 32 (x.toNat : Int) = x.toBitVec := fun x => by
    apply BitVec.eq_of_toNat_eq
    rw [BitVec.toNat_ofInt]
    have := x.toNat_lt
    simp
    omega
  rw [h, h]
theorem u64_bits (a b : UInt64) (f : ∀ w, BitVec w → BitVec w → BitVec w) : (f 64 (BitVec.ofInt 64 (a.toNat : Int)) (BitVec.ofInt 64 (b.toNat : Int))) = f 64 a.toBitVec b.toBitVec := by
  have h : ∀ x : UInt64, BitVec.ofInt 64 (x.toNat : Int) = x.toBitVec := fun x => by
    apply BitVec.eq_of_toNat_eq
    rw [BitVec.toNat_ofInt]
    have := x.toNat_lt
    simp
    omega
  rw [h, h]


theorem run_shl {P : Program} {t : TypeId} {k j : IntKind} {a y : Int} {n : Nat} (h0 : ¬ y < 0) (hm : min y.toNat k.bits = n) (w : World) :
    (binOp .shl t (.int k a) (.int j y)).run P w = .ok (.int k (k.wrap (a * 2 ^ n))) w := by
  simp only [binOp, Op.shift, if_neg h0, hm]; rfl

theorem run_shr {P : Program} {t : TypeId} {k j : IntKind} {a y : Int} {n : Nat} (h0 : ¬ y < 0) (hm : min y.toNat k.bits = n) (w : World) :
    (binOp .shr t (.int k a) (.int j y)).run P w = .ok (.int k (a.fdiv (2 ^ n))) w := by
  simp only [binOp, Op.shift, if_neg h0, hm]; rfl

theorem bin_i {P : Program} {op : BinOp} {t : TypeId} {a b : Int} {z : T} {ob : Prop} (h : bin op (.i a) (.i b) = some (z, ob)) (ho : ob) (w : World) :
    ∃ r, (binOp op t (.int .i64 a) (.int .i64 b)).run P w = .ok r w ∧ z.leaf = some r := by
  cases op <;> simp only [bin, Option.some.injEq, Prod.mk.injEq] at h <;> obtain ⟨rfl, rfl⟩ := h
  · exact ⟨_, by simp [binOp, Op.intArith]; rfl, by simp [T.leaf, wrap_i64 ho]⟩
  · exact ⟨_, by simp [binOp, Op.intArith]; rfl, by simp [T.leaf, wrap_i64 ho]⟩
  · exact ⟨_, by simp [binOp, Op.intArith]; rfl, by simp [T.leaf, wrap_i64 ho]⟩
  · exact ⟨_, by simp [binOp, Op.intDiv, ho.1]; rfl, by simp [T.leaf, wrap_i64 ho.2]⟩
  · exact ⟨_, by simp [binOp, Op.intDiv, ho]; rfl, by simp [T.leaf]⟩
  · exact ⟨_, by simp [binOp, Op.intBits]; rfl, by simp [T.leaf, ibits, IntKind.bits]⟩
  · exact ⟨_, by simp [binOp, Op.intBits]; rfl, by simp [T.leaf, ibits, IntKind.bits]⟩
  · exact ⟨_, by simp [binOp, Op.intBits]; rfl, by simp [T.leaf, ibits, IntKind.bits]⟩
  · refine ⟨.int .i64 (a * 2 ^ b.toNat), ?_, rfl⟩
    have hm : min b.toNat IntKind.i64.bits = b.toNat := by simp [IntKind.bits]; omega
    rw [run_shl (by omega) hm, wrap_i64 ho.2.2]
  · refine ⟨.int .i64 (a.fdiv (2 ^ b.toNat)), ?_, rfl⟩
    have hm : min b.toNat IntKind.i64.bits = b.toNat := by simp [IntKind.bits]; omega
    rw [run_shr (by omega) hm]
  · exact ⟨_, by simp [binOp, Op.intBits]; rfl, by simp [T.leaf, ibits, IntKind.bits]⟩
  all_goals exact ⟨_, by simp [binOp, Op.intCmp]; rfl, by simp [T.leaf]⟩

theorem bin_iu {P : Program} {op : BinOp} {t : TypeId} {a : Int} {b : UInt64} {z : T} {ob : Prop} (h : bin op (.i a) (.u64 b) = some (z, ob)) (ho : ob) (w : World) :
    ∃ r, (binOp op t (.int .i64 a) (.int .u64 b.toNat)).run P w = .ok r w ∧ z.leaf = some r := by
  cases op <;> simp only [bin, Option.some.injEq, Prod.mk.injEq, reduceCtorEq] at h <;> obtain ⟨rfl, rfl⟩ := h
  · refine ⟨.int .i64 (a * 2 ^ b.toNat), ?_, rfl⟩
    have hm : min ((b.toNat : Int)).toNat IntKind.i64.bits = b.toNat := by simp [IntKind.bits]; omega
    rw [run_shl (by omega) hm, wrap_i64 ho.2]
  · refine ⟨.int .i64 (a.fdiv (2 ^ b.toNat)), ?_, rfl⟩
    have hm : min ((b.toNat : Int)).toNat IntKind.i64.bits = b.toNat := by simp [IntKind.bits]; omega
    rw [run_shr (by omega) hm]

theorem eq_bool {P : Program} {t : TypeId} (hu : P.underlying t = some .bool) (w : World) (d : Nat) (a c : Bool) : (Op.equalIn (d + 1) t (.bool a) (.bool c)).run P w = .ok (a == c) w := by
  simp [Op.equalIn, run_underlying hu]

theorem bin_b {P : Program} {op : BinOp} {t : TypeId} {a c : Bool} (hu : P.underlying t = some .bool) {z : T} {ob : Prop} (h : bin op (.b a) (.b c) = some (z, ob)) (w : World) :
    ∃ r, (binOp op t (.bool a) (.bool c)).run P w = .ok r w ∧ z.leaf = some r := by
  cases op <;> simp only [bin, Option.some.injEq, Prod.mk.injEq, reduceCtorEq] at h <;> obtain ⟨rfl, rfl⟩ := h
  · refine ⟨.bool (a == c), ?_, rfl⟩
    simp only [binOp]
    simp [Op.equal, Op.maxDepth, eq_bool hu w 9999 a c]
  · refine ⟨.bool (a != c), ?_, rfl⟩
    simp only [binOp]
    simp [Op.equal, Op.maxDepth, eq_bool hu w 9999 a c, bne]

theorem nat_tdiv (a b : Nat) : Int.tdiv (a : Int) (b : Int) = ((a / b : Nat) : Int) := by rw [Int.tdiv_eq_ediv_of_nonneg (by omega)]; rfl
theorem nat_tmod (a b : Nat) : Int.tmod (a : Int) (b : Int) = ((a % b : Nat) : Int) := by rw [Int.tmod_eq_emod_of_nonneg (by omega)]; rfl
theorem nat_fdiv (a n : Nat) : Int.fdiv (a : Int) (2 ^ n) = ((a >>> n : Nat) : Int) := by
  rw [Int.fdiv_eq_ediv_of_nonneg _ (by exact Int.le_of_lt (Int.pow_pos (by omega))), Nat.shiftRight_eq_div_pow]
  simp

theorem bin_u8 {P : Program} {op : BinOp} {t : TypeId} {a b : UInt8} {z : T} {ob : Prop} (h : bin op (.u8 a) (.u8 b) = some (z, ob)) (ho : ob) (w : World) :
    ∃ r, (binOp op t (.int .u8 a.toNat) (.int .u8 b.toNat)).run P w = .ok r w ∧ z.leaf = some r := by
  have ha := a.toNat_lt
  have hb := b.toNat_lt
  cases op <;> simp only [bin, Option.some.injEq, Prod.mk.injEq, reduceCtorEq] at h <;> obtain ⟨rfl, rfl⟩ := h
  · refine ⟨_, rfl, ?_⟩
    simp only [T.leaf, u8v, UInt8.toNat_add, Option.some.injEq, Value.int.injEq, true_and]
    rw [wrap_u8]; omega
  · refine ⟨_, rfl, ?_⟩
    simp only [T.leaf, u8v, UInt8.toNat_sub, Option.some.injEq, Value.int.injEq, true_and]
    rw [wrap_u8]; omega
  · refine ⟨_, rfl, ?_⟩
    simp only [T.leaf, u8v, UInt8.toNat_mul, Option.some.injEq, Value.int.injEq, true_and]
    rw [wrap_u8, ← Int.natCast_mul]; omega
  · have h0 : b.toNat ≠ 0 := fun h => ho (UInt8.toNat_inj.1 (by simpa using h))
    refine ⟨.int .u8 (a / b).toNat, ?_, rfl⟩
    have hq : a.toNat / b.toNat < 2 ^ 8 := Nat.lt_of_le_of_lt (Nat.div_le_self _ _) ha
    have hw : IntKind.u8.wrap ((a.toNat / b.toNat : Nat) : Int) = ((a.toNat / b.toNat : Nat) : Int) := by
      generalize a.toNat / b.toNat = q at hq
      rw [wrap_u8]; omega
    have h0' : ¬ (b.toNat : Int) = 0 := by omega
    simp only [binOp, Op.intDiv, h0', if_false, nat_tdiv, hw, UInt8.toNat_div]
    rfl
  · have h0 : b.toNat ≠ 0 := fun h => ho (UInt8.toNat_inj.1 (by simpa using h))
    refine ⟨.int .u8 (a % b).toNat, ?_, rfl⟩
    have h0' : ¬ (b.toNat : Int) = 0 := by omega
    simp only [binOp, Op.intDiv, h0', if_false, nat_tmod, UInt8.toNat_mod]
    rfl
  · refine ⟨.int .u8 (a &&& b).toNat, ?_, rfl⟩
    have := u8_bits a b (fun _ x y => x &&& y)
    show Result.ok (Value.int .u8 (IntKind.u8.wrap ((BitVec.ofInt 8 (a.toNat : Int) &&& BitVec.ofInt 8 (b.toNat : Int)).toNat : Int))) w = _
    rw [this]
    have hl := (a &&& b).toNat_lt
    have he : (a.toBitVec &&& b.toBitVec).toNat = (a &&& b).toNat := rfl
    rw [he, wrap_u8, Int.emod_eq_of_lt (by omega) (by omega)]
  · refine ⟨.int .u8 (a ||| b).toNat, ?_, rfl⟩
    have := u8_bits a b (fun _ x y => x ||| y)
    show Result.ok (Value.int .u8 (IntKind.u8.wrap ((BitVec.ofInt 8 (a.toNat : Int) ||| BitVec.ofInt 8 (b.toNat : Int)).toNat : Int))) w = _
    rw [this]
    have hl := (a ||| b).toNat_lt
    have he : (a.toBitVec ||| b.toBitVec).toNat = (a ||| b).toNat := rfl
    rw [he, wrap_u8, Int.emod_eq_of_lt (by omega) (by omega)]
  · refine ⟨.int .u8 (a ^^^ b).toNat, ?_, rfl⟩
    have := u8_bits a b (fun _ x y => x ^^^ y)
    show Result.ok (Value.int .u8 (IntKind.u8.wrap ((BitVec.ofInt 8 (a.toNat : Int) ^^^ BitVec.ofInt 8 (b.toNat : Int)).toNat : Int))) w = _
    rw [this]
    have hl := (a ^^^ b).toNat_lt
    have he : (a.toBitVec ^^^ b.toBitVec).toNat = (a ^^^ b).toNat := rfl
    rw [he, wrap_u8, Int.emod_eq_of_lt (by omega) (by omega)]
  · refine ⟨.bool (a == b), ?_, rfl⟩
    have : ((a.toNat : Int) == b.toNat) = (a == b) := by
      rw [Bool.eq_iff_iff]; simp [← UInt8.toNat_inj, ← Int.natCast_inj]
    simp only [binOp, Op.intCmp, this]; rfl
  · refine ⟨.bool (a != b), ?_, rfl⟩
    have : ((a.toNat : Int) != b.toNat) = (a != b) := by
      rw [Bool.eq_iff_iff]; simp [← UInt8.toNat_inj, ← Int.natCast_inj]
    simp only [binOp, Op.intCmp, this]; rfl
  · refine ⟨.bool (decide (a < b)), ?_, rfl⟩
    have : decide ((a.toNat : Int) < b.toNat) = decide (a < b) := by
      rw [Bool.eq_iff_iff]; simp [UInt8.lt_iff_toNat_lt]
    simp only [binOp, Op.intCmp, this]; rfl
  · refine ⟨.bool (decide (a ≤ b)), ?_, rfl⟩
    have : decide ((a.toNat : Int) ≤ b.toNat) = decide (a ≤ b) := by
      rw [Bool.eq_iff_iff]; simp [UInt8.le_iff_toNat_le]
    simp only [binOp, Op.intCmp, this]; rfl
  · refine ⟨.bool (decide (b < a)), ?_, rfl⟩
    have : decide ((a.toNat : Int) > b.toNat) = decide (b < a) := by
      rw [Bool.eq_iff_iff]; simp [UInt8.lt_iff_toNat_lt]
    simp only [binOp, Op.intCmp, this]; rfl
  · refine ⟨.bool (decide (b ≤ a)), ?_, rfl⟩
    have : decide ((a.toNat : Int) ≥ b.toNat) = decide (b ≤ a) := by
      rw [Bool.eq_iff_iff]; simp [UInt8.le_iff_toNat_le]
    simp only [binOp, Op.intCmp, this]; rfl

theorem shl_u8 (a : UInt8) (n : Nat) (s : UInt8) (hs : s.toNat = n) (h : n < 8) : IntKind.u8.wrap ((a.toNat : Int) * 2 ^ n) = ((a <<< s).toNat : Int) := by
  rw [UInt8.toNat_shiftLeft, hs, Nat.mod_eq_of_lt h, wrap_u8, Nat.shiftLeft_eq]
  simp

theorem shr_u8 (a : UInt8) (n : Nat) (s : UInt8) (hs : s.toNat = n) (h : n < 8) : Int.fdiv (a.toNat : Int) (2 ^ n) = ((a >>> s).toNat : Int) := by
  rw [UInt8.toNat_shiftRight, hs, Nat.mod_eq_of_lt h, nat_fdiv]

theorem bin_u8i {P : Program} {op : BinOp} {t : TypeId} {a : UInt8} {b : Int} {z : T} {ob : Prop} (h : bin op (.u8 a) (.i b) = some (z, ob)) (ho : ob) (w : World) :
    ∃ r, (binOp op t (.int .u8 a.toNat) (.int .i64 b)).run P w = .ok r w ∧ z.leaf = some r := by
  cases op <;> simp only [bin, Option.some.injEq, Prod.mk.injEq, reduceCtorEq] at h <;> obtain ⟨rfl, rfl⟩ := h
  all_goals
    have hs : (UInt8.ofNat b.toNat).toNat = b.toNat := by rw [UInt8.toNat_ofNat']; apply Nat.mod_eq_of_lt; have := ho.2; omega
    have hm : min b.toNat IntKind.u8.bits = b.toNat := by simp [IntKind.bits]; omega
  · refine ⟨.int .u8 (a <<< UInt8.ofNat b.toNat).toNat, ?_, rfl⟩
    rw [← shl_u8 a b.toNat _ hs (by omega)]
    rw [run_shl (by omega) hm]
  · refine ⟨.int .u8 (a >>> UInt8.ofNat b.toNat).toNat, ?_, rfl⟩
    rw [← shr_u8 a b.toNat _ hs (by omega)]
    rw [run_shr (by omega) hm]

theorem bin_u32 {P : Program} {op : BinOp} {t : TypeId} {a b : UInt32} {z : T} {ob : Prop} (h : bin op (.u32 a) (.u32 b) = some (z, ob)) (ho : ob) (w : World) :
    ∃ r, (binOp op t (.int .u32 a.toNat) (.int .u32 b.toNat)).run P w = .ok r w ∧ z.leaf = some r := by
  have ha := a.toNat_lt
  have hb := b.toNat_lt
  cases op <;> simp only [bin, Option.some.injEq, Prod.mk.injEq, reduceCtorEq] at h <;> obtain ⟨rfl, rfl⟩ := h
  · refine ⟨_, rfl, ?_⟩
    simp only [T.leaf, UInt32.toNat_add, Option.some.injEq, Value.int.injEq, true_and]
    rw [wrap_u32]; omega
  · refine ⟨_, rfl, ?_⟩
    simp only [T.leaf, UInt32.toNat_sub, Option.some.injEq, Value.int.injEq, true_and]
    rw [wrap_u32]; omega
  · refine ⟨_, rfl, ?_⟩
    simp only [T.leaf, UInt32.toNat_mul, Option.some.injEq, Value.int.injEq, true_and]
    rw [wrap_u32, ← Int.natCast_mul]; omega
  · have h0 : b.toNat ≠ 0 := fun h => ho (UInt32.toNat_inj.1 (by simpa using h))
    refine ⟨.int .u32 (a / b).toNat, ?_, rfl⟩
    have hq : a.toNat / b.toNat < 2 ^ 32 := Nat.lt_of_le_of_lt (Nat.div_le_self _ _) ha
    have hw : IntKind.u32.wrap ((a.toNat / b.toNat : Nat) : Int) = ((a.toNat / b.toNat : Nat) : Int) := by
      generalize a.toNat / b.toNat = q at hq
      rw [wrap_u32]; omega
    have h0' : ¬ (b.toNat : Int) = 0 := by omega
    simp only [binOp, Op.intDiv, h0', if_false, nat_tdiv, hw, UInt32.toNat_div]
    rfl
  · have h0 : b.toNat ≠ 0 := fun h => ho (UInt32.toNat_inj.1 (by simpa using h))
    refine ⟨.int .u32 (a % b).toNat, ?_, rfl⟩
    have h0' : ¬ (b.toNat : Int) = 0 := by omega
    simp only [binOp, Op.intDiv, h0', if_false, nat_tmod, UInt32.toNat_mod]
    rfl
  · refine ⟨.int .u32 (a &&& b).toNat, ?_, rfl⟩
    have := u32_bits a b (fun _ x y => x &&& y)
    show Result.ok (Value.int .u32 (IntKind.u32.wrap ((BitVec.ofInt 32 (a.toNat : Int) &&& BitVec.ofInt 32 (b.toNat : Int)).toNat : Int))) w = _
    rw [this]
    have hl := (a &&& b).toNat_lt
    have he : (a.toBitVec &&& b.toBitVec).toNat = (a &&& b).toNat := rfl
    rw [he, wrap_u32, Int.emod_eq_of_lt (by omega) (by omega)]
  · refine ⟨.int .u32 (a ||| b).toNat, ?_, rfl⟩
    have := u32_bits a b (fun _ x y => x ||| y)
    show Result.ok (Value.int .u32 (IntKind.u32.wrap ((BitVec.ofInt 32 (a.toNat : Int) ||| BitVec.ofInt 32 (b.toNat : Int)).toNat : Int))) w = _
    rw [this]
    have hl := (a ||| b).toNat_lt
    have he : (a.toBitVec ||| b.toBitVec).toNat = (a ||| b).toNat := rfl
    rw [he, wrap_u32, Int.emod_eq_of_lt (by omega) (by omega)]
  · refine ⟨.int .u32 (a ^^^ b).toNat, ?_, rfl⟩
    have := u32_bits a b (fun _ x y => x ^^^ y)
    show Result.ok (Value.int .u32 (IntKind.u32.wrap ((BitVec.ofInt 32 (a.toNat : Int) ^^^ BitVec.ofInt 32 (b.toNat : Int)).toNat : Int))) w = _
    rw [this]
    have hl := (a ^^^ b).toNat_lt
    have he : (a.toBitVec ^^^ b.toBitVec).toNat = (a ^^^ b).toNat := rfl
    rw [he, wrap_u32, Int.emod_eq_of_lt (by omega) (by omega)]
  · refine ⟨.bool (a == b), ?_, rfl⟩
    have : ((a.toNat : Int) == b.toNat) = (a == b) := by
      rw [Bool.eq_iff_iff]; simp [← UInt32.toNat_inj, ← Int.natCast_inj]
    simp only [binOp, Op.intCmp, this]; rfl
  · refine ⟨.bool (a != b), ?_, rfl⟩
    have : ((a.toNat : Int) != b.toNat) = (a != b) := by
      rw [Bool.eq_iff_iff]; simp [← UInt32.toNat_inj, ← Int.natCast_inj]
    simp only [binOp, Op.intCmp, this]; rfl
  · refine ⟨.bool (decide (a < b)), ?_, rfl⟩
    have : decide ((a.toNat : Int) < b.toNat) = decide (a < b) := by
      rw [Bool.eq_iff_iff]; simp [UInt32.lt_iff_toNat_lt]
    simp only [binOp, Op.intCmp, this]; rfl
  · refine ⟨.bool (decide (a ≤ b)), ?_, rfl⟩
    have : decide ((a.toNat : Int) ≤ b.toNat) = decide (a ≤ b) := by
      rw [Bool.eq_iff_iff]; simp [UInt32.le_iff_toNat_le]
    simp only [binOp, Op.intCmp, this]; rfl
  · refine ⟨.bool (decide (b < a)), ?_, rfl⟩
    have : decide ((a.toNat : Int) > b.toNat) = decide (b < a) := by
      rw [Bool.eq_iff_iff]; simp [UInt32.lt_iff_toNat_lt]
    simp only [binOp, Op.intCmp, this]; rfl
  · refine ⟨.bool (decide (b ≤ a)), ?_, rfl⟩
    have : decide ((a.toNat : Int) ≥ b.toNat) = decide (b ≤ a) := by
      rw [Bool.eq_iff_iff]; simp [UInt32.le_iff_toNat_le]
    simp only [binOp, Op.intCmp, this]; rfl

theorem shl_u32 (a : UInt32) (n : Nat) (s : UInt32) (hs : s.toNat = n) (h : n < 32) : IntKind.u32.wrap ((a.toNat : Int) * 2 ^ n) = ((a <<< s).toNat : Int) := by
  rw [UInt32.toNat_shiftLeft, hs, Nat.mod_eq_of_lt h, wrap_u32, Nat.shiftLeft_eq]
  simp

theorem shr_u32 (a : UInt32) (n : Nat) (s : UInt32) (hs : s.toNat = n) (h : n < 32) : Int.fdiv (a.toNat : Int) (2 ^ n) = ((a >>> s).toNat : Int) := by
  rw [UInt32.toNat_shiftRight, hs, Nat.mod_eq_of_lt h, nat_fdiv]

theorem bin_u32i {P : Program} {op : BinOp} {t : TypeId} {a : UInt32} {b : Int} {z : T} {ob : Prop} (h : bin op (.u32 a) (.i b) = some (z, ob)) (ho : ob) (w : World) :
    ∃ r, (binOp op t (.int .u32 a.toNat) (.int .i64 b)).run P w = .ok r w ∧ z.leaf = some r := by
  cases op <;> simp only [bin, Option.some.injEq, Prod.mk.injEq, reduceCtorEq] at h <;> obtain ⟨rfl, rfl⟩ := h
  all_goals
    have hs : (UInt32.ofNat b.toNat).toNat = b.toNat := by rw [UInt32.toNat_ofNat']; apply Nat.mod_eq_of_lt; have := ho.2; omega
    have hm : min b.toNat IntKind.u32.bits = b.toNat := by simp [IntKind.bits]; omega
  · refine ⟨.int .u32 (a <<< UInt32.ofNat b.toNat).toNat, ?_, rfl⟩
    rw [← shl_u32 a b.toNat _ hs (by omega)]
    rw [run_shl (by omega) hm]
  · refine ⟨.int .u32 (a >>> UInt32.ofNat b.toNat).toNat, ?_, rfl⟩
    rw [← shr_u32 a b.toNat _ hs (by omega)]
    rw [run_shr (by omega) hm]

theorem bin_u64 {P : Program} {op : BinOp} {t : TypeId} {a b : UInt64} {z : T} {ob : Prop} (h : bin op (.u64 a) (.u64 b) = some (z, ob)) (ho : ob) (w : World) :
    ∃ r, (binOp op t (.int .u64 a.toNat) (.int .u64 b.toNat)).run P w = .ok r w ∧ z.leaf = some r := by
  have ha := a.toNat_lt
  have hb := b.toNat_lt
  cases op <;> simp only [bin, Option.some.injEq, Prod.mk.injEq, reduceCtorEq] at h <;> obtain ⟨rfl, rfl⟩ := h
  · refine ⟨_, rfl, ?_⟩
    simp only [T.leaf, UInt64.toNat_add, Option.some.injEq, Value.int.injEq, true_and]
    rw [wrap_u64]; omega
  · refine ⟨_, rfl, ?_⟩
    simp only [T.leaf, UInt64.toNat_sub, Option.some.injEq, Value.int.injEq, true_and]
    rw [wrap_u64]; omega
  · refine ⟨_, rfl, ?_⟩
    simp only [T.leaf, UInt64.toNat_mul, Option.some.injEq, Value.int.injEq, true_and]
    rw [wrap_u64, ← Int.natCast_mul]; omega
  · have h0 : b.toNat ≠ 0 := fun h => ho (UInt64.toNat_inj.1 (by simpa using h))
    refine ⟨.int .u64 (a / b).toNat, ?_, rfl⟩
    have hq : a.toNat / b.toNat < 2 ^ 64 := Nat.lt_of_le_of_lt (Nat.div_le_self _ _) ha
    have hw : IntKind.u64.wrap ((a.toNat / b.toNat : Nat) : Int) = ((a.toNat / b.toNat : Nat) : Int) := by
      generalize a.toNat / b.toNat = q at hq
      rw [wrap_u64]; omega
    have h0' : ¬ (b.toNat : Int) = 0 := by omega
    simp only [binOp, Op.intDiv, h0', if_false, nat_tdiv, hw, UInt64.toNat_div]
    rfl
  · have h0 : b.toNat ≠ 0 := fun h => ho (UInt64.toNat_inj.1 (by simpa using h))
    refine ⟨.int .u64 (a % b).toNat, ?_, rfl⟩
    have h0' : ¬ (b.toNat : Int) = 0 := by omega
    simp only [binOp, Op.intDiv, h0', if_false, nat_tmod, UInt64.toNat_mod]
    rfl
  · refine ⟨.int .u64 (a &&& b).toNat, ?_, rfl⟩
    have := u64_bits a b (fun _ x y => x &&& y)
    show Result.ok (Value.int .u64 (IntKind.u64.wrap ((BitVec.ofInt 64 (a.toNat : Int) &&& BitVec.ofInt 64 (b.toNat : Int)).toNat : Int))) w = _
    rw [this]
    have hl := (a &&& b).toNat_lt
    have he : (a.toBitVec &&& b.toBitVec).toNat = (a &&& b).toNat := rfl
    rw [he, wrap_u64, Int.emod_eq_of_lt (by omega) (by omega)]
  · refine ⟨.int .u64 (a ||| b).toNat, ?_, rfl⟩
    have := u64_bits a b (fun _ x y => x ||| y)
    show Result.ok (Value.int .u64 (IntKind.u64.wrap ((BitVec.ofInt 64 (a.toNat : Int) ||| BitVec.ofInt 64 (b.toNat : Int)).toNat : Int))) w = _
    rw [this]
    have hl := (a ||| b).toNat_lt
    have he : (a.toBitVec ||| b.toBitVec).toNat = (a ||| b).toNat := rfl
    rw [he, wrap_u64, Int.emod_eq_of_lt (by omega) (by omega)]
  · refine ⟨.int .u64 (a ^^^ b).toNat, ?_, rfl⟩
    have := u64_bits a b (fun _ x y => x ^^^ y)
    show Result.ok (Value.int .u64 (IntKind.u64.wrap ((BitVec.ofInt 64 (a.toNat : Int) ^^^ BitVec.ofInt 64 (b.toNat : Int)).toNat : Int))) w = _
    rw [this]
    have hl := (a ^^^ b).toNat_lt
    have he : (a.toBitVec ^^^ b.toBitVec).toNat = (a ^^^ b).toNat := rfl
    rw [he, wrap_u64, Int.emod_eq_of_lt (by omega) (by omega)]
  · refine ⟨.bool (a == b), ?_, rfl⟩
    have : ((a.toNat : Int) == b.toNat) = (a == b) := by
      rw [Bool.eq_iff_iff]; simp [← UInt64.toNat_inj, ← Int.natCast_inj]
    simp only [binOp, Op.intCmp, this]; rfl
  · refine ⟨.bool (a != b), ?_, rfl⟩
    have : ((a.toNat : Int) != b.toNat) = (a != b) := by
      rw [Bool.eq_iff_iff]; simp [← UInt64.toNat_inj, ← Int.natCast_inj]
    simp only [binOp, Op.intCmp, this]; rfl
  · refine ⟨.bool (decide (a < b)), ?_, rfl⟩
    have : decide ((a.toNat : Int) < b.toNat) = decide (a < b) := by
      rw [Bool.eq_iff_iff]; simp [UInt64.lt_iff_toNat_lt]
    simp only [binOp, Op.intCmp, this]; rfl
  · refine ⟨.bool (decide (a ≤ b)), ?_, rfl⟩
    have : decide ((a.toNat : Int) ≤ b.toNat) = decide (a ≤ b) := by
      rw [Bool.eq_iff_iff]; simp [UInt64.le_iff_toNat_le]
    simp only [binOp, Op.intCmp, this]; rfl
  · refine ⟨.bool (decide (b < a)), ?_, rfl⟩
    have : decide ((a.toNat : Int) > b.toNat) = decide (b < a) := by
      rw [Bool.eq_iff_iff]; simp [UInt64.lt_iff_toNat_lt]
    simp only [binOp, Op.intCmp, this]; rfl
  · refine ⟨.bool (decide (b ≤ a)), ?_, rfl⟩
    have : decide ((a.toNat : Int) ≥ b.toNat) = decide (b ≤ a) := by
      rw [Bool.eq_iff_iff]; simp [UInt64.le_iff_toNat_le]
    simp only [binOp, Op.intCmp, this]; rfl

theorem shl_u64 (a : UInt64) (n : Nat) (s : UInt64) (hs : s.toNat = n) (h : n < 64) : IntKind.u64.wrap ((a.toNat : Int) * 2 ^ n) = ((a <<< s).toNat : Int) := by
  rw [UInt64.toNat_shiftLeft, hs, Nat.mod_eq_of_lt h, wrap_u64, Nat.shiftLeft_eq]
  simp

theorem shr_u64 (a : UInt64) (n : Nat) (s : UInt64) (hs : s.toNat = n) (h : n < 64) : Int.fdiv (a.toNat : Int) (2 ^ n) = ((a >>> s).toNat : Int) := by
  rw [UInt64.toNat_shiftRight, hs, Nat.mod_eq_of_lt h, nat_fdiv]

theorem bin_u64i {P : Program} {op : BinOp} {t : TypeId} {a : UInt64} {b : Int} {z : T} {ob : Prop} (h : bin op (.u64 a) (.i b) = some (z, ob)) (ho : ob) (w : World) :
    ∃ r, (binOp op t (.int .u64 a.toNat) (.int .i64 b)).run P w = .ok r w ∧ z.leaf = some r := by
  cases op <;> simp only [bin, Option.some.injEq, Prod.mk.injEq, reduceCtorEq] at h <;> obtain ⟨rfl, rfl⟩ := h
  all_goals
    have hs : (UInt64.ofNat b.toNat).toNat = b.toNat := by rw [UInt64.toNat_ofNat']; apply Nat.mod_eq_of_lt; have := ho.2; omega
    have hm : min b.toNat IntKind.u64.bits = b.toNat := by simp [IntKind.bits]; omega
  · refine ⟨.int .u64 (a <<< UInt64.ofNat b.toNat).toNat, ?_, rfl⟩
    rw [← shl_u64 a b.toNat _ hs (by omega)]
    rw [run_shl (by omega) hm]
  · refine ⟨.int .u64 (a >>> UInt64.ofNat b.toNat).toNat, ?_, rfl⟩
    rw [← shr_u64 a b.toNat _ hs (by omega)]
    rw [run_shr (by omega) hm]

theorem bin_u32u {P : Program} {op : BinOp} {t : TypeId} {a : UInt32} {b : UInt64} {z : T} {ob : Prop} (h : bin op (.u32 a) (.u64 b) = some (z, ob)) (ho : ob) (w : World) :
    ∃ r, (binOp op t (.int .u32 a.toNat) (.int .u64 b.toNat)).run P w = .ok r w ∧ z.leaf = some r := by
  cases op <;> simp only [bin, Option.some.injEq, Prod.mk.injEq, reduceCtorEq] at h <;> obtain ⟨rfl, rfl⟩ := h
  all_goals
    have hs : b.toUInt32.toNat = b.toNat := by rw [UInt64.toNat_toUInt32]; apply Nat.mod_eq_of_lt; omega
    have hm : min ((b.toNat : Int)).toNat IntKind.u32.bits = b.toNat := by simp [IntKind.bits]; omega
  · refine ⟨.int .u32 (a <<< b.toUInt32).toNat, ?_, rfl⟩
    rw [← shl_u32 a b.toNat _ hs ho]
    rw [run_shl (by omega) hm]
  · refine ⟨.int .u32 (a >>> b.toUInt32).toNat, ?_, rfl⟩
    rw [← shr_u32 a b.toNat _ hs ho]
    rw [run_shr (by omega) hm]

end Go.AL

/- A row that grows: what led to it before is forgotten. No condition. -/
namespace Go.AL
open Go

mutual
def T.kill (id : Nat) : T → T
  | .agg fs => .agg (T.kills id fs)
  | .ifc t x => .ifc t (T.kill id x)
  | .clo f caps => .clo f (T.kills id caps)
  | .tup xs => .tup (T.kills id xs)
  | .ref j p => if Nat.beq j id then .junk else .ref j p
  | .row j p o r => if Nat.beq j id then .junk else .row j p o r
  | .i n => .i n | .b c => .b c | .u8 x => .u8 x | .u32 x => .u32 x | .u64 x => .u64 x | .s l => .s l | .v x => .v x
  | .ba n l => .ba n l | .arr n e xs => .arr n e xs | .sb l => .sb l | .sl e xs => .sl e xs | .pt x => .pt x
  | .junk => .junk | .ow l => .ow l | .os e xs => .os e xs
def T.kills (id : Nat) : List T → List T
  | [] => []
  | x :: xs => T.kill id x :: T.kills id xs
end

mutual
theorem kill_sk (id : Nat) : ∀ x : T, (x.kill id).sk = x.sk
  | .agg fs => by simp only [T.kill, T.sk, kills_sk id fs]
  | .ref j p => by simp only [T.kill]; split <;> rfl
  | .row j p o r => by simp only [T.kill]; split <;> rfl
  | .ifc _ _ | .clo _ _ | .tup _ | .i _ | .b _ | .u8 _ | .u32 _ | .u64 _ | .s _ | .v _ | .ba _ _ | .arr _ _ _ | .sb _ | .sl _ _ | .pt _ | .junk | .ow _ | .os _ _ => by simp only [T.kill, T.sk]
theorem kills_sk (id : Nat) : ∀ xs : List T, T.sks (T.kills id xs) = T.sks xs
  | [] => rfl
  | x :: xs => by simp only [T.kills, T.sks, kill_sk id x, kills_sk id xs]
end

theorem kill_agg (id : Nat) (x : T) : (x.kill id).isAgg = x.isAgg := by
  cases x
  case ref j p => simp only [T.kill]; by_cases hc : Nat.beq j id = true <;> simp [hc, T.isAgg]
  case row j p o r => simp only [T.kill]; by_cases hc : Nat.beq j id = true <;> simp [hc, T.isAgg]
  all_goals simp only [T.kill, T.isAgg]

/-- Two meanings that part at one object alone. -/
def Off (id : Nat) (X X' : Ext) : Prop := (∀ j p a, j ≠ id → X.rf j p a → X'.rf j p a) ∧ ∀ j p o r v, j ≠ id → X.rw j p o r v → X'.rw j p o r v

section
variable {w w' : World} {N N' : Nat → Prop} {X X' : Ext} {id : Nat}
mutual
theorem RC.kill (h : Stay w w' N N') (hX : Off id X X') : ∀ (x : T) (cs : List Value), RC w N X x cs → RC w' N' X' (x.kill id) cs
  | .i _, _, k | .b _, _, k | .u8 _, _, k | .u32 _, _, k | .u64 _, _, k | .s _, _, k | .v _, _, k | .ba _ _, _, k | .junk, _, k => by simpa only [T.kill, RC] using k
  | .sb l, cs, k => by
    simp only [T.kill, RC] at k ⊢
    obtain ⟨A, c, h1, h2, h3⟩ := k
    exact ⟨A, c, h1, h2, h3.mono h⟩
  | .arr n e xs, cs, k => by
    simp only [T.kill, RC] at k ⊢
    exact ⟨k.1, RU.mono h xs cs k.2⟩
  | .sl e xs, cs, k => by
    simp only [T.kill, RC] at k ⊢
    obtain ⟨A, c, h1, h2, ds, h3, h4⟩ := k
    exact ⟨A, c, h1, h2, ds, RU.mono h xs ds h3, h4.mono h⟩
  | .pt x, cs, k => by
    simp only [T.kill, RC] at k ⊢
    obtain ⟨a, ds, h1, h0, h2, h3⟩ := k
    exact ⟨a, ds, h1, h0, RC.mono h (Ext.Le.refl _) x ds h2, h3.mono h⟩
  | .agg fs, cs, k => by
    simp only [T.kill, RC] at k ⊢
    exact RL.kill h hX fs cs k
  | .ifc t x, cs, k => by
    simp only [T.kill, RC] at k ⊢
    obtain ⟨y, h1, h2⟩ := k
    refine ⟨y, h1, ?_⟩
    rcases h2 with ⟨h2, ds, h3, h4⟩ | ⟨h2, h4⟩
    · exact .inl ⟨by rw [kill_agg]; exact h2, ds, h3, RC.kill h hX x ds h4⟩
    · exact .inr ⟨by rw [kill_agg]; exact h2, RC.kill h hX x _ h4⟩
  | .clo f caps, cs, k => by
    simp only [T.kill, RC] at k ⊢
    obtain ⟨vs, h1, h2, h3⟩ := k
    refine ⟨vs, h1, RL.kill h hX caps vs h2, ?_⟩
    rw [h3, ← sks_length caps, ← kills_sk id caps, sks_length]
  | .ref j p, cs, k => by
    simp only [RC] at k
    obtain ⟨a, h1, h2⟩ := k
    simp only [T.kill]
    split
    · simp only [RC]; exact ⟨_, h1, rfl⟩
    · rename_i hj
      simp only [RC]
      exact ⟨a, h1, hX.1 j p a (fun e => hj (by rw [e]; simp)) h2⟩
  | .row j p o r, cs, k => by
    simp only [RC] at k
    obtain ⟨a, h1, h3, h2⟩ := k
    simp only [T.kill]
    split
    · simp only [RC]; exact ⟨_, h1, h3⟩
    · rename_i hj
      simp only [RC]
      exact ⟨a, h1, h3, hX.2 j p o r a (fun e => hj (by rw [e]; simp)) h2⟩
  | .tup _, _, k | .ow _, _, k | .os _ _, _, k => by simp only [RC] at k
theorem RL.kill (h : Stay w w' N N') (hX : Off id X X') : ∀ (xs : List T) (cs : List Value), RL w N X xs cs → RL w' N' X' (T.kills id xs) cs
  | [], cs, k => by simpa only [T.kills, RL] using k
  | x :: xs, cs, k => by
    simp only [T.kills, RL] at k ⊢
    obtain ⟨c1, c2, h1, h2, h3, h4⟩ := k
    exact ⟨c1, c2, h1, by rw [kill_sk]; exact h2, RC.kill h hX x c1 h3, RL.kill h hX xs c2 h4⟩
end

theorem RV.kill (h : Stay w w' N N') (hX : Off id X X') {x : T} {v : Value} (k : RV w N X x v) : RV w' N' X' (x.kill id) v := by
  rcases k with ⟨h1, ds, h2, h3⟩ | ⟨h1, h2⟩
  · exact .inl ⟨by rw [kill_agg]; exact h1, ds, h2, RC.kill h hX x ds h3⟩
  · exact .inr ⟨by rw [kill_agg]; exact h1, RC.kill h hX x _ h2⟩

theorem kills_get (id : Nat) : ∀ (xs : List T) (k : Nat) (y : T), (T.kills id xs)[k]? = some y → ∃ x, xs[k]? = some x ∧ y = x.kill id
  | [], _, _, h => by simp [T.kills] at h
  | x :: xs, 0, y, h => by simp [T.kills] at h; exact ⟨x, by simp, h.symm⟩
  | x :: xs, k + 1, y, h => by simp [T.kills] at h; simpa using kills_get id xs k y h

theorem kills_length (id : Nat) : ∀ (xs : List T), (T.kills id xs).length = xs.length
  | [] => rfl
  | _ :: xs => by simp [T.kills, kills_length id xs]

theorem RT.kill (h : Stay w w' N N') (hX : Off id X X') {x : T} {v : Value} (k : RT w N X x v) : RT w' N' X' (x.kill id) v := by
  cases x
  case junk => simp only [T.kill, RT]
  case tup xs =>
    obtain ⟨vs, h1, h2, h3⟩ := k
    simp only [T.kill]
    refine ⟨vs, h1, by rw [h2, kills_length], fun j y hy => ?_⟩
    obtain ⟨x, hx, rfl⟩ := kills_get id xs j y hy
    obtain ⟨u, hu, hr⟩ := h3 j x hx
    exact ⟨u, hu, hr.kill h hX⟩
  all_goals exact RT.of_RV (RV.kill h hX k)
end

def Cont.kill (id : Nat) : Cont → Cont
  | .var x => .var (x.kill id)
  | c => c

def killM (id : Nat) : List (Option Obj) → List (Option Obj)
  | [] => []
  | some o :: m => some ⟨o.c.kill id, o.fz⟩ :: killM id m
  | none :: m => none :: killM id m

theorem killM_get (id : Nat) : ∀ (m : List (Option Obj)) (k : Nat), (killM id m)[k]? = (m[k]?).map (fun o => o.map fun o => ⟨o.c.kill id, o.fz⟩)
  | [], _ => by simp [killM]
  | some o :: m, 0 => by simp [killM]
  | none :: m, 0 => by simp [killM]
  | some o :: m, k + 1 => by simp [killM, killM_get id m k]
  | none :: m, k + 1 => by simp [killM, killM_get id m k]

theorem Cont.kill_off (id : Nat) (c : Cont) (p : List Nat) : (c.kill id).off p = c.off p := by cases c <;> simp [Cont.kill, Cont.off, kill_sk]
theorem Cont.kill_len (id : Nat) (c : Cont) (p : List Nat) : (c.kill id).len p = c.len p := by cases c <;> simp [Cont.kill, Cont.len, kill_sk]

theorem CC.kill {w w' : World} {N N' : Nat → Prop} {X X' : Ext} {id : Nat} (h : Stay w w' N N') (hX : Off id X X') (c : Cont) (cs : List Value) (k : CC w N X c cs) : CC w' N' X' (c.kill id) cs := by
  cases c with
  | var x => exact RC.kill h hX x cs k
  | rb l => exact k
  | rs e xs =>
    obtain ⟨c, r, h1, h2⟩ := k
    exact ⟨c, r, h1, RU.mono h xs c h2⟩

/-- The state without what led to an object, which is made anew. -/
def St.renew (st : St) (id : Nat) (c : Cont) : St := ⟨T.kills id st.t, (killM id st.m).set id (some ⟨c, false⟩)⟩

theorem Sim.renew {C : Ctx} {β : Bel} {st : St} {a : Act} {w w' : World} (h : Sim C β st a w) {id : Nat} {o : Obj} (ho : st.m[id]? = some (some o)) (hf : o.fz = false) (hge : C.nio ≤ id)
    (c' : Cont) (bk : Option (Nat × Nat)) (hk : Keeps (fun x => ∃ k, β id = some (x, k)) w w')
    (hb : ∀ b k, bk = some (b, k) → (β id = some (b, k) ∨ w.heap.size ≤ b) ∧ ∃ cs e, w'.heap[b]? = some (.cells cs e (0, 0)) ∧ cs.size = k ∧ ((∃ l, c' = .rb l) ∨ ∃ e xs, c' = .rs e xs) ∧ CC w (Mut C.N0 st.m β) (ext st.m β) c' cs.toList)
    (h0 : bk = none → c' = .rb [] ∨ ∃ e, c' = .rs e []) :
    Sim C (β.with id bk) (st.renew id c') a w' ∧ Stay w w' (Mut C.N0 st.m β) (Mut C.N0 (st.renew id c').m (β.with id bk)) ∧ Off id (ext st.m β) (ext (st.renew id c').m (β.with id bk)) := by
  have hlt : id < st.m.length := (List.getElem?_eq_some_iff.1 ho).1
  have hklen : (killM id st.m).length = st.m.length := by
    have : ∀ m : List (Option Obj), (killM id m).length = m.length := by
      intro m
      induction m with
      | nil => rfl
      | cons x m ih => cases x <;> simp [killM, ih]
    exact this _
  have hself : (st.renew id c').m[id]? = some (some ⟨c', false⟩) := by simp [St.renew, hklen, hlt]
  have hget : ∀ id' o', id' ≠ id → st.m[id']? = some (some o') → (st.renew id c').m[id']? = some (some ⟨o'.c.kill id, o'.fz⟩) := by
    intro id' o' hne e
    simp only [St.renew]
    rw [List.getElem?_set_ne (fun e => hne e.symm), killM_get, e]
    rfl
  have hinv : ∀ id' o', (st.renew id c').m[id']? = some (some o') → (id' = id ∧ o' = ⟨c', false⟩) ∨ (id' ≠ id ∧ ∃ o'', st.m[id']? = some (some o'') ∧ o' = ⟨o''.c.kill id, o''.fz⟩) := by
    intro id' o' e
    by_cases hne : id' = id
    · subst hne
      rw [hself] at e
      simp only [Option.some.injEq] at e
      exact .inl ⟨rfl, e.symm⟩
    · refine .inr ⟨hne, ?_⟩
      simp only [St.renew] at e
      rw [List.getElem?_set_ne (fun e => hne e.symm), killM_get] at e
      cases hm : st.m[id']? with
      | none => simp [hm] at e
      | some oo =>
        cases oo with
        | none => simp [hm] at e
        | some o'' =>
          simp [hm] at e
          exact ⟨o'', rfl, e.symm⟩
  have hS : Stay w w' (Mut C.N0 st.m β) (Mut C.N0 (st.renew id c').m (β.with id bk)) := by
    intro b hm hltb
    refine ⟨?_, hk.block b hltb ?_⟩
    · rintro (hN | ⟨id', o', k, e1, e2, e3⟩)
      · exact hm (.inl hN)
      · rcases hinv id' o' e1 with ⟨rfl, rfl⟩ | ⟨hne, o'', e1', rfl⟩
        · simp only [Bel.with, if_true] at e3
          rcases (hb b k e3).1 with hq | hq
          · exact hm (.inr ⟨id', o, k, ho, hf, hq⟩)
          · omega
        · simp only [Bel.with, if_neg hne] at e3
          exact hm (.inr ⟨id', o'', k, e1', e2, e3⟩)
    · rintro ⟨k, hq⟩
      exact hm (.inr ⟨id, o, k, ho, hf, hq⟩)
  have hX : Off id (ext st.m β) (ext (st.renew id c').m (β.with id bk)) := by
    refine ⟨fun j p ad hne hh => ?_, fun j p off r v hne hh => ?_⟩
    · obtain ⟨o', b, k, e1, e2, e3⟩ := hh
      exact ⟨_, b, k, hget j o' hne e1, by simp only [Bel.with, if_neg hne]; exact e2, by rw [Cont.kill_off]; exact e3⟩
    · obtain ⟨o', e1, n, sz, q1, q2, q3⟩ := hh
      refine ⟨_, hget j o' hne e1, n, sz, by rw [Cont.kill_len]; exact q1, q2, ?_⟩
      simp only [Bel.with, if_neg hne, Cont.kill_off]
      exact q3
  refine ⟨⟨by simp [St.renew, kills_length, h.sz], h.df, ?_, ?_, ?_, ?_, ?_, ?_, h.fn, h.nl, h.kp.trans hk (fun x f => f) ?_, fun i hi => by
    have hne : i ≠ id := by omega
    simp only [Bel.with, if_neg hne]
    exact h.iob i hi⟩, hS, hX⟩
  · intro k y hy
    obtain ⟨x, hx, rfl⟩ := kills_get id st.t k y hy
    exact (h.tm k x hx).kill hS hX
  · intro id' o' e1
    rcases hinv id' o' e1 with ⟨rfl, rfl⟩ | ⟨hne, o'', e1', rfl⟩
    · simp only [Bel.with, if_true]
      cases bk with
      | none => exact h0 rfl
      | some bk =>
        obtain ⟨b, k⟩ := bk
        obtain ⟨_, cs, e, q1, q2, q3, q4⟩ := hb b k rfl
        refine ⟨cs, e, (0, 0), q1, q2, fun _ => rfl, ?_⟩
        rcases q3 with ⟨l, rfl⟩ | ⟨e', xs, rfl⟩
        · exact q4
        · obtain ⟨d, r, g1, g2⟩ := q4
          exact ⟨d, r, g1, RU.mono hS xs d g2⟩
    · have := h.me id' o'' e1'
      simp only [Bel.with, if_neg hne]
      revert this
      cases hq : β id' with
      | none =>
        rintro (this | ⟨e, this⟩) <;> simp only [this, Cont.kill]
        · exact .inl trivial
        · exact .inr ⟨e, rfl⟩
      | some bk' =>
        obtain ⟨b, k⟩ := bk'
        rintro ⟨cs, e, fz, q1, q2, q3, q4⟩
        refine ⟨cs, e, fz, (hk.block b (h.live_lt e1' hq) ?_).trans q1, q2, q3, CC.kill hS hX _ _ q4⟩
        rintro ⟨k', hq'⟩
        exact hne (h.inj id' id o'' o b k k' e1' ho hq hq')
  · intro i1 i2 o1 o2 b k1 k2 e1 e2 e3 e4
    rcases hinv i1 o1 e1 with ⟨rfl, rfl⟩ | ⟨n1, o1', e1', rfl⟩ <;> rcases hinv i2 o2 e2 with ⟨rfl, rfl⟩ | ⟨n2, o2', e2', rfl⟩
    · rfl
    · simp only [Bel.with, if_true, if_neg n2] at e3 e4
      rcases (hb b k1 e3).1 with hq | hq
      · exact h.inj i1 i2 o o2' b k1 k2 ho e2' hq e4
      · have := h.live_lt e2' e4
        omega
    · simp only [Bel.with, if_true, if_neg n1] at e3 e4
      rcases (hb b k2 e4).1 with hq | hq
      · exact h.inj i1 i2 o1' o b k1 k2 e1' ho e3 hq
      · have := h.live_lt e1' e3
        omega
    · simp only [Bel.with, if_neg n1, if_neg n2] at e3 e4
      exact h.inj i1 i2 o1' o2' b k1 k2 e1' e2' e3 e4
  · intro id' o' b k e1 e2
    rcases hinv id' o' e1 with ⟨rfl, rfl⟩ | ⟨n1, o1', e1', rfl⟩
    · simp only [Bel.with, if_true] at e2
      rcases (hb b k e2).1 with hq | hq
      · exact h.loc id' o b k ho hq
      · exact .inl ⟨hge, Nat.le_trans h.kp.size hq⟩
    · simp only [Bel.with, if_neg n1] at e2
      exact h.loc id' o1' b k e1' e2
  · intro id' hlt'
    obtain ⟨x, hx⟩ := h.ios id' hlt'
    exact ⟨x.kill id, hget id' _ (by omega) hx⟩
  · intro id' o' b k e1 hz e2
    rcases hinv id' o' e1 with ⟨rfl, rfl⟩ | ⟨n1, o1', e1', rfl⟩
    · cases hz
    · simp only [Bel.with, if_neg n1] at e2
      exact h.fzl id' o1' b k e1' hz e2
  · rintro x hx ⟨k, hq⟩
    rcases h.loc id o x k ho hq with q | q
    · have := q.2; omega
    · exact q.2.2.1

end Go.AL

/- What the call's own memory reads as: data. No condition. -/
namespace Go.AL
open Go

def rowCut {α : Type} (off : Nat) (rest : Option Nat) (l : List α) : List α :=
  match off, rest with
  | 0, none => l
  | 0, some k => l.take k
  | o + 1, none => l.drop (o + 1)
  | o + 1, some k => (l.drop (o + 1)).take k

theorem rowCut_eq {α : Type} (off : Nat) (rest : Option Nat) (l : List α) : rowCut off rest l = (l.drop off).take (rest.getD (l.length - off)) := by
  cases off <;> cases rest <;> simp [rowCut]
  rw [List.take_of_length_le (by simp)]

mutual
def St.view (st : St) (g : Nat → Bool) : Nat → T → Option (T × Prop)
  | 0, _ => none
  | _ + 1, .i n => some (.i n, True)
  | _ + 1, .b c => some (.b c, True)
  | _ + 1, .u8 x => some (.u8 x, True)
  | _ + 1, .u32 x => some (.u32 x, True)
  | _ + 1, .u64 x => some (.u64 x, True)
  | _ + 1, .s l => some (.s l, True)
  | _ + 1, .v x => some (.v x, True)
  | _ + 1, .ba n l => some (.ba n l, True)
  | _ + 1, .arr n e xs => some (.arr n e xs, True)
  | _ + 1, .sb l => some (.sb l, True)
  | _ + 1, .sl e xs => some (.sl e xs, True)
  | _ + 1, .pt x => some (.pt x, True)
  | _ + 1, .junk => some (.junk, True)
  | k + 1, .agg fs => match St.views st g k fs with
    | some (ys, ob) => some (.agg ys, ob)
    | none => none
  | k + 1, .ifc t x => match St.view st g k x with
    | some (y, ob) => some (.ifc t y, ob)
    | none => none
  | k + 1, .clo f caps => match St.views st g k caps with
    | some (ys, ob) => some (.clo f ys, ob)
    | none => none
  | k + 1, .ref id p => match st.m[id]? with
    | some (some o) => if g id then none else match o.c.nav p [] with
      | some n => match St.view st g k n.y with
        | some (y, ob) => if Nat.ble 1 n.y.sk.size then some (.pt y, n.ob ∧ ob) else none
        | none => none
      | none => none
    | _ => none
  | _ + 1, .row id p off rest => match st.m[id]? with
    | some (some o) => if g id then none else match p, o.c with
      | [], .rb l => some (.sb (rowCut off rest l), True)
      | [], .rs e xs => some (.sl e (rowCut off rest xs), True)
      | p1, c1 => match c1.nav p1 [] with
        | some n => match n.y with
          | .ba _ l => some (.sb (rowCut off rest l), n.ob)
          | .arr _ e xs => some (.sl e (rowCut off rest xs), n.ob)
          | _ => none
        | none => none
    | _ => none
  | _ + 1, _ => none
def St.views (st : St) (g : Nat → Bool) : Nat → List T → Option (List T × Prop)
  | 0, _ => none
  | _ + 1, [] => some ([], True)
  | k + 1, x :: xs => match St.view st g k x, St.views st g k xs with
    | some (y, o1), some (ys, o2) => some (y :: ys, o1 ∧ o2)
    | _, _ => none
end

theorem rowCut_length {α : Type} (off : Nat) (rest : Option Nat) (l : List α) (h : off + rest.getD (l.length - off) ≤ l.length) : (rowCut off rest l).length = rest.getD (l.length - off) := by
  rw [rowCut_eq]; simp; omega

theorem RU.rowCut {w : World} {N : Nat → Prop} {e : Sk} {xs : List T} {cs : List Value} (h : RU w N e xs cs) (off : Nat) (rest : Option Nat) :
    RU w N e (rowCut off rest xs) ((cs.drop (off * e.size)).take (rest.getD (xs.length - off) * e.size)) := by
  rw [rowCut_eq]
  exact RU.take _ _ _ (RU.drop _ _ _ h)

/-- A part of a block's cells, as they lie. -/
theorem lies_of_block {w : World} {N : Nat → Prop} {b : Nat} {cs : Array Value} {e : TypeId} {fz : Nat × Nat} (hN : ¬ N b) (hb : w.heap[b]? = some (.cells cs e fz)) {pre ds post : List Value} (h : cs.toList = pre ++ ds ++ post) :
    Lies w N (some ⟨b, pre.length, none⟩) ds := by
  refine .inr ⟨b, pre.length, rfl, hN, cs, e, fz, hb, ?_, fun j hj => ?_⟩
  · have := congrArg List.length h
    simp at this
    omega
  · have : cs[pre.length + j]? = cs.toList[pre.length + j]? := by simp
    rw [this, h, List.append_assoc, List.getElem?_append_right (by omega), List.getElem?_append_left (by omega)]
    congr 1
    omega

theorem seg_split {α : Type} (l : List α) (a n : Nat) (_h : a + n ≤ l.length) : l = l.take a ++ (l.drop a).take n ++ l.drop (a + n) := by
  rw [List.append_assoc, ← List.drop_drop, List.take_append_drop, List.take_append_drop]

section
variable {w : World} {N' : Nat → Prop} {C : Ctx} {β : Bel} {st : St} {a : Act}

/-- A row that is a slice of a block's elements. -/
theorem row_view {β : Bel} {id : Nat} {o : Obj} (hN' : ∀ b k, β id = some (b, k) → ¬ N' b) {p : List Nat} {off : Nat} {rest : Option Nat} {v : Value}
    (hr : RowAt o.c (β id) p off rest v) {n sz : Nat} (hn : o.c.len p = some (n, sz)) (ds : List Value) (hds : ds.length = n * sz)
    (hcs : ∀ b k, β id = some (b, k) → ∃ cs e fz pre post, w.heap[b]? = some (.cells cs e fz) ∧ cs.toList = pre ++ ds ++ post ∧ pre.length = o.c.off p) :
    ∃ A c, v = .slice A (rest.getD (n - off)) c ∧ rest.getD (n - off) ≤ c ∧ off + rest.getD (n - off) ≤ n ∧ Lies w N' A ((ds.drop (off * sz)).take (rest.getD (n - off) * sz)) := by
  obtain ⟨n', sz', e1, e2, e3⟩ := hr
  rw [hn] at e1; simp only [Option.some.injEq, Prod.mk.injEq] at e1
  obtain ⟨rfl, rfl⟩ := e1
  cases hβ : β id with
  | none =>
    rw [hβ] at e3
    obtain ⟨rfl, g1, rfl, rfl⟩ := e3
    refine ⟨none, 0, by rw [g1], by omega, e2, .inl ?_⟩
    rw [g1]; simp
  | some bk =>
    obtain ⟨b, k⟩ := bk
    rw [hβ] at e3
    obtain ⟨A, cap, rfl, g1, g2, g3⟩ := e3
    refine ⟨some A, cap, rfl, g1, e2, ?_⟩
    by_cases h0 : rest.getD (n - off) = 0
    · left; rw [h0]; simp
    · have hcap : 0 < cap := by omega
      rw [g3 hcap]
      obtain ⟨cs, e, fz, pre, post, q1, q2, q3⟩ := hcs b k hβ
      have hle : off * sz + rest.getD (n - off) * sz ≤ ds.length := by
        rw [hds, ← Nat.add_mul]; exact Nat.mul_le_mul_right _ e2
      have hs := seg_split ds (off * sz) (rest.getD (n - off) * sz) hle
      have := lies_of_block (N := N') (hN' b k hβ) q1 (pre := pre ++ ds.take (off * sz)) (ds := (ds.drop (off * sz)).take (rest.getD (n - off) * sz)) (post := ds.drop (off * sz + rest.getD (n - off) * sz) ++ post) (by
        rw [q2]
        conv => lhs; rw [hs]
        simp)
      have hl : (pre ++ ds.take (off * sz)).length = o.c.off p + off * sz := by simp [q3]; omega
      rwa [hl] at this

theorem u8_cut (l : List UInt8) (off : Nat) (rest : Option Nat) : (rowCut off rest l).map u8v = (((l.map u8v).drop (off * 1)).take (rest.getD (l.length - off) * 1)) := by
  rw [rowCut_eq, List.map_take, List.map_drop, Nat.mul_one, Nat.mul_one]

mutual
theorem view_ok (hN : ∀ b, ¬ Mut C.N0 st.m β b → ¬ N' b) {g : Nat → Bool} (hN' : ∀ id o b k, st.m[id]? = some (some o) → β id = some (b, k) → g id = false → ¬ N' b) (h : Sim C β st a w) :
    ∀ (f : Nat) (x y : T) (ob : Prop) (cs : List Value), st.view g f x = some (y, ob) → ob → RC w (Mut C.N0 st.m β) (ext st.m β) x cs → RC w N' Ext.none y cs ∧ y.isAgg = x.isAgg ∧ y.sk = x.sk
  | 0, _, _, _, _, hv, _, _ => by simp [St.view] at hv
  | _ + 1, .i _, y, ob, cs, hv, _, k | _ + 1, .b _, y, ob, cs, hv, _, k | _ + 1, .u8 _, y, ob, cs, hv, _, k | _ + 1, .u32 _, y, ob, cs, hv, _, k | _ + 1, .u64 _, y, ob, cs, hv, _, k
  | _ + 1, .s _, y, ob, cs, hv, _, k | _ + 1, .v _, y, ob, cs, hv, _, k | _ + 1, .ba _ _, y, ob, cs, hv, _, k | _ + 1, .arr _ _ _, y, ob, cs, hv, _, k | _ + 1, .sb _, y, ob, cs, hv, _, k
  | _ + 1, .sl _ _, y, ob, cs, hv, _, k | _ + 1, .pt _, y, ob, cs, hv, _, k | _ + 1, .junk, y, ob, cs, hv, _, k => by
    simp only [St.view, Option.some.injEq, Prod.mk.injEq] at hv
    obtain ⟨rfl, rfl⟩ := hv
    exact ⟨RC.data _ _ rfl (RC.mono (fun b hb _ => ⟨hN b hb, rfl⟩) (Ext.Le.refl _) _ _ k), rfl, rfl⟩
  | f + 1, .agg fs, y, ob, cs, hv, ho, k => by
    simp only [St.view] at hv
    split at hv
    · rename_i ys ob' hvs
      simp only [Option.some.injEq, Prod.mk.injEq] at hv
      obtain ⟨rfl, rfl⟩ := hv
      simp only [RC] at k ⊢
      obtain ⟨r1, r2⟩ := views_ok hN hN' h f fs ys _ cs hvs ho k
      exact ⟨r1, rfl, by simp only [T.sk, r2]⟩
    · cases hv
  | f + 1, .ifc t x, y, ob, cs, hv, ho, k => by
    simp only [St.view] at hv
    split at hv
    · rename_i y' ob' hvs
      simp only [Option.some.injEq, Prod.mk.injEq] at hv
      obtain ⟨rfl, rfl⟩ := hv
      simp only [RC] at k ⊢
      obtain ⟨u, h1, h2⟩ := k
      refine ⟨⟨u, h1, ?_⟩, rfl, rfl⟩
      rcases h2 with ⟨h2, ds, h3, h4⟩ | ⟨h2, h4⟩
      · obtain ⟨r1, r2, _⟩ := view_ok hN hN' h f x y' _ ds hvs ho h4
        exact .inl ⟨by rw [r2]; exact h2, ds, h3, r1⟩
      · obtain ⟨r1, r2, _⟩ := view_ok hN hN' h f x y' _ _ hvs ho h4
        exact .inr ⟨by rw [r2]; exact h2, r1⟩
    · cases hv
  | f + 1, .clo g' caps, y, ob, cs, hv, ho, k => by
    simp only [St.view] at hv
    split at hv
    · rename_i ys ob' hvs
      simp only [Option.some.injEq, Prod.mk.injEq] at hv
      obtain ⟨rfl, rfl⟩ := hv
      simp only [RC] at k ⊢
      obtain ⟨vs, h1, h2, h3⟩ := k
      obtain ⟨r1, r2⟩ := views_ok hN hN' h f caps ys _ vs hvs ho h2
      refine ⟨⟨vs, h1, r1, ?_⟩, rfl, rfl⟩
      rw [h3, ← sks_length caps, ← r2, sks_length]
    · cases hv
  | f + 1, .ref id p, y, ob, cs, hv, ho, k => by
    simp only [St.view] at hv
    split at hv
    · rename_i o hm
      split at hv
      · cases hv
      rename_i hg
      have hg : g id = false := by simpa using hg
      split at hv
      · rename_i n hn
        split at hv
        · rename_i y' ob' hvs
          split at hv
          · rename_i hsz
            simp only [Option.some.injEq, Prod.mk.injEq] at hv
            obtain ⟨rfl, rfl⟩ := hv
            simp only [RC] at k
            obtain ⟨ad, rfl, o', b, k', e1, e2, rfl⟩ := k
            rw [hm] at e1; simp only [Option.some.injEq] at e1; subst e1
            have hme := h.me id o hm
            rw [e2] at hme
            obtain ⟨cs, e, fz, q1, q2, q3, q4⟩ := hme
            obtain ⟨pre, d, post, r1, r2, r3, _⟩ := Cont.nav_ok o.c p [] n cs.toList hn q4 ho.1
            obtain ⟨s1, s2, s3⟩ := view_ok hN hN' h f n.y y' _ d hvs ho.2 r3
            refine ⟨?_, rfl, rfl⟩
            simp only [RC]
            refine ⟨_, d, rfl, ?_, s1, ?_⟩
            · intro hd; subst hd
              have := RC.length _ _ r3
              have h2 := Nat.le_of_ble_eq_true hsz
              simp at this; omega
            · have := lies_of_block (N := N') (hN' id o b k' hm e2 hg) q1 r1
              rwa [r2] at this
          · cases hv
        · cases hv
      · cases hv
    · cases hv
  | f + 1, .row id p off rest, y, ob, cs, hv, ho, k => by
    simp only [St.view] at hv
    split at hv
    · rename_i o hm
      split at hv
      · cases hv
      rename_i hg
      have hg : g id = false := by simpa using hg
      simp only [RC] at k
      obtain ⟨v, rfl, hv1, o', e1, hr⟩ := k
      rw [hm] at e1; simp only [Option.some.injEq] at e1; subst e1
      have hme := h.me id o hm
      split at hv
      · rename_i l hc
        simp only [Option.some.injEq, Prod.mk.injEq] at hv
        obtain ⟨rfl, rfl⟩ := hv
        have hn : o.c.len [] = some (l.length, 1) := by rw [hc]; rfl
        obtain ⟨A, c, r1, r2, r3, r4⟩ := row_view (hN' id o · · hm · hg) hr hn (l.map u8v) (by simp) (fun b k hβ => by
          rw [hβ] at hme
          obtain ⟨cs, e, fz, q1, q2, q3, q4⟩ := hme
          rw [hc] at q4
          obtain ⟨r, q4⟩ := q4
          exact ⟨cs, e, fz, [], r, q1, by simpa using q4, by rw [hc]; rfl⟩)
        refine ⟨?_, rfl, rfl⟩
        simp only [RC]
        have hl := rowCut_length off rest l r3
        refine ⟨A, c, by rw [r1, hl], by rw [hl]; exact r2, ?_⟩
        rw [u8_cut]; exact r4
      · rename_i e xs hc
        simp only [Option.some.injEq, Prod.mk.injEq] at hv
        obtain ⟨rfl, rfl⟩ := hv
        have hn : o.c.len [] = some (xs.length, e.size) := by rw [hc]; rfl
        have hu : ∃ ds, RU w (Mut C.N0 st.m β) e xs ds ∧ ∀ b k, β id = some (b, k) → ∃ cs e' fz pre post, w.heap[b]? = some (.cells cs e' fz) ∧ cs.toList = pre ++ ds ++ post ∧ pre.length = o.c.off [] := by
          cases hβ : β id with
          | none =>
            rw [hβ] at hme
            rcases hme with hme | ⟨e', hme⟩
            · rw [hc] at hme; cases hme
            · rw [hc] at hme; cases hme
              exact ⟨[], by simp only [RU], fun b k hq => by cases hq⟩
          | some bk =>
            obtain ⟨b, k⟩ := bk
            rw [hβ] at hme
            obtain ⟨cs, e', fz, q1, q2, q3, q4⟩ := hme
            rw [hc] at q4
            obtain ⟨ds, r, q4, q5⟩ := q4
            refine ⟨ds, q5, fun b' k' hq => ?_⟩
            simp only [Option.some.injEq, Prod.mk.injEq] at hq
            obtain ⟨rfl, rfl⟩ := hq
            exact ⟨cs, e', fz, [], r, q1, by simpa using q4, by rw [hc]; rfl⟩
        obtain ⟨ds, hu, hcs⟩ := hu
        obtain ⟨A, c, r1, r2, r3, r4⟩ := row_view (hN' id o · · hm · hg) hr hn ds (RU.length _ _ hu) hcs
        refine ⟨?_, rfl, rfl⟩
        simp only [RC]
        have hl := rowCut_length off rest xs r3
        exact ⟨A, c, by rw [r1, hl], by rw [hl]; exact r2, _, RU.mono (fun b hb _ => ⟨hN b hb, rfl⟩) _ _ (hu.rowCut off rest), r4⟩
      · rename_i p _ _ h1 h2
        split at hv
        · rename_i n hnv
          have hrl := hr
          obtain ⟨n', sz', hlen, _, _⟩ := hr
          cases hc : o.c with
          | rb l =>
            cases p with
            | nil => exact (h1 l rfl hc).elim
            | cons q p => rw [hc] at hlen; simp [Cont.len] at hlen
          | rs e xs =>
            cases p with
            | nil => exact (h2 e xs rfl hc).elim
            | cons q p => rw [hc] at hlen; simp [Cont.len] at hlen
          | var x =>
            cases hβ : β id with
            | none =>
              rw [hβ] at hme
              rcases hme with hme | ⟨e', hme⟩ <;> rw [hc] at hme <;> cases hme
            | some bk =>
              obtain ⟨b, k⟩ := bk
              rw [hβ] at hme
              obtain ⟨cs, e, fz, q1, q2, q3, q4⟩ := hme
              rw [hc] at q4 hnv
              simp only [Cont.nav] at hnv
              split at hnv
              · rename_i m hnm
                simp only [Option.some.injEq] at hnv
                subst hnv
                have hob : m.ob := by
                  split at hv
                  · simp only [Option.some.injEq, Prod.mk.injEq] at hv; rw [hv.2]; exact ho
                  · simp only [Option.some.injEq, Prod.mk.injEq] at hv; rw [hv.2]; exact ho
                  · cases hv
                obtain ⟨s1, pre, d, post, r1, r2, r3, _⟩ := T.nav_ok _ x [] m cs.toList hnm q4 hob
                have hcs : ∀ b' k', β id = some (b', k') → ∃ cs e fz pre post, w.heap[b']? = some (.cells cs e fz) ∧ cs.toList = pre ++ d ++ post ∧ pre.length = o.c.off p := fun b' k' hq => by
                  rw [hβ] at hq
                  simp only [Option.some.injEq, Prod.mk.injEq] at hq
                  obtain ⟨rfl, rfl⟩ := hq
                  exact ⟨cs, e, fz, pre, post, q1, r1, by rw [r2, hc]; rfl⟩
                cases hy : m.y with
                | ba n0 l =>
                  rw [hy] at r3 s1
                  simp only [hy, Option.some.injEq, Prod.mk.injEq] at hv
                  obtain ⟨rfl, rfl⟩ := hv
                  simp only [RC] at r3
                  obtain ⟨hl0, rfl⟩ := r3
                  have hn : o.c.len p = some (l.length, 1) := by rw [hc]; simp [Cont.len, s1, T.sk, Sk.arrOf, hl0]
                  obtain ⟨A, c, g1, g2, g3, g4⟩ := row_view (hN' id o · · hm · hg) hrl hn (l.map u8v) (by simp) hcs
                  refine ⟨?_, rfl, rfl⟩
                  simp only [RC]
                  have hl := rowCut_length off rest l g3
                  refine ⟨A, c, by rw [g1, hl], by rw [hl]; exact g2, ?_⟩
                  rw [u8_cut]; exact g4
                | arr n0 e0 xs =>
                  rw [hy] at r3 s1
                  simp only [hy, Option.some.injEq, Prod.mk.injEq] at hv
                  obtain ⟨rfl, rfl⟩ := hv
                  simp only [RC] at r3
                  obtain ⟨hl0, hu⟩ := r3
                  have hn : o.c.len p = some (xs.length, e0.size) := by rw [hc]; simp [Cont.len, s1, T.sk, Sk.arrOf, hl0]
                  obtain ⟨A, c, g1, g2, g3, g4⟩ := row_view (hN' id o · · hm · hg) hrl hn d (RU.length _ _ hu) hcs
                  refine ⟨?_, rfl, rfl⟩
                  simp only [RC]
                  have hl := rowCut_length off rest xs g3
                  exact ⟨A, c, by rw [g1, hl], by rw [hl]; exact g2, _, RU.mono (fun b hb _ => ⟨hN b hb, rfl⟩) _ _ (hu.rowCut off rest), g4⟩
                | _ => simp [hy] at hv
              · cases hnv
        · cases hv
    · cases hv
  | _ + 1, .tup _, _, _, _, hv, _, _ | _ + 1, .ow _, _, _, _, hv, _, _ | _ + 1, .os _ _, _, _, _, hv, _, _ => by simp [St.view] at hv
theorem views_ok (hN : ∀ b, ¬ Mut C.N0 st.m β b → ¬ N' b) {g : Nat → Bool} (hN' : ∀ id o b k, st.m[id]? = some (some o) → β id = some (b, k) → g id = false → ¬ N' b) (h : Sim C β st a w) :
    ∀ (f : Nat) (xs ys : List T) (ob : Prop) (cs : List Value), st.views g f xs = some (ys, ob) → ob → RL w (Mut C.N0 st.m β) (ext st.m β) xs cs → RL w N' Ext.none ys cs ∧ T.sks ys = T.sks xs
  | 0, _, _, _, _, hv, _, _ => by simp [St.views] at hv
  | _ + 1, [], ys, ob, cs, hv, _, k => by
    simp only [St.views, Option.some.injEq, Prod.mk.injEq] at hv
    obtain ⟨rfl, rfl⟩ := hv
    simp only [RL] at k ⊢
    exact ⟨k, trivial⟩
  | f + 1, x :: xs, ys, ob, cs, hv, ho, k => by
    simp only [St.views] at hv
    split at hv
    · rename_i y o1 ys' o2 h1 h2
      simp only [Option.some.injEq, Prod.mk.injEq] at hv
      obtain ⟨rfl, rfl⟩ := hv
      simp only [RL] at k ⊢
      obtain ⟨c1, c2, g1, g2, g3, g4⟩ := k
      obtain ⟨r1, _, r2⟩ := view_ok hN hN' h f x y _ c1 h1 ho.1 g3
      obtain ⟨s1, s2⟩ := views_ok hN hN' h f xs ys' _ c2 h2 ho.2 g4
      exact ⟨⟨c1, c2, g1, by rw [r2]; exact g2, r1, s1⟩, by simp only [T.sks, r2, s2]⟩
    · cases hv
end
end

end Go.AL

/- append in the abstract state. No condition. -/
namespace Go.AL
open Go

section
variable {P : Program} {t ty e : TypeId} {i : TypeInfo} (ht : P.underlying t = some (.slice e)) (hi : P.info? e = some i)
include ht hi

theorem run_app_room {w w' : World} {base : Option Addr} {sLen sCap m : Nat} {src : Value} {news : List Value} (hl : (Builtin.lenOf src).run P w = .ok m w)
    (hf : (Builtin.firstCells i.size m src).run P w = .ok news.toArray w) (hroom : sLen + m ≤ sCap)
    (hst : match base with | some a => (storeCells (a.add (sLen * i.size)) news).run P w = .ok () w' | none => w' = w) :
    (Builtin.append_ #[t, t] ty #[.slice base sLen sCap, src]).run P w = .ok (.slice base (sLen + m) sCap) w' := by
  cases base with
  | none => subst hst; simp [Builtin.append_, run_underlying ht, sizeOf, typeInfo, hi, hl, hroom, hf]
  | some a => simp at hst; simp [Builtin.append_, run_underlying ht, sizeOf, typeInfo, hi, hl, hroom, hf, hst]

theorem run_app_grow {w : World} {z : Value} (hz : i.zero = some z) {base : Option Addr} {sLen sCap m : Nat} {src : Value} {olds news : List Value} (hl : (Builtin.lenOf src).run P w = .ok m w)
    (hfo : (Builtin.firstCells i.size sLen (.slice base sLen sCap)).run P w.drew = .ok olds.toArray w.drew) (hf : (Builtin.firstCells i.size m src).run P w.drew = .ok news.toArray w.drew)
    (hg : sCap < sLen + m) (h63 : ((sLen + m : Nat) : Int) ≤ 9223372036854775807) (hfit : Builtin.nextslicecap (sLen + m) sCap * i.bytes ≤ 281474976710656) :
    (Builtin.append_ #[t, t] ty #[.slice base sLen sCap, src]).run P w =
      .ok (.slice (some ⟨w.heap.size, 0, none⟩) (sLen + m) (grownCap w (sLen + m) sCap e))
        (w.drew.alloc (.cells (olds ++ news ++ (Builtin.zeroCells z.cells (grownCap w (sLen + m) sCap e - (sLen + m))).toList).toArray e)) := by
  have hn : ¬ (sLen + m ≤ sCap) := by omega
  have h63' : ¬ (9223372036854775807 < ((sLen : Int) + (m : Int))) := by omega
  have h48' : ¬ (281474976710656 < Builtin.nextslicecap (sLen + m) sCap * i.bytes) := by omega
  simp [Builtin.append_, run_underlying ht, sizeOf, typeInfo, zeroValue, hi, hz, hl, hn, h63', h48', Question.forced, hf, hfo, newRow, grownCap]
  congr 2
  apply Array.ext'
  simp
end

theorem lenOf_slice (P : Program) (A : Option Addr) (n c : Nat) (w : World) : (Builtin.lenOf (.slice A n c)).run P w = .ok n w := by simp [Builtin.lenOf]

theorem firstCells_lies {P : Program} {w : World} {A : Option Addr} {n c size : Nat} {ds : List Value} (h : Lies w (fun _ => False) A ds) (hn : ds.length = n * size) :
    (Builtin.firstCells size n (.slice A n c)).run P w = .ok ds.toArray w := by
  by_cases h0 : ds = []
  · subst h0
    simp at hn
    cases A with
    | none => simp [Builtin.firstCells]
    | some a =>
      simp only [Builtin.firstCells, ← hn]
      simp [loadCells, loadCellsFrom]
  · have : ∃ a, A = some a := by
      rcases h with h | ⟨b, off, hA, _⟩
      · exact absurd h h0
      · exact ⟨_, hA⟩
    obtain ⟨a, rfl⟩ := this
    obtain ⟨b, off, cs, e, fz, pre, post, rfl, _, hb, hcs, hp⟩ := h.split h0
    simp only [Builtin.firstCells, ← hn]
    refine run_loadCells_list (P := P) w ⟨b, off, none⟩ ds fun j v hj => ?_
    rw [addr_add]
    have hl : j < ds.length := (List.getElem?_eq_some_iff.1 hj).1
    have : cs[off + j]? = cs.toList[off + j]? := by simp
    simp only [World.cell?, hb, Option.isSome_none, Bool.false_eq_true, if_false]
    rw [this, hcs, ← hp, List.append_assoc, List.getElem?_append_right (by omega), List.getElem?_append_left (by omega)]
    rw [show pre.length + j - pre.length = j by omega]
    exact hj

theorem Lies.drew {w : World} {N : Nat → Prop} {A : Option Addr} {ds : List Value} (h : Lies w N A ds) : Lies w.drew N A ds := h

/-- What a source of an append holds. -/
def St.src (st : St) (y : T) : Option (Cont × Prop) :=
  match y with
  | .sb l => some (.rb l, True)
  | .sl e xs => some (.rs e xs, True)
  | .v (.slice none 0 0) => some (.rb [], True)
  | .row id p off rest => match st.m[id]? with
    | some (some o) => match p, o.c with
      | [], .rs e xs => some (.rs e (rowCut off rest xs), True)
      | p1, _ => match st.view (fun _ => false) 1 (.row id p1 off rest) with
        | some (.sb l, ob) => some (.rb l, ob)
        | _ => none
    | _ => none
  | _ => none

def SrcOk (w : World) (N : Nat → Prop) (c : Cont) (v : Value) : Prop :=
  ∃ A cap ds, match c with
    | .rb l => v = .slice A l.length cap ∧ Lies w (fun _ => False) A ds ∧ ds = l.map u8v
    | .rs e xs => v = .slice A xs.length cap ∧ Lies w (fun _ => False) A ds ∧ RU w N e xs ds
    | .var _ => False

theorem Sim.src {C : Ctx} {β : Bel} {st : St} {a : Act} {w : World} (h : Sim C β st a w) {y : T} {v : Value} {c : Cont} {ob : Prop}
    (hy : RT w (Mut C.N0 st.m β) (ext st.m β) y v) (hs : st.src y = some (c, ob)) (ho : ob) : SrcOk w (Mut C.N0 st.m β) c v := by
  unfold St.src at hs
  split at hs
  · simp only [Option.some.injEq, Prod.mk.injEq] at hs
    obtain ⟨rfl, rfl⟩ := hs
    obtain ⟨A, cap, rfl, _, hl⟩ := hy.sb
    exact ⟨A, cap, _, rfl, hl.mono (fun b _ _ => ⟨fun f => f, rfl⟩), rfl⟩
  · simp only [Option.some.injEq, Prod.mk.injEq] at hs
    obtain ⟨rfl, rfl⟩ := hs
    obtain ⟨A, cap, ds, rfl, _, hr, hl⟩ := hy.sl
    exact ⟨A, cap, ds, rfl, hl.mono (fun b _ _ => ⟨fun f => f, rfl⟩), hr⟩
  · simp only [Option.some.injEq, Prod.mk.injEq] at hs
    obtain ⟨rfl, rfl⟩ := hs
    have hv : v = .slice none 0 0 := by
      rcases hy with ⟨h1, _⟩ | ⟨_, h1⟩
      · simp [T.isAgg] at h1
      · simp only [RC] at h1; simpa using h1.2
    subst hv
    exact ⟨none, 0, [], rfl, .inl rfl, rfl⟩
  · rename_i id p off rest
    split at hs
    · rename_i o hm
      split at hs
      · rename_i e xs hc
        simp only [Option.some.injEq, Prod.mk.injEq] at hs
        obtain ⟨rfl, rfl⟩ := hs
        obtain ⟨_, o', e1, hr⟩ := hy.row
        rw [hm] at e1; simp only [Option.some.injEq] at e1; subst e1
        have hme := h.me id o hm
        have hn : o.c.len [] = some (xs.length, e.size) := by rw [hc]; rfl
        have hu : ∃ ds, RU w (Mut C.N0 st.m β) e xs ds ∧ ∀ b k, β id = some (b, k) → ∃ cs e' fz pre post, w.heap[b]? = some (.cells cs e' fz) ∧ cs.toList = pre ++ ds ++ post ∧ pre.length = o.c.off [] := by
          cases hβ : β id with
          | none =>
            rw [hβ] at hme
            rcases hme with hme | ⟨e', hme⟩
            · rw [hc] at hme; cases hme
            · rw [hc] at hme; cases hme
              exact ⟨[], by simp only [RU], fun b k hq => by cases hq⟩
          | some bk =>
            obtain ⟨b, k⟩ := bk
            rw [hβ] at hme
            obtain ⟨cs, e', fz, q1, q2, q3, q4⟩ := hme
            rw [hc] at q4
            obtain ⟨ds, r, q4, q5⟩ := q4
            refine ⟨ds, q5, fun b' k' hq => ?_⟩
            simp only [Option.some.injEq, Prod.mk.injEq] at hq
            obtain ⟨rfl, rfl⟩ := hq
            exact ⟨cs, e', fz, [], r, q1, by simpa using q4, by rw [hc]; rfl⟩
        obtain ⟨ds, hu, hcs⟩ := hu
        obtain ⟨A, c, r1, r2, r3, r4⟩ := row_view (w := w) (N' := fun _ => False) (fun _ _ _ f => f) hr hn ds (RU.length _ _ hu) hcs
        have hl := rowCut_length off rest xs r3
        exact ⟨A, c, _, by rw [r1, hl], r4, hu.rowCut off rest⟩
      · split at hs
        · rename_i l ob' hv
          simp only [Option.some.injEq, Prod.mk.injEq] at hs
          obtain ⟨rfl, rfl⟩ := hs
          have hrc := hy
          rcases hrc with ⟨h1, _⟩ | ⟨_, hrc⟩
          · simp [T.isAgg] at h1
          obtain ⟨r1, _, _⟩ := view_ok (N' := fun _ => False) (fun _ _ f => f) (fun _ _ _ _ _ _ _ f => f) h 1 _ _ _ _ hv ho hrc
          simp only [RC] at r1
          obtain ⟨A, cap, g1, g2, g3⟩ := r1
          simp at g1
          exact ⟨A, cap, _, g1, g3, rfl⟩
        · cases hs
    · cases hs
  · cases hs

/-- A row with more behind it: what it holds then, and how many. -/
def Cont.more (c y : Cont) : Option (Cont × Nat) :=
  match c, y with
  | .rb l, .rb ys => some (.rb (l ++ ys), l.length + ys.length)
  | .rs e xs, .rs f ys => if Sk.beq e f then some (.rs e (xs ++ ys), xs.length + ys.length) else none
  | .rs e xs, .rb [] => some (.rs e xs, xs.length)
  | _, _ => none

/-- The row's element type: its cells and bytes fit. -/
def elOk (P : Program) (t : TypeId) (c : Cont) : Option Nat :=
  match P.underlying t with
  | some (.slice e) => match P.info? e with
    | some i => match i.zero, c.len [] with
      | some z, some (_, sz) => if (Nat.beq i.size sz && Nat.beq z.cells.size sz && Nat.ble 1 sz) then some i.bytes else none
      | _, _ => none
    | none => none
  | _ => none

/-- What append does: to which object, its new content, what must hold. -/
def St.app (P : Program) (nio : Nat) (st : St) (ts : Array TypeId) (x y : T) : Option (Nat × Cont × Prop) :=
  match ts.toList, x with
  | [t1, t2], .row id [] 0 none => if Nat.beq t1 t2 then match st.m[id]? with
    | some (some o) => if (o.fz || !Nat.ble nio id) then none else match st.src y with
      | some (cy, ob) => match o.c.more cy, elOk P t1 o.c with
        | some (c', n), some bytes => some (id, c', ob ∧ n * bytes ≤ 140737488355328 ∧ n ≤ 9223372036854775807)
        | _, _ => none
      | none => none
    | _ => none
    else none
  | _, _ => none

/-- What append does to a nil slice: the content of the new object. -/
def St.app0 (P : Program) (st : St) (ts : Array TypeId) (x y : T) : Option (Cont × Prop) :=
  match ts.toList, x with
  | [t1, t2], .v (.slice none 0 0) => if Nat.beq t1 t2 then match st.src y with
      | some (cy, ob) => match cy with
        | .rb l => match elOk P t1 cy with
          | some bytes => some (.rb l, ob ∧ l.length * bytes ≤ 140737488355328 ∧ l.length ≤ 9223372036854775807)
          | none => none
        | .rs e xs => match elOk P t1 cy with
          | some bytes => some (.rs e xs, ob ∧ xs.length * bytes ≤ 140737488355328 ∧ xs.length ≤ 9223372036854775807)
          | none => none
        | .var _ => none
      | none => none
    else none
  | _, _ => none

theorem more_len {c y c' : Cont} {n : Nat} (h : c.more y = some (c', n)) {k sz : Nat} (hc : c.len [] = some (k, sz)) :
    ∃ m, n = k + m ∧ c'.len [] = some (n, sz) ∧ c'.off [] = 0 ∧ c.off [] = 0 ∧ (∀ (w : World) (N : Nat → Prop) (v : Value), SrcOk w N y v → ∃ A cap ds, v = .slice A m cap ∧ ds.length = m * sz ∧ Lies w (fun _ => False) A ds ∧
      ((∃ l, c' = .rb l) ∨ ∃ e xs, c' = .rs e xs) ∧ (∀ u ∈ ds, u.oneCell' = true) ∧
      ∀ X cs post, CC w N X c cs → CC w N X c' (cs.take (k * sz) ++ ds ++ post)) := by
  unfold Cont.more at h
  split at h
  · rename_i l ys
    simp only [Option.some.injEq, Prod.mk.injEq] at h
    obtain ⟨rfl, rfl⟩ := h
    simp only [Cont.len, Option.some.injEq, Prod.mk.injEq] at hc
    obtain ⟨rfl, rfl⟩ := hc
    refine ⟨ys.length, rfl, by simp [Cont.len], rfl, rfl, fun w N v hs => ?_⟩
    obtain ⟨A, cap, ds, h1, h2, rfl⟩ := hs
    refine ⟨A, cap, _, h1, by simp, h2, .inl ⟨_, rfl⟩, ?_, fun X cs post hcc => ?_⟩
    · intro u hu; simp at hu; obtain ⟨a, _, rfl⟩ := hu; rfl
    · obtain ⟨r, rfl⟩ := hcc
      refine ⟨post, ?_⟩
      rw [List.take_left' (by simp)]
      simp
  · rename_i e xs f ys
    split at h
    · rename_i he
      have he := Sk.eq_of_beq _ _ he
      subst he
      simp only [Option.some.injEq, Prod.mk.injEq] at h
      obtain ⟨rfl, rfl⟩ := h
      simp only [Cont.len, Option.some.injEq, Prod.mk.injEq] at hc
      obtain ⟨rfl, rfl⟩ := hc
      refine ⟨ys.length, rfl, by simp [Cont.len], rfl, rfl, fun w N v hs => ?_⟩
      obtain ⟨A, cap, ds, h1, h2, h3⟩ := hs
      refine ⟨A, cap, _, h1, RU.length _ _ h3, h2, .inr ⟨_, _, rfl⟩, RU.one _ _ h3, fun X cs post hcc => ?_⟩
      obtain ⟨c0, r, rfl, hu⟩ := hcc
      refine ⟨c0 ++ ds, post, ?_, RU.append _ _ _ _ hu h3⟩
      rw [List.take_left' (RU.length _ _ hu)]
    · cases h
  · rename_i e xs
    simp only [Option.some.injEq, Prod.mk.injEq] at h
    obtain ⟨rfl, rfl⟩ := h
    simp only [Cont.len, Option.some.injEq, Prod.mk.injEq] at hc
    obtain ⟨rfl, rfl⟩ := hc
    refine ⟨0, rfl, by simp [Cont.len], rfl, rfl, fun w N v hs => ?_⟩
    obtain ⟨A, cap, ds, h1, h2, rfl⟩ := hs
    refine ⟨A, cap, _, h1, by simp, h2, .inr ⟨_, _, rfl⟩, by simp, fun X cs post hcc => ?_⟩
    obtain ⟨c0, r, rfl, hu⟩ := hcc
    refine ⟨c0, post, ?_, hu⟩
    rw [List.take_left' (RU.length _ _ hu)]
    simp
  · cases h

theorem elOk_spec {P : Program} {t : TypeId} {c : Cont} {bytes : Nat} (h : elOk P t c = some bytes) :
    ∃ e i z k sz, P.underlying t = some (.slice e) ∧ P.info? e = some i ∧ i.zero = some z ∧ c.len [] = some (k, sz) ∧ i.size = sz ∧ z.cells.size = sz ∧ 1 ≤ sz ∧ i.bytes = bytes := by
  unfold elOk at h
  split at h
  · rename_i e hu
    split at h
    · rename_i i hi
      split at h
      · rename_i z k sz hz hc
        split at h
        · rename_i hb
          simp only [Option.some.injEq] at h
          simp only [Bool.and_eq_true] at hb
          exact ⟨e, i, z, k, sz, hu, hi, hz, hc, Nat.eq_of_beq_eq_true hb.1.1, Nat.eq_of_beq_eq_true hb.1.2, Nat.le_of_ble_eq_true hb.2, h⟩
        · cases h
      · cases h
    · cases h
  · cases h

theorem grown_le (w : World) (need old : Nat) (e : TypeId) : need ≤ grownCap w need old e := by
  simp only [grownCap, Question.cut]; omega

theorem zero_len (z : Value) (n : Nat) : (Builtin.zeroCells z.cells n).toList.length = n * z.cells.size := by
  simp [Builtin.zeroCells]

theorem keeps_setRow (w : World) (b : Nat) (cs : Array Value) : Keeps (fun x => x = b) w (w.setRow b cs) :=
  ⟨rfl, rfl, rfl, by simp, fun x _ hx => setRow_other w b x cs hx⟩

/-- append to a row. -/
theorem Sim.app {P : Program} {C : Ctx} {β : Bel} {st : St} {a : Act} {w : World} (h : Sim C β st a w) {ts : Array TypeId} {ty : TypeId} {x y : T} {id : Nat} {c' : Cont} {ob : Prop} {v u : Value}
    (hx : RT w (Mut C.N0 st.m β) (ext st.m β) x v) (hy : RT w (Mut C.N0 st.m β) (ext st.m β) y u) (hl : st.app P C.nio ts x y = some (id, c', ob)) (ho : ob) :
    ∃ r w' β', (Builtin.append_ ts ty #[v, u]).run P w = .ok r w' ∧ Sim C β' (st.renew id c') a w' ∧
      RT w' (Mut C.N0 (st.renew id c').m β') (ext (st.renew id c').m β') (.row id [] 0 none) r := by
  unfold St.app at hl
  split at hl
  · rename_i t1 t2 id' hts
    split at hl
    · rename_i ht12
      have ht12 := Nat.eq_of_beq_eq_true ht12
      subst ht12
      have hts' : ts = #[t1, t1] := by rw [← Array.toList_inj, hts]
      subst hts'
      split at hl
      · rename_i o hm
        split at hl
        · cases hl
        · rename_i hfz
          have hfz2 : o.fz = false ∧ Nat.ble C.nio id' = true := by simpa using hfz
          have hvar : C.nio ≤ id' := Nat.le_of_ble_eq_true hfz2.2
          have hfz : o.fz = false := hfz2.1
          split at hl
          · rename_i cy ob' hsrc
            split at hl
            · rename_i c'' n bytes hmore hel
              simp only [Option.some.injEq, Prod.mk.injEq] at hl
              obtain ⟨rfl, rfl, rfl⟩ := hl
              obtain ⟨ho1, hfit, h63⟩ := ho
              obtain ⟨e, i, z, k, sz, q1, q2, q3, q4, q5, q6, q7, q8⟩ := elOk_spec hel
              obtain ⟨m, rfl, g2, g3, g3', g4⟩ := more_len hmore q4
              obtain ⟨A, cap, ds, rfl, r1, r2, r3, r4, r5⟩ := g4 w _ u (h.src hy hsrc ho1)
              obtain ⟨hv1, o', e1, n', sz', e2, e3, e4⟩ := hx.row
              rw [hm] at e1; simp only [Option.some.injEq] at e1; subst e1
              rw [q4] at e2; simp only [Option.some.injEq, Prod.mk.injEq] at e2
              obtain ⟨rfl, rfl⟩ := e2
              have hlen : (none : Option Nat).getD (k - 0) = k := by simp
              rw [hlen] at e3 e4
              have hme := h.me id' o hm
              have hlt : id' < st.m.length := (List.getElem?_eq_some_iff.1 hm).1
              have hklen : (killM id' st.m).length = st.m.length := by
                have : ∀ m : List (Option Obj), (killM id' m).length = m.length := by
                  intro m
                  induction m with
                  | nil => rfl
                  | cons x m ih => cases x <;> simp [killM, ih]
                exact this _
              have hself : (st.renew id' c'').m[id']? = some (some ⟨c'', false⟩) := by simp [St.renew, hklen, hlt]
              have hfc : (Builtin.firstCells i.size m (.slice A m cap)).run P w = .ok ds.toArray w := firstCells_lies r2 (by rw [q5]; exact r1)
              have hfcd : (Builtin.firstCells i.size m (.slice A m cap)).run P w.drew = .ok ds.toArray w.drew := firstCells_lies r2.drew (by rw [q5]; exact r1)
              -- it grows: a new block
              have grow : ∀ (base : Option Addr) (sCap : Nat) (olds : List Value), v = .slice base k sCap → sCap < k + m → olds.length = k * sz → (Builtin.firstCells i.size k (.slice base k sCap)).run P w.drew = .ok olds.toArray w.drew →
                  (∀ post, CC w (Mut C.N0 st.m β) (ext st.m β) c'' (olds ++ ds ++ post)) →
                  ∃ r w' β', (Builtin.append_ #[t1, t1] ty #[v, .slice A m cap]).run P w = .ok r w' ∧ Sim C β' (st.renew id' c'') a w' ∧
                    RT w' (Mut C.N0 (st.renew id' c'').m β') (ext (st.renew id' c'').m β') (.row id' [] 0 none) r := by
                intro base sCap olds hv hg hol hfo hcc
                subst hv
                have hrun := run_app_grow q1 q2 (ty := ty) q3 (w := w) (base := base) (sLen := k) (sCap := sCap) (m := m) (src := .slice A m cap) (olds := olds) (news := ds) (lenOf_slice _ _ _ _ _) hfo hfcd hg (by omega) (growslice_fits hg (by rw [q8]; exact hfit))
                have hgc := grown_le w (k + m) sCap e
                generalize grownCap w (k + m) sCap e = gc at hrun hgc
                have hsize : (olds ++ ds ++ (Builtin.zeroCells z.cells (gc - (k + m))).toList).length = gc * sz := by
                  rw [List.length_append, List.length_append, hol, r1, zero_len, q6, ← Nat.add_mul, ← Nat.add_mul]
                  congr 1
                  omega
                have hkeep : Keeps (fun _ => False) w (w.drew.alloc (.cells (olds ++ ds ++ (Builtin.zeroCells z.cells (gc - (k + m))).toList).toArray e)) :=
                  (keeps_drew w).trans (keeps_alloc _ _) (fun x f => f) (fun x _ f => f)
                obtain ⟨s1, s2, s3⟩ := h.renew hm hfz hvar c'' (some (w.heap.size, gc * sz)) (hkeep.mono (fun x _ f => f.elim)) (fun b k' hq => by
                  simp only [Option.some.injEq, Prod.mk.injEq] at hq
                  obtain ⟨rfl, rfl⟩ := hq
                  exact ⟨.inr (Nat.le_refl _), _, e, heap_new w.drew _, by simpa using hsize, r3, by simpa using hcc _⟩) (fun hq => by cases hq)
                refine ⟨_, _, _, hrun, s1, RT.leaf ?_ rfl⟩
                simp only [RC]
                refine ⟨_, rfl, rfl, _, hself, k + m, sz, g2, by simp, ?_⟩
                simp only [Bel.with, if_true]
                exact ⟨⟨w.heap.size, 0, none⟩, gc, by simp, by simpa using hgc, by rw [g3]; simp, fun _ => by simp⟩
              cases hβ : β id' with
              | none =>
                rw [hβ] at e4 hme
                obtain ⟨rfl, rfl, _, _⟩ := e4
                have hce : ∀ post, CC w (Mut C.N0 st.m β) (ext st.m β) c'' (ds ++ post) := fun post => by
                  have : CC w (Mut C.N0 st.m β) (ext st.m β) o.c [] := by
                    rcases hme with hme | ⟨e', hme⟩ <;> rw [hme]
                    · exact ⟨[], by simp⟩
                    · exact ⟨[], [], by simp, by simp only [RU]⟩
                  simpa using r5 _ _ post this
                by_cases hm0 : m = 0
                · subst hm0
                  have hds : ds = [] := by simpa using r1
                  subst hds
                  have hrun := run_app_room q1 q2 (ty := ty) (w := w) (w' := w) (base := none) (sLen := 0) (sCap := 0) (m := 0) (src := .slice A 0 cap) (news := []) (lenOf_slice _ _ _ _ _) hfc (Nat.le_refl _) rfl
                  obtain ⟨s1, s2, s3⟩ := h.renew hm hfz hvar c'' none (Keeps.refl _ _) (fun b k' hq => by cases hq) (fun _ => by
                    rcases hme with hme | ⟨e', hme⟩
                    · rcases r3 with ⟨l, rfl⟩ | ⟨e1, xs, rfl⟩
                      · simp [Cont.len] at g2; left; rw [g2.1]
                      · simp [Cont.len] at g2; right; exact ⟨e1, by rw [g2.1]⟩
                    · rcases r3 with ⟨l, rfl⟩ | ⟨e1, xs, rfl⟩
                      · simp [Cont.len] at g2; left; rw [g2.1]
                      · simp [Cont.len] at g2; right; exact ⟨e1, by rw [g2.1]⟩)
                  refine ⟨_, _, _, hrun, s1, RT.leaf ?_ rfl⟩
                  simp only [RC]
                  refine ⟨_, rfl, rfl, _, hself, 0, sz, g2, by simp, ?_⟩
                  simp [Bel.with]
                · exact grow none 0 [] rfl (by omega) (by simp) (by simp [Builtin.firstCells]) (fun post => by simpa using hce post)
              | some bk =>
                obtain ⟨b, kk⟩ := bk
                rw [hβ] at e4 hme
                obtain ⟨A0, sCap, rfl, f1, f2, f3⟩ := e4
                obtain ⟨cs, e', fz, p1, p2, p3, p4⟩ := hme
                have p3' := p3 hfz
                subst p3'
                rw [g3'] at f2 f3
                have hcsl : k * sz ≤ cs.toList.length := by
                  have : k * sz ≤ sCap * sz := Nat.mul_le_mul_right _ f1
                  simp at f2 ⊢
                  omega
                by_cases hroom : k + m ≤ sCap
                · by_cases hc0 : sCap = 0
                  · have hk0 : k = 0 := by omega
                    have hm0 : m = 0 := by omega
                    subst hk0 hm0
                    have hds : ds = [] := by simpa using r1
                    subst hds
                    have hrun := run_app_room q1 q2 (ty := ty) (w := w) (w' := w) (base := some A0) (sLen := 0) (sCap := sCap) (m := 0) (src := .slice A 0 cap) (news := []) (lenOf_slice _ _ _ _ _) hfc hroom (by simp [storeCells])
                    obtain ⟨s1, s2, s3⟩ := h.renew hm hfz hvar c'' (some (b, kk)) (Keeps.refl _ _) (fun b' k' hq => by
                      simp only [Option.some.injEq, Prod.mk.injEq] at hq
                      obtain ⟨rfl, rfl⟩ := hq
                      exact ⟨.inl hβ, cs, e', p1, p2, r3, by have := r5 _ _ cs.toList p4; simpa using this⟩) (fun hq => by cases hq)
                    refine ⟨_, _, _, hrun, s1, RT.leaf ?_ rfl⟩
                    simp only [RC]
                    refine ⟨_, rfl, rfl, _, hself, 0, sz, g2, by simp, ?_⟩
                    simp only [Bel.with, if_true]
                    exact ⟨A0, sCap, by simp, by simp, by rw [g3]; simpa using f2, fun hq => by omega⟩
                  · have hA := f3 (by omega)
                    simp at hA
                    subst hA
                    have hfit2 : k * sz + ds.length ≤ cs.size := by
                      rw [r1, ← Nat.add_mul]
                      have : (k + m) * sz ≤ sCap * sz := Nat.mul_le_mul_right _ hroom
                      simp at f2
                      omega
                    have hst := run_storeCells_at P b (k * sz) e' ds 0 cs w p1 (by simpa using hfit2) r4
                    have hrun := run_app_room q1 q2 (ty := ty) (w := w) (w' := w.setRow b (cs.toList.take (k * sz) ++ ds ++ cs.toList.drop (k * sz + ds.length)).toArray) (base := some ⟨b, 0, none⟩) (sLen := k) (sCap := sCap) (m := m) (src := .slice A m cap) (news := ds) (lenOf_slice _ _ _ _ _) hfc hroom (by
                      simp only [addr_add, Nat.zero_add, q5]
                      simpa using hst)
                    obtain ⟨s1, s2, s3⟩ := h.renew (w' := w.setRow b (cs.toList.take (k * sz) ++ ds ++ cs.toList.drop (k * sz + ds.length)).toArray) hm hfz hvar c'' (some (b, kk)) ((keeps_setRow w b _).mono (fun x _ hx => by subst hx; exact ⟨kk, hβ⟩)) (fun b' k' hq => by
                      simp only [Option.some.injEq, Prod.mk.injEq] at hq
                      obtain ⟨rfl, rfl⟩ := hq
                      refine ⟨.inl hβ, _, e', setRow_heap w b cs _ e' (0, 0) p1, ?_, r3, by simpa using r5 _ _ (cs.toList.drop (k * sz + ds.length)) p4⟩
                      simp
                      omega) (fun hq => by cases hq)
                    refine ⟨_, _, _, hrun, s1, RT.leaf ?_ rfl⟩
                    simp only [RC]
                    refine ⟨_, rfl, rfl, _, hself, k + m, sz, g2, by simp, ?_⟩
                    simp only [Bel.with, if_true]
                    exact ⟨⟨b, 0, none⟩, sCap, by simp, by simpa using hroom, by rw [g3]; simpa using f2, fun hq => by simp⟩
                · refine grow (some A0) sCap (cs.toList.take (k * sz)) rfl (by omega) (by simp at hcsl ⊢; omega) ?_ (fun post => by simpa using r5 _ _ post p4)
                  have hlies : Lies w (fun _ => False) (some A0) (cs.toList.take (k * sz)) := by
                    by_cases hk0 : k = 0
                    · left; rw [hk0]; simp
                    · have := f3 (by omega)
                      simp at this
                      subst this
                      exact lies_of_block (N := fun _ => False) (fun f => f) p1 (pre := []) (post := cs.toList.drop (k * sz)) (by simp)
                  exact firstCells_lies hlies.drew (by rw [q5]; simp at hcsl ⊢; omega)
            · cases hl
          · cases hl
      · cases hl
    · cases hl
  · cases hl

end Go.AL
