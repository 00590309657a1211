/- New objects in the abstract state: zero values, boxes, arrays, slices. No condition. -/
import Derived.Test.YtngcjhiflplkbaaALSlice
namespace Go.AL
open Go

/-- The zero value of a type, as a tree. -/
def zeroF (P : Program) : Nat → TypeId → Option T
  | 0, _ => none
  | n + 1, t => match P.underlying t with
    | some .bool => some (.b false)
    | some (.int .i64) => some (.i 0)
    | some (.int .u8) => some (.u8 0)
    | some (.int .u32) => some (.u32 0)
    | some (.int .u64) => some (.u64 0)
    | some (.int k) => some (.v (.int k 0))
    | some .string => some (.s [])
    | some (.pointer _) => some (.v (.pointer none))
    | some (.slice _) => some (.v (.slice none 0 0))
    | some (.map _ _) => some (.v (.map none))
    | some (.func _ _ _) => some (.v .nilFunc)
    | some (.interface _) => some (.v .nilIface)
    | some (.struct fs) => match fs.toList.mapM (fun f => zeroF P n f.type) with
      | some xs => some (.agg xs)
      | none => none
    | some (.array m e) => match P.underlying e with
      | some (.int .u8) => some (.ba m (List.replicate m 0))
      | _ => match zeroF P n e with
        | some x => some (.arr m x.sk (List.replicate m x))
        | none => none
    | _ => none

def zeroT (P : Program) (t : TypeId) : Option T := zeroF P 12 t

mutual
/-- The cells of a tree that needs no memory. -/
def T.flat : T → Option (List Value)
  | .agg fs => T.flats fs
  | .ba n l => if Nat.beq l.length n then some (l.map u8v) else none
  | .arr n e xs => if Nat.beq xs.length n then T.flatu e xs else none
  | .i n => some [.int .i64 n]
  | .b c => some [.bool c]
  | .u8 x => some [u8v x]
  | .u32 x => some [.int .u32 x.toNat]
  | .u64 x => some [.int .u64 x.toNat]
  | .s l => some [.string ⟨l.toArray⟩]
  | .v x => if x.oneCell' then some [x] else none
  | _ => none
def T.flats : List T → Option (List Value)
  | [] => some []
  | x :: xs => match T.flat x, T.flats xs with
    | some ca, some cb => some (ca ++ cb)
    | _, _ => none
def T.flatu (e : Sk) : List T → Option (List Value)
  | [] => some []
  | x :: xs => if Sk.beq x.sk e then match T.flat x, T.flatu e xs with
    | some ca, some cb => some (ca ++ cb)
    | _, _ => none
    else none
end

section
variable {w : World} {N : Nat → Prop}
mutual
theorem RC.of_flat {X : Ext} : ∀ (x : T) (cs : List Value), x.flat = some cs → RC w N X x cs
  | .i _, _, h | .b _, _, h | .u8 _, _, h | .u32 _, _, h | .u64 _, _, h | .s _, _, h => by simp only [T.flat, Option.some.injEq] at h; subst h; simp only [RC]
  | .v x, cs, h => by
    simp only [T.flat] at h
    split at h
    · rename_i h1; simp only [Option.some.injEq] at h; subst h; simp only [RC]; exact ⟨h1, trivial⟩
    · cases h
  | .ba n l, cs, h => by
    simp only [T.flat] at h
    split at h
    · rename_i h1; simp only [Option.some.injEq] at h; subst h; simp only [RC]; exact ⟨Nat.eq_of_beq_eq_true h1, trivial⟩
    · cases h
  | .agg fs, cs, h => by simp only [T.flat] at h; simp only [RC]; exact RL.of_flat fs cs h
  | .arr n e xs, cs, h => by
    simp only [T.flat] at h
    split at h
    · rename_i h1; simp only [RC]; exact ⟨Nat.eq_of_beq_eq_true h1, RU.of_flat e xs cs h⟩
    · cases h
  | .sb _, _, h | .sl _ _, _, h | .pt _, _, h | .ifc _ _, _, h | .clo _ _, _, h | .tup _, _, h | .junk, _, h | .ref _ _, _, h | .row _ _ _ _, _, h | .ow _, _, h | .os _ _, _, h => by simp [T.flat] at h
theorem RL.of_flat {X : Ext} : ∀ (xs : List T) (cs : List Value), T.flats xs = some cs → RL w N X xs cs
  | [], cs, h => by simp only [T.flats, Option.some.injEq] at h; subst h; simp only [RL]
  | x :: xs, cs, h => by
    simp only [T.flats] at h
    cases ha : T.flat x with
    | none => simp [ha] at h
    | some a =>
      cases hb : T.flats xs with
      | none => simp [ha, hb] at h
      | some b =>
        simp only [ha, hb, Option.some.injEq] at h
        subst h
        have := RC.of_flat (X := X) x a ha
        simp only [RL]
        exact ⟨a, b, rfl, RC.length _ _ this, this, RL.of_flat xs b hb⟩
theorem RU.of_flat (e : Sk) : ∀ (xs : List T) (cs : List Value), T.flatu e xs = some cs → RU w N e xs cs
  | [], cs, h => by simp only [T.flatu, Option.some.injEq] at h; subst h; simp only [RU]
  | x :: xs, cs, h => by
    simp only [T.flatu] at h
    split at h
    · rename_i he
      have he := Sk.eq_of_beq _ _ he
      cases ha : T.flat x with
      | none => simp [ha] at h
      | some a =>
        cases hb : T.flatu e xs with
        | none => simp [ha, hb] at h
        | some b =>
          simp only [ha, hb, Option.some.injEq] at h
          subst h
          have := RC.of_flat (X := Ext.none) x a ha
          simp only [RU]
          exact ⟨a, b, rfl, by rw [RC.length _ _ this, he], he, this, RU.of_flat e xs b hb⟩
    · cases h
end
end

/-- The same value, as far as it can be told by looking. -/
def veq : Value → Value → Bool
  | .bool a, .bool b => bbeq a b
  | .int k n, .int j m => (match k, j with
    | .i8, .i8 | .i16, .i16 | .i32, .i32 | .i64, .i64 | .u8, .u8 | .u16, .u16 | .u32, .u32 | .u64, .u64 => true
    | _, _ => false) && (match n, m with
    | .ofNat a, .ofNat b => Nat.beq a b
    | _, _ => false)
  | .string a, .string b => (match a.data.toList, b.data.toList with
    | [], [] => true
    | _, _ => false)
  | .pointer none, .pointer none => true
  | .slice none 0 0, .slice none 0 0 => true
  | .map none, .map none => true
  | .nilFunc, .nilFunc => true
  | .nilIface, .nilIface => true
  | _, _ => false

theorem veq_ok {a b : Value} (h : veq a b = true) : a = b := by
  unfold veq at h
  split at h
  · rw [bool_beq h]
  · rename_i k n j m
    simp only [Bool.and_eq_true] at h
    obtain ⟨h1, h2⟩ := h
    have hk : k = j := by cases k <;> cases j <;> simp at h1 <;> rfl
    have hn : n = m := by
      cases n <;> cases m <;> simp at h2
      rw [h2]
    rw [hk, hn]
  · rename_i a b
    split at h
    · rename_i h1 h2
      have e1 : a = b := by
        have : a.data = b.data := Array.toList_inj.1 (by rw [h1, h2])
        cases a; cases b; simpa using this
      rw [e1]
    · cases h
  all_goals first | rfl | cases h

def veqs : List Value → List Value → Bool
  | [], [] => true
  | a :: x, b :: y => veq a b && veqs x y
  | _, _ => false

theorem veqs_ok : ∀ {a b : List Value}, veqs a b = true → a = b
  | [], [], _ => rfl
  | a :: x, b :: y, h => by
    simp only [veqs, Bool.and_eq_true] at h
    rw [veq_ok h.1, veqs_ok h.2]
  | [], _ :: _, h => by simp [veqs] at h
  | _ :: _, [], h => by simp [veqs] at h

def isAggV : Value → Bool
  | .agg _ => true
  | _ => false

/-- The zero value of a type, with its cells, checked against the program's. -/
def zeroOk (P : Program) (t : TypeId) : Option (T × List Value) :=
  match zeroT P t with
  | some x => match x.flat, P.info? t with
    | some cs, some i => match i.zero with
      | some z => if (veqs cs z.cells.toList && bbeq x.isAgg (isAggV z) && Nat.beq i.size x.sk.size) then some (x, cs) else none
      | none => none
    | _, _ => none
  | none => none

theorem zeroOk_spec {P : Program} {t : TypeId} {x : T} {cs : List Value} (h : zeroOk P t = some (x, cs)) :
    ∃ i z, P.info? t = some i ∧ i.zero = some z ∧ z.cells.toList = cs ∧ x.flat = some cs ∧ szT P t = some x.sk.size ∧ ∀ (w : World) (N : Nat → Prop) (X : Ext), RV w N X x z := by
  unfold zeroOk at h
  split at h
  · rename_i x' hx
    split at h
    · rename_i cs' i hf hi
      split at h
      · rename_i z hz
        split at h
        · rename_i hc
          simp only [Option.some.injEq, Prod.mk.injEq] at h
          obtain ⟨rfl, rfl⟩ := h
          simp only [Bool.and_eq_true] at hc
          have h1 := veqs_ok hc.1.1
          have h2 := bool_beq hc.1.2
          have h3 := Nat.eq_of_beq_eq_true hc.2
          refine ⟨i, z, hi, hz, h1.symm, hf, by simp [szT, hi, h3], fun w N X => ?_⟩
          have hr := RC.of_flat (w := w) (N := N) (X := X) x' cs' hf
          rw [h1] at hr
          clear h1 hc
          cases z with
          | agg cs0 => exact .inl ⟨h2, cs0.toList, by simp, hr⟩
          | _ => exact .inr ⟨h2, hr⟩
        · cases h
      · cases h
    · cases h
  · cases h

theorem run_zeroValue' {P : Program} {t : TypeId} {i : TypeInfo} {z : Value} (hi : P.info? t = some i) (hz : i.zero = some z) (w : World) : (zeroValue t).run P w = .ok z w := by
  simp [zeroValue, typeInfo, hi, hz]

theorem run_newVar (P : Program) (t : TypeId) (v : Value) (w : World) : (newVar t v).run P w = .ok ⟨w.heap.size, 0, none⟩ (w.alloc (.cells v.cells t)) := by
  simp [newVar, newRow]

/-- A new variable in memory. -/
theorem Sim.newVar {C : Ctx} {β : Bel} {st : St} {a : Act} {w : World} (h : Sim C β st a w) {id : Nat} (hn : st.m[id]? = some none) {x : T} {v : Value} (hx : RV w (Mut C.N0 st.m β) (ext st.m β) x v) (t : TypeId) :
    ∃ β', Sim C β' (st.fill id ⟨.var x, false⟩) a (w.alloc (.cells v.cells t)) ∧
      RT (w.alloc (.cells v.cells t)) (Mut C.N0 (st.fill id ⟨.var x, false⟩).m β') (ext (st.fill id ⟨.var x, false⟩).m β') (.ref id []) (.pointer (some ⟨w.heap.size, 0, none⟩)) := by
  have hk := keeps_alloc w (.cells v.cells t)
  have hX := fill_ext hn (⟨.var x, false⟩ : Obj) (some (w.heap.size, v.cells.size)) (β := β)
  have hS := fill_stay (C := C) (β := β) (st := st) hk (⟨.var x, false⟩ : Obj) (id := id) (bk := some (w.heap.size, v.cells.size)) (fun b k e => by simp at e; omega)
  refine ⟨β.with id (some (w.heap.size, v.cells.size)), h.fill hk hn _ _ ?_ (fun e => by cases e), ?_⟩
  · intro b k e
    simp only [Option.some.injEq, Prod.mk.injEq] at e
    obtain ⟨rfl, rfl⟩ := e
    exact ⟨Nat.le_refl _, v.cells, t, heap_new _ _, rfl, RC.mono hS hX _ _ hx.cells⟩
  · refine RT.leaf ?_ rfl
    have hlt : id < st.m.length := (List.getElem?_eq_some_iff.1 hn).1
    simp only [RC]
    exact ⟨_, rfl, ⟨.var x, false⟩, w.heap.size, v.cells.size, by simp [St.fill, hlt], by simp [Bel.with], by simp [Cont.off, Sk.off]⟩

/-- A new row of bytes. -/
theorem Sim.newRow {C : Ctx} {β : Bel} {st : St} {a : Act} {w : World} (h : Sim C β st a w) {id : Nat} (hn : st.m[id]? = some none) (c : Cont) (n sz : Nat) (hlen : c.len [] = some (n, sz)) (hoff : c.off [] = 0) {cs : List Value} 
    (hc : CC w (Mut C.N0 st.m β) (ext st.m β) c cs) (t : TypeId) {cap : Nat} (h1 : n ≤ cap) (h2 : cap * sz ≤ cs.length) {w1 : World} (hw1 : Keeps (fun _ => False) w w1) :
    ∃ β', Sim C β' (st.fill id ⟨c, false⟩) a (w1.alloc (.cells cs.toArray t)) ∧
      RT (w1.alloc (.cells cs.toArray t)) (Mut C.N0 (st.fill id ⟨c, false⟩).m β') (ext (st.fill id ⟨c, false⟩).m β') (.row id [] 0 none) (.slice (some ⟨w1.heap.size, 0, none⟩) n cap) := by
  have hk := keeps_alloc w1 (.cells cs.toArray t)
  have h' := h.grow hw1
  have hX := fill_ext hn (⟨c, false⟩ : Obj) (some (w1.heap.size, cs.length)) (β := β)
  have hS := fill_stay (C := C) (β := β) (st := st) hk (⟨c, false⟩ : Obj) (id := id) (bk := some (w1.heap.size, cs.length)) (fun b k e => by simp at e; omega)
  have hS1 : Stay w w1 (Mut C.N0 st.m β) (Mut C.N0 st.m β) := fun b hb hlt => ⟨hb, hw1.block b hlt (fun f => f)⟩
  refine ⟨β.with id (some (w1.heap.size, cs.length)), h'.fill hk hn _ _ ?_ (fun e => by cases e), ?_⟩
  · intro b k e
    simp only [Option.some.injEq, Prod.mk.injEq] at e
    obtain ⟨rfl, rfl⟩ := e
    exact ⟨Nat.le_refl _, cs.toArray, t, heap_new _ _, by simp, by simpa using CC.mono hS hX _ _ (CC.mono hS1 (Ext.Le.refl _) _ _ hc)⟩
  · refine RT.leaf ?_ rfl
    have hlt : id < st.m.length := (List.getElem?_eq_some_iff.1 hn).1
    simp only [RC]
    refine ⟨_, rfl, rfl, ⟨c, false⟩, by simp [St.fill, hlt], n, sz, hlen, by simp, ?_⟩
    simp only [Bel.with, if_true]
    refine ⟨⟨w1.heap.size, 0, none⟩, cap, by simp, by simpa using h1, ?_, fun _ => by simp⟩
    rw [hoff]; simpa using h2

end Go.AL
