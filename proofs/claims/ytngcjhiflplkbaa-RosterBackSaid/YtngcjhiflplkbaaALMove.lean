/- How the relation of state and world goes on: a slot is set, the heap grows, an object is new, an object is written. No condition. -/
import Derived.Test.YtngcjhiflplkbaaALSim
namespace Go.AL
open Go

def St.put (st : St) (d : Option Nat) (x : T) : St :=
  match d with
  | some d => { st with t := st.t.set d x }
  | none => st

theorem getD_set (ts : Array Value) (d k : Nat) (v : Value) : (ts.setIfInBounds d v).getD k undef = if d = k ∧ d < ts.size then v else ts.getD k undef := by
  simp only [Array.getD_eq_getD_getElem?, Array.getElem?_setIfInBounds]
  by_cases h : d = k
  · subst h
    by_cases hs : d < ts.size
    · simp [hs]
    · simp [hs]
  · simp [h]

theorem Sim.put {C : Ctx} {β : Bel} {st : St} {a : Act} {w : World} (h : Sim C β st a w) (d : Option Nat) {x : T} {v : Value}
    (hx : RT w (Mut C.N0 st.m β) (ext st.m β) x v) : Sim C β (st.put d x) (a.put d v) w := by
  cases d with
  | none => exact h
  | some d =>
    refine { h with sz := ?_, tm := ?_ }
    · simp [St.put, Act.put, h.sz]
    · intro k y hy
      simp only [St.put, List.getElem?_set] at hy
      simp only [Act.put, St.put, getD_set]
      by_cases hk : d = k
      · subst hk
        by_cases hs : d < st.t.length
        · simp only [hs, if_true, Option.some.injEq] at hy
          subst hy
          rw [if_pos ⟨rfl, by rw [h.sz]; exact hs⟩]
          exact hx
        · simp [hs] at hy
      · simp only [hk, if_false] at hy
        rw [if_neg (by simp [hk])]
        exact h.tm k y hy

/-- The value of an operand. -/
def ofV : Value → Option T
  | .bool c => some (.b c)
  | .int .i64 n => some (.i n)
  | .int .u8 (.ofNat n) => if n < 256 then some (.u8 (UInt8.ofNat n)) else none
  | .int .u32 (.ofNat n) => if n < 4294967296 then some (.u32 (UInt32.ofNat n)) else none
  | .int .u64 (.ofNat n) => if n < 18446744073709551616 then some (.u64 (UInt64.ofNat n)) else none
  | .string s => some (.s s.data.toList)
  | .pointer none => some (.v (.pointer none))
  | .slice none 0 0 => some (.v (.slice none 0 0))
  | .map none => some (.v (.map none))
  | .nilFunc => some (.v .nilFunc)
  | .nilIface => some (.v .nilIface)
  | .tuple ⟨[]⟩ => some (.tup [])
  | .int k n => some (.v (.int k n))
  | _ => none

def St.ev (st : St) : Operand → Option T
  | .tmp t => st.t[t]?
  | .const v => ofV v
  | .func f => some (.clo f [])
  | .global _ => none

theorem RV.of_leaf {w : World} {N : Nat → Prop} {X : Ext} {x : T} {v : Value} (h : RC w N X x [v]) (ha : x.isAgg = false) : RV w N X x v := .inr ⟨ha, h⟩

theorem ofV_ok {w : World} {N : Nat → Prop} {X : Ext} {v : Value} {x : T} (h : ofV v = some x) : RT w N X x v := by
  unfold ofV at h
  split at h <;> (try (simp only [Option.some.injEq] at h; subst h))
  · exact .of_leaf (by simp [RC]) rfl
  · exact .of_leaf (by simp [RC]) rfl
  · rename_i n
    by_cases hn : n < 256
    · simp only [hn, if_true, Option.some.injEq] at h; subst h
      exact .of_leaf (by simp only [RC, u8v, UInt8.toNat_ofNat']; rw [Nat.mod_eq_of_lt (by simpa using hn)]; rfl) rfl
    · simp [hn] at h
  · rename_i n
    by_cases hn : n < 4294967296
    · simp only [hn, if_true, Option.some.injEq] at h; subst h
      exact .of_leaf (by simp only [RC, UInt32.toNat_ofNat']; rw [Nat.mod_eq_of_lt (by simpa using hn)]; rfl) rfl
    · simp [hn] at h
  · rename_i n
    by_cases hn : n < 18446744073709551616
    · simp only [hn, if_true, Option.some.injEq] at h; subst h
      exact .of_leaf (by simp only [RC, UInt64.toNat_ofNat']; rw [Nat.mod_eq_of_lt (by simpa using hn)]; rfl) rfl
    · simp [hn] at h
  · exact .of_leaf (by simp only [RC, Array.toArray_toList]) rfl
  · exact .of_leaf (by simp [RC, Value.oneCell']) rfl
  · exact .of_leaf (by simp [RC, Value.oneCell']) rfl
  · exact .of_leaf (by simp [RC, Value.oneCell']) rfl
  · exact .of_leaf (by simp [RC, Value.oneCell']) rfl
  · exact .of_leaf (by simp [RC, Value.oneCell']) rfl
  · exact ⟨[], rfl, rfl, fun k x hx => by simp at hx⟩
  · exact .of_leaf (by simp [RC, Value.oneCell']) rfl
  · cases h

theorem Sim.ev {C : Ctx} {β : Bel} {st : St} {a : Act} {w : World} (h : Sim C β st a w) {o : Operand} {x : T} (hx : st.ev o = some x) :
    RT w (Mut C.N0 st.m β) (ext st.m β) x (a.eval o) := by
  cases o with
  | tmp t => exact h.tm t x hx
  | const v => exact ofV_ok hx
  | func f =>
    simp only [St.ev, Option.some.injEq] at hx
    subst hx
    exact .of_leaf (by simp [RC, RL, Act.eval]) rfl
  | global g => simp [St.ev] at hx

/-- The heap grows: nothing that was there is turned. -/
theorem Sim.grow {C : Ctx} {β : Bel} {st : St} {a : Act} {w w' : World} (h : Sim C β st a w) (hk : Keeps (fun _ => False) w w') : Sim C β st a w' := by
  have hs : Stay w w' (Mut C.N0 st.m β) (Mut C.N0 st.m β) := fun b hb hlt => ⟨hb, hk.block b hlt (fun f => f)⟩
  refine { h with tm := fun k x hx => (h.tm k x hx).mono hs (Ext.Le.refl _), me := fun id o ho => ?_, kp := h.kp.trans hk (fun x f => f) (fun x _ f => f.elim) }
  have := h.me id o ho
  revert this
  cases β id with
  | none => exact fun this => this
  | some bk =>
    obtain ⟨b, k⟩ := bk
    rintro ⟨cs, e, fz, h1, h2, h3, h4⟩
    have hlt : b < w.heap.size := (Array.getElem?_eq_some_iff.1 h1).1
    exact ⟨cs, e, fz, (hk.block b hlt (fun f => f)).trans h1, h2, h3, CC.mono hs (Ext.Le.refl _) _ _ h4⟩

def setAt (m : List (Option Obj)) (id : Nat) (o : Option Obj) : List (Option Obj) := m.set id o

def St.fill (st : St) (id : Nat) (o : Obj) : St := { st with m := st.m.set id (some o) }

theorem fill_old {m : List (Option Obj)} {id id' : Nat} {o o' : Obj} (hn : m[id]? = some none) (h : m[id']? = some (some o')) : (m.set id (some o))[id']? = some (some o') := by
  rw [List.getElem?_set]
  by_cases e : id = id'
  · subst e; rw [hn] at h; cases h
  · rw [if_neg e]; exact h

theorem fill_inv {m : List (Option Obj)} {id id' : Nat} {o o' : Obj} (h : (m.set id (some o))[id']? = some (some o')) : (id' = id ∧ o' = o) ∨ (id' ≠ id ∧ m[id']? = some (some o')) := by
  rw [List.getElem?_set] at h
  by_cases e : id = id'
  · subst e
    by_cases hl : id < m.length
    · simp [hl] at h; exact .inl ⟨rfl, h.symm⟩
    · simp [hl] at h
  · rw [if_neg e] at h; exact .inr ⟨fun e' => e e'.symm, h⟩

/-- The places of the objects, with one more. -/
def Bel.with (β : Bel) (id : Nat) (bk : Option (Nat × Nat)) : Bel := fun i => if i = id then bk else β i

theorem Sim.live_lt {C : Ctx} {β : Bel} {st : St} {a : Act} {w : World} (h : Sim C β st a w) {id : Nat} {o : Obj} {b k : Nat} (e1 : st.m[id]? = some (some o)) (e2 : β id = some (b, k)) : b < w.heap.size := by
  have := h.me id o e1
  rw [e2] at this
  obtain ⟨cs, e, fz, q, _⟩ := this
  exact (Array.getElem?_eq_some_iff.1 q).1

theorem fill_ext {st : St} {β : Bel} {id : Nat} (hn : st.m[id]? = some none) (o : Obj) (bk : Option (Nat × Nat)) : (ext st.m β).Le (ext (st.fill id o).m (β.with id bk)) := by
  have hid : ∀ id' o', st.m[id']? = some (some o') → id' ≠ id := fun id' o' h' e => by subst e; rw [hn] at h'; cases h'
  refine ⟨fun id' p ad hh => ?_, fun id' p off r v hh => ?_⟩
  · obtain ⟨o', b, k, e1, e2, e3⟩ := hh
    exact ⟨o', b, k, fill_old hn e1, by simp only [Bel.with]; rw [if_neg (hid _ _ e1)]; exact e2, e3⟩
  · obtain ⟨o', e1, e2⟩ := hh
    exact ⟨o', fill_old hn e1, by simp only [Bel.with]; rw [if_neg (hid _ _ e1)]; exact e2⟩

theorem fill_stay {C : Ctx} {β : Bel} {st : St} {w1 w : World} (hk : Keeps (fun _ => False) w1 w) {id : Nat} (o : Obj) {bk : Option (Nat × Nat)}
    (hb : ∀ b k, bk = some (b, k) → w1.heap.size ≤ b) : Stay w1 w (Mut C.N0 st.m β) (Mut C.N0 (st.fill id o).m (β.with id bk)) := by
  intro b hm hlt
  refine ⟨?_, hk.block b hlt (fun f => f)⟩
  rintro (hN | ⟨id', o', k, e1, e2, e3⟩)
  · exact hm (.inl hN)
  · rcases fill_inv e1 with ⟨rfl, rfl⟩ | ⟨hne, e1'⟩
    · simp only [Bel.with, if_true] at e3
      have := hb b k e3
      omega
    · simp only [Bel.with, if_neg hne] at e3
      exact hm (.inr ⟨id', o', k, e1', e2, e3⟩)

/-- A new object: in a block that was not there, or none (a row that is nil). -/
theorem Sim.fill {C : Ctx} {β : Bel} {st : St} {a : Act} {w1 w : World} (h : Sim C β st a w1) (hk : Keeps (fun _ => False) w1 w) {id : Nat} (hn : st.m[id]? = some none) (o : Obj) (bk : Option (Nat × Nat))
    (hb : ∀ b k, bk = some (b, k) → w1.heap.size ≤ b ∧ ∃ cs e, w.heap[b]? = some (.cells cs e (0, 0)) ∧ cs.size = k ∧
      CC w (Mut C.N0 (st.fill id o).m (β.with id bk)) (ext (st.fill id o).m (β.with id bk)) o.c cs.toList)
    (h0 : bk = none → o.c = .rb [] ∨ ∃ e, o.c = .rs e []) : Sim C (β.with id bk) (st.fill id o) a w := by
  have hid : ∀ id' o', st.m[id']? = some (some o') → id' ≠ id := fun id' o' h' e => by subst e; rw [hn] at h'; cases h'
  have hX := fill_ext hn o bk (β := β)
  have hS := fill_stay (C := C) (β := β) (st := st) hk o (id := id) (bk := bk) (fun b k e => (hb b k e).1)
  have hge : C.nio ≤ id := by
    apply Nat.le_of_not_lt
    intro hlt
    obtain ⟨x, hx⟩ := h.ios id hlt
    rw [hn] at hx; cases hx
  refine ⟨h.sz, h.df, fun k x hx => (h.tm k x hx).mono hS hX, ?_, ?_, ?_, ?_, ?_, h.fn, h.nl, h.kp.trans hk (fun x f => f) (fun x _ f => f.elim), fun i hi => by
    have hne : i ≠ id := by omega
    simp only [Bel.with, if_neg hne]
    exact h.iob i hi⟩
  · intro id' o' e1
    rcases fill_inv e1 with ⟨rfl, rfl⟩ | ⟨hne, e1'⟩
    · simp only [Bel.with, if_true]
      cases bk with
      | none => exact h0 rfl
      | some bk =>
        obtain ⟨b, k⟩ := bk
        obtain ⟨_, cs, e, q1, q2, q3⟩ := hb b k rfl
        exact ⟨cs, e, (0, 0), q1, q2, fun _ => rfl, q3⟩
    · have := h.me id' o' e1'
      simp only [Bel.with, if_neg hne]
      revert this
      cases hq : β id' with
      | none => exact fun this => this
      | some bk' =>
        obtain ⟨b, k⟩ := bk'
        rintro ⟨cs, e, fz, q1, q2, q3, q4⟩
        exact ⟨cs, e, fz, (hk.block b (h.live_lt e1' hq) (fun f => f)).trans q1, q2, q3, CC.mono hS hX _ _ q4⟩
  · intro i1 i2 o1 o2 b k1 k2 e1 e2 e3 e4
    rcases fill_inv e1 with ⟨rfl, rfl⟩ | ⟨n1, e1'⟩ <;> rcases fill_inv e2 with ⟨rfl, rfl⟩ | ⟨n2, e2'⟩
    · rfl
    · simp only [Bel.with, if_true, if_neg n2] at e3 e4
      have := (hb _ _ e3).1
      have := h.live_lt e2' e4
      omega
    · simp only [Bel.with, if_true, if_neg n1] at e3 e4
      have := (hb _ _ e4).1
      have := h.live_lt e1' e3
      omega
    · simp only [Bel.with, if_neg n1, if_neg n2] at e3 e4
      exact h.inj i1 i2 o1 o2 b k1 k2 e1' e2' e3 e4
  · intro id' o' b k e1 e2
    rcases fill_inv e1 with ⟨rfl, rfl⟩ | ⟨n1, e1'⟩
    · simp only [Bel.with, if_true] at e2
      exact .inl ⟨hge, Nat.le_trans h.kp.size (hb _ _ e2).1⟩
    · simp only [Bel.with, if_neg n1] at e2
      exact h.loc id' o' b k e1' e2
  · intro id' hlt
    obtain ⟨x, hx⟩ := h.ios id' hlt
    exact ⟨x, by simp only [St.fill]; rw [List.getElem?_set_ne (by omega)]; exact hx⟩
  · intro id' o' b k e1 hz e2
    rcases fill_inv e1 with ⟨rfl, rfl⟩ | ⟨n1, e1'⟩
    · simp only [Bel.with, if_true] at e2
      exact Nat.le_trans h.kp.size (hb _ _ e2).1
    · simp only [Bel.with, if_neg n1] at e2
      exact h.fzl id' o' b k e1' hz e2

theorem keeps_alloc (w : World) (o : Go.Obj) : Keeps (fun _ => False) w (w.alloc o) := by
  refine ⟨rfl, rfl, rfl, by simp, fun b hb _ => ?_⟩
  show (w.heap.push o)[b]? = _
  rw [Array.getElem?_push, if_neg (by omega)]

theorem keeps_drew (w : World) : Keeps (fun _ => False) w w.drew := ⟨rfl, rfl, rfl, Nat.le_refl _, fun _ _ _ => rfl⟩

theorem heap_new (w : World) (o : Go.Obj) : (w.alloc o).heap[w.heap.size]? = some o := by
  show (w.heap.push o)[w.heap.size]? = _
  simp

/-- An object is written: a part of its cells. -/
theorem Sim.write {C : Ctx} {β : Bel} {st : St} {a : Act} {w w' : World} (h : Sim C β st a w) {id : Nat} {o : Obj} (ho : st.m[id]? = some (some o)) (hf : o.fz = false) {b k : Nat} (hβ : β id = some (b, k))
    (c' : Cont) (hl : o.c.Like c') (cs' : Array Value) (e' : TypeId)
    (hk : Keeps (fun x => x = b) w w') (hb : w'.heap[b]? = some (.cells cs' e' (0, 0))) (hs : cs'.size = k)
    (hc : CC w' (Mut C.N0 st.m β) (ext st.m β) c' cs'.toList) : Sim C β (st.fill id ⟨c', false⟩) a w' := by
  have hlt : id < st.m.length := (List.getElem?_eq_some_iff.1 ho).1
  have hm : ∀ b', Mut C.N0 (st.fill id ⟨c', false⟩).m β b' ↔ Mut C.N0 st.m β b' := by
    intro b'
    constructor
    · rintro (hN | ⟨id', o', k', e1, e2, e3⟩)
      · exact .inl hN
      · rcases fill_inv e1 with ⟨rfl, rfl⟩ | ⟨hne, e1'⟩
        · exact .inr ⟨id', o, k', ho, hf, e3⟩
        · exact .inr ⟨id', o', k', e1', e2, e3⟩
    · rintro (hN | ⟨id', o', k', e1, e2, e3⟩)
      · exact .inl hN
      · by_cases hne : id' = id
        · subst hne
          exact .inr ⟨id', ⟨c', false⟩, k', by simp [St.fill, hlt], rfl, e3⟩
        · exact .inr ⟨id', o', k', by simp only [St.fill]; rw [List.getElem?_set_ne (fun e => hne e.symm)]; exact e1, e2, e3⟩
  have hX : (ext st.m β).Le (ext (st.fill id ⟨c', false⟩).m β) := by
    refine ⟨fun id' p ad hh => ?_, fun id' p off r v hh => ?_⟩
    · obtain ⟨o', b', k', e1, e2, e3⟩ := hh
      by_cases hne : id' = id
      · subst hne
        rw [ho] at e1; simp only [Option.some.injEq] at e1; subst e1
        exact ⟨⟨c', false⟩, b', k', by simp [St.fill, hlt], e2, by rw [e3, hl.off]⟩
      · exact ⟨o', b', k', by simp only [St.fill]; rw [List.getElem?_set_ne (fun e => hne e.symm)]; exact e1, e2, e3⟩
    · obtain ⟨o', e1, e2⟩ := hh
      by_cases hne : id' = id
      · subst hne
        rw [ho] at e1; simp only [Option.some.injEq] at e1; subst e1
        refine ⟨⟨c', false⟩, by simp [St.fill, hlt], ?_⟩
        obtain ⟨n, sz, q1, q2, q3⟩ := e2
        refine ⟨n, sz, by rw [hl.len]; exact q1, q2, ?_⟩
        rw [hβ] at q3 ⊢
        simpa only [hl.off] using q3
      · exact ⟨o', by simp only [St.fill]; rw [List.getElem?_set_ne (fun e => hne e.symm)]; exact e1, e2⟩
  have hbm : Mut C.N0 st.m β b := .inr ⟨id, o, k, ho, hf, hβ⟩
  have hS : Stay w w' (Mut C.N0 st.m β) (Mut C.N0 (st.fill id ⟨c', false⟩).m β) := by
    intro b' hb' hlt'
    refine ⟨fun hx => hb' ((hm b').1 hx), hk.block b' hlt' (fun e => hb' (e ▸ hbm))⟩
  refine ⟨h.sz, h.df, fun j x hx => (h.tm j x hx).mono hS hX, ?_, ?_, ?_, ?_, ?_, h.fn, h.nl, h.kp.trans hk (fun x f => f) ?_, h.iob⟩
  · intro id' o' e1
    rcases fill_inv e1 with ⟨rfl, rfl⟩ | ⟨hne, e1'⟩
    · rw [hβ]
      exact ⟨cs', e', (0, 0), hb, hs, fun _ => rfl, CC.mono (fun b' hb' _ => ⟨fun hx => hb' ((hm b').1 hx), rfl⟩) hX _ _ hc⟩
    · have := h.me id' o' e1'
      revert this
      cases hq : β id' with
      | none => exact fun this => this
      | some bk' =>
        obtain ⟨b', k'⟩ := bk'
        rintro ⟨cs, e, fz, q1, q2, q3, q4⟩
        have hne' : b' ≠ b := fun e => hne (h.inj id' id o' o b k' k e1' ho (by rw [hq, e]) hβ)
        exact ⟨cs, e, fz, (hk.block b' (h.live_lt e1' hq) hne').trans q1, q2, q3, CC.mono hS hX _ _ q4⟩
  · intro i1 i2 o1 o2 b' k1 k2 e1 e2 e3 e4
    have g1 : ∃ o1', st.m[i1]? = some (some o1') := by
      rcases fill_inv e1 with ⟨rfl, _⟩ | ⟨_, e⟩
      · exact ⟨o, ho⟩
      · exact ⟨o1, e⟩
    have g2 : ∃ o2', st.m[i2]? = some (some o2') := by
      rcases fill_inv e2 with ⟨rfl, _⟩ | ⟨_, e⟩
      · exact ⟨o, ho⟩
      · exact ⟨o2, e⟩
    obtain ⟨o1', g1⟩ := g1
    obtain ⟨o2', g2⟩ := g2
    exact h.inj i1 i2 o1' o2' b' k1 k2 g1 g2 e3 e4
  · intro id' o' b' k' e1 e2
    rcases fill_inv e1 with ⟨rfl, _⟩ | ⟨_, e⟩
    · exact h.loc id' o b' k' ho e2
    · exact h.loc id' o' b' k' e e2
  · intro id' hl'
    obtain ⟨x, hx⟩ := h.ios id' hl'
    by_cases hne : id' = id
    · subst hne
      rw [ho] at hx; simp only [Option.some.injEq] at hx; subst hx
      exact ⟨c', by simp [St.fill, hlt]⟩
    · exact ⟨x, by simp only [St.fill]; rw [List.getElem?_set_ne (fun e => hne e.symm)]; exact hx⟩
  · intro id' o' b' k' e1 hz e2
    rcases fill_inv e1 with ⟨rfl, rfl⟩ | ⟨_, e⟩
    · cases hz
    · exact h.fzl id' o' b' k' e hz e2
  · intro x hx hxb
    subst hxb
    rcases h.loc id o x k ho hβ with q | q
    · have := q.2; omega
    · exact q.2.2.1

end Go.AL
