/- A row that grows: what led to it before is forgotten. No condition. -/
import Derived.Test.YtngcjhiflplkbaaALArith
namespace Go.AL
open Go

mutual
def T.kill (id : Nat) : T → T
  | .agg fs => .agg (T.kills id fs)
  | .ifc t x => .ifc t (T.kill id x)
  | .clo f caps => .clo f (T.kills id caps)
  | .tup xs => .tup (T.kills id xs)
  | .ref j p => if Nat.beq j id then .junk else .ref j p
  | .row j p o r => if Nat.beq j id then .junk else .row j p o r
  | .i n => .i n | .b c => .b c | .u8 x => .u8 x | .u32 x => .u32 x | .u64 x => .u64 x | .s l => .s l | .v x => .v x
  | .ba n l => .ba n l | .arr n e xs => .arr n e xs | .sb l => .sb l | .sl e xs => .sl e xs | .pt x => .pt x
  | .junk => .junk | .ow l => .ow l | .os e xs => .os e xs
def T.kills (id : Nat) : List T → List T
  | [] => []
  | x :: xs => T.kill id x :: T.kills id xs
end

mutual
theorem kill_sk (id : Nat) : ∀ x : T, (x.kill id).sk = x.sk
  | .agg fs => by simp only [T.kill, T.sk, kills_sk id fs]
  | .ref j p => by simp only [T.kill]; split <;> rfl
  | .row j p o r => by simp only [T.kill]; split <;> rfl
  | .ifc _ _ | .clo _ _ | .tup _ | .i _ | .b _ | .u8 _ | .u32 _ | .u64 _ | .s _ | .v _ | .ba _ _ | .arr _ _ _ | .sb _ | .sl _ _ | .pt _ | .junk | .ow _ | .os _ _ => by simp only [T.kill, T.sk]
theorem kills_sk (id : Nat) : ∀ xs : List T, T.sks (T.kills id xs) = T.sks xs
  | [] => rfl
  | x :: xs => by simp only [T.kills, T.sks, kill_sk id x, kills_sk id xs]
end

theorem kill_agg (id : Nat) (x : T) : (x.kill id).isAgg = x.isAgg := by
  cases x
  case ref j p => simp only [T.kill]; by_cases hc : Nat.beq j id = true <;> simp [hc, T.isAgg]
  case row j p o r => simp only [T.kill]; by_cases hc : Nat.beq j id = true <;> simp [hc, T.isAgg]
  all_goals simp only [T.kill, T.isAgg]

/-- Two meanings that part at one object alone. -/
def Off (id : Nat) (X X' : Ext) : Prop := (∀ j p a, j ≠ id → X.rf j p a → X'.rf j p a) ∧ ∀ j p o r v, j ≠ id → X.rw j p o r v → X'.rw j p o r v

section
variable {w w' : World} {N N' : Nat → Prop} {X X' : Ext} {id : Nat}
mutual
theorem RC.kill (h : Stay w w' N N') (hX : Off id X X') : ∀ (x : T) (cs : List Value), RC w N X x cs → RC w' N' X' (x.kill id) cs
  | .i _, _, k | .b _, _, k | .u8 _, _, k | .u32 _, _, k | .u64 _, _, k | .s _, _, k | .v _, _, k | .ba _ _, _, k | .junk, _, k => by simpa only [T.kill, RC] using k
  | .sb l, cs, k => by
    simp only [T.kill, RC] at k ⊢
    obtain ⟨A, c, h1, h2, h3⟩ := k
    exact ⟨A, c, h1, h2, h3.mono h⟩
  | .arr n e xs, cs, k => by
    simp only [T.kill, RC] at k ⊢
    exact ⟨k.1, RU.mono h xs cs k.2⟩
  | .sl e xs, cs, k => by
    simp only [T.kill, RC] at k ⊢
    obtain ⟨A, c, h1, h2, ds, h3, h4⟩ := k
    exact ⟨A, c, h1, h2, ds, RU.mono h xs ds h3, h4.mono h⟩
  | .pt x, cs, k => by
    simp only [T.kill, RC] at k ⊢
    obtain ⟨a, ds, h1, h0, h2, h3⟩ := k
    exact ⟨a, ds, h1, h0, RC.mono h (Ext.Le.refl _) x ds h2, h3.mono h⟩
  | .agg fs, cs, k => by
    simp only [T.kill, RC] at k ⊢
    exact RL.kill h hX fs cs k
  | .ifc t x, cs, k => by
    simp only [T.kill, RC] at k ⊢
    obtain ⟨y, h1, h2⟩ := k
    refine ⟨y, h1, ?_⟩
    rcases h2 with ⟨h2, ds, h3, h4⟩ | ⟨h2, h4⟩
    · exact .inl ⟨by rw [kill_agg]; exact h2, ds, h3, RC.kill h hX x ds h4⟩
    · exact .inr ⟨by rw [kill_agg]; exact h2, RC.kill h hX x _ h4⟩
  | .clo f caps, cs, k => by
    simp only [T.kill, RC] at k ⊢
    obtain ⟨vs, h1, h2, h3⟩ := k
    refine ⟨vs, h1, RL.kill h hX caps vs h2, ?_⟩
    rw [h3, ← sks_length caps, ← kills_sk id caps, sks_length]
  | .ref j p, cs, k => by
    simp only [RC] at k
    obtain ⟨a, h1, h2⟩ := k
    simp only [T.kill]
    split
    · simp only [RC]; exact ⟨_, h1, rfl⟩
    · rename_i hj
      simp only [RC]
      exact ⟨a, h1, hX.1 j p a (fun e => hj (by rw [e]; simp)) h2⟩
  | .row j p o r, cs, k => by
    simp only [RC] at k
    obtain ⟨a, h1, h3, h2⟩ := k
    simp only [T.kill]
    split
    · simp only [RC]; exact ⟨_, h1, h3⟩
    · rename_i hj
      simp only [RC]
      exact ⟨a, h1, h3, hX.2 j p o r a (fun e => hj (by rw [e]; simp)) h2⟩
  | .tup _, _, k | .ow _, _, k | .os _ _, _, k => by simp only [RC] at k
theorem RL.kill (h : Stay w w' N N') (hX : Off id X X') : ∀ (xs : List T) (cs : List Value), RL w N X xs cs → RL w' N' X' (T.kills id xs) cs
  | [], cs, k => by simpa only [T.kills, RL] using k
  | x :: xs, cs, k => by
    simp only [T.kills, RL] at k ⊢
    obtain ⟨c1, c2, h1, h2, h3, h4⟩ := k
    exact ⟨c1, c2, h1, by rw [kill_sk]; exact h2, RC.kill h hX x c1 h3, RL.kill h hX xs c2 h4⟩
end

theorem RV.kill (h : Stay w w' N N') (hX : Off id X X') {x : T} {v : Value} (k : RV w N X x v) : RV w' N' X' (x.kill id) v := by
  rcases k with ⟨h1, ds, h2, h3⟩ | ⟨h1, h2⟩
  · exact .inl ⟨by rw [kill_agg]; exact h1, ds, h2, RC.kill h hX x ds h3⟩
  · exact .inr ⟨by rw [kill_agg]; exact h1, RC.kill h hX x _ h2⟩

theorem kills_get (id : Nat) : ∀ (xs : List T) (k : Nat) (y : T), (T.kills id xs)[k]? = some y → ∃ x, xs[k]? = some x ∧ y = x.kill id
  | [], _, _, h => by simp [T.kills] at h
  | x :: xs, 0, y, h => by simp [T.kills] at h; exact ⟨x, by simp, h.symm⟩
  | x :: xs, k + 1, y, h => by simp [T.kills] at h; simpa using kills_get id xs k y h

theorem kills_length (id : Nat) : ∀ (xs : List T), (T.kills id xs).length = xs.length
  | [] => rfl
  | _ :: xs => by simp [T.kills, kills_length id xs]

theorem RT.kill (h : Stay w w' N N') (hX : Off id X X') {x : T} {v : Value} (k : RT w N X x v) : RT w' N' X' (x.kill id) v := by
  cases x
  case junk => simp only [T.kill, RT]
  case tup xs =>
    obtain ⟨vs, h1, h2, h3⟩ := k
    simp only [T.kill]
    refine ⟨vs, h1, by rw [h2, kills_length], fun j y hy => ?_⟩
    obtain ⟨x, hx, rfl⟩ := kills_get id xs j y hy
    obtain ⟨u, hu, hr⟩ := h3 j x hx
    exact ⟨u, hu, hr.kill h hX⟩
  all_goals exact RT.of_RV (RV.kill h hX k)
end

def Cont.kill (id : Nat) : Cont → Cont
  | .var x => .var (x.kill id)
  | c => c

def killM (id : Nat) : List (Option Obj) → List (Option Obj)
  | [] => []
  | some o :: m => some ⟨o.c.kill id, o.fz⟩ :: killM id m
  | none :: m => none :: killM id m

theorem killM_get (id : Nat) : ∀ (m : List (Option Obj)) (k : Nat), (killM id m)[k]? = (m[k]?).map (fun o => o.map fun o => ⟨o.c.kill id, o.fz⟩)
  | [], _ => by simp [killM]
  | some o :: m, 0 => by simp [killM]
  | none :: m, 0 => by simp [killM]
  | some o :: m, k + 1 => by simp [killM, killM_get id m k]
  | none :: m, k + 1 => by simp [killM, killM_get id m k]

theorem Cont.kill_off (id : Nat) (c : Cont) (p : List Nat) : (c.kill id).off p = c.off p := by cases c <;> simp [Cont.kill, Cont.off, kill_sk]
theorem Cont.kill_len (id : Nat) (c : Cont) (p : List Nat) : (c.kill id).len p = c.len p := by cases c <;> simp [Cont.kill, Cont.len, kill_sk]

theorem CC.kill {w w' : World} {N N' : Nat → Prop} {X X' : Ext} {id : Nat} (h : Stay w w' N N') (hX : Off id X X') (c : Cont) (cs : List Value) (k : CC w N X c cs) : CC w' N' X' (c.kill id) cs := by
  cases c with
  | var x => exact RC.kill h hX x cs k
  | rb l => exact k
  | rs e xs =>
    obtain ⟨c, r, h1, h2⟩ := k
    exact ⟨c, r, h1, RU.mono h xs c h2⟩

/-- The state without what led to an object, which is made anew. -/
def St.renew (st : St) (id : Nat) (c : Cont) : St := ⟨T.kills id st.t, (killM id st.m).set id (some ⟨c, false⟩)⟩

theorem Sim.renew {C : Ctx} {β : Bel} {st : St} {a : Act} {w w' : World} (h : Sim C β st a w) {id : Nat} {o : Obj} (ho : st.m[id]? = some (some o)) (hf : o.fz = false) (hge : C.nio ≤ id)
    (c' : Cont) (bk : Option (Nat × Nat)) (hk : Keeps (fun x => ∃ k, β id = some (x, k)) w w')
    (hb : ∀ b k, bk = some (b, k) → (β id = some (b, k) ∨ w.heap.size ≤ b) ∧ ∃ cs e, w'.heap[b]? = some (.cells cs e (0, 0)) ∧ cs.size = k ∧ ((∃ l, c' = .rb l) ∨ ∃ e xs, c' = .rs e xs) ∧ CC w (Mut C.N0 st.m β) (ext st.m β) c' cs.toList)
    (h0 : bk = none → c' = .rb [] ∨ ∃ e, c' = .rs e []) :
    Sim C (β.with id bk) (st.renew id c') a w' ∧ Stay w w' (Mut C.N0 st.m β) (Mut C.N0 (st.renew id c').m (β.with id bk)) ∧ Off id (ext st.m β) (ext (st.renew id c').m (β.with id bk)) := by
  have hlt : id < st.m.length := (List.getElem?_eq_some_iff.1 ho).1
  have hklen : (killM id st.m).length = st.m.length := by
    have : ∀ m : List (Option Obj), (killM id m).length = m.length := by
      intro m
      induction m with
      | nil => rfl
      | cons x m ih => cases x <;> simp [killM, ih]
    exact this _
  have hself : (st.renew id c').m[id]? = some (some ⟨c', false⟩) := by simp [St.renew, hklen, hlt]
  have hget : ∀ id' o', id' ≠ id → st.m[id']? = some (some o') → (st.renew id c').m[id']? = some (some ⟨o'.c.kill id, o'.fz⟩) := by
    intro id' o' hne e
    simp only [St.renew]
    rw [List.getElem?_set_ne (fun e => hne e.symm), killM_get, e]
    rfl
  have hinv : ∀ id' o', (st.renew id c').m[id']? = some (some o') → (id' = id ∧ o' = ⟨c', false⟩) ∨ (id' ≠ id ∧ ∃ o'', st.m[id']? = some (some o'') ∧ o' = ⟨o''.c.kill id, o''.fz⟩) := by
    intro id' o' e
    by_cases hne : id' = id
    · subst hne
      rw [hself] at e
      simp only [Option.some.injEq] at e
      exact .inl ⟨rfl, e.symm⟩
    · refine .inr ⟨hne, ?_⟩
      simp only [St.renew] at e
      rw [List.getElem?_set_ne (fun e => hne e.symm), killM_get] at e
      cases hm : st.m[id']? with
      | none => simp [hm] at e
      | some oo =>
        cases oo with
        | none => simp [hm] at e
        | some o'' =>
          simp [hm] at e
          exact ⟨o'', rfl, e.symm⟩
  have hS : Stay w w' (Mut C.N0 st.m β) (Mut C.N0 (st.renew id c').m (β.with id bk)) := by
    intro b hm hltb
    refine ⟨?_, hk.block b hltb ?_⟩
    · rintro (hN | ⟨id', o', k, e1, e2, e3⟩)
      · exact hm (.inl hN)
      · rcases hinv id' o' e1 with ⟨rfl, rfl⟩ | ⟨hne, o'', e1', rfl⟩
        · simp only [Bel.with, if_true] at e3
          rcases (hb b k e3).1 with hq | hq
          · exact hm (.inr ⟨id', o, k, ho, hf, hq⟩)
          · omega
        · simp only [Bel.with, if_neg hne] at e3
          exact hm (.inr ⟨id', o'', k, e1', e2, e3⟩)
    · rintro ⟨k, hq⟩
      exact hm (.inr ⟨id, o, k, ho, hf, hq⟩)
  have hX : Off id (ext st.m β) (ext (st.renew id c').m (β.with id bk)) := by
    refine ⟨fun j p ad hne hh => ?_, fun j p off r v hne hh => ?_⟩
    · obtain ⟨o', b, k, e1, e2, e3⟩ := hh
      exact ⟨_, b, k, hget j o' hne e1, by simp only [Bel.with, if_neg hne]; exact e2, by rw [Cont.kill_off]; exact e3⟩
    · obtain ⟨o', e1, n, sz, q1, q2, q3⟩ := hh
      refine ⟨_, hget j o' hne e1, n, sz, by rw [Cont.kill_len]; exact q1, q2, ?_⟩
      simp only [Bel.with, if_neg hne, Cont.kill_off]
      exact q3
  refine ⟨⟨by simp [St.renew, kills_length, h.sz], h.df, ?_, ?_, ?_, ?_, ?_, ?_, h.fn, h.nl, h.kp.trans hk (fun x f => f) ?_, fun i hi => by
    have hne : i ≠ id := by omega
    simp only [Bel.with, if_neg hne]
    exact h.iob i hi⟩, hS, hX⟩
  · intro k y hy
    obtain ⟨x, hx, rfl⟩ := kills_get id st.t k y hy
    exact (h.tm k x hx).kill hS hX
  · intro id' o' e1
    rcases hinv id' o' e1 with ⟨rfl, rfl⟩ | ⟨hne, o'', e1', rfl⟩
    · simp only [Bel.with, if_true]
      cases bk with
      | none => exact h0 rfl
      | some bk =>
        obtain ⟨b, k⟩ := bk
        obtain ⟨_, cs, e, q1, q2, q3, q4⟩ := hb b k rfl
        refine ⟨cs, e, (0, 0), q1, q2, fun _ => rfl, ?_⟩
        rcases q3 with ⟨l, rfl⟩ | ⟨e', xs, rfl⟩
        · exact q4
        · obtain ⟨d, r, g1, g2⟩ := q4
          exact ⟨d, r, g1, RU.mono hS xs d g2⟩
    · have := h.me id' o'' e1'
      simp only [Bel.with, if_neg hne]
      revert this
      cases hq : β id' with
      | none =>
        rintro (this | ⟨e, this⟩) <;> simp only [this, Cont.kill]
        · exact .inl trivial
        · exact .inr ⟨e, rfl⟩
      | some bk' =>
        obtain ⟨b, k⟩ := bk'
        rintro ⟨cs, e, fz, q1, q2, q3, q4⟩
        refine ⟨cs, e, fz, (hk.block b (h.live_lt e1' hq) ?_).trans q1, q2, q3, CC.kill hS hX _ _ q4⟩
        rintro ⟨k', hq'⟩
        exact hne (h.inj id' id o'' o b k k' e1' ho hq hq')
  · intro i1 i2 o1 o2 b k1 k2 e1 e2 e3 e4
    rcases hinv i1 o1 e1 with ⟨rfl, rfl⟩ | ⟨n1, o1', e1', rfl⟩ <;> rcases hinv i2 o2 e2 with ⟨rfl, rfl⟩ | ⟨n2, o2', e2', rfl⟩
    · rfl
    · simp only [Bel.with, if_true, if_neg n2] at e3 e4
      rcases (hb b k1 e3).1 with hq | hq
      · exact h.inj i1 i2 o o2' b k1 k2 ho e2' hq e4
      · have := h.live_lt e2' e4
        omega
    · simp only [Bel.with, if_true, if_neg n1] at e3 e4
      rcases (hb b k2 e4).1 with hq | hq
      · exact h.inj i1 i2 o1' o b k1 k2 e1' ho e3 hq
      · have := h.live_lt e1' e3
        omega
    · simp only [Bel.with, if_neg n1, if_neg n2] at e3 e4
      exact h.inj i1 i2 o1' o2' b k1 k2 e1' e2' e3 e4
  · intro id' o' b k e1 e2
    rcases hinv id' o' e1 with ⟨rfl, rfl⟩ | ⟨n1, o1', e1', rfl⟩
    · simp only [Bel.with, if_true] at e2
      rcases (hb b k e2).1 with hq | hq
      · exact h.loc id' o b k ho hq
      · exact .inl ⟨hge, Nat.le_trans h.kp.size hq⟩
    · simp only [Bel.with, if_neg n1] at e2
      exact h.loc id' o1' b k e1' e2
  · intro id' hlt'
    obtain ⟨x, hx⟩ := h.ios id' hlt'
    exact ⟨x.kill id, hget id' _ (by omega) hx⟩
  · intro id' o' b k e1 hz e2
    rcases hinv id' o' e1 with ⟨rfl, rfl⟩ | ⟨n1, o1', e1', rfl⟩
    · cases hz
    · simp only [Bel.with, if_neg n1] at e2
      exact h.fzl id' o1' b k e1' hz e2
  · rintro x hx ⟨k, hq⟩
    rcases h.loc id o x k ho hq with q | q
    · have := q.2; omega
    · exact q.2.2.1

end Go.AL
