/- A step that writes nothing that is there is sound. No condition. -/
import Derived.Test.YtngcjhiflplkbaaALOpOk
namespace Go.AL
open Go

theorem guard_plain {P : Program} {op : BinOp} {t : TypeId} {xo yo : Operand} {a b : Value} (w : World) (h : ∀ cs, a ≠ .agg cs) (h2 : a ≠ .nilIface) : (eqGuard op t xo yo a b).run P w = .ok () w := by
  cases a <;> first | exact absurd rfl (h _) | exact absurd rfl h2 | (cases op <;> rfl)

theorem bin_s {P : Program} {op : BinOp} {t : TypeId} {a b : List UInt8} {z : T} {ob : Prop} (h : bin op (.s a) (.s b) = some (z, ob)) (w : World) :
    ∃ r, (binOp op t (.string ⟨a.toArray⟩) (.string ⟨b.toArray⟩)).run P w = .ok r w ∧ z.leaf = some r := by
  have hl : ∀ l : List UInt8, (⟨l.toArray⟩ : ByteArray).toList = l := fun l => by simp
  cases op <;> simp only [bin, Option.some.injEq, Prod.mk.injEq, reduceCtorEq] at h <;> obtain ⟨rfl, rfl⟩ := h
  · exact ⟨_, by simp [binOp, Op.stringOp, hl], rfl⟩
  · exact ⟨_, by simp [binOp, Op.stringOp, hl, bne], rfl⟩

theorem bin_ok {P : Program} {op : BinOp} {t : TypeId} {x y z : T} {ob : Prop} {w : World} {N : Nat → Prop} {X : Ext} {v u : Value} (hx : RT w N X x v) (hy : RT w N X y u)
    (h : bin op x y = some (z, ob)) (ho : ob) (hb : binOk P t x y = true) (xo yo : Operand) :
    ∃ r, (do eqGuard op t xo yo v u; binOp op t v u : Sem Value).run P w = .ok r w ∧ z.leaf = some r := by
  have main : ∀ v' u' : Value, x.leaf = some v' → y.leaf = some u' → (∀ cs, v' ≠ .agg cs) → v' ≠ .nilIface → (∃ r, (binOp op t v' u').run P w = .ok r w ∧ z.leaf = some r) →
      ∃ r, (do eqGuard op t xo yo v u; binOp op t v u : Sem Value).run P w = .ok r w ∧ z.leaf = some r := by
    intro v' u' h1 h2 h3 h4 ⟨r, h5, h6⟩
    have := hx.val h1; subst this
    have := hy.val h2; subst this
    exact ⟨r, by simp [guard_plain w h3 h4, h5], h6⟩
  cases x <;> cases y <;> first | (simp only [bin, reduceCtorEq] at h; done) | skip
  · exact main _ _ rfl rfl (fun _ h => by cases h) (fun h => by cases h) (bin_i h ho w)
  · exact main _ _ rfl rfl (fun _ h => by cases h) (fun h => by cases h) (bin_iu h ho w)
  · refine main _ _ rfl rfl (fun _ h => by cases h) (fun h => by cases h) (bin_b ?_ h w)
    simp only [binOk, isBoolT] at hb
    split at hb
    · assumption
    · cases hb
  · exact main _ _ rfl rfl (fun _ h => by simp [u8v] at h) (fun h => by simp [u8v] at h) (bin_u8i h ho w)
  · exact main _ _ rfl rfl (fun _ h => by simp [u8v] at h) (fun h => by simp [u8v] at h) (bin_u8 h ho w)
  · exact main _ _ rfl rfl (fun _ h => by cases h) (fun h => by cases h) (bin_u32i h ho w)
  · exact main _ _ rfl rfl (fun _ h => by cases h) (fun h => by cases h) (bin_u32 h ho w)
  · exact main _ _ rfl rfl (fun _ h => by cases h) (fun h => by cases h) (bin_u32u h ho w)
  · exact main _ _ rfl rfl (fun _ h => by cases h) (fun h => by cases h) (bin_u64i h ho w)
  · exact main _ _ rfl rfl (fun _ h => by cases h) (fun h => by cases h) (bin_u64 h ho w)
  · exact main _ _ rfl rfl (fun _ h => by cases h) (fun h => by cases h) (bin_s h w)

theorem RL.ones {w : World} {N : Nat → Prop} {X : Ext} : ∀ (xs : List T) (vs : List Value), RL w N X xs vs → (∀ x ∈ xs, x.isAgg = false) → xs.length = vs.length ∧ ∀ (k : Nat) (x : T), xs[k]? = some x → ∃ v, vs[k]? = some v ∧ RC w N X x [v]
  | [], vs, h, _ => by
    simp only [RL] at h
    subst h
    exact ⟨rfl, fun k x hk => by simp at hk⟩
  | x :: xs, vs, h, hn => by
    simp only [RL] at h
    obtain ⟨c1, c2, rfl, hl, h1, h2⟩ := h
    have hx := hn x (by simp)
    have hsk : x.sk.size = 1 := by cases x <;> first | rfl | (simp [T.isAgg] at hx)
    rw [hsk] at hl
    obtain ⟨v, rfl⟩ := List.length_eq_one_iff.1 hl
    obtain ⟨r1, r2⟩ := RL.ones xs c2 h2 (fun y hy => hn y (by simp [hy]))
    refine ⟨by simp [r1], fun k y hk => ?_⟩
    cases k with
    | zero => simp at hk; subst hk; exact ⟨v, rfl, h1⟩
    | succ k => simp at hk; simpa using r2 k y hk

theorem run_enter {P : Program} {f : FuncId} {fn : Func} {c : Code} (hf : P.funcs[f]? = some fn) (hname : (fn.name == "runtime.NumGoroutine") = false) (hb : fn.body = some c) (args : Array Value) (w : World) :
    (callFunc f args).run P w = .ok (.enter f args) w := by
  have h1 : fn.name ≠ "runtime.NumGoroutine" := by simpa using hname
  simp [callFunc, hf, h1, hb]

/-- A call by its value. -/
theorem run_call {P : Program} {ρ : Operand → Value} {c : Call} {g : Operand} {f : FuncId} {caps : List Value} (hc : c.callee = .value g) (hg : ρ g = .func (.func f) #[] caps.toArray) (hok : callOk P f = true) (o : Oper) (ho : o.op = .call c) (w : World) :
    (execOp ρ o).run P w = .ok (.enter f ((c.args.toList.map ρ) ++ caps).toArray) w := by
  unfold callOk at hok
  split at hok
  · rename_i fn hf
    simp only [Bool.and_eq_true, Bool.not_eq_true'] at hok
    obtain ⟨b, hb⟩ := Option.isSome_iff_exists.1 hok.1
    have hargs : c.args.map ρ = (c.args.toList.map ρ).toArray := by rw [← Array.toList_inj]; simp
    have hcf := run_enter (P := P) hf hok.2 hb ((c.args.toList.map ρ) ++ caps).toArray w
    simp only [execOp, ho, resolve, hc, hg, Deferred.ofValue, Sem.run_bind, Sem.run_pure, Result.andThen, invoke, hargs]
    simpa using hcf
  · cases hok
end Go.AL
