/- A function's contract out of its code: sound. No condition. -/
import Derived.Test.YtngcjhiflplkbaaALFunc
namespace Go.AL
open Go

def resM (tmps : Array Value) (r : ResultVar) : Sem Value := match r with
  | .tmp t => pure (tmps.getD t undef)
  | .cell a t => do loadVar t (← asAddr (tmps.getD a undef))

section
variable {P : Program} {C : Ctx} {β : Bel} {st : St} {a : Act} {w : World} (h : Sim C β st a w)
include h

theorem outT_ok : ∀ (rs : List ResultVar) (xs : List T) (ob : Prop), st.outT P rs = some (xs, ob) → ob →
    ∃ vs : List Value, (rs.mapM (resM a.tmps)).run P w = .ok vs w ∧ vs.length = xs.length ∧
      ∀ (k : Nat) (x : T), xs[k]? = some x → ∃ v, vs[k]? = some v ∧ RV w (Mut C.N0 st.m β) (ext st.m β) x v
  | [], xs, ob, ho, _ => by
    simp only [St.outT, Option.some.injEq, Prod.mk.injEq] at ho
    obtain ⟨rfl, rfl⟩ := ho
    exact ⟨[], by simp, rfl, fun k x hk => by simp at hk⟩
  | .tmp t :: rs, xs, ob, ho, hob => by
    simp only [St.outT] at ho
    split at ho
    · rename_i x xs' ob' hx hrest
      split at ho
      · rename_i hp
        simp only [Option.some.injEq, Prod.mk.injEq] at ho
        obtain ⟨rfl, rfl⟩ := ho
        obtain ⟨vs, g1, g2, g3⟩ := outT_ok rs xs' _ hrest hob
        refine ⟨a.tmps.getD t undef :: vs, ?_, by simp [g2], fun k y hk => ?_⟩
        · rw [List.mapM_cons]
          simp only [resM, Sem.run_bind, Sem.run_pure, Result.andThen, g1]
        · cases k with
          | zero => simp at hk; subst hk; exact ⟨_, rfl, RV.of_plain (h.tm t x hx) hp⟩
          | succ k => simp at hk; simpa using g3 k y hk
      · cases ho
    · cases ho
  | .cell c t :: rs, xs, ob, ho, hob => by
    simp only [St.outT] at ho
    split at ho
    · rename_i x xs' ob' hx hrest
      split at ho
      · rename_i y ob2 hl
        split at ho
        · rename_i hp
          simp only [Option.some.injEq, Prod.mk.injEq] at ho
          obtain ⟨rfl, rfl⟩ := ho
          obtain ⟨vs, g1, g2, g3⟩ := outT_ok rs xs' _ hrest hob.2
          have hxt := h.tm c x hx
          obtain ⟨u, q1, q2⟩ := h.ld hxt hl hob.1
          have hptr : ∃ ad, a.tmps.getD c undef = .pointer (some ad) := by
            unfold St.ld at hl
            split at hl
            · obtain ⟨ad, hq, _⟩ := hxt.ref; exact ⟨ad, hq⟩
            · obtain ⟨ad, _, hq, _⟩ := hxt.pt; exact ⟨ad, hq⟩
            · cases hl
          obtain ⟨ad, hptr⟩ := hptr
          have hload : (resM a.tmps (.cell c t)).run P w = .ok u w := by
            simp only [resM]
            rw [hptr] at q1 ⊢
            simpa [Instr.loadAt, asAddr, Instr.sureAddr] using q1
          refine ⟨u :: vs, ?_, by simp [g2], fun k z hk => ?_⟩
          · rw [List.mapM_cons]
            rw [Sem.run_bind, hload]
            simp only [Result.andThen, Sem.run_bind, g1, Sem.run_pure]
          · cases k with
            | zero => simp at hk; subst hk; exact ⟨_, rfl, RV.of_plain q2 hp⟩
            | succ k => simp at hk; simpa using g3 k z hk
        · cases ho
      · cases ho
    · cases ho

theorem results_ok {fn : Func} {xs : List T} {ob : Prop} (ho : st.outT P fn.results.toList = some (xs, ob)) (hob : ob) :
    ∃ vs : List Value, (results fn a.tmps).run P w = .ok (match vs with | [v] => v | vs => .tuple vs.toArray) w ∧ vs.length = xs.length ∧
      ∀ (k : Nat) (x : T), xs[k]? = some x → ∃ v, vs[k]? = some v ∧ RV w (Mut C.N0 st.m β) (ext st.m β) x v := by
  obtain ⟨vs, g1, g2, g3⟩ := outT_ok h fn.results.toList xs ob ho hob
  refine ⟨vs, ?_, g2, g3⟩
  have hr : results fn a.tmps = (do let vs ← fn.results.mapM (resM a.tmps); pure (if h : vs.size = 1 then vs[0] else .tuple vs)) := rfl
  rw [hr, Array.mapM_eq_mapM_toList]
  simp only [map_eq_pure_bind, bind_assoc, pure_bind]
  rw [Sem.run_bind, g1]
  simp only [Result.andThen, Sem.run_pure]
  match vs with
  | [] => rfl
  | [v] => rfl
  | v :: u :: vs => simp
end

/-- A function's first state. -/
def St.start (fn : Func) (args : List T) (ins : List Cont) : St := ⟨args ++ List.replicate (fn.ntmps - args.length) (.tup []), ins.map (fun c => some ⟨c, false⟩) ++ [none]⟩

/-- What must hold at the end. -/
def atEnd (P : Program) (fn : Func) (nio : Nat) (res : T) (outs : List Cont) (ex : AX) (st : St) : Prop := match ex with
  | .normal => st.fin P nio fn.results.toList res outs
  | .ret => st.fin P nio fn.results.toList res outs
  | .exit _ => False

theorem outsOk_len {nio : Nat} : ∀ {outs : List Cont} {k : Nat} {m : List (Option Obj)}, outsOk nio k m outs → k + outs.length = nio ∧
    ∀ (j : Nat) (y : Cont), outs[j]? = some y → ∃ o : Obj, m[j]? = some (some o) ∧ o.c = y ∧ o.fz = false ∧ y.data = true ∧ k + j < nio
  | [], k, m, h => by
    unfold outsOk at h
    split at h
    · rename_i hb; exact ⟨by simpa using Nat.eq_of_beq_eq_true hb, fun j y hj => by simp at hj⟩
    · exact h.elim
  | y :: ys, k, m, h => by
    cases m with
    | nil => simp [outsOk] at h
    | cons x m =>
      cases x with
      | none => simp [outsOk] at h
      | some o =>
        simp only [outsOk] at h
        split at h
        · rename_i hc
          simp only [Bool.and_eq_true, Bool.not_eq_true'] at hc
          obtain ⟨r1, r2⟩ := outsOk_len h.2
          have hzy := ceq_ok h.1
          subst hzy
          refine ⟨by simp; omega, fun j y' hj => ?_⟩
          cases j with
          | zero =>
            simp at hj; subst hj
            exact ⟨o, rfl, rfl, hc.1.1, hc.1.2, by have := Nat.le_of_ble_eq_true hc.2; omega⟩
          | succ j =>
            simp at hj
            obtain ⟨o', q1, q2, q3, q4, q5⟩ := r2 j y' hj
            exact ⟨o', by simpa using q1, q2, q3, q4, by omega⟩
        · exact h.elim

theorem CC.dataX {w : World} {N : Nat → Prop} {X X' : Ext} {c : Cont} {cs : List Value} (hd : c.data = true) (h : CC w N X c cs) : CC w N X' c cs := by
  cases c with
  | var x => exact RC.data _ _ hd h
  | rb l => exact h
  | rs e xs => exact h

theorem ltG_false {nio id : Nat} (h : ltG nio id = false) : nio ≤ id := by
  apply Nat.le_of_not_lt
  intro hlt
  have : ltG nio id = true := by unfold ltG Nat.blt; rw [Nat.ble_eq]; omega
  rw [h] at this; cases this

theorem fin_ok {P : Program} {C : Ctx} {β : Bel} {st : St} {a : Act} {w : World} (h : Sim C β st a w) {fn : Func} {res : T} {outs : List Cont} {bs : List Nat} (hbs : ∀ k, k < C.nio → bs[k]? = some (C.io k)) (hf : st.fin P C.nio fn.results.toList res outs) :
    ∃ v, (results fn a.tmps).run P w = .ok v w ∧ RR C.w0 w C.N0 bs outs res v ∧ outs.length = C.nio ∧
      ∀ (k : Nat) (y : Cont), outs[k]? = some y → ∃ cs e, w.heap[C.io k]? = some (.cells cs e (0, 0)) ∧ cs.size = C.sz k ∧ CC w C.N0 Ext.none y cs.toList := by
  unfold St.fin at hf
  split at hf
  · rename_i xs ob hout
    obtain ⟨hob, houts, hres⟩ := hf
    obtain ⟨vs, g1, g2, g3⟩ := results_ok h hout hob
    obtain ⟨o1, o2⟩ := outsOk_len houts
    have hNM : ∀ b, ¬ Mut C.N0 st.m β b → ¬ C.N0 b := fun b hb hN => hb (.inl hN)
    have hview : ∀ (id : Nat) (o : Obj) (b k : Nat), st.m[id]? = some (some o) → β id = some (b, k) → ltG C.nio id = false → ¬ C.N0 b := by
      intro id o b k e1 e2 hg hN
      have hge := ltG_false hg
      rcases h.loc id o b k e1 e2 with hq | hq
      · have := h.nl b hN; omega
      · have := hq.1; omega
    have hne : ∀ (k : Nat) (y : Cont), outs[k]? = some y → ∃ o cs e kk, st.m[k]? = some (some o) ∧ o.c = y ∧ β k = some (C.io k, kk) ∧ w.heap[C.io k]? = some (.cells cs e (0, 0)) ∧ cs.size = C.sz k ∧ kk = C.sz k ∧ CC w C.N0 Ext.none y cs.toList := by
      intro k y hk
      obtain ⟨o, q1, q2, q3, q4, q5⟩ := o2 k y hk
      have hme := h.me k o q1
      have hbk : ∃ b kk, β k = some (b, kk) := h.iob k (by omega)
      obtain ⟨b, kk, hβ⟩ := hbk
      rw [hβ] at hme
      obtain ⟨cs, e, fz, p1, p2, p3, p4⟩ := hme
      rw [p3 q3] at p1
      rcases h.loc k o b kk q1 hβ with hq | hq
      · have := hq.1; omega
      · obtain ⟨_, hq2, _, hq4⟩ := hq
        subst hq2
        rw [q2] at p4
        exact ⟨o, cs, e, kk, q1, q2, hβ, p1, by omega, hq4.symm, CC.dataX q4 (CC.mono (fun b hb _ => ⟨hNM b hb, rfl⟩) (Ext.Le.refl _) _ _ p4)⟩
    have hlast : outs.length = C.nio ∧ ∀ (k : Nat) (y : Cont), outs[k]? = some y → ∃ cs e, w.heap[C.io k]? = some (.cells cs e (0, 0)) ∧ cs.size = C.sz k ∧ CC w C.N0 Ext.none y cs.toList := by
      refine ⟨by omega, fun k y hk => ?_⟩
      obtain ⟨o, cs, e, kk, q1, q2, q3, q4, q5, q6, q7⟩ := hne k y hk
      exact ⟨cs, e, q4, q5, q7⟩
    -- one result
    have one : ∀ x, xs = [x] → ∃ v, vs = [v] ∧ (results fn a.tmps).run P w = .ok v w ∧ RV w (Mut C.N0 st.m β) (ext st.m β) x v := by
      intro x hx
      subst hx
      obtain ⟨v, hv⟩ := one_list g2
      obtain ⟨v', q1, q2⟩ := g3 0 x rfl
      rw [hv] at q1; simp at q1; subst q1
      rw [hv] at g1
      exact ⟨v, hv, g1, q2⟩
    have ofRow : ∀ (id : Nat) (c : Cont) (o : Obj), xs = [.row id [] 0 none] → st.m[id]? = some (some o) → o.c = c → o.fz = false → C.nio ≤ id → (∃ n sz, c.len [] = some (n, sz)) → c.off [] = 0 → (∀ n sz, c.len [] = some (n, sz) → n = 0 → True) → ((∃ l, c = .rb l) ∨ ∃ e ys, c = .rs e ys) →
        ∃ v, (results fn a.tmps).run P w = .ok v w ∧ OwnS C.w0 w C.N0 c v := by
      intro id c o hx hm hc hfz hge ⟨n, sz, hlen⟩ hoff _ hform
      obtain ⟨v, _, hrun, hrv⟩ := one _ hx
      refine ⟨v, hrun, n, sz, hlen, hoff, ?_⟩
      obtain ⟨_, o', e1, n', sz', e2, e3, e4⟩ := (RT.of_RV hrv).row
      rw [hm] at e1; simp only [Option.some.injEq] at e1; subst e1
      rw [hc, hlen] at e2; simp only [Option.some.injEq, Prod.mk.injEq] at e2
      obtain ⟨rfl, rfl⟩ := e2
      have hme := h.me id o hm
      simp only [Option.getD_none, Nat.sub_zero, Nat.zero_add, Nat.zero_mul, Nat.add_zero] at e3 e4
      cases hβ : β id with
      | none =>
        rw [hβ] at e4
        exact .inl ⟨e4.1, e4.2.1⟩
      | some bk =>
        obtain ⟨b, kk⟩ := bk
        rw [hβ] at e4 hme
        obtain ⟨A, cap, rfl, f1, f2, f3⟩ := e4
        obtain ⟨cs, e, fz, p1, p2, p3, p4⟩ := hme
        rw [p3 hfz] at p1
        rw [hc, hoff] at f2 f3
        rw [hc] at p4
        refine .inr ⟨b, cap, cs, e, A, ?_, rfl, fun hcap => by simpa using f3 hcap, f1, by rw [p2]; omega, p1, ?_⟩
        · rcases h.loc id o b kk hm hβ with hq | hq
          · exact hq.2
          · have := hq.1; omega
        · rcases hform with ⟨l, rfl⟩ | ⟨e', ys, rfl⟩
          · exact p4
          · obtain ⟨d, r, hd, hu⟩ := p4
            refine ⟨d, r, hd, RU.mono (fun b' hb' _ => ⟨?_, rfl⟩) ys d hu⟩
            rintro (hx | hx)
            · exact hb' (.inl hx)
            · subst hx
              exact hb' (.inr ⟨id, o, kk, hm, hfz, hβ⟩)
    have ofNil : ∀ (c : Cont), xs = [.v (.slice none 0 0)] → (∃ sz, c.len [] = some (0, sz)) → c.off [] = 0 → ∃ v, (results fn a.tmps).run P w = .ok v w ∧ OwnS C.w0 w C.N0 c v := by
      intro c hx ⟨sz, hlen⟩ hoff
      obtain ⟨v, _, hrun, hrv⟩ := one _ hx
      have hv := (RT.of_RV hrv).val (r := .slice none 0 0) rfl
      exact ⟨v, hrun, 0, sz, hlen, hoff, .inl ⟨hv, rfl⟩⟩
    have fin : (∃ v, (results fn a.tmps).run P w = .ok v w ∧ RR C.w0 w C.N0 bs outs res v) → ∃ v, (results fn a.tmps).run P w = .ok v w ∧ RR C.w0 w C.N0 bs outs res v ∧ outs.length = C.nio ∧
      ∀ (k : Nat) (y : Cont), outs[k]? = some y → ∃ cs e, w.heap[C.io k]? = some (.cells cs e (0, 0)) ∧ cs.size = C.sz k ∧ CC w C.N0 Ext.none y cs.toList := fun ⟨v, e1, e2⟩ => ⟨v, e1, e2, hlast⟩
    apply fin
    clear fin
    split at hres
    · rename_i l
      split at hres
      · rename_i id
        split at hres
        · rename_i o hm
          split at hres
          · rename_i l' hc
            split at hres
            · rename_i hb
              simp only [Bool.and_eq_true, Bool.not_eq_true'] at hb
              subst hres
              exact ofRow id _ o rfl hm hc hb.1 (Nat.le_of_ble_eq_true hb.2) ⟨_, _, rfl⟩ rfl (fun _ _ _ _ => trivial) (.inl ⟨_, rfl⟩)
            · exact hres.elim
          · exact hres.elim
        · exact hres.elim
      · subst hres
        exact ofNil _ rfl ⟨1, rfl⟩ rfl
      · exact hres.elim
    · rename_i e ys
      split at hres
      · rename_i id
        split at hres
        · rename_i o hm
          split at hres
          · rename_i e' ys' hc
            split at hres
            · rename_i hb
              simp only [Bool.and_eq_true, Bool.not_eq_true'] at hb
              subst hres
              have := Sk.eq_of_beq _ _ hb.2
              subst this
              exact ofRow id _ o rfl hm hc hb.1.1 (Nat.le_of_ble_eq_true hb.1.2) ⟨_, _, rfl⟩ rfl (fun _ _ _ _ => trivial) (.inr ⟨_, _, rfl⟩)
            · exact hres.elim
          · exact hres.elim
        · exact hres.elim
      · subst hres
        exact ofNil _ rfl ⟨e.size, rfl⟩ rfl
      · exact hres.elim
    · rename_i ys
      split at hres
      · rename_i zs ob2 hv
        split at hres
        · exact hres.elim
        · rename_i hb
          obtain ⟨ho2, hle⟩ := hres
          refine ⟨.tuple vs.toArray, ?_, ?_⟩
          · rw [g1]
            match vs, g2 with
            | [v], g2 =>
              exfalso
              rw [← g2] at hb
              simp at hb
            | [], _ => rfl
            | v :: u :: vs, _ => rfl
          · have key : ∀ (f : Nat) (xs zs ys : List T) (ob2 : Prop) (vs : List Value), st.views (ltG C.nio) f xs = some (zs, ob2) → ob2 → vles zs ys → vs.length = xs.length →
                (∀ (k : Nat) (x : T), xs[k]? = some x → ∃ v, vs[k]? = some v ∧ RV w (Mut C.N0 st.m β) (ext st.m β) x v) →
                vs.length = ys.length ∧ ∀ (k : Nat) (y : T), ys[k]? = some y → ∃ v, vs[k]? = some v ∧ RV w C.N0 (rio w bs outs) y v := by
              intro f
              induction f with
              | zero => intro xs zs ys ob2 vs hv; simp [St.views] at hv
              | succ f ih =>
                intro xs zs ys ob2 vs hv ho2 hle hl hx
                cases xs with
                | nil =>
                  simp only [St.views, Option.some.injEq, Prod.mk.injEq] at hv
                  obtain ⟨rfl, rfl⟩ := hv
                  cases ys with
                  | nil => exact ⟨by simpa using hl, fun k y hk => by simp at hk⟩
                  | cons y ys => simp [vles] at hle
                | cons x xs =>
                  cases vs with
                  | nil => simp at hl
                  | cons v vs =>
                  simp only [St.views] at hv
                  split at hv
                  · rename_i z o1 zs' o2 hz1 hz2
                    simp only [Option.some.injEq, Prod.mk.injEq] at hv
                    obtain ⟨rfl, rfl⟩ := hv
                    cases ys with
                    | nil => simp [vles] at hle
                    | cons y ys =>
                    simp only [vles] at hle
                    obtain ⟨r1, r2⟩ := ih xs zs' ys o2 vs hz2 ho2.2 hle.2 (by simpa using hl) (fun k x' hk => by have := hx (k + 1) x' (by simpa using hk); simpa using this)
                    refine ⟨by simp [r1], fun k y' hk => ?_⟩
                    cases k with
                    | zero =>
                      simp at hk; subst hk
                      obtain ⟨v', e1, e2⟩ := hx 0 x rfl
                      simp at e1; subst e1
                      refine ⟨v, rfl, RV.vle hle.1 ?_⟩
                      rcases e2 with ⟨h2, ds, h3, h4⟩ | ⟨h2, h4⟩
                      · obtain ⟨s1, s2, _⟩ := view_ok hNM hview h f x z _ ds hz1 ho2.1 h4
                        exact .inl ⟨by rw [s2]; exact h2, ds, h3, RC.mono (fun b hb _ => ⟨hb, rfl⟩) (Ext.none_le _) _ _ s1⟩
                      · obtain ⟨s1, s2, _⟩ := view_ok hNM hview h f x z _ _ hz1 ho2.1 h4
                        exact .inr ⟨by rw [s2]; exact h2, RC.mono (fun b hb _ => ⟨hb, rfl⟩) (Ext.none_le _) _ _ s1⟩
                    | succ k => simp at hk; simpa using r2 k y' hk
                  · cases hv
            obtain ⟨k1, k2⟩ := key 13 xs zs ys ob2 vs hv ho2 hle g2 g3
            exact ⟨vs, rfl, k1, k2⟩
      · exact hres.elim
    · rename_i j off rest
      split at hres
      · rename_i i off' rest'
        split at hres
        · rename_i hb
          simp only [Bool.and_eq_true] at hb
          have hij := Nat.eq_of_beq_eq_true hb.1
          have hlt := Nat.le_of_ble_eq_true hb.2
          obtain ⟨rfl, rfl⟩ := hres
          subst hij
          obtain ⟨v, _, hrun, hrv⟩ := one _ rfl
          have goal : RC w C.N0 (rio w bs outs) (.row i [] off' rest') [v] → RT w C.N0 (rio w bs outs) (.row i [] off' rest') v := fun hh => RT.leaf hh rfl
          refine ⟨v, hrun, goal ?_⟩
          obtain ⟨hone, o, e1, e2⟩ := (RT.of_RV hrv).row
          have hil : i < outs.length := by omega
          obtain ⟨o', cs, e, kk, q1, q2, q3, q4, q5, q6, q7⟩ := hne i outs[i] (List.getElem?_eq_getElem hil)
          rw [e1] at q1; simp only [Option.some.injEq] at q1; subst q1
          simp only [RC]
          refine ⟨v, rfl, hone, C.io i, outs[i], cs, e, hbs i (by omega), List.getElem?_eq_getElem hil, q4, ?_⟩
          rw [q3] at e2
          rw [← q2, q5, ← q6]
          exact e2
        · exact hres.elim
      · exact hres.elim
    · rename_i h1 h2 h3 h4
      split at hres
      · rename_i x
        split at hres
        · rename_i z ob2 hv
          obtain ⟨v, _, hrun, hrv⟩ := one x rfl
          have := (view_RV (X := rio w bs outs) hNM hview h hv hres.1 hrv).vle hres.2
          refine ⟨v, hrun, ?_⟩
          have hrt := RT.of_RV this
          cases res
          case ow l => exact absurd rfl (h1 l)
          case os e l => exact absurd rfl (h2 e l)
          all_goals exact hrt
        · exact hres.elim
      · exact hres.elim
  · exact hf.elim

end Go.AL
