/- A step that writes nothing that is there is sound. No condition. -/
import Derived.Test.YtngcjhiflplkbaaALOpOk2
namespace Go.AL
open Go

theorem Sim.app0 {P : Program} {C : Ctx} {β : Bel} {st : St} {a : Act} {w : World} (h : Sim C β st a w) {ts : Array TypeId} {ty : TypeId} {x y : T} {slot : Nat} {c' : Cont} {ob : Prop} {v u : Value}
    (hx : RT w (Mut C.N0 st.m β) (ext st.m β) x v) (hy : RT w (Mut C.N0 st.m β) (ext st.m β) y u) (hl : st.app0 P ts x y = some (c', ob)) (ho : ob) (hsl : st.m[slot]? = some none) :
    ∃ r w' β', (Builtin.append_ ts ty #[v, u]).run P w = .ok r w' ∧ Sim C β' (st.fill slot ⟨c', false⟩) a w' ∧
      RT w' (Mut C.N0 (st.fill slot ⟨c', false⟩).m β') (ext (st.fill slot ⟨c', false⟩).m β') (.row slot [] 0 none) r := by
  unfold St.app0 at hl
  split at hl
  · rename_i t1 t2 hts
    split at hl
    · rename_i ht12
      have ht12 := Nat.eq_of_beq_eq_true ht12
      subst ht12
      have hts' : ts = #[t1, t1] := by rw [← Array.toList_inj, hts]
      subst hts'
      have hv := hx.val (r := .slice none 0 0) rfl
      subst hv
      have hslt : slot < st.m.length := (List.getElem?_eq_some_iff.1 hsl).1
      split at hl
      · rename_i cy ob' hsrc
        have main : ∀ (m : Nat) (bytes : Nat), elOk P t1 cy = some bytes → (∃ sz, cy.len [] = some (m, sz)) → cy.off [] = 0 → ob' → m * bytes ≤ 140737488355328 → m ≤ 9223372036854775807 → (∀ w : World, SrcOk w (Mut C.N0 st.m β) cy u → ∃ A cap ds, u = .slice A m cap ∧ Lies w (fun _ => False) A ds ∧ ∀ X, CC w (Mut C.N0 st.m β) X cy ds) →
            (m = 0 → cy = .rb [] ∨ ∃ e, cy = .rs e []) →
            ∃ r w' β', (Builtin.append_ #[t1, t1] ty #[.slice none 0 0, u]).run P w = .ok r w' ∧ Sim C β' (st.fill slot ⟨cy, false⟩) a w' ∧
              RT w' (Mut C.N0 (st.fill slot ⟨cy, false⟩).m β') (ext (st.fill slot ⟨cy, false⟩).m β') (.row slot [] 0 none) r := by
          intro m bytes hel ⟨sz0, hlen⟩ hoff ho1 hfit h63 hsrcok hm0
          obtain ⟨e, i, z, k, sz, q1, q2, q3, q4, q5, q6, q7, q8⟩ := elOk_spec hel
          rw [hlen] at q4; simp only [Option.some.injEq, Prod.mk.injEq] at q4
          obtain ⟨rfl, rfl⟩ := q4
          obtain ⟨A, cap, ds, rfl, r1, r2⟩ := hsrcok w (h.src hy hsrc ho1)
          have hdl : ∃ ds1 ds2, ds = ds1 ++ ds2 ∧ ds1.length = m * sz0 ∧ ∀ X r, CC w (Mut C.N0 st.m β) X cy (ds1 ++ r) := by
            cases cy with
            | var x => obtain ⟨_, _, _, hf⟩ := h.src hy hsrc ho1; exact hf.elim
            | rb l =>
              simp [Cont.len] at hlen
              obtain ⟨rfl, rfl⟩ := hlen
              obtain ⟨r, hr⟩ := r2 Ext.none
              exact ⟨_, r, hr, by simp, fun X r' => ⟨r', rfl⟩⟩
            | rs e xs =>
              simp [Cont.len] at hlen
              obtain ⟨rfl, rfl⟩ := hlen
              obtain ⟨c1, r, hr, hu⟩ := r2 Ext.none
              exact ⟨c1, r, hr, RU.length _ _ hu, fun X r' => ⟨c1, r', rfl, hu⟩⟩
          obtain ⟨ds1, ds2, rfl, hd1, hcc⟩ := hdl
          have r1' : Lies w (fun _ => False) A ds1 := by
            rcases r1 with hq | ⟨b, off, hA, hb, cs, e', fz, e1, e2, e3⟩
            · left; simp at hq; exact hq.1
            · refine .inr ⟨b, off, hA, hb, cs, e', fz, e1, by simp at e2; omega, fun j hj => ?_⟩
              rw [e3 j (by simp; omega), List.getElem?_append_left hj]
          by_cases hm : m = 0
          · subst hm
            have hds : ds1 = [] := by simpa using hd1
            subst hds
            have hfc : (Builtin.firstCells i.size 0 (.slice A 0 cap)).run P w = .ok ([] : List Value).toArray w := firstCells_lies r1' (by simp)
            have hrun := run_app_room q1 q2 (ty := ty) (w := w) (w' := w) (base := none) (sLen := 0) (sCap := 0) (m := 0) (src := .slice A 0 cap) (news := []) (lenOf_slice _ _ _ _ _) hfc (Nat.le_refl _) rfl
            refine ⟨_, _, _, hrun, h.fill (Keeps.refl _ w) hsl ⟨cy, false⟩ none (fun b k hq => by cases hq) (fun _ => hm0 rfl), RT.leaf ?_ rfl⟩
            simp only [RC]
            refine ⟨_, rfl, rfl, ⟨cy, false⟩, by simp [St.fill, hslt], 0, sz0, hlen, by simp, ?_⟩
            simp [Bel.with]
          · have hfcd : (Builtin.firstCells i.size m (.slice A m cap)).run P w.drew = .ok ds1.toArray w.drew := firstCells_lies r1'.drew (by rw [q5]; exact hd1)
            have hrun := run_app_grow q1 q2 (ty := ty) q3 (w := w) (base := none) (sLen := 0) (sCap := 0) (m := m) (src := .slice A m cap) (olds := []) (news := ds1) (lenOf_slice _ _ _ _ _) (by simp [Builtin.firstCells]) hfcd (by omega) (by omega) (growslice_fits (by omega) (by rw [q8, Nat.zero_add]; exact hfit))
            simp only [Nat.zero_add, List.nil_append] at hrun
            have hgc := grown_le w m 0 e
            generalize grownCap w m 0 e = gc at hrun hgc
            have hsize : (ds1 ++ (Builtin.zeroCells z.cells (gc - m)).toList).length = gc * sz0 := by
              rw [List.length_append, hd1, zero_len, q6, ← Nat.add_mul]
              congr 1
              omega
            have hdr : Keeps (fun _ => False) w w.drew := keeps_drew w
            obtain ⟨β', s1, s2⟩ := h.newRow hsl cy m sz0 hlen hoff (hcc _ (Builtin.zeroCells z.cells (gc - m)).toList) e hgc (by rw [hsize]; exact Nat.le_refl _) hdr
            exact ⟨_, _, β', hrun, s1, s2⟩
        split at hl
        · rename_i l
          split at hl
          · rename_i bytes hel
            simp only [Option.some.injEq, Prod.mk.injEq] at hl
            obtain ⟨rfl, rfl⟩ := hl
            exact main l.length bytes hel ⟨1, rfl⟩ rfl ho.1 ho.2.1 ho.2.2 (fun w ⟨A, cap, ds, g1, g2, g3⟩ => ⟨A, cap, ds, g1, g2, fun X => ⟨[], by simpa using g3⟩⟩) (fun h0 => .inl (by rw [List.length_eq_zero_iff.1 h0]))
          · cases hl
        · rename_i e xs
          split at hl
          · rename_i bytes hel
            simp only [Option.some.injEq, Prod.mk.injEq] at hl
            obtain ⟨rfl, rfl⟩ := hl
            exact main xs.length bytes hel ⟨e.size, rfl⟩ rfl ho.1 ho.2.1 ho.2.2 (fun w ⟨A, cap, ds, g1, g2, g3⟩ => ⟨A, cap, ds, g1, g2, fun X => ⟨ds, [], by simp, g3⟩⟩) (fun h0 => .inr ⟨e, by rw [List.length_eq_zero_iff.1 h0]⟩)
          · cases hl
        · cases hl
      · cases hl
    · cases hl
  · cases hl

theorem run_builtin {P : Program} {ρ : Operand → Value} {c : Call} {b : Builtin} (hc : c.callee = .builtin b) (o : Oper) (ho : o.op = .call c) (w : World) {vs : List Value} (hv : c.args.toList.map ρ = vs) :
    ∃ cs, (execOp ρ o).run P w = (builtin b c.argTypes o.type cs vs.toArray).run P w := by
  have hargs : c.args.map ρ = vs.toArray := by rw [← Array.toList_inj]; simp [hv]
  refine ⟨c.args.map fun | .const _ => true | _ => false, ?_⟩
  simp only [execOp, ho, resolve, hc, Sem.run_bind, Sem.run_pure, Result.andThen, invoke, hargs]
  rfl

theorem one_list {α : Type} {l : List α} (h : l.length = 1) : ∃ x, l = [x] := List.length_eq_one_iff.1 h
theorem two_list {α : Type} {l : List α} (h : l.length = 2) : ∃ x y, l = [x, y] := by
  match l, h with
  | [x, y], _ => exact ⟨x, y, rfl⟩

section
variable {P : Program} {C : Ctx} {β : Bel} {st : St} {a : Act} {w : World} (h : Sim C β st a w) {S : Tbl} (hS : TblOk P S) {slot : Nat} {q : List T} {o : Oper} {next : Act → World → Prop} {Q : Exit → Act → World → Prop}
include h

/-- Nothing but a value. -/
theorem soft_v {e : Eff} {w' : World} {v : Value} (hr : (execOp a.eval o).run P w = .ok (.value v) w') (hk : Keeps (fun _ => False) w w') (he : st.apply e = st) (hx : RT w' (Mut C.N0 st.m β) (ext st.m β) e.x v)
    (hn : ∀ β' w' v, Sim C β' (st.apply e) a w' → RT w' (Mut C.N0 (st.apply e).m β') (ext (st.apply e).m β') e.x v → next (a.put o.dst v) w') : o.wp P a w next Q := by
  rw [he] at hn
  exact upon_v hr (hn β w' v (h.grow hk) hx)

theorem soft_0 {ob : Prop} {x : T} {v : Value} (hr : (execOp a.eval o).run P w = .ok (.value v) w) (hx : RT w (Mut C.N0 st.m β) (ext st.m β) x v)
    (hn : ∀ β' w' v, Sim C β' (st.apply ⟨ob, [], none, [], x⟩) a w' → RT w' (Mut C.N0 (st.apply ⟨ob, [], none, [], x⟩).m β') (ext (st.apply ⟨ob, [], none, [], x⟩).m β') x v → next (a.put o.dst v) w') : o.wp P a w next Q :=
  upon_v hr (hn β w v h hx)

omit h in
theorem soft_new {ob : Prop} {c : Cont} {x : T} {v : Value} {w' : World} {β' : Bel} (hr : (execOp a.eval o).run P w = .ok (.value v) w') (hs : Sim C β' (st.fill slot ⟨c, false⟩) a w')
    (hx : RT w' (Mut C.N0 (st.fill slot ⟨c, false⟩).m β') (ext (st.fill slot ⟨c, false⟩).m β') x v)
    (hn : ∀ β' w' v, Sim C β' (st.apply ⟨ob, [], none, [(slot, c)], x⟩) a w' → RT w' (Mut C.N0 (st.apply ⟨ob, [], none, [(slot, c)], x⟩).m β') (ext (st.apply ⟨ob, [], none, [(slot, c)], x⟩).m β') x v → next (a.put o.dst v) w') : o.wp P a w next Q :=
  upon_v hr (hn β' w' v hs hx)

include hS in
theorem soft_ok {e : Eff} (hs : st.soft P S C.nio slot q o = some e) (ho : e.ob)
    (hn : ∀ β' w' v, Sim C β' (st.apply e) a w' → RT w' (Mut C.N0 (st.apply e).m β') (ext (st.apply e).m β') e.x v → next (a.put o.dst v) w') : o.wp P a w next Q := by
  unfold St.soft at hs
  split at hs
  case h_1 x hop =>   -- move
    split at hs
    · rename_i y hy
      simp only [Option.some.injEq] at hs; subst hs
      exact soft_0 h (by simp [execOp, hop]) (h.ev hy) hn
    · cases hs
  case h_2 x hop =>   -- assign
    split at hs
    · rename_i y hy
      simp only [Option.some.injEq] at hs; subst hs
      exact soft_0 h (by simp [execOp, hop]) (h.ev hy) hn
    · cases hs
  case h_3 c x y hop =>   -- pick
    split at hs
    · rename_i cc hc
      have hcv := (h.ev hc).val rfl
      split at hs
      · split at hs
        · rename_i z hz
          simp only [Option.some.injEq] at hs; subst hs
          exact soft_0 h (by simp [execOp, hop, hcv, asBool]) (h.ev hz) hn
        · cases hs
      · split at hs
        · rename_i z hz
          simp only [Option.some.injEq] at hs; subst hs
          exact soft_0 h (by simp [execOp, hop, hcv, asBool]) (h.ev hz) hn
        · cases hs
    · cases hs
  case h_4 t hop =>   -- alloc
    split at hs
    · rename_i x cs hz hsl
      simp only [Option.some.injEq] at hs; subst hs
      obtain ⟨i, z, z1, z2, z3, z4, z5, z6⟩ := zeroOk_spec hz
      obtain ⟨β', s1, s2⟩ := h.newVar hsl (z6 w _ _) t
      exact soft_new (by simp [execOp, hop, Instr.alloc, run_zeroValue' z1 z2, run_newVar]) s1 s2 hn
    · cases hs
  case h_5 t x hop =>   -- box
    split at hs
    · rename_i y hy hsl
      split at hs
      · rename_i hp
        simp only [Option.some.injEq] at hs; subst hs
        obtain ⟨β', s1, s2⟩ := h.newVar hsl (RV.of_plain (h.ev hy) hp) t
        exact soft_new (by simp [execOp, hop, Instr.box, run_newVar]) s1 s2 hn
      · cases hs
    · cases hs
  case h_6 t ps hop =>   -- build
    split at hs
    · rename_i xs hxs
      split at hs
      · rename_i y hy
        simp only [Option.some.injEq] at hs; subst hs
        obtain ⟨r1, r2⟩ := evp_ok h ps.toList xs hxs
        obtain ⟨u, g1, g2⟩ := bld_ok hy r1 r2
        refine soft_0 h (v := u) ?_ g2 hn
        have hps : (ps.map fun (i, x) => (i, a.eval x)) = (ps.toList.map fun p => (p.1, a.eval p.2)).toArray := by rw [← Array.toList_inj]; simp
        simp only [execOp, hop, hps, Sem.run_bind, g1]
        rfl
      · cases hs
    · cases hs
  case h_7 t n ps hop =>   -- buildSlice
    split at hs
    · rename_i xs hxs hsl
      split at hs
      · rename_i c hc
        simp only [Option.some.injEq] at hs; subst hs
        obtain ⟨r1, r2⟩ := evp_ok h ps.toList xs hxs
        obtain ⟨el, cs, k, sz, g1, g2, g3, g4, g5, g6⟩ := bldS_ok hc r1 r2
        subst g3
        obtain ⟨β', s1, s2⟩ := h.newRow hsl c k sz g2 g4 (g6 _) el (Nat.le_refl k) (by simpa using g5) (Keeps.refl _ w)
        have hps : (ps.map fun (i, x) => (i, a.eval x)) = (ps.toList.map fun p => (p.1, a.eval p.2)).toArray := by rw [← Array.toList_inj]; simp
        refine soft_new ?_ s1 s2 hn
        simp only [execOp, hop, hps, Sem.run_bind, g1]
        rfl
      · cases hs
    · cases hs
  case h_8 t x hop =>   -- load
    split at hs
    · rename_i y hy
      split at hs
      · rename_i z ob hl
        simp only [Option.some.injEq] at hs; subst hs
        obtain ⟨u, g1, g2⟩ := h.ld (h.ev hy) hl ho
        exact soft_0 h (by simp [execOp, hop, g1]) g2 hn
      · cases hs
    · cases hs
  case h_9 x hop =>   -- nilCheck
    split at hs
    · rename_i id p hy
      simp only [Option.some.injEq] at hs; subst hs
      obtain ⟨ad, g1, _⟩ := (h.ev hy).ref
      exact soft_0 h (by simp [execOp, hop, g1]; rfl) (by rw [← g1]; exact h.ev hy) hn
    · rename_i y hy
      simp only [Option.some.injEq] at hs; subst hs
      obtain ⟨ad, ds, g1, _⟩ := (h.ev hy).pt
      exact soft_0 h (by simp [execOp, hop, g1]; rfl) (by rw [← g1]; exact h.ev hy) hn
    · cases hs
  case h_10 op t x y yt hop =>   -- binOp
    split at hs
    · rename_i c d hc hd
      split at hs
      · rename_i z ob hz
        split at hs
        · rename_i hb
          simp only [Option.some.injEq] at hs; subst hs
          obtain ⟨r, g1, g2⟩ := bin_ok (h.ev hc) (h.ev hd) hz ho hb x y
          refine soft_0 h (v := r) ?_ (RT.of_val g2) hn
          simp only [execOp, hop]
          rw [Sem.run_bind, g1]
          rfl
        · cases hs
      · split at hs
        · rename_i z hz
          simp only [Option.some.injEq] at hs; subst hs
          obtain ⟨r, g1, g2⟩ := eqT_ok (h.ev hc) (h.ev hd) hz x y
          refine soft_0 h (v := r) ?_ (RT.of_val g2) hn
          simp only [execOp, hop]
          rw [Sem.run_bind, g1]
          rfl
        · cases hs
    · cases hs
  case h_11 u t x hop =>   -- unOp
    split at hs
    · rename_i c hc
      simp only [Option.some.injEq] at hs; subst hs
      have hv := (h.ev hc).val rfl
      exact soft_0 h (v := .bool (!c)) (by simp [execOp, hop, hv, Op.unary]) (RT.of_val rfl) hn
    · rename_i n hc
      simp only [Option.some.injEq] at hs; subst hs
      have hv := (h.ev hc).val rfl
      refine soft_0 h (v := .int .i64 (0 - n)) ?_ (RT.of_val rfl) hn
      have := wrap_i64 ho
      simp at this
      simp [execOp, hop, hv, Op.unary, Op.intArith, this]
    · cases hs
  case h_12 s d x hop =>   -- convert
    split at hs
    · rename_i y hy
      split at hs
      · rename_i z ob hz
        simp only [Option.some.injEq] at hs; subst hs
        obtain ⟨r, g1, g2⟩ := conv_ok hz ho (h.ev hy)
        exact soft_0 h (by simp [execOp, hop, g1]) (RT.of_val g2) hn
      · split at hs
        · rename_i el hs1 hd1
          split at hs
          · rename_i l ob he1 hsrc
            simp only [Option.some.injEq] at hs; subst hs
            obtain ⟨A, cap, ds, g1, g2, g3⟩ := h.src (h.ev hy) hsrc ho
            subst g3
            exact soft_0 h (v := .string ⟨l.toArray⟩) (by simp [execOp, hop, g1, conv_str hs1 he1 hd1 g2]) (RT.of_val rfl) hn
          · cases hs
        · rename_i el hs1 hd1
          split at hs
          · rename_i l he1 _
            simp only [Option.some.injEq] at hs; subst hs
            have hv := (h.ev hy).val rfl
            obtain ⟨v, w', g1, g2, g3⟩ := conv_bytes (P := P) hs1 hd1 he1 w l
            exact soft_v h (e := ⟨True, [], none, [], .sb l⟩) (by simp [execOp, hop, hv, g1]) g2 rfl (g3 _ _ h.mut_lt) hn
          · cases hs
        · cases hs
    · cases hs
  case h_13 t x lo hi hop =>   -- slice
    split at hs
    · rename_i y l hb hy hlo hhi
      split at hs
      · rename_i z ob hz
        simp only [Option.some.injEq] at hs; subst hs
        obtain ⟨u, g1, g2⟩ := h.slc (h.ev hy) (bd_ok h hlo) (bd_ok h hhi) hz ho
        exact soft_0 h (by simp [execOp, hop, g1]) g2 hn
      · cases hs
    · cases hs
  case h_14 s x f hop =>   -- fieldAddr
    split at hs
    · rename_i y hy
      split at hs
      · rename_i z hz
        simp only [Option.some.injEq] at hs; subst hs
        obtain ⟨u, g1, g2⟩ := h.fa (h.ev hy) hz
        exact soft_0 h (by simp [execOp, hop, g1]) g2 hn
      · cases hs
    · cases hs
  case h_15 t x i hop =>   -- indexAddr
    split at hs
    · rename_i y j hy hj
      split at hs
      · rename_i n hi
        split at hs
        · rename_i z ob hz
          simp only [Option.some.injEq] at hs; subst hs
          obtain ⟨u, g1, g2⟩ := h.ia (h.ev hy) (h.ev hj) hi hz ho
          exact soft_0 h (by simp [execOp, hop, g1]) g2 hn
        · cases hs
      · cases hs
    · cases hs
  case h_16 t l c hop =>   -- makeSlice
    split at hs
    · rename_i n m hl hc hsl
      split at hs
      · rename_i ct ob hz
        simp only [Option.some.injEq] at hs; subst hs
        have hv := (h.ev hl).val rfl
        have hu := (h.ev hc).val rfl
        obtain ⟨el, k, cs, g1, g2, g3, g4, g5, g6⟩ := zeros_ok hz ho w
        obtain ⟨β', s1, s2⟩ := h.newRow hsl ct _ k g2 g3 (g6 _ _) el g4 g5 (Keeps.refl _ w)
        exact soft_new (by simp [execOp, hop, hv, hu, g1]) s1 s2 hn
      · cases hs
    · cases hs
  case h_17 f caps hop =>   -- makeFunc
    split at hs
    · rename_i xs hxs
      split at hs
      · rename_i hc
        simp only [Option.some.injEq] at hs; subst hs
        simp only [Bool.and_eq_true, List.all_eq_true, Bool.not_eq_true'] at hc
        obtain ⟨r1, r2⟩ := evs_ok h caps.toList xs hxs
        refine soft_0 h (v := .func (.func f) #[] (caps.toList.map a.eval).toArray) (by
          have hm : caps.map a.eval = (caps.toList.map a.eval).toArray := by rw [← Array.toList_inj]; simp
          have h0 : (⟨[]⟩ : Array Operand).map a.eval = #[] := by rw [← Array.toList_inj]; simp
          simp only [execOp, hop, Instr.makeFunc, hm, h0]
          rfl) (RT.leaf ?_ rfl) hn
        simp only [RC]
        refine ⟨_, rfl, ?_, r1⟩
        have : ∀ (xs : List T) (vs : List Value), vs.length = xs.length → (∀ x ∈ xs, x.plain = true) → (∀ x ∈ xs, x.isAgg = false) →
            (∀ (k : Nat) (x : T), xs[k]? = some x → ∃ v, vs[k]? = some v ∧ RT w (Mut C.N0 st.m β) (ext st.m β) x v) → RL w (Mut C.N0 st.m β) (ext st.m β) xs vs := by
          intro xs
          induction xs with
          | nil => intro vs hl _ _ _; simp only [RL]; exact List.length_eq_zero_iff.1 hl
          | cons x xs ih =>
            intro vs hl hp hg hr
            cases vs with
            | nil => simp at hl
            | cons v vs =>
              obtain ⟨v', e1, e2⟩ := hr 0 x rfl
              simp at e1; subst e1
              have hgx := hg x (by simp)
              have hsk : x.sk.size = 1 := by cases x <;> first | rfl | (simp [T.isAgg] at hgx)
              rcases RV.of_plain e2 (hp x (by simp)) with ⟨b1, _⟩ | ⟨_, b2⟩
              · rw [hgx] at b1; cases b1
              · simp only [RL]
                exact ⟨[v], vs, rfl, by simp [hsk], b2, ih vs (by simpa using hl) (fun y hy => hp y (by simp [hy])) (fun y hy => hg y (by simp [hy])) (fun k y hk => by have := hr (k + 1) y (by simpa using hk); simpa using this)⟩
        exact this xs _ r1 hc.1 hc.2 r2
      · cases hs
    · cases hs
  case h_18 t x hop =>   -- makeInterface
    split at hs
    · rename_i y hy
      split at hs
      · rename_i hc
        simp only [Bool.and_eq_true] at hc
        simp only [Option.some.injEq] at hs; subst hs
        have hrv := RV.of_plain (h.ev hy) hc.2
        refine soft_0 h (v := .iface t (a.eval x)) ?_ (RT.leaf ?_ rfl) hn
        · have hct := hc.1
          unfold concT at hct
          split at hct
          · cases hct
          · cases hct
          · rename_i h1 h2
            cases hu : P.underlying t with
            | none => exact absurd hu h2
            | some d => cases d <;> first | (exact absurd hu (h1 _)) | simp [execOp, hop, Instr.makeInterface, run_underlying hu]
        · simp only [RC]
          refine ⟨_, rfl, ?_⟩
          rcases hrv with ⟨b1, ds, b2, b3⟩ | ⟨b1, b2⟩
          · exact .inl ⟨b1, ds, b2, b3⟩
          · exact .inr ⟨b1, b2⟩
      · cases hs
    · cases hs
  case h_19 t x hop =>   -- sliceToArrayPointer
    split at hs
    · rename_i l n el hy hu
      split at hs
      · rename_i he
        split at hs
        · rename_i hn1
          have hn1 := Nat.le_of_ble_eq_true hn1
          simp only [Option.some.injEq] at hs; subst hs
          obtain ⟨A, cap, hv, hle, hlies⟩ := (h.ev hy).sb
          have hnl : n ≤ l.length := ho
          have hne : l.map u8v ≠ [] := by intro hq; simp at hq; subst hq; simp at hnl; omega
          cases A with
          | none =>
            rcases hlies with hq | ⟨b, off, hA, _⟩
            · exact absurd hq hne
            · cases hA
          | some A =>
            refine soft_0 h (v := .pointer (some A)) ?_ (RT.leaf ?_ rfl) hn
            · simp [execOp, hop, hv, Instr.arrayAt, run_underlying hu, Nat.not_lt.2 hnl]
            · simp only [RC]
              refine ⟨A, (l.take n).map u8v, rfl, ?_, ⟨by simp [hnl], rfl⟩, ?_⟩
              · intro hq; simp at hq; rcases hq with hq | hq
                · omega
                · subst hq; simp at hnl; omega
              · rcases hlies with hq | ⟨b, off, hA, hb, cs, e', fz, e1, e2, e3⟩
                · exact absurd hq hne
                · refine .inr ⟨b, off, hA, hb, cs, e', fz, e1, by simp at e2 ⊢; omega, fun j hj => ?_⟩
                  have hj' : j < n ∧ j < l.length := by simp at hj; omega
                  rw [e3 j (by simp; exact hj'.2)]
                  simp [hj'.1]
        · cases hs
      · cases hs
    · cases hs
  case h_20 x k hop =>   -- extract
    split at hs
    · rename_i xs hy
      split at hs
      · rename_i y hk
        simp only [Option.some.injEq] at hs; subst hs
        obtain ⟨vs, g1, g2, g3⟩ := h.ev hy
        obtain ⟨u, g4, g5⟩ := g3 k y hk
        exact soft_0 h (v := u) (by simp [execOp, hop, g1, Instr.extract, g4]) (RT.of_RV g5) hn
      · cases hs
    · cases hs
  case h_21 c hop =>   -- call
    split at hs
    · rename_i b hcal
      split at hs
      · rename_i x t hxs hts   -- len
        split at hs
        · rename_i n hl
          simp only [Option.some.injEq] at hs; subst hs
          obtain ⟨r1, r2⟩ := evs_ok h _ _ hxs
          obtain ⟨v, hv⟩ := one_list r1
          obtain ⟨v', e1, e2⟩ := r2 0 x rfl
          rw [hv] at e1; simp at e1; subst e1
          obtain ⟨cs, hrun⟩ := run_builtin (P := P) hcal o hop w hv
          have hts' : c.argTypes = #[t] := by rw [← Array.toList_inj, hts]
          refine soft_0 h (v := .int .i64 n) ?_ (RT.of_val rfl) hn
          rw [hrun, hts']
          simp only [builtin, Sem.run_bind, List.toArray, lenT_ok e2 hl]
          simp
        · cases hs
      · rename_i x y hxs   -- min
        simp only [Option.some.injEq] at hs; subst hs
        obtain ⟨r1, r2⟩ := evs_ok h _ _ hxs
        obtain ⟨v, u, hv⟩ := two_list r1
        obtain ⟨v', e1, e2⟩ := r2 0 _ rfl
        obtain ⟨u', e3, e4⟩ := r2 1 _ rfl
        rw [hv] at e1 e3; simp at e1 e3; subst e1; subst e3
        obtain ⟨cs, hrun⟩ := run_builtin (P := P) hcal o hop w hv
        have f1 := e2.val rfl
        have f2 := e4.val rfl
        refine soft_0 h ?_ (RT.of_val rfl) hn
        rw [hrun, f1, f2]
        simp [builtin, Builtin.min_, Builtin.min2]
      · rename_i x y hxs   -- max
        simp only [Option.some.injEq] at hs; subst hs
        obtain ⟨r1, r2⟩ := evs_ok h _ _ hxs
        obtain ⟨v, u, hv⟩ := two_list r1
        obtain ⟨v', e1, e2⟩ := r2 0 _ rfl
        obtain ⟨u', e3, e4⟩ := r2 1 _ rfl
        rw [hv] at e1 e3; simp at e1 e3; subst e1; subst e3
        obtain ⟨cs, hrun⟩ := run_builtin (P := P) hcal o hop w hv
        have f1 := e2.val rfl
        have f2 := e4.val rfl
        refine soft_0 h ?_ (RT.of_val rfl) hn
        rw [hrun, f1, f2]
        simp [builtin, Builtin.max_, Builtin.max2]
      · rename_i x y hxs   -- append to nil
        split at hs
        · rename_i ct ob hap hsl
          simp only [Option.some.injEq] at hs; subst hs
          obtain ⟨r1, r2⟩ := evs_ok h _ _ hxs
          obtain ⟨v, u, hv⟩ := two_list r1
          obtain ⟨v', e1, e2⟩ := r2 0 _ rfl
          obtain ⟨u', e3, e4⟩ := r2 1 _ rfl
          rw [hv] at e1 e3; simp at e1 e3; subst e1; subst e3
          obtain ⟨cs, hrun⟩ := run_builtin (P := P) hcal o hop w hv
          obtain ⟨r, w', β', g1, g2, g3⟩ := h.app0 (ty := o.type) e2 e4 hap ho hsl
          exact soft_new (by rw [hrun]; simp [builtin, g1]) g2 g3 hn
        · cases hs
      · cases hs
    · rename_i g hcal
      split at hs
      · rename_i f caps xs hg hxs
        split at hs
        · rename_i hok
          simp only [Bool.and_eq_true, List.all_eq_true, Bool.not_eq_true'] at hok
          obtain ⟨hok, _⟩ := hok
          obtain ⟨r1, r2⟩ := evs_ok h _ _ hxs
          have hgv := h.ev hg
          rcases hgv with ⟨hb, _⟩ | ⟨_, hgv⟩
          · cases hb
          simp only [RC] at hgv
          obtain ⟨vs, hgv, hrl, hlen⟩ := hgv
          simp only [List.cons.injEq, and_true] at hgv
          obtain ⟨k1, k2⟩ := RL.ones caps vs hrl hok.2
          have hrun := run_call (P := P) hcal hgv hok.1 o hop w
          unfold Oper.wp
          rw [hrun]
          refine Calls.mono (h.callS hS hs ho (vs := (c.args.toList.map a.eval) ++ vs) (by simp at r1 ⊢; omega) (fun k x hk => ?_)) ?_
          · by_cases hkl : k < xs.length
            · rw [List.getElem?_append_left hkl] at hk
              obtain ⟨v, q1, q2⟩ := r2 k x hk
              exact ⟨v, by rw [List.getElem?_append_left (by rw [r1]; exact hkl)]; exact q1, q2⟩
            · rw [List.getElem?_append_right (by omega)] at hk
              obtain ⟨v, q1, q2⟩ := k2 _ x hk
              have hxa : x.isAgg = false := hok.2 x (List.mem_of_getElem? hk)
              exact ⟨v, by rw [List.getElem?_append_right (by rw [r1]; omega), r1]; exact q1, RT.leaf q2 hxa⟩
          · rintro en w' ⟨v, β', rfl, g1, g2⟩
            exact hn β' w' v g1 g2
        · cases hs
      · cases hs
    · cases hs
  · cases hs
end

section
variable {P : Program} {C : Ctx} {β : Bel} {st : St} {a : Act} {w : World} (h : Sim C β st a w) {S : Tbl} (hS : TblOk P S) {q : List T} {o : Oper} {next : Act → World → Prop} {Q : Exit → Act → World → Prop}
include h hS

theorem hard_ok {e : Eff} (hs : st.hard P S C.nio q o = some e) (ho : e.ob)
    (hn : ∀ β' w' v, Sim C β' (st.apply e) a w' → RT w' (Mut C.N0 (st.apply e).m β') (ext (st.apply e).m β') e.x v → next (a.put o.dst v) w') : o.wp P a w next Q := by
  unfold St.hard at hs
  split at hs
  · rename_i t x v hop   -- store
    split at hs
    · rename_i y z hy hz
      split at hs
      · rename_i hp
        split at hs
        · rename_i id c' ob' hl
          simp only [Option.some.injEq] at hs
          subst hs
          obtain ⟨w', g1, g2⟩ := h.sto (h.ev hy) (RV.of_plain (h.ev hz) hp) hl ho
          exact upon_s (by simp [execOp, hop, g1]) (hn β w' undef g2 trivial)
        · cases hs
      · cases hs
    · cases hs
  · rename_i c hop   -- call
    split at hs
    · rename_i b hcal
      split at hs
      · rename_i x y hxs
        split at hs
        · rename_i id ct ob' hap
          simp only [Option.some.injEq] at hs
          subst hs
          obtain ⟨r1, r2⟩ := evs_ok h _ _ hxs
          obtain ⟨v, u, hv⟩ := two_list r1
          obtain ⟨v', e1, e2⟩ := r2 0 _ rfl
          obtain ⟨u', e3, e4⟩ := r2 1 _ rfl
          rw [hv] at e1 e3; simp at e1 e3; subst e1; subst e3
          obtain ⟨cs, hrun⟩ := run_builtin (P := P) hcal o hop w hv
          obtain ⟨r, w', β', g1, g2, g3⟩ := h.app (ty := o.type) e2 e4 hap ho
          exact upon_v (w' := w') (v := r) (by rw [hrun]; simp [builtin, g1]) (hn β' w' r g2 g3)
        · cases hs
      · rename_i x hxs
        split at hs
        · rename_i t hts
          split at hs
          · rename_i id ct hcl
            simp only [Option.some.injEq] at hs
            subst hs
            obtain ⟨r1, r2⟩ := evs_ok h _ _ hxs
            obtain ⟨v, hv⟩ := one_list r1
            obtain ⟨v', e1, e2⟩ := r2 0 _ rfl
            rw [hv] at e1; simp at e1; subst e1
            obtain ⟨cs, hrun⟩ := run_builtin (P := P) hcal o hop w hv
            have hts' : c.argTypes = #[t] := by rw [← Array.toList_inj, hts]
            obtain ⟨w', g1, g2⟩ := h.clr (ty := o.type) e2 hcl
            refine upon_v (w' := w') (v := .tuple #[]) ?_ (hn β w' _ g2 ⟨[], rfl, rfl, fun k x hk => by simp at hk⟩)
            rw [hrun, hts']
            simp [builtin, g1]
          · cases hs
        · cases hs
      · cases hs
    · rename_i g hcal
      split at hs
      · rename_i f caps x xs hg hxs
        split at hs
        · rename_i hok
          simp only [Bool.and_eq_true, List.all_eq_true, Bool.not_eq_true'] at hok
          obtain ⟨hok, _⟩ := hok
          have hs : ∃ j, st.callI S C.nio f (x :: (xs ++ caps)) j = some e := by
            split at hs
            · exact ⟨_, hs⟩
            · exact ⟨_, hs⟩
            · cases hs
          obtain ⟨j, hs⟩ := hs
          obtain ⟨r1, r2⟩ := evs_ok h _ _ hxs
          have hgv := h.ev hg
          rcases hgv with ⟨hb, _⟩ | ⟨_, hgv⟩
          · cases hb
          simp only [RC] at hgv
          obtain ⟨vs, hgv, hrl, hlen⟩ := hgv
          simp only [List.cons.injEq, and_true] at hgv
          obtain ⟨k1, k2⟩ := RL.ones caps vs hrl hok.2
          have hrun := run_call (P := P) hcal hgv hok.1 o hop w
          unfold Oper.wp
          rw [hrun]
          generalize hL : (x :: xs) = L at r1 r2 hxs
          have hLc : (x :: (xs ++ caps)) = L ++ caps := by rw [← hL]; rfl
          rw [hLc] at hs
          refine Calls.mono (h.callI hS hs ho (vs := (c.args.toList.map a.eval) ++ vs) (by simp at r1 ⊢; omega) (fun k x hk => ?_)) ?_
          · by_cases hkl : k < L.length
            · rw [List.getElem?_append_left hkl] at hk
              obtain ⟨v, q1, q2⟩ := r2 k x hk
              exact ⟨v, by rw [List.getElem?_append_left (by rw [r1]; exact hkl)]; exact q1, q2⟩
            · rw [List.getElem?_append_right (by omega)] at hk
              obtain ⟨v, q1, q2⟩ := k2 _ x hk
              have hxa : x.isAgg = false := hok.2 x (List.mem_of_getElem? hk)
              exact ⟨v, by rw [List.getElem?_append_right (by rw [r1]; omega), r1]; exact q1, RT.leaf q2 hxa⟩
          · rintro en w' ⟨v, β', rfl, g1, g2⟩
            exact hn β' w' v g1 g2
        · cases hs
      · cases hs
    · cases hs
  · cases hs

/-- ONE STEP. -/
theorem step_ok {slot : Nat} {e : Eff} (hs : st.step P S C.nio slot q o = some e) (ho : e.ob)
    (hn : ∀ β' w' v, Sim C β' (st.apply e) a w' → RT w' (Mut C.N0 (st.apply e).m β') (ext (st.apply e).m β') e.x v → next (a.put o.dst v) w') : o.wp P a w next Q := by
  unfold St.step at hs
  split at hs
  · exact hard_ok h hS hs ho hn
  · exact soft_ok h hS hs ho hn
end

end Go.AL
