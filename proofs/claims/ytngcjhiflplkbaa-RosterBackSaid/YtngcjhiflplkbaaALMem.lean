/- What the operations on memory do to the abstract state. No condition. -/
import Derived.Test.YtngcjhiflplkbaaALMove
namespace Go.AL
open Go

theorem addr_add (b off j : Nat) : (⟨b, off, none⟩ : Addr).add j = ⟨b, off + j, none⟩ := by unfold Addr.add; split <;> simp_all

theorem RT.of_RV {w : World} {N : Nat → Prop} {X : Ext} {x : T} {v : Value} (h : RV w N X x v) : RT w N X x v := by
  cases x
  case junk => exact True.intro
  case tup xs =>
    rcases h with ⟨h, _⟩ | ⟨_, h⟩
    · simp [T.isAgg] at h
    · simp [RC] at h
  all_goals exact h

theorem RV.of_RT {w : World} {N : Nat → Prop} {X : Ext} {x : T} {v : Value} (h : RT w N X x v) (h1 : ∀ xs, x ≠ .tup xs) (h2 : x ≠ .junk) : RV w N X x v := by
  cases x
  case junk => exact absurd rfl h2
  case tup xs => exact absurd rfl (h1 xs)
  all_goals exact h

section
variable {w : World} {N : Nat → Prop}
mutual
theorem RC.one {X : Ext} : ∀ (x : T) (cs : List Value), RC w N X x cs → ∀ v ∈ cs, v.oneCell' = true
  | .i _, _, k, v, h | .b _, _, k, v, h | .u8 _, _, k, v, h | .u32 _, _, k, v, h | .u64 _, _, k, v, h | .s _, _, k, v, h => by
    simp only [RC] at k; subst k; simp at h; subst h; rfl
  | .v _, _, k, v, h => by simp only [RC] at k; rw [k.2] at h; simp at h; subst h; exact k.1
  | .ba _ _, _, k, v, h => by simp only [RC] at k; rw [k.2] at h; simp at h; obtain ⟨a, _, rfl⟩ := h; rfl
  | .agg fs, cs, k, v, h => by simp only [RC] at k; exact RL.one fs cs k v h
  | .arr n e xs, cs, k, v, h => by simp only [RC] at k; exact RU.one xs cs k.2 v h
  | .sb l, cs, k, v, h => by simp only [RC] at k; obtain ⟨A, c, h1, _⟩ := k; rw [h1] at h; simp at h; subst h; rfl
  | .sl e xs, cs, k, v, h => by simp only [RC] at k; obtain ⟨A, c, h1, _⟩ := k; rw [h1] at h; simp at h; subst h; rfl
  | .pt x, cs, k, v, h => by simp only [RC] at k; obtain ⟨A, c, h1, _⟩ := k; rw [h1] at h; simp at h; subst h; rfl
  | .ifc t x, cs, k, v, h => by simp only [RC] at k; obtain ⟨A, h1, _⟩ := k; rw [h1] at h; simp at h; subst h; rfl
  | .clo f caps, cs, k, v, h => by simp only [RC] at k; obtain ⟨A, h1, _⟩ := k; rw [h1] at h; simp at h; subst h; rfl
  | .ref id path, cs, k, v, h => by simp only [RC] at k; obtain ⟨A, h1, _⟩ := k; rw [h1] at h; simp at h; subst h; rfl
  | .row id path off rest, cs, k, v, h => by simp only [RC] at k; obtain ⟨A, h1, h2, _⟩ := k; rw [h1] at h; simp at h; subst h; exact h2
  | .junk, cs, k, v, h => by simp only [RC] at k; obtain ⟨A, h1, h2⟩ := k; rw [h1] at h; simp at h; subst h; exact h2
  | .tup _, _, k, _, _ | .ow _, _, k, _, _ | .os _ _, _, k, _, _ => by simp only [RC] at k
theorem RL.one {X : Ext} : ∀ (xs : List T) (cs : List Value), RL w N X xs cs → ∀ v ∈ cs, v.oneCell' = true
  | [], cs, k, v, h => by simp only [RL] at k; subst k; simp at h
  | x :: xs, cs, k, v, h => by
    simp only [RL] at k
    obtain ⟨c1, c2, h1, h2, h3, h4⟩ := k
    rw [h1] at h
    rcases List.mem_append.1 h with h | h
    · exact RC.one x c1 h3 v h
    · exact RL.one xs c2 h4 v h
theorem RU.one {e : Sk} : ∀ (xs : List T) (cs : List Value), RU w N e xs cs → ∀ v ∈ cs, v.oneCell' = true
  | [], cs, k, v, h => by simp only [RU] at k; subst k; simp at h
  | x :: xs, cs, k, v, h => by
    simp only [RU] at k
    obtain ⟨c1, c2, h1, h2, _, h3, h4⟩ := k
    rw [h1] at h
    rcases List.mem_append.1 h with h | h
    · exact RC.one x c1 h3 v h
    · exact RU.one xs c2 h4 v h
end
end

theorem RV.cells {w : World} {N : Nat → Prop} {X : Ext} {x : T} {v : Value} (h : RV w N X x v) : RC w N X x v.cells.toList := by
  rcases h with ⟨_, ds, rfl, h⟩ | ⟨ha, h⟩
  · simpa [Value.cells] using h
  · have h1 : v.oneCell' = true := RC.one x [v] h v (by simp)
    have : v.cells = #[v] := by cases v <;> first | rfl | simp [Value.oneCell'] at h1
    rw [this]
    exact h

theorem Sk.off_append : ∀ (p : List Nat) (s t : Sk) (q : List Nat), s.sub p = some t → s.off (p ++ q) = s.off p + t.off q
  | [], s, t, q, h => by simp only [Sk.sub, Option.some.injEq] at h; subst h; simp [Sk.off]
  | k :: p, .lf, t, q, h => by simp [Sk.sub] at h
  | k :: p, .ag ks, t, q, h => by
    simp only [Sk.sub] at h
    simp only [List.cons_append, Sk.off]
    cases hk : ks[k]? with
    | none => simp [hk] at h
    | some s' =>
      simp only [hk] at h ⊢
      rw [Sk.off_append p s' t q h]
      omega
  | [k], .ba n, t, q, h => by
    simp only [Sk.sub, Option.some.injEq] at h
    subst h
    cases q <;> simp [Sk.off]
  | k :: k' :: p, .ba n, t, q, h => by simp [Sk.sub] at h
  | k :: p, .ar n e, t, q, h => by
    simp only [Sk.sub] at h
    simp only [List.cons_append, Sk.off]
    rw [Sk.off_append p e t q h]
    omega

def Cont.sub : Cont → List Nat → Option Sk
  | .var x, p => x.sk.sub p
  | .rb _, [_] => some .lf
  | .rs e _, _ :: p => e.sub p
  | _, _ => none

theorem Cont.off_append (c : Cont) (p : List Nat) (t : Sk) (q : List Nat) (h : c.sub p = some t) : c.off (p ++ q) = c.off p + t.off q := by
  cases c with
  | var x => exact Sk.off_append p x.sk t q h
  | rb l =>
    match p, h with
    | [k], h =>
      simp only [Cont.sub, Option.some.injEq] at h; subst h
      cases q <;> simp [Cont.off, Sk.off]
    | [], h => simp [Cont.sub] at h
    | _ :: _ :: _, h => simp [Cont.sub] at h
  | rs e xs =>
    match p, h with
    | [], h => simp [Cont.sub] at h
    | k :: p, h =>
      simp only [Cont.sub] at h
      simp only [List.cons_append, Cont.off]
      rw [Sk.off_append p e t q h]
      omega

/-! ## Types -/

def aggT (P : Program) (t : TypeId) : Option Bool := match P.underlying t with
  | some (.struct _) | some (.array _ _) => some true
  | some _ => some false
  | none => none

def szT (P : Program) (t : TypeId) : Option Nat := match P.info? t with
  | some i => some i.size
  | none => none

theorem run_sizeOf' {P : Program} {t : TypeId} {n : Nat} (h : szT P t = some n) (w : World) : (sizeOf t).run P w = .ok n w := by
  unfold szT at h
  cases hi : P.info? t with
  | none => simp [hi] at h
  | some i => simp [hi] at h; simp [sizeOf, typeInfo, hi, h]

theorem run_isAgg' {P : Program} {t : TypeId} {g : Bool} (h : aggT P t = some g) (w : World) : (isAgg t).run P w = .ok g w := by
  unfold aggT at h
  cases hu : P.underlying t with
  | none => simp [hu] at h
  | some d => cases d <;> simp [hu] at h <;> subst h <;> simp [isAgg, run_underlying hu]

/-! ## Loads and stores -/

theorem run_load_at {P : Program} {w : World} {t : TypeId} {b off : Nat} {cs : Array Value} {e : TypeId} {fz : Nat × Nat} {pre d post : List Value}
    (hb : w.heap[b]? = some (.cells cs e fz)) (hcs : cs.toList = pre ++ d ++ post) (hp : pre.length = off) (hsz : szT P t = some d.length) {g : Bool} (hg : aggT P t = some g)
    (hd : g = false → ∃ y, d = [y]) :
    (Instr.loadAt t (.pointer (some ⟨b, off, none⟩))).run P w = .ok (if g then .agg d.toArray else d.headD undef) w := by
  have hcell : ∀ j v, d[j]? = some v → w.cell? ((⟨b, off, none⟩ : Addr).add j) = some v := by
    intro j v hj
    rw [addr_add]
    simp only [World.cell?, hb]
    have : cs[off + j]? = cs.toList[off + j]? := by simp
    simp only [Option.isSome_none, Bool.false_eq_true, if_false]
    rw [this, hcs, ← hp, List.append_assoc, List.getElem?_append_right (by omega)]
    have hl : j < d.length := (List.getElem?_eq_some_iff.1 hj).1
    rw [show pre.length + j - pre.length = j by omega, List.getElem?_append_left hl]
    exact hj
  simp only [Instr.loadAt, Instr.sureAddr, loadVar, Sem.run_bind, Sem.run_pure, Result.andThen_ok, run_isAgg' hg]
  cases g with
  | true =>
    have := run_loadCells_list (P := P) w ⟨b, off, none⟩ d hcell
    simp [run_sizeOf' hsz, this]
  | false =>
    obtain ⟨y, rfl⟩ := hd rfl
    have := hcell 0 y rfl
    rw [addr_add] at this
    simp at this
    simp [this]

theorem run_store_at {P : Program} {w : World} {t : TypeId} {b off : Nat} {cs : Array Value} {e : TypeId} {pre d post d' : List Value} {v : Value}
    (hb : w.heap[b]? = some (.cells cs e (0, 0))) (hcs : cs.toList = pre ++ d ++ post) (hp : pre.length = off) (hsz : szT P t = some d'.length) (hv : v.cells.toList = d') (hl : d'.length = d.length)
    (h1 : ∀ x ∈ d', x.oneCell' = true) :
    (Instr.storeAt t (.pointer (some ⟨b, off, none⟩)) v).run P w = .ok () (w.setRow b (pre ++ d' ++ post).toArray) := by
  have hvs : v.cells.size = d'.length := by rw [← hv]; simp
  have hlen : cs.size = pre.length + d.length + post.length := by
    have := congrArg List.length hcs
    simp at this
    omega
  have := run_storeCells_at P b off e d' 0 cs w hb (by omega) h1
  simp only [Instr.storeAt, Instr.sureAddr, storeVar, Sem.run_bind, Sem.run_pure, Result.andThen_ok, run_sizeOf' hsz, hvs]
  simp only [ne_eq, not_true_eq_false, if_false, hv]
  rw [this]
  congr 3
  rw [hcs]
  congr 1
  · congr 1
    rw [show off + 0 = pre.length by omega, List.append_assoc, List.take_left']
    rfl
  · rw [show off + 0 + d'.length = pre.length + d.length by omega, ← List.drop_drop]
    rw [List.append_assoc, List.drop_left, List.drop_left]

def bbeq : Bool → Bool → Bool
  | true, true | false, false => true
  | _, _ => false

/-- What is loaded: the tree, and what must hold. -/
def St.ld (P : Program) (st : St) (t : TypeId) (x : T) (q : List T) : Option (T × Prop) :=
  match x with
  | .ref id p => match st.m[id]? with
    | some (some o) => match o.c.nav p q with
      | some n => match aggT P t, szT P t with
        | some g, some k => if (bbeq g n.y.isAgg && Nat.beq k n.y.sk.size) then some (n.y, n.ob) else none
        | _, _ => none
      | none => none
    | _ => none
  | .pt y => match aggT P t, szT P t with
    | some g, some k => if (bbeq g y.isAgg && Nat.beq k y.sk.size) then some (y, True) else none
    | _, _ => none
  | _ => none

theorem RV.of_cells {w : World} {N : Nat → Prop} {X : Ext} {y : T} {d : List Value} (h : RC w N X y d) {g : Bool} (hg : g = y.isAgg) : RV w N X y (if g then .agg d.toArray else d.headD undef) ∧ (g = false → ∃ v, d = [v]) := by
  subst hg
  cases ha : y.isAgg with
  | true => exact ⟨.inl ⟨ha, d, by simp, h⟩, fun h => by cases h⟩
  | false =>
    have hl : d.length = 1 := by
      rw [RC.length y d h]
      cases y <;> first | rfl | simp [T.isAgg] at ha
    obtain ⟨v, rfl⟩ := List.length_eq_one_iff.1 hl
    exact ⟨.inr ⟨ha, by simpa using h⟩, fun _ => ⟨v, rfl⟩⟩

theorem bool_beq {a b : Bool} (h : bbeq a b = true) : a = b := by cases a <;> cases b <;> simp_all [bbeq]

theorem Lies.split {w : World} {N : Nat → Prop} {a : Addr} {ds : List Value} (h : Lies w N (some a) ds) (hne : ds ≠ []) :
    ∃ b off cs e fz pre post, a = ⟨b, off, none⟩ ∧ ¬ N b ∧ w.heap[b]? = some (.cells cs e fz) ∧ cs.toList = pre ++ ds ++ post ∧ pre.length = off := by
  rcases h with h | ⟨b, off, hA, hN, cs, e, fz, hb, hs, hd⟩
  · exact absurd h hne
  · simp only [Option.some.injEq] at hA
    refine ⟨b, off, cs, e, fz, cs.toList.take off, cs.toList.drop (off + ds.length), hA, hN, hb, ?_, by simp; omega⟩
    apply List.ext_getElem?
    intro j
    by_cases h1 : j < off
    · rw [List.append_assoc, List.getElem?_append_left (by simp; omega), List.getElem?_take, if_pos h1]
    · by_cases h2 : j < off + ds.length
      · rw [List.append_assoc, List.getElem?_append_right (by simp; omega)]
        rw [List.getElem?_append_left (by simp; omega)]
        have := hd (j - off) (by omega)
        rw [show off + (j - off) = j by omega] at this
        simp only [List.length_take, Array.length_toList]
        rw [show min off cs.size = off by omega, ← this]
        simp
      · rw [List.append_assoc, List.getElem?_append_right (by simp; omega), List.getElem?_append_right (by simp; omega)]
        simp only [List.length_take, Array.length_toList, List.getElem?_drop]
        congr 1
        omega

theorem Sim.ld {P : Program} {C : Ctx} {β : Bel} {st : St} {a : Act} {w : World} (h : Sim C β st a w) {t : TypeId} {x : T} {q : List T} {y : T} {ob : Prop} {v : Value}
    (hx : RT w (Mut C.N0 st.m β) (ext st.m β) x v) (hl : st.ld P t x q = some (y, ob)) (ho : ob) :
    ∃ u, (Instr.loadAt t v).run P w = .ok u w ∧ RT w (Mut C.N0 st.m β) (ext st.m β) y u := by
  cases x <;> simp only [St.ld] at hl <;> try (cases hl; done)
  case ref id p =>
    cases hm : st.m[id]? with
    | none => simp [hm] at hl
    | some oo =>
      cases oo with
      | none => simp [hm] at hl
      | some o =>
        cases hn : o.c.nav p q with
        | none => simp [hm, hn] at hl
        | some n =>
          cases hg : aggT P t with
          | none => simp [hm, hn, hg] at hl
          | some g =>
            cases hk : szT P t with
            | none => simp [hm, hn, hg, hk] at hl
            | some k =>
              simp only [hm, hn, hg, hk] at hl
              by_cases hc : (bbeq g n.y.isAgg && Nat.beq k n.y.sk.size) = true
              · simp only [hc, if_true, Option.some.injEq, Prod.mk.injEq] at hl
                obtain ⟨rfl, rfl⟩ := hl
                simp only [Bool.and_eq_true] at hc
                have hc1 := bool_beq hc.1
                have hc2 := Nat.eq_of_beq_eq_true hc.2
                have hv : RC w (Mut C.N0 st.m β) (ext st.m β) (.ref id p) [v] := by
                  rcases hx with ⟨h1, _⟩ | ⟨_, h1⟩
                  · simp [T.isAgg] at h1
                  · exact h1
                simp only [RC] at hv
                obtain ⟨ad, hv, o', b, k', e1, e2, e3⟩ := hv
                rw [hm] at e1; simp only [Option.some.injEq] at e1; subst e1
                have := h.me id o hm
                rw [e2] at this
                obtain ⟨cs, e, fz, q1, q2, q3, q4⟩ := this
                obtain ⟨pre, d, post, r1, r2, r3, r4⟩ := Cont.nav_ok o.c p q n cs.toList hn q4 ho
                obtain ⟨s1, s2⟩ := RV.of_cells r3 hc1
                have hlen : d.length = k := by rw [RC.length _ _ r3, hc2]
                simp at hv; subst hv; subst e3
                refine ⟨_, run_load_at (P := P) (t := t) q1 r1 r2 (by rw [hk, hlen]) hg s2, RT.of_RV s1⟩
              · simp [hc] at hl
  case pt z =>
    cases hg : aggT P t with
    | none => simp [hg] at hl
    | some g =>
      cases hk : szT P t with
      | none => simp [hg, hk] at hl
      | some k =>
        simp only [hg, hk] at hl
        by_cases hc : (bbeq g z.isAgg && Nat.beq k z.sk.size) = true
        · simp only [hc, if_true, Option.some.injEq, Prod.mk.injEq] at hl
          obtain ⟨rfl, rfl⟩ := hl
          simp only [Bool.and_eq_true] at hc
          have hc1 := bool_beq hc.1
          have hc2 := Nat.eq_of_beq_eq_true hc.2
          have hv : RC w (Mut C.N0 st.m β) (ext st.m β) (.pt z) [v] := by
            rcases hx with ⟨h1, _⟩ | ⟨_, h1⟩
            · simp [T.isAgg] at h1
            · exact h1
          simp only [RC] at hv
          obtain ⟨ad, ds, hv, hne, r3, hlies⟩ := hv
          obtain ⟨b, off, cs, e, fz, pre, post, rfl, hN, hb, r1, r2⟩ := hlies.split hne
          obtain ⟨s1, s2⟩ := RV.of_cells (RC.up _ _ r3 (X := ext st.m β)) hc1
          have hlen : ds.length = k := by rw [RC.length _ _ r3, hc2]
          simp at hv; subst hv
          exact ⟨_, run_load_at (P := P) (t := t) hb r1 r2 (by rw [hk, hlen]) hg s2, RT.of_RV s1⟩
        · simp [hc] at hl

/-- What is stored: the object's new content, and what must hold. -/
def St.sto (P : Program) (st : St) (t : TypeId) (x z : T) (q : List T) : Option (Nat × Cont × Prop) :=
  match x with
  | .ref id p => match st.m[id]? with
    | some (some o) => if o.fz then none else match o.c.nav p q with
      | some n => match szT P t with
        | some k => if (Nat.beq k z.sk.size && Sk.beq z.sk n.y.sk && (!n.ar || z.data)) then match n.f z with
            | some c' => some (id, c', n.ob)
            | none => none
          else none
        | _ => none
      | none => none
    | _ => none
  | _ => none

theorem Sim.sto {P : Program} {C : Ctx} {β : Bel} {st : St} {a : Act} {w : World} (h : Sim C β st a w) {t : TypeId} {x z : T} {q : List T} {id : Nat} {c' : Cont} {ob : Prop} {v u : Value}
    (hx : RT w (Mut C.N0 st.m β) (ext st.m β) x v) (hz : RV w (Mut C.N0 st.m β) (ext st.m β) z u) (hl : st.sto P t x z q = some (id, c', ob)) (ho : ob) :
    ∃ w', (Instr.storeAt t v u).run P w = .ok () w' ∧ Sim C β (st.fill id ⟨c', false⟩) a w' := by
  cases x <;> simp only [St.sto] at hl <;> try (cases hl; done)
  case ref id' p =>
    cases hm : st.m[id']? with
    | none => simp [hm] at hl
    | some oo =>
      cases oo with
      | none => simp [hm] at hl
      | some o =>
        cases hf : o.fz with
        | true => simp [hm, hf] at hl
        | false =>
        cases hn : o.c.nav p q with
        | none => simp [hm, hn, hf] at hl
        | some n =>
          cases hk : szT P t with
          | none => simp [hm, hn, hf, hk] at hl
          | some k =>
            simp only [hm, hn, hf, hk, Bool.false_eq_true, if_false] at hl
            by_cases hc : (Nat.beq k z.sk.size && Sk.beq z.sk n.y.sk && (!n.ar || z.data)) = true
            · simp only [hc, if_true] at hl
              cases hfz : n.f z with
              | none => simp [hfz] at hl
              | some c'' =>
                simp only [hfz, Option.some.injEq, Prod.mk.injEq] at hl
                obtain ⟨rfl, rfl, rfl⟩ := hl
                simp only [Bool.and_eq_true, Bool.or_eq_true, Bool.not_eq_true'] at hc
                have hc1 := Nat.eq_of_beq_eq_true hc.1.1
                have hc2 := Sk.eq_of_beq _ _ hc.1.2
                have hv : RC w (Mut C.N0 st.m β) (ext st.m β) (.ref id' p) [v] := by
                  rcases hx with ⟨h1, _⟩ | ⟨_, h1⟩
                  · simp [T.isAgg] at h1
                  · exact h1
                simp only [RC] at hv
                obtain ⟨ad, hv, o', b, k', e1, e2, e3⟩ := hv
                rw [hm] at e1; simp only [Option.some.injEq] at e1; subst e1
                have hme := h.me id' o hm
                rw [e2] at hme
                obtain ⟨cs, e, fz, q1, q2, q3, q4⟩ := hme
                have q3' := q3 hf
                subst q3'
                obtain ⟨pre, d, post, r1, r2, r3, r4⟩ := Cont.nav_ok o.c p q n cs.toList hn q4 ho
                obtain ⟨s1, s2⟩ := r4 z u.cells.toList c'' hc2 (fun har => by rcases hc.2 with h | h; · rw [har] at h; cases h
                                                                              · exact h) hz.cells hfz
                have hlen : u.cells.toList.length = d.length := by rw [RC.length _ _ hz.cells, RC.length _ _ r3, hc2]
                simp at hv; subst hv; subst e3
                have hrun := run_store_at (P := P) (t := t) (v := u) q1 r1 r2 (by rw [hk, hc1, RC.length _ _ hz.cells]) rfl hlen (RC.one _ _ hz.cells)
                refine ⟨_, hrun, ?_⟩
                have hsz : (pre ++ u.cells.toList ++ post).toArray.size = k' := by
                  have := congrArg List.length r1
                  simp at this hlen ⊢
                  omega
                refine h.write hm hf e2 c'' s2 _ e ⟨rfl, rfl, rfl, by simp, fun b' hb' hne => setRow_other w b b' _ hne⟩ (setRow_heap w b cs _ e (0, 0) q1) hsz ?_
                refine CC.mono (w := w) (N := Mut C.N0 st.m β) (fun b' hb' _ => ⟨hb', setRow_other w b b' _ (fun e => hb' (.inr ⟨id', o, k', hm, hf, by rw [e2, e]⟩))⟩) (Ext.Le.refl _) _ _ ?_
                simpa using s1
            · simp [hc] at hl

end Go.AL
