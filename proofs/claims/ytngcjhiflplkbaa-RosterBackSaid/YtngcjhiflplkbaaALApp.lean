/- append in the abstract state. No condition. -/
import Derived.Test.YtngcjhiflplkbaaALView
namespace Go.AL
open Go

section
variable {P : Program} {t ty e : TypeId} {i : TypeInfo} (ht : P.underlying t = some (.slice e)) (hi : P.info? e = some i)
include ht hi

theorem run_app_room {w w' : World} {base : Option Addr} {sLen sCap m : Nat} {src : Value} {news : List Value} (hl : (Builtin.lenOf src).run P w = .ok m w)
    (hf : (Builtin.firstCells i.size m src).run P w = .ok news.toArray w) (hroom : sLen + m ≤ sCap)
    (hst : match base with | some a => (storeCells (a.add (sLen * i.size)) news).run P w = .ok () w' | none => w' = w) :
    (Builtin.append_ #[t, t] ty #[.slice base sLen sCap, src]).run P w = .ok (.slice base (sLen + m) sCap) w' := by
  cases base with
  | none => subst hst; simp [Builtin.append_, run_underlying ht, sizeOf, typeInfo, hi, hl, hroom, hf]
  | some a => simp at hst; simp [Builtin.append_, run_underlying ht, sizeOf, typeInfo, hi, hl, hroom, hf, hst]

theorem run_app_grow {w : World} {z : Value} (hz : i.zero = some z) {base : Option Addr} {sLen sCap m : Nat} {src : Value} {olds news : List Value} (hl : (Builtin.lenOf src).run P w = .ok m w)
    (hfo : (Builtin.firstCells i.size sLen (.slice base sLen sCap)).run P w.drew = .ok olds.toArray w.drew) (hf : (Builtin.firstCells i.size m src).run P w.drew = .ok news.toArray w.drew)
    (hg : sCap < sLen + m) (h63 : ((sLen + m : Nat) : Int) ≤ 9223372036854775807) (hfit : Builtin.nextslicecap (sLen + m) sCap * i.bytes ≤ 281474976710656) :
    (Builtin.append_ #[t, t] ty #[.slice base sLen sCap, src]).run P w =
      .ok (.slice (some ⟨w.heap.size, 0, none⟩) (sLen + m) (grownCap w (sLen + m) sCap e))
        (w.drew.alloc (.cells (olds ++ news ++ (Builtin.zeroCells z.cells (grownCap w (sLen + m) sCap e - (sLen + m))).toList).toArray e)) := by
  have hn : ¬ (sLen + m ≤ sCap) := by omega
  have h63' : ¬ (9223372036854775807 < ((sLen : Int) + (m : Int))) := by omega
  have h48' : ¬ (281474976710656 < Builtin.nextslicecap (sLen + m) sCap * i.bytes) := by omega
  simp [Builtin.append_, run_underlying ht, sizeOf, typeInfo, zeroValue, hi, hz, hl, hn, h63', h48', Question.forced, hf, hfo, newRow, grownCap]
  congr 2
  apply Array.ext'
  simp
end

theorem lenOf_slice (P : Program) (A : Option Addr) (n c : Nat) (w : World) : (Builtin.lenOf (.slice A n c)).run P w = .ok n w := by simp [Builtin.lenOf]

theorem firstCells_lies {P : Program} {w : World} {A : Option Addr} {n c size : Nat} {ds : List Value} (h : Lies w (fun _ => False) A ds) (hn : ds.length = n * size) :
    (Builtin.firstCells size n (.slice A n c)).run P w = .ok ds.toArray w := by
  by_cases h0 : ds = []
  · subst h0
    simp at hn
    cases A with
    | none => simp [Builtin.firstCells]
    | some a =>
      simp only [Builtin.firstCells, ← hn]
      simp [loadCells, loadCellsFrom]
  · have : ∃ a, A = some a := by
      rcases h with h | ⟨b, off, hA, _⟩
      · exact absurd h h0
      · exact ⟨_, hA⟩
    obtain ⟨a, rfl⟩ := this
    obtain ⟨b, off, cs, e, fz, pre, post, rfl, _, hb, hcs, hp⟩ := h.split h0
    simp only [Builtin.firstCells, ← hn]
    refine run_loadCells_list (P := P) w ⟨b, off, none⟩ ds fun j v hj => ?_
    rw [addr_add]
    have hl : j < ds.length := (List.getElem?_eq_some_iff.1 hj).1
    have : cs[off + j]? = cs.toList[off + j]? := by simp
    simp only [World.cell?, hb, Option.isSome_none, Bool.false_eq_true, if_false]
    rw [this, hcs, ← hp, List.append_assoc, List.getElem?_append_right (by omega), List.getElem?_append_left (by omega)]
    rw [show pre.length + j - pre.length = j by omega]
    exact hj

theorem Lies.drew {w : World} {N : Nat → Prop} {A : Option Addr} {ds : List Value} (h : Lies w N A ds) : Lies w.drew N A ds := h

/-- What a source of an append holds. -/
def St.src (st : St) (y : T) : Option (Cont × Prop) :=
  match y with
  | .sb l => some (.rb l, True)
  | .sl e xs => some (.rs e xs, True)
  | .v (.slice none 0 0) => some (.rb [], True)
  | .row id p off rest => match st.m[id]? with
    | some (some o) => match p, o.c with
      | [], .rs e xs => some (.rs e (rowCut off rest xs), True)
      | p1, _ => match st.view (fun _ => false) 1 (.row id p1 off rest) with
        | some (.sb l, ob) => some (.rb l, ob)
        | _ => none
    | _ => none
  | _ => none

def SrcOk (w : World) (N : Nat → Prop) (c : Cont) (v : Value) : Prop :=
  ∃ A cap ds, match c with
    | .rb l => v = .slice A l.length cap ∧ Lies w (fun _ => False) A ds ∧ ds = l.map u8v
    | .rs e xs => v = .slice A xs.length cap ∧ Lies w (fun _ => False) A ds ∧ RU w N e xs ds
    | .var _ => False

theorem Sim.src {C : Ctx} {β : Bel} {st : St} {a : Act} {w : World} (h : Sim C β st a w) {y : T} {v : Value} {c : Cont} {ob : Prop}
    (hy : RT w (Mut C.N0 st.m β) (ext st.m β) y v) (hs : st.src y = some (c, ob)) (ho : ob) : SrcOk w (Mut C.N0 st.m β) c v := by
  unfold St.src at hs
  split at hs
  · simp only [Option.some.injEq, Prod.mk.injEq] at hs
    obtain ⟨rfl, rfl⟩ := hs
    obtain ⟨A, cap, rfl, _, hl⟩ := hy.sb
    exact ⟨A, cap, _, rfl, hl.mono (fun b _ _ => ⟨fun f => f, rfl⟩), rfl⟩
  · simp only [Option.some.injEq, Prod.mk.injEq] at hs
    obtain ⟨rfl, rfl⟩ := hs
    obtain ⟨A, cap, ds, rfl, _, hr, hl⟩ := hy.sl
    exact ⟨A, cap, ds, rfl, hl.mono (fun b _ _ => ⟨fun f => f, rfl⟩), hr⟩
  · simp only [Option.some.injEq, Prod.mk.injEq] at hs
    obtain ⟨rfl, rfl⟩ := hs
    have hv : v = .slice none 0 0 := by
      rcases hy with ⟨h1, _⟩ | ⟨_, h1⟩
      · simp [T.isAgg] at h1
      · simp only [RC] at h1; simpa using h1.2
    subst hv
    exact ⟨none, 0, [], rfl, .inl rfl, rfl⟩
  · rename_i id p off rest
    split at hs
    · rename_i o hm
      split at hs
      · rename_i e xs hc
        simp only [Option.some.injEq, Prod.mk.injEq] at hs
        obtain ⟨rfl, rfl⟩ := hs
        obtain ⟨_, o', e1, hr⟩ := hy.row
        rw [hm] at e1; simp only [Option.some.injEq] at e1; subst e1
        have hme := h.me id o hm
        have hn : o.c.len [] = some (xs.length, e.size) := by rw [hc]; rfl
        have hu : ∃ ds, RU w (Mut C.N0 st.m β) e xs ds ∧ ∀ b k, β id = some (b, k) → ∃ cs e' fz pre post, w.heap[b]? = some (.cells cs e' fz) ∧ cs.toList = pre ++ ds ++ post ∧ pre.length = o.c.off [] := by
          cases hβ : β id with
          | none =>
            rw [hβ] at hme
            rcases hme with hme | ⟨e', hme⟩
            · rw [hc] at hme; cases hme
            · rw [hc] at hme; cases hme
              exact ⟨[], by simp only [RU], fun b k hq => by cases hq⟩
          | some bk =>
            obtain ⟨b, k⟩ := bk
            rw [hβ] at hme
            obtain ⟨cs, e', fz, q1, q2, q3, q4⟩ := hme
            rw [hc] at q4
            obtain ⟨ds, r, q4, q5⟩ := q4
            refine ⟨ds, q5, fun b' k' hq => ?_⟩
            simp only [Option.some.injEq, Prod.mk.injEq] at hq
            obtain ⟨rfl, rfl⟩ := hq
            exact ⟨cs, e', fz, [], r, q1, by simpa using q4, by rw [hc]; rfl⟩
        obtain ⟨ds, hu, hcs⟩ := hu
        obtain ⟨A, c, r1, r2, r3, r4⟩ := row_view (w := w) (N' := fun _ => False) (fun _ _ _ f => f) hr hn ds (RU.length _ _ hu) hcs
        have hl := rowCut_length off rest xs r3
        exact ⟨A, c, _, by rw [r1, hl], r4, hu.rowCut off rest⟩
      · split at hs
        · rename_i l ob' hv
          simp only [Option.some.injEq, Prod.mk.injEq] at hs
          obtain ⟨rfl, rfl⟩ := hs
          have hrc := hy
          rcases hrc with ⟨h1, _⟩ | ⟨_, hrc⟩
          · simp [T.isAgg] at h1
          obtain ⟨r1, _, _⟩ := view_ok (N' := fun _ => False) (fun _ _ f => f) (fun _ _ _ _ _ _ _ f => f) h 1 _ _ _ _ hv ho hrc
          simp only [RC] at r1
          obtain ⟨A, cap, g1, g2, g3⟩ := r1
          simp at g1
          exact ⟨A, cap, _, g1, g3, rfl⟩
        · cases hs
    · cases hs
  · cases hs

/-- A row with more behind it: what it holds then, and how many. -/
def Cont.more (c y : Cont) : Option (Cont × Nat) :=
  match c, y with
  | .rb l, .rb ys => some (.rb (l ++ ys), l.length + ys.length)
  | .rs e xs, .rs f ys => if Sk.beq e f then some (.rs e (xs ++ ys), xs.length + ys.length) else none
  | .rs e xs, .rb [] => some (.rs e xs, xs.length)
  | _, _ => none

/-- The row's element type: its cells and bytes fit. -/
def elOk (P : Program) (t : TypeId) (c : Cont) : Option Nat :=
  match P.underlying t with
  | some (.slice e) => match P.info? e with
    | some i => match i.zero, c.len [] with
      | some z, some (_, sz) => if (Nat.beq i.size sz && Nat.beq z.cells.size sz && Nat.ble 1 sz) then some i.bytes else none
      | _, _ => none
    | none => none
  | _ => none

/-- What append does: to which object, its new content, what must hold. -/
def St.app (P : Program) (nio : Nat) (st : St) (ts : Array TypeId) (x y : T) : Option (Nat × Cont × Prop) :=
  match ts.toList, x with
  | [t1, t2], .row id [] 0 none => if Nat.beq t1 t2 then match st.m[id]? with
    | some (some o) => if (o.fz || !Nat.ble nio id) then none else match st.src y with
      | some (cy, ob) => match o.c.more cy, elOk P t1 o.c with
        | some (c', n), some bytes => some (id, c', ob ∧ n * bytes ≤ 140737488355328 ∧ n ≤ 9223372036854775807)
        | _, _ => none
      | none => none
    | _ => none
    else none
  | _, _ => none

/-- What append does to a nil slice: the content of the new object. -/
def St.app0 (P : Program) (st : St) (ts : Array TypeId) (x y : T) : Option (Cont × Prop) :=
  match ts.toList, x with
  | [t1, t2], .v (.slice none 0 0) => if Nat.beq t1 t2 then match st.src y with
      | some (cy, ob) => match cy with
        | .rb l => match elOk P t1 cy with
          | some bytes => some (.rb l, ob ∧ l.length * bytes ≤ 140737488355328 ∧ l.length ≤ 9223372036854775807)
          | none => none
        | .rs e xs => match elOk P t1 cy with
          | some bytes => some (.rs e xs, ob ∧ xs.length * bytes ≤ 140737488355328 ∧ xs.length ≤ 9223372036854775807)
          | none => none
        | .var _ => none
      | none => none
    else none
  | _, _ => none

theorem more_len {c y c' : Cont} {n : Nat} (h : c.more y = some (c', n)) {k sz : Nat} (hc : c.len [] = some (k, sz)) :
    ∃ m, n = k + m ∧ c'.len [] = some (n, sz) ∧ c'.off [] = 0 ∧ c.off [] = 0 ∧ (∀ (w : World) (N : Nat → Prop) (v : Value), SrcOk w N y v → ∃ A cap ds, v = .slice A m cap ∧ ds.length = m * sz ∧ Lies w (fun _ => False) A ds ∧
      ((∃ l, c' = .rb l) ∨ ∃ e xs, c' = .rs e xs) ∧ (∀ u ∈ ds, u.oneCell' = true) ∧
      ∀ X cs post, CC w N X c cs → CC w N X c' (cs.take (k * sz) ++ ds ++ post)) := by
  unfold Cont.more at h
  split at h
  · rename_i l ys
    simp only [Option.some.injEq, Prod.mk.injEq] at h
    obtain ⟨rfl, rfl⟩ := h
    simp only [Cont.len, Option.some.injEq, Prod.mk.injEq] at hc
    obtain ⟨rfl, rfl⟩ := hc
    refine ⟨ys.length, rfl, by simp [Cont.len], rfl, rfl, fun w N v hs => ?_⟩
    obtain ⟨A, cap, ds, h1, h2, rfl⟩ := hs
    refine ⟨A, cap, _, h1, by simp, h2, .inl ⟨_, rfl⟩, ?_, fun X cs post hcc => ?_⟩
    · intro u hu; simp at hu; obtain ⟨a, _, rfl⟩ := hu; rfl
    · obtain ⟨r, rfl⟩ := hcc
      refine ⟨post, ?_⟩
      rw [List.take_left' (by simp)]
      simp
  · rename_i e xs f ys
    split at h
    · rename_i he
      have he := Sk.eq_of_beq _ _ he
      subst he
      simp only [Option.some.injEq, Prod.mk.injEq] at h
      obtain ⟨rfl, rfl⟩ := h
      simp only [Cont.len, Option.some.injEq, Prod.mk.injEq] at hc
      obtain ⟨rfl, rfl⟩ := hc
      refine ⟨ys.length, rfl, by simp [Cont.len], rfl, rfl, fun w N v hs => ?_⟩
      obtain ⟨A, cap, ds, h1, h2, h3⟩ := hs
      refine ⟨A, cap, _, h1, RU.length _ _ h3, h2, .inr ⟨_, _, rfl⟩, RU.one _ _ h3, fun X cs post hcc => ?_⟩
      obtain ⟨c0, r, rfl, hu⟩ := hcc
      refine ⟨c0 ++ ds, post, ?_, RU.append _ _ _ _ hu h3⟩
      rw [List.take_left' (RU.length _ _ hu)]
    · cases h
  · rename_i e xs
    simp only [Option.some.injEq, Prod.mk.injEq] at h
    obtain ⟨rfl, rfl⟩ := h
    simp only [Cont.len, Option.some.injEq, Prod.mk.injEq] at hc
    obtain ⟨rfl, rfl⟩ := hc
    refine ⟨0, rfl, by simp [Cont.len], rfl, rfl, fun w N v hs => ?_⟩
    obtain ⟨A, cap, ds, h1, h2, rfl⟩ := hs
    refine ⟨A, cap, _, h1, by simp, h2, .inr ⟨_, _, rfl⟩, by simp, fun X cs post hcc => ?_⟩
    obtain ⟨c0, r, rfl, hu⟩ := hcc
    refine ⟨c0, post, ?_, hu⟩
    rw [List.take_left' (RU.length _ _ hu)]
    simp
  · cases h

theorem elOk_spec {P : Program} {t : TypeId} {c : Cont} {bytes : Nat} (h : elOk P t c = some bytes) :
    ∃ e i z k sz, P.underlying t = some (.slice e) ∧ P.info? e = some i ∧ i.zero = some z ∧ c.len [] = some (k, sz) ∧ i.size = sz ∧ z.cells.size = sz ∧ 1 ≤ sz ∧ i.bytes = bytes := by
  unfold elOk at h
  split at h
  · rename_i e hu
    split at h
    · rename_i i hi
      split at h
      · rename_i z k sz hz hc
        split at h
        · rename_i hb
          simp only [Option.some.injEq] at h
          simp only [Bool.and_eq_true] at hb
          exact ⟨e, i, z, k, sz, hu, hi, hz, hc, Nat.eq_of_beq_eq_true hb.1.1, Nat.eq_of_beq_eq_true hb.1.2, Nat.le_of_ble_eq_true hb.2, h⟩
        · cases h
      · cases h
    · cases h
  · cases h

theorem grown_le (w : World) (need old : Nat) (e : TypeId) : need ≤ grownCap w need old e := by
  simp only [grownCap, Question.cut]; omega

theorem zero_len (z : Value) (n : Nat) : (Builtin.zeroCells z.cells n).toList.length = n * z.cells.size := by
  simp [Builtin.zeroCells]

theorem keeps_setRow (w : World) (b : Nat) (cs : Array Value) : Keeps (fun x => x = b) w (w.setRow b cs) :=
  ⟨rfl, rfl, rfl, by simp, fun x _ hx => setRow_other w b x cs hx⟩

/-- append to a row. -/
theorem Sim.app {P : Program} {C : Ctx} {β : Bel} {st : St} {a : Act} {w : World} (h : Sim C β st a w) {ts : Array TypeId} {ty : TypeId} {x y : T} {id : Nat} {c' : Cont} {ob : Prop} {v u : Value}
    (hx : RT w (Mut C.N0 st.m β) (ext st.m β) x v) (hy : RT w (Mut C.N0 st.m β) (ext st.m β) y u) (hl : st.app P C.nio ts x y = some (id, c', ob)) (ho : ob) :
    ∃ r w' β', (Builtin.append_ ts ty #[v, u]).run P w = .ok r w' ∧ Sim C β' (st.renew id c') a w' ∧
      RT w' (Mut C.N0 (st.renew id c').m β') (ext (st.renew id c').m β') (.row id [] 0 none) r := by
  unfold St.app at hl
  split at hl
  · rename_i t1 t2 id' hts
    split at hl
    · rename_i ht12
      have ht12 := Nat.eq_of_beq_eq_true ht12
      subst ht12
      have hts' : ts = #[t1, t1] := by rw [← Array.toList_inj, hts]
      subst hts'
      split at hl
      · rename_i o hm
        split at hl
        · cases hl
        · rename_i hfz
          have hfz2 : o.fz = false ∧ Nat.ble C.nio id' = true := by simpa using hfz
          have hvar : C.nio ≤ id' := Nat.le_of_ble_eq_true hfz2.2
          have hfz : o.fz = false := hfz2.1
          split at hl
          · rename_i cy ob' hsrc
            split at hl
            · rename_i c'' n bytes hmore hel
              simp only [Option.some.injEq, Prod.mk.injEq] at hl
              obtain ⟨rfl, rfl, rfl⟩ := hl
              obtain ⟨ho1, hfit, h63⟩ := ho
              obtain ⟨e, i, z, k, sz, q1, q2, q3, q4, q5, q6, q7, q8⟩ := elOk_spec hel
              obtain ⟨m, rfl, g2, g3, g3', g4⟩ := more_len hmore q4
              obtain ⟨A, cap, ds, rfl, r1, r2, r3, r4, r5⟩ := g4 w _ u (h.src hy hsrc ho1)
              obtain ⟨hv1, o', e1, n', sz', e2, e3, e4⟩ := hx.row
              rw [hm] at e1; simp only [Option.some.injEq] at e1; subst e1
              rw [q4] at e2; simp only [Option.some.injEq, Prod.mk.injEq] at e2
              obtain ⟨rfl, rfl⟩ := e2
              have hlen : (none : Option Nat).getD (k - 0) = k := by simp
              rw [hlen] at e3 e4
              have hme := h.me id' o hm
              have hlt : id' < st.m.length := (List.getElem?_eq_some_iff.1 hm).1
              have hklen : (killM id' st.m).length = st.m.length := by
                have : ∀ m : List (Option Obj), (killM id' m).length = m.length := by
                  intro m
                  induction m with
                  | nil => rfl
                  | cons x m ih => cases x <;> simp [killM, ih]
                exact this _
              have hself : (st.renew id' c'').m[id']? = some (some ⟨c'', false⟩) := by simp [St.renew, hklen, hlt]
              have hfc : (Builtin.firstCells i.size m (.slice A m cap)).run P w = .ok ds.toArray w := firstCells_lies r2 (by rw [q5]; exact r1)
              have hfcd : (Builtin.firstCells i.size m (.slice A m cap)).run P w.drew = .ok ds.toArray w.drew := firstCells_lies r2.drew (by rw [q5]; exact r1)
              -- it grows: a new block
              have grow : ∀ (base : Option Addr) (sCap : Nat) (olds : List Value), v = .slice base k sCap → sCap < k + m → olds.length = k * sz → (Builtin.firstCells i.size k (.slice base k sCap)).run P w.drew = .ok olds.toArray w.drew →
                  (∀ post, CC w (Mut C.N0 st.m β) (ext st.m β) c'' (olds ++ ds ++ post)) →
                  ∃ r w' β', (Builtin.append_ #[t1, t1] ty #[v, .slice A m cap]).run P w = .ok r w' ∧ Sim C β' (st.renew id' c'') a w' ∧
                    RT w' (Mut C.N0 (st.renew id' c'').m β') (ext (st.renew id' c'').m β') (.row id' [] 0 none) r := by
                intro base sCap olds hv hg hol hfo hcc
                subst hv
                have hrun := run_app_grow q1 q2 (ty := ty) q3 (w := w) (base := base) (sLen := k) (sCap := sCap) (m := m) (src := .slice A m cap) (olds := olds) (news := ds) (lenOf_slice _ _ _ _ _) hfo hfcd hg (by omega) (growslice_fits hg (by rw [q8]; exact hfit))
                have hgc := grown_le w (k + m) sCap e
                generalize grownCap w (k + m) sCap e = gc at hrun hgc
                have hsize : (olds ++ ds ++ (Builtin.zeroCells z.cells (gc - (k + m))).toList).length = gc * sz := by
                  rw [List.length_append, List.length_append, hol, r1, zero_len, q6, ← Nat.add_mul, ← Nat.add_mul]
                  congr 1
                  omega
                have hkeep : Keeps (fun _ => False) w (w.drew.alloc (.cells (olds ++ ds ++ (Builtin.zeroCells z.cells (gc - (k + m))).toList).toArray e)) :=
                  (keeps_drew w).trans (keeps_alloc _ _) (fun x f => f) (fun x _ f => f)
                obtain ⟨s1, s2, s3⟩ := h.renew hm hfz hvar c'' (some (w.heap.size, gc * sz)) (hkeep.mono (fun x _ f => f.elim)) (fun b k' hq => by
                  simp only [Option.some.injEq, Prod.mk.injEq] at hq
                  obtain ⟨rfl, rfl⟩ := hq
                  exact ⟨.inr (Nat.le_refl _), _, e, heap_new w.drew _, by simpa using hsize, r3, by simpa using hcc _⟩) (fun hq => by cases hq)
                refine ⟨_, _, _, hrun, s1, RT.leaf ?_ rfl⟩
                simp only [RC]
                refine ⟨_, rfl, rfl, _, hself, k + m, sz, g2, by simp, ?_⟩
                simp only [Bel.with, if_true]
                exact ⟨⟨w.heap.size, 0, none⟩, gc, by simp, by simpa using hgc, by rw [g3]; simp, fun _ => by simp⟩
              cases hβ : β id' with
              | none =>
                rw [hβ] at e4 hme
                obtain ⟨rfl, rfl, _, _⟩ := e4
                have hce : ∀ post, CC w (Mut C.N0 st.m β) (ext st.m β) c'' (ds ++ post) := fun post => by
                  have : CC w (Mut C.N0 st.m β) (ext st.m β) o.c [] := by
                    rcases hme with hme | ⟨e', hme⟩ <;> rw [hme]
                    · exact ⟨[], by simp⟩
                    · exact ⟨[], [], by simp, by simp only [RU]⟩
                  simpa using r5 _ _ post this
                by_cases hm0 : m = 0
                · subst hm0
                  have hds : ds = [] := by simpa using r1
                  subst hds
                  have hrun := run_app_room q1 q2 (ty := ty) (w := w) (w' := w) (base := none) (sLen := 0) (sCap := 0) (m := 0) (src := .slice A 0 cap) (news := []) (lenOf_slice _ _ _ _ _) hfc (Nat.le_refl _) rfl
                  obtain ⟨s1, s2, s3⟩ := h.renew hm hfz hvar c'' none (Keeps.refl _ _) (fun b k' hq => by cases hq) (fun _ => by
                    rcases hme with hme | ⟨e', hme⟩
                    · rcases r3 with ⟨l, rfl⟩ | ⟨e1, xs, rfl⟩
                      · simp [Cont.len] at g2; left; rw [g2.1]
                      · simp [Cont.len] at g2; right; exact ⟨e1, by rw [g2.1]⟩
                    · rcases r3 with ⟨l, rfl⟩ | ⟨e1, xs, rfl⟩
                      · simp [Cont.len] at g2; left; rw [g2.1]
                      · simp [Cont.len] at g2; right; exact ⟨e1, by rw [g2.1]⟩)
                  refine ⟨_, _, _, hrun, s1, RT.leaf ?_ rfl⟩
                  simp only [RC]
                  refine ⟨_, rfl, rfl, _, hself, 0, sz, g2, by simp, ?_⟩
                  simp [Bel.with]
                · exact grow none 0 [] rfl (by omega) (by simp) (by simp [Builtin.firstCells]) (fun post => by simpa using hce post)
              | some bk =>
                obtain ⟨b, kk⟩ := bk
                rw [hβ] at e4 hme
                obtain ⟨A0, sCap, rfl, f1, f2, f3⟩ := e4
                obtain ⟨cs, e', fz, p1, p2, p3, p4⟩ := hme
                have p3' := p3 hfz
                subst p3'
                rw [g3'] at f2 f3
                have hcsl : k * sz ≤ cs.toList.length := by
                  have : k * sz ≤ sCap * sz := Nat.mul_le_mul_right _ f1
                  simp at f2 ⊢
                  omega
                by_cases hroom : k + m ≤ sCap
                · by_cases hc0 : sCap = 0
                  · have hk0 : k = 0 := by omega
                    have hm0 : m = 0 := by omega
                    subst hk0 hm0
                    have hds : ds = [] := by simpa using r1
                    subst hds
                    have hrun := run_app_room q1 q2 (ty := ty) (w := w) (w' := w) (base := some A0) (sLen := 0) (sCap := sCap) (m := 0) (src := .slice A 0 cap) (news := []) (lenOf_slice _ _ _ _ _) hfc hroom (by simp [storeCells])
                    obtain ⟨s1, s2, s3⟩ := h.renew hm hfz hvar c'' (some (b, kk)) (Keeps.refl _ _) (fun b' k' hq => by
                      simp only [Option.some.injEq, Prod.mk.injEq] at hq
                      obtain ⟨rfl, rfl⟩ := hq
                      exact ⟨.inl hβ, cs, e', p1, p2, r3, by have := r5 _ _ cs.toList p4; simpa using this⟩) (fun hq => by cases hq)
                    refine ⟨_, _, _, hrun, s1, RT.leaf ?_ rfl⟩
                    simp only [RC]
                    refine ⟨_, rfl, rfl, _, hself, 0, sz, g2, by simp, ?_⟩
                    simp only [Bel.with, if_true]
                    exact ⟨A0, sCap, by simp, by simp, by rw [g3]; simpa using f2, fun hq => by omega⟩
                  · have hA := f3 (by omega)
                    simp at hA
                    subst hA
                    have hfit2 : k * sz + ds.length ≤ cs.size := by
                      rw [r1, ← Nat.add_mul]
                      have : (k + m) * sz ≤ sCap * sz := Nat.mul_le_mul_right _ hroom
                      simp at f2
                      omega
                    have hst := run_storeCells_at P b (k * sz) e' ds 0 cs w p1 (by simpa using hfit2) r4
                    have hrun := run_app_room q1 q2 (ty := ty) (w := w) (w' := w.setRow b (cs.toList.take (k * sz) ++ ds ++ cs.toList.drop (k * sz + ds.length)).toArray) (base := some ⟨b, 0, none⟩) (sLen := k) (sCap := sCap) (m := m) (src := .slice A m cap) (news := ds) (lenOf_slice _ _ _ _ _) hfc hroom (by
                      simp only [addr_add, Nat.zero_add, q5]
                      simpa using hst)
                    obtain ⟨s1, s2, s3⟩ := h.renew (w' := w.setRow b (cs.toList.take (k * sz) ++ ds ++ cs.toList.drop (k * sz + ds.length)).toArray) hm hfz hvar c'' (some (b, kk)) ((keeps_setRow w b _).mono (fun x _ hx => by subst hx; exact ⟨kk, hβ⟩)) (fun b' k' hq => by
                      simp only [Option.some.injEq, Prod.mk.injEq] at hq
                      obtain ⟨rfl, rfl⟩ := hq
                      refine ⟨.inl hβ, _, e', setRow_heap w b cs _ e' (0, 0) p1, ?_, r3, by simpa using r5 _ _ (cs.toList.drop (k * sz + ds.length)) p4⟩
                      simp
                      omega) (fun hq => by cases hq)
                    refine ⟨_, _, _, hrun, s1, RT.leaf ?_ rfl⟩
                    simp only [RC]
                    refine ⟨_, rfl, rfl, _, hself, k + m, sz, g2, by simp, ?_⟩
                    simp only [Bel.with, if_true]
                    exact ⟨⟨b, 0, none⟩, sCap, by simp, by simpa using hroom, by rw [g3]; simpa using f2, fun hq => by simp⟩
                · refine grow (some A0) sCap (cs.toList.take (k * sz)) rfl (by omega) (by simp at hcsl ⊢; omega) ?_ (fun post => by simpa using r5 _ _ post p4)
                  have hlies : Lies w (fun _ => False) (some A0) (cs.toList.take (k * sz)) := by
                    by_cases hk0 : k = 0
                    · left; rw [hk0]; simp
                    · have := f3 (by omega)
                      simp at this
                      subst this
                      exact lies_of_block (N := fun _ => False) (fun f => f) p1 (pre := []) (post := cs.toList.drop (k * sz)) (by simp)
                  exact firstCells_lies hlies.drew (by rw [q5]; simp at hcsl ⊢; omega)
            · cases hl
          · cases hl
      · cases hl
    · cases hl
  · cases hl

end Go.AL
