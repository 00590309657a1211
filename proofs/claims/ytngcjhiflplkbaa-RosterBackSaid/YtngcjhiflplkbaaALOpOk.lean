/- The step is sound. No condition. -/
import Derived.Test.YtngcjhiflplkbaaALOp
import Derived.Laws.MakeOwn
namespace Go.AL
open Go

theorem upon_v {P : Program} {o : Oper} {a : Act} {w w' : World} {next : Act → World → Prop} {Q : Exit → Act → World → Prop} {v : Value} (h : (execOp a.eval o).run P w = .ok (.value v) w') (hn : next (a.put o.dst v) w') : o.wp P a w next Q := by
  unfold Oper.wp; rw [h]; exact hn

theorem upon_s {P : Program} {o : Oper} {a : Act} {w w' : World} {next : Act → World → Prop} {Q : Exit → Act → World → Prop} (h : (execOp a.eval o).run P w = .ok .skip w') (hn : next (a.put o.dst undef) w') : o.wp P a w next Q := by
  unfold Oper.wp; rw [h]; exact hn

theorem slen (P : Program) {t ty : TypeId} {w : World} (ht : isSliceT P t = true) (A : Option Addr) (m c : Nat) : (Builtin.len_ #[t] ty #[.slice A m c]).run P w = .ok (.int .i64 m) w := by
  unfold isSliceT at ht
  split at ht
  · rename_i e hu
    simp [Builtin.len_, run_underlying hu, goInt]
  · cases ht

theorem strlen (P : Program) {t ty : TypeId} {w : World} (ht : isStrT P t = true) (l : List UInt8) : (Builtin.len_ #[t] ty #[.string ⟨l.toArray⟩]).run P w = .ok (.int .i64 l.length) w := by
  unfold isStrT at ht
  split at ht
  · rename_i hu
    simp only [Builtin.len_, List.getElem?_toArray, List.getElem?_cons_zero, Sem.run_bind, run_underlying hu]
    rfl
  · cases ht

section
variable {C : Ctx} {β : Bel} {st : St} {a : Act} {w : World} (h : Sim C β st a w)
include h

theorem evs_ok : ∀ (os : List Operand) (xs : List T), st.evs os = some xs → (os.map a.eval).length = xs.length ∧ ∀ (k : Nat) (x : T), xs[k]? = some x → ∃ v, (os.map a.eval)[k]? = some v ∧ RT w (Mut C.N0 st.m β) (ext st.m β) x v
  | [], xs, hs => by
    simp only [St.evs, Option.some.injEq] at hs
    subst hs
    exact ⟨rfl, fun k x hk => by simp at hk⟩
  | o :: os, xs, hs => by
    simp only [St.evs] at hs
    split at hs
    · rename_i x xs' h1 h2
      simp only [Option.some.injEq] at hs
      subst hs
      obtain ⟨r1, r2⟩ := evs_ok os xs' h2
      refine ⟨by simp at r1 ⊢; exact r1, fun k y hk => ?_⟩
      cases k with
      | zero => simp at hk; subst hk; exact ⟨a.eval o, by simp, h.ev h1⟩
      | succ k => simp at hk; simpa using r2 k y hk
    · cases hs

theorem evp_ok : ∀ (ps : List (Nat × Operand)) (xs : List (Nat × T)), st.evp ps = some xs → (ps.map fun p => (p.1, a.eval p.2)).map (·.1) = xs.map (·.1) ∧
    ∀ (k : Nat) (p : Nat × T), xs[k]? = some p → ∃ q : Nat × Value, (ps.map fun p => (p.1, a.eval p.2))[k]? = some q ∧ RT w (Mut C.N0 st.m β) (ext st.m β) p.2 q.2
  | [], xs, hs => by
    simp only [St.evp, Option.some.injEq] at hs
    subst hs
    exact ⟨rfl, fun k x hk => by simp at hk⟩
  | (j, o) :: ps, xs, hs => by
    simp only [St.evp] at hs
    split at hs
    · rename_i x xs' h1 h2
      simp only [Option.some.injEq] at hs
      subst hs
      obtain ⟨r1, r2⟩ := evp_ok ps xs' h2
      refine ⟨by simp at r1 ⊢; exact r1, fun k y hk => ?_⟩
      cases k with
      | zero => simp at hk; subst hk; exact ⟨(j, a.eval o), by simp, h.ev h1⟩
      | succ k => simp at hk; simpa using r2 k y hk
    · cases hs

theorem bd_ok {o : Option Operand} {b : Bd} (hs : st.bd o = some b) : BdV b (o.map a.eval) := by
  cases o with
  | none => simp only [St.bd, Option.some.injEq] at hs; subst hs; trivial
  | some o =>
    simp only [St.bd] at hs
    split at hs
    · rename_i x hx
      split at hs
      · rename_i n hn
        simp only [Option.some.injEq] at hs
        subst hs
        exact (h.ev hx).int hn
      · cases hs
    · cases hs

omit h in
theorem lenT_ok {P : Program} {t ty : TypeId} {x : T} {n : Int} {v : Value} (hx : RT w (Mut C.N0 st.m β) (ext st.m β) x v) (hl : st.lenT P t x = some n) :
    (Builtin.len_ #[t] ty #[v]).run P w = .ok (.int .i64 n) w := by
  unfold St.lenT at hl
  split at hl
  · split at hl
    · rename_i ht
      simp only [Option.some.injEq] at hl; subst hl
      have := hx.val rfl
      subst this
      exact strlen P ht _
    · cases hl
  · split at hl
    · rename_i ht
      simp only [Option.some.injEq] at hl; subst hl
      obtain ⟨A, c, rfl, _⟩ := hx.sb
      exact slen P ht _ _ _
    · cases hl
  · split at hl
    · rename_i ht
      simp only [Option.some.injEq] at hl; subst hl
      obtain ⟨A, c, ds, rfl, _⟩ := hx.sl
      exact slen P ht _ _ _
    · cases hl
  · split at hl
    · rename_i ht
      simp only [Option.some.injEq] at hl; subst hl
      have := hx.val (r := .slice none 0 0) rfl
      subst this
      exact slen P ht _ _ _
    · cases hl
  · split at hl
    · rename_i ht
      split at hl
      · rename_i o hm
        split at hl
        · rename_i p hlen
          simp only [Option.some.injEq] at hl; subst hl
          obtain ⟨_, o', e1, n', sz', e2, e3, e4⟩ := hx.row
          rw [hm] at e1; simp only [Option.some.injEq] at e1; subst e1
          rw [rlen_eq e2]
          revert e4
          split
          · rintro ⟨A, cap, rfl, _⟩; exact slen P ht _ _ _
          · rintro ⟨rfl, e5, _⟩; rw [e5]; exact slen P ht _ _ _
        · cases hl
      · cases hl
    · cases hl
  · cases hl
end

theorem made_RU {w : World} {N : Nat → Prop} {X : Ext} (z : T) (zc : List Value) (f : Nat → Value) (hd : z.data = true) (hz : RC w N X z zc) (hpos : 1 ≤ z.sk.size) (hf : ∀ j, zc[j % z.sk.size]? = some (f j)) :
    ∀ (n : Nat), RU w N z.sk (List.replicate n z) ((List.range (n * z.sk.size)).map f)
  | 0 => by simp [RU]
  | n + 1 => by
    have ih := made_RU z zc f hd hz hpos hf n
    have hl := RC.length _ _ hz
    have hr : (List.range ((n + 1) * z.sk.size)).map f = (List.range (n * z.sk.size)).map f ++ zc := by
      rw [Nat.succ_mul, List.range_add, List.map_append]
      congr 1
      apply List.ext_getElem?
      intro j
      rw [List.map_map, List.getElem?_map]
      by_cases hj : j < z.sk.size
      · rw [List.getElem?_range hj]
        have := hf (n * z.sk.size + j)
        rw [Nat.mul_comm n, Nat.mul_add_mod, Nat.mod_eq_of_lt hj] at this
        rw [this]
        simp [Nat.mul_comm n]
      · rw [List.getElem?_eq_none (by simp; omega), List.getElem?_eq_none (by omega)]
        rfl
    rw [hr, List.replicate_succ']
    refine RU.append _ _ _ _ ih ?_
    simp only [RU]
    exact ⟨zc, [], by simp, hl, trivial, RC.data _ _ hd hz, rfl⟩

theorem zeros_ok {P : Program} {t : TypeId} {n m : Int} {c : Cont} {ob : Prop} (h : zeros P t n m = some (c, ob)) (ho : ob) (w : World) :
    ∃ e k, ∃ cs : List Value, (Instr.makeSlice t (.int .i64 n) (.int .i64 m)).run P w = .ok (.slice (some ⟨w.heap.size, 0, none⟩) n.toNat m.toNat) (w.alloc (.cells cs.toArray e)) ∧
      c.len [] = some (n.toNat, k) ∧ c.off [] = 0 ∧ n.toNat ≤ m.toNat ∧ m.toNat * k ≤ cs.length ∧ ∀ N X, CC w N X c cs := by
  unfold zeros at h
  split at h
  · rename_i e hu
    split at h
    · rename_i z cz i hz hi
      obtain ⟨i', zv, z1, z2, z3, z4, z5, z6⟩ := zeroOk_spec hz
      rw [hi] at z1; simp only [Option.some.injEq] at z1; subst z1
      have hsz : i.size = z.sk.size := by simpa [szT, hi] using z5
      have hzc : zv.cells.size = z.sk.size := by
        have := RC.length _ _ (z6 w (fun _ => False) Ext.none).cells
        simpa using this
      split at h
      · rename_i hpos
        have hpos := Nat.le_of_ble_eq_true hpos
        have main : (0 ≤ n ∧ n ≤ m ∧ i.bytes * m ≤ 140737488355328 ∧ m ≤ 9223372036854775807) → (Instr.makeSlice t (.int .i64 n) (.int .i64 m)).run P w = .ok (.slice (some ⟨w.heap.size, 0, none⟩) n.toNat m.toNat) (w.alloc (.cells (madeCells zv.cells (m.toNat * i.size)) e)) :=
          fun ⟨h0, h1, h2, h3⟩ => run_make w t e i zv hu hi z2 .i64 .i64 n m h0 h1 (by omega) h3
        have hf : ∀ j, zv.cells.toList[j % z.sk.size]? = some (zv.cells[j % z.sk.size]!) := fun j => by
          have : j % z.sk.size < zv.cells.size := by rw [hzc]; exact Nat.mod_lt _ (by omega)
          simp [this]
        have hm : (madeCells zv.cells (m.toNat * i.size)).toList = (List.range (m.toNat * z.sk.size)).map (fun j => zv.cells[j % z.sk.size]!) := by
          unfold madeCells
          rw [hzc, hsz]
          simp
        have hlen : (madeCells zv.cells (m.toNat * i.size)).toList.length = m.toNat * z.sk.size := by rw [hm]; simp
        have hsplit : n.toNat ≤ m.toNat → ∃ r, (madeCells zv.cells (m.toNat * i.size)).toList = (List.range (n.toNat * z.sk.size)).map (fun j => zv.cells[j % z.sk.size]!) ++ r := fun hnm => by
          rw [hm]
          obtain ⟨d, hd⟩ := Nat.le.dest hnm
          rw [← hd, Nat.add_mul, List.range_add, List.map_append]
          exact ⟨_, rfl⟩
        split at h
        · rename_i x _
          split at h
          · rename_i hx
            have hx := Nat.eq_of_beq_eq_true hx
            simp only [Option.some.injEq, Prod.mk.injEq] at h
            obtain ⟨rfl, rfl⟩ := h
            have hnm : n.toNat ≤ m.toNat := by have := ho.2.1; omega
            refine ⟨e, 1, (madeCells zv.cells (m.toNat * i.size)).toList, by simpa using main ho, by simp [Cont.len], rfl, hnm, by rw [hlen]; simp [T.sk, Sk.size], fun N X => ?_⟩
            obtain ⟨r, hr⟩ := hsplit hnm
            refine ⟨r, ?_⟩
            rw [hr]
            congr 1
            have hx0 : x = 0 := UInt8.toNat_inj.1 (by simpa using hx)
            have hcells := (z6 w N X).cells
            simp only [RC] at hcells
            have : zv.cells = #[u8v x] := by rw [← Array.toList_inj, hcells]
            apply List.ext_getElem?
            intro j
            simp only [T.sk, Sk.size, Nat.mul_one]
            by_cases hj : j < n.toNat
            · rw [List.getElem?_map, List.getElem?_range hj, List.getElem?_map, List.getElem?_replicate, if_pos hj]
              simp [this, hx0, Nat.mod_one]
            · rw [List.getElem?_eq_none (by simp; omega), List.getElem?_eq_none (by simp; omega)]
          · cases h
        · split at h
          · rename_i hd
            simp only [Option.some.injEq, Prod.mk.injEq] at h
            obtain ⟨rfl, rfl⟩ := h
            have hnm : n.toNat ≤ m.toNat := by have := ho.2.1; omega
            refine ⟨e, z.sk.size, (madeCells zv.cells (m.toNat * i.size)).toList, by simpa using main ho, by simp [Cont.len], rfl, hnm, by rw [hlen]; exact Nat.le_refl _, fun N X => ?_⟩
            obtain ⟨r, hr⟩ := hsplit hnm
            exact ⟨_, r, hr, made_RU z _ _ hd (z6 w N X).cells hpos hf _⟩
          · cases h
      · cases h
    · cases h
  · cases h

end Go.AL
