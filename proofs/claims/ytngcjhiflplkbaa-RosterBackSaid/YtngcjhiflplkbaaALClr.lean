/- clear of a slice. No condition. -/
import Derived.Test.YtngcjhiflplkbaaALBuild
import Derived.Laws.MakeOwn
namespace Go.AL
open Go

/-- What clear does: the object's new content. -/
def St.clr (P : Program) (st : St) (t : TypeId) (x : T) : Option (Nat × Cont) :=
  match P.underlying t, x with
  | some (.slice el), .row id [] off rest => match st.m[id]?, zeroOk P el with
    | some (some o), some (z, _) => if o.fz then none else match o.c with
      | .rs e xs => if (Sk.beq z.sk e && z.data && Nat.ble 1 e.size) then some (id, .rs e (xs.take off ++ List.replicate (o.c.rlen [] off rest) z ++ xs.drop (off + o.c.rlen [] off rest))) else none
      | _ => none
    | _, _ => none
  | _, _ => none

theorem made2_RU {w : World} {N : Nat → Prop} {X : Ext} (z : T) (zc : List Value) (f : Nat → Value) (hd : z.data = true) (hz : RC w N X z zc) (hpos : 1 ≤ z.sk.size) (hf : ∀ j, zc[j % z.sk.size]? = some (f j)) :
    ∀ (n : Nat), RU w N z.sk (List.replicate n z) ((List.range (n * z.sk.size)).map f)
  | 0 => by simp [RU]
  | n + 1 => by
    have ih := made2_RU z zc f hd hz hpos hf n
    have hl := RC.length _ _ hz
    have hr : (List.range ((n + 1) * z.sk.size)).map f = (List.range (n * z.sk.size)).map f ++ zc := by
      rw [Nat.succ_mul, List.range_add, List.map_append]
      congr 1
      apply List.ext_getElem?
      intro j
      rw [List.map_map, List.getElem?_map]
      by_cases hj : j < z.sk.size
      · rw [List.getElem?_range hj]
        have := hf (n * z.sk.size + j)
        rw [Nat.mul_comm n, Nat.mul_add_mod, Nat.mod_eq_of_lt hj] at this
        rw [this]
        simp [Nat.mul_comm n]
      · rw [List.getElem?_eq_none (by simp; omega), List.getElem?_eq_none (by omega)]
        rfl
    rw [hr, List.replicate_succ']
    refine RU.append _ _ _ _ ih ?_
    simp only [RU]
    exact ⟨zc, [], by simp, hl, trivial, RC.data _ _ hd hz, rfl⟩

theorem zeroCells_RU {w : World} {N : Nat → Prop} {X : Ext} (z : T) (zc : Array Value) (hd : z.data = true) (hz : RC w N X z zc.toList) (hpos : 1 ≤ z.sk.size) (n : Nat) : RU w N z.sk (List.replicate n z) (Builtin.zeroCells zc n).toList := by
  have hsz : zc.size = z.sk.size := by have := RC.length _ _ hz; simpa using this
  have := made2_RU z zc.toList (fun j => zc[j % z.sk.size]!) hd hz hpos (fun j => by
    have : j % z.sk.size < zc.size := by rw [hsz]; exact Nat.mod_lt _ (by omega)
    simp [this]) n
  have he : (Builtin.zeroCells zc n).toList = (List.range (n * z.sk.size)).map (fun j => zc[j % z.sk.size]!) := by
    unfold Builtin.zeroCells
    rw [hsz]
    simp
  rw [he]; exact this

theorem Sim.clr {P : Program} {C : Ctx} {β : Bel} {st : St} {a : Act} {w : World} (h : Sim C β st a w) {t ty : TypeId} {x : T} {v : Value} {id : Nat} {c' : Cont} (hx : RT w (Mut C.N0 st.m β) (ext st.m β) x v) (hl : st.clr P t x = some (id, c')) :
    ∃ w', (Builtin.clear_ #[t] ty #[v]).run P w = .ok (.tuple #[]) w' ∧ Sim C β (st.fill id ⟨c', false⟩) a w' := by
  unfold St.clr at hl
  split at hl
  · rename_i el id' off rest hu
    split at hl
    · rename_i o z zc hm hz
      split at hl
      · cases hl
      · rename_i hfz
        have hfz : o.fz = false := by simpa using hfz
        split at hl
        · rename_i e xs hc
          split at hl
          · rename_i hcond
            simp only [Bool.and_eq_true] at hcond
            obtain ⟨⟨h1, h2⟩, h3⟩ := hcond
            have h1 := Sk.eq_of_beq _ _ h1
            have h3 := Nat.le_of_ble_eq_true h3
            simp only [Option.some.injEq, Prod.mk.injEq] at hl
            obtain ⟨rfl, rfl⟩ := hl
            obtain ⟨i, zv, z1, z2, z3, z4, z5, z6⟩ := zeroOk_spec hz
            obtain ⟨hone, o', e1, n, sz, e2, e3, e4⟩ := hx.row
            rw [hm] at e1; simp only [Option.some.injEq] at e1; subst e1
            rw [rlen_eq e2]
            rw [hc] at e2 e4
            simp only [Cont.len, Option.some.injEq, Prod.mk.injEq] at e2
            obtain ⟨rfl, rfl⟩ := e2
            have hme := h.me id' o hm
            generalize hn : rest.getD (xs.length - off) = n at *
            have hlike : o.c.Like (.rs e (xs.take off ++ List.replicate n z ++ xs.drop (off + n))) := by
              rw [hc]; refine ⟨rfl, ?_⟩
              simp; omega
            cases hβ : β id' with
            | none =>
              rw [hβ] at e4 hme
              obtain ⟨rfl, rfl, _, rfl⟩ := e4
              refine ⟨w, by simp [Builtin.clear_, run_underlying hu], ?_⟩
              have : (.rs e (xs.take 0 ++ List.replicate 0 z ++ xs.drop (0 + 0)) : Cont) = o.c := by rw [hc]; simp
              rw [this]
              have hfill : st.fill id' ⟨o.c, false⟩ = st := by
                cases st with
                | mk t m =>
                  simp only [St.fill, St.mk.injEq, true_and]
                  apply List.ext_getElem?
                  intro k
                  rw [List.getElem?_set]
                  by_cases hk : id' = k
                  · subst hk
                    simp only [if_true]
                    have hlt := (List.getElem?_eq_some_iff.1 hm).1
                    simp only at hlt hm
                    rw [if_pos hlt, hm, ← hfz]
                  · rw [if_neg hk]
              rw [hfill]; exact h
            | some bk =>
              obtain ⟨b, kk⟩ := bk
              rw [hβ] at e4 hme
              obtain ⟨A, cap, rfl, f1, f2, f3⟩ := e4
              obtain ⟨cs, et, fz, p1, p2, p3, p4⟩ := hme
              rw [p3 hfz] at p1
              rw [hc] at p4
              obtain ⟨ds, r, hcs, hru⟩ := p4
              by_cases hn0 : n = 0
              · subst hn0
                refine ⟨w, by simp [Builtin.clear_, run_underlying hu], ?_⟩
                have : (.rs e (xs.take off ++ List.replicate 0 z ++ xs.drop (off + 0)) : Cont) = o.c := by rw [hc]; simp
                rw [this]
                exact h.write hm hfz hβ o.c (Cont.Like.refl _) cs et (Keeps.refl _ w) p1 p2 (by rw [hc]; exact ⟨ds, r, hcs, hru⟩)
              · have hcap : 0 < cap := by omega
                have hA := f3 hcap
                simp only [Cont.off, Nat.zero_add] at hA f2
                subst hA
                have hru2 := fun (N : Nat → Prop) (X : Ext) => zeroCells_RU (w := w) (N := N) (X := X) z zv.cells h2 (z6 w N X).cells (by rw [h1]; exact h3) n
                have hzcl : (Builtin.zeroCells zv.cells n).toList.length = n * e.size := by
                  have := RU.length _ _ (hru2 (fun _ => False) Ext.none)
                  rw [this, h1]; simp
                have hle : (off + n) * e.size ≤ cs.size := by
                  have : (off + n) * e.size ≤ (off + cap) * e.size := Nat.mul_le_mul_right _ (by omega)
                  omega
                have hst := run_storeCells_at P b (off * e.size) et (Builtin.zeroCells zv.cells n).toList 0 cs w p1 (by rw [hzcl, Nat.add_zero, ← Nat.add_mul]; exact hle) (RU.one _ _ (hru2 (fun _ => False) Ext.none))
                refine ⟨w.setRow b (cs.toList.take (off * e.size) ++ (Builtin.zeroCells zv.cells n).toList ++ cs.toList.drop (off * e.size + (Builtin.zeroCells zv.cells n).toList.length)).toArray, ?_, ?_⟩
                · simp only [Nat.add_zero] at hst
                  match n, hn0 with
                  | n + 1, _ => simp [Builtin.clear_, run_underlying hu, run_zeroValue' z1 z2, hst]
                · refine h.write hm hfz hβ _ hlike _ et (keeps_setRow w b _) (setRow_heap w b cs _ et (0, 0) p1) ?_ ?_
                  · simp only [List.size_toArray, List.length_append, hzcl, List.length_take, List.length_drop]
                    simp
                    have : off * e.size + n * e.size ≤ cs.size := by rw [← Nat.add_mul]; exact hle
                    omega
                  · have hkeep : Stay w (w.setRow b (cs.toList.take (off * e.size) ++ (Builtin.zeroCells zv.cells n).toList ++ cs.toList.drop (off * e.size + (Builtin.zeroCells zv.cells n).toList.length)).toArray) (Mut C.N0 st.m β) (Mut C.N0 st.m β) := fun b' hb' hlt => ⟨hb', (keeps_setRow w b _).block b' hlt (fun e => by subst e; exact hb' (.inr ⟨id', o, kk, hm, hfz, hβ⟩))⟩
                    have hdl := RU.length _ _ hru
                    have hxl : (off + n) * e.size ≤ ds.length := by
                      rw [hdl]; exact Nat.mul_le_mul_right _ (by omega)
                    refine ⟨ds.take (off * e.size) ++ (Builtin.zeroCells zv.cells n).toList ++ ds.drop ((off + n) * e.size), r, ?_, ?_⟩
                    · rw [hzcl, ← Nat.add_mul, hcs]
                      rw [List.take_append_of_le_length (by have : off * e.size ≤ (off + n) * e.size := Nat.mul_le_mul_right _ (by omega); omega), List.drop_append_of_le_length hxl]
                      simp
                    · have hz2 := hru2 (Mut C.N0 st.m β) Ext.none
                      rw [h1] at hz2
                      exact RU.mono hkeep _ _ (RU.append _ _ _ _ (RU.append _ _ _ _ (RU.take _ _ off hru) hz2) (RU.drop _ _ (off + n) hru))
          · cases hl
        · cases hl
    · cases hl
  · cases hl

end Go.AL
