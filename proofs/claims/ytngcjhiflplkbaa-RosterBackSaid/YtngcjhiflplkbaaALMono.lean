/- What an operation does is not changed by what it does not look at. No condition. -/
import Derived.Test.YtngcjhiflplkbaaALOpOk3
namespace Go.AL
open Go

section
variable {P : Program} {st st2 : St} (h : MLe st.m st2.m)
include h

theorem ld_mono {t : TypeId} {x : T} {q : List T} {r : T × Prop} (k : st.ld P t x q = some r) : st2.ld P t x q = some r := by
  unfold St.ld at k ⊢
  split at k
  · split at k
    · rename_i o ho
      obtain ⟨o2, h1, h2⟩ := h _ o ho
      rw [h1]; simp only [h2]; exact k
    · cases k
  · exact k
  · cases k

theorem fa_mono {s : TypeId} {x : T} {i : Nat} {r : T} (k : st.fa P s x i = some r) : st2.fa P s x i = some r := by
  unfold St.fa at k ⊢
  split at k
  · split at k
    · rename_i o ho
      obtain ⟨o2, h1, h2⟩ := h _ o ho
      rw [h1]; simp only [h2]; exact k
    · cases k
  · exact k
  · cases k

theorem ia_mono {t : TypeId} {x : T} {i : Int} {q : List T} {r : T × Prop} (k : st.ia P t x i q = some r) : st2.ia P t x i q = some r := by
  unfold St.ia at k ⊢
  split at k
  · split at k
    · rename_i o ho
      obtain ⟨o2, h1, h2⟩ := h _ o ho
      rw [h1]; simp only [h2]; exact k
    · cases k
  · exact k
  · split at k
    · rename_i o ho
      obtain ⟨o2, h1, h2⟩ := h _ o ho
      rw [h1]; simp only [h2]; exact k
    · cases k
  · exact k
  · exact k
  · cases k

theorem slc_mono {t : TypeId} {x : T} {lo hi : Bd} {q : List T} {r : T × Prop} (k : st.slc P t x lo hi q = some r) : st2.slc P t x lo hi q = some r := by
  unfold St.slc at k ⊢
  split at k
  · split at k
    · rename_i o ho
      obtain ⟨o2, h1, h2⟩ := h _ o ho
      rw [h1]; simp only [h2]; exact k
    · cases k
  · split at k
    · rename_i o ho
      obtain ⟨o2, h1, h2⟩ := h _ o ho
      rw [h1]; simp only [h2]; exact k
    · cases k
  · exact k
  · exact k
  · exact k
  · exact k
  · cases k

theorem src_mono {y : T} {r : Cont × Prop} (k : st.src y = some r) : st2.src y = some r := by
  unfold St.src at k ⊢
  split at k
  · exact k
  · exact k
  · exact k
  · split at k
    · rename_i o ho
      obtain ⟨o2, h1, h2⟩ := h _ o ho
      rw [h1]; simp only [h2]
      split at k
      · exact k
      · split at k
        · rename_i hv
          rw [view_mono h _ _ _ hv]
          exact k
        · cases k
    · cases k
  · cases k

theorem lenT_mono {t : TypeId} {x : T} {n : Int} (k : st.lenT P t x = some n) : st2.lenT P t x = some n := by
  unfold St.lenT at k ⊢
  split at k
  · exact k
  · exact k
  · exact k
  · exact k
  · split at k
    · rename_i hs
      rw [if_pos hs]
      split at k
      · rename_i o ho
        obtain ⟨o2, h1, h2⟩ := h _ o ho
        rw [h1]; simp only [h2]; exact k
      · cases k
    · cases k
  · cases k

theorem app0_mono {ts : Array TypeId} {x y : T} {r : Cont × Prop} (k : st.app0 P ts x y = some r) : st2.app0 P ts x y = some r := by
  unfold St.app0 at k ⊢
  split at k
  · split at k
    · rename_i ht
      rw [if_pos ht]
      split at k
      · rename_i hs
        rw [src_mono h hs]
        exact k
      · cases k
    · cases k
  · cases k

theorem callS_mono {S : Tbl} {nio : Nat} {f : FuncId} {xs : List T} {slot : Nat} {e : Eff} (hsl : st.m[slot]? = some none → st2.m[slot]? = some none) (k : st.callS S nio f xs slot = some e) : st2.callS S nio f xs slot = some e := by
  unfold St.callS at k ⊢
  split at k
  · rename_i ys ob hargs
    rw [argsOf_mono h xs _ hargs]
    split at k
    · rename_i pre res hsem
      simp only [hsem]
      split at k
      · rename_i hp
        rw [if_pos hp]; exact k
      · rename_i hp
        rw [if_neg hp]
        simp only at k ⊢
        split at k
        · rename_i hc
          simp only [Bool.and_eq_true] at hc
          have hall := allIn_ok hc.2
          have hr := reach_mono h 4 (xs.flatMap T.ids) hall
          rw [hr]
          have hall2 : allIn st2.m (reach st.m 4 (xs.flatMap T.ids)) = true := by
            have : ∀ l : List Nat, (∀ id ∈ l, ∃ o, st.m[id]? = some (some o)) → allIn st2.m l = true := by
              intro l
              induction l with
              | nil => intro _; rfl
              | cons i l ih =>
                intro hl
                obtain ⟨o, ho⟩ := hl i (by simp)
                obtain ⟨o2, h1, _⟩ := h _ o ho
                simp only [allIn, h1]
                exact ih (fun id hid => hl id (by simp [hid]))
            exact this _ hall
          rw [hc.1, hall2]
          simp only [Bool.and_self, if_true]
          split at k
          · rename_i zs ob2 hargs2
            rw [argsOf_mono h xs _ hargs2]
            split at k
            · rename_i pre2 res2 hsem2
              simp only [hsem2]
              unfold St.own at k ⊢
              split at k
              · split at k
                · rename_i hs
                  rw [hsl hs]; exact k
                · cases k
              · split at k
                · rename_i hs
                  rw [hsl hs]; exact k
                · cases k
              · exact k
            · cases k
          · cases k
        · cases k
    · cases k
  · cases k

omit h in
theorem evs_eq : ∀ (os : List Operand), (∀ x ∈ os, st.ev x = st2.ev x) → st.evs os = st2.evs os
  | [], _ => rfl
  | o :: os, k => by simp only [St.evs]; rw [k o (by simp), evs_eq os (fun x hx => k x (by simp [hx]))]

omit h in
theorem evp_eq : ∀ (os : List (Nat × Operand)), (∀ p ∈ os, st.ev p.2 = st2.ev p.2) → st.evp os = st2.evp os
  | [], _ => rfl
  | (i, o) :: os, k => by simp only [St.evp]; rw [k (i, o) (by simp), evp_eq os (fun x hx => k x (by simp [hx]))]

omit h in
theorem bd_eq (o : Option Operand) (k : ∀ x ∈ o, st.ev x = st2.ev x) : st.bd o = st2.bd o := by
  cases o with
  | none => rfl
  | some o => simp only [St.bd]; rw [k o rfl]

theorem soft_mono {S : Tbl} {nio slot : Nat} {q : List T} {o : Oper} {e : Eff} (hev : ∀ x ∈ o.op.operands.toList, st.ev x = st2.ev x) (hsl : st.m[slot]? = some none → st2.m[slot]? = some none)
    (k : st.soft P S nio slot q o = some e) : st2.soft P S nio slot q o = some e := by
  unfold St.soft at k ⊢
  split at k
  case h_1 x hop => simp only [← hev x (by simp [hop, Op.operands])]; exact k
  case h_2 x hop => simp only [← hev x (by simp [hop, Op.operands])]; exact k
  case h_3 c x y hop =>
    simp only [← hev x (by simp [hop, Op.operands]), ← hev y (by simp [hop, Op.operands]), ← hev c (by simp [hop, Op.operands])]
    exact k
  case h_4 t hop =>
    split at k
    · rename_i x cs hz hs
      rw [hz, hsl hs]; exact k
    · cases k
  case h_5 t x hop =>
    simp only [← hev x (by simp [hop, Op.operands])]
    split at k
    · rename_i y hy hs
      rw [hy, hsl hs]; exact k
    · cases k
  case h_6 t ps hop =>
    simp only [← evp_eq (st := st) (st2 := st2) ps.toList (fun p hp => hev p.2 (by simp [hop, Op.operands]; exact ⟨p.1, by simpa using hp⟩))]
    exact k
  case h_7 t n ps hop =>
    simp only [← evp_eq (st := st) (st2 := st2) ps.toList (fun p hp => hev p.2 (by simp [hop, Op.operands]; exact ⟨p.1, by simpa using hp⟩))]
    split at k
    · rename_i y hy hs
      rw [hy, hsl hs]; exact k
    · cases k
  case h_8 t x hop =>
    simp only [← hev x (by simp [hop, Op.operands])]
    split at k
    · rename_i y hy
      split at k
      · rename_i hl
        rw [ld_mono h hl]; exact k
      · cases k
    · cases k
  case h_9 x hop => simp only [← hev x (by simp [hop, Op.operands])]; exact k
  case h_10 op t x y yt hop =>
    simp only [← hev x (by simp [hop, Op.operands]), ← hev y (by simp [hop, Op.operands])]
    exact k
  case h_11 u t x hop => simp only [← hev x (by simp [hop, Op.operands])]; exact k
  case h_12 s d x hop =>
    simp only [← hev x (by simp [hop, Op.operands])]
    split at k
    · rename_i y hy
      split at k
      · rename_i hc
        exact k
      · rename_i hc
        split at k
        · rename_i el hs1 hd1
          split at k
          · rename_i he1 hsrc
            rw [he1, src_mono h hsrc]; exact k
          · cases k
        · rename_i el hs1 hd1
          exact k
        · cases k
    · cases k
  case h_13 t x lo hi hop =>
    simp only [← hev x (by simp [hop, Op.operands]), ← bd_eq (st := st) (st2 := st2) lo (fun y hy => hev y (by simp [hop, Op.operands, Option.mem_def.1 hy])), ← bd_eq (st := st) (st2 := st2) hi (fun y hy => hev y (by simp [hop, Op.operands, Option.mem_def.1 hy]))]
    split at k
    · rename_i y l hb hy hlo hhi
      split at k
      · rename_i hz
        rw [slc_mono h hz]; exact k
      · cases k
    · cases k
  case h_14 s x f hop =>
    simp only [← hev x (by simp [hop, Op.operands])]
    split at k
    · rename_i y hy
      split at k
      · rename_i hz
        rw [fa_mono h hz]; exact k
      · cases k
    · cases k
  case h_15 t x i hop =>
    simp only [← hev x (by simp [hop, Op.operands]), ← hev i (by simp [hop, Op.operands])]
    split at k
    · rename_i y j hy hj
      split at k
      · rename_i n hi
        split at k
        · rename_i hz
          rw [ia_mono h hz]; exact k
        · cases k
      · cases k
    · cases k
  case h_16 t l c hop =>
    simp only [← hev l (by simp [hop, Op.operands]), ← hev c (by simp [hop, Op.operands])]
    split at k
    · rename_i n m hl hc hs
      rw [hl, hc, hsl hs]; exact k
    · cases k
  case h_17 f caps hop =>
    simp only [← evs_eq (st := st) (st2 := st2) caps.toList (fun y hy => hev y (by simp [hop, Op.operands]; simpa using hy))]
    exact k
  case h_18 t x hop => simp only [← hev x (by simp [hop, Op.operands])]; exact k
  case h_19 t x hop => simp only [← hev x (by simp [hop, Op.operands])]; exact k
  case h_20 x i hop => simp only [← hev x (by simp [hop, Op.operands])]; exact k
  case h_21 c hop =>
    have hargs := evs_eq (st := st) (st2 := st2) c.args.toList (fun y hy => hev y (by simp [hop, Op.operands, Call.operands]; exact .inr (by simpa using hy)))
    simp only [← hargs]
    split at k
    · rename_i b hcal
      split at k
      · rename_i x t hxs hts
        split at k
        · rename_i n hl
          rw [lenT_mono h hl]; exact k
        · cases k
      · rename_i hxs
        exact k
      · rename_i hxs
        exact k
      · rename_i x y hxs
        split at k
        · rename_i ct ob hap hs
          rw [app0_mono h hap, hsl hs]; exact k
        · cases k
      · cases k
    · rename_i g hcal
      simp only [← hev g (by simp [hop, Op.operands, Call.operands, hcal])]
      split at k
      · rename_i f caps xs hg hxs
        split at k
        · rename_i hc
          rw [if_pos hc]
          exact callS_mono h hsl k
        · cases k
      · cases k
    · cases k
  · cases k

omit h in
theorem isHard_eq {S : Tbl} {o : Oper} (hev : ∀ x ∈ o.op.operands.toList, st.ev x = st2.ev x) : st2.isHard S o = st.isHard S o := by
  unfold St.isHard
  split
  · rfl
  · rename_i c hop
    have hargs := evs_eq (st := st) (st2 := st2) c.args.toList (fun y hy => hev y (by simp [hop, Op.operands, Call.operands]; exact .inr (by simpa using hy)))
    rw [← hargs]
    split
    · rfl
    · rename_i g hcal
      rw [← hev g (by simp [hop, Op.operands, Call.operands, hcal])]
    · rfl
  · rfl

theorem callI_mono {S : Tbl} {nio : Nat} {f : FuncId} {xs : List T} {j : Nat} {e : Eff} (hfz : ∀ (id : Nat) (c : Cont), (id, c) ∈ e.ws → ∀ o o2 : Obj, st.m[id]? = some (some o) → st2.m[id]? = some (some o2) → o2.fz = o.fz)
    (k : st.callI S nio f xs j = some e) : st2.callI S nio f xs j = some e := by
  unfold St.callI at k ⊢
  simp only at k ⊢
  split at k
  · rename_i hc
    simp only [Bool.and_eq_true] at hc
    have hall := allIn_ok hc.1.2
    have hr := reach_mono h 4 (xs.flatMap (optId (some j))) hall
    have hall2 : allIn st2.m (reach st.m 4 (xs.flatMap (optId (some j)))) = true := by
      have : ∀ l : List Nat, (∀ id ∈ l, ∃ o, st.m[id]? = some (some o)) → allIn st2.m l = true := by
        intro l
        induction l with
        | nil => intro _; rfl
        | cons i l ih =>
          intro hl
          obtain ⟨o, ho⟩ := hl i (by simp)
          obtain ⟨o2, h1, _⟩ := h _ o ho
          simp only [allIn, h1]
          exact ih (fun id hid => hl id (by simp [hid]))
      exact this _ hall
    rw [hr, hc.1.1, hall2, hc.2]
    simp only [Bool.and_self, if_true]
    split at k
    · rename_i ys ob hargs
      rw [argsOf_mono h xs _ hargs]
      split at k
      · rename_i o ho
        obtain ⟨o2, h1, h2⟩ := h _ o ho
        rw [h1]
        simp only [h2]
        split at k
        · rename_i pre res y hsem
          split at k
          · rename_i hcond
            split at k
            · rename_i lk hlk
              have hf : o2.fz = o.fz := by
                refine hfz j y ?_ o o2 ho h1
                split at k
                · simp only [Option.some.injEq] at k; subst k; simp
                · split at k
                  · simp only [Option.some.injEq] at k; subst k; simp
                  · cases k
              rw [hf, if_pos hcond]
              exact k
            · cases k
          · cases k
        · cases k
      · cases k
    · cases k
  · cases k

theorem hard_mono {S : Tbl} {nio : Nat} {q : List T} {o : Oper} {e : Eff} (hev : ∀ x ∈ o.op.operands.toList, st.ev x = st2.ev x)
    (hfz : ∀ (id : Nat) (c : Cont), (id, c) ∈ e.ws → ∀ o o2 : Obj, st.m[id]? = some (some o) → st2.m[id]? = some (some o2) → o2.fz = o.fz)
    (k : st.hard P S nio q o = some e) : st2.hard P S nio q o = some e := by
  unfold St.hard at k ⊢
  split at k
  · rename_i t x v hop
    simp only [← hev x (by simp [hop, Op.operands]), ← hev v (by simp [hop, Op.operands])]
    split at k
    · rename_i y z hy hz
      split at k
      · rename_i hp
        rw [if_pos hp]
        split at k
        · rename_i id c' ob hl
          simp only [Option.some.injEq] at k
          subst k
          have : st2.sto P t y z q = some (id, c', ob) := by
            unfold St.sto at hl ⊢
            split at hl
            · rename_i id' p
              split at hl
              · rename_i o1 ho
                obtain ⟨o2, h1, h2⟩ := h _ o1 ho
                rw [h1]
                simp only [h2]
                split at hl
                · cases hl
                · rename_i hf
                  have hid : id' = id := by
                    split at hl
                    · split at hl
                      · split at hl
                        · split at hl
                          · simp only [Option.some.injEq, Prod.mk.injEq] at hl; exact hl.1
                          · cases hl
                        · cases hl
                      · cases hl
                    · cases hl
                  subst hid
                  have := hfz id' c' (by simp) o1 o2 ho h1
                  rw [this, if_neg hf]
                  exact hl
              · cases hl
            · cases hl
          rw [this]
        · cases k
      · cases k
    · cases k
  · rename_i c hop
    have hargs := evs_eq (st := st) (st2 := st2) c.args.toList (fun y hy => hev y (by simp [hop, Op.operands, Call.operands]; exact .inr (by simpa using hy)))
    simp only [← hargs]
    split at k
    · rename_i b hcal
      split at k
      · rename_i x y hxs
        split at k
        · rename_i id ct ob hap
          simp only [Option.some.injEq] at k
          subst k
          have : st2.app P nio c.argTypes x y = some (id, ct, ob) := by
            unfold St.app at hap ⊢
            split at hap
            · rename_i t1 t2 id' hts
              split at hap
              · rename_i ht
                rw [if_pos ht]
                split at hap
                · rename_i o1 ho
                  obtain ⟨o2, h1, h2⟩ := h _ o1 ho
                  rw [h1]
                  simp only [h2]
                  split at hap
                  · cases hap
                  · rename_i hf
                    split at hap
                    · rename_i cy ob' hsrc
                      have hid : id' = id := by
                        split at hap
                        · simp only [Option.some.injEq, Prod.mk.injEq] at hap; exact hap.1
                        · cases hap
                      subst hid
                      have := hfz id' ct (by simp) o1 o2 ho h1
                      rw [this, if_neg hf, src_mono h hsrc]
                      exact hap
                    · cases hap
                · cases hap
              · cases hap
            · cases hap
          rw [this]
        · cases k
      · rename_i x hxs
        split at k
        · rename_i t hts
          split at k
          · rename_i id ct hcl
            simp only [Option.some.injEq] at k
            subst k
            have : st2.clr P t x = some (id, ct) := by
              unfold St.clr at hcl ⊢
              split at hcl
              · rename_i el id' off rest hu
                split at hcl
                · rename_i o1 z zc ho hz
                  obtain ⟨o2, h1, h2⟩ := h _ o1 ho
                  rw [h1, hz]
                  simp only [h2]
                  split at hcl
                  · cases hcl
                  · rename_i hf
                    have hid : id' = id := by
                      split at hcl
                      · split at hcl
                        · simp only [Option.some.injEq, Prod.mk.injEq] at hcl; exact hcl.1
                        · cases hcl
                      · cases hcl
                    subst hid
                    have := hfz id' ct (by simp) o1 o2 ho h1
                    rw [this, if_neg hf]
                    exact hcl
                · cases hcl
              · cases hcl
            rw [this]
          · cases k
        · cases k
      · cases k
    · rename_i g hcal
      simp only [← hev g (by simp [hop, Op.operands, Call.operands, hcal])]
      split at k
      · rename_i f caps x xs hg hxs
        split at k
        · rename_i hc
          rw [if_pos hc]
          split at k
          · exact callI_mono h hfz k
          · exact callI_mono h hfz k
          · cases k
        · cases k
      · cases k
    · cases k
  · cases k

theorem step_mono {S : Tbl} {nio slot : Nat} {q : List T} {o : Oper} {e : Eff} (hev : ∀ x ∈ o.op.operands.toList, st.ev x = st2.ev x) (hsl : st.m[slot]? = some none → st2.m[slot]? = some none)
    (hfz : ∀ (id : Nat) (c : Cont), (id, c) ∈ e.ws → ∀ o o2 : Obj, st.m[id]? = some (some o) → st2.m[id]? = some (some o2) → o2.fz = o.fz)
    (k : st.step P S nio slot q o = some e) : st2.step P S nio slot q o = some e := by
  unfold St.step at k ⊢
  rw [isHard_eq hev]
  split at k
  · exact hard_mono h hev hfz k
  · exact soft_mono h hev hsl k
end

end Go.AL
