/- A region whose operations may come in any order: the walk. No condition. -/
import Derived.Test.YtngcjhiflplkbaaALDraw2
namespace Go.AL
open Go

/-- The operations' effects, each reckoned behind what must come before it alone; and no two that may come in either order touch. -/
structure DrawOk (P : Program) (S : Tbl) (nio : Nat) (os : List Oper) (st0 : St) (cs : List Rec) : Prop where
  ops : cs.map (·.o) = os
  back : backB 0 os = true
  each : ∀ i c, cs[i]? = some c → ∃ h slot q, wantT os (SD st0 cs 0 (hasB (ancAt os i))) c.o = some c.r.isSome ∧
    (∀ e, c.r = some e → ((SD st0 cs 0 (hasB (ancAt os i))).hide h).step P S nio slot q c.o = some e ∧ e.ob ∧ (SD st0 cs 0 (hasB (ancAt os i))).m[slot]? = some none) ∧
    ∀ k d, cs[k]? = some d → k ≠ i → hasB (ancAt os i) k = false → hasB (ancAt os k) i = false → harmB (SD st0 cs 0 (hasB (ancAt os i))) (readsOf os c.o) slot h c d = true
  comm : ∀ i k c d, cs[i]? = some c → cs[k]? = some d → i < k → hasB (ancAt os k) i = false → commB c d = true

theorem blt_self (n : Nat) : Nat.blt n n = false := by
  rw [Bool.eq_false_iff]; intro hb; have := Nat.le_of_ble_eq_true hb; omega

theorem countP_lt {p q : Nat → Bool} : ∀ {l : List Nat}, (∀ x, q x = true → p x = true) → (∃ x ∈ l, p x = true ∧ q x = false) → l.countP q < l.countP p
  | [], _, h => by obtain ⟨x, hx, _⟩ := h; simp at hx
  | y :: l, h1, h2 => by
    have hle : l.countP q ≤ l.countP p := List.countP_mono_left (fun x _ hx => h1 x hx)
    rw [List.countP_cons, List.countP_cons]
    obtain ⟨x, hx, h3, h4⟩ := h2
    rcases List.mem_cons.1 hx with rfl | hx
    · rw [h3, h4]; simp; omega
    · have := countP_lt (l := l) h1 ⟨x, hx, h3, h4⟩
      by_cases hq : q y = true
      · rw [hq, h1 y hq]; simp; exact this
      · rw [if_neg hq]
        split <;> omega

section
variable {P : Program} {S : Tbl} {C : Ctx} {os : List Oper} {st0 : St} {cs : List Rec} (hk : DrawOk P S C.nio os st0 cs)
include hk

theorem DrawOk.opAt {i : Nat} {c : Rec} (h : cs[i]? = some c) : os[i]? = some c.o := by rw [← hk.ops]; simp [h]
theorem DrawOk.recAt {i : Nat} {o : Oper} (h : os[i]? = some o) : ∃ c, cs[i]? = some c ∧ c.o = o := by
  rw [← hk.ops] at h
  simpa using h
theorem DrawOk.len : cs.length = os.length := by rw [← hk.ops]; simp

/-- The state behind D is like the one behind what comes before the i-th. -/
theorem DrawOk.near {D : Nat → Bool} (hcl : ∀ i o, os[i]? = some o → D i = true → ∀ e ∈ o.after.toList, Region.binds .any e = true → D e.on = true)
    {i : Nat} {c : Rec} (hc : cs[i]? = some c) (hD : D i = false) (hready : ∀ e ∈ c.o.after.toList, Region.binds .any e = true → D e.on = true)
    {h : List Nat × List Nat} {slot : Nat} (hh : ∀ k d, cs[k]? = some d → k ≠ i → hasB (ancAt os i) k = false → hasB (ancAt os k) i = false → harmB (SD st0 cs 0 (hasB (ancAt os i))) (readsOf os c.o) slot h c d = true) :
    Near (SD st0 cs 0 (hasB (ancAt os i))) (readsOf os c.o) slot h c (SD st0 cs 0 D) := by
  have hoi := hk.opAt hc
  have hsub : ∀ k, hasB (ancAt os i) k = true → D k = true := anc_closed hk.back hcl i c.o hoi hready
  have main : ∀ n, Near (SD st0 cs 0 (hasB (ancAt os i))) (readsOf os c.o) slot h c (SD st0 cs 0 (fun k => hasB (ancAt os i) k || (D k && Nat.blt k n))) := by
    intro n
    induction n with
    | zero =>
      have : SD st0 cs 0 (fun k => hasB (ancAt os i) k || (D k && Nat.blt k 0)) = SD st0 cs 0 (hasB (ancAt os i)) := SD_congr _ _ _ _ _ (fun k _ _ => by
        have : Nat.blt k 0 = false := by rw [Bool.eq_false_iff]; intro hb; have := Nat.le_of_ble_eq_true hb; omega
        simp [this])
      rw [this]
      exact Near.refl _ _ _ _ _
    | succ n ih =>
      by_cases hn : D n = true ∧ hasB (ancAt os i) n = false ∧ n < cs.length
      · obtain ⟨hDn, hAn, hlt⟩ := hn
        have hd := List.getElem?_eq_getElem hlt
        have hni : n ≠ i := by intro he; rw [he, hD] at hDn; cases hDn
        have hin : hasB (ancAt os n) i = false := by
          rw [Bool.eq_false_iff]; intro hb
          have := anc_closed hk.back hcl n cs[n].o (hk.opAt hd) (hcl n _ (hk.opAt hd) hDn) i hb
          rw [hD] at this; cases this
        have hstep := ih.step (hh n cs[n] hd hni hAn hin)
        rw [SD_add hd (by rw [hAn, blt_self]; simp) (fun k d hkn hkd hDk => by
          refine hk.comm n k _ _ hd hkd hkn ?_
          rw [Bool.eq_false_iff]; intro hb
          have hAk : hasB (ancAt os i) k = true := by
            have : Nat.blt k n = false := by rw [Bool.eq_false_iff]; intro hb; have := Nat.le_of_ble_eq_true hb; omega
            simpa [this] using hDk
          have := anc_trans hk.back i c.o hoi k n hAk hb
          rw [hAn] at this; cases this)] at hstep
        have : SD st0 cs 0 (fun k => hasB (ancAt os i) k || (D k && Nat.blt k (n + 1))) = SD st0 cs 0 (fun k => (hasB (ancAt os i) k || (D k && Nat.blt k n)) || Nat.beq k n) := SD_congr _ _ _ _ _ (fun k _ _ => by
          by_cases hkn : k = n
          · subst hkn
            have h1 : Nat.blt k (k + 1) = true := by simp [Nat.blt]
            simp [h1, hDn]
          · have h1 : Nat.blt k (n + 1) = Nat.blt k n := by
              rw [Bool.eq_iff_iff]
              simp only [Nat.blt, Nat.ble_eq]
              omega
            have h2 : Nat.beq k n = false := by rw [Bool.eq_false_iff]; intro hb; exact hkn (Nat.eq_of_beq_eq_true hb)
            rw [h1, h2]; simp)
        rw [this]
        exact hstep
      · have : SD st0 cs 0 (fun k => hasB (ancAt os i) k || (D k && Nat.blt k (n + 1))) = SD st0 cs 0 (fun k => hasB (ancAt os i) k || (D k && Nat.blt k n)) := SD_congr _ _ _ _ _ (fun k _ hkl => by
          by_cases hkn : k = n
          · subst hkn
            have h1 : Nat.blt k k = false := by rw [Bool.eq_false_iff]; intro hb; have := Nat.le_of_ble_eq_true hb; omega
            rw [h1]
            cases hA : hasB (ancAt os i) k with
            | true => simp
            | false =>
              cases hDk : D k with
              | false => simp
              | true => exact absurd ⟨hDk, hA, by omega⟩ hn
          · have h1 : Nat.blt k (n + 1) = Nat.blt k n := by
              rw [Bool.eq_iff_iff]
              simp only [Nat.blt, Nat.ble_eq]
              omega
            rw [h1])
        rw [this]
        exact ih
  have := main cs.length
  rwa [SD_congr cs 0 st0 (fun k => hasB (ancAt os i) k || (D k && Nat.blt k cs.length)) D (fun k _ hkl => by
    have h1 : Nat.blt k cs.length = true := by simp [Nat.blt]; omega
    rw [h1, Bool.and_true]
    cases hA : hasB (ancAt os i) k with
    | false => simp
    | true => simp [hsub k hA])] at this

theorem draw_any (hS : TblOk P S) {ops : Array Oper} (hops : ops.toList = os) {Q : Exit → Act → World → Prop} (hQ : ∀ β a w, Sim C β (SD st0 cs 0 (fun _ => true)) a w → Q .normal a w) :
    ∀ (fuel : Nat) (listed : Array Bool) (a : Act) (w : World) (β : Bel), listed.size = os.length →
      (∀ i o, os[i]? = some o → listed.getD i false = true → ∀ e ∈ o.after.toList, Region.binds .any e = true → listed.getD e.on false = true) →
      (List.range os.length).countP (fun k => !listed.getD k false) ≤ fuel →
      Sim C β (SD st0 cs 0 (fun k => listed.getD k false)) a w → wpAny P .any ops Q fuel listed a w := by
  have hopq : ∀ i : Nat, ops[i]? = os[i]? := fun i => by rw [← hops]; exact Array.getElem?_toList.symm
  have hsz : ops.size = os.length := by rw [← hops]; exact (Array.length_toList).symm
  have done : ∀ (listed : Array Bool) (a : Act) (w : World) (β : Bel), listed.size = os.length → (∀ k, k < os.length → listed.getD k false = true) → Sim C β (SD st0 cs 0 (fun k => listed.getD k false)) a w → Q .normal a w := by
    intro listed a w β hl hall hsim
    refine hQ β a w ?_
    rwa [SD_congr cs 0 st0 (fun k => listed.getD k false) (fun _ => true) (fun k _ hkl => by rw [hk.len] at hkl; exact hall k (by omega))] at hsim
  have allOf : ∀ (listed : Array Bool), listed.size = os.length → Region.ready .any ops listed = [] → ∀ k, k < os.length → listed.getD k false = true := by
    intro listed hl hr k
    induction k using Nat.strongRecOn with
    | ind k ih =>
      intro hlt
      cases hcase : listed.getD k false with
      | true => rfl
      | false =>
        exfalso
        have : k ∈ Region.ready .any ops listed := by
          rw [mem_ready]
          refine ⟨?_, os[k], by rw [hopq]; exact List.getElem?_eq_getElem hlt, fun e he hb => ?_⟩
          · have hkl : k < listed.size := by omega
            simpa [hkl] using hcase
          · have := backB_ok hk.back k os[k] (List.getElem?_eq_getElem hlt) e (by simpa using he) hb
            exact ih e.on (by omega) (by omega)
        rw [hr] at this
        simp at this
  intro fuel
  induction fuel with
  | zero =>
    intro listed a w β hl hcl hcount hsim
    have h0 : ∀ k, k < os.length → listed.getD k false = true := by
      intro k hlt
      have := Nat.le_zero.1 hcount
      rw [List.countP_eq_zero] at this
      have := this k (List.mem_range.2 hlt)
      simpa using this
    refine ⟨?_, done listed a w β hl h0 hsim⟩
    unfold Region.ready
    rw [List.filter_eq_nil_iff]
    intro k hkr
    rw [List.mem_range, hsz] at hkr
    have := h0 k hkr
    have hkl : k < listed.size := by omega
    simp [hkl] at this ⊢
    intro hc
    rw [this] at hc
    cases hc
  | succ fuel ih =>
    intro listed a w β hl hcl hcount hsim
    refine ⟨fun hr => done listed a w β hl (allOf listed hl hr) hsim, fun i hi => ?_⟩
    obtain ⟨hun, o, ho, hedges⟩ := mem_ready.1 hi
    rw [hopq] at ho
    have hlt : i < os.length := (List.getElem?_eq_some_iff.1 ho).1
    have hil : i < listed.size := by omega
    have hDi : listed.getD i false = false := by simpa [hil] using hun
    obtain ⟨c, hc, rfl⟩ := hk.recAt ho
    obtain ⟨h, slot, q, hwant, heff, hharm⟩ := hk.each i c hc
    have hnear := hk.near (D := fun k => listed.getD k false) hcl hc hDi (fun e he hb => hedges e (by simpa using he) hb) hharm
    have hwant2 : wantT os (SD st0 cs 0 (fun k => listed.getD k false)) c.o = some c.r.isSome := by
      rw [want_eq (fun p hp => hnear.t p (by simp [readsOf, hp]))]; exact hwant
    have hw := want_ok hsim (ops := ops) (by rw [hops]; exact hwant2)
    have next : ∀ β' a' w', Sim C β' (c.ap (SD st0 cs 0 (fun k => listed.getD k false))) a' w' → wpAny P .any ops Q fuel (listed.setIfInBounds i true) a' w' := by
      intro β' a' w' hs
      rw [SD_add hc hDi (fun k d hik hd hDk => hk.comm i k c d hc hd hik (by
        rw [Bool.eq_false_iff]; intro hb
        have := anc_closed hk.back hcl k d.o (hk.opAt hd) (hcl k _ (hk.opAt hd) hDk) i hb
        rw [hDi] at this; cases this))] at hs
      have hset : ∀ k, (listed.setIfInBounds i true).getD k false = (listed.getD k false || Nat.beq k i) := by
        intro k
        by_cases hki : k = i
        · subst hki; simp [hil]
        · rw [getD_set_ne false (Ne.symm hki)]
          have : Nat.beq k i = false := by rw [Bool.eq_false_iff]; intro hb; exact hki (Nat.eq_of_beq_eq_true hb)
          simp [this]
      refine ih _ a' w' β' (by simp [hl]) (fun j oj hoj hj e he hb => ?_) ?_ ?_
      · rw [hset] at hj
        rw [hset, Bool.or_eq_true]
        rcases Bool.or_eq_true _ _ |>.mp hj with hj | hj
        · exact .inl (hcl j oj hoj hj e he hb)
        · have := Nat.eq_of_beq_eq_true hj
          subst this
          rw [hoj] at ho
          simp only [Option.some.injEq] at ho
          rw [ho] at he
          exact .inl (hedges e (by simpa using he) hb)
      · have := countP_lt (p := fun k => !listed.getD k false) (q := fun k => !(listed.setIfInBounds i true).getD k false) (l := List.range os.length) (fun x hx => by
          simp only [hset, Bool.not_eq_true', Bool.or_eq_false_iff] at hx ⊢
          exact hx.1) ⟨i, List.mem_range.2 hlt, by simp [hDi], by simp only [hset]; simp [Nat.beq_refl]⟩
        omega
      · simpa only [hset] using hs
    unfold wpOp
    rw [hopq, ho]
    simp only
    rw [hw]
    cases hr : c.r with
    | none =>
      simp only [Option.isSome_none, Bool.false_eq_true, if_false]
      refine next β _ w ?_
      have : c.ap (SD st0 cs 0 (fun k => listed.getD k false)) = (SD st0 cs 0 (fun k => listed.getD k false)).put c.o.dst (.tup []) := by simp [Rec.ap, hr]
      rw [this]
      exact hsim.put c.o.dst ⟨[], rfl, rfl, fun k x hx => by simp at hx⟩
    | some e =>
      simp only [Option.isSome_some, if_true]
      obtain ⟨hstep, hob, hslot⟩ := heff e hr
      left
      have hws : c.ws = e.ws := by simp [Rec.ws, hr]
      have hstep2 : (SD st0 cs 0 (fun k => listed.getD k false)).step P S C.nio slot q c.o = some e := by
        refine step_mono (fun id o' ho' => ?_) (fun x hx => ?_) (fun _ => hnear.s hslot) (fun id ct hct o1 o2 h1 h2 => ?_) hstep
        · obtain ⟨o2, e1, e2, _⟩ := hnear.m id o' ho'
          exact ⟨o2, e1, e2⟩
        · cases x with
          | tmp t =>
            simp only [St.ev, hide_t]
            exact (hnear.t t (by simp [readsOf]; exact .inr (tmpsOf_mem _ t hx))).symm
          | const v => rfl
          | global g => rfl
          | func f => rfl
        · obtain ⟨o2', e1, e2, e3⟩ := hnear.m id o1 h1
          rw [h2] at e1; simp only [Option.some.injEq] at e1; subst e1
          exact e3 ct (by rw [hws]; exact hct)
      refine step_ok hsim hS hstep2 hob (fun β' w' v hs hx => next β' _ w' ?_)
      have : c.ap (SD st0 cs 0 (fun k => listed.getD k false)) = ((SD st0 cs 0 (fun k => listed.getD k false)).apply e).put c.o.dst e.x := by simp [Rec.ap, hr]
      rw [this]
      exact hs.put c.o.dst hx

/-- The whole region. -/
theorem draw_region (hS : TblOk P S) (hm : P.follows .mixedOrders = true) {ops : Array Oper} (hops : ops.toList = os) {id : Nat} {Q : Exit → Act → World → Prop} (hQ : ∀ β a w, Sim C β (SD st0 cs 0 (fun _ => true)) a w → Q .normal a w)
    {a : Act} {w : World} {β : Bel} (hsim : Sim C β st0 a w) : (Code.region id ops true).wp P Q a w := by
  refine wp_region_any hm ?_
  have hsz : ops.size = os.length := by rw [← hops]; exact (Array.length_toList).symm
  refine draw_any hk hS hops hQ ops.size _ a _ β (by simp [hsz]) (fun i o _ h => by simp [Array.getD_eq_getD_getElem?, Array.getElem?_replicate] at h; split at h <;> simp at h) ?_ ?_
  · rw [hsz]
    have := List.countP_le_length (p := fun k => !(Array.replicate ops.size false).getD k false) (l := List.range os.length)
    simpa [hsz] using this
  · rw [SD_none cs 0 st0 _ (fun k _ => by simp [Array.getD_eq_getD_getElem?, Array.getElem?_replicate]; split <;> simp)]
    exact hsim.grow (keeps_drew w)
end

end Go.AL
