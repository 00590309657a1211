/- A region of the abstract machine is sound. No condition. -/
import Derived.Test.YtngcjhiflplkbaaALTr
namespace Go.AL
open Go

theorem addNone_get (n : Nat) (m : List (Option Obj)) (id : Nat) (o : Obj) : (addNone n m)[id]? = some (some o) ↔ m[id]? = some (some o) := by
  cases n with
  | zero => rfl
  | succ n =>
    simp only [addNone]
    by_cases h : id < m.length
    · rw [List.getElem?_append_left h]
    · rw [List.getElem?_append_right (by omega)]
      have h1 : m[id]? = none := List.getElem?_eq_none (by omega)
      rw [h1]
      have : (none :: List.replicate n none : List (Option Obj))[id - m.length]? ≠ some (some o) := by
        intro hq
        have hm := List.mem_of_getElem? hq
        simp at hm
      simp [this]

theorem Sim.more {C : Ctx} {β : Bel} {st : St} {a : Act} {w : World} (h : Sim C β st a w) (n : Nat) : Sim C β ⟨st.t, addNone n st.m⟩ a w := by
  have he : ext (addNone n st.m) β = ext st.m β := by
    simp only [ext, addNone_get]
  have hm : Mut C.N0 (addNone n st.m) β = Mut C.N0 st.m β := by
    funext b
    simp only [Mut, addNone_get]
  refine { h with sz := h.sz, tm := ?_, me := ?_, inj := ?_, loc := ?_, ios := ?_, fzl := ?_ }
  · intro k x hx; rw [hm, he]; exact h.tm k x hx
  · intro id o ho
    rw [addNone_get] at ho
    rw [hm, he]; exact h.me id o ho
  · intro id id' o o' b k k' h1 h2
    rw [addNone_get] at h1 h2
    exact h.inj id id' o o' b k k' h1 h2
  · intro id o b k h1
    rw [addNone_get] at h1
    exact h.loc id o b k h1
  · intro id hlt
    obtain ⟨x, hx⟩ := h.ios id hlt
    exact ⟨x, (addNone_get _ _ _ _).2 hx⟩
  · intro id o b k h1
    rw [addNone_get] at h1
    exact h.fzl id o b k h1

theorem unk_ok {P : Program} {C : Ctx} {β : Bel} {st : St} {a : Act} {w : World} (h : Sim C β st a w) {o : Oper} {p : Prop} {b : Bool} (hu : st.unk P o = some (p, b)) :
    ∃ c : Bool, (execOp a.eval o).run P w = .ok (.value (.bool (match c with | true => b | false => !b))) w ∧ (c = true → p) := by
  have run : ∀ (t e : TypeId) (op : BinOp) (x y : Operand) (yt : TypeId) (A : Option Addr) (n c : Nat), o.op = .binOp op t x y yt → nilC y = true → P.underlying t = some (.slice e) → a.eval x = .slice A n c →
      (op = .eql ∨ op = .neq) → (execOp a.eval o).run P w = .ok (.value (.bool (match op with | .eql => A.isNone | _ => !A.isNone))) w := by
    intro t e op x y yt A n c ho hy ht hx hop
    have hyv : a.eval y = .slice none 0 0 := by
      unfold nilC at hy
      split at hy
      · rfl
      · cases hy
    have he : (Op.equal t (.slice A n c) (.slice none 0 0)).run P w = .ok A.isNone w := by
      have : ∀ d, (Op.equalIn (d + 1) t (.slice A n c) (.slice none 0 0)).run P w = .ok A.isNone w := fun d => by
        cases A <;> simp [Op.equalIn, run_underlying ht]
      exact this 9999
    have hg : (eqGuard op t x y (.slice A n c) (.slice none 0 0)).run P w = .ok () w := by
      rcases hop with rfl | rfl <;> rfl
    simp only [execOp, ho, hx, hyv, Sem.run_bind, hg, Result.andThen]
    rcases hop with rfl | rfl
    · have : binOp .eql t (.slice A n c) (.slice none 0 0) = (do pure (.bool (← Op.equal t (.slice A n c) (.slice none 0 0)))) := rfl
      rw [this]
      simp [he]
    · have : binOp .neq t (.slice A n c) (.slice none 0 0) = (do pure (.bool (!(← Op.equal t (.slice A n c) (.slice none 0 0))))) := rfl
      rw [this]
      simp [he]
  unfold St.unk at hu
  split at hu
  · rename_i op t x y yt ho
    split at hu
    · rename_i e hy ht
      split at hu
      · rename_i e' xs hx
        obtain ⟨A, c, ds, hv, _, hr, hl⟩ := (h.ev hx).sl
        have hnil : Nat.ble 1 e'.size = true → A.isNone = true → xs = [] := by
          intro hpos hA
          have hpos := Nat.le_of_ble_eq_true hpos
          have hds : ds = [] := by
            rcases hl with hq | ⟨b', off, hA', _⟩
            · exact hq
            · rw [hA'] at hA; cases hA
          have hlen : xs.length * e'.size = 0 := by rw [← RU.length _ _ hr, hds]; rfl
          rcases Nat.mul_eq_zero.1 hlen with hq | hq
          · exact List.length_eq_zero_iff.1 hq
          · omega
        split at hu
        · rename_i hpos
          simp only [Option.some.injEq, Prod.mk.injEq] at hu
          obtain ⟨rfl, rfl⟩ := hu
          exact ⟨A.isNone, by rw [run t e _ x y yt A _ c ho hy ht hv (.inl rfl)]; cases A <;> rfl, hnil hpos⟩
        · rename_i hpos
          simp only [Option.some.injEq, Prod.mk.injEq] at hu
          obtain ⟨rfl, rfl⟩ := hu
          exact ⟨A.isNone, by rw [run t e _ x y yt A _ c ho hy ht hv (.inr rfl)]; cases A <;> rfl, hnil hpos⟩
        · cases hu
      · rename_i l hx
        obtain ⟨A, c, hv, _, hl⟩ := (h.ev hx).sb
        have hnil : A.isNone = true → l = [] := by
          intro hA
          rcases hl with hq | ⟨b', off, hA', _⟩
          · simpa using hq
          · rw [hA'] at hA; cases hA
        split at hu
        · simp only [Option.some.injEq, Prod.mk.injEq] at hu
          obtain ⟨rfl, rfl⟩ := hu
          exact ⟨A.isNone, by rw [run t e _ x y yt A _ c ho hy ht hv (.inl rfl)]; cases A <;> rfl, hnil⟩
        · simp only [Option.some.injEq, Prod.mk.injEq] at hu
          obtain ⟨rfl, rfl⟩ := hu
          exact ⟨A.isNone, by rw [run t e _ x y yt A _ c ho hy ht hv (.inr rfl)]; cases A <;> rfl, hnil⟩
        · cases hu
      · cases hu
    · cases hu
  · cases hu

section
variable {P : Program} {S : Tbl} (hS : TblOk P S) {C : Ctx} {O : Orc}
include hS

theorem trL_ok {ops : Array Oper} {Q : Exit → Act → World → Prop} {K : St → Prop} (hK : ∀ st β a w, K st → Sim C β st a w → Q .normal a w) {dm : Nat} :
    ∀ (os : List Oper) (i slot : Nat) (st : St) (β : Bel) (a : Act) (w : World), (∀ j, os[j]? = ops[i + j]?) → Sim C β st a w → trL P S C.nio O ops.toList dm os i slot st K → wpOps P ops Q (List.range' i os.length) a w
  | [], i, slot, st, β, a, w, _, hs, h => hK st β a w h hs
  | o :: os, i, slot, st, β, a, w, ho, hs, h => by
    have h0 : ops[i]? = some o := by simpa using (ho 0).symm
    have hrest : ∀ j, os[j]? = ops[(i + 1) + j]? := fun j => by
      have := ho (j + 1)
      simp at this
      rw [this]
      congr 1
      omega
    simp only [List.length_cons, List.range'_succ, wpOps, h0]
    simp only [trL] at h
    split at h
    · rename_i hw
      rw [want_ok hs hw]
      simp only [if_true]
      split at h
      · rename_i p b hu
        obtain ⟨h1, h2⟩ := h
        obtain ⟨c, hrun, hc⟩ := unk_ok hs hu
        left
        unfold Oper.wp
        rw [hrun]
        cases c with
        | true => exact trL_ok hK os (i + 1) _ _ β _ w hrest (hs.put o.dst (RT.of_val rfl)) (h1 (hc rfl))
        | false => exact trL_ok hK os (i + 1) _ _ β _ w hrest (hs.put o.dst (RT.of_val rfl)) h2
      split at h
      · rename_i e he
        obtain ⟨h1, h2⟩ := h
        have h3 := plainB_ok h2
        exact .inl (step_ok hs hS he h1 fun β' w' v hs' hx => trL_ok hK os (i + 1) _ _ β' _ w' hrest (hs'.put o.dst hx) h3)
      · exact h.elim
    · rename_i hw
      rw [want_ok hs hw]
      simp only [Bool.false_eq_true, if_false]
      exact trL_ok hK os (i + 1) _ _ β _ w hrest (hs.put o.dst (x := .tup []) (v := undef) ⟨[], rfl, rfl, fun k x hx => by simp at hx⟩) h
    · exact h.elim

omit hS in
theorem recs_get : ∀ (ds : List DR) (i : Nat), (recs ds)[i]? = (ds[i]?).map (·.c)
  | [], i => by simp [recs]
  | d :: ds, 0 => by simp [recs]
  | d :: ds, i + 1 => by simp [recs, recs_get ds i]
omit hS in
theorem recs_append : ∀ (ds es : List DR), recs (ds ++ es) = recs ds ++ recs es
  | [], es => rfl
  | d :: ds, es => by simp [recs, recs_append ds es]
omit hS in
theorem recs_map : ∀ (ds : List DR), recs ds = ds.map (·.c)
  | [] => rfl
  | d :: ds => by simp [recs, recs_map ds]

omit hS in
theorem pairB_ok {os : List Oper} {anc : List Nat} {i : Nat} {c : DR} : ∀ {ds : List DR} {k : Nat}, pairB os anc i c ds k = true → ∀ (j : Nat) (d : DR), ds[j]? = some d → hasB (anc.getD (k + j) 0) i = false →
    commB c.c d.c = true ∧ harmB c.v (readsOf os c.c.o) c.slot c.h c.c d.c = true ∧ harmB d.v (readsOf os d.c.o) d.slot d.h d.c c.c = true
  | [], _, _, j, d, h, _ => by simp at h
  | d0 :: ds, k, hB, 0, d, h, hn => by
    simp at h; subst h
    simp only [pairB, Bool.and_eq_true, Bool.or_eq_true] at hB
    rcases hB.1 with hq | hq
    · rw [Nat.add_zero] at hn; rw [hn] at hq; cases hq
    · exact ⟨hq.1.1, hq.1.2, hq.2⟩
  | d0 :: ds, k, hB, j + 1, d, h, hn => by
    simp at h
    simp only [pairB, Bool.and_eq_true] at hB
    exact pairB_ok hB.2 j d h (by rw [← hn]; congr 2; omega)

omit hS in
theorem pairsB_ok {os : List Oper} {anc : List Nat} : ∀ {ds : List DR} {b : Nat}, pairsB os anc b ds = true → ∀ (i k : Nat) (c d : DR), ds[i]? = some c → ds[k]? = some d → i < k → hasB (anc.getD (b + k) 0) (b + i) = false →
    commB c.c d.c = true ∧ harmB c.v (readsOf os c.c.o) c.slot c.h c.c d.c = true ∧ harmB d.v (readsOf os d.c.o) d.slot d.h d.c c.c = true
  | [], _, _, i, k, c, d, h, _, _, _ => by simp at h
  | c0 :: ds, b, hB, 0, k + 1, c, d, h1, h2, _, hn => by
    simp at h1 h2; subst h1
    simp only [pairsB, Bool.and_eq_true] at hB
    exact pairB_ok hB.1 k d h2 (by rw [← hn]; congr 2; omega)
  | c0 :: ds, b, hB, i + 1, k + 1, c, d, h1, h2, hlt, hn => by
    simp at h1 h2
    simp only [pairsB, Bool.and_eq_true] at hB
    exact pairsB_ok hB.2 i k c d h1 h2 (by omega) (by rw [show b + 1 + k = b + (k + 1) by omega, show b + 1 + i = b + (i + 1) by omega]; exact hn)
  | c0 :: ds, b, hB, i, 0, c, d, _, _, hlt, _ => by omega

/-- What is known of all that came up. -/
def DInv (P : Program) (S : Tbl) (nio : Nat) (all : List Oper) (st0 : St) (done : List DR) : Prop :=
  ∀ (i : Nat) (d : DR), done[i]? = some d → ∃ q, d.v = SD st0 (recs done) 0 (hasB (ancAt all i)) ∧ wantT all d.v d.c.o = some d.c.r.isSome ∧ d.v.m[d.slot]? = some none ∧ ∀ e, d.c.r = some e → (d.v.hide d.h).step P S nio d.slot q d.c.o = some e ∧ e.ob

omit hS in
theorem SD_take {cs ds : List Rec} {st : St} {D : Nat → Bool} (h : ∀ k, cs.length ≤ k → D k = false) : SD st (cs ++ ds) 0 D = SD st cs 0 D := by
  rw [SD_append]
  exact SD_none _ _ _ _ (fun k hk => h k (by omega))

theorem trD_ok (hm : P.follows .mixedOrders = true) {ops : Array Oper} (hB : backB 0 ops.toList = true) {id : Nat} {Q : Exit → Act → World → Prop} {K : St → Prop} (hK : ∀ st β a w, K st → Sim C β st a w → Q .normal a w)
    {pre : List (List Nat × List Nat)} {dm : Nat} {st0 : St} {β : Bel} {a : Act} {w : World} (hs : Sim C β st0 a w) :
    ∀ (os : List Oper) (i slot : Nat) (done : List DR), ops.toList = (done.map (·.c.o)) ++ os → i = done.length → DInv P S C.nio ops.toList st0 done →
      trD P S C.nio O ops.toList (ancs ops.toList []) pre dm st0 os i slot done K → (Code.region id ops true).wp P Q a w
  | [], i, slot, done, hall, hi, hd, h => by
    simp only [trD] at h
    split at h
    · rename_i hp
      have hops : ((recs done).map (·.o)) = ops.toList := by rw [recs_map, hall]; simp
      refine draw_region (cs := recs done) ⟨hops, hB, ?_, ?_⟩ hS hm rfl (fun β a w hs' => hK _ β a w h hs') hs
      · intro j c hc
        rw [recs_get] at hc
        cases hdj : done[j]? with
        | none => rw [hdj] at hc; cases hc
        | some d =>
          rw [hdj] at hc
          simp only [Option.map_some, Option.some.injEq] at hc
          subst hc
          obtain ⟨q, h1, h2, h3, h4⟩ := hd j d hdj
          rw [← h1]
          refine ⟨d.h, d.slot, q, h2, fun e he => ⟨(h4 e he).1, (h4 e he).2, h3⟩, fun k c' hk hne hn1 hn2 => ?_⟩
          rw [recs_get] at hk
          cases hdk : done[k]? with
          | none => rw [hdk] at hk; cases hk
          | some d' =>
            rw [hdk] at hk
            simp only [Option.map_some, Option.some.injEq] at hk
            subst hk
            rcases Nat.lt_or_gt_of_ne hne with hlt | hgt
            · exact (pairsB_ok hp k j d' d hdk hdj hlt (by simpa [ancAt] using hn1)).2.2
            · exact (pairsB_ok hp j k d d' hdj hdk hgt (by simpa [ancAt] using hn2)).2.1
      · intro j k c c' hc hc' hlt hn
        rw [recs_get] at hc hc'
        cases hdj : done[j]? with
        | none => rw [hdj] at hc; cases hc
        | some d =>
          cases hdk : done[k]? with
          | none => rw [hdk] at hc'; cases hc'
          | some d' =>
            rw [hdj] at hc; rw [hdk] at hc'
            simp only [Option.map_some, Option.some.injEq] at hc hc'
            subst hc; subst hc'
            exact (pairsB_ok hp j k d d' hdj hdk hlt (by simpa [ancAt] using hn)).1
    · exact h.elim
  | o :: os, i, slot, done, hall, hi, hd, h => by
    have hoi : ops.toList[i]? = some o := by rw [hall, hi]; simp
    have hlen : (recs done).length = i := by rw [recs_map, hi]; simp
    have hanc : ∀ k, hasB (ancAt ops.toList i) k = true → k < i := anc_lt hB i o hoi
    have hancd : ∀ (j : Nat) (d : DR), done[j]? = some d → ∀ k, hasB (ancAt ops.toList j) k = true → k < i := by
      intro j d hdj k hk
      have hjl : j < done.length := (List.getElem?_eq_some_iff.1 hdj).1
      have hoj : ops.toList[j]? = some d.c.o := by rw [hall]; rw [List.getElem?_append_left (by simpa using hjl)]; simp [hdj]
      have := anc_lt hB j _ hoj k hk
      omega
    have grow : ∀ (d : DR) (q : List T), d.v = SD st0 (recs done) 0 (hasB (ancAt ops.toList i)) → wantT ops.toList d.v d.c.o = some d.c.r.isSome → d.v.m[d.slot]? = some none → (∀ e, d.c.r = some e → (d.v.hide d.h).step P S C.nio d.slot q d.c.o = some e ∧ e.ob) →
        DInv P S C.nio ops.toList st0 (done ++ [d]) := by
      intro d q h1 h2 h3 h4 j d' hj
      by_cases hjl : j < done.length
      · rw [List.getElem?_append_left hjl] at hj
        obtain ⟨q', g1, g2, g3, g4⟩ := hd j d' hj
        refine ⟨q', ?_, g2, g3, g4⟩
        rw [g1, recs_append, SD_take (fun k hk => by
          rw [Bool.eq_false_iff]; intro hb
          have := hancd j d' hj k hb
          omega)]
      · rw [List.getElem?_append_right (by omega)] at hj
        have hj0 : j - done.length = 0 := by
          have := (List.getElem?_eq_some_iff.1 hj).1
          simp at this; omega
        rw [hj0] at hj
        simp at hj
        subst hj
        have hji : j = i := by omega
        subst hji
        refine ⟨q, ?_, h2, h3, h4⟩
        rw [h1, recs_append, SD_take (fun k hk => by
          rw [Bool.eq_false_iff]; intro hb
          have := hanc k hb
          omega)]
    simp only [trD] at h
    have hav : ancAt ops.toList i = (ancs ops.toList []).getD i 0 := rfl
    rw [← hav] at h
    split at h
    · rename_i hw hsl
      split at h
      · rename_i e he
        obtain ⟨h1, h2⟩ := h
        have h3 := plainB_ok h2
        refine trD_ok hm hB hK hs os (i + 1) _ _ ?_ (by simp [hi]) (grow _ (O.el (Oper.key o)) rfl hw hsl (fun e' he' => ?_)) h3
        · rw [hall]; simp
        · simp only [Option.some.injEq] at he'
          subst he'
          exact ⟨he, h1⟩
      · exact h.elim
    · rename_i hw hsl
      refine trD_ok hm hB hK hs os (i + 1) _ _ ?_ (by simp [hi]) (grow _ [] rfl hw hsl (fun e' he' => by cases he')) h
      rw [hall]; simp
    · exact h.elim

theorem region_ok (hm : P.follows .mixedOrders = true) {ops : Array Oper} {draw : Bool} {id : Nat} {Q : Exit → Act → World → Prop} {K : St → Prop} (hK : ∀ st β a w, K st → Sim C β st a w → Q .normal a w)
    {st : St} {β : Bel} {a : Act} {w : World} (hs : Sim C β st a w) (h : region P S C.nio O ops.toList draw st K) : (Code.region id ops draw).wp P Q a w := by
  unfold region at h
  have hs' := hs.more (countMk ops.toList)
  cases draw with
  | false =>
    refine wp_region ?_
    have := trL_ok hS hK ops.toList 0 st.m.length _ β a w (fun j => by simp) hs' h
    simpa [List.range_eq_range'] using this
  | true =>
    simp only at h
    split at h
    · rename_i hB
      exact trD_ok hS hm hB hK hs' ops.toList 0 st.m.length [] (by simp) rfl (fun i d hd => by simp at hd) h
    · exact h.elim
end

end Go.AL
