/- What the call's own memory reads as: data. No condition. -/
import Derived.Test.YtngcjhiflplkbaaALKill
namespace Go.AL
open Go

def rowCut {α : Type} (off : Nat) (rest : Option Nat) (l : List α) : List α :=
  match off, rest with
  | 0, none => l
  | 0, some k => l.take k
  | o + 1, none => l.drop (o + 1)
  | o + 1, some k => (l.drop (o + 1)).take k

theorem rowCut_eq {α : Type} (off : Nat) (rest : Option Nat) (l : List α) : rowCut off rest l = (l.drop off).take (rest.getD (l.length - off)) := by
  cases off <;> cases rest <;> simp [rowCut]
  rw [List.take_of_length_le (by simp)]

mutual
def St.view (st : St) (g : Nat → Bool) : Nat → T → Option (T × Prop)
  | 0, _ => none
  | _ + 1, .i n => some (.i n, True)
  | _ + 1, .b c => some (.b c, True)
  | _ + 1, .u8 x => some (.u8 x, True)
  | _ + 1, .u32 x => some (.u32 x, True)
  | _ + 1, .u64 x => some (.u64 x, True)
  | _ + 1, .s l => some (.s l, True)
  | _ + 1, .v x => some (.v x, True)
  | _ + 1, .ba n l => some (.ba n l, True)
  | _ + 1, .arr n e xs => some (.arr n e xs, True)
  | _ + 1, .sb l => some (.sb l, True)
  | _ + 1, .sl e xs => some (.sl e xs, True)
  | _ + 1, .pt x => some (.pt x, True)
  | _ + 1, .junk => some (.junk, True)
  | k + 1, .agg fs => match St.views st g k fs with
    | some (ys, ob) => some (.agg ys, ob)
    | none => none
  | k + 1, .ifc t x => match St.view st g k x with
    | some (y, ob) => some (.ifc t y, ob)
    | none => none
  | k + 1, .clo f caps => match St.views st g k caps with
    | some (ys, ob) => some (.clo f ys, ob)
    | none => none
  | k + 1, .ref id p => match st.m[id]? with
    | some (some o) => if g id then none else match o.c.nav p [] with
      | some n => match St.view st g k n.y with
        | some (y, ob) => if Nat.ble 1 n.y.sk.size then some (.pt y, n.ob ∧ ob) else none
        | none => none
      | none => none
    | _ => none
  | _ + 1, .row id p off rest => match st.m[id]? with
    | some (some o) => if g id then none else match p, o.c with
      | [], .rb l => some (.sb (rowCut off rest l), True)
      | [], .rs e xs => some (.sl e (rowCut off rest xs), True)
      | p1, c1 => match c1.nav p1 [] with
        | some n => match n.y with
          | .ba _ l => some (.sb (rowCut off rest l), n.ob)
          | .arr _ e xs => some (.sl e (rowCut off rest xs), n.ob)
          | _ => none
        | none => none
    | _ => none
  | _ + 1, _ => none
def St.views (st : St) (g : Nat → Bool) : Nat → List T → Option (List T × Prop)
  | 0, _ => none
  | _ + 1, [] => some ([], True)
  | k + 1, x :: xs => match St.view st g k x, St.views st g k xs with
    | some (y, o1), some (ys, o2) => some (y :: ys, o1 ∧ o2)
    | _, _ => none
end

theorem rowCut_length {α : Type} (off : Nat) (rest : Option Nat) (l : List α) (h : off + rest.getD (l.length - off) ≤ l.length) : (rowCut off rest l).length = rest.getD (l.length - off) := by
  rw [rowCut_eq]; simp; omega

theorem RU.rowCut {w : World} {N : Nat → Prop} {e : Sk} {xs : List T} {cs : List Value} (h : RU w N e xs cs) (off : Nat) (rest : Option Nat) :
    RU w N e (rowCut off rest xs) ((cs.drop (off * e.size)).take (rest.getD (xs.length - off) * e.size)) := by
  rw [rowCut_eq]
  exact RU.take _ _ _ (RU.drop _ _ _ h)

/-- A part of a block's cells, as they lie. -/
theorem lies_of_block {w : World} {N : Nat → Prop} {b : Nat} {cs : Array Value} {e : TypeId} {fz : Nat × Nat} (hN : ¬ N b) (hb : w.heap[b]? = some (.cells cs e fz)) {pre ds post : List Value} (h : cs.toList = pre ++ ds ++ post) :
    Lies w N (some ⟨b, pre.length, none⟩) ds := by
  refine .inr ⟨b, pre.length, rfl, hN, cs, e, fz, hb, ?_, fun j hj => ?_⟩
  · have := congrArg List.length h
    simp at this
    omega
  · have : cs[pre.length + j]? = cs.toList[pre.length + j]? := by simp
    rw [this, h, List.append_assoc, List.getElem?_append_right (by omega), List.getElem?_append_left (by omega)]
    congr 1
    omega

theorem seg_split {α : Type} (l : List α) (a n : Nat) (_h : a + n ≤ l.length) : l = l.take a ++ (l.drop a).take n ++ l.drop (a + n) := by
  rw [List.append_assoc, ← List.drop_drop, List.take_append_drop, List.take_append_drop]

section
variable {w : World} {N' : Nat → Prop} {C : Ctx} {β : Bel} {st : St} {a : Act}

/-- A row that is a slice of a block's elements. -/
theorem row_view {β : Bel} {id : Nat} {o : Obj} (hN' : ∀ b k, β id = some (b, k) → ¬ N' b) {p : List Nat} {off : Nat} {rest : Option Nat} {v : Value}
    (hr : RowAt o.c (β id) p off rest v) {n sz : Nat} (hn : o.c.len p = some (n, sz)) (ds : List Value) (hds : ds.length = n * sz)
    (hcs : ∀ b k, β id = some (b, k) → ∃ cs e fz pre post, w.heap[b]? = some (.cells cs e fz) ∧ cs.toList = pre ++ ds ++ post ∧ pre.length = o.c.off p) :
    ∃ A c, v = .slice A (rest.getD (n - off)) c ∧ rest.getD (n - off) ≤ c ∧ off + rest.getD (n - off) ≤ n ∧ Lies w N' A ((ds.drop (off * sz)).take (rest.getD (n - off) * sz)) := by
  obtain ⟨n', sz', e1, e2, e3⟩ := hr
  rw [hn] at e1; simp only [Option.some.injEq, Prod.mk.injEq] at e1
  obtain ⟨rfl, rfl⟩ := e1
  cases hβ : β id with
  | none =>
    rw [hβ] at e3
    obtain ⟨rfl, g1, rfl, rfl⟩ := e3
    refine ⟨none, 0, by rw [g1], by omega, e2, .inl ?_⟩
    rw [g1]; simp
  | some bk =>
    obtain ⟨b, k⟩ := bk
    rw [hβ] at e3
    obtain ⟨A, cap, rfl, g1, g2, g3⟩ := e3
    refine ⟨some A, cap, rfl, g1, e2, ?_⟩
    by_cases h0 : rest.getD (n - off) = 0
    · left; rw [h0]; simp
    · have hcap : 0 < cap := by omega
      rw [g3 hcap]
      obtain ⟨cs, e, fz, pre, post, q1, q2, q3⟩ := hcs b k hβ
      have hle : off * sz + rest.getD (n - off) * sz ≤ ds.length := by
        rw [hds, ← Nat.add_mul]; exact Nat.mul_le_mul_right _ e2
      have hs := seg_split ds (off * sz) (rest.getD (n - off) * sz) hle
      have := lies_of_block (N := N') (hN' b k hβ) q1 (pre := pre ++ ds.take (off * sz)) (ds := (ds.drop (off * sz)).take (rest.getD (n - off) * sz)) (post := ds.drop (off * sz + rest.getD (n - off) * sz) ++ post) (by
        rw [q2]
        conv => lhs; rw [hs]
        simp)
      have hl : (pre ++ ds.take (off * sz)).length = o.c.off p + off * sz := by simp [q3]; omega
      rwa [hl] at this

theorem u8_cut (l : List UInt8) (off : Nat) (rest : Option Nat) : (rowCut off rest l).map u8v = (((l.map u8v).drop (off * 1)).take (rest.getD (l.length - off) * 1)) := by
  rw [rowCut_eq, List.map_take, List.map_drop, Nat.mul_one, Nat.mul_one]

mutual
theorem view_ok (hN : ∀ b, ¬ Mut C.N0 st.m β b → ¬ N' b) {g : Nat → Bool} (hN' : ∀ id o b k, st.m[id]? = some (some o) → β id = some (b, k) → g id = false → ¬ N' b) (h : Sim C β st a w) :
    ∀ (f : Nat) (x y : T) (ob : Prop) (cs : List Value), st.view g f x = some (y, ob) → ob → RC w (Mut C.N0 st.m β) (ext st.m β) x cs → RC w N' Ext.none y cs ∧ y.isAgg = x.isAgg ∧ y.sk = x.sk
  | 0, _, _, _, _, hv, _, _ => by simp [St.view] at hv
  | _ + 1, .i _, y, ob, cs, hv, _, k | _ + 1, .b _, y, ob, cs, hv, _, k | _ + 1, .u8 _, y, ob, cs, hv, _, k | _ + 1, .u32 _, y, ob, cs, hv, _, k | _ + 1, .u64 _, y, ob, cs, hv, _, k
  | _ + 1, .s _, y, ob, cs, hv, _, k | _ + 1, .v _, y, ob, cs, hv, _, k | _ + 1, .ba _ _, y, ob, cs, hv, _, k | _ + 1, .arr _ _ _, y, ob, cs, hv, _, k | _ + 1, .sb _, y, ob, cs, hv, _, k
  | _ + 1, .sl _ _, y, ob, cs, hv, _, k | _ + 1, .pt _, y, ob, cs, hv, _, k | _ + 1, .junk, y, ob, cs, hv, _, k => by
    simp only [St.view, Option.some.injEq, Prod.mk.injEq] at hv
    obtain ⟨rfl, rfl⟩ := hv
    exact ⟨RC.data _ _ rfl (RC.mono (fun b hb _ => ⟨hN b hb, rfl⟩) (Ext.Le.refl _) _ _ k), rfl, rfl⟩
  | f + 1, .agg fs, y, ob, cs, hv, ho, k => by
    simp only [St.view] at hv
    split at hv
    · rename_i ys ob' hvs
      simp only [Option.some.injEq, Prod.mk.injEq] at hv
      obtain ⟨rfl, rfl⟩ := hv
      simp only [RC] at k ⊢
      obtain ⟨r1, r2⟩ := views_ok hN hN' h f fs ys _ cs hvs ho k
      exact ⟨r1, rfl, by simp only [T.sk, r2]⟩
    · cases hv
  | f + 1, .ifc t x, y, ob, cs, hv, ho, k => by
    simp only [St.view] at hv
    split at hv
    · rename_i y' ob' hvs
      simp only [Option.some.injEq, Prod.mk.injEq] at hv
      obtain ⟨rfl, rfl⟩ := hv
      simp only [RC] at k ⊢
      obtain ⟨u, h1, h2⟩ := k
      refine ⟨⟨u, h1, ?_⟩, rfl, rfl⟩
      rcases h2 with ⟨h2, ds, h3, h4⟩ | ⟨h2, h4⟩
      · obtain ⟨r1, r2, _⟩ := view_ok hN hN' h f x y' _ ds hvs ho h4
        exact .inl ⟨by rw [r2]; exact h2, ds, h3, r1⟩
      · obtain ⟨r1, r2, _⟩ := view_ok hN hN' h f x y' _ _ hvs ho h4
        exact .inr ⟨by rw [r2]; exact h2, r1⟩
    · cases hv
  | f + 1, .clo g' caps, y, ob, cs, hv, ho, k => by
    simp only [St.view] at hv
    split at hv
    · rename_i ys ob' hvs
      simp only [Option.some.injEq, Prod.mk.injEq] at hv
      obtain ⟨rfl, rfl⟩ := hv
      simp only [RC] at k ⊢
      obtain ⟨vs, h1, h2, h3⟩ := k
      obtain ⟨r1, r2⟩ := views_ok hN hN' h f caps ys _ vs hvs ho h2
      refine ⟨⟨vs, h1, r1, ?_⟩, rfl, rfl⟩
      rw [h3, ← sks_length caps, ← r2, sks_length]
    · cases hv
  | f + 1, .ref id p, y, ob, cs, hv, ho, k => by
    simp only [St.view] at hv
    split at hv
    · rename_i o hm
      split at hv
      · cases hv
      rename_i hg
      have hg : g id = false := by simpa using hg
      split at hv
      · rename_i n hn
        split at hv
        · rename_i y' ob' hvs
          split at hv
          · rename_i hsz
            simp only [Option.some.injEq, Prod.mk.injEq] at hv
            obtain ⟨rfl, rfl⟩ := hv
            simp only [RC] at k
            obtain ⟨ad, rfl, o', b, k', e1, e2, rfl⟩ := k
            rw [hm] at e1; simp only [Option.some.injEq] at e1; subst e1
            have hme := h.me id o hm
            rw [e2] at hme
            obtain ⟨cs, e, fz, q1, q2, q3, q4⟩ := hme
            obtain ⟨pre, d, post, r1, r2, r3, _⟩ := Cont.nav_ok o.c p [] n cs.toList hn q4 ho.1
            obtain ⟨s1, s2, s3⟩ := view_ok hN hN' h f n.y y' _ d hvs ho.2 r3
            refine ⟨?_, rfl, rfl⟩
            simp only [RC]
            refine ⟨_, d, rfl, ?_, s1, ?_⟩
            · intro hd; subst hd
              have := RC.length _ _ r3
              have h2 := Nat.le_of_ble_eq_true hsz
              simp at this; omega
            · have := lies_of_block (N := N') (hN' id o b k' hm e2 hg) q1 r1
              rwa [r2] at this
          · cases hv
        · cases hv
      · cases hv
    · cases hv
  | f + 1, .row id p off rest, y, ob, cs, hv, ho, k => by
    simp only [St.view] at hv
    split at hv
    · rename_i o hm
      split at hv
      · cases hv
      rename_i hg
      have hg : g id = false := by simpa using hg
      simp only [RC] at k
      obtain ⟨v, rfl, hv1, o', e1, hr⟩ := k
      rw [hm] at e1; simp only [Option.some.injEq] at e1; subst e1
      have hme := h.me id o hm
      split at hv
      · rename_i l hc
        simp only [Option.some.injEq, Prod.mk.injEq] at hv
        obtain ⟨rfl, rfl⟩ := hv
        have hn : o.c.len [] = some (l.length, 1) := by rw [hc]; rfl
        obtain ⟨A, c, r1, r2, r3, r4⟩ := row_view (hN' id o · · hm · hg) hr hn (l.map u8v) (by simp) (fun b k hβ => by
          rw [hβ] at hme
          obtain ⟨cs, e, fz, q1, q2, q3, q4⟩ := hme
          rw [hc] at q4
          obtain ⟨r, q4⟩ := q4
          exact ⟨cs, e, fz, [], r, q1, by simpa using q4, by rw [hc]; rfl⟩)
        refine ⟨?_, rfl, rfl⟩
        simp only [RC]
        have hl := rowCut_length off rest l r3
        refine ⟨A, c, by rw [r1, hl], by rw [hl]; exact r2, ?_⟩
        rw [u8_cut]; exact r4
      · rename_i e xs hc
        simp only [Option.some.injEq, Prod.mk.injEq] at hv
        obtain ⟨rfl, rfl⟩ := hv
        have hn : o.c.len [] = some (xs.length, e.size) := by rw [hc]; rfl
        have hu : ∃ ds, RU w (Mut C.N0 st.m β) e xs ds ∧ ∀ b k, β id = some (b, k) → ∃ cs e' fz pre post, w.heap[b]? = some (.cells cs e' fz) ∧ cs.toList = pre ++ ds ++ post ∧ pre.length = o.c.off [] := by
          cases hβ : β id with
          | none =>
            rw [hβ] at hme
            rcases hme with hme | ⟨e', hme⟩
            · rw [hc] at hme; cases hme
            · rw [hc] at hme; cases hme
              exact ⟨[], by simp only [RU], fun b k hq => by cases hq⟩
          | some bk =>
            obtain ⟨b, k⟩ := bk
            rw [hβ] at hme
            obtain ⟨cs, e', fz, q1, q2, q3, q4⟩ := hme
            rw [hc] at q4
            obtain ⟨ds, r, q4, q5⟩ := q4
            refine ⟨ds, q5, fun b' k' hq => ?_⟩
            simp only [Option.some.injEq, Prod.mk.injEq] at hq
            obtain ⟨rfl, rfl⟩ := hq
            exact ⟨cs, e', fz, [], r, q1, by simpa using q4, by rw [hc]; rfl⟩
        obtain ⟨ds, hu, hcs⟩ := hu
        obtain ⟨A, c, r1, r2, r3, r4⟩ := row_view (hN' id o · · hm · hg) hr hn ds (RU.length _ _ hu) hcs
        refine ⟨?_, rfl, rfl⟩
        simp only [RC]
        have hl := rowCut_length off rest xs r3
        exact ⟨A, c, by rw [r1, hl], by rw [hl]; exact r2, _, RU.mono (fun b hb _ => ⟨hN b hb, rfl⟩) _ _ (hu.rowCut off rest), r4⟩
      · rename_i p _ _ h1 h2
        split at hv
        · rename_i n hnv
          have hrl := hr
          obtain ⟨n', sz', hlen, _, _⟩ := hr
          cases hc : o.c with
          | rb l =>
            cases p with
            | nil => exact (h1 l rfl hc).elim
            | cons q p => rw [hc] at hlen; simp [Cont.len] at hlen
          | rs e xs =>
            cases p with
            | nil => exact (h2 e xs rfl hc).elim
            | cons q p => rw [hc] at hlen; simp [Cont.len] at hlen
          | var x =>
            cases hβ : β id with
            | none =>
              rw [hβ] at hme
              rcases hme with hme | ⟨e', hme⟩ <;> rw [hc] at hme <;> cases hme
            | some bk =>
              obtain ⟨b, k⟩ := bk
              rw [hβ] at hme
              obtain ⟨cs, e, fz, q1, q2, q3, q4⟩ := hme
              rw [hc] at q4 hnv
              simp only [Cont.nav] at hnv
              split at hnv
              · rename_i m hnm
                simp only [Option.some.injEq] at hnv
                subst hnv
                have hob : m.ob := by
                  split at hv
                  · simp only [Option.some.injEq, Prod.mk.injEq] at hv; rw [hv.2]; exact ho
                  · simp only [Option.some.injEq, Prod.mk.injEq] at hv; rw [hv.2]; exact ho
                  · cases hv
                obtain ⟨s1, pre, d, post, r1, r2, r3, _⟩ := T.nav_ok _ x [] m cs.toList hnm q4 hob
                have hcs : ∀ b' k', β id = some (b', k') → ∃ cs e fz pre post, w.heap[b']? = some (.cells cs e fz) ∧ cs.toList = pre ++ d ++ post ∧ pre.length = o.c.off p := fun b' k' hq => by
                  rw [hβ] at hq
                  simp only [Option.some.injEq, Prod.mk.injEq] at hq
                  obtain ⟨rfl, rfl⟩ := hq
                  exact ⟨cs, e, fz, pre, post, q1, r1, by rw [r2, hc]; rfl⟩
                cases hy : m.y with
                | ba n0 l =>
                  rw [hy] at r3 s1
                  simp only [hy, Option.some.injEq, Prod.mk.injEq] at hv
                  obtain ⟨rfl, rfl⟩ := hv
                  simp only [RC] at r3
                  obtain ⟨hl0, rfl⟩ := r3
                  have hn : o.c.len p = some (l.length, 1) := by rw [hc]; simp [Cont.len, s1, T.sk, Sk.arrOf, hl0]
                  obtain ⟨A, c, g1, g2, g3, g4⟩ := row_view (hN' id o · · hm · hg) hrl hn (l.map u8v) (by simp) hcs
                  refine ⟨?_, rfl, rfl⟩
                  simp only [RC]
                  have hl := rowCut_length off rest l g3
                  refine ⟨A, c, by rw [g1, hl], by rw [hl]; exact g2, ?_⟩
                  rw [u8_cut]; exact g4
                | arr n0 e0 xs =>
                  rw [hy] at r3 s1
                  simp only [hy, Option.some.injEq, Prod.mk.injEq] at hv
                  obtain ⟨rfl, rfl⟩ := hv
                  simp only [RC] at r3
                  obtain ⟨hl0, hu⟩ := r3
                  have hn : o.c.len p = some (xs.length, e0.size) := by rw [hc]; simp [Cont.len, s1, T.sk, Sk.arrOf, hl0]
                  obtain ⟨A, c, g1, g2, g3, g4⟩ := row_view (hN' id o · · hm · hg) hrl hn d (RU.length _ _ hu) hcs
                  refine ⟨?_, rfl, rfl⟩
                  simp only [RC]
                  have hl := rowCut_length off rest xs g3
                  exact ⟨A, c, by rw [g1, hl], by rw [hl]; exact g2, _, RU.mono (fun b hb _ => ⟨hN b hb, rfl⟩) _ _ (hu.rowCut off rest), g4⟩
                | _ => simp [hy] at hv
              · cases hnv
        · cases hv
    · cases hv
  | _ + 1, .tup _, _, _, _, hv, _, _ | _ + 1, .ow _, _, _, _, hv, _, _ | _ + 1, .os _ _, _, _, _, hv, _, _ => by simp [St.view] at hv
theorem views_ok (hN : ∀ b, ¬ Mut C.N0 st.m β b → ¬ N' b) {g : Nat → Bool} (hN' : ∀ id o b k, st.m[id]? = some (some o) → β id = some (b, k) → g id = false → ¬ N' b) (h : Sim C β st a w) :
    ∀ (f : Nat) (xs ys : List T) (ob : Prop) (cs : List Value), st.views g f xs = some (ys, ob) → ob → RL w (Mut C.N0 st.m β) (ext st.m β) xs cs → RL w N' Ext.none ys cs ∧ T.sks ys = T.sks xs
  | 0, _, _, _, _, hv, _, _ => by simp [St.views] at hv
  | _ + 1, [], ys, ob, cs, hv, _, k => by
    simp only [St.views, Option.some.injEq, Prod.mk.injEq] at hv
    obtain ⟨rfl, rfl⟩ := hv
    simp only [RL] at k ⊢
    exact ⟨k, trivial⟩
  | f + 1, x :: xs, ys, ob, cs, hv, ho, k => by
    simp only [St.views] at hv
    split at hv
    · rename_i y o1 ys' o2 h1 h2
      simp only [Option.some.injEq, Prod.mk.injEq] at hv
      obtain ⟨rfl, rfl⟩ := hv
      simp only [RL] at k ⊢
      obtain ⟨c1, c2, g1, g2, g3, g4⟩ := k
      obtain ⟨r1, _, r2⟩ := view_ok hN hN' h f x y _ c1 h1 ho.1 g3
      obtain ⟨s1, s2⟩ := views_ok hN hN' h f xs ys' _ c2 h2 ho.2 g4
      exact ⟨⟨c1, c2, g1, by rw [r2]; exact g2, r1, s1⟩, by simp only [T.sks, r2, s2]⟩
    · cases hv
end
end

end Go.AL
