/- A nil slice as an object that holds nothing. No condition. -/
import Derived.Test.YtngcjhiflplkbaaALLess
namespace Go.AL
open Go

inductive Gh where
  | tmp (k : Nat) (c : Cont)
  | fld (id : Nat) (p : List Nat) (c : Cont)

def emptyC : Cont → Bool
  | .rb [] => true
  | .rs _ [] => true
  | _ => false

def isNilT : T → Bool
  | .v (.slice none 0 0) => true
  | _ => false

def St.ghost (st : St) : Gh → Option (St × Prop)
  | .tmp k c => match st.t[k]? with
    | some x => if isNilT x && emptyC c then some ((St.mk (st.t.set k (T.row st.m.length [] 0 none)) (st.m ++ [some ⟨c, false⟩])), True) else none
    | none => none
  | .fld id p c => match st.m[id]? with
    | some (some o) => if o.fz || !emptyC c then none else match o.c.nav p [] with
      | some n => if isNilT n.y && !n.ar then match n.f (.row st.m.length [] 0 none) with
        | some c' => some ((St.mk st.t (List.set (st.m ++ [some (Obj.mk c false)]) id (some (Obj.mk c' false)))), n.ob)
        | none => none
        else none
      | none => none
    | _ => none

def St.ghosts (st : St) : List Gh → Option (St × Prop)
  | [] => some (st, True)
  | g :: gs => match st.ghost g with
    | some (st', o1) => match st'.ghosts gs with
      | some (st2, o2) => some (st2, o1 ∧ o2)
      | none => none
    | none => none

theorem isNilT_eq {x : T} (h : isNilT x = true) : x = .v (.slice none 0 0) := by
  unfold isNilT at h
  split at h
  · rfl
  · cases h

theorem emptyC_eq {c : Cont} (h : emptyC c = true) : (c = .rb [] ∨ ∃ e, c = .rs e []) ∧ ∃ sz, c.len [] = some (0, sz) := by
  unfold emptyC at h
  split at h
  · exact ⟨.inl rfl, 1, rfl⟩
  · exact ⟨.inr ⟨_, rfl⟩, _, rfl⟩
  · cases h

/-- An object that holds nothing, and lies nowhere. -/
theorem sim_none {C : Ctx} {β : Bel} {st : St} {a : Act} {w : World} (h : Sim C β st a w) {c : Cont} (hc : emptyC c = true) :
    ∃ β', Sim C β' ⟨st.t, st.m ++ [some ⟨c, false⟩]⟩ a w ∧ (∀ id, id < st.m.length → β' id = β id) ∧
      ∀ N, RC w N (ext (st.m ++ [some ⟨c, false⟩]) β') (.row st.m.length [] 0 none) [.slice none 0 0] := by
  have h1 := h.more 1
  have hn : (addNone 1 st.m)[st.m.length]? = some none := by simp [addNone]
  have h2 := h1.fill (Keeps.refl _ w) (id := st.m.length) hn ⟨c, false⟩ none (fun b k e => by cases e) (fun _ => (emptyC_eq hc).1)
  have he : (St.fill ⟨st.t, addNone 1 st.m⟩ st.m.length ⟨c, false⟩) = ⟨st.t, st.m ++ [some ⟨c, false⟩]⟩ := by
    simp [St.fill, addNone]
  rw [he] at h2
  refine ⟨_, h2, fun id hid => ?_, fun N => ?_⟩
  · simp only [Bel.with]
    rw [if_neg (by omega)]
  · simp only [RC]
    obtain ⟨_, sz, hsz⟩ := emptyC_eq hc
    refine ⟨_, rfl, rfl, ⟨c, false⟩, by simp, 0, sz, hsz, by simp, ?_⟩
    simp [Bel.with]

theorem Sim.ghost {C : Ctx} {β : Bel} {st st' : St} {a : Act} {w : World} (h : Sim C β st a w) {g : Gh} {ob : Prop} (hg : st.ghost g = some (st', ob)) (hob : ob) : ∃ β', Sim C β' st' a w := by
  cases g with
  | tmp k c =>
    simp only [St.ghost] at hg
    split at hg
    · rename_i x hx
      split at hg
      · rename_i hc
        simp only [Bool.and_eq_true] at hc
        simp only [Option.some.injEq, Prod.mk.injEq] at hg
        obtain ⟨rfl, rfl⟩ := hg
        obtain ⟨β', h1, _, h2⟩ := sim_none h hc.2
        have hv := (h.tm k x hx).val (r := .slice none 0 0) (by rw [isNilT_eq hc.1]; rfl)
        refine ⟨β', { h1 with sz := ?_, tm := ?_ }⟩
        · simpa using h1.sz
        · intro j y hy
          rw [List.getElem?_set] at hy
          by_cases hj : k = j
          · subst hj
            have hlt := (List.getElem?_eq_some_iff.1 hx).1
            simp only [if_true, hlt, Option.some.injEq] at hy
            subst hy
            rw [hv]
            exact RT.leaf (h2 _) rfl
          · rw [if_neg hj] at hy
            exact h1.tm j y hy
      · cases hg
    · cases hg
  | fld id p c =>
    simp only [St.ghost] at hg
    split at hg
    · rename_i o ho
      split at hg
      · cases hg
      · rename_i hc
        simp only [Bool.or_eq_true, Bool.not_eq_true', not_or, Bool.not_eq_true, Bool.not_eq_false] at hc
        split at hg
        · rename_i n hn
          split at hg
          · rename_i hnil
            simp only [Bool.and_eq_true, Bool.not_eq_true'] at hnil
            split at hg
            · rename_i c' hf
              simp only [Option.some.injEq, Prod.mk.injEq] at hg
              obtain ⟨rfl, rfl⟩ := hg
              obtain ⟨β', h1, hβ, h2⟩ := sim_none h hc.2
              have hlt := (List.getElem?_eq_some_iff.1 ho).1
              have ho1 : (st.m ++ [some ⟨c, false⟩])[id]? = some (some o) := by rw [List.getElem?_append_left hlt]; exact ho
              have hme := h1.me id o ho1
              have hy := isNilT_eq hnil.1
              cases hb : β' id with
              | none =>
                rw [hb] at hme
                exfalso
                rcases hme with hq | ⟨e, hq⟩
                · rw [hq] at hn
                  cases p with
                  | nil => simp [Cont.nav] at hn
                  | cons k p =>
                    cases p with
                    | nil =>
                      simp only [Cont.nav, Option.some.injEq] at hn
                      rw [← hn] at hy
                      cases hy
                    | cons k' p => simp [Cont.nav] at hn
                · rw [hq] at hn
                  cases p with
                  | nil => simp [Cont.nav] at hn
                  | cons k p =>
                    simp only [Cont.nav] at hn
                    split at hn
                    · simp only [Option.some.injEq] at hn
                      rw [← hn] at hnil
                      simp at hnil
                    · cases hn
              | some bk =>
                obtain ⟨b, k⟩ := bk
                rw [hb] at hme
                obtain ⟨cs, e, fz, p1, p2, p3, p4⟩ := hme
                rw [p3 hc.1] at p1
                obtain ⟨pre, d, post, g1, g2, g3, g4⟩ := Cont.nav_ok o.c p [] n cs.toList hn p4 hob
                rw [hy] at g3
                have hd : d = [.slice none 0 0] := by
                  simp only [RC] at g3; exact g3.2
                obtain ⟨g5, g6⟩ := g4 (.row st.m.length [] 0 none) d c' (by rw [hy]; rfl) (by rw [hnil.2]; simp) (by rw [hd]; exact h2 _) hf
                rw [← g1] at g5
                exact ⟨β', h1.write ho1 hc.1 hb c' g6 cs e (Keeps.refl _ w) p1 p2 g5⟩
            · cases hg
          · cases hg
        · cases hg
    · cases hg

theorem Sim.ghosts {C : Ctx} {a : Act} {w : World} : ∀ (gs : List Gh) {β : Bel} {st st' : St} {ob : Prop}, Sim C β st a w → st.ghosts gs = some (st', ob) → ob → ∃ β', Sim C β' st' a w
  | [], β, st, st', ob, h, hg, _ => by
    simp only [St.ghosts, Option.some.injEq, Prod.mk.injEq] at hg
    obtain ⟨rfl, rfl⟩ := hg
    exact ⟨β, h⟩
  | g :: gs, β, st, st', ob, h, hg, hob => by
    simp only [St.ghosts] at hg
    split at hg
    · rename_i s1 o1 h1
      split at hg
      · rename_i s2 o2 h2
        simp only [Option.some.injEq, Prod.mk.injEq] at hg
        obtain ⟨rfl, rfl⟩ := hg
        obtain ⟨β1, h3⟩ := h.ghost h1 hob.1
        exact Sim.ghosts gs h3 h2 hob.2
      · cases hg
    · cases hg

end Go.AL
