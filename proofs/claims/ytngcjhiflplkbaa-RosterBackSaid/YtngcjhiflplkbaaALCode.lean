/- Code in the abstract machine. No condition. -/
import Derived.Test.YtngcjhiflplkbaaALGhost
import Derived.Deep.LoopGhost
namespace Go.AL
open Go

def lookT : List (Nat × T) → Nat → Option T
  | [], _ => none
  | (k, x) :: r, n => match Nat.beq k n with
    | true => some x
    | false => lookT r n
def lookM : List (Nat × Cont × Bool) → Nat → Option (Cont × Bool)
  | [], _ => none
  | (k, x) :: r, n => match Nat.beq k n with
    | true => some x
    | false => lookM r n

def keepT (ts : List (Nat × T)) (keep : List Nat) : Nat → List T → List T
  | _, [] => []
  | k, x :: xs => (match lookT ts k with
    | some y => y
    | none => match memB k keep with
      | true => x
      | false => .junk) :: keepT ts keep (k + 1) xs
def keepM (os : List (Nat × Cont × Bool)) (keep : List Nat) : Nat → List (Option Obj) → List (Option Obj)
  | _, [] => []
  | k, x :: xs => (match lookM os k with
    | some (c, fz) => some ⟨c, fz⟩
    | none => match memB k keep with
      | true => x
      | false => none) :: keepM os keep (k + 1) xs

/-- The state at a loop's head: some temporaries and objects as told, some as they were, no more. -/
def St.head (st : St) (ts : List (Nat × T)) (keep : List Nat) (os : List (Nat × Cont × Bool)) (keepO : List Nat) : St := ⟨keepT ts keep 0 st.t, keepM os keepO 0 st.m⟩

/-- How a loop is to be met: by so many rounds; or by an invariant over an index: the start, what holds of it, what sinks, what is made of nil, temporaries, those kept, objects, those kept, the elements that a round reads, the loops inside. -/
inductive Loop : Type 1 where
  | unroll (n : Nat)
  | inv (ι : Type) (i0 : ι) (pre : ι → Prop) (μ : ι → Nat) (gh : List Gh) (ts : ι → List (Nat × T)) (keep : List Nat) (os : ι → List (Nat × Cont × Bool)) (keepO : List Nat) (el : ι → Nat → List T) (lp : ι → Nat → Loop)

structure Orc2 extends Orc where
  lp : Nat → Loop

def loops : Code → Nat
  | .seq x y => loops x + loops y
  | .cond _ x y => loops x + loops y
  | .block _ c => loops c
  | .loop c => loops c + 1
  | _ => 0

def iter (f : St → (AX → St → Prop) → Prop) : Nat → St → (AX → St → Prop) → Prop
  | 0, _, _ => False
  | n + 1, st, K => f st fun ex st' => match ex with
    | .normal => iter f n st' K
    | ex => K ex st'

/-- What must hold for a piece of code to do no wrong, and to end in K. 'pos': how many loops stand ahead of it. -/
def tr (P : Program) (S : Tbl) (nio : Nat) : Code → Orc2 → Nat → St → (AX → St → Prop) → Prop
  | .skip, _, _, st, K => K .normal st
  | .ret, _, _, st, K => K .ret st
  | .exit id, _, _, st, K => K (.exit id) st
  | .region _ ops draw, O, _, st, K => region P S nio O.toOrc ops.toList draw st fun st' => K .normal st'
  | .seq x y, O, pos, st, K => tr P S nio x O pos st fun ex st' => match ex with
    | .normal => tr P S nio y O (pos + loops x) st' K
    | ex => K ex st'
  | .cond c x y, O, pos, st, K => match st.ev c with
    | some (.b cc) => match cc with
      | true => tr P S nio x O pos st K
      | false => tr P S nio y O (pos + loops x) st K
    | _ => False
  | .block id c, O, pos, st, K => tr P S nio c O pos st fun ex st' => match ex with
    | .exit i => match Nat.beq i id with
      | true => K .normal st'
      | false => K (.exit i) st'
    | ex => K ex st'
  | .loop c, O, pos, st, K => match O.lp pos with
    | .unroll n => iter (fun st K => tr P S nio c O (pos + 1) st K) n st K
    | .inv _ i0 pre μ gh ts keep os keepO el lp => match st.ghosts gh with
      | some (s1, ob) => ob ∧ pre i0 ∧ s1.le nio (s1.head (ts i0) keep (os i0) keepO) ∧ ∀ i, pre i → tr P S nio c ⟨⟨el i⟩, lp i⟩ (pos + 1) (s1.head (ts i) keep (os i) keepO) fun ex st' => match ex with
        | .normal => ∃ j, pre j ∧ μ j < μ i ∧ st'.le nio (s1.head (ts j) keep (os j) keepO)
        | ex => K ex st'
      | none => False
  | _, _, _, _, _ => False

def AX.to : AX → Exit
  | .normal => .normal
  | .ret => .ret
  | .exit id => .exit id

/-- The end that the state answers. -/
def Ends (C : Ctx) (K : AX → St → Prop) (Q : Exit → Act → World → Prop) : Prop := ∀ ex st β a w, K ex st → Sim C β st a w → Q ex.to a w

theorem tr_ok {P : Program} (hm : P.follows .mixedOrders = true) {S : Tbl} (hS : TblOk P S) {C : Ctx} : ∀ (c : Code) (O : Orc2) (pos : Nat) (K : AX → St → Prop) (Q : Exit → Act → World → Prop) (st : St) (β : Bel) (a : Act) (w : World),
    Ends C K Q → Sim C β st a w → tr P S C.nio c O pos st K → c.wp P Q a w := by
  intro c
  induction c with
  | skip => intro O pos K Q st β a w hQ hs h; simp only [tr] at h; exact wp_skip (hQ .normal st β a w h hs)
  | ret => intro O pos K Q st β a w hQ hs h; simp only [tr] at h; exact wp_ret (hQ .ret st β a w h hs)
  | exit id => intro O pos K Q st β a w hQ hs h; simp only [tr] at h; exact wp_exit (hQ (.exit id) st β a w h hs)
  | region id ops draw =>
    intro O pos K Q st β a w hQ hs h
    simp only [tr] at h
    exact region_ok hS hm (fun st β a w hk hs => hQ .normal st β a w hk hs) hs h
  | seq x y ihx ihy =>
    intro O pos K Q st β a w hQ hs h
    simp only [tr] at h
    refine wp_seq (ihx O pos _ _ st β a w ?_ hs h)
    intro ex st' β' a' w' hk hs'
    cases ex with
    | normal => exact ihy O _ K Q st' β' a' w' hQ hs' hk
    | ret => exact hQ .ret st' β' a' w' hk hs'
    | exit id => exact hQ (.exit id) st' β' a' w' hk hs'
  | cond c x y ihx ihy =>
    intro O pos K Q st β a w hQ hs h
    simp only [tr] at h
    split at h
    · rename_i cc hc
      have hv := (hs.ev hc).val rfl
      split at h
      · exact wp_cond_true hv (ihx O pos K Q st β a w hQ hs h)
      · exact wp_cond_false hv (ihy O _ K Q st β a w hQ hs h)
    · exact h.elim
  | block id c ih =>
    intro O pos K Q st β a w hQ hs h
    simp only [tr] at h
    refine wp_block (ih O pos _ _ st β a w ?_ hs h)
    intro ex st' β' a' w' hk hs'
    cases ex with
    | normal => exact hQ .normal st' β' a' w' hk hs'
    | ret => exact hQ .ret st' β' a' w' hk hs'
    | exit i =>
      simp only [AX.to, Exit.inBlock]
      simp only at hk
      split at hk
      · rename_i hb
        rw [if_pos (Nat.eq_of_beq_eq_true hb)]
        exact hQ .normal st' β' a' w' hk hs'
      · rename_i hb
        rw [if_neg (by intro he; rw [he, Nat.beq_refl] at hb; cases hb)]
        exact hQ (.exit i) st' β' a' w' hk hs'
  | loop c ih =>
    intro O pos K Q st β a w hQ hs h
    simp only [tr] at h
    split at h
    · rename_i n _
      have key : ∀ (n : Nat) (st : St) (β : Bel) (a : Act) (w : World), Sim C β st a w → iter (fun st K => tr P S C.nio c O (pos + 1) st K) n st K → Code.rounds P c Q n a w := by
        intro n
        induction n with
        | zero => intro st β a w _ h; exact h.elim
        | succ n ihn =>
          intro st β a w hs h
          rw [rounds_succ]
          simp only [iter] at h
          refine ih O _ _ _ st β a w ?_ hs h
          intro ex st' β' a' w' hk hs'
          cases ex with
          | normal => exact ihn st' β' a' w' hs' hk
          | ret => exact hQ .ret st' β' a' w' hk hs'
          | exit i => exact hQ (.exit i) st' β' a' w' hk hs'
      exact wp_loop_rounds n (key n st β a w hs h)
    · rename_i ι i0 pre μ gh ts keep os keepO el lp _
      split at h
      · rename_i s1 ob hgh
        obtain ⟨h0, h1, h2, h3⟩ := h
        obtain ⟨β1, hs1⟩ := Sim.ghosts gh hs hgh h0
        refine wp_loop_ghost (fun n a w => ∃ i β, μ i = n ∧ pre i ∧ Sim C β (s1.head (ts i) keep (os i) keepO) a w) (μ i0) ⟨i0, β1, rfl, h1, hs1.less h2⟩ ?_
        rintro n a w ⟨i, β, rfl, hp, hs⟩
        refine ih _ _ _ _ _ β a w ?_ hs (h3 i hp)
        intro ex st' β' a' w' hk hs'
        cases ex with
        | normal =>
          obtain ⟨j, g1, g2, g3⟩ := hk
          exact ⟨μ j, g2, j, β', rfl, g1, hs'.less g3⟩
        | ret => exact hQ .ret st' β' a' w' hk hs'
        | exit id => exact hQ (.exit id) st' β' a' w' hk hs'
      · exact h.elim
  | rangeFunc => intro O pos K Q st β a w hQ hs h; simp only [tr] at h
  | scope => intro O pos K Q st β a w hQ hs h; simp only [tr] at h
  | label => intro O pos K Q st β a w hQ hs h; simp only [tr] at h
  | goto => intro O pos K Q st β a w hQ hs h; simp only [tr] at h
  | refuse => intro O pos K Q st β a w hQ hs h; simp only [tr] at h

end Go.AL
