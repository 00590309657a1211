/- A state that knows less. No condition. -/
import Derived.Test.YtngcjhiflplkbaaALTrOk
namespace Go.AL
open Go

mutual
/-- Does it speak of none but these objects? -/
def T.only (g : Nat → Bool) : T → Bool
  | .agg fs => T.onlys g fs
  | .ifc _ x => T.only g x
  | .clo _ caps => T.onlys g caps
  | .tup xs => T.onlys g xs
  | .ref j _ => g j
  | .row j _ _ _ => g j
  | _ => true
def T.onlys (g : Nat → Bool) : List T → Bool
  | [] => true
  | x :: xs => T.only g x && T.onlys g xs
end

/-- Two meanings that agree at these objects. -/
def On (g : Nat → Bool) (X X' : Ext) : Prop := (∀ j p a, g j = true → X.rf j p a → X'.rf j p a) ∧ ∀ j p o r v, g j = true → X.rw j p o r v → X'.rw j p o r v

section
variable {w : World} {N N' : Nat → Prop} {X X' : Ext} {g : Nat → Bool}

mutual
theorem RC.on (hN : ∀ b, ¬ N b → ¬ N' b) (hX : On g X X') : ∀ (x : T) (cs : List Value), x.only g = true → RC w N X x cs → RC w N' X' x cs
  | .agg fs, cs, hg, k => by
    simp only [T.only] at hg
    simp only [RC] at k ⊢
    exact RL.on hN hX fs cs hg k
  | .ifc t x, cs, hg, k => by
    simp only [T.only] at hg
    simp only [RC] at k ⊢
    obtain ⟨y, h1, h2⟩ := k
    refine ⟨y, h1, ?_⟩
    rcases h2 with ⟨h2, ds, h3, h4⟩ | ⟨h2, h4⟩
    · exact .inl ⟨h2, ds, h3, RC.on hN hX x ds hg h4⟩
    · exact .inr ⟨h2, RC.on hN hX x _ hg h4⟩
  | .clo f caps, cs, hg, k => by
    simp only [T.only] at hg
    simp only [RC] at k ⊢
    obtain ⟨vs, h1, h2, h3⟩ := k
    exact ⟨vs, h1, RL.on hN hX caps vs hg h2, h3⟩
  | .ref j p, cs, hg, k => by
    simp only [T.only] at hg
    simp only [RC] at k ⊢
    obtain ⟨a, h1, h2⟩ := k
    exact ⟨a, h1, hX.1 j p a hg h2⟩
  | .row j p o r, cs, hg, k => by
    simp only [T.only] at hg
    simp only [RC] at k ⊢
    obtain ⟨v, h1, h2, h3⟩ := k
    exact ⟨v, h1, h2, hX.2 j p o r v hg h3⟩
  | .i _, cs, _, k | .b _, cs, _, k | .u8 _, cs, _, k | .u32 _, cs, _, k | .u64 _, cs, _, k | .s _, cs, _, k | .v _, cs, _, k | .ba _ _, cs, _, k | .arr _ _ _, cs, _, k | .sb _, cs, _, k
  | .sl _ _, cs, _, k | .pt _, cs, _, k | .junk, cs, _, k => RC.data _ _ rfl (RC.mono (fun b hb _ => ⟨hN b hb, rfl⟩) (Ext.Le.refl _) _ _ k)
  | .tup _, cs, _, k | .ow _, cs, _, k | .os _ _, cs, _, k => by simp [RC] at k
theorem RL.on (hN : ∀ b, ¬ N b → ¬ N' b) (hX : On g X X') : ∀ (xs : List T) (cs : List Value), T.onlys g xs = true → RL w N X xs cs → RL w N' X' xs cs
  | [], cs, _, k => by simpa only [RL] using k
  | x :: xs, cs, hg, k => by
    simp only [T.onlys, Bool.and_eq_true] at hg
    simp only [RL] at k ⊢
    obtain ⟨c1, c2, h1, h2, h3, h4⟩ := k
    exact ⟨c1, c2, h1, h2, RC.on hN hX x c1 hg.1 h3, RL.on hN hX xs c2 hg.2 h4⟩
end

theorem RV.on (hN : ∀ b, ¬ N b → ¬ N' b) (hX : On g X X') {x : T} {v : Value} (hg : x.only g = true) (k : RV w N X x v) : RV w N' X' x v := by
  rcases k with ⟨h1, ds, h2, h3⟩ | ⟨h1, h2⟩
  · exact .inl ⟨h1, ds, h2, RC.on hN hX x ds hg h3⟩
  · exact .inr ⟨h1, RC.on hN hX x _ hg h2⟩

theorem onlys_get : ∀ (xs : List T) (k : Nat) (x : T), T.onlys g xs = true → xs[k]? = some x → x.only g = true
  | [], k, x, _, h => by simp at h
  | y :: xs, 0, x, hg, h => by
    simp at h; subst h
    simp only [T.onlys, Bool.and_eq_true] at hg; exact hg.1
  | y :: xs, k + 1, x, hg, h => by
    simp at h
    simp only [T.onlys, Bool.and_eq_true] at hg; exact onlys_get xs k x hg.2 h

theorem RT.on (hN : ∀ b, ¬ N b → ¬ N' b) (hX : On g X X') {x : T} {v : Value} (hg : x.only g = true) (k : RT w N X x v) : RT w N' X' x v := by
  cases x
  case junk => trivial
  case tup xs =>
    obtain ⟨vs, h1, h2, h3⟩ := k
    simp only [T.only] at hg
    refine ⟨vs, h1, h2, fun j x hx => ?_⟩
    obtain ⟨y, hy, hr⟩ := h3 j x hx
    exact ⟨y, hy, hr.on hN hX (onlys_get xs j x hg hx)⟩
  all_goals exact RV.on hN hX hg k
end

def Cont.only (g : Nat → Bool) : Cont → Bool
  | .var x => x.only g
  | _ => true

theorem CC.on {w : World} {N N' : Nat → Prop} {X X' : Ext} {g : Nat → Bool} (hN : ∀ b, ¬ N b → ¬ N' b) (hX : On g X X') (c : Cont) (cs : List Value) (hg : c.only g = true) (k : CC w N X c cs) : CC w N' X' c cs := by
  cases c with
  | var x => exact RC.on hN hX x cs hg k
  | rb l => exact k
  | rs e xs =>
    obtain ⟨c, r, h1, h2⟩ := k
    exact ⟨c, r, h1, RU.mono (fun b hb _ => ⟨hN b hb, rfl⟩) xs c h2⟩

/-! ## Alike -/

mutual
def teq : T → T → Prop
  | .i a, .i b => a = b
  | .b a, .b b => a = b
  | .u8 a, .u8 b => a = b
  | .u32 a, .u32 b => a = b
  | .u64 a, .u64 b => a = b
  | .s a, .s b => a = b
  | .sb a, .sb b => a = b
  | .ba n a, .ba m b => match Nat.beq n m with | true => a = b | false => False
  | .arr n e a, .arr m f b => match Nat.beq n m && Sk.beq e f with | true => a = b | false => False
  | .sl e a, .sl f b => match Sk.beq e f with | true => a = b | false => False
  | .agg xs, .agg ys => teqs xs ys
  | .tup xs, .tup ys => teqs xs ys
  | .ow a, .ow b => a = b
  | .os e a, .os f b => match Sk.beq e f with | true => a = b | false => False
  | .pt x, .pt y => teq x y
  | .row i [] 0 none, .row j [] 0 none => match Nat.beq i j with | true => True | false => False
  | .ref i [], .ref j [] => match Nat.beq i j with | true => True | false => False
  | .junk, .junk => True
  | x, y => x = y
def teqs : List T → List T → Prop
  | [], [] => True
  | x :: xs, y :: ys => teq x y ∧ teqs xs ys
  | _, _ => False
end

mutual
theorem teq_ok : ∀ (x y : T), teq x y → x = y := by
  intro x y h
  unfold teq at h
  split at h
  · rw [h]
  · rw [h]
  · rw [h]
  · rw [h]
  · rw [h]
  · rw [h]
  · rw [h]
  · split at h
    · rename_i hn; rw [h, Nat.eq_of_beq_eq_true hn]
    · exact h.elim
  · split at h
    · rename_i hn
      simp only [Bool.and_eq_true] at hn
      rw [h, Nat.eq_of_beq_eq_true hn.1, Sk.eq_of_beq _ _ hn.2]
    · exact h.elim
  · split at h
    · rename_i hn; rw [h, Sk.eq_of_beq _ _ hn]
    · exact h.elim
  · rw [teqs_ok _ _ h]
  · rw [teqs_ok _ _ h]
  · rw [h]
  · split at h
    · rename_i hn; rw [h, Sk.eq_of_beq _ _ hn]
    · exact h.elim
  · rw [teq_ok _ _ h]
  · split at h
    · rename_i hn; rw [Nat.eq_of_beq_eq_true hn]
    · exact h.elim
  · split at h
    · rename_i hn; rw [Nat.eq_of_beq_eq_true hn]
    · exact h.elim
  · rfl
  · exact h
theorem teqs_ok : ∀ (x y : List T), teqs x y → x = y := by
  intro x y h
  unfold teqs at h
  split at h
  · rfl
  · rw [teq_ok _ _ h.1, teqs_ok _ _ h.2]
  · exact h.elim
end

end Go.AL
