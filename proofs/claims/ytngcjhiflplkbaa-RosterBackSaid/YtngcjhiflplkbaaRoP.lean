/- A part of the proof of a law about rosters over an abstract machine. No condition. -/
import Derived.Test.YtngcjhiflplkbaaRoX
namespace Ro
open Go Go.AL Go.Proofs

theorem li_get (ms : List Int) (i : Nat) (h : i < ms.length) : (li ms)[i]? = some (T.i (ms.getD i 0)) := by
  simp [li, h]
theorem li_len (ms : List Int) : (li ms).length = ms.length := by simp [li]

theorem okTo_succ (ms : List Int) (i : Nat) (h : okTo ms i = true) (hb : badAt ms i = false) : okTo ms (i + 1) = true := by
  unfold okTo at *
  rw [List.range_succ, List.all_append, h]
  simp [hb]
theorem okTo_bad (ms : List Int) (i : Nat) (hi : i < ms.length) (hb : badAt ms i = true) : okTo ms ms.length = false := by
  unfold okTo
  rw [List.all_eq_false]
  exact ⟨i, List.mem_range.2 hi, by simp [hb]⟩

theorem spec112 (v : UInt64) (ms : List Int) (hT : TblOk Try.prog (tbl [])) : Spec Try.prog 112 [ls v ms] [] (.b (rightB v ms)) [] := by
  refine of112 v ms hT ?_
  simp only [true_and, and_true, li_len, Int.toNat_natCast]
  refine cases2_dec (fun h1 => by simp [rightB, h1]) fun h1 => ?_
  refine cases2_dec (fun h2 => by simp [rightB, h2]) fun h2 => ?_
  refine cases2_dec (fun h3 => ?_) fun h3 => ?_
  · have : ms.length < 1 := by omega
    simp [rightB, this]
  refine cases2_dec (fun h4 => ?_) fun h4 => ?_
  · have : 8 < ms.length := by omega
    simp [rightB, this]
  have hr : rightB v ms = okTo ms ms.length := by
    have h5 : ¬ ms.length < 1 := by omega
    have h6 : ¬ 8 < ms.length := by omega
    simp only [rightB, h1, h2, h5, h6, decide_false, Bool.not_false, Bool.true_and]
  rw [hr]
  refine ⟨⟨by omega, rfl⟩, fun i hi => ?_⟩
  obtain ⟨hi1, hi2⟩ := hi
  refine cases2_dec (fun h5 => ?_) fun h5 => ?_
  · have hlt : i < ms.length := by omega
    have next : ∀ (_ : badAt ms i = false), ∃ j, (j ≤ ms.length ∧ okTo ms j = true) ∧ ms.length - j < ms.length - i ∧ (i : Int) + 1 = (j : Int) := fun hb =>
      ⟨i + 1, ⟨by omega, okTo_succ ms i hi2 hb⟩, by omega, by omega⟩
    refine ⟨⟨by omega, li_get ms i hlt⟩, ?_⟩
    refine cases2_dec (fun h6 => (okTo_bad ms i hlt (by simp only [badAt, h6, decide_true, Bool.true_or])).symm) fun h6 => ?_
    refine cases2_dec (fun h7 => (okTo_bad ms i hlt (by simp only [badAt, h7, decide_true, Bool.true_or, Bool.or_true])).symm) fun h7 => ?_
    refine cases2_dec (fun h8 => ?_) fun h8 => ?_
    · refine ⟨by omega, ⟨by omega, ?_⟩, ?_⟩
      · rw [show Int.toNat ((i : Int) - 1) = i - 1 by omega]
        exact li_get ms (i - 1) (by omega)
      · have hp : 0 < i := by omega
        refine cases2_dec (fun h9 => (okTo_bad ms i hlt (by simp only [badAt, hp, h9, decide_true, Bool.and_self, Bool.or_true])).symm) fun h9 => ?_
        refine ⟨by omega, next ?_⟩
        simp only [badAt, h6, h7, h9, decide_false, Bool.and_false, Bool.or_false]
    · refine ⟨by omega, next ?_⟩
      have hp : ¬ 0 < i := by omega
      simp only [badAt, h6, h7, hp, decide_false, Bool.false_and, Bool.or_false]
  · have : i = ms.length := by omega
    subst this
    exact hi2.symm
end Ro
