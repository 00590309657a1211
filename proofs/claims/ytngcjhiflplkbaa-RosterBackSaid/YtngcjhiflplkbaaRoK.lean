/- A part of the proof of a law about rosters over an abstract machine. No condition. -/
import Derived.Test.YtngcjhiflplkbaaRoL
namespace Ro
open Go Go.AL Go.Proofs

theorem withL_eq {v : UInt64} (h1 : 1 ≤ v.toNat) (h2 : v.toNat < 1099511627776) {ms : List Int} (hs : ms.Pairwise (· ≤ ·)) (k : Int) :
    withL v ms k = if okL ms && !hasL ms k && okL (insI k ms) then (v + 1, insI k ms, true) else (0, [], false) := by
  have hv : (v + 1).toNat = v.toNat + 1 := by rw [UInt64.toNat_add]; simp; omega
  unfold withL soL
  rw [right_ok h1 (by omega), has_ok h1 (by omega), right_ok (by omega) (by omega), sortI_ins k ms hs]
  cases okL ms <;> cases hasL ms k <;> cases okL (insI k ms) <;> rfl
theorem withoutL_eq {v : UInt64} (h1 : 1 ≤ v.toNat) (h2 : v.toNat < 1099511627776) (ms : List Int) (k : Int) :
    withoutL v ms k = if hasL ms k && okL (delI ms k) then (v + 1, delI ms k, true) else (0, [], false) := by
  have hv : (v + 1).toNat = v.toNat + 1 := by rw [UInt64.toNat_add]; simp; omega
  unfold withoutL soL
  rw [has_ok h1 (by omega), right_ok (by omega) (by omega)]
  cases hasL ms k <;> cases okL (delI ms k) <;> rfl
theorem follows_eq {v w : UInt64} (h1 : 1 ≤ v.toNat) (h2 : v.toNat ≤ 1099511627776) (h3 : 1 ≤ w.toNat) (h4 : w.toNat ≤ 1099511627776) (xa xb : List Int) :
    followsB v xa w xb = (okL xa && okL xb && (w == v + 1) && (diffL xa xb 8 == 1)) := by
  unfold followsB
  rw [right_ok h1 h2, right_ok h3 h4, diff_ok h1 h2 h3 h4]

theorem spec50 : Spec Try.prog 50 [] [] (.b true) [] := by
  refine of50 (tbl_ok (by simp [ok46, ok51 ok116, ok112, ok35, ok52, ok49, ok53])) ?_
  have hw : withL 1 (unli [T.i 0, T.i 2, T.i 5]) 3 = (2, [0, 2, 3, 5], true) := by
    rw [show unli [T.i 0, T.i 2, T.i 5] = [0, 2, 5] from rfl, withL_eq (by decide) (by decide) (by decide)]
    decide +kernel
  have hu : unli [T.i 0, T.i 2, T.i 5] = [0, 2, 5] := rfl
  have hu2 : unli [T.i 0, T.i 2, T.i 3, T.i 5] = [0, 2, 3, 5] := rfl
  have hf : followsB 1 [0, 2, 5] 2 [0, 2, 3, 5] = true := by
    rw [follows_eq (by decide) (by decide) (by decide) (by decide)]
    decide +kernel
  have hh : hasB 1 [0, 2, 5] 5 = true := by
    rw [has_ok (by decide) (by decide)]
    decide +kernel
  rw [hw]
  simp only [true_and, and_true, hu, hu2, unli_li, hf, hh, cases2, li_len]
  exact ⟨rfl, rfl, rfl, ⟨rfl, by decide, by decide⟩, rfl, ⟨rfl, rfl⟩, rfl, rfl⟩

theorem ok50 : EntOk Try.prog e50 := by
  intro args ins pre res outs h hp
  simp only [e50] at h ⊢
  unfold s50 at h
  split at h
  · simp only [Option.some.injEq, Prod.mk.injEq] at h
    obtain ⟨rfl, rfl, rfl⟩ := h
    exact spec50
  · cases h

theorem ibits7 (k : Int) : ∃ j : Fin 8, ibits .and k 7 = (j.val : Int) := by
  have h1 : (BitVec.ofInt 64 k &&& BitVec.ofInt 64 7).toNat < 8 := by
    rw [BitVec.toNat_and]
    have : (BitVec.ofInt 64 7).toNat = 7 := by decide
    rw [this]
    have := @Nat.and_le_right (BitVec.ofInt 64 k).toNat 7
    omega
  refine ⟨⟨_, h1⟩, ?_⟩
  show IntKind.i64.wrap ((BitVec.ofInt 64 k &&& BitVec.ofInt 64 7).toNat : Int) = _
  exact wrap_i64 (by unfold InI; omega)

theorem back_bits (b : Int) (j : Fin 8) : backL (bitsL b 8) (j.val : Int) = true := by
  rw [bitsL_lst, lst_fB]
  exact back_all _ _ _ _ _ _ _ _ j

theorem spec8 (b k : Int) (v : UInt64) : Spec Try.prog 8 [.i b, .i k, .u64 v] [] (.b true) [] := by
  refine of8 b k v (tbl_ok (by simp [ok45, ok46, ok50, ok51 ok116, ok35, ok52, ok53])) ?_
  have hv : (1 + v % 100).toNat = 1 + v.toNat % 100 := by
    rw [UInt64.toNat_add, UInt64.toNat_mod]
    have : v.toNat % (100 : UInt64).toNat < 100 := Nat.mod_lt _ (by decide)
    simp at this ⊢
    omega
  have hv1 : 1 ≤ (1 + v % 100).toNat ∧ (1 + v % 100).toNat ≤ 100 := by rw [hv]; omega
  generalize 1 + v % 100 = u at hv1
  clear hv
  obtain ⟨j, hj⟩ := ibits7 k
  rw [hj]
  generalize hms : bitsL (ibits .and b 255) 8 = ms
  have hsort : ms.Pairwise (· ≤ ·) := by rw [← hms]; exact bitsL_sorted _ _
  have hback : backL ms (j.val : Int) = true := by rw [← hms]; exact back_bits _ j
  simp only [unli_li, li_len]
  rw [withL_eq hv1.1 (by omega) hsort]
  by_cases hc : (okL ms && !hasL ms j.val && okL (insI j.val ms)) = true
  · rw [if_pos hc]
    have hu1 : (u + 1).toNat = u.toNat + 1 := by rw [UInt64.toNat_add]; simp; omega
    have hu2 : (u + 1 + 1).toNat = u.toNat + 2 := by rw [UInt64.toNat_add, hu1]; simp; omega
    simp only [Bool.and_eq_true, Bool.not_eq_true'] at hc
    unfold backL at hback
    simp only [hc.1.1, hc.1.2, hc.2, Bool.not_false, Bool.and_self, Bool.not_true, Bool.false_or, Bool.and_eq_true, beq_iff_eq] at hback
    obtain ⟨⟨⟨g1, g2⟩, g3⟩, g4⟩ := hback
    have hwo : withoutL (u + 1) (insI j.val ms) j.val = (u + 1 + 1, ms, true) := by
      rw [withoutL_eq (by omega) (by omega), g1, g2, hc.1.1]; rfl
    have hlen : ms.length ≤ 8 := by
      have := hc.1.1
      unfold okL at this
      simp only [Bool.and_eq_true, Bool.not_eq_true', decide_eq_false_iff_not] at this
      omega
    have e1 : followsB u ms (u + 1) (insI j.val ms) = true := by
      rw [follows_eq (by omega) (by omega) (by omega) (by omega)]; simp [hc.1.1, hc.2, g3]
    have e2 : followsB (u + 1) (insI j.val ms) (u + 1 + 1) ms = true := by
      rw [follows_eq (by omega) (by omega) (by omega) (by omega)]; simp [hc.1.1, hc.2, g4]
    have hne : (u + 1 + 1 == u + 1) = false := by
      simp only [beq_eq_false_iff_ne, ne_eq]
      intro e
      have := congrArg UInt64.toNat e
      omega
    have e3 : followsB u ms (u + 1 + 1) ms = false := by
      rw [follows_eq (by omega) (by omega) (by omega) (by omega), hne]; simp
    have e4 : hasB (u + 1) (insI j.val ms) j.val = true := by rw [has_ok (by omega) (by omega)]; exact g2
    have e5 : hasB (u + 1 + 1) ms j.val = false := by rw [has_ok (by omega) (by omega)]; exact hc.1.2
    have e6 : (u + 1 + 1 == u + 2) = true := by
      simp only [beq_iff_eq]
      apply UInt64.toNat_inj.1
      rw [hu2, UInt64.toNat_add]; simp; omega
    simp only [hwo, e1, e2, e3, e4, e5, e6, Bool.not_true, Bool.not_false, beq_self_eq_true, cases2, true_and, and_true]
    exact ⟨by decide, by omega, by omega⟩
  · rw [if_neg hc]
    simp only [cases2, Bool.not_false, true_and, and_true]
    decide
end Ro
