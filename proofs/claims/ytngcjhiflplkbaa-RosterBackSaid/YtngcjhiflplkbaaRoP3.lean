/- A part of the proof of a law about rosters over an abstract machine. No condition. -/
import Derived.Test.YtngcjhiflplkbaaRoX3
namespace Ro
open Go Go.AL Go.Proofs

theorem ok117 : EntOk Try.prog e117 := by
  intro args ins pre res outs h hp
  simp only [e117] at h ⊢
  unfold s117 at h
  split at h
  · rename_i n m
    simp only [Option.some.injEq, Prod.mk.injEq] at h
    obtain ⟨rfl, rfl, rfl⟩ := h
    exact of117 n m (tbl_ok (by simp)) (by simp)
  · cases h

theorem ok167 : EntOk Try.prog e167 := by
  intro args ins pre res outs h hp
  simp only [e167] at h ⊢
  unfold s167 at h
  split at h
  · rename_i m k
    split at h
    · rename_i xs hm
      simp only [Option.some.injEq, Prod.mk.injEq] at h
      obtain ⟨rfl, rfl, rfl⟩ := h
      have hl : (unli xs).length ≤ 9223372036854775807 := by rw [unli, List.length_map]; exact hp.2
      have := of167 (unli xs) k (tbl_ok (by simp [ok117])) (by
        generalize unli xs = ms at hl
        simp only [true_and, and_true, li_len, Int.toNat_natCast]
        refine ⟨⟨Nat.zero_le _, fun j hj => by omega⟩, fun i hi => ?_⟩
        obtain ⟨hi1, hi2⟩ := hi
        refine cases2_dec (fun h => ?_) fun h => ?_
        · have hlt : i < ms.length := by omega
          refine ⟨⟨by omega, li_get ms i hlt⟩, cases2_of (fun h1 => ?_) fun h1 => ?_⟩
          · have h1 : ms.getD i 0 = k := by simpa using h1
            rw [findI_at ms k 0 i hlt hi2 h1]; simp
          · have h1 : ms.getD i 0 ≠ k := by simpa using h1
            refine ⟨by omega, i + 1, ⟨by omega, fun j hj => ?_⟩, by omega, by omega⟩
            by_cases hji : j = i
            · subst hji; exact h1
            · exact hi2 j (by omega)
        · have : i = ms.length := by omega
          subst this
          exact (findI_no ms k 0 (fun j hj => hi2 j hj)).symm)
      rw [← hp.1] at this
      exact this.args (by simp [vles, vle, teq, asL_vle hm])
    · cases h
  · cases h

theorem bitsL_len (b : Int) : ∀ n, (bitsL b n).length ≤ n
  | 0 => Nat.le_refl _
  | n + 1 => by
    have := bitsL_len b n
    unfold bitsL
    split
    · simp; omega
    · omega

theorem ok45 : EntOk Try.prog e45 := by
  intro args ins pre res outs h hp
  simp only [e45] at h ⊢
  unfold s45 at h
  split at h
  · rename_i v b
    simp only [Option.some.injEq, Prod.mk.injEq] at h
    obtain ⟨rfl, rfl, rfl⟩ := h
    refine of45 v b (tbl_ok (by simp)) ?_
    simp only [true_and, and_true, li_len, List.length_singleton]
    refine ⟨by omega, by simp [bitsL, li], fun i hi => ?_⟩
    have hlen := bitsL_len b i
    refine cases2_dec (fun h => ?_) fun h => ?_
    · have hi8 : i < 8 := by omega
      refine ⟨?_, cases2_of (fun h1 => ?_) fun h1 => ?_⟩
      · have : (UInt64.ofInt (i : Int)).toNat = i := by
          have := ofInt_u64 (i : Int); omega
        omega
      · refine ⟨⟨by omega, by omega⟩, by omega, i + 1, by omega, by omega, by omega, ?_⟩
        have h2 : bitI b i = true := h1
        simp [bitsL, h2, li]
      · refine ⟨by omega, i + 1, by omega, by omega, by omega, ?_⟩
        have h2 : bitI b i = false := h1
        simp [bitsL, h2]
    · have : i = 8 := by omega
      subst this; rfl
  · cases h

theorem li_app (ms : List Int) (k : Int) : li ms ++ [T.i k] = li (ms ++ [k]) := by simp [li]
theorem sortI_len (ms : List Int) : (sortI ms).length = ms.length := List.length_mergeSort _

theorem ok46 : EntOk Try.prog e46 := by
  intro args ins pre res outs h hp
  simp only [e46] at h ⊢
  unfold s46 at h
  split at h
  · rename_i v m k
    split at h
    · rename_i xs hm
      simp only [Option.some.injEq, Prod.mk.injEq] at h
      obtain ⟨rfl, rfl, rfl⟩ := h
      have := of46 v (unli xs) k (tbl_ok (by simp [ok112, ok53, ok113, ok114, ok115])) (by
        generalize unli xs = ms
        simp only [true_and, and_true, li_app, unli_li, li_len, sortI_len, List.length_append, List.length_singleton]
        refine cases2_of (fun h => ?_) fun h => ?_
        · simp at h; simp [withL, h, li]
        have h : rightB v ms = true := by simpa using h
        have hl := right_len h
        refine cases2_of (fun h' => ?_) fun h' => ?_
        · simp [withL, h, h', li]
        refine ⟨by omega, ⟨by omega, by omega⟩, ⟨by omega, by omega⟩, ?_⟩
        simp only [withL, h, h', soL, Bool.not_false, Bool.and_self, if_true]
        by_cases hr : rightB (v + 1) (sortI (ms ++ [k])) = true
        · simp [hr]
        · simp at hr; simp [hr])
      have e : ls v (unli xs) = .agg [.u64 v, .sl .lf xs] := by rw [ls, ← hp]
      rw [e] at this
      exact this.args (by simp [vles, vle, teq, asL_vle hm])
    · cases h
  · cases h
end Ro
