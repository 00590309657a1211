/- A part of the proof of a law about rosters over an abstract machine. No condition. -/
import Derived.Test.YtngcjhiflplkbaaRoX2
namespace Ro
open Go Go.AL Go.Proofs

theorem findI_ge (ms : List Int) (k : Int) : ∀ i : Nat, findI ms k i = -1 ∨ (i : Int) ≤ findI ms k i := by
  induction ms with
  | nil => intro i; left; rfl
  | cons m ms ih =>
    intro i
    unfold findI
    split
    · right; omega
    · rcases ih (i + 1) with h | h
      · exact .inl h
      · right; omega

theorem findI_at : ∀ (ms : List Int) (k : Int) (b i : Nat), i < ms.length → (∀ j, j < i → ms.getD j 0 ≠ k) → ms.getD i 0 = k → findI ms k b = b + i
  | [], _, _, i, h, _, _ => by simp at h
  | m :: ms, k, b, 0, _, _, h => by
    simp at h
    simp [findI, h]
  | m :: ms, k, b, i + 1, hi, hn, h => by
    have h0 := hn 0 (by omega)
    simp at h0
    unfold findI
    rw [if_neg (fun e => h0 e.symm), findI_at ms k (b + 1) i (by simpa using hi) (fun j hj => by have := hn (j + 1) (by omega); simpa using this) (by simpa using h)]
    omega

theorem findI_no : ∀ (ms : List Int) (k : Int) (b : Nat), (∀ j, j < ms.length → ms.getD j 0 ≠ k) → findI ms k b = -1
  | [], _, _, _ => rfl
  | m :: ms, k, b, hn => by
    have h0 := hn 0 (by simp)
    simp at h0
    unfold findI
    rw [if_neg (fun e => h0 e.symm)]
    exact findI_no ms k (b + 1) (fun j hj => by have := hn (j + 1) (by simp; omega); simpa using this)

theorem spec168 (ms : List Int) (k : Int) (hl : ms.length ≤ 9223372036854775807) (hT : TblOk Try.prog (tbl [])) : Spec Try.prog 168 [.sl .lf (li ms), .i k] [] (.i (findI ms k 0)) [] := by
  refine of168 ms k hT ?_
  simp only [true_and, and_true, li_len, Int.toNat_natCast]
  refine ⟨⟨Nat.zero_le _, fun j hj => by omega⟩, fun i hi => ?_⟩
  obtain ⟨hi1, hi2⟩ := hi
  refine cases2_dec (fun h => ?_) fun h => ?_
  · have hlt : i < ms.length := by omega
    refine ⟨⟨by omega, li_get ms i hlt⟩, cases2_of (fun h1 => ?_) fun h1 => ?_⟩
    · have h1 : k = ms.getD i 0 := by simpa using h1
      rw [findI_at ms k 0 i hlt hi2 h1.symm]; simp
    · have h1 : k ≠ ms.getD i 0 := by simpa using h1
      refine ⟨by omega, i + 1, ⟨by omega, fun j hj => ?_⟩, by omega, by omega⟩
      by_cases hji : j = i
      · subst hji; exact fun e => h1 e.symm
      · exact hi2 j (by omega)
  · have : i = ms.length := by omega
    subst this
    exact (findI_no ms k 0 (fun j hj => hi2 j hj)).symm

theorem ok168 : EntOk Try.prog e168 := by
  intro args ins pre res outs h hp
  simp only [e168] at h ⊢
  unfold s168 at h
  split at h
  · rename_i m k
    split at h
    · rename_i xs hm
      simp only [Option.some.injEq, Prod.mk.injEq] at h
      obtain ⟨rfl, rfl, rfl⟩ := h
      have := spec168 (unli xs) k (by rw [unli, List.length_map]; exact hp.2) (tbl_ok (by simp))
      rw [← hp.1] at this
      exact this.args (by simp [vles, vle, teq, asL_vle hm])
    · cases h
  · cases h

theorem ok118 : EntOk Try.prog e118 := by
  intro args ins pre res outs h hp
  simp only [e118] at h ⊢
  unfold s118 at h
  split at h
  · rename_i m k
    split at h
    · rename_i xs hm
      simp only [Option.some.injEq, Prod.mk.injEq] at h
      obtain ⟨rfl, rfl, rfl⟩ := h
      have := of118 (unli xs) k (tbl_ok (by simp [ok168])) (by
        have : (li (unli xs)).length ≤ 9223372036854775807 := by rw [← hp.1]; exact hp.2
        simp only [unli_li, and_true, this, ge_iff_le])
      rw [← hp.1] at this
      exact this.args (by simp [vles, vle, teq, asL_vle hm])
    · cases h
  · cases h

theorem ok113 : EntOk Try.prog e113 := by
  intro args ins pre res outs h hp
  simp only [e113] at h ⊢
  unfold s113 at h
  split at h
  · rename_i m
    split at h
    · rename_i xs hm
      simp only [Option.some.injEq, Prod.mk.injEq] at h
      obtain ⟨rfl, rfl, rfl⟩ := h
      refine (of113 xs (tbl_ok (by simp)) ?_).args (by simp [vles, asL_vle hm])
      simp only [true_and, and_true, Nat.zero_add, List.nil_append]
      exact ⟨fun h => h, hp, by omega⟩
    · cases h
  · cases h

theorem ok53 : EntOk Try.prog e53 := by
  intro args ins pre res outs h hp
  simp only [e53] at h ⊢
  unfold s53 at h
  split at h
  · rename_i v m k
    split at h
    · rename_i xs hm
      simp only [Option.some.injEq, Prod.mk.injEq] at h
      obtain ⟨rfl, rfl, rfl⟩ := h
      have := of53 v (unli xs) k (tbl_ok (by simp [ok112, ok118])) (by
        simp only [unli_li, true_and, and_true]
        refine cases2_of (fun h => ?_) fun h => ?_
        · have hlen : (li (unli xs)).length ≤ 9223372036854775807 := by
            rw [li_len]
            unfold rightB at h
            simp only [Bool.and_eq_true, Bool.not_eq_true', decide_eq_false_iff_not] at h
            omega
          exact ⟨hlen, by simp [hasB, h]⟩
        · simp [hasB, h])
      rw [ls, ← hp] at this
      exact this.args (by simp [vles, vle, teq, asL_vle hm])
    · cases h
  · cases h

theorem right_len {v : UInt64} {ms : List Int} (h : rightB v ms = true) : 1 ≤ ms.length ∧ ms.length ≤ 8 := by
  unfold rightB at h
  simp only [Bool.and_eq_true, Bool.not_eq_true', decide_eq_false_iff_not] at h
  omega

theorem ok49 : EntOk Try.prog e49 := by
  intro args ins pre res outs h hp
  simp only [e49] at h ⊢
  unfold s49 at h
  split at h
  · rename_i v m
    split at h
    · rename_i xs hm
      simp only [Option.some.injEq, Prod.mk.injEq] at h
      obtain ⟨rfl, rfl, rfl⟩ := h
      have := of49 v (unli xs) (tbl_ok (by simp [ok112])) (by
        simp only [unli_li, true_and, and_true, li_len]
        refine cases2_of (fun h => ?_) fun h => ?_
        · have h : rightB v (unli xs) = false := by simpa using h
          simp [h]
        · have h : rightB v (unli xs) = true := by simpa using h
          have := right_len h
          rw [if_pos h, Int.tdiv_eq_ediv_of_nonneg (by omega)]
          refine ⟨⟨by omega, by omega, by omega⟩, ⟨by omega, by omega⟩, by omega⟩)
      rw [ls, ← hp] at this
      exact this.args (by simp [vles, vle, teq, asL_vle hm])
    · cases h
  · cases h

theorem ok115 : EntOk Try.prog e115 := by
  intro args ins pre res outs h hp
  simp only [e115] at h ⊢
  unfold s115 at h
  split at h
  · rename_i v m
    split at h
    · rename_i xs hm
      simp only [Option.some.injEq, Prod.mk.injEq] at h
      obtain ⟨rfl, rfl, rfl⟩ := h
      have := of115 v (unli xs) (tbl_ok (by simp [ok112])) (by
        simp only [unli_li, true_and, and_true]
        refine cases2_of (fun h => ?_) fun h => ?_
        · have h : rightB v (unli xs) = false := by simpa using h
          simp [h, li]
        · have h : rightB v (unli xs) = true := by simpa using h
          simp [h])
      have e : ls v (unli xs) = .agg [.u64 v, .sl .lf xs] := by rw [ls, ← hp]
      rw [e] at this
      exact this.args (by simp [vles, vle, teq, asL_vle hm])
    · cases h
  · cases h

theorem ok35 : EntOk Try.prog e35 := by
  intro args ins pre res outs h hp
  simp only [e35] at h ⊢
  unfold s35 at h
  split at h
  · rename_i m n
    split at h
    · rename_i xs ys hm hn
      simp only [Option.some.injEq, Prod.mk.injEq] at h
      obtain ⟨rfl, rfl, rfl⟩ := h
      obtain ⟨hp1, hp2, hp3, hp4⟩ := hp
      have hla : (unli xs).length ≤ 9223372036854775807 := by simpa [unli] using hp3
      have := of35 (unli xs) (unli ys) (tbl_ok (by simp)) (by
        generalize unli xs = xa at hla
        generalize unli ys = xb
        simp only [true_and, and_true, li_len, Int.toNat_natCast]
        refine cases2_of (fun h => ?_) fun h => ?_
        · have h : ¬ xa.length = xb.length := by simp at h; omega
          symm
          rw [Bool.eq_false_iff]
          intro hb
          exact h (by rw [eq_of_beq hb])
        · have hlen : xa.length = xb.length := by simp at h; omega
          refine ⟨⟨Nat.zero_le _, rfl⟩, fun i hi => ?_⟩
          obtain ⟨h1, h2⟩ := hi
          refine cases2_dec (fun h3 => ?_) fun h3 => ?_
          · have hlt : i < xa.length := by omega
            refine ⟨⟨by omega, li_get xa i hlt⟩, ⟨by omega, li_get xb i (by omega)⟩, cases2_of (fun h4 => ?_) fun h4 => ?_⟩
            · symm
              rw [Bool.eq_false_iff]
              intro hb
              rw [eq_of_beq hb] at h4
              simp at h4
            · have h4 : xa.getD i 0 = xb.getD i 0 := by simpa using h4
              refine ⟨by omega, i + 1, ⟨by omega, ?_⟩, by omega, by omega⟩
              rw [List.take_add_one, List.take_add_one, h2]
              congr 1
              have e1 : xa[i]? = some (xa.getD i 0) := by simp [hlt]
              have e2 : xb[i]? = some (xb.getD i 0) := by simp [show i < xb.length by omega]
              rw [e1, e2, h4]
          · have hi : i = xa.length := by omega
            subst hi
            rw [List.take_length, hlen, List.take_length] at h2
            subst h2
            simp)
      rw [← hp1, ← hp2] at this
      exact this.args (by simp [vles, asL_vle hm, asL_vle hn])
    · cases h
  · cases h

theorem diffN_le (v : UInt64) (xa : List Int) (w : UInt64) (xb : List Int) : ∀ n, diffN v xa w xb n ≤ n
  | 0 => Nat.le_refl _
  | n + 1 => by
    have := diffN_le v xa w xb n
    unfold diffN
    split <;> omega

theorem ok52 : EntOk Try.prog e52 := by
  intro args ins pre res outs h hp
  simp only [e52] at h ⊢
  unfold s52 at h
  split at h
  · rename_i v m w n
    split at h
    · rename_i xs ys hm hn
      simp only [Option.some.injEq, Prod.mk.injEq] at h
      obtain ⟨rfl, rfl, rfl⟩ := h
      obtain ⟨hp1, hp2⟩ := hp
      have := of52 v (unli xs) w (unli ys) (tbl_ok (by simp [ok112, ok53])) (by
        generalize unli xs = xa
        generalize unli ys = xb
        simp only [unli_li, true_and, and_true]
        refine cases2_of (fun h => ?_) fun h => ?_
        · simp at h; simp [followsB, h]
        have h : rightB v xa = true := by simpa using h
        refine cases2_of (fun h' => ?_) fun h' => ?_
        · simp at h'; simp [followsB, h']
        have h' : rightB w xb = true := by simpa using h'
        refine cases2_of (fun h3 => ?_) fun h3 => ?_
        · have h3 : ¬ w = v + 1 := by simpa using h3
          simp [followsB, h3]
        have h3 : w = v + 1 := by simpa using h3
        refine ⟨by omega, by simp [diffN], fun i hi => ?_⟩
        have hd := diffN_le v xa w xb i
        refine cases2_dec (fun h4 => ?_) fun h4 => ?_
        · refine cases2_of (fun h5 => ?_) fun h5 => ?_
          · refine ⟨by omega, by omega, i + 1, by omega, by omega, ?_, by omega⟩
            simp [diffN, h5]
          · refine ⟨by omega, i + 1, by omega, by omega, ?_, by omega⟩
            simp [diffN, h5]
        · have : i = 8 := by omega
          subst this
          subst h3
          simp only [followsB, h, h', beq_self_eq_true, Bool.true_and]
          rw [Bool.eq_iff_iff]
          simp only [beq_iff_eq]
          omega)
      rw [ls, ls, ← hp1, ← hp2] at this
      exact this.args (by simp [vles, vle, teq, asL_vle hm, asL_vle hn])
    · cases h
  · cases h
end Ro
