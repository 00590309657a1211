/- A part of the proof of a law about rosters over an abstract machine. No condition. -/
import Derived.Test.YtngcjhiflplkbaaRoP3
namespace Ro
open Go Go.AL Go.Proofs

theorem unli_len (xs : List T) : (unli xs).length = xs.length := by simp [unli]
theorem li_rep (n : Nat) : List.replicate n (T.i 0) = li (List.replicate n 0) := by simp [li]
theorem li_take (ms : List Int) (n : Nat) : (li ms).take n = li (ms.take n) := by simp [li]
theorem li_drop (ms : List Int) (n : Nat) : (li ms).drop n = li (ms.drop n) := by simp [li]
theorem li_append (a b : List Int) : li a ++ li b = li (a ++ b) := by simp [li]
theorem li_set (a : List Int) (i : Nat) (x : Int) : (li a).set i (T.i x) = li (a.set i x) := by simp [li, List.map_set]
theorem delI_le (ms : List Int) (k : Int) : (delI ms k).length ≤ ms.length := List.length_filter_le _ _

theorem ok51 (ok116 : EntOk Try.prog e116) : EntOk Try.prog e51 := by
  intro args ins pre res outs h hp
  simp only [e51] at h ⊢
  unfold s51 at h
  split at h
  · rename_i v m k
    split at h
    · rename_i xs hm
      simp only [Option.some.injEq, Prod.mk.injEq] at h
      obtain ⟨rfl, rfl, rfl⟩ := h
      have := of51 v (unli xs) k (tbl_ok (by simp [ok53, ok113, ok116, ok115])) (by
        generalize unli xs = ms
        have hdl := delI_le ms k
        have ht : (li (delI ms k ++ List.replicate (ms.length - (delI ms k).length) 0)).take (delI ms k).length = li (delI ms k) := by
          rw [li_take, List.take_left']; rfl
        simp only [true_and, and_true, unli_li, li_len, ht, List.length_append, List.length_replicate]
        refine cases2_of (fun h => ?_) fun h => ?_
        · have h : hasB v ms k = false := by simpa using h
          simp [withoutL, h, li]
        · have h : hasB v ms k = true := by simpa using h
          have hh := h
          simp only [hasB, Bool.and_eq_true, decide_eq_true_eq] at hh
          have hl := right_len hh.1
          refine ⟨by omega, ⟨⟨hh.2, by omega⟩, by omega, by omega⟩, ?_⟩
          simp only [withoutL, h, soL, if_true]
          by_cases hr : rightB (v + 1) (delI ms k) = true
          · simp [hr]
          · simp at hr; simp [hr])
      have e : ls v (unli xs) = .agg [.u64 v, .sl .lf xs] := by rw [ls, ← hp]
      rw [e] at this
      exact this.args (by simp [vles, vle, teq, asL_vle hm])
    · cases h
  · cases h

theorem delI_take_succ (ms : List Int) (k : Int) (j : Nat) (h : j < ms.length) : delI (ms.take (j + 1)) k = delI (ms.take j) k ++ (if ms.getD j 0 = k then [] else [ms.getD j 0]) := by
  have e : ms[j]? = some (ms.getD j 0) := by simp [h]
  rw [List.take_add_one, e, delI, delI, List.filter_append]
  congr 1
  by_cases hk : ms.getD j 0 = k
  · rw [if_pos hk]; simp only [Option.toList, List.filter_cons, List.filter_nil]; simp only [hk]; simp
  · rw [if_neg hk]
    have : (ms.getD j 0 == k) = false := by simpa using hk
    simp only [Option.toList, List.filter_cons, List.filter_nil, this, Bool.not_false, if_true]

theorem findI_spec (ms : List Int) (k : Int) (h : 0 ≤ findI ms k 0) : (findI ms k 0).toNat < ms.length ∧ ms.getD (findI ms k 0).toNat 0 = k ∧ delI (ms.take (findI ms k 0).toNat) k = ms.take (findI ms k 0).toNat := by
  have main : ∀ (ms : List Int) (b : Nat), (b : Int) ≤ findI ms k b → ∃ i : Nat, findI ms k b = b + i ∧ i < ms.length ∧ ms.getD i 0 = k ∧ delI (ms.take i) k = ms.take i := by
    intro ms
    induction ms with
    | nil => intro b h; simp [findI] at h; omega
    | cons m ms ih =>
      intro b h
      unfold findI at h ⊢
      split
      · rename_i hm
        exact ⟨0, by simp, by simp, by simp [hm], by simp [delI]⟩
      · rename_i hm
        rw [if_neg hm] at h
        rcases findI_ge ms k (b + 1) with hq | hq
        · omega
        · obtain ⟨i, h1, h2, h3, h4⟩ := ih (b + 1) hq
          refine ⟨i + 1, by rw [h1]; omega, by simp; omega, by simpa using h3, ?_⟩
          simp only [List.take_succ_cons, delI, List.filter_cons] at h4 ⊢
          rw [h4]
          have : (m == k) = false := by simp; exact fun e => hm e.symm
          simp [this]
  obtain ⟨i, h1, h2, h3, h4⟩ := main ms 0 (by simpa using h)
  have : (findI ms k 0).toNat = i := by rw [h1]; omega
  rw [this]
  exact ⟨h2, h3, h4⟩

theorem spec116 (ms : List Int) (k : Int) (h0 : 0 ≤ findI ms k 0) (hl : ms.length ≤ 1000000) (hT : TblOk Try.prog (tbl [e117, e167])) :
    Spec Try.prog 116 [.row 0 [] 0 none, .clo 117 [.pt (.i k)]] [.rs .lf (li ms)] (.row 0 [] 0 (some (delI ms k).length)) [.rs .lf (li (delI ms k ++ List.replicate (ms.length - (delI ms k).length) 0))] := by
  obtain ⟨f1, f2, f3⟩ := findI_spec ms k h0
  have f4 : findI ms k 0 = ((findI ms k 0).toNat : Int) := by omega
  generalize hi0 : (findI ms k 0).toNat = i0 at f1 f2 f3 f4
  refine of116 ms k hT ?_
  simp only [true_and, and_true, unli_li, li_len, Int.toNat_natCast, li_take, li_drop, li_set, li_rep, li_append, hi0, Nat.sub_zero]
  rw [f4]
  refine ⟨by omega, cases2_of (fun h => ?_) fun h => ?_⟩
  · simp at h
  clear h
  refine ⟨⟨by omega, by omega⟩, ⟨by omega, by omega, ?_, ?_⟩, by omega, fun s hs => ?_⟩
  · have := delI_take_succ ms k i0 f1
    rw [if_pos f2, f3, List.append_nil] at this
    rw [this, List.length_take]; omega
  · have := delI_take_succ ms k i0 f1
    rw [if_pos f2, f3, List.append_nil] at this
    exact this.symm
  · obtain ⟨i, j, c⟩ := s
    simp only at hs ⊢
    obtain ⟨g1, g2, g3, g4, g5, g6⟩ := hs
    refine cases2_dec (fun h => ?_) fun h => ?_
    · have hj : j < ms.length := by omega
      have hcj : c.getD j 0 = ms.getD j 0 := by
        have e1 : (c.drop j)[0]? = (ms.drop j)[0]? := by rw [g6]
        simp only [List.getElem?_drop, Nat.add_zero] at e1
        simp [List.getD_eq_getElem?_getD, e1]
      have hds := delI_take_succ ms k j hj
      have hdrop : ∀ c' : List Int, c'.drop (j + 1) = c.drop (j + 1) → c'.drop (j + 1) = ms.drop (j + 1) := by
        intro c' hc
        rw [hc]
        have : (c.drop j).drop 1 = (ms.drop j).drop 1 := by rw [g6]
        simpa [List.drop_drop, Nat.add_comm] using this
      refine ⟨⟨by omega, by omega⟩, by rw [← hcj]; exact li_get c j (by omega), cases2_of (fun h1 => ?_) fun h1 => ?_⟩
      · have h1 : ¬ ms.getD j 0 = k := by simpa using h1
        rw [if_neg h1] at hds
        refine ⟨⟨by omega, by omega⟩, li_get c i (by omega), ⟨by omega, by omega⟩, ⟨by omega, by omega⟩, (i + 1, j + 1, c.set i (ms.getD j 0)), ⟨by simp only; omega, by simp only; omega, by simp; omega, ?_, ?_, ?_⟩, by simp only; omega, ⟨by simp only; omega, by simp only; omega⟩, rfl⟩
        · rw [hds]; simp; omega
        · rw [hds, ← g5]
          have hic : i < c.length := by omega
          rw [List.take_add_one]
          congr 1
          · rw [List.take_set_of_le (Nat.le_refl i)]
          · simp [hic]
        · exact hdrop _ (by rw [List.drop_set_of_lt (by omega)])
      · have h1 : ms.getD j 0 = k := by simpa using h1
        rw [if_pos h1, List.append_nil] at hds
        refine ⟨⟨by omega, by omega⟩, (i, j + 1, c), ⟨by simp only; omega, by simp only; omega, g3, by rw [hds]; exact g4, by rw [hds]; exact g5, hdrop c rfl⟩, by simp only; omega, ⟨rfl, by simp only; omega⟩, rfl⟩
    · have hj : j = ms.length := by omega
      subst hj
      rw [List.take_length] at g4 g5
      refine ⟨⟨by omega, by omega⟩, ⟨by omega, ?_⟩, ?_, ?_⟩
      · simp; omega
      · rw [g5, g3, g4]
        congr 1
        have : i + (c.length - i) = c.length := by omega
        simp
        omega
      · rw [g4]

theorem ok116 : EntOk Try.prog e116 := by
  intro args ins pre res outs h hp
  simp only [e116] at h ⊢
  unfold s116 at h
  split at h
  · rename_i k xs
    simp only [Option.some.injEq, Prod.mk.injEq] at h
    obtain ⟨rfl, rfl, rfl⟩ := h
    obtain ⟨h1, h2, h3⟩ := hp
    have := spec116 (unli xs) k h2 (by rw [unli_len]; exact h3) (tbl_ok (by simp [ok117, ok167]))
    rw [← h1] at this
    exact this
  · cases h
end Ro
