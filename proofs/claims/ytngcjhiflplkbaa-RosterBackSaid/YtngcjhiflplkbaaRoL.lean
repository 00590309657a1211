/- A part of the proof of a law about rosters over an abstract machine. No condition. -/
import Derived.Test.YtngcjhiflplkbaaRoX4
namespace Ro
open Go Go.AL Go.Proofs

def insI (k : Int) : List Int → List Int
  | [] => [k]
  | m :: ms => if k ≤ m then k :: m :: ms else m :: insI k ms

theorem insI_perm (k : Int) : ∀ ms : List Int, (insI k ms).Perm (ms ++ [k])
  | [] => List.Perm.refl _
  | m :: ms => by
    unfold insI
    split
    · exact (List.perm_append_singleton k (m :: ms)).symm
    · exact List.Perm.cons m (insI_perm k ms)

theorem insI_mem {k x : Int} {ms : List Int} (h : x ∈ insI k ms) : x = k ∨ x ∈ ms := by
  have := (insI_perm k ms).mem_iff.1 h
  simp at this
  exact this.symm

theorem insI_sorted (k : Int) : ∀ ms : List Int, ms.Pairwise (· ≤ ·) → (insI k ms).Pairwise (· ≤ ·)
  | [], _ => by simp [insI]
  | m :: ms, h => by
    have h1 := List.pairwise_cons.1 h
    unfold insI
    split
    · rename_i hk
      refine List.pairwise_cons.2 ⟨fun x hx => ?_, h⟩
      rcases List.mem_cons.1 hx with rfl | hx
      · exact hk
      · have := h1.1 x hx; omega
    · rename_i hk
      refine List.pairwise_cons.2 ⟨fun x hx => ?_, insI_sorted k ms h1.2⟩
      rcases insI_mem hx with rfl | hx
      · omega
      · exact h1.1 x hx

theorem sortI_ins (k : Int) (ms : List Int) (h : ms.Pairwise (· ≤ ·)) : sortI (ms ++ [k]) = insI k ms := by
  have h1 : (sortI (ms ++ [k])).Pairwise (· ≤ ·) := by
    have := List.pairwise_mergeSort (le := fun x y : Int => decide (x ≤ y)) (fun a b c h1 h2 => by simp at *; omega) (fun a b => by simp; omega) (ms ++ [k])
    simpa [sortI] using this
  exact List.Perm.eq_of_pairwise (fun a b _ _ h1 h2 => by omega) h1 (insI_sorted k ms h) ((List.mergeSort_perm _ _).trans (insI_perm k ms).symm)

theorem bitsL_mem {b : Int} : ∀ {n : Nat} {x : Int}, x ∈ bitsL b n → x < n
  | 0, x, h => by simp [bitsL] at h
  | n + 1, x, h => by
    unfold bitsL at h
    split at h
    · rcases List.mem_append.1 h with h | h
      · have := bitsL_mem h; omega
      · simp at h; omega
    · have := bitsL_mem h; omega

theorem bitsL_sorted (b : Int) : ∀ n : Nat, (bitsL b n).Pairwise (· ≤ ·)
  | 0 => by simp [bitsL]
  | n + 1 => by
    unfold bitsL
    split
    · refine List.pairwise_append.2 ⟨bitsL_sorted b n, by simp, fun x hx y hy => ?_⟩
      simp at hy; subst hy
      have := bitsL_mem hx; omega
    · exact bitsL_sorted b n

/-- The list of eight truths. -/
def lstB (f : Nat → Bool) : Nat → List Int
  | 0 => []
  | n + 1 => if f n then lstB f n ++ [(n : Int)] else lstB f n
theorem bitsL_lst (b : Int) : ∀ n, bitsL b n = lstB (bitI b) n
  | 0 => rfl
  | n + 1 => by simp only [bitsL, lstB, bitsL_lst b n]
def fB (b0 b1 b2 b3 b4 b5 b6 b7 : Bool) (n : Nat) : Bool := match n with
  | 0 => b0 | 1 => b1 | 2 => b2 | 3 => b3 | 4 => b4 | 5 => b5 | 6 => b6 | _ => b7
theorem lst_fB (f : Nat → Bool) : lstB f 8 = lstB (fB (f 0) (f 1) (f 2) (f 3) (f 4) (f 5) (f 6) (f 7)) 8 := by
  simp only [lstB, fB]

def okL (ms : List Int) : Bool := !decide (ms.length < 1) && !decide (8 < ms.length) && okTo ms ms.length
theorem right_ok {v : UInt64} (h1 : 1 ≤ v.toNat) (h2 : v.toNat ≤ 1099511627776) (ms : List Int) : rightB v ms = okL ms := by
  have e1 : ¬ v < 1 := by rw [UInt64.lt_iff_toNat_lt]; simp; omega
  have e2 : ¬ (1099511627776 : UInt64) < v := by rw [UInt64.lt_iff_toNat_lt]; simp; omega
  simp only [rightB, okL, e1, e2, decide_false, Bool.not_false, Bool.true_and]
def hasL (ms : List Int) (k : Int) : Bool := okL ms && decide (0 ≤ findI ms k 0)
theorem has_ok {v : UInt64} (h1 : 1 ≤ v.toNat) (h2 : v.toNat ≤ 1099511627776) (ms : List Int) (k : Int) : hasB v ms k = hasL ms k := by
  simp only [hasB, hasL, right_ok h1 h2]
def diffL (xa xb : List Int) : Nat → Nat
  | 0 => 0
  | n + 1 => diffL xa xb n + (if hasL xa n != hasL xb n then 1 else 0)
theorem diff_ok {v w : UInt64} (h1 : 1 ≤ v.toNat) (h2 : v.toNat ≤ 1099511627776) (h3 : 1 ≤ w.toNat) (h4 : w.toNat ≤ 1099511627776) (xa xb : List Int) : ∀ n, diffN v xa w xb n = diffL xa xb n
  | 0 => rfl
  | n + 1 => by simp only [diffN, diffL, diff_ok h1 h2 h3 h4 xa xb n, has_ok h1 h2, has_ok h3 h4]

def backL (ms : List Int) (k : Int) : Bool :=
  !(okL ms && !hasL ms k && okL (insI k ms)) || (delI (insI k ms) k == ms && hasL (insI k ms) k && (diffL ms (insI k ms) 8 == 1) && (diffL (insI k ms) ms 8 == 1))
set_option maxRecDepth 100000 in
set_option maxHeartbeats 0 in
theorem back_all : ∀ b0 b1 b2 b3 b4 b5 b6 b7 : Bool, ∀ k : Fin 8, backL (lstB (fB b0 b1 b2 b3 b4 b5 b6 b7) 8) (k.val : Int) = true := by decide +kernel
end Ro
