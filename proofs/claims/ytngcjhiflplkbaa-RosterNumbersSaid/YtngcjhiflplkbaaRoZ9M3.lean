/- A part of a proof over an abstract machine. No condition. -/
import Derived.OpenShut
import Derived.ReadAgain
import Derived.Below
import Derived.Deep.Slices
import Derived.Test.YtngcjhiflplkbaaRoZ9M2
namespace Ro
open Go Go.AL Go.Proofs
set_option maxRecDepth 100000
theorem of48 (n : Nat) (hT : TblOk Try.prog (tbl []))
    (h : True ∧ True ∧ True ∧ (Prod.fst (n, (0 : Nat)) < (256 : Nat) ∧ Prod.snd (n, (0 : Nat)) + cntF (8 : Nat) (Prod.fst (n, (0 : Nat))) = cntF (8 : Nat) n) ∧ (((↑n : Int) = (↑(Prod.fst (n, (0 : Nat))) : Int) ∧ (0 : Int) = (↑(Prod.snd (n, (0 : Nat))) : Int) ∧ True) ∧ True) ∧ ∀ (i : Nat × Nat), Prod.fst i < (256 : Nat) ∧ Prod.snd i + cntF (8 : Nat) (Prod.fst i) = cntF (8 : Nat) n → True ∧ True ∧ cases2 (decide ((↑(Prod.fst i) : Int) > (0 : Int))) (True ∧ True ∧ ((2 : Int) = (0 : Int) → False) ∧ ((-9223372036854775808 : Int) ≤ (↑(Prod.snd i) : Int) + Int.tmod (↑(Prod.fst i) : Int) (2 : Int) ∧ (↑(Prod.snd i) : Int) + Int.tmod (↑(Prod.fst i) : Int) (2 : Int) ≤ (9223372036854775807 : Int)) ∧ True ∧ True ∧ (((2 : Int) = (0 : Int) → False) ∧ (-9223372036854775808 : Int) ≤ Int.tdiv (↑(Prod.fst i) : Int) (2 : Int) ∧ Int.tdiv (↑(Prod.fst i) : Int) (2 : Int) ≤ (9223372036854775807 : Int)) ∧ True ∧ ∃ j, (Prod.fst j < (256 : Nat) ∧ Prod.snd j + cntF (8 : Nat) (Prod.fst j) = cntF (8 : Nat) n) ∧ Prod.fst j < Prod.fst i ∧ (Int.tdiv (↑(Prod.fst i) : Int) (2 : Int) = (↑(Prod.fst j) : Int) ∧ (↑(Prod.snd i) : Int) + Int.tmod (↑(Prod.fst i) : Int) (2 : Int) = (↑(Prod.snd j) : Int) ∧ True) ∧ True) (True ∧ True ∧ True ∧ True ∧ True ∧ (↑(Prod.snd i) : Int) = (↑(cntF (8 : Nat) n) : Int))) :
    Spec Try.prog 48 [.i n] [] (.i (cntF 8 n)) [] :=
  spec_of_tr (by kernel_rfl) hT Try.func48 (c := Try.f48.body.getD .skip) (by kernel_rfl) (O48 n) (Eq.mp (by kernel_rfl) h)

theorem of119 (v : UInt64) (ms : List Int) (hT : TblOk Try.prog (tbl []))
    (h : True ∧ True ∧ True ∧ True ∧ True ∧ True ∧ cases2 (decide (v < (1 : UInt64))) (True ∧ True ∧ True ∧ True ∧ True ∧ True ∧ True ∧ True ∧ True ∧ false = rightB v ms) (True ∧ True ∧ True ∧ True ∧ True ∧ cases2 (decide ((1099511627776 : UInt64) < v)) (True ∧ True ∧ True ∧ True ∧ True ∧ True ∧ True ∧ false = rightB v ms) (True ∧ True ∧ True ∧ True ∧ True ∧ True ∧ cases2 (decide ((↑(List.length (li ms)) : Int) < (1 : Int))) (True ∧ True ∧ True ∧ True ∧ True ∧ false = rightB v ms) (True ∧ True ∧ True ∧ True ∧ True ∧ cases2 (decide ((↑(List.length (li ms)) : Int) > (8 : Int))) (True ∧ True ∧ True ∧ True ∧ false = rightB v ms) (True ∧ True ∧ ((0 : Nat) ≤ List.length ms ∧ okTo ms (0 : Nat) = true) ∧ ((True ∧ (0 : Int) = (0 : Int) ∧ True) ∧ (v = v ∧ li ms = li ms ∧ True) ∧ True) ∧ ∀ (i : Nat), i ≤ List.length ms ∧ okTo ms i = true → True ∧ True ∧ True ∧ True ∧ True ∧ cases2 (decide ((↑i : Int) < (↑(List.length (li ms)) : Int))) (True ∧ True ∧ True ∧ ((0 : Int) ≤ (↑i : Int) ∧ (li ms)[Int.toNat (↑i : Int)]? = some (T.i (List.getD ms i (0 : Int)))) ∧ True ∧ True ∧ True ∧ cases2 (decide (List.getD ms i (0 : Int) < (0 : Int))) (True ∧ True ∧ True ∧ True ∧ True ∧ True ∧ True ∧ false = rightB v ms) (True ∧ True ∧ True ∧ ((0 : Int) ≤ (↑i : Int) ∧ (li ms)[Int.toNat (↑i : Int)]? = some (T.i (List.getD ms i (0 : Int)))) ∧ True ∧ True ∧ True ∧ True ∧ cases2 (decide (List.getD ms i (0 : Int) ≥ (8 : Int))) (True ∧ True ∧ True ∧ True ∧ True ∧ false = rightB v ms) (True ∧ True ∧ True ∧ cases2 (decide ((↑i : Int) > (0 : Int))) (True ∧ True ∧ True ∧ ((-9223372036854775808 : Int) ≤ (↑i : Int) - (1 : Int) ∧ (↑i : Int) - (1 : Int) ≤ (9223372036854775807 : Int)) ∧ ((0 : Int) ≤ (↑i : Int) - (1 : Int) ∧ (li ms)[Int.toNat ((↑i : Int) - (1 : Int))]? = some (T.i (List.getD ms (i - (1 : Nat)) (0 : Int)))) ∧ True ∧ True ∧ True ∧ True ∧ ((0 : Int) ≤ (↑i : Int) ∧ (li ms)[Int.toNat (↑i : Int)]? = some (T.i (List.getD ms i (0 : Int)))) ∧ True ∧ True ∧ True ∧ True ∧ cases2 (decide (List.getD ms (i - (1 : Nat)) (0 : Int) ≥ List.getD ms i (0 : Int))) (True ∧ True ∧ True ∧ True ∧ false = rightB v ms) (True ∧ ((-9223372036854775808 : Int) ≤ (↑i : Int) + (1 : Int) ∧ (↑i : Int) + (1 : Int) ≤ (9223372036854775807 : Int)) ∧ True ∧ ∃ j, (j ≤ List.length ms ∧ okTo ms j = true) ∧ List.length ms - j < List.length ms - i ∧ (True ∧ (↑i : Int) + (1 : Int) = (↑j : Int) ∧ True) ∧ (v = v ∧ li ms = li ms ∧ True) ∧ True)) (True ∧ True ∧ True ∧ ((-9223372036854775808 : Int) ≤ (↑i : Int) + (1 : Int) ∧ (↑i : Int) + (1 : Int) ≤ (9223372036854775807 : Int)) ∧ True ∧ ∃ j, (j ≤ List.length ms ∧ okTo ms j = true) ∧ List.length ms - j < List.length ms - i ∧ (True ∧ (↑i : Int) + (1 : Int) = (↑j : Int) ∧ True) ∧ (v = v ∧ li ms = li ms ∧ True) ∧ True)))) (True ∧ True ∧ True ∧ True ∧ true = rightB v ms)))))) :
    Spec Try.prog 119 [ls v ms] [] (.b (rightB v ms)) [] :=
  spec_of_tr (by kernel_rfl) hT Try.func119 (c := Try.f119.body.getD .skip) (by kernel_rfl) (O119 ms) (Eq.mp (by kernel_rfl) h)

theorem of120 (xa xb : List Int) (hT : TblOk Try.prog (tbl []))
    (h : True ∧ True ∧ True ∧ True ∧ True ∧ True ∧ cases2 ((↑(List.length (li xa)) : Int) != (↑(List.length (li xb)) : Int)) (True ∧ True ∧ True ∧ True ∧ false = (xa == xb)) (True ∧ True ∧ True ∧ True ∧ ((0 : Nat) ≤ List.length xa ∧ List.take (0 : Nat) xa = List.take (0 : Nat) xb) ∧ ((li xa = li xa ∧ li xb = li xb ∧ (↑(List.length (li xa)) : Int) = (↑(List.length (li xa)) : Int) ∧ (0 : Int) = (0 : Int) ∧ True) ∧ True) ∧ ∀ (i : Nat), i ≤ List.length xa ∧ List.take i xa = List.take i xb → True ∧ cases2 (decide ((↑i : Int) < (↑(List.length (li xa)) : Int))) (True ∧ True ∧ True ∧ True ∧ ((0 : Int) ≤ (↑i : Int) ∧ (li xa)[Int.toNat (↑i : Int)]? = some (T.i (List.getD xa i (0 : Int)))) ∧ True ∧ True ∧ True ∧ ((0 : Int) ≤ (↑i : Int) ∧ (li xb)[Int.toNat (↑i : Int)]? = some (T.i (List.getD xb i (0 : Int)))) ∧ True ∧ True ∧ cases2 (List.getD xa i (0 : Int) != List.getD xb i (0 : Int)) (True ∧ True ∧ True ∧ True ∧ false = (xa == xb)) (((-9223372036854775808 : Int) ≤ (↑i : Int) + (1 : Int) ∧ (↑i : Int) + (1 : Int) ≤ (9223372036854775807 : Int)) ∧ True ∧ ∃ j, (j ≤ List.length xa ∧ List.take j xa = List.take j xb) ∧ List.length xa - j < List.length xa - i ∧ (li xa = li xa ∧ li xb = li xb ∧ (↑(List.length (li xa)) : Int) = (↑(List.length (li xa)) : Int) ∧ (↑i : Int) + (1 : Int) = (↑j : Int) ∧ True) ∧ True)) (True ∧ True ∧ True ∧ True ∧ true = (xa == xb)))) :
    Spec Try.prog 120 [.sl .lf (li xa), .sl .lf (li xb)] [] (.b (xa == xb)) [] :=
  spec_of_tr (by kernel_rfl) hT Try.func120 (c := Try.f120.body.getD .skip) (by kernel_rfl) (O120 xa xb) (Eq.mp (by kernel_rfl) h)

theorem of56 (v : UInt64) (xa : List Int) (w : UInt64) (xb : List Int) (hT : TblOk Try.prog (tbl [e120]))
    (h : True ∧ True ∧ True ∧ True ∧ True ∧ True ∧ True ∧ True ∧ True ∧ cases2 (v == w) (True ∧ True ∧ True ∧ True ∧ ((True ∧ True ∧ True) ∧ li xa = li (unli (li xa)) ∧ li xb = li (unli (li xb)) ∧ List.length (li xa) ≤ (9223372036854775807 : Nat) ∧ List.length (li xb) ≤ (9223372036854775807 : Nat)) ∧ True ∧ True ∧ True ∧ True ∧ True ∧ (unli (li xa) == unli (li xb)) = (v == w && xa == xb)) (True ∧ True ∧ True ∧ True ∧ True ∧ false = (v == w && xa == xb))) :
    Spec Try.prog 56 [ls v xa, ls w xb] [] (.b (v == w && xa == xb)) [] :=
  spec_of_tr (by kernel_rfl) hT Try.func56 (c := Try.f56.body.getD .skip) (by kernel_rfl) (noO) (Eq.mp (by kernel_rfl) h)

theorem of55 (v : UInt64) (xa : List Int) (w : UInt64) (xb : List Int) (hT : TblOk Try.prog (tbl [e119, e47]))
    (h : True ∧ True ∧ True ∧ True ∧ (((True ∧ True ∧ True) ∧ True) ∧ li xa = li (unli (li xa))) ∧ True ∧ True ∧ cases2 (!rightB v (unli (li xa))) (True ∧ True ∧ True ∧ True ∧ True ∧ True ∧ True ∧ false = afterB v xa w xb) (True ∧ (((True ∧ True ∧ True) ∧ True) ∧ li xb = li (unli (li xb))) ∧ True ∧ True ∧ True ∧ cases2 (!rightB w (unli (li xb))) (True ∧ True ∧ True ∧ True ∧ True ∧ false = afterB v xa w xb) (True ∧ True ∧ True ∧ True ∧ True ∧ True ∧ True ∧ cases2 (w != v + (1 : UInt64)) (True ∧ True ∧ True ∧ True ∧ false = afterB v xa w xb) (True ∧ (((True ∧ True ∧ True) ∧ True) ∧ li xa = li (unli (li xa)) ∧ List.length (li xa) ≤ (1000000 : Nat)) ∧ True ∧ (((True ∧ True ∧ True) ∧ True) ∧ li xb = li (unli (li xb)) ∧ List.length (li xb) ≤ (1000000 : Nat)) ∧ True ∧ True ∧ True ∧ True ∧ True ∧ cases2 (ibits BinOp.xor (setI (unli (li xa))) (setI (unli (li xb))) != (0 : Int)) (True ∧ True ∧ ((-9223372036854775808 : Int) ≤ ibits BinOp.xor (setI (unli (li xa))) (setI (unli (li xb))) - (1 : Int) ∧ ibits BinOp.xor (setI (unli (li xa))) (setI (unli (li xb))) - (1 : Int) ≤ (9223372036854775807 : Int)) ∧ True ∧ True ∧ True ∧ True ∧ True ∧ True ∧ True ∧ (ibits BinOp.and (ibits BinOp.xor (setI (unli (li xa))) (setI (unli (li xb)))) (ibits BinOp.xor (setI (unli (li xa))) (setI (unli (li xb))) - (1 : Int)) == (0 : Int)) = afterB v xa w xb) (True ∧ True ∧ True ∧ True ∧ True ∧ false = afterB v xa w xb))))) :
    Spec Try.prog 55 [ls v xa, ls w xb] [] (.b (afterB v xa w xb)) [] :=
  spec_of_tr (by kernel_rfl) hT Try.func55 (c := Try.f55.body.getD .skip) (by kernel_rfl) (noO) (Eq.mp (by kernel_rfl) h)

theorem of47 (v : UInt64) (ms : List Int) (hT : TblOk Try.prog (tbl []))
    (h : True ∧ True ∧ True ∧ True ∧ True ∧ (0 : Nat) ≤ List.length ms ∧ ((True ∧ (0 : Int) = setI (List.take (0 : Nat) ms) ∧ (0 : Int) = (0 : Int) ∧ True) ∧ (v = v ∧ li ms = li ms ∧ True) ∧ True) ∧ ∀ (i : Nat), i ≤ List.length ms → True ∧ True ∧ True ∧ True ∧ True ∧ cases2 (decide ((↑i : Int) < (↑(List.length (li ms)) : Int))) (True ∧ True ∧ True ∧ True ∧ ((0 : Int) ≤ (↑i : Int) ∧ (li ms)[Int.toNat (↑i : Int)]? = some (T.i (List.getD ms i (0 : Int)))) ∧ True ∧ True ∧ True ∧ (UInt64.toNat (UInt64.ofInt (ibits BinOp.and (List.getD ms i (0 : Int)) (7 : Int))) < (64 : Nat) ∧ (-9223372036854775808 : Int) ≤ (1 : Int) * (2 : Int) ^ UInt64.toNat (UInt64.ofInt (ibits BinOp.and (List.getD ms i (0 : Int)) (7 : Int))) ∧ (1 : Int) * (2 : Int) ^ UInt64.toNat (UInt64.ofInt (ibits BinOp.and (List.getD ms i (0 : Int)) (7 : Int))) ≤ (9223372036854775807 : Int)) ∧ True ∧ True ∧ True ∧ ((-9223372036854775808 : Int) ≤ (↑i : Int) + (1 : Int) ∧ (↑i : Int) + (1 : Int) ≤ (9223372036854775807 : Int)) ∧ True ∧ ∃ j, j ≤ List.length ms ∧ List.length ms - j < List.length ms - i ∧ (True ∧ ibits BinOp.or (setI (List.take i ms)) ((1 : Int) * (2 : Int) ^ UInt64.toNat (UInt64.ofInt (ibits BinOp.and (List.getD ms i (0 : Int)) (7 : Int)))) = setI (List.take j ms) ∧ (↑i : Int) + (1 : Int) = (↑j : Int) ∧ True) ∧ (v = v ∧ li ms = li ms ∧ True) ∧ True) (True ∧ True ∧ True ∧ True ∧ True ∧ setI (List.take i ms) = setI ms)) :
    Spec Try.prog 47 [ls v ms] [] (.i (setI ms)) [] :=
  spec_of_tr (by kernel_rfl) hT Try.func47 (c := Try.f47.body.getD .skip) (by kernel_rfl) (O47 ms) (Eq.mp (by kernel_rfl) h)

theorem of54 (v : UInt64) (ms : List Int) (k : Int) (hT : TblOk Try.prog (tbl [e119, e112, e47, e46, e51, e45, e35, e53, e49, e56]))
    (h : True ∧ True ∧ True ∧ (((True ∧ True ∧ True) ∧ True) ∧ li ms = li (unli (li ms))) ∧ True ∧ True ∧ (((True ∧ True ∧ True) ∧ True) ∧ li ms = li (unli (li ms))) ∧ True ∧ True ∧ cases2 (rightB v (unli (li ms)) != rightB v (unli (li ms))) (True ∧ True ∧ True ∧ True ∧ false = true) ((True ∧ True ∧ cases2 (rightB v (unli (li ms))) (True ∧ True ∧ True ∧ True ∧ cases2 (decide (k ≥ (0 : Int))) (True ∧ True ∧ True ∧ True ∧ cases2 (decide (k < (8 : Int))) (True ∧ (((True ∧ True ∧ True) ∧ True) ∧ li ms = li (unli (li ms)) ∧ List.length (li ms) ≤ (1000000 : Nat)) ∧ True ∧ True ∧ True ∧ UInt64.toNat (UInt64.ofInt (ibits BinOp.and k (7 : Int))) < (64 : Nat) ∧ True ∧ True ∧ True ∧ True ∧ (k = k ∧ True ∧ rightB v (unli (li ms)) = rightB v (unli (li ms)) ∧ (ibits BinOp.and (Int.fdiv (setI (unli (li ms))) ((2 : Int) ^ UInt64.toNat (UInt64.ofInt (ibits BinOp.and k (7 : Int))))) (1 : Int) == (1 : Int)) = inB v ms k ∧ True) ∧ (v = v ∧ li ms = li ms ∧ True) ∧ True) (True ∧ True ∧ (k = k ∧ True ∧ rightB v (unli (li ms)) = rightB v (unli (li ms)) ∧ false = inB v ms k ∧ True) ∧ (v = v ∧ li ms = li ms ∧ True) ∧ True)) (True ∧ True ∧ True ∧ True ∧ (k = k ∧ True ∧ rightB v (unli (li ms)) = rightB v (unli (li ms)) ∧ false = inB v ms k ∧ True) ∧ (v = v ∧ li ms = li ms ∧ True) ∧ True)) (True ∧ True ∧ True ∧ True ∧ True ∧ True ∧ (k = k ∧ True ∧ rightB v (unli (li ms)) = rightB v (unli (li ms)) ∧ false = inB v ms k ∧ True) ∧ (v = v ∧ li ms = li ms ∧ True) ∧ True)) ∧ True ∧ True ∧ (((True ∧ True ∧ True) ∧ True ∧ True) ∧ li ms = li (unli (li ms))) ∧ True ∧ True ∧ True ∧ True ∧ True ∧ True ∧ True ∧ True ∧ (((True ∧ True ∧ True) ∧ True ∧ True) ∧ li ms = li (unli (li ms))) ∧ True ∧ True ∧ True ∧ True ∧ True ∧ True ∧ True ∧ True ∧ True ∧ True ∧ True ∧ True ∧ (True ∧ True ∧ cases2 (rightB v (unli (li ms))) (True ∧ True ∧ True ∧ True ∧ cases2 (!inB v ms k) (True ∧ True ∧ True ∧ True ∧ cases2 (decide (k ≥ (0 : Int))) (True ∧ True ∧ True ∧ True ∧ cases2 (decide (k < (8 : Int))) (True ∧ True ∧ True ∧ True ∧ cases2 (decide (v < (1099511627776 : UInt64))) (True ∧ True ∧ True ∧ True ∧ (((True ∧ True ∧ True) ∧ True) ∧ li ms = li (unli (li ms)) ∧ List.length (li ms) ≤ (1000000 : Nat)) ∧ True ∧ True ∧ (UInt64.toNat (UInt64.ofInt k) < (64 : Nat) ∧ (-9223372036854775808 : Int) ≤ (1 : Int) * (2 : Int) ^ UInt64.toNat (UInt64.ofInt k) ∧ (1 : Int) * (2 : Int) ^ UInt64.toNat (UInt64.ofInt k) ≤ (9223372036854775807 : Int)) ∧ True ∧ ((True ∧ True ∧ True) ∧ True) ∧ True ∧ (k = k ∧ True ∧ rightB v (unli (li ms)) = rightB v (unli (li ms)) ∧ inB v ms k = inB v ms k ∧ True ∧ Prod.snd (Prod.snd (withL v (unli (li ms)) k)) = Prod.snd (Prod.snd (withL v (unli (li ms)) k)) ∧ True ∧ Prod.snd (Prod.snd (withoutL v (unli (li ms)) k)) = Prod.snd (Prod.snd (withoutL v (unli (li ms)) k)) ∧ True ∧ True ∧ True) ∧ (v = v ∧ li ms = li ms ∧ True) ∧ (Prod.fst (withL v (unli (li ms)) k) = Prod.fst (withL v (unli (li ms)) k) ∧ li (Prod.fst (Prod.snd (withL v (unli (li ms)) k))) = li (Prod.fst (Prod.snd (withL v (unli (li ms)) k))) ∧ True) ∧ (Prod.fst (withoutL v (unli (li ms)) k) = Prod.fst (withoutL v (unli (li ms)) k) ∧ li (Prod.fst (Prod.snd (withoutL v (unli (li ms)) k))) = li (Prod.fst (Prod.snd (withoutL v (unli (li ms)) k))) ∧ True) ∧ (v + (1 : UInt64) = xV v ms k ∧ li (bitsL (ibits BinOp.or (setI (unli (li ms))) ((1 : Int) * (2 : Int) ^ UInt64.toNat (UInt64.ofInt k))) (8 : Nat)) = li (xL v ms k) ∧ True) ∧ ((0 : UInt64) = (0 : UInt64) ∧ T.v (Value.slice none (0 : Nat) (0 : Nat)) = T.v (Value.slice none (0 : Nat) (0 : Nat)) ∧ True) ∧ True) ((k = k ∧ True ∧ rightB v (unli (li ms)) = rightB v (unli (li ms)) ∧ inB v ms k = inB v ms k ∧ True ∧ Prod.snd (Prod.snd (withL v (unli (li ms)) k)) = Prod.snd (Prod.snd (withL v (unli (li ms)) k)) ∧ True ∧ Prod.snd (Prod.snd (withoutL v (unli (li ms)) k)) = Prod.snd (Prod.snd (withoutL v (unli (li ms)) k)) ∧ True ∧ True ∧ True) ∧ (v = v ∧ li ms = li ms ∧ True) ∧ (Prod.fst (withL v (unli (li ms)) k) = Prod.fst (withL v (unli (li ms)) k) ∧ li (Prod.fst (Prod.snd (withL v (unli (li ms)) k))) = li (Prod.fst (Prod.snd (withL v (unli (li ms)) k))) ∧ True) ∧ (Prod.fst (withoutL v (unli (li ms)) k) = Prod.fst (withoutL v (unli (li ms)) k) ∧ li (Prod.fst (Prod.snd (withoutL v (unli (li ms)) k))) = li (Prod.fst (Prod.snd (withoutL v (unli (li ms)) k))) ∧ True) ∧ ((0 : UInt64) = xV v ms k ∧ li (xL v ms k) = [] ∧ True) ∧ ((0 : UInt64) = (0 : UInt64) ∧ T.v (Value.slice none (0 : Nat) (0 : Nat)) = T.v (Value.slice none (0 : Nat) (0 : Nat)) ∧ True) ∧ True)) (True ∧ (k = k ∧ True ∧ rightB v (unli (li ms)) = rightB v (unli (li ms)) ∧ inB v ms k = inB v ms k ∧ True ∧ Prod.snd (Prod.snd (withL v (unli (li ms)) k)) = Prod.snd (Prod.snd (withL v (unli (li ms)) k)) ∧ True ∧ Prod.snd (Prod.snd (withoutL v (unli (li ms)) k)) = Prod.snd (Prod.snd (withoutL v (unli (li ms)) k)) ∧ True ∧ True ∧ True) ∧ (v = v ∧ li ms = li ms ∧ True) ∧ (Prod.fst (withL v (unli (li ms)) k) = Prod.fst (withL v (unli (li ms)) k) ∧ li (Prod.fst (Prod.snd (withL v (unli (li ms)) k))) = li (Prod.fst (Prod.snd (withL v (unli (li ms)) k))) ∧ True) ∧ (Prod.fst (withoutL v (unli (li ms)) k) = Prod.fst (withoutL v (unli (li ms)) k) ∧ li (Prod.fst (Prod.snd (withoutL v (unli (li ms)) k))) = li (Prod.fst (Prod.snd (withoutL v (unli (li ms)) k))) ∧ True) ∧ ((0 : UInt64) = xV v ms k ∧ li (xL v ms k) = [] ∧ True) ∧ ((0 : UInt64) = (0 : UInt64) ∧ T.v (Value.slice none (0 : Nat) (0 : Nat)) = T.v (Value.slice none (0 : Nat) (0 : Nat)) ∧ True) ∧ True)) (True ∧ True ∧ True ∧ (k = k ∧ True ∧ rightB v (unli (li ms)) = rightB v (unli (li ms)) ∧ inB v ms k = inB v ms k ∧ True ∧ Prod.snd (Prod.snd (withL v (unli (li ms)) k)) = Prod.snd (Prod.snd (withL v (unli (li ms)) k)) ∧ True ∧ Prod.snd (Prod.snd (withoutL v (unli (li ms)) k)) = Prod.snd (Prod.snd (withoutL v (unli (li ms)) k)) ∧ True ∧ True ∧ True) ∧ (v = v ∧ li ms = li ms ∧ True) ∧ (Prod.fst (withL v (unli (li ms)) k) = Prod.fst (withL v (unli (li ms)) k) ∧ li (Prod.fst (Prod.snd (withL v (unli (li ms)) k))) = li (Prod.fst (Prod.snd (withL v (unli (li ms)) k))) ∧ True) ∧ (Prod.fst (withoutL v (unli (li ms)) k) = Prod.fst (withoutL v (unli (li ms)) k) ∧ li (Prod.fst (Prod.snd (withoutL v (unli (li ms)) k))) = li (Prod.fst (Prod.snd (withoutL v (unli (li ms)) k))) ∧ True) ∧ ((0 : UInt64) = xV v ms k ∧ li (xL v ms k) = [] ∧ True) ∧ ((0 : UInt64) = (0 : UInt64) ∧ T.v (Value.slice none (0 : Nat) (0 : Nat)) = T.v (Value.slice none (0 : Nat) (0 : Nat)) ∧ True) ∧ True)) (True ∧ True ∧ True ∧ True ∧ True ∧ (k = k ∧ True ∧ rightB v (unli (li ms)) = rightB v (unli (li ms)) ∧ inB v ms k = inB v ms k ∧ True ∧ Prod.snd (Prod.snd (withL v (unli (li ms)) k)) = Prod.snd (Prod.snd (withL v (unli (li ms)) k)) ∧ True ∧ Prod.snd (Prod.snd (withoutL v (unli (li ms)) k)) = Prod.snd (Prod.snd (withoutL v (unli (li ms)) k)) ∧ True ∧ True ∧ True) ∧ (v = v ∧ li ms = li ms ∧ True) ∧ (Prod.fst (withL v (unli (li ms)) k) = Prod.fst (withL v (unli (li ms)) k) ∧ li (Prod.fst (Prod.snd (withL v (unli (li ms)) k))) = li (Prod.fst (Prod.snd (withL v (unli (li ms)) k))) ∧ True) ∧ (Prod.fst (withoutL v (unli (li ms)) k) = Prod.fst (withoutL v (unli (li ms)) k) ∧ li (Prod.fst (Prod.snd (withoutL v (unli (li ms)) k))) = li (Prod.fst (Prod.snd (withoutL v (unli (li ms)) k))) ∧ True) ∧ ((0 : UInt64) = xV v ms k ∧ li (xL v ms k) = [] ∧ True) ∧ ((0 : UInt64) = (0 : UInt64) ∧ T.v (Value.slice none (0 : Nat) (0 : Nat)) = T.v (Value.slice none (0 : Nat) (0 : Nat)) ∧ True) ∧ True)) (True ∧ True ∧ True ∧ True ∧ True ∧ True ∧ True ∧ (k = k ∧ True ∧ rightB v (unli (li ms)) = rightB v (unli (li ms)) ∧ inB v ms k = inB v ms k ∧ True ∧ Prod.snd (Prod.snd (withL v (unli (li ms)) k)) = Prod.snd (Prod.snd (withL v (unli (li ms)) k)) ∧ True ∧ Prod.snd (Prod.snd (withoutL v (unli (li ms)) k)) = Prod.snd (Prod.snd (withoutL v (unli (li ms)) k)) ∧ True ∧ True ∧ True) ∧ (v = v ∧ li ms = li ms ∧ True) ∧ (Prod.fst (withL v (unli (li ms)) k) = Prod.fst (withL v (unli (li ms)) k) ∧ li (Prod.fst (Prod.snd (withL v (unli (li ms)) k))) = li (Prod.fst (Prod.snd (withL v (unli (li ms)) k))) ∧ True) ∧ (Prod.fst (withoutL v (unli (li ms)) k) = Prod.fst (withoutL v (unli (li ms)) k) ∧ li (Prod.fst (Prod.snd (withoutL v (unli (li ms)) k))) = li (Prod.fst (Prod.snd (withoutL v (unli (li ms)) k))) ∧ True) ∧ ((0 : UInt64) = xV v ms k ∧ li (xL v ms k) = [] ∧ True) ∧ ((0 : UInt64) = (0 : UInt64) ∧ T.v (Value.slice none (0 : Nat) (0 : Nat)) = T.v (Value.slice none (0 : Nat) (0 : Nat)) ∧ True) ∧ True)) ∧ (True ∧ True ∧ cases2 (inB v ms k) (True ∧ True ∧ True ∧ True ∧ True ∧ True ∧ cases2 (decide ((↑(List.length (li ms)) : Int) > (1 : Int))) (True ∧ True ∧ True ∧ True ∧ cases2 (decide (v < (1099511627776 : UInt64))) (True ∧ True ∧ True ∧ True ∧ (((True ∧ True ∧ True) ∧ True) ∧ li ms = li (unli (li ms)) ∧ List.length (li ms) ≤ (1000000 : Nat)) ∧ True ∧ True ∧ (UInt64.toNat (UInt64.ofInt k) < (64 : Nat) ∧ (-9223372036854775808 : Int) ≤ (1 : Int) * (2 : Int) ^ UInt64.toNat (UInt64.ofInt k) ∧ (1 : Int) * (2 : Int) ^ UInt64.toNat (UInt64.ofInt k) ≤ (9223372036854775807 : Int)) ∧ True ∧ ((True ∧ True ∧ True) ∧ True) ∧ True ∧ (k = k ∧ True ∧ rightB v (unli (li ms)) = rightB v (unli (li ms)) ∧ inB v ms k = inB v ms k ∧ True ∧ Prod.snd (Prod.snd (withL v (unli (li ms)) k)) = Prod.snd (Prod.snd (withL v (unli (li ms)) k)) ∧ True ∧ Prod.snd (Prod.snd (withoutL v (unli (li ms)) k)) = Prod.snd (Prod.snd (withoutL v (unli (li ms)) k)) ∧ True ∧ True ∧ True) ∧ (v = v ∧ li ms = li ms ∧ True) ∧ (Prod.fst (withL v (unli (li ms)) k) = Prod.fst (withL v (unli (li ms)) k) ∧ li (Prod.fst (Prod.snd (withL v (unli (li ms)) k))) = li (Prod.fst (Prod.snd (withL v (unli (li ms)) k))) ∧ True) ∧ (Prod.fst (withoutL v (unli (li ms)) k) = Prod.fst (withoutL v (unli (li ms)) k) ∧ li (Prod.fst (Prod.snd (withoutL v (unli (li ms)) k))) = li (Prod.fst (Prod.snd (withoutL v (unli (li ms)) k))) ∧ True) ∧ (xV v ms k = xV v ms k ∧ li (xL v ms k) = li (xL v ms k) ∧ True) ∧ (v + (1 : UInt64) = yV v ms k ∧ li (bitsL (ibits BinOp.andNot (setI (unli (li ms))) ((1 : Int) * (2 : Int) ^ UInt64.toNat (UInt64.ofInt k))) (8 : Nat)) = li (yL v ms k) ∧ True) ∧ True) ((k = k ∧ True ∧ rightB v (unli (li ms)) = rightB v (unli (li ms)) ∧ inB v ms k = inB v ms k ∧ True ∧ Prod.snd (Prod.snd (withL v (unli (li ms)) k)) = Prod.snd (Prod.snd (withL v (unli (li ms)) k)) ∧ True ∧ Prod.snd (Prod.snd (withoutL v (unli (li ms)) k)) = Prod.snd (Prod.snd (withoutL v (unli (li ms)) k)) ∧ True ∧ True ∧ True) ∧ (v = v ∧ li ms = li ms ∧ True) ∧ (Prod.fst (withL v (unli (li ms)) k) = Prod.fst (withL v (unli (li ms)) k) ∧ li (Prod.fst (Prod.snd (withL v (unli (li ms)) k))) = li (Prod.fst (Prod.snd (withL v (unli (li ms)) k))) ∧ True) ∧ (Prod.fst (withoutL v (unli (li ms)) k) = Prod.fst (withoutL v (unli (li ms)) k) ∧ li (Prod.fst (Prod.snd (withoutL v (unli (li ms)) k))) = li (Prod.fst (Prod.snd (withoutL v (unli (li ms)) k))) ∧ True) ∧ (xV v ms k = xV v ms k ∧ li (xL v ms k) = li (xL v ms k) ∧ True) ∧ ((0 : UInt64) = yV v ms k ∧ li (yL v ms k) = [] ∧ True) ∧ True)) (True ∧ (k = k ∧ True ∧ rightB v (unli (li ms)) = rightB v (unli (li ms)) ∧ inB v ms k = inB v ms k ∧ True ∧ Prod.snd (Prod.snd (withL v (unli (li ms)) k)) = Prod.snd (Prod.snd (withL v (unli (li ms)) k)) ∧ True ∧ Prod.snd (Prod.snd (withoutL v (unli (li ms)) k)) = Prod.snd (Prod.snd (withoutL v (unli (li ms)) k)) ∧ True ∧ True ∧ True) ∧ (v = v ∧ li ms = li ms ∧ True) ∧ (Prod.fst (withL v (unli (li ms)) k) = Prod.fst (withL v (unli (li ms)) k) ∧ li (Prod.fst (Prod.snd (withL v (unli (li ms)) k))) = li (Prod.fst (Prod.snd (withL v (unli (li ms)) k))) ∧ True) ∧ (Prod.fst (withoutL v (unli (li ms)) k) = Prod.fst (withoutL v (unli (li ms)) k) ∧ li (Prod.fst (Prod.snd (withoutL v (unli (li ms)) k))) = li (Prod.fst (Prod.snd (withoutL v (unli (li ms)) k))) ∧ True) ∧ (xV v ms k = xV v ms k ∧ li (xL v ms k) = li (xL v ms k) ∧ True) ∧ ((0 : UInt64) = yV v ms k ∧ li (yL v ms k) = [] ∧ True) ∧ True)) (True ∧ True ∧ True ∧ (k = k ∧ True ∧ rightB v (unli (li ms)) = rightB v (unli (li ms)) ∧ inB v ms k = inB v ms k ∧ True ∧ Prod.snd (Prod.snd (withL v (unli (li ms)) k)) = Prod.snd (Prod.snd (withL v (unli (li ms)) k)) ∧ True ∧ Prod.snd (Prod.snd (withoutL v (unli (li ms)) k)) = Prod.snd (Prod.snd (withoutL v (unli (li ms)) k)) ∧ True ∧ True ∧ True) ∧ (v = v ∧ li ms = li ms ∧ True) ∧ (Prod.fst (withL v (unli (li ms)) k) = Prod.fst (withL v (unli (li ms)) k) ∧ li (Prod.fst (Prod.snd (withL v (unli (li ms)) k))) = li (Prod.fst (Prod.snd (withL v (unli (li ms)) k))) ∧ True) ∧ (Prod.fst (withoutL v (unli (li ms)) k) = Prod.fst (withoutL v (unli (li ms)) k) ∧ li (Prod.fst (Prod.snd (withoutL v (unli (li ms)) k))) = li (Prod.fst (Prod.snd (withoutL v (unli (li ms)) k))) ∧ True) ∧ (xV v ms k = xV v ms k ∧ li (xL v ms k) = li (xL v ms k) ∧ True) ∧ ((0 : UInt64) = yV v ms k ∧ li (yL v ms k) = [] ∧ True) ∧ True)) ∧ True ∧ (True ∧ cases2 (rightB v (unli (li ms))) (True ∧ True ∧ True ∧ (((2 : Int) = (0 : Int) → False) ∧ (-9223372036854775808 : Int) ≤ Int.tdiv (↑(List.length (li ms)) : Int) (2 : Int) ∧ Int.tdiv (↑(List.length (li ms)) : Int) (2 : Int) ≤ (9223372036854775807 : Int)) ∧ ((-9223372036854775808 : Int) ≤ Int.tdiv (↑(List.length (li ms)) : Int) (2 : Int) + (1 : Int) ∧ Int.tdiv (↑(List.length (li ms)) : Int) (2 : Int) + (1 : Int) ≤ (9223372036854775807 : Int)) ∧ True ∧ (k = k ∧ True ∧ rightB v (unli (li ms)) = rightB v (unli (li ms)) ∧ inB v ms k = inB v ms k ∧ True ∧ Prod.snd (Prod.snd (withL v (unli (li ms)) k)) = Prod.snd (Prod.snd (withL v (unli (li ms)) k)) ∧ True ∧ Prod.snd (Prod.snd (withoutL v (unli (li ms)) k)) = Prod.snd (Prod.snd (withoutL v (unli (li ms)) k)) ∧ True ∧ True ∧ Int.tdiv (↑(List.length (li ms)) : Int) (2 : Int) + (1 : Int) = mostI v ms ∧ True) ∧ (v = v ∧ li ms = li ms ∧ True) ∧ (Prod.fst (withL v (unli (li ms)) k) = Prod.fst (withL v (unli (li ms)) k) ∧ li (Prod.fst (Prod.snd (withL v (unli (li ms)) k))) = li (Prod.fst (Prod.snd (withL v (unli (li ms)) k))) ∧ True) ∧ (Prod.fst (withoutL v (unli (li ms)) k) = Prod.fst (withoutL v (unli (li ms)) k) ∧ li (Prod.fst (Prod.snd (withoutL v (unli (li ms)) k))) = li (Prod.fst (Prod.snd (withoutL v (unli (li ms)) k))) ∧ True) ∧ (xV v ms k = xV v ms k ∧ li (xL v ms k) = li (xL v ms k) ∧ True) ∧ (yV v ms k = yV v ms k ∧ li (yL v ms k) = li (yL v ms k) ∧ True) ∧ True) ((k = k ∧ True ∧ rightB v (unli (li ms)) = rightB v (unli (li ms)) ∧ inB v ms k = inB v ms k ∧ True ∧ Prod.snd (Prod.snd (withL v (unli (li ms)) k)) = Prod.snd (Prod.snd (withL v (unli (li ms)) k)) ∧ True ∧ Prod.snd (Prod.snd (withoutL v (unli (li ms)) k)) = Prod.snd (Prod.snd (withoutL v (unli (li ms)) k)) ∧ True ∧ True ∧ (0 : Int) = mostI v ms ∧ True) ∧ (v = v ∧ li ms = li ms ∧ True) ∧ (Prod.fst (withL v (unli (li ms)) k) = Prod.fst (withL v (unli (li ms)) k) ∧ li (Prod.fst (Prod.snd (withL v (unli (li ms)) k))) = li (Prod.fst (Prod.snd (withL v (unli (li ms)) k))) ∧ True) ∧ (Prod.fst (withoutL v (unli (li ms)) k) = Prod.fst (withoutL v (unli (li ms)) k) ∧ li (Prod.fst (Prod.snd (withoutL v (unli (li ms)) k))) = li (Prod.fst (Prod.snd (withoutL v (unli (li ms)) k))) ∧ True) ∧ (xV v ms k = xV v ms k ∧ li (xL v ms k) = li (xL v ms k) ∧ True) ∧ (yV v ms k = yV v ms k ∧ li (yL v ms k) = li (yL v ms k) ∧ True) ∧ True)) ∧ True ∧ True ∧ True ∧ True ∧ True ∧ True ∧ cases2 (Prod.snd (Prod.snd (withL v (unli (li ms)) k)) == decide ((0 : UInt64) < xV v ms k)) (True ∧ True ∧ True ∧ True ∧ True ∧ True ∧ True ∧ cases2 (Prod.snd (Prod.snd (withoutL v (unli (li ms)) k)) == decide ((0 : UInt64) < yV v ms k)) (True ∧ True ∧ True ∧ True ∧ True ∧ True ∧ True ∧ cases2 (Prod.fst (withL v (unli (li ms)) k) == xV v ms k) (True ∧ True ∧ True ∧ True ∧ True ∧ True ∧ True ∧ cases2 (Prod.fst (withoutL v (unli (li ms)) k) == yV v ms k) (True ∧ True ∧ True ∧ True ∧ ((True ∧ True ∧ True) ∧ li (Prod.fst (Prod.snd (withL v (unli (li ms)) k))) = li (unli (li (Prod.fst (Prod.snd (withL v (unli (li ms)) k))))) ∧ li (xL v ms k) = li (unli (li (xL v ms k))) ∧ List.length (li (Prod.fst (Prod.snd (withL v (unli (li ms)) k)))) ≤ (9223372036854775807 : Nat) ∧ List.length (li (xL v ms k)) ≤ (9223372036854775807 : Nat)) ∧ True ∧ True ∧ cases2 (unli (li (Prod.fst (Prod.snd (withL v (unli (li ms)) k)))) == unli (li (xL v ms k))) (True ∧ True ∧ True ∧ True ∧ ((True ∧ True ∧ True) ∧ li (Prod.fst (Prod.snd (withoutL v (unli (li ms)) k))) = li (unli (li (Prod.fst (Prod.snd (withoutL v (unli (li ms)) k))))) ∧ li (yL v ms k) = li (unli (li (yL v ms k))) ∧ List.length (li (Prod.fst (Prod.snd (withoutL v (unli (li ms)) k)))) ≤ (9223372036854775807 : Nat) ∧ List.length (li (yL v ms k)) ≤ (9223372036854775807 : Nat)) ∧ True ∧ True ∧ cases2 (unli (li (Prod.fst (Prod.snd (withoutL v (unli (li ms)) k)))) == unli (li (yL v ms k))) (True ∧ True ∧ (((True ∧ True ∧ True) ∧ True ∧ True) ∧ li ms = li (unli (li ms))) ∧ True ∧ True ∧ True ∧ True ∧ cases2 (hasB v (unli (li ms)) k == inB v ms k) (True ∧ (((True ∧ True ∧ True) ∧ True) ∧ li ms = li (unli (li ms))) ∧ True ∧ True ∧ True ∧ True ∧ cases2 ((if rightB v (unli (li ms)) = true then (↑(List.length (unli (li ms)) / (2 : Nat) + (1 : Nat)) : Int) else (0 : Int)) == mostI v ms) (True ∧ True ∧ (((True ∧ True ∧ True) ∧ (True ∧ True ∧ True) ∧ True) ∧ li ms = li (unli (li ms)) ∧ li ms = li (unli (li ms)) ∧ List.length (li ms) ≤ (9223372036854775807 : Nat) ∧ List.length (li ms) ≤ (9223372036854775807 : Nat)) ∧ True ∧ True ∧ True ∧ True ∧ True ∧ (v == v && unli (li ms) == unli (li ms)) = true) (True ∧ True ∧ True ∧ True ∧ True ∧ false = true)) (True ∧ True ∧ True ∧ True ∧ True ∧ True ∧ True ∧ false = true)) (True ∧ True ∧ True ∧ True ∧ True ∧ True ∧ True ∧ True ∧ True ∧ false = true)) (True ∧ True ∧ True ∧ True ∧ True ∧ True ∧ True ∧ True ∧ True ∧ True ∧ True ∧ false = true)) (True ∧ True ∧ True ∧ True ∧ True ∧ True ∧ True ∧ True ∧ True ∧ True ∧ True ∧ True ∧ True ∧ false = true)) (True ∧ True ∧ True ∧ True ∧ True ∧ True ∧ True ∧ True ∧ True ∧ True ∧ True ∧ True ∧ True ∧ True ∧ True ∧ false = true)) (True ∧ True ∧ True ∧ True ∧ True ∧ True ∧ True ∧ True ∧ True ∧ True ∧ True ∧ True ∧ True ∧ True ∧ True ∧ True ∧ True ∧ false = true)) (True ∧ True ∧ True ∧ True ∧ True ∧ True ∧ True ∧ True ∧ True ∧ True ∧ True ∧ True ∧ True ∧ True ∧ True ∧ True ∧ True ∧ True ∧ True ∧ false = true))) :
    Spec Try.prog 54 [ls v ms, .i k] [] (.b true) [] :=
  spec_of_tr (by kernel_rfl) hT Try.func54 (c := Try.f54.body.getD .skip) (by kernel_rfl) (O54 v ms k) (Eq.mp (by kernel_rfl) h)

end Ro

namespace Ro
open Go Go.AL Go.Proofs

/-! ## Lists as bits -/
def lst (a : Nat) : List Int := lstB a.testBit 8

theorem okTo_at {ms : List Int} {n : Nat} (h : okTo ms n = true) {i : Nat} (hi : i < n) : badAt ms i = false := by
  unfold okTo at h
  rw [List.all_eq_true] at h
  simpa using h i (List.mem_range.2 hi)

theorem okL_mem {ms : List Int} (h : okL ms = true) {x : Int} (hx : x ∈ ms) : 0 ≤ x ∧ x < 8 := by
  unfold okL at h
  simp only [Bool.and_eq_true] at h
  obtain ⟨i, hi, rfl⟩ := List.getElem_of_mem hx
  have := okTo_at h.2 hi
  unfold badAt at this
  simp only [Bool.or_eq_false_iff, decide_eq_false_iff_not] at this
  have e : ms.getD i 0 = ms[i] := by simp [hi]
  rw [e] at this
  omega

theorem okL_sorted {ms : List Int} (h : okL ms = true) : ms.Pairwise (· < ·) := by
  unfold okL at h
  simp only [Bool.and_eq_true] at h
  have step : ∀ i, i + 1 < ms.length → ms.getD i 0 < ms.getD (i + 1) 0 := by
    intro i hi
    have := okTo_at h.2 hi
    unfold badAt at this
    simp only [Bool.or_eq_false_iff, Bool.and_eq_false_iff, decide_eq_false_iff_not, Nat.add_sub_cancel] at this
    omega
  have mono : ∀ d i, i + d + 1 < ms.length → ms.getD i 0 < ms.getD (i + d + 1) 0 := by
    intro d
    induction d with
    | zero => intro i hi; exact step i hi
    | succ d ih =>
      intro i hi
      have h1 := ih i (by omega)
      have h2 := step (i + d + 1) (by omega)
      have : i + (d + 1) + 1 = i + d + 1 + 1 := by omega
      rw [this]; omega
  rw [List.pairwise_iff_getElem]
  intro i j hi hj hij
  have := mono (j - i - 1) i (by omega)
  rw [show i + (j - i - 1) + 1 = j by omega] at this
  simpa [hi, hj] using this

theorem strict_eq : ∀ (xs ys : List Int), xs.Pairwise (· < ·) → ys.Pairwise (· < ·) → (∀ x, x ∈ xs ↔ x ∈ ys) → xs = ys
  | [], [], _, _, _ => rfl
  | [], y :: ys, _, _, h => by have := (h y).2 (by simp); simp at this
  | x :: xs, [], _, _, h => by have := (h x).1 (by simp); simp at this
  | x :: xs, y :: ys, h1, h2, h => by
    rw [List.pairwise_cons] at h1 h2
    have hxy : x = y := by
      rcases List.mem_cons.1 ((h x).1 (by simp)) with e | e
      · exact e
      · rcases List.mem_cons.1 ((h y).2 (by simp)) with e' | e'
        · exact e'.symm
        · have := h2.1 x e; have := h1.1 y e'; omega
    subst hxy
    congr 1
    refine strict_eq xs ys h1.2 h2.2 fun z => ⟨fun hz => ?_, fun hz => ?_⟩
    · rcases List.mem_cons.1 ((h z).1 (by simp [hz])) with e | e
      · have := h1.1 z hz; omega
      · exact e
    · rcases List.mem_cons.1 ((h z).2 (by simp [hz])) with e | e
      · have := h2.1 z hz; omega
      · exact e

theorem lstB_mem {f : Nat → Bool} : ∀ {n : Nat} {x : Int}, x ∈ lstB f n ↔ ∃ k : Nat, k < n ∧ f k = true ∧ x = k
  | 0, x => by simp [lstB]
  | n + 1, x => by
    unfold lstB
    split
    · rename_i hf
      simp only [List.mem_append, lstB_mem, List.mem_singleton]
      constructor
      · rintro (⟨k, h1, h2, h3⟩ | h)
        · exact ⟨k, by omega, h2, h3⟩
        · exact ⟨n, by omega, hf, h⟩
      · rintro ⟨k, h1, h2, h3⟩
        by_cases hk : k = n
        · subst hk; exact .inr h3
        · exact .inl ⟨k, by omega, h2, h3⟩
    · rename_i hf
      rw [lstB_mem]
      constructor
      · rintro ⟨k, h1, h2, h3⟩; exact ⟨k, by omega, h2, h3⟩
      · rintro ⟨k, h1, h2, h3⟩
        by_cases hk : k = n
        · subst hk; exact absurd h2 hf
        · exact ⟨k, by omega, h2, h3⟩

theorem lstB_sorted (f : Nat → Bool) : ∀ n : Nat, (lstB f n).Pairwise (· < ·)
  | 0 => by simp [lstB]
  | n + 1 => by
    unfold lstB
    split
    · refine List.pairwise_append.2 ⟨lstB_sorted f n, by simp, fun x hx y hy => ?_⟩
      simp at hy; subst hy
      obtain ⟨k, h1, _, rfl⟩ := lstB_mem.1 hx
      omega
    · exact lstB_sorted f n

def numB (b0 b1 b2 b3 b4 b5 b6 b7 : Bool) : Nat := b0.toNat + 2 * b1.toNat + 4 * b2.toNat + 8 * b3.toNat + 16 * b4.toNat + 32 * b5.toNat + 64 * b6.toNat + 128 * b7.toNat
set_option maxRecDepth 100000 in
theorem num_all : ∀ b0 b1 b2 b3 b4 b5 b6 b7 : Bool, lstB (fB b0 b1 b2 b3 b4 b5 b6 b7) 8 = lst (numB b0 b1 b2 b3 b4 b5 b6 b7) ∧ numB b0 b1 b2 b3 b4 b5 b6 b7 < 256 := by decide +kernel

theorem lstB_num (f : Nat → Bool) : ∃ a : Fin 256, lstB f 8 = lst a.val := by
  have h := num_all (f 0) (f 1) (f 2) (f 3) (f 4) (f 5) (f 6) (f 7)
  exact ⟨⟨_, h.2⟩, (lst_fB f).trans h.1⟩

theorem okL_lst {ms : List Int} (h : okL ms = true) : ∃ a : Fin 256, ms = lst a.val := by
  obtain ⟨a, ha⟩ := lstB_num fun n => decide ((n : Int) ∈ ms)
  refine ⟨a, ?_⟩
  rw [← ha]
  refine strict_eq _ _ (okL_sorted h) (lstB_sorted _ _) fun x => ?_
  rw [lstB_mem]
  constructor
  · intro hx
    have := okL_mem h hx
    exact ⟨x.toNat, by omega, by rw [decide_eq_true_eq]; rw [show ((x.toNat : Nat) : Int) = x by omega]; exact hx, by omega⟩
  · rintro ⟨k, _, h2, rfl⟩
    simpa using h2

theorem findI_mem (ms : List Int) (k : Int) : ∀ i : Nat, 0 ≤ findI ms k i ↔ k ∈ ms := by
  induction ms with
  | nil => intro i; simp [findI]
  | cons m ms ih =>
    intro i
    unfold findI
    split
    · rename_i h; subst h; simp
    · rename_i h; rw [ih (i + 1)]; simp [h]

theorem hasL_out {ms : List Int} {k : Int} (h : ¬ (0 ≤ k ∧ k < 8)) : hasL ms k = false := by
  unfold hasL
  cases ho : okL ms with
  | false => rfl
  | true =>
    simp only [Bool.true_and, decide_eq_false_iff_not]
    intro hf
    exact h (okL_mem ho ((findI_mem ms k 0).1 hf))

theorem okL_ins_out {ms : List Int} {k : Int} (h : ¬ (0 ≤ k ∧ k < 8)) : okL (insI k ms) = false := by
  cases ho : okL (insI k ms) with
  | false => rfl
  | true => exact absurd (okL_mem ho (((insI_perm k ms).mem_iff).2 (by simp))) h

/-! ## Facts of all lists, all members -/
def andB (a : Nat) (k : Nat) : Bool := ibits .and ((setI (lst a)).fdiv (2 ^ (UInt64.ofInt (ibits .and (k : Int) 7)).toNat)) 1 == 1
set_option maxRecDepth 100000 in
theorem ok_all : ∀ a : Fin 256, okL (lst a.val) = !(a.val == 0) ∧ setI (lst a.val) = (a.val : Int) ∧ bitsL (a.val : Int) 8 = lst a.val := by decide +kernel
set_option maxRecDepth 100000 in
set_option maxHeartbeats 0 in
theorem has_all : ∀ a : Fin 256, ∀ k : Fin 8, hasL (lst a.val) (k.val : Int) = a.val.testBit k.val ∧ andB a.val k.val = a.val.testBit k.val ∧ (UInt64.ofInt (k.val : Int)).toNat = k.val := by decide +kernel
def orL (a k : Nat) : List Int := bitsL (ibits .or (setI (lst a)) (1 * 2 ^ k)) 8
def noL (a k : Nat) : List Int := bitsL (ibits .andNot (setI (lst a)) (1 * 2 ^ k)) 8
set_option maxRecDepth 100000 in
set_option maxHeartbeats 0 in
theorem ins_all : ∀ a : Fin 256, ∀ k : Fin 8, (a.val.testBit k.val = false → okL (insI (k.val : Int) (lst a.val)) = true ∧ insI (k.val : Int) (lst a.val) = orL a.val k.val) ∧
    (a.val.testBit k.val = true → delI (lst a.val) (k.val : Int) = noL a.val k.val ∧ okL (delI (lst a.val) (k.val : Int)) = decide ((lst a.val).length > 1)) := by decide +kernel
end Ro

namespace Ro
open Go Go.AL Go.Proofs

theorem cntF_step : ∀ (f n : Nat), n < 2 ^ f → cntF (f + 1) n = cntF f n
  | 0, n, h => by
    have : n = 0 := by simpa using h
    subst this; rfl
  | f + 1, n, h => by
    have : n / 2 < 2 ^ f := by rw [Nat.pow_succ] at h; omega
    have ih := cntF_step f (n / 2) this
    show n % 2 + cntF (f + 1) (n / 2) = n % 2 + cntF f (n / 2)
    rw [ih]
theorem cntF_le : ∀ (f n : Nat), cntF f n ≤ f
  | 0, _ => Nat.le_refl _
  | f + 1, n => by have := cntF_le f (n / 2); simp only [cntF]; omega

theorem spec48 (n : Nat) (hn : n < 256) : Spec Try.prog 48 [.i n] [] (.i (cntF 8 n)) [] := by
  refine of48 n (tbl_ok (by simp)) ?_
  simp only [true_and, and_true]
  refine ⟨⟨hn, by omega⟩, by omega, fun s hs => ?_⟩
  obtain ⟨m, c⟩ := s
  simp only at hs ⊢
  have hc := cntF_le 8 n
  refine cases2_dec (fun h => ?_) fun h => ?_
  · have hm : cntF 8 m = m % 2 + cntF 8 (m / 2) := by
      have := cntF_step 7 (m / 2) (by omega)
      show m % 2 + cntF 7 (m / 2) = _
      rw [← this]
    have e1 : ((m : Int)).tdiv 2 = ((m / 2 : Nat) : Int) := by rw [Int.tdiv_eq_ediv_of_nonneg (by omega)]; omega
    have e2 : ((m : Int)).tmod 2 = ((m % 2 : Nat) : Int) := by rw [Int.tmod_eq_emod_of_nonneg (by omega)]; omega
    rw [e1, e2]
    refine ⟨by omega, by omega, by omega, (m / 2, c + m % 2), ?_⟩
    dsimp only
    omega
  · have : m = 0 := by omega
    subst this
    have : cntF 8 0 = 0 := by decide
    omega

theorem ok48 : EntOk Try.prog e48 := by
  intro args ins pre res outs h hp
  simp only [e48] at h ⊢
  unfold s48 at h
  split at h
  · rename_i n
    simp only [Option.some.injEq, Prod.mk.injEq] at h
    obtain ⟨rfl, rfl, rfl⟩ := h
    have := spec48 n.toNat (by omega)
    rwa [show ((n.toNat : Nat) : Int) = n by omega] at this
  · cases h

theorem and7 (m : Int) : 0 ≤ ibits .and m 7 ∧ ibits .and m 7 < 8 := by
  obtain ⟨j, hj⟩ := ibits7 m
  rw [hj]; omega
theorem bit_bd {b : Int} (h : 0 ≤ b ∧ b < 8) : (UInt64.ofInt b).toNat < 64 ∧ (-9223372036854775808 : Int) ≤ 1 * 2 ^ (UInt64.ofInt b).toNat ∧ (1 : Int) * 2 ^ (UInt64.ofInt b).toNat ≤ 9223372036854775807 := by
  have e := ofInt_u64 b
  have e2 : (UInt64.ofInt b).toNat = b.toNat := by omega
  rw [e2]
  have : b.toNat < 8 := by omega
  have h3 : (2 : Int) ^ b.toNat ≤ 2 ^ 8 := by
    have := Nat.pow_le_pow_right (show 0 < 2 by omega) (show b.toNat ≤ 8 by omega)
    exact_mod_cast this
  have h4 : (0 : Int) < 2 ^ b.toNat := Int.pow_pos (by omega)
  omega

theorem setI_step (ms : List Int) (i : Nat) (h : i < ms.length) : ibits .or (setI (ms.take i)) (bitOf (ms.getD i 0)) = setI (ms.take (i + 1)) := by
  unfold setI
  rw [List.take_succ_eq_append_getElem h, List.foldl_append]
  simp [h]

theorem ok47 : EntOk Try.prog e47 := by
  intro args ins pre res outs h hp
  simp only [e47] at h ⊢
  unfold s47 at h
  split at h
  · rename_i v m
    split at h
    · rename_i xs hm
      simp only [Option.some.injEq, Prod.mk.injEq] at h
      obtain ⟨rfl, rfl, rfl⟩ := h
      have hl : (unli xs).length ≤ 1000000 := by rw [unli, List.length_map]; exact hp.2
      have := of47 v (unli xs) (tbl_ok (by simp)) (by
        generalize unli xs = ms at hl
        simp only [true_and, and_true, li_len, Int.toNat_natCast]
        refine ⟨Nat.zero_le _, rfl, fun i hi => ?_⟩
        refine cases2_dec (fun h => ?_) fun h => ?_
        · have hlt : i < ms.length := by omega
          refine ⟨⟨by omega, li_get ms i hlt⟩, bit_bd (and7 _), by omega, i + 1, by omega, by omega, setI_step ms i hlt, by omega⟩
        · rw [List.take_of_length_le (by omega)])
      rw [ls, ← hp.1] at this
      exact this.args (by simp [vles, vle, teq, asL_vle hm])
    · cases h
  · cases h

theorem ok119 : EntOk Try.prog e119 := by
  intro args ins pre res outs h hp
  simp only [e119] at h ⊢
  unfold s119 at h
  split at h
  · rename_i v m
    split at h
    · rename_i xs hm
      simp only [Option.some.injEq, Prod.mk.injEq] at h
      obtain ⟨rfl, rfl, rfl⟩ := h
      have := of119 v (unli xs) (tbl_ok (by simp)) (by
        generalize unli xs = ms
        simp only [true_and, and_true, li_len, Int.toNat_natCast]
        refine cases2_dec (fun h1 => by simp [rightB, h1]) fun h1 => ?_
        refine cases2_dec (fun h2 => by simp [rightB, h2]) fun h2 => ?_
        refine cases2_dec (fun h3 => ?_) fun h3 => ?_
        · have : ms.length < 1 := by omega
          simp [rightB, this]
        refine cases2_dec (fun h4 => ?_) fun h4 => ?_
        · have : 8 < ms.length := by omega
          simp [rightB, this]
        have hr : rightB v ms = okTo ms ms.length := by
          have h5 : ¬ ms.length < 1 := by omega
          have h6 : ¬ 8 < ms.length := by omega
          simp only [rightB, h1, h2, h5, h6, decide_false, Bool.not_false, Bool.true_and]
        rw [hr]
        refine ⟨⟨by omega, rfl⟩, fun i hi => ?_⟩
        obtain ⟨hi1, hi2⟩ := hi
        refine cases2_dec (fun h5 => ?_) fun h5 => ?_
        · have hlt : i < ms.length := by omega
          have next : ∀ (_ : badAt ms i = false), ∃ j, (j ≤ ms.length ∧ okTo ms j = true) ∧ ms.length - j < ms.length - i ∧ (i : Int) + 1 = (j : Int) := fun hb =>
            ⟨i + 1, ⟨by omega, okTo_succ ms i hi2 hb⟩, by omega, by omega⟩
          refine ⟨⟨by omega, li_get ms i hlt⟩, ?_⟩
          refine cases2_dec (fun h6 => (okTo_bad ms i hlt (by simp only [badAt, h6, decide_true, Bool.true_or])).symm) fun h6 => ?_
          refine ⟨⟨by omega, li_get ms i hlt⟩, ?_⟩
          refine cases2_dec (fun h7 => (okTo_bad ms i hlt (by simp only [badAt, h7, decide_true, Bool.true_or, Bool.or_true])).symm) fun h7 => ?_
          refine cases2_dec (fun h8 => ?_) fun h8 => ?_
          · have hp : 0 < i := by omega
            have e : Int.toNat ((i : Int) - 1) = i - 1 := by omega
            simp only [e]
            refine ⟨by omega, ⟨by omega, li_get ms (i - 1) (by omega)⟩, ⟨by omega, li_get ms i hlt⟩, ?_⟩
            refine cases2_dec (fun h9 => (okTo_bad ms i hlt (by simp only [badAt, hp, h9, decide_true, Bool.and_self, Bool.or_true])).symm) fun h9 => ?_
            refine ⟨by omega, next ?_⟩
            simp only [badAt, h6, h7, h9, decide_false, Bool.and_false, Bool.or_false]
          · refine ⟨by omega, next ?_⟩
            have hp : ¬ 0 < i := by omega
            simp only [badAt, h6, h7, hp, decide_false, Bool.false_and, Bool.or_false]
        · have : i = ms.length := by omega
          subst this
          exact hi2.symm)
      rw [ls, ← hp] at this
      exact this.args (by simp [vles, vle, teq, asL_vle hm])
    · cases h
  · cases h
end Ro

namespace Ro
open Go Go.AL Go.Proofs

theorem ok120 : EntOk Try.prog e120 := by
  intro args ins pre res outs h hp
  simp only [e120] at h ⊢
  unfold s120 at h
  split at h
  · rename_i m n
    split at h
    · rename_i xs ys hm hn
      simp only [Option.some.injEq, Prod.mk.injEq] at h
      obtain ⟨rfl, rfl, rfl⟩ := h
      obtain ⟨hp1, hp2, hp3, hp4⟩ := hp
      have hla : (unli xs).length ≤ 9223372036854775807 := by simpa [unli] using hp3
      have := of120 (unli xs) (unli ys) (tbl_ok (by simp)) (by
        generalize unli xs = xa at hla
        generalize unli ys = xb
        simp only [true_and, and_true, li_len, Int.toNat_natCast]
        refine cases2_of (fun h => ?_) fun h => ?_
        · have h : ¬ xa.length = xb.length := by simp at h; omega
          symm
          rw [Bool.eq_false_iff]
          intro hb
          exact h (by rw [eq_of_beq hb])
        · have hlen : xa.length = xb.length := by simp at h; omega
          refine ⟨⟨Nat.zero_le _, rfl⟩, fun i hi => ?_⟩
          obtain ⟨h1, h2⟩ := hi
          refine cases2_dec (fun h3 => ?_) fun h3 => ?_
          · have hlt : i < xa.length := by omega
            refine ⟨⟨by omega, li_get xa i hlt⟩, ⟨by omega, li_get xb i (by omega)⟩, cases2_of (fun h4 => ?_) fun h4 => ?_⟩
            · symm
              rw [Bool.eq_false_iff]
              intro hb
              rw [eq_of_beq hb] at h4
              simp at h4
            · have h4 : xa.getD i 0 = xb.getD i 0 := by simpa using h4
              refine ⟨by omega, i + 1, ⟨by omega, ?_⟩, by omega, by omega⟩
              rw [List.take_add_one, List.take_add_one, h2]
              congr 1
              have e1 : xa[i]? = some (xa.getD i 0) := by simp [hlt]
              have e2 : xb[i]? = some (xb.getD i 0) := by simp [show i < xb.length by omega]
              rw [e1, e2, h4]
          · have hi : i = xa.length := by omega
            subst hi
            rw [List.take_length, hlen, List.take_length] at h2
            subst h2
            simp)
      rw [← hp1, ← hp2] at this
      exact this.args (by simp [vles, asL_vle hm, asL_vle hn])
    · cases h
  · cases h

theorem bv_nat (a : Nat) (h : a < 256) : (BitVec.ofInt 64 (a : Int)).toNat = a := by
  rw [BitVec.toNat_ofInt]; omega
theorem xor_nat (a b : Nat) (ha : a < 256) (hb : b < 256) : ibits .xor (a : Int) (b : Int) = ((a ^^^ b : Nat) : Int) := by
  have h : a ^^^ b < 256 := Nat.xor_lt_two_pow (n := 8) ha hb
  show IntKind.i64.wrap ((BitVec.ofInt 64 (a : Int) ^^^ BitVec.ofInt 64 (b : Int)).toNat : Int) = _
  rw [BitVec.toNat_xor, bv_nat a ha, bv_nat b hb]
  exact wrap_i64 (by unfold InI; omega)
theorem and_nat (a b : Nat) (ha : a < 256) (hb : b < 256) : ibits .and (a : Int) (b : Int) = ((a &&& b : Nat) : Int) := by
  have h : a &&& b < 256 := Nat.lt_of_le_of_lt Nat.and_le_left ha
  show IntKind.i64.wrap ((BitVec.ofInt 64 (a : Int) &&& BitVec.ofInt 64 (b : Int)).toNat : Int) = _
  rw [BitVec.toNat_and, bv_nat a ha, bv_nat b hb]
  exact wrap_i64 (by unfold InI; omega)
theorem or_nat (a b : Nat) (ha : a < 256) (hb : b < 256) : ibits .or (a : Int) (b : Int) = ((a ||| b : Nat) : Int) := by
  have h : a ||| b < 256 := Nat.or_lt_two_pow (n := 8) ha hb
  show IntKind.i64.wrap ((BitVec.ofInt 64 (a : Int) ||| BitVec.ofInt 64 (b : Int)).toNat : Int) = _
  rw [BitVec.toNat_or, bv_nat a ha, bv_nat b hb]
  exact wrap_i64 (by unfold InI; omega)
theorem right_lst {v : UInt64} {ms : List Int} (h : rightB v ms = true) : 1 ≤ v.toNat ∧ v.toNat ≤ 1099511627776 ∧ ∃ a : Fin 256, ms = lst a.val ∧ a.val ≠ 0 := by
  have h' := h
  unfold rightB at h
  simp only [Bool.and_eq_true, Bool.not_eq_true', decide_eq_false_iff_not, UInt64.lt_iff_toNat_lt] at h
  have h1 : 1 ≤ v.toNat := by have := h.1.1.1.1; simp at this; omega
  have h2 : v.toNat ≤ 1099511627776 := by have := h.1.1.1.2; simp at this; omega
  have h3 : okL ms = true := by rw [← right_ok h1 h2]; exact h'
  obtain ⟨a, rfl⟩ := okL_lst h3
  refine ⟨h1, h2, a, rfl, fun e => ?_⟩
  rw [(ok_all a).1, e] at h3
  simp at h3
theorem lst_set (a : Fin 256) : setI (lst a.val) = (a.val : Int) := (ok_all a).2.1

theorem ok56 : EntOk Try.prog e56 := by
  intro args ins pre res outs h hp
  simp only [e56] at h ⊢
  unfold s56 at h
  split at h
  · rename_i v m w n
    split at h
    · rename_i xs ys hm hn
      simp only [Option.some.injEq, Prod.mk.injEq] at h
      obtain ⟨rfl, rfl, rfl⟩ := h
      obtain ⟨hp1, hp2, hp3, hp4⟩ := hp
      have hla : (unli xs).length ≤ 9223372036854775807 := by simpa [unli] using hp3
      have hlb : (unli ys).length ≤ 9223372036854775807 := by simpa [unli] using hp4
      have := of56 v (unli xs) w (unli ys) (tbl_ok (by simp [ok120])) (by
        simp only [true_and, and_true, li_len, unli_li]
        refine cases2_of (fun h => ?_) fun h => ?_
        · simp only [h, Bool.true_and, and_true]; exact ⟨hla, hlb⟩
        · simp [h])
      rw [ls, ls, ← hp1, ← hp2] at this
      exact this.args (by simp [vles, vle, teq, asL_vle hm, asL_vle hn])
    · cases h
  · cases h

theorem ok55 : EntOk Try.prog e55 := by
  intro args ins pre res outs h hp
  simp only [e55] at h ⊢
  unfold s55 at h
  split at h
  · rename_i v m w n
    split at h
    · rename_i xs ys hm hn
      simp only [Option.some.injEq, Prod.mk.injEq] at h
      obtain ⟨rfl, rfl, rfl⟩ := h
      obtain ⟨hp1, hp2⟩ := hp
      have := of55 v (unli xs) w (unli ys) (tbl_ok (by simp [ok119, ok47])) (by
        simp only [true_and, and_true, li_len, unli_li]
        generalize unli xs = xa
        generalize unli ys = xb
        refine cases2_of (fun h => ?_) fun h => ?_
        · simp at h; simp [afterB, h]
        have h1 : rightB v xa = true := by simpa using h
        refine cases2_of (fun h => ?_) fun h => ?_
        · simp at h; simp [afterB, h]
        have h2 : rightB w xb = true := by simpa using h
        have l1 := right_len h1
        have l2 := right_len h2
        refine cases2_of (fun h => ?_) fun h => ?_
        · simp at h; simp [afterB, h]
        have h3 : w = v + 1 := by simpa using h
        refine ⟨by omega, by omega, ?_⟩
        subst h3
        simp only [afterB, h1, h2, afterD, beq_self_eq_true, Bool.true_and]
        refine cases2_of (fun h => ?_) fun h => ?_
        · simp only [h, Bool.true_and, and_true]
          obtain ⟨_, _, a, rfl, _⟩ := right_lst h1
          obtain ⟨_, _, b, rfl, _⟩ := right_lst h2
          rw [lst_set, lst_set, xor_nat _ _ a.isLt b.isLt]
          have : a.val ^^^ b.val < 256 := Nat.xor_lt_two_pow (n := 8) a.isLt b.isLt
          omega
        · simp [h])
      rw [ls, ls, ← hp1, ← hp2] at this
      exact this.args (by simp [vles, vle, teq, asL_vle hm, asL_vle hn])
    · cases h
  · cases h
end Ro

namespace Ro
open Go Go.AL Go.Proofs

theorem hasB_mem {v : UInt64} {ms : List Int} {k : Int} : hasB v ms k = (rightB v ms && decide (k ∈ ms)) := by
  unfold hasB
  congr 1
  rw [decide_eq_decide]
  exact findI_mem ms k 0

theorem lst_sorted (a : Nat) : (lst a).Pairwise (· ≤ ·) := (lstB_sorted _ _).imp (fun h => by omega)

theorem lst_mem {a : Nat} {x : Int} (h : x ∈ lst a) : 0 ≤ x ∧ x < 8 := by
  obtain ⟨k, h1, _, rfl⟩ := lstB_mem.1 h
  omega

theorem lst_testBit (a : Nat) (k : Fin 8) : decide ((k.val : Int) ∈ lst a) = a.testBit k.val := by
  rw [Bool.eq_iff_iff, decide_eq_true_eq]
  unfold lst
  rw [lstB_mem]
  constructor
  · rintro ⟨j, _, h, e⟩
    have : k.val = j := by omega
    rw [this]; exact h
  · intro h
    exact ⟨k.val, k.isLt, h, rfl⟩

/-- The law's bit is the member. -/
theorem inB_eq (v : UInt64) (ms : List Int) (k : Int) : inB v ms k = hasB v ms k := by
  rw [hasB_mem]
  unfold inB
  cases hr : rightB v ms with
  | false => rfl
  | true =>
    obtain ⟨_, _, a, rfl, _⟩ := right_lst hr
    by_cases hk : 0 ≤ k ∧ k < 8
    · obtain ⟨j, rfl⟩ : ∃ j : Fin 8, k = (j.val : Int) := ⟨⟨k.toNat, by omega⟩, by simp; omega⟩
      have h1 : decide ((j.val : Int) ≥ 0) = true := by simp
      have h2 : decide ((j.val : Int) < 8) = true := by have := j.isLt; simp; omega
      rw [h1, h2, lst_testBit]
      exact (has_all a j).2.1
    · have : decide (k ∈ lst a.val) = false := by
        rw [decide_eq_false_iff_not]
        intro h
        exact hk (lst_mem h)
      rw [this]
      simp only [Bool.true_and, Bool.and_eq_false_iff, decide_eq_false_iff_not]
      left
      omega

theorem u64_succ {v : UInt64} (h : v.toNat ≤ 1099511627776) : (v + 1).toNat = v.toNat + 1 := by rw [UInt64.toNat_add]; simp; omega

theorem with_x (v : UInt64) (ms : List Int) (k : Int) : withL v ms k = (xV v ms k, xL v ms k, xB v ms k) ∧ (xB v ms k = true → 0 < v + 1) := by
  have hz : xB v ms k = true → rightB v ms = true ∧ inB v ms k = false ∧ k ≥ 0 ∧ k < 8 ∧ v < 1099511627776 := by
    intro h; unfold xB at h; simp only [Bool.and_eq_true, Bool.not_eq_true', decide_eq_true_eq] at h; exact ⟨h.1.1.1.1, h.1.1.1.2, h.1.1.2, h.1.2, h.2⟩
  cases hr : rightB v ms with
  | false =>
    have hx : xB v ms k = false := by unfold xB; rw [hr]; rfl
    refine ⟨?_, fun h => by rw [hx] at h; cases h⟩
    simp [withL, hr, xV, xL, hx]
  | true =>
    obtain ⟨h1, h2, a, rfl, _⟩ := right_lst hr
    have hs := u64_succ h2
    refine ⟨?_, fun _ => by rw [UInt64.lt_iff_toNat_lt, hs]; simp⟩
    have hin : inB v (lst a.val) k = hasL (lst a.val) k := by rw [inB_eq, has_ok h1 h2]
    by_cases hlt : v < 1099511627776
    · have hlt' : v.toNat < 1099511627776 := by rw [UInt64.lt_iff_toNat_lt] at hlt; simpa using hlt
      have hok : okL (lst a.val) = true := by rw [← right_ok h1 h2]; exact hr
      rw [withL_eq h1 hlt' (lst_sorted _), hok]
      by_cases hk : 0 ≤ k ∧ k < 8
      · obtain ⟨j, rfl⟩ : ∃ j : Fin 8, k = (j.val : Int) := ⟨⟨k.toNat, by omega⟩, by simp; omega⟩
        have hx : xB v (lst a.val) (j.val : Int) = !a.val.testBit j.val := by
          unfold xB
          rw [hr, hin, (has_all a j).1]
          have := j.isLt
          simp [hlt]
          omega
        rw [(has_all a j).1]
        unfold xV xL
        rw [hx, (has_all a j).2.2]
        cases hb : a.val.testBit j.val with
        | true => simp
        | false =>
          obtain ⟨e1, e2⟩ := (ins_all a j).1 hb
          rw [e1]
          simp only [Bool.not_false, Bool.and_self, if_true]
          rw [e2]; rfl
      · have hx : xB v (lst a.val) k = false := by
          cases hq : xB v (lst a.val) k with
          | false => rfl
          | true => have := hz hq; omega
        rw [okL_ins_out hk]
        simp [xV, xL, hx]
    · have hx : xB v (lst a.val) k = false := by
        cases hq : xB v (lst a.val) k with
        | false => rfl
        | true => exact absurd (hz hq).2.2.2.2 hlt
      have hv : rightB (v + 1) (sortI (lst a.val ++ [k])) = false := by
        unfold rightB
        have : decide (1099511627776 < v + 1) = true := by
          rw [decide_eq_true_eq, UInt64.lt_iff_toNat_lt, hs]
          rw [UInt64.lt_iff_toNat_lt] at hlt
          simp at hlt ⊢; omega
        simp [this]
      unfold withL soL
      rw [hv]
      simp [xV, xL, hx]

theorem without_y (v : UInt64) (ms : List Int) (k : Int) : withoutL v ms k = (yV v ms k, yL v ms k, yB v ms k) ∧ (yB v ms k = true → 0 < v + 1) := by
  have hz : yB v ms k = true → hasB v ms k = true ∧ (ms.length : Int) > 1 ∧ v < 1099511627776 := by
    intro h; unfold yB at h; simp only [Bool.and_eq_true, decide_eq_true_eq, inB_eq] at h; exact ⟨h.1.1, h.1.2, h.2⟩
  cases hh : hasB v ms k with
  | false =>
    have hx : yB v ms k = false := by unfold yB; rw [inB_eq, hh]; rfl
    refine ⟨?_, fun h => by rw [hx] at h; cases h⟩
    simp [withoutL, hh, yV, yL, hx]
  | true =>
    have hr : rightB v ms = true := by rw [hasB_mem] at hh; simp at hh; exact hh.1
    obtain ⟨h1, h2, a, rfl, _⟩ := right_lst hr
    have hs := u64_succ h2
    refine ⟨?_, fun _ => by rw [UInt64.lt_iff_toNat_lt, hs]; simp⟩
    have hk : 0 ≤ k ∧ k < 8 := by
      rw [hasB_mem] at hh; simp at hh; exact lst_mem hh.2
    obtain ⟨j, rfl⟩ : ∃ j : Fin 8, k = (j.val : Int) := ⟨⟨k.toNat, by omega⟩, by simp; omega⟩
    have hb : a.val.testBit j.val = true := by rw [← (has_all a j).1, ← has_ok h1 h2]; exact hh
    obtain ⟨e1, e2⟩ := (ins_all a j).2 hb
    by_cases hlt : v < 1099511627776
    · have hlt' : v.toNat < 1099511627776 := by rw [UInt64.lt_iff_toNat_lt] at hlt; simpa using hlt
      have hy : yB v (lst a.val) (j.val : Int) = decide ((lst a.val).length > 1) := by
        unfold yB
        rw [inB_eq, hh]
        simp [hlt]
        constructor <;> intro h <;> omega
      rw [withoutL_eq h1 hlt', (has_all a j).1, hb, e2]
      unfold yV yL
      rw [hy, (has_all a j).2.2]
      by_cases hq : (lst a.val).length > 1
      · simp only [hq, decide_true, Bool.and_self, if_true]
        rw [e1]; rfl
      · simp [hq]
    · have hx : yB v (lst a.val) (j.val : Int) = false := by
        cases hq : yB v (lst a.val) (j.val : Int) with
        | false => rfl
        | true => exact absurd (hz hq).2.2 hlt
      have hv : rightB (v + 1) (delI (lst a.val) (j.val : Int)) = false := by
        unfold rightB
        have : decide (1099511627776 < v + 1) = true := by
          rw [decide_eq_true_eq, UInt64.lt_iff_toNat_lt, hs]
          rw [UInt64.lt_iff_toNat_lt] at hlt
          simp at hlt ⊢; omega
        simp [this]
      unfold withoutL soL
      rw [hv]
      simp [yV, yL, hx]

theorem xL_len (v : UInt64) (ms : List Int) (k : Int) : (xL v ms k).length ≤ 8 := by
  unfold xL
  split
  · exact bitsL_len _ 8
  · simp
theorem yL_len (v : UInt64) (ms : List Int) (k : Int) : (yL v ms k).length ≤ 8 := by
  unfold yL
  split
  · exact bitsL_len _ 8
  · simp

theorem ok54 : EntOk Try.prog e54 := by
  intro args ins pre res outs h hp
  simp only [e54] at h ⊢
  unfold s54 at h
  split at h
  · rename_i v m k
    split at h
    · rename_i xs hm
      simp only [Option.some.injEq, Prod.mk.injEq] at h
      obtain ⟨rfl, rfl, rfl⟩ := h
      obtain ⟨hp1, hp2⟩ := hp
      have hlen : (unli xs).length ≤ 9223372036854775807 := by rw [unli_len]; exact hp2
      have := of54 v (unli xs) k (tbl_ok (by simp [ok119, ok112, ok47, ok46, ok51 ok116, ok45, ok35, ok53, ok49, ok56])) (by
        simp only [true_and, and_true, li_len, unli_li]
        generalize unli xs = ms at hlen
        have hw := with_x v ms k
        have hy := without_y v ms k
        rw [hw.1, hy.1]
        have hx0 : decide (0 < xV v ms k) = xB v ms k := by
          unfold xV
          cases hq : xB v ms k with
          | false => simp
          | true => simpa using hw.2 hq
        have hy0 : decide (0 < yV v ms k) = yB v ms k := by
          unfold yV
          cases hq : yB v ms k with
          | false => simp
          | true => simpa using hy.2 hq
        have lx := xL_len v ms k
        have ly := yL_len v ms k
        have hmost : (if rightB v ms = true then ((ms.length / 2 + 1 : Nat) : Int) else 0) = mostI v ms := by
          unfold mostI
          split
          · rw [Int.tdiv_eq_ediv_of_nonneg (by omega)]; omega
          · rfl
        have hlr : rightB v ms = true → ms.length ≤ 8 := fun h => (right_len h).2
        have bit := fun (h : 0 ≤ k ∧ k < 8) => bit_bd h
        have bit7 := (bit_bd (and7 k)).1
        refine cases2_of (fun h => by simp at h) fun _ => ?_
        refine ⟨?_, ?_, ?_, ?_, ?_⟩
        · refine cases2_of (fun h1 => ?_) fun h1 => by simp [inB, h1]
          refine cases2_dec (fun h2 => ?_) fun h2 => by simp [inB, h1, h2]
          refine cases2_dec (fun h3 => ?_) fun h3 => by simp [inB, h1, h2, h3]
          exact ⟨by have := hlr h1; omega, bit7, by simp [inB, h1, h2, h3]⟩
        · refine cases2_of (fun h1 => ?_) fun h1 => by simp [xV, xL, xB, h1, li]
          refine cases2_of (fun h2 => ?_) fun h2 => by simp at h2; simp [xV, xL, xB, h1, h2, li]
          simp at h2
          refine cases2_dec (fun h3 => ?_) fun h3 => by simp [xV, xL, xB, h1, h2, h3, li]
          refine cases2_dec (fun h4 => ?_) fun h4 => by simp [xV, xL, xB, h1, h2, h3, h4, li]
          refine cases2_dec (fun h5 => ?_) fun h5 => by simp [xV, xL, xB, h1, h2, h3, h4, h5, li]
          have hxx : xB v ms k = true := by simp [xB, h1, h2, h3, h4, h5]
          exact ⟨by have := hlr h1; omega, bit ⟨h3, h4⟩, by simp [xV, hxx], by simp [xL, hxx]⟩
        · refine cases2_of (fun h1 => ?_) fun h1 => by simp [yV, yL, yB, h1, li]
          have hhas : hasB v ms k = true := by rw [← inB_eq]; exact h1
          rw [hasB_mem] at hhas
          simp at hhas
          obtain ⟨_, _, a, hms, _⟩ := right_lst hhas.1
          have hk : 0 ≤ k ∧ k < 8 := by rw [hms] at hhas; exact lst_mem hhas.2
          refine cases2_dec (fun h3 => ?_) fun h3 => by simp [yV, yL, yB, h1, h3, li]
          refine cases2_dec (fun h4 => ?_) fun h4 => by simp [yV, yL, yB, h1, h3, h4, li]
          have hyy : yB v ms k = true := by simp only [yB, h1, h3, h4, decide_true, Bool.and_self]
          exact ⟨by have := hlr hhas.1; omega, bit hk, by simp [yV, hyy], by simp [yL, hyy]⟩
        · refine cases2_of (fun h1 => ?_) fun h1 => by simp [mostI, h1]
          have := hlr h1
          rw [Int.tdiv_eq_ediv_of_nonneg (by omega)]
          refine ⟨by omega, by omega, ?_⟩
          simp only [mostI, h1, if_true]
          rw [Int.tdiv_eq_ediv_of_nonneg (by omega)]
        · rw [hx0, hy0]
          simp only [beq_self_eq_true, cases2, inB_eq, hmost]
          exact ⟨⟨by omega, by omega⟩, ⟨by omega, by omega⟩, ⟨hlen, hlen⟩, rfl⟩)
      rw [ls, ← hp1] at this
      exact this.args (by simp [vles, vle, teq, asL_vle hm])
    · cases h
  · cases h
end Ro

namespace Ro
open Go Go.AL Go.Proofs
def O9 : Orc2 := orc (fun _ => []) fun l => match l with
  | 0 => .inv Nat 0 (fun i => i ≤ 256) (fun i => 256 - i) [] (fun i => [(1, .i i)]) [] (fun _ => []) [] (fun _ _ => [])
      (fun _ _ => .inv Nat 0 (fun j => j ≤ 11) (fun j => 11 - j) [] (fun j => [(2, .i ((j : Int) - 1))]) [1] (fun _ => []) [] (fun _ _ => []) (fun _ _ => .unroll 0))
  | 2 => .unroll 9
  | _ => .inv Nat 0 (fun j => j ≤ 11) (fun j => 11 - j) [] (fun j => [(5, .i ((j : Int) - 1))]) [4, 37, 38, 39] (fun _ => []) [8, 10, 11, 12, 13, 14, 15, 16, 17] (fun _ _ => []) (fun _ _ => .unroll 0)
def xor1 (a k : Int) : Int := ibits .xor (ibits .and a 255) (1 * 2 ^ (UInt64.ofInt (ibits .and k 7)).toNat)
end Ro

namespace Ro
open Go Go.AL Go.Proofs
set_option maxRecDepth 100000
theorem of7 (b k p q : Int) (hT : TblOk Try.prog (tbl [e45, e46, e47, e48, e49, e50]))
    (h : True ∧ True ∧ True ∧ True ∧ ((True ∧ True ∧ True) ∧ True) ∧ True ∧ True ∧ True ∧ True ∧ True ∧ (((True ∧ True ∧ True) ∧ True ∧ True) ∧ li (bitsL (ibits BinOp.or (ibits BinOp.and b (255 : Int)) (1 : Int)) (8 : Nat)) = li (unli (li (bitsL (ibits BinOp.or (ibits BinOp.and b (255 : Int)) (1 : Int)) (8 : Nat))))) ∧ True ∧ True ∧ True ∧ True ∧ True ∧ True ∧ True ∧ True ∧ cases2 (!Prod.snd (Prod.snd (withL (1 : UInt64) (unli (li (bitsL (ibits BinOp.or (ibits BinOp.and b (255 : Int)) (1 : Int)) (8 : Nat)))) (ibits BinOp.and k (7 : Int))))) (True ∧ True ∧ True ∧ True ∧ True ∧ True ∧ (((True ∧ True ∧ True) ∧ True) ∧ li (bitsL (ibits BinOp.or (ibits BinOp.and b (255 : Int)) (1 : Int)) (8 : Nat)) = li (unli (li (bitsL (ibits BinOp.or (ibits BinOp.and b (255 : Int)) (1 : Int)) (8 : Nat)))) ∧ List.length (li (bitsL (ibits BinOp.or (ibits BinOp.and b (255 : Int)) (1 : Int)) (8 : Nat))) ≤ (1000000 : Nat)) ∧ True ∧ True ∧ True ∧ True ∧ True ∧ True ∧ True ∧ True ∧ True ∧ True ∧ True ∧ ((True ∧ True) ∧ (0 : Int) ≤ ibits BinOp.and p (ibits BinOp.or (ibits BinOp.and b (255 : Int)) (1 : Int)) ∧ ibits BinOp.and p (ibits BinOp.or (ibits BinOp.and b (255 : Int)) (1 : Int)) + (1 : Int) ≤ (256 : Int)) ∧ True ∧ (((True ∧ True ∧ True) ∧ True) ∧ li (bitsL (ibits BinOp.or (ibits BinOp.and b (255 : Int)) (1 : Int)) (8 : Nat)) = li (unli (li (bitsL (ibits BinOp.or (ibits BinOp.and b (255 : Int)) (1 : Int)) (8 : Nat))))) ∧ True ∧ True ∧ cases2 (decide ((↑(cntF (8 : Nat) (Int.toNat (ibits BinOp.and p (ibits BinOp.or (ibits BinOp.and b (255 : Int)) (1 : Int))))) : Int) < if rightB (1 : UInt64) (unli (li (bitsL (ibits BinOp.or (ibits BinOp.and b (255 : Int)) (1 : Int)) (8 : Nat)))) = true then (↑(List.length (unli (li (bitsL (ibits BinOp.or (ibits BinOp.and b (255 : Int)) (1 : Int)) (8 : Nat)))) / (2 : Nat) + (1 : Nat)) : Int) else (0 : Int))) (True ∧ (True ∧ True) ∧ True ∧ True ∧ True ∧ True ∧ true = true) (True ∧ ((True ∧ True) ∧ (0 : Int) ≤ ibits BinOp.and q (setI (unli (li (bitsL (ibits BinOp.or (ibits BinOp.and b (255 : Int)) (1 : Int)) (8 : Nat))))) ∧ ibits BinOp.and q (setI (unli (li (bitsL (ibits BinOp.or (ibits BinOp.and b (255 : Int)) (1 : Int)) (8 : Nat))))) + (1 : Int) ≤ (256 : Int)) ∧ True ∧ (((True ∧ True ∧ True) ∧ True) ∧ li (bitsL (ibits BinOp.or (ibits BinOp.and b (255 : Int)) (1 : Int)) (8 : Nat)) = li (unli (li (bitsL (ibits BinOp.or (ibits BinOp.and b (255 : Int)) (1 : Int)) (8 : Nat))))) ∧ True ∧ True ∧ cases2 (decide ((↑(cntF (8 : Nat) (Int.toNat (ibits BinOp.and q (setI (unli (li (bitsL (ibits BinOp.or (ibits BinOp.and b (255 : Int)) (1 : Int)) (8 : Nat)))))))) : Int) < if rightB (1 : UInt64) (unli (li (bitsL (ibits BinOp.or (ibits BinOp.and b (255 : Int)) (1 : Int)) (8 : Nat)))) = true then (↑(List.length (unli (li (bitsL (ibits BinOp.or (ibits BinOp.and b (255 : Int)) (1 : Int)) (8 : Nat)))) / (2 : Nat) + (1 : Nat)) : Int) else (0 : Int))) ((True ∧ True) ∧ True ∧ True ∧ True ∧ True ∧ true = true) (True ∧ True ∧ True ∧ True ∧ True ∧ cases2 (ibits BinOp.and (ibits BinOp.and p (ibits BinOp.or (ibits BinOp.and b (255 : Int)) (1 : Int))) (ibits BinOp.and q (setI (unli (li (bitsL (ibits BinOp.or (ibits BinOp.and b (255 : Int)) (1 : Int)) (8 : Nat)))))) != (0 : Int)) ((True ∧ True) ∧ True ∧ True ∧ True ∧ True ∧ True ∧ true = true) (True ∧ True ∧ True ∧ True ∧ True ∧ false = true)))) (True ∧ True ∧ True ∧ True ∧ (((True ∧ True ∧ True) ∧ True) ∧ li (Prod.fst (Prod.snd (withL (1 : UInt64) (unli (li (bitsL (ibits BinOp.or (ibits BinOp.and b (255 : Int)) (1 : Int)) (8 : Nat)))) (ibits BinOp.and k (7 : Int))))) = li (unli (li (Prod.fst (Prod.snd (withL (1 : UInt64) (unli (li (bitsL (ibits BinOp.or (ibits BinOp.and b (255 : Int)) (1 : Int)) (8 : Nat)))) (ibits BinOp.and k (7 : Int))))))) ∧ List.length (li (Prod.fst (Prod.snd (withL (1 : UInt64) (unli (li (bitsL (ibits BinOp.or (ibits BinOp.and b (255 : Int)) (1 : Int)) (8 : Nat)))) (ibits BinOp.and k (7 : Int)))))) ≤ (1000000 : Nat)) ∧ True ∧ True ∧ True ∧ True ∧ True ∧ True ∧ True ∧ True ∧ True ∧ True ∧ True ∧ ((True ∧ True) ∧ (0 : Int) ≤ ibits BinOp.and p (ibits BinOp.or (ibits BinOp.and b (255 : Int)) (1 : Int)) ∧ ibits BinOp.and p (ibits BinOp.or (ibits BinOp.and b (255 : Int)) (1 : Int)) + (1 : Int) ≤ (256 : Int)) ∧ True ∧ (((True ∧ True ∧ True) ∧ True) ∧ li (bitsL (ibits BinOp.or (ibits BinOp.and b (255 : Int)) (1 : Int)) (8 : Nat)) = li (unli (li (bitsL (ibits BinOp.or (ibits BinOp.and b (255 : Int)) (1 : Int)) (8 : Nat))))) ∧ True ∧ True ∧ cases2 (decide ((↑(cntF (8 : Nat) (Int.toNat (ibits BinOp.and p (ibits BinOp.or (ibits BinOp.and b (255 : Int)) (1 : Int))))) : Int) < if rightB (1 : UInt64) (unli (li (bitsL (ibits BinOp.or (ibits BinOp.and b (255 : Int)) (1 : Int)) (8 : Nat)))) = true then (↑(List.length (unli (li (bitsL (ibits BinOp.or (ibits BinOp.and b (255 : Int)) (1 : Int)) (8 : Nat)))) / (2 : Nat) + (1 : Nat)) : Int) else (0 : Int))) (True ∧ (True ∧ True) ∧ True ∧ True ∧ True ∧ True ∧ true = true) (True ∧ ((True ∧ True) ∧ (0 : Int) ≤ ibits BinOp.and q (setI (unli (li (Prod.fst (Prod.snd (withL (1 : UInt64) (unli (li (bitsL (ibits BinOp.or (ibits BinOp.and b (255 : Int)) (1 : Int)) (8 : Nat)))) (ibits BinOp.and k (7 : Int)))))))) ∧ ibits BinOp.and q (setI (unli (li (Prod.fst (Prod.snd (withL (1 : UInt64) (unli (li (bitsL (ibits BinOp.or (ibits BinOp.and b (255 : Int)) (1 : Int)) (8 : Nat)))) (ibits BinOp.and k (7 : Int)))))))) + (1 : Int) ≤ (256 : Int)) ∧ True ∧ (((True ∧ True ∧ True) ∧ True) ∧ li (Prod.fst (Prod.snd (withL (1 : UInt64) (unli (li (bitsL (ibits BinOp.or (ibits BinOp.and b (255 : Int)) (1 : Int)) (8 : Nat)))) (ibits BinOp.and k (7 : Int))))) = li (unli (li (Prod.fst (Prod.snd (withL (1 : UInt64) (unli (li (bitsL (ibits BinOp.or (ibits BinOp.and b (255 : Int)) (1 : Int)) (8 : Nat)))) (ibits BinOp.and k (7 : Int)))))))) ∧ True ∧ True ∧ cases2 (decide ((↑(cntF (8 : Nat) (Int.toNat (ibits BinOp.and q (setI (unli (li (Prod.fst (Prod.snd (withL (1 : UInt64) (unli (li (bitsL (ibits BinOp.or (ibits BinOp.and b (255 : Int)) (1 : Int)) (8 : Nat)))) (ibits BinOp.and k (7 : Int))))))))))) : Int) < if rightB (Prod.fst (withL (1 : UInt64) (unli (li (bitsL (ibits BinOp.or (ibits BinOp.and b (255 : Int)) (1 : Int)) (8 : Nat)))) (ibits BinOp.and k (7 : Int)))) (unli (li (Prod.fst (Prod.snd (withL (1 : UInt64) (unli (li (bitsL (ibits BinOp.or (ibits BinOp.and b (255 : Int)) (1 : Int)) (8 : Nat)))) (ibits BinOp.and k (7 : Int))))))) = true then (↑(List.length (unli (li (Prod.fst (Prod.snd (withL (1 : UInt64) (unli (li (bitsL (ibits BinOp.or (ibits BinOp.and b (255 : Int)) (1 : Int)) (8 : Nat)))) (ibits BinOp.and k (7 : Int))))))) / (2 : Nat) + (1 : Nat)) : Int) else (0 : Int))) ((True ∧ True) ∧ True ∧ True ∧ True ∧ True ∧ true = true) (True ∧ True ∧ True ∧ True ∧ True ∧ cases2 (ibits BinOp.and (ibits BinOp.and p (ibits BinOp.or (ibits BinOp.and b (255 : Int)) (1 : Int))) (ibits BinOp.and q (setI (unli (li (Prod.fst (Prod.snd (withL (1 : UInt64) (unli (li (bitsL (ibits BinOp.or (ibits BinOp.and b (255 : Int)) (1 : Int)) (8 : Nat)))) (ibits BinOp.and k (7 : Int))))))))) != (0 : Int)) ((True ∧ True) ∧ True ∧ True ∧ True ∧ True ∧ True ∧ true = true) (True ∧ True ∧ True ∧ True ∧ True ∧ false = true))))) :
    Spec Try.prog 7 [.i b, .i k, .i p, .i q] [] (.b true) [] :=
  spec_of_tr (by kernel_rfl) hT Try.func7 (c := Try.f7.body.getD .skip) (by kernel_rfl) (noO) (Eq.mp (by kernel_rfl) h)

theorem of9  (hT : TblOk Try.prog (tbl [e45, e54, e50]))
    (h : True ∧ True ∧ True ∧ (0 : Nat) ≤ (256 : Nat) ∧ (((0 : Int) = (0 : Int) ∧ True) ∧ True) ∧ ∀ (i : Nat), i ≤ (256 : Nat) → True ∧ True ∧ cases2 (decide ((↑i : Int) < (256 : Int))) (True ∧ True ∧ (0 : Nat) ≤ (11 : Nat) ∧ (((↑i : Int) = (↑i : Int) ∧ (-1 : Int) = (0 : Int) - (1 : Int) ∧ True) ∧ True) ∧ ∀ (i_1 : Nat), i_1 ≤ (11 : Nat) → True ∧ True ∧ cases2 (decide ((↑i_1 : Int) - (1 : Int) < (10 : Int))) (True ∧ ((3 : Int) = (0 : Int) → False) ∧ True ∧ True ∧ ((True ∧ True ∧ True) ∧ True) ∧ True ∧ (((True ∧ True ∧ True) ∧ True ∧ True) ∧ li (bitsL (↑i : Int) (8 : Nat)) = li (unli (li (bitsL (↑i : Int) (8 : Nat)))) ∧ List.length (li (bitsL (↑i : Int) (8 : Nat))) ≤ (9223372036854775807 : Nat)) ∧ True ∧ True ∧ ((-9223372036854775808 : Int) ≤ (↑i_1 : Int) - (1 : Int) + (1 : Int) ∧ (↑i_1 : Int) - (1 : Int) + (1 : Int) ≤ (9223372036854775807 : Int)) ∧ True ∧ ∃ j, j ≤ (11 : Nat) ∧ (11 : Nat) - j < (11 : Nat) - i_1 ∧ ((↑i : Int) = (↑i : Int) ∧ (↑i_1 : Int) - (1 : Int) + (1 : Int) = (↑j : Int) - (1 : Int) ∧ True) ∧ True) (True ∧ ((-9223372036854775808 : Int) ≤ (↑i : Int) + (1 : Int) ∧ (↑i : Int) + (1 : Int) ≤ (9223372036854775807 : Int)) ∧ True ∧ ∃ j, j ≤ (256 : Nat) ∧ (256 : Nat) - j < (256 : Nat) - i ∧ ((↑i : Int) + (1 : Int) = (↑j : Int) ∧ True) ∧ True)) (True ∧ True ∧ True ∧ True ∧ True ∧ True ∧ True ∧ True ∧ True ∧ True ∧ True ∧ True ∧ True ∧ ((0 : Int) ≤ (9 : Int) ∧ (9 : Int) ≤ (9 : Int) ∧ (72 : Int) ≤ (140737488355328 : Int) ∧ (9 : Int) ≤ (9223372036854775807 : Int)) ∧ True ∧ ((True ∧ True ∧ True) ∧ (True ∧ True ∧ True) ∧ (True ∧ True ∧ True) ∧ (True ∧ True ∧ True) ∧ (True ∧ True ∧ True) ∧ (True ∧ True ∧ True) ∧ (True ∧ True ∧ True) ∧ (True ∧ True ∧ True) ∧ True) ∧ True ∧ True ∧ True ∧ ((0 : Int) ≤ (0 : Int) ∧ (1 : Int) ≤ (8 : Int)) ∧ True ∧ True ∧ True ∧ True ∧ True ∧ (0 : Nat) ≤ (11 : Nat) ∧ ((True ∧ (-1 : Int) = (0 : Int) - (1 : Int) ∧ True ∧ (8 : Int) = (8 : Int) ∧ (0 : Int) = (0 : Int) ∧ True) ∧ [T.agg [T.u64 (0 : UInt64), T.v (Value.slice none (0 : Nat) (0 : Nat))], T.agg [T.u64 (1099511627776 : UInt64), T.sl Sk.lf [T.i (1 : Int)]], T.agg [T.u64 (1099511627777 : UInt64), T.sl Sk.lf [T.i (1 : Int)]], T.agg [T.u64 (1 : UInt64), T.sl Sk.lf [T.i (2 : Int), T.i (1 : Int)]], T.agg [T.u64 (1 : UInt64), T.sl Sk.lf [T.i (1 : Int), T.i (1 : Int)]], T.agg [T.u64 (1 : UInt64), T.sl Sk.lf [T.i (-1 : Int)]], T.agg [T.u64 (1 : UInt64), T.sl Sk.lf [T.i (8 : Int)]], T.agg [T.u64 (1 : UInt64), T.sl Sk.lf (List.replicate (9 : Nat) (T.i (0 : Int)))]] = [T.agg [T.u64 (0 : UInt64), T.v (Value.slice none (0 : Nat) (0 : Nat))], T.agg [T.u64 (1099511627776 : UInt64), T.sl Sk.lf [T.i (1 : Int)]], T.agg [T.u64 (1099511627777 : UInt64), T.sl Sk.lf [T.i (1 : Int)]], T.agg [T.u64 (1 : UInt64), T.sl Sk.lf [T.i (2 : Int), T.i (1 : Int)]], T.agg [T.u64 (1 : UInt64), T.sl Sk.lf [T.i (1 : Int), T.i (1 : Int)]], T.agg [T.u64 (1 : UInt64), T.sl Sk.lf [T.i (-1 : Int)]], T.agg [T.u64 (1 : UInt64), T.sl Sk.lf [T.i (8 : Int)]], T.agg [T.u64 (1 : UInt64), T.sl Sk.lf (List.replicate (9 : Nat) (T.i (0 : Int)))]] ∧ ((0 : UInt64) = (0 : UInt64) ∧ T.v (Value.slice none (0 : Nat) (0 : Nat)) = T.v (Value.slice none (0 : Nat) (0 : Nat)) ∧ True) ∧ True) ∧ ∀ (i : Nat), i ≤ (11 : Nat) → True ∧ True ∧ cases2 (decide ((↑i : Int) - (1 : Int) < (10 : Int))) (True ∧ True ∧ (((True ∧ True ∧ True) ∧ True ∧ True) ∧ [] = li (unli []) ∧ (0 : Nat) ≤ (9223372036854775807 : Nat)) ∧ True ∧ True ∧ ((-9223372036854775808 : Int) ≤ (↑i : Int) - (1 : Int) + (1 : Int) ∧ (↑i : Int) - (1 : Int) + (1 : Int) ≤ (9223372036854775807 : Int)) ∧ True ∧ ∃ j, j ≤ (11 : Nat) ∧ (11 : Nat) - j < (11 : Nat) - i ∧ (True ∧ (↑i : Int) - (1 : Int) + (1 : Int) = (↑j : Int) - (1 : Int) ∧ True ∧ (8 : Int) = (8 : Int) ∧ (0 : Int) = (0 : Int) ∧ True) ∧ [T.agg [T.u64 (0 : UInt64), T.v (Value.slice none (0 : Nat) (0 : Nat))], T.agg [T.u64 (1099511627776 : UInt64), T.sl Sk.lf [T.i (1 : Int)]], T.agg [T.u64 (1099511627777 : UInt64), T.sl Sk.lf [T.i (1 : Int)]], T.agg [T.u64 (1 : UInt64), T.sl Sk.lf [T.i (2 : Int), T.i (1 : Int)]], T.agg [T.u64 (1 : UInt64), T.sl Sk.lf [T.i (1 : Int), T.i (1 : Int)]], T.agg [T.u64 (1 : UInt64), T.sl Sk.lf [T.i (-1 : Int)]], T.agg [T.u64 (1 : UInt64), T.sl Sk.lf [T.i (8 : Int)]], T.agg [T.u64 (1 : UInt64), T.sl Sk.lf (List.replicate (9 : Nat) (T.i (0 : Int)))]] = [T.agg [T.u64 (0 : UInt64), T.v (Value.slice none (0 : Nat) (0 : Nat))], T.agg [T.u64 (1099511627776 : UInt64), T.sl Sk.lf [T.i (1 : Int)]], T.agg [T.u64 (1099511627777 : UInt64), T.sl Sk.lf [T.i (1 : Int)]], T.agg [T.u64 (1 : UInt64), T.sl Sk.lf [T.i (2 : Int), T.i (1 : Int)]], T.agg [T.u64 (1 : UInt64), T.sl Sk.lf [T.i (1 : Int), T.i (1 : Int)]], T.agg [T.u64 (1 : UInt64), T.sl Sk.lf [T.i (-1 : Int)]], T.agg [T.u64 (1 : UInt64), T.sl Sk.lf [T.i (8 : Int)]], T.agg [T.u64 (1 : UInt64), T.sl Sk.lf (List.replicate (9 : Nat) (T.i (0 : Int)))]] ∧ ((0 : UInt64) = (0 : UInt64) ∧ T.v (Value.slice none (0 : Nat) (0 : Nat)) = T.v (Value.slice none (0 : Nat) (0 : Nat)) ∧ True) ∧ True) (((-9223372036854775808 : Int) ≤ (1 : Int) ∧ (1 : Int) ≤ (9223372036854775807 : Int)) ∧ True ∧ True ∧ ((0 : Int) ≤ (1 : Int) ∧ (2 : Int) ≤ (8 : Int)) ∧ True ∧ True ∧ True ∧ True ∧ True ∧ (0 : Nat) ≤ (11 : Nat) ∧ ((True ∧ (-1 : Int) = (0 : Int) - (1 : Int) ∧ True ∧ (8 : Int) = (8 : Int) ∧ (1 : Int) = (1 : Int) ∧ True) ∧ [T.agg [T.u64 (0 : UInt64), T.v (Value.slice none (0 : Nat) (0 : Nat))], T.agg [T.u64 (1099511627776 : UInt64), T.sl Sk.lf [T.i (1 : Int)]], T.agg [T.u64 (1099511627777 : UInt64), T.sl Sk.lf [T.i (1 : Int)]], T.agg [T.u64 (1 : UInt64), T.sl Sk.lf [T.i (2 : Int), T.i (1 : Int)]], T.agg [T.u64 (1 : UInt64), T.sl Sk.lf [T.i (1 : Int), T.i (1 : Int)]], T.agg [T.u64 (1 : UInt64), T.sl Sk.lf [T.i (-1 : Int)]], T.agg [T.u64 (1 : UInt64), T.sl Sk.lf [T.i (8 : Int)]], T.agg [T.u64 (1 : UInt64), T.sl Sk.lf (List.replicate (9 : Nat) (T.i (0 : Int)))]] = [T.agg [T.u64 (0 : UInt64), T.v (Value.slice none (0 : Nat) (0 : Nat))], T.agg [T.u64 (1099511627776 : UInt64), T.sl Sk.lf [T.i (1 : Int)]], T.agg [T.u64 (1099511627777 : UInt64), T.sl Sk.lf [T.i (1 : Int)]], T.agg [T.u64 (1 : UInt64), T.sl Sk.lf [T.i (2 : Int), T.i (1 : Int)]], T.agg [T.u64 (1 : UInt64), T.sl Sk.lf [T.i (1 : Int), T.i (1 : Int)]], T.agg [T.u64 (1 : UInt64), T.sl Sk.lf [T.i (-1 : Int)]], T.agg [T.u64 (1 : UInt64), T.sl Sk.lf [T.i (8 : Int)]], T.agg [T.u64 (1 : UInt64), T.sl Sk.lf (List.replicate (9 : Nat) (T.i (0 : Int)))]] ∧ ((0 : UInt64) = (0 : UInt64) ∧ T.v (Value.slice none (0 : Nat) (0 : Nat)) = T.v (Value.slice none (0 : Nat) (0 : Nat)) ∧ True) ∧ ((1099511627776 : UInt64) = (1099511627776 : UInt64) ∧ [T.i (1 : Int)] = [T.i (1 : Int)] ∧ True) ∧ True) ∧ ∀ (i : Nat), i ≤ (11 : Nat) → True ∧ True ∧ cases2 (decide ((↑i : Int) - (1 : Int) < (10 : Int))) (True ∧ True ∧ (((True ∧ True ∧ True) ∧ True ∧ True) ∧ [T.i (1 : Int)] = li (unli [T.i (1 : Int)]) ∧ (1 : Nat) ≤ (9223372036854775807 : Nat)) ∧ True ∧ True ∧ ((-9223372036854775808 : Int) ≤ (↑i : Int) - (1 : Int) + (1 : Int) ∧ (↑i : Int) - (1 : Int) + (1 : Int) ≤ (9223372036854775807 : Int)) ∧ True ∧ ∃ j, j ≤ (11 : Nat) ∧ (11 : Nat) - j < (11 : Nat) - i ∧ (True ∧ (↑i : Int) - (1 : Int) + (1 : Int) = (↑j : Int) - (1 : Int) ∧ True ∧ (8 : Int) = (8 : Int) ∧ (1 : Int) = (1 : Int) ∧ True) ∧ [T.agg [T.u64 (0 : UInt64), T.v (Value.slice none (0 : Nat) (0 : Nat))], T.agg [T.u64 (1099511627776 : UInt64), T.sl Sk.lf [T.i (1 : Int)]], T.agg [T.u64 (1099511627777 : UInt64), T.sl Sk.lf [T.i (1 : Int)]], T.agg [T.u64 (1 : UInt64), T.sl Sk.lf [T.i (2 : Int), T.i (1 : Int)]], T.agg [T.u64 (1 : UInt64), T.sl Sk.lf [T.i (1 : Int), T.i (1 : Int)]], T.agg [T.u64 (1 : UInt64), T.sl Sk.lf [T.i (-1 : Int)]], T.agg [T.u64 (1 : UInt64), T.sl Sk.lf [T.i (8 : Int)]], T.agg [T.u64 (1 : UInt64), T.sl Sk.lf (List.replicate (9 : Nat) (T.i (0 : Int)))]] = [T.agg [T.u64 (0 : UInt64), T.v (Value.slice none (0 : Nat) (0 : Nat))], T.agg [T.u64 (1099511627776 : UInt64), T.sl Sk.lf [T.i (1 : Int)]], T.agg [T.u64 (1099511627777 : UInt64), T.sl Sk.lf [T.i (1 : Int)]], T.agg [T.u64 (1 : UInt64), T.sl Sk.lf [T.i (2 : Int), T.i (1 : Int)]], T.agg [T.u64 (1 : UInt64), T.sl Sk.lf [T.i (1 : Int), T.i (1 : Int)]], T.agg [T.u64 (1 : UInt64), T.sl Sk.lf [T.i (-1 : Int)]], T.agg [T.u64 (1 : UInt64), T.sl Sk.lf [T.i (8 : Int)]], T.agg [T.u64 (1 : UInt64), T.sl Sk.lf (List.replicate (9 : Nat) (T.i (0 : Int)))]] ∧ ((0 : UInt64) = (0 : UInt64) ∧ T.v (Value.slice none (0 : Nat) (0 : Nat)) = T.v (Value.slice none (0 : Nat) (0 : Nat)) ∧ True) ∧ ((1099511627776 : UInt64) = (1099511627776 : UInt64) ∧ [T.i (1 : Int)] = [T.i (1 : Int)] ∧ True) ∧ True) (((-9223372036854775808 : Int) ≤ (2 : Int) ∧ (2 : Int) ≤ (9223372036854775807 : Int)) ∧ True ∧ True ∧ ((0 : Int) ≤ (2 : Int) ∧ (3 : Int) ≤ (8 : Int)) ∧ True ∧ True ∧ True ∧ True ∧ True ∧ (0 : Nat) ≤ (11 : Nat) ∧ ((True ∧ (-1 : Int) = (0 : Int) - (1 : Int) ∧ True ∧ (8 : Int) = (8 : Int) ∧ (2 : Int) = (2 : Int) ∧ True) ∧ [T.agg [T.u64 (0 : UInt64), T.v (Value.slice none (0 : Nat) (0 : Nat))], T.agg [T.u64 (1099511627776 : UInt64), T.sl Sk.lf [T.i (1 : Int)]], T.agg [T.u64 (1099511627777 : UInt64), T.sl Sk.lf [T.i (1 : Int)]], T.agg [T.u64 (1 : UInt64), T.sl Sk.lf [T.i (2 : Int), T.i (1 : Int)]], T.agg [T.u64 (1 : UInt64), T.sl Sk.lf [T.i (1 : Int), T.i (1 : Int)]], T.agg [T.u64 (1 : UInt64), T.sl Sk.lf [T.i (-1 : Int)]], T.agg [T.u64 (1 : UInt64), T.sl Sk.lf [T.i (8 : Int)]], T.agg [T.u64 (1 : UInt64), T.sl Sk.lf (List.replicate (9 : Nat) (T.i (0 : Int)))]] = [T.agg [T.u64 (0 : UInt64), T.v (Value.slice none (0 : Nat) (0 : Nat))], T.agg [T.u64 (1099511627776 : UInt64), T.sl Sk.lf [T.i (1 : Int)]], T.agg [T.u64 (1099511627777 : UInt64), T.sl Sk.lf [T.i (1 : Int)]], T.agg [T.u64 (1 : UInt64), T.sl Sk.lf [T.i (2 : Int), T.i (1 : Int)]], T.agg [T.u64 (1 : UInt64), T.sl Sk.lf [T.i (1 : Int), T.i (1 : Int)]], T.agg [T.u64 (1 : UInt64), T.sl Sk.lf [T.i (-1 : Int)]], T.agg [T.u64 (1 : UInt64), T.sl Sk.lf [T.i (8 : Int)]], T.agg [T.u64 (1 : UInt64), T.sl Sk.lf (List.replicate (9 : Nat) (T.i (0 : Int)))]] ∧ ((0 : UInt64) = (0 : UInt64) ∧ T.v (Value.slice none (0 : Nat) (0 : Nat)) = T.v (Value.slice none (0 : Nat) (0 : Nat)) ∧ True) ∧ ((1099511627776 : UInt64) = (1099511627776 : UInt64) ∧ [T.i (1 : Int)] = [T.i (1 : Int)] ∧ True) ∧ ((1099511627777 : UInt64) = (1099511627777 : UInt64) ∧ [T.i (1 : Int)] = [T.i (1 : Int)] ∧ True) ∧ True) ∧ ∀ (i : Nat), i ≤ (11 : Nat) → True ∧ True ∧ cases2 (decide ((↑i : Int) - (1 : Int) < (10 : Int))) (True ∧ True ∧ (((True ∧ True ∧ True) ∧ True ∧ True) ∧ [T.i (1 : Int)] = li (unli [T.i (1 : Int)]) ∧ (1 : Nat) ≤ (9223372036854775807 : Nat)) ∧ True ∧ True ∧ ((-9223372036854775808 : Int) ≤ (↑i : Int) - (1 : Int) + (1 : Int) ∧ (↑i : Int) - (1 : Int) + (1 : Int) ≤ (9223372036854775807 : Int)) ∧ True ∧ ∃ j, j ≤ (11 : Nat) ∧ (11 : Nat) - j < (11 : Nat) - i ∧ (True ∧ (↑i : Int) - (1 : Int) + (1 : Int) = (↑j : Int) - (1 : Int) ∧ True ∧ (8 : Int) = (8 : Int) ∧ (2 : Int) = (2 : Int) ∧ True) ∧ [T.agg [T.u64 (0 : UInt64), T.v (Value.slice none (0 : Nat) (0 : Nat))], T.agg [T.u64 (1099511627776 : UInt64), T.sl Sk.lf [T.i (1 : Int)]], T.agg [T.u64 (1099511627777 : UInt64), T.sl Sk.lf [T.i (1 : Int)]], T.agg [T.u64 (1 : UInt64), T.sl Sk.lf [T.i (2 : Int), T.i (1 : Int)]], T.agg [T.u64 (1 : UInt64), T.sl Sk.lf [T.i (1 : Int), T.i (1 : Int)]], T.agg [T.u64 (1 : UInt64), T.sl Sk.lf [T.i (-1 : Int)]], T.agg [T.u64 (1 : UInt64), T.sl Sk.lf [T.i (8 : Int)]], T.agg [T.u64 (1 : UInt64), T.sl Sk.lf (List.replicate (9 : Nat) (T.i (0 : Int)))]] = [T.agg [T.u64 (0 : UInt64), T.v (Value.slice none (0 : Nat) (0 : Nat))], T.agg [T.u64 (1099511627776 : UInt64), T.sl Sk.lf [T.i (1 : Int)]], T.agg [T.u64 (1099511627777 : UInt64), T.sl Sk.lf [T.i (1 : Int)]], T.agg [T.u64 (1 : UInt64), T.sl Sk.lf [T.i (2 : Int), T.i (1 : Int)]], T.agg [T.u64 (1 : UInt64), T.sl Sk.lf [T.i (1 : Int), T.i (1 : Int)]], T.agg [T.u64 (1 : UInt64), T.sl Sk.lf [T.i (-1 : Int)]], T.agg [T.u64 (1 : UInt64), T.sl Sk.lf [T.i (8 : Int)]], T.agg [T.u64 (1 : UInt64), T.sl Sk.lf (List.replicate (9 : Nat) (T.i (0 : Int)))]] ∧ ((0 : UInt64) = (0 : UInt64) ∧ T.v (Value.slice none (0 : Nat) (0 : Nat)) = T.v (Value.slice none (0 : Nat) (0 : Nat)) ∧ True) ∧ ((1099511627776 : UInt64) = (1099511627776 : UInt64) ∧ [T.i (1 : Int)] = [T.i (1 : Int)] ∧ True) ∧ ((1099511627777 : UInt64) = (1099511627777 : UInt64) ∧ [T.i (1 : Int)] = [T.i (1 : Int)] ∧ True) ∧ True) (((-9223372036854775808 : Int) ≤ (3 : Int) ∧ (3 : Int) ≤ (9223372036854775807 : Int)) ∧ True ∧ True ∧ ((0 : Int) ≤ (3 : Int) ∧ (4 : Int) ≤ (8 : Int)) ∧ True ∧ True ∧ True ∧ True ∧ True ∧ (0 : Nat) ≤ (11 : Nat) ∧ ((True ∧ (-1 : Int) = (0 : Int) - (1 : Int) ∧ True ∧ (8 : Int) = (8 : Int) ∧ (3 : Int) = (3 : Int) ∧ True) ∧ [T.agg [T.u64 (0 : UInt64), T.v (Value.slice none (0 : Nat) (0 : Nat))], T.agg [T.u64 (1099511627776 : UInt64), T.sl Sk.lf [T.i (1 : Int)]], T.agg [T.u64 (1099511627777 : UInt64), T.sl Sk.lf [T.i (1 : Int)]], T.agg [T.u64 (1 : UInt64), T.sl Sk.lf [T.i (2 : Int), T.i (1 : Int)]], T.agg [T.u64 (1 : UInt64), T.sl Sk.lf [T.i (1 : Int), T.i (1 : Int)]], T.agg [T.u64 (1 : UInt64), T.sl Sk.lf [T.i (-1 : Int)]], T.agg [T.u64 (1 : UInt64), T.sl Sk.lf [T.i (8 : Int)]], T.agg [T.u64 (1 : UInt64), T.sl Sk.lf (List.replicate (9 : Nat) (T.i (0 : Int)))]] = [T.agg [T.u64 (0 : UInt64), T.v (Value.slice none (0 : Nat) (0 : Nat))], T.agg [T.u64 (1099511627776 : UInt64), T.sl Sk.lf [T.i (1 : Int)]], T.agg [T.u64 (1099511627777 : UInt64), T.sl Sk.lf [T.i (1 : Int)]], T.agg [T.u64 (1 : UInt64), T.sl Sk.lf [T.i (2 : Int), T.i (1 : Int)]], T.agg [T.u64 (1 : UInt64), T.sl Sk.lf [T.i (1 : Int), T.i (1 : Int)]], T.agg [T.u64 (1 : UInt64), T.sl Sk.lf [T.i (-1 : Int)]], T.agg [T.u64 (1 : UInt64), T.sl Sk.lf [T.i (8 : Int)]], T.agg [T.u64 (1 : UInt64), T.sl Sk.lf (List.replicate (9 : Nat) (T.i (0 : Int)))]] ∧ ((0 : UInt64) = (0 : UInt64) ∧ T.v (Value.slice none (0 : Nat) (0 : Nat)) = T.v (Value.slice none (0 : Nat) (0 : Nat)) ∧ True) ∧ ((1099511627776 : UInt64) = (1099511627776 : UInt64) ∧ [T.i (1 : Int)] = [T.i (1 : Int)] ∧ True) ∧ ((1099511627777 : UInt64) = (1099511627777 : UInt64) ∧ [T.i (1 : Int)] = [T.i (1 : Int)] ∧ True) ∧ ((1 : UInt64) = (1 : UInt64) ∧ [T.i (2 : Int), T.i (1 : Int)] = [T.i (2 : Int), T.i (1 : Int)] ∧ True) ∧ True) ∧ ∀ (i : Nat), i ≤ (11 : Nat) → True ∧ True ∧ cases2 (decide ((↑i : Int) - (1 : Int) < (10 : Int))) (True ∧ True ∧ (((True ∧ True ∧ True) ∧ True ∧ True) ∧ [T.i (2 : Int), T.i (1 : Int)] = li (unli [T.i (2 : Int), T.i (1 : Int)]) ∧ (2 : Nat) ≤ (9223372036854775807 : Nat)) ∧ True ∧ True ∧ ((-9223372036854775808 : Int) ≤ (↑i : Int) - (1 : Int) + (1 : Int) ∧ (↑i : Int) - (1 : Int) + (1 : Int) ≤ (9223372036854775807 : Int)) ∧ True ∧ ∃ j, j ≤ (11 : Nat) ∧ (11 : Nat) - j < (11 : Nat) - i ∧ (True ∧ (↑i : Int) - (1 : Int) + (1 : Int) = (↑j : Int) - (1 : Int) ∧ True ∧ (8 : Int) = (8 : Int) ∧ (3 : Int) = (3 : Int) ∧ True) ∧ [T.agg [T.u64 (0 : UInt64), T.v (Value.slice none (0 : Nat) (0 : Nat))], T.agg [T.u64 (1099511627776 : UInt64), T.sl Sk.lf [T.i (1 : Int)]], T.agg [T.u64 (1099511627777 : UInt64), T.sl Sk.lf [T.i (1 : Int)]], T.agg [T.u64 (1 : UInt64), T.sl Sk.lf [T.i (2 : Int), T.i (1 : Int)]], T.agg [T.u64 (1 : UInt64), T.sl Sk.lf [T.i (1 : Int), T.i (1 : Int)]], T.agg [T.u64 (1 : UInt64), T.sl Sk.lf [T.i (-1 : Int)]], T.agg [T.u64 (1 : UInt64), T.sl Sk.lf [T.i (8 : Int)]], T.agg [T.u64 (1 : UInt64), T.sl Sk.lf (List.replicate (9 : Nat) (T.i (0 : Int)))]] = [T.agg [T.u64 (0 : UInt64), T.v (Value.slice none (0 : Nat) (0 : Nat))], T.agg [T.u64 (1099511627776 : UInt64), T.sl Sk.lf [T.i (1 : Int)]], T.agg [T.u64 (1099511627777 : UInt64), T.sl Sk.lf [T.i (1 : Int)]], T.agg [T.u64 (1 : UInt64), T.sl Sk.lf [T.i (2 : Int), T.i (1 : Int)]], T.agg [T.u64 (1 : UInt64), T.sl Sk.lf [T.i (1 : Int), T.i (1 : Int)]], T.agg [T.u64 (1 : UInt64), T.sl Sk.lf [T.i (-1 : Int)]], T.agg [T.u64 (1 : UInt64), T.sl Sk.lf [T.i (8 : Int)]], T.agg [T.u64 (1 : UInt64), T.sl Sk.lf (List.replicate (9 : Nat) (T.i (0 : Int)))]] ∧ ((0 : UInt64) = (0 : UInt64) ∧ T.v (Value.slice none (0 : Nat) (0 : Nat)) = T.v (Value.slice none (0 : Nat) (0 : Nat)) ∧ True) ∧ ((1099511627776 : UInt64) = (1099511627776 : UInt64) ∧ [T.i (1 : Int)] = [T.i (1 : Int)] ∧ True) ∧ ((1099511627777 : UInt64) = (1099511627777 : UInt64) ∧ [T.i (1 : Int)] = [T.i (1 : Int)] ∧ True) ∧ ((1 : UInt64) = (1 : UInt64) ∧ [T.i (2 : Int), T.i (1 : Int)] = [T.i (2 : Int), T.i (1 : Int)] ∧ True) ∧ True) (((-9223372036854775808 : Int) ≤ (4 : Int) ∧ (4 : Int) ≤ (9223372036854775807 : Int)) ∧ True ∧ True ∧ ((0 : Int) ≤ (4 : Int) ∧ (5 : Int) ≤ (8 : Int)) ∧ True ∧ True ∧ True ∧ True ∧ True ∧ (0 : Nat) ≤ (11 : Nat) ∧ ((True ∧ (-1 : Int) = (0 : Int) - (1 : Int) ∧ True ∧ (8 : Int) = (8 : Int) ∧ (4 : Int) = (4 : Int) ∧ True) ∧ [T.agg [T.u64 (0 : UInt64), T.v (Value.slice none (0 : Nat) (0 : Nat))], T.agg [T.u64 (1099511627776 : UInt64), T.sl Sk.lf [T.i (1 : Int)]], T.agg [T.u64 (1099511627777 : UInt64), T.sl Sk.lf [T.i (1 : Int)]], T.agg [T.u64 (1 : UInt64), T.sl Sk.lf [T.i (2 : Int), T.i (1 : Int)]], T.agg [T.u64 (1 : UInt64), T.sl Sk.lf [T.i (1 : Int), T.i (1 : Int)]], T.agg [T.u64 (1 : UInt64), T.sl Sk.lf [T.i (-1 : Int)]], T.agg [T.u64 (1 : UInt64), T.sl Sk.lf [T.i (8 : Int)]], T.agg [T.u64 (1 : UInt64), T.sl Sk.lf (List.replicate (9 : Nat) (T.i (0 : Int)))]] = [T.agg [T.u64 (0 : UInt64), T.v (Value.slice none (0 : Nat) (0 : Nat))], T.agg [T.u64 (1099511627776 : UInt64), T.sl Sk.lf [T.i (1 : Int)]], T.agg [T.u64 (1099511627777 : UInt64), T.sl Sk.lf [T.i (1 : Int)]], T.agg [T.u64 (1 : UInt64), T.sl Sk.lf [T.i (2 : Int), T.i (1 : Int)]], T.agg [T.u64 (1 : UInt64), T.sl Sk.lf [T.i (1 : Int), T.i (1 : Int)]], T.agg [T.u64 (1 : UInt64), T.sl Sk.lf [T.i (-1 : Int)]], T.agg [T.u64 (1 : UInt64), T.sl Sk.lf [T.i (8 : Int)]], T.agg [T.u64 (1 : UInt64), T.sl Sk.lf (List.replicate (9 : Nat) (T.i (0 : Int)))]] ∧ ((0 : UInt64) = (0 : UInt64) ∧ T.v (Value.slice none (0 : Nat) (0 : Nat)) = T.v (Value.slice none (0 : Nat) (0 : Nat)) ∧ True) ∧ ((1099511627776 : UInt64) = (1099511627776 : UInt64) ∧ [T.i (1 : Int)] = [T.i (1 : Int)] ∧ True) ∧ ((1099511627777 : UInt64) = (1099511627777 : UInt64) ∧ [T.i (1 : Int)] = [T.i (1 : Int)] ∧ True) ∧ ((1 : UInt64) = (1 : UInt64) ∧ [T.i (2 : Int), T.i (1 : Int)] = [T.i (2 : Int), T.i (1 : Int)] ∧ True) ∧ ((1 : UInt64) = (1 : UInt64) ∧ [T.i (1 : Int), T.i (1 : Int)] = [T.i (1 : Int), T.i (1 : Int)] ∧ True) ∧ True) ∧ ∀ (i : Nat), i ≤ (11 : Nat) → True ∧ True ∧ cases2 (decide ((↑i : Int) - (1 : Int) < (10 : Int))) (True ∧ True ∧ (((True ∧ True ∧ True) ∧ True ∧ True) ∧ [T.i (1 : Int), T.i (1 : Int)] = li (unli [T.i (1 : Int), T.i (1 : Int)]) ∧ (2 : Nat) ≤ (9223372036854775807 : Nat)) ∧ True ∧ True ∧ ((-9223372036854775808 : Int) ≤ (↑i : Int) - (1 : Int) + (1 : Int) ∧ (↑i : Int) - (1 : Int) + (1 : Int) ≤ (9223372036854775807 : Int)) ∧ True ∧ ∃ j, j ≤ (11 : Nat) ∧ (11 : Nat) - j < (11 : Nat) - i ∧ (True ∧ (↑i : Int) - (1 : Int) + (1 : Int) = (↑j : Int) - (1 : Int) ∧ True ∧ (8 : Int) = (8 : Int) ∧ (4 : Int) = (4 : Int) ∧ True) ∧ [T.agg [T.u64 (0 : UInt64), T.v (Value.slice none (0 : Nat) (0 : Nat))], T.agg [T.u64 (1099511627776 : UInt64), T.sl Sk.lf [T.i (1 : Int)]], T.agg [T.u64 (1099511627777 : UInt64), T.sl Sk.lf [T.i (1 : Int)]], T.agg [T.u64 (1 : UInt64), T.sl Sk.lf [T.i (2 : Int), T.i (1 : Int)]], T.agg [T.u64 (1 : UInt64), T.sl Sk.lf [T.i (1 : Int), T.i (1 : Int)]], T.agg [T.u64 (1 : UInt64), T.sl Sk.lf [T.i (-1 : Int)]], T.agg [T.u64 (1 : UInt64), T.sl Sk.lf [T.i (8 : Int)]], T.agg [T.u64 (1 : UInt64), T.sl Sk.lf (List.replicate (9 : Nat) (T.i (0 : Int)))]] = [T.agg [T.u64 (0 : UInt64), T.v (Value.slice none (0 : Nat) (0 : Nat))], T.agg [T.u64 (1099511627776 : UInt64), T.sl Sk.lf [T.i (1 : Int)]], T.agg [T.u64 (1099511627777 : UInt64), T.sl Sk.lf [T.i (1 : Int)]], T.agg [T.u64 (1 : UInt64), T.sl Sk.lf [T.i (2 : Int), T.i (1 : Int)]], T.agg [T.u64 (1 : UInt64), T.sl Sk.lf [T.i (1 : Int), T.i (1 : Int)]], T.agg [T.u64 (1 : UInt64), T.sl Sk.lf [T.i (-1 : Int)]], T.agg [T.u64 (1 : UInt64), T.sl Sk.lf [T.i (8 : Int)]], T.agg [T.u64 (1 : UInt64), T.sl Sk.lf (List.replicate (9 : Nat) (T.i (0 : Int)))]] ∧ ((0 : UInt64) = (0 : UInt64) ∧ T.v (Value.slice none (0 : Nat) (0 : Nat)) = T.v (Value.slice none (0 : Nat) (0 : Nat)) ∧ True) ∧ ((1099511627776 : UInt64) = (1099511627776 : UInt64) ∧ [T.i (1 : Int)] = [T.i (1 : Int)] ∧ True) ∧ ((1099511627777 : UInt64) = (1099511627777 : UInt64) ∧ [T.i (1 : Int)] = [T.i (1 : Int)] ∧ True) ∧ ((1 : UInt64) = (1 : UInt64) ∧ [T.i (2 : Int), T.i (1 : Int)] = [T.i (2 : Int), T.i (1 : Int)] ∧ True) ∧ ((1 : UInt64) = (1 : UInt64) ∧ [T.i (1 : Int), T.i (1 : Int)] = [T.i (1 : Int), T.i (1 : Int)] ∧ True) ∧ True) (((-9223372036854775808 : Int) ≤ (5 : Int) ∧ (5 : Int) ≤ (9223372036854775807 : Int)) ∧ True ∧ True ∧ ((0 : Int) ≤ (5 : Int) ∧ (6 : Int) ≤ (8 : Int)) ∧ True ∧ True ∧ True ∧ True ∧ True ∧ (0 : Nat) ≤ (11 : Nat) ∧ ((True ∧ (-1 : Int) = (0 : Int) - (1 : Int) ∧ True ∧ (8 : Int) = (8 : Int) ∧ (5 : Int) = (5 : Int) ∧ True) ∧ [T.agg [T.u64 (0 : UInt64), T.v (Value.slice none (0 : Nat) (0 : Nat))], T.agg [T.u64 (1099511627776 : UInt64), T.sl Sk.lf [T.i (1 : Int)]], T.agg [T.u64 (1099511627777 : UInt64), T.sl Sk.lf [T.i (1 : Int)]], T.agg [T.u64 (1 : UInt64), T.sl Sk.lf [T.i (2 : Int), T.i (1 : Int)]], T.agg [T.u64 (1 : UInt64), T.sl Sk.lf [T.i (1 : Int), T.i (1 : Int)]], T.agg [T.u64 (1 : UInt64), T.sl Sk.lf [T.i (-1 : Int)]], T.agg [T.u64 (1 : UInt64), T.sl Sk.lf [T.i (8 : Int)]], T.agg [T.u64 (1 : UInt64), T.sl Sk.lf (List.replicate (9 : Nat) (T.i (0 : Int)))]] = [T.agg [T.u64 (0 : UInt64), T.v (Value.slice none (0 : Nat) (0 : Nat))], T.agg [T.u64 (1099511627776 : UInt64), T.sl Sk.lf [T.i (1 : Int)]], T.agg [T.u64 (1099511627777 : UInt64), T.sl Sk.lf [T.i (1 : Int)]], T.agg [T.u64 (1 : UInt64), T.sl Sk.lf [T.i (2 : Int), T.i (1 : Int)]], T.agg [T.u64 (1 : UInt64), T.sl Sk.lf [T.i (1 : Int), T.i (1 : Int)]], T.agg [T.u64 (1 : UInt64), T.sl Sk.lf [T.i (-1 : Int)]], T.agg [T.u64 (1 : UInt64), T.sl Sk.lf [T.i (8 : Int)]], T.agg [T.u64 (1 : UInt64), T.sl Sk.lf (List.replicate (9 : Nat) (T.i (0 : Int)))]] ∧ ((0 : UInt64) = (0 : UInt64) ∧ T.v (Value.slice none (0 : Nat) (0 : Nat)) = T.v (Value.slice none (0 : Nat) (0 : Nat)) ∧ True) ∧ ((1099511627776 : UInt64) = (1099511627776 : UInt64) ∧ [T.i (1 : Int)] = [T.i (1 : Int)] ∧ True) ∧ ((1099511627777 : UInt64) = (1099511627777 : UInt64) ∧ [T.i (1 : Int)] = [T.i (1 : Int)] ∧ True) ∧ ((1 : UInt64) = (1 : UInt64) ∧ [T.i (2 : Int), T.i (1 : Int)] = [T.i (2 : Int), T.i (1 : Int)] ∧ True) ∧ ((1 : UInt64) = (1 : UInt64) ∧ [T.i (1 : Int), T.i (1 : Int)] = [T.i (1 : Int), T.i (1 : Int)] ∧ True) ∧ ((1 : UInt64) = (1 : UInt64) ∧ [T.i (-1 : Int)] = [T.i (-1 : Int)] ∧ True) ∧ True) ∧ ∀ (i : Nat), i ≤ (11 : Nat) → True ∧ True ∧ cases2 (decide ((↑i : Int) - (1 : Int) < (10 : Int))) (True ∧ True ∧ (((True ∧ True ∧ True) ∧ True ∧ True) ∧ [T.i (-1 : Int)] = li (unli [T.i (-1 : Int)]) ∧ (1 : Nat) ≤ (9223372036854775807 : Nat)) ∧ True ∧ True ∧ ((-9223372036854775808 : Int) ≤ (↑i : Int) - (1 : Int) + (1 : Int) ∧ (↑i : Int) - (1 : Int) + (1 : Int) ≤ (9223372036854775807 : Int)) ∧ True ∧ ∃ j, j ≤ (11 : Nat) ∧ (11 : Nat) - j < (11 : Nat) - i ∧ (True ∧ (↑i : Int) - (1 : Int) + (1 : Int) = (↑j : Int) - (1 : Int) ∧ True ∧ (8 : Int) = (8 : Int) ∧ (5 : Int) = (5 : Int) ∧ True) ∧ [T.agg [T.u64 (0 : UInt64), T.v (Value.slice none (0 : Nat) (0 : Nat))], T.agg [T.u64 (1099511627776 : UInt64), T.sl Sk.lf [T.i (1 : Int)]], T.agg [T.u64 (1099511627777 : UInt64), T.sl Sk.lf [T.i (1 : Int)]], T.agg [T.u64 (1 : UInt64), T.sl Sk.lf [T.i (2 : Int), T.i (1 : Int)]], T.agg [T.u64 (1 : UInt64), T.sl Sk.lf [T.i (1 : Int), T.i (1 : Int)]], T.agg [T.u64 (1 : UInt64), T.sl Sk.lf [T.i (-1 : Int)]], T.agg [T.u64 (1 : UInt64), T.sl Sk.lf [T.i (8 : Int)]], T.agg [T.u64 (1 : UInt64), T.sl Sk.lf (List.replicate (9 : Nat) (T.i (0 : Int)))]] = [T.agg [T.u64 (0 : UInt64), T.v (Value.slice none (0 : Nat) (0 : Nat))], T.agg [T.u64 (1099511627776 : UInt64), T.sl Sk.lf [T.i (1 : Int)]], T.agg [T.u64 (1099511627777 : UInt64), T.sl Sk.lf [T.i (1 : Int)]], T.agg [T.u64 (1 : UInt64), T.sl Sk.lf [T.i (2 : Int), T.i (1 : Int)]], T.agg [T.u64 (1 : UInt64), T.sl Sk.lf [T.i (1 : Int), T.i (1 : Int)]], T.agg [T.u64 (1 : UInt64), T.sl Sk.lf [T.i (-1 : Int)]], T.agg [T.u64 (1 : UInt64), T.sl Sk.lf [T.i (8 : Int)]], T.agg [T.u64 (1 : UInt64), T.sl Sk.lf (List.replicate (9 : Nat) (T.i (0 : Int)))]] ∧ ((0 : UInt64) = (0 : UInt64) ∧ T.v (Value.slice none (0 : Nat) (0 : Nat)) = T.v (Value.slice none (0 : Nat) (0 : Nat)) ∧ True) ∧ ((1099511627776 : UInt64) = (1099511627776 : UInt64) ∧ [T.i (1 : Int)] = [T.i (1 : Int)] ∧ True) ∧ ((1099511627777 : UInt64) = (1099511627777 : UInt64) ∧ [T.i (1 : Int)] = [T.i (1 : Int)] ∧ True) ∧ ((1 : UInt64) = (1 : UInt64) ∧ [T.i (2 : Int), T.i (1 : Int)] = [T.i (2 : Int), T.i (1 : Int)] ∧ True) ∧ ((1 : UInt64) = (1 : UInt64) ∧ [T.i (1 : Int), T.i (1 : Int)] = [T.i (1 : Int), T.i (1 : Int)] ∧ True) ∧ ((1 : UInt64) = (1 : UInt64) ∧ [T.i (-1 : Int)] = [T.i (-1 : Int)] ∧ True) ∧ True) (((-9223372036854775808 : Int) ≤ (6 : Int) ∧ (6 : Int) ≤ (9223372036854775807 : Int)) ∧ True ∧ True ∧ ((0 : Int) ≤ (6 : Int) ∧ (7 : Int) ≤ (8 : Int)) ∧ True ∧ True ∧ True ∧ True ∧ True ∧ (0 : Nat) ≤ (11 : Nat) ∧ ((True ∧ (-1 : Int) = (0 : Int) - (1 : Int) ∧ True ∧ (8 : Int) = (8 : Int) ∧ (6 : Int) = (6 : Int) ∧ True) ∧ [T.agg [T.u64 (0 : UInt64), T.v (Value.slice none (0 : Nat) (0 : Nat))], T.agg [T.u64 (1099511627776 : UInt64), T.sl Sk.lf [T.i (1 : Int)]], T.agg [T.u64 (1099511627777 : UInt64), T.sl Sk.lf [T.i (1 : Int)]], T.agg [T.u64 (1 : UInt64), T.sl Sk.lf [T.i (2 : Int), T.i (1 : Int)]], T.agg [T.u64 (1 : UInt64), T.sl Sk.lf [T.i (1 : Int), T.i (1 : Int)]], T.agg [T.u64 (1 : UInt64), T.sl Sk.lf [T.i (-1 : Int)]], T.agg [T.u64 (1 : UInt64), T.sl Sk.lf [T.i (8 : Int)]], T.agg [T.u64 (1 : UInt64), T.sl Sk.lf (List.replicate (9 : Nat) (T.i (0 : Int)))]] = [T.agg [T.u64 (0 : UInt64), T.v (Value.slice none (0 : Nat) (0 : Nat))], T.agg [T.u64 (1099511627776 : UInt64), T.sl Sk.lf [T.i (1 : Int)]], T.agg [T.u64 (1099511627777 : UInt64), T.sl Sk.lf [T.i (1 : Int)]], T.agg [T.u64 (1 : UInt64), T.sl Sk.lf [T.i (2 : Int), T.i (1 : Int)]], T.agg [T.u64 (1 : UInt64), T.sl Sk.lf [T.i (1 : Int), T.i (1 : Int)]], T.agg [T.u64 (1 : UInt64), T.sl Sk.lf [T.i (-1 : Int)]], T.agg [T.u64 (1 : UInt64), T.sl Sk.lf [T.i (8 : Int)]], T.agg [T.u64 (1 : UInt64), T.sl Sk.lf (List.replicate (9 : Nat) (T.i (0 : Int)))]] ∧ ((0 : UInt64) = (0 : UInt64) ∧ T.v (Value.slice none (0 : Nat) (0 : Nat)) = T.v (Value.slice none (0 : Nat) (0 : Nat)) ∧ True) ∧ ((1099511627776 : UInt64) = (1099511627776 : UInt64) ∧ [T.i (1 : Int)] = [T.i (1 : Int)] ∧ True) ∧ ((1099511627777 : UInt64) = (1099511627777 : UInt64) ∧ [T.i (1 : Int)] = [T.i (1 : Int)] ∧ True) ∧ ((1 : UInt64) = (1 : UInt64) ∧ [T.i (2 : Int), T.i (1 : Int)] = [T.i (2 : Int), T.i (1 : Int)] ∧ True) ∧ ((1 : UInt64) = (1 : UInt64) ∧ [T.i (1 : Int), T.i (1 : Int)] = [T.i (1 : Int), T.i (1 : Int)] ∧ True) ∧ ((1 : UInt64) = (1 : UInt64) ∧ [T.i (-1 : Int)] = [T.i (-1 : Int)] ∧ True) ∧ ((1 : UInt64) = (1 : UInt64) ∧ [T.i (8 : Int)] = [T.i (8 : Int)] ∧ True) ∧ True) ∧ ∀ (i : Nat), i ≤ (11 : Nat) → True ∧ True ∧ cases2 (decide ((↑i : Int) - (1 : Int) < (10 : Int))) (True ∧ True ∧ (((True ∧ True ∧ True) ∧ True ∧ True) ∧ [T.i (8 : Int)] = li (unli [T.i (8 : Int)]) ∧ (1 : Nat) ≤ (9223372036854775807 : Nat)) ∧ True ∧ True ∧ ((-9223372036854775808 : Int) ≤ (↑i : Int) - (1 : Int) + (1 : Int) ∧ (↑i : Int) - (1 : Int) + (1 : Int) ≤ (9223372036854775807 : Int)) ∧ True ∧ ∃ j, j ≤ (11 : Nat) ∧ (11 : Nat) - j < (11 : Nat) - i ∧ (True ∧ (↑i : Int) - (1 : Int) + (1 : Int) = (↑j : Int) - (1 : Int) ∧ True ∧ (8 : Int) = (8 : Int) ∧ (6 : Int) = (6 : Int) ∧ True) ∧ [T.agg [T.u64 (0 : UInt64), T.v (Value.slice none (0 : Nat) (0 : Nat))], T.agg [T.u64 (1099511627776 : UInt64), T.sl Sk.lf [T.i (1 : Int)]], T.agg [T.u64 (1099511627777 : UInt64), T.sl Sk.lf [T.i (1 : Int)]], T.agg [T.u64 (1 : UInt64), T.sl Sk.lf [T.i (2 : Int), T.i (1 : Int)]], T.agg [T.u64 (1 : UInt64), T.sl Sk.lf [T.i (1 : Int), T.i (1 : Int)]], T.agg [T.u64 (1 : UInt64), T.sl Sk.lf [T.i (-1 : Int)]], T.agg [T.u64 (1 : UInt64), T.sl Sk.lf [T.i (8 : Int)]], T.agg [T.u64 (1 : UInt64), T.sl Sk.lf (List.replicate (9 : Nat) (T.i (0 : Int)))]] = [T.agg [T.u64 (0 : UInt64), T.v (Value.slice none (0 : Nat) (0 : Nat))], T.agg [T.u64 (1099511627776 : UInt64), T.sl Sk.lf [T.i (1 : Int)]], T.agg [T.u64 (1099511627777 : UInt64), T.sl Sk.lf [T.i (1 : Int)]], T.agg [T.u64 (1 : UInt64), T.sl Sk.lf [T.i (2 : Int), T.i (1 : Int)]], T.agg [T.u64 (1 : UInt64), T.sl Sk.lf [T.i (1 : Int), T.i (1 : Int)]], T.agg [T.u64 (1 : UInt64), T.sl Sk.lf [T.i (-1 : Int)]], T.agg [T.u64 (1 : UInt64), T.sl Sk.lf [T.i (8 : Int)]], T.agg [T.u64 (1 : UInt64), T.sl Sk.lf (List.replicate (9 : Nat) (T.i (0 : Int)))]] ∧ ((0 : UInt64) = (0 : UInt64) ∧ T.v (Value.slice none (0 : Nat) (0 : Nat)) = T.v (Value.slice none (0 : Nat) (0 : Nat)) ∧ True) ∧ ((1099511627776 : UInt64) = (1099511627776 : UInt64) ∧ [T.i (1 : Int)] = [T.i (1 : Int)] ∧ True) ∧ ((1099511627777 : UInt64) = (1099511627777 : UInt64) ∧ [T.i (1 : Int)] = [T.i (1 : Int)] ∧ True) ∧ ((1 : UInt64) = (1 : UInt64) ∧ [T.i (2 : Int), T.i (1 : Int)] = [T.i (2 : Int), T.i (1 : Int)] ∧ True) ∧ ((1 : UInt64) = (1 : UInt64) ∧ [T.i (1 : Int), T.i (1 : Int)] = [T.i (1 : Int), T.i (1 : Int)] ∧ True) ∧ ((1 : UInt64) = (1 : UInt64) ∧ [T.i (-1 : Int)] = [T.i (-1 : Int)] ∧ True) ∧ ((1 : UInt64) = (1 : UInt64) ∧ [T.i (8 : Int)] = [T.i (8 : Int)] ∧ True) ∧ True) (((-9223372036854775808 : Int) ≤ (7 : Int) ∧ (7 : Int) ≤ (9223372036854775807 : Int)) ∧ True ∧ True ∧ ((0 : Int) ≤ (7 : Int) ∧ (8 : Int) ≤ (8 : Int)) ∧ True ∧ True ∧ True ∧ True ∧ True ∧ (0 : Nat) ≤ (11 : Nat) ∧ ((True ∧ (-1 : Int) = (0 : Int) - (1 : Int) ∧ True ∧ (8 : Int) = (8 : Int) ∧ (7 : Int) = (7 : Int) ∧ True) ∧ [T.agg [T.u64 (0 : UInt64), T.v (Value.slice none (0 : Nat) (0 : Nat))], T.agg [T.u64 (1099511627776 : UInt64), T.sl Sk.lf [T.i (1 : Int)]], T.agg [T.u64 (1099511627777 : UInt64), T.sl Sk.lf [T.i (1 : Int)]], T.agg [T.u64 (1 : UInt64), T.sl Sk.lf [T.i (2 : Int), T.i (1 : Int)]], T.agg [T.u64 (1 : UInt64), T.sl Sk.lf [T.i (1 : Int), T.i (1 : Int)]], T.agg [T.u64 (1 : UInt64), T.sl Sk.lf [T.i (-1 : Int)]], T.agg [T.u64 (1 : UInt64), T.sl Sk.lf [T.i (8 : Int)]], T.agg [T.u64 (1 : UInt64), T.sl Sk.lf (List.replicate (9 : Nat) (T.i (0 : Int)))]] = [T.agg [T.u64 (0 : UInt64), T.v (Value.slice none (0 : Nat) (0 : Nat))], T.agg [T.u64 (1099511627776 : UInt64), T.sl Sk.lf [T.i (1 : Int)]], T.agg [T.u64 (1099511627777 : UInt64), T.sl Sk.lf [T.i (1 : Int)]], T.agg [T.u64 (1 : UInt64), T.sl Sk.lf [T.i (2 : Int), T.i (1 : Int)]], T.agg [T.u64 (1 : UInt64), T.sl Sk.lf [T.i (1 : Int), T.i (1 : Int)]], T.agg [T.u64 (1 : UInt64), T.sl Sk.lf [T.i (-1 : Int)]], T.agg [T.u64 (1 : UInt64), T.sl Sk.lf [T.i (8 : Int)]], T.agg [T.u64 (1 : UInt64), T.sl Sk.lf (List.replicate (9 : Nat) (T.i (0 : Int)))]] ∧ ((0 : UInt64) = (0 : UInt64) ∧ T.v (Value.slice none (0 : Nat) (0 : Nat)) = T.v (Value.slice none (0 : Nat) (0 : Nat)) ∧ True) ∧ ((1099511627776 : UInt64) = (1099511627776 : UInt64) ∧ [T.i (1 : Int)] = [T.i (1 : Int)] ∧ True) ∧ ((1099511627777 : UInt64) = (1099511627777 : UInt64) ∧ [T.i (1 : Int)] = [T.i (1 : Int)] ∧ True) ∧ ((1 : UInt64) = (1 : UInt64) ∧ [T.i (2 : Int), T.i (1 : Int)] = [T.i (2 : Int), T.i (1 : Int)] ∧ True) ∧ ((1 : UInt64) = (1 : UInt64) ∧ [T.i (1 : Int), T.i (1 : Int)] = [T.i (1 : Int), T.i (1 : Int)] ∧ True) ∧ ((1 : UInt64) = (1 : UInt64) ∧ [T.i (-1 : Int)] = [T.i (-1 : Int)] ∧ True) ∧ ((1 : UInt64) = (1 : UInt64) ∧ [T.i (8 : Int)] = [T.i (8 : Int)] ∧ True) ∧ ((1 : UInt64) = (1 : UInt64) ∧ List.replicate (9 : Nat) (T.i (0 : Int)) = List.replicate (9 : Nat) (T.i (0 : Int)) ∧ True) ∧ True) ∧ ∀ (i : Nat), i ≤ (11 : Nat) → True ∧ True ∧ cases2 (decide ((↑i : Int) - (1 : Int) < (10 : Int))) (True ∧ True ∧ (((True ∧ True ∧ True) ∧ True ∧ True) ∧ List.replicate (9 : Nat) (T.i (0 : Int)) = li (unli (List.replicate (9 : Nat) (T.i (0 : Int)))) ∧ (9 : Nat) ≤ (9223372036854775807 : Nat)) ∧ True ∧ True ∧ ((-9223372036854775808 : Int) ≤ (↑i : Int) - (1 : Int) + (1 : Int) ∧ (↑i : Int) - (1 : Int) + (1 : Int) ≤ (9223372036854775807 : Int)) ∧ True ∧ ∃ j, j ≤ (11 : Nat) ∧ (11 : Nat) - j < (11 : Nat) - i ∧ (True ∧ (↑i : Int) - (1 : Int) + (1 : Int) = (↑j : Int) - (1 : Int) ∧ True ∧ (8 : Int) = (8 : Int) ∧ (7 : Int) = (7 : Int) ∧ True) ∧ [T.agg [T.u64 (0 : UInt64), T.v (Value.slice none (0 : Nat) (0 : Nat))], T.agg [T.u64 (1099511627776 : UInt64), T.sl Sk.lf [T.i (1 : Int)]], T.agg [T.u64 (1099511627777 : UInt64), T.sl Sk.lf [T.i (1 : Int)]], T.agg [T.u64 (1 : UInt64), T.sl Sk.lf [T.i (2 : Int), T.i (1 : Int)]], T.agg [T.u64 (1 : UInt64), T.sl Sk.lf [T.i (1 : Int), T.i (1 : Int)]], T.agg [T.u64 (1 : UInt64), T.sl Sk.lf [T.i (-1 : Int)]], T.agg [T.u64 (1 : UInt64), T.sl Sk.lf [T.i (8 : Int)]], T.agg [T.u64 (1 : UInt64), T.sl Sk.lf (List.replicate (9 : Nat) (T.i (0 : Int)))]] = [T.agg [T.u64 (0 : UInt64), T.v (Value.slice none (0 : Nat) (0 : Nat))], T.agg [T.u64 (1099511627776 : UInt64), T.sl Sk.lf [T.i (1 : Int)]], T.agg [T.u64 (1099511627777 : UInt64), T.sl Sk.lf [T.i (1 : Int)]], T.agg [T.u64 (1 : UInt64), T.sl Sk.lf [T.i (2 : Int), T.i (1 : Int)]], T.agg [T.u64 (1 : UInt64), T.sl Sk.lf [T.i (1 : Int), T.i (1 : Int)]], T.agg [T.u64 (1 : UInt64), T.sl Sk.lf [T.i (-1 : Int)]], T.agg [T.u64 (1 : UInt64), T.sl Sk.lf [T.i (8 : Int)]], T.agg [T.u64 (1 : UInt64), T.sl Sk.lf (List.replicate (9 : Nat) (T.i (0 : Int)))]] ∧ ((0 : UInt64) = (0 : UInt64) ∧ T.v (Value.slice none (0 : Nat) (0 : Nat)) = T.v (Value.slice none (0 : Nat) (0 : Nat)) ∧ True) ∧ ((1099511627776 : UInt64) = (1099511627776 : UInt64) ∧ [T.i (1 : Int)] = [T.i (1 : Int)] ∧ True) ∧ ((1099511627777 : UInt64) = (1099511627777 : UInt64) ∧ [T.i (1 : Int)] = [T.i (1 : Int)] ∧ True) ∧ ((1 : UInt64) = (1 : UInt64) ∧ [T.i (2 : Int), T.i (1 : Int)] = [T.i (2 : Int), T.i (1 : Int)] ∧ True) ∧ ((1 : UInt64) = (1 : UInt64) ∧ [T.i (1 : Int), T.i (1 : Int)] = [T.i (1 : Int), T.i (1 : Int)] ∧ True) ∧ ((1 : UInt64) = (1 : UInt64) ∧ [T.i (-1 : Int)] = [T.i (-1 : Int)] ∧ True) ∧ ((1 : UInt64) = (1 : UInt64) ∧ [T.i (8 : Int)] = [T.i (8 : Int)] ∧ True) ∧ ((1 : UInt64) = (1 : UInt64) ∧ List.replicate (9 : Nat) (T.i (0 : Int)) = List.replicate (9 : Nat) (T.i (0 : Int)) ∧ True) ∧ True) (((-9223372036854775808 : Int) ≤ (8 : Int) ∧ (8 : Int) ≤ (9223372036854775807 : Int)) ∧ True ∧ True ∧ (True ∧ True) ∧ True ∧ True ∧ True ∧ True ∧ true = true)))))))))) :
    Spec Try.prog 9 [] [] (.b true) [] :=
  spec_of_tr (by kernel_rfl) hT Try.func9 (c := Try.f9.body.getD .skip) (by kernel_rfl) (O9) (Eq.mp (by kernel_rfl) h)

theorem of10 (v1 : UInt64) (m1 : List Int) (v2 : UInt64) (m2 : List Int) (a b k : Int) (v : UInt64) (hT : TblOk Try.prog (tbl [e45, e54, e55, e52, e56, e35, e50]))
    (h : True ∧ True ∧ True ∧ True ∧ ((5 : UInt64) = (0 : UInt64) → False) ∧ True ∧ True ∧ True ∧ ((True ∧ True ∧ True) ∧ True) ∧ True ∧ ((5 : UInt64) = (0 : UInt64) → False) ∧ True ∧ True ∧ True ∧ True ∧ True ∧ True ∧ True ∧ True ∧ True ∧ True ∧ (UInt64.toNat (UInt64.ofInt (ibits BinOp.and k (7 : Int))) < (64 : Nat) ∧ (-9223372036854775808 : Int) ≤ (1 : Int) * (2 : Int) ^ UInt64.toNat (UInt64.ofInt (ibits BinOp.and k (7 : Int))) ∧ (1 : Int) * (2 : Int) ^ UInt64.toNat (UInt64.ofInt (ibits BinOp.and k (7 : Int))) ≤ (9223372036854775807 : Int)) ∧ True ∧ ((True ∧ True ∧ True) ∧ True) ∧ True ∧ True ∧ True ∧ True ∧ True ∧ ((7 : UInt64) = (0 : UInt64) → False) ∧ True ∧ True ∧ ((True ∧ True ∧ True) ∧ True) ∧ True ∧ True ∧ True ∧ True ∧ (((True ∧ True ∧ True) ∧ (True ∧ True ∧ True) ∧ True) ∧ li (bitsL (ibits BinOp.and a (255 : Int)) (8 : Nat)) = li (unli (li (bitsL (ibits BinOp.and a (255 : Int)) (8 : Nat)))) ∧ li (bitsL (ibits BinOp.xor (ibits BinOp.and a (255 : Int)) ((1 : Int) * (2 : Int) ^ UInt64.toNat (UInt64.ofInt (ibits BinOp.and k (7 : Int))))) (8 : Nat)) = li (unli (li (bitsL (ibits BinOp.xor (ibits BinOp.and a (255 : Int)) ((1 : Int) * (2 : Int) ^ UInt64.toNat (UInt64.ofInt (ibits BinOp.and k (7 : Int))))) (8 : Nat))))) ∧ True ∧ True ∧ True ∧ (((True ∧ True ∧ True) ∧ True ∧ True) ∧ li m1 = li (unli (li m1)) ∧ List.length (li m1) ≤ (9223372036854775807 : Nat)) ∧ True ∧ True ∧ True ∧ (((True ∧ True ∧ True) ∧ True ∧ True) ∧ li (bitsL (ibits BinOp.and a (255 : Int)) (8 : Nat)) = li (unli (li (bitsL (ibits BinOp.and a (255 : Int)) (8 : Nat)))) ∧ List.length (li (bitsL (ibits BinOp.and a (255 : Int)) (8 : Nat))) ≤ (9223372036854775807 : Nat)) ∧ True ∧ True ∧ True ∧ True ∧ True ∧ (((True ∧ True ∧ True) ∧ True ∧ True) ∧ li (bitsL (ibits BinOp.and b (255 : Int)) (8 : Nat)) = li (unli (li (bitsL (ibits BinOp.and b (255 : Int)) (8 : Nat)))) ∧ List.length (li (bitsL (ibits BinOp.and b (255 : Int)) (8 : Nat))) ≤ (9223372036854775807 : Nat)) ∧ True ∧ True ∧ True ∧ True ∧ (((True ∧ True ∧ True) ∧ (True ∧ True ∧ True) ∧ True) ∧ li (bitsL (ibits BinOp.and a (255 : Int)) (8 : Nat)) = li (unli (li (bitsL (ibits BinOp.and a (255 : Int)) (8 : Nat)))) ∧ li (bitsL (ibits BinOp.xor (ibits BinOp.and a (255 : Int)) ((1 : Int) * (2 : Int) ^ UInt64.toNat (UInt64.ofInt (ibits BinOp.and k (7 : Int))))) (8 : Nat)) = li (unli (li (bitsL (ibits BinOp.xor (ibits BinOp.and a (255 : Int)) ((1 : Int) * (2 : Int) ^ UInt64.toNat (UInt64.ofInt (ibits BinOp.and k (7 : Int))))) (8 : Nat))))) ∧ True ∧ True ∧ True ∧ True ∧ cases2 (followsB ((1 : UInt64) + v % (5 : UInt64)) (unli (li (bitsL (ibits BinOp.and a (255 : Int)) (8 : Nat)))) ((1 : UInt64) + v % (5 : UInt64) + UInt64.ofInt (ibits BinOp.and b (1 : Int))) (unli (li (bitsL (ibits BinOp.xor (ibits BinOp.and a (255 : Int)) ((1 : Int) * (2 : Int) ^ UInt64.toNat (UInt64.ofInt (ibits BinOp.and k (7 : Int))))) (8 : Nat)))) == afterB ((1 : UInt64) + v % (5 : UInt64)) (unli (li (bitsL (ibits BinOp.and a (255 : Int)) (8 : Nat)))) ((1 : UInt64) + v % (5 : UInt64) + UInt64.ofInt (ibits BinOp.and b (1 : Int))) (unli (li (bitsL (ibits BinOp.xor (ibits BinOp.and a (255 : Int)) ((1 : Int) * (2 : Int) ^ UInt64.toNat (UInt64.ofInt (ibits BinOp.and k (7 : Int))))) (8 : Nat))))) (True ∧ True ∧ (((True ∧ True ∧ True) ∧ (True ∧ True ∧ True) ∧ True) ∧ li m1 = li (unli (li m1)) ∧ li m2 = li (unli (li m2))) ∧ True ∧ True ∧ (((True ∧ True ∧ True) ∧ (True ∧ True ∧ True) ∧ True) ∧ li m1 = li (unli (li m1)) ∧ li m2 = li (unli (li m2))) ∧ True ∧ True ∧ True ∧ cases2 (followsB v1 (unli (li m1)) v2 (unli (li m2)) == afterB v1 (unli (li m1)) v2 (unli (li m2))) (True ∧ True ∧ (((True ∧ True ∧ True) ∧ (True ∧ True ∧ True) ∧ True) ∧ li (bitsL (ibits BinOp.and a (255 : Int)) (8 : Nat)) = li (unli (li (bitsL (ibits BinOp.and a (255 : Int)) (8 : Nat)))) ∧ li (bitsL (ibits BinOp.and b (255 : Int)) (8 : Nat)) = li (unli (li (bitsL (ibits BinOp.and b (255 : Int)) (8 : Nat))))) ∧ True ∧ True ∧ (((True ∧ True ∧ True) ∧ (True ∧ True ∧ True) ∧ True) ∧ li (bitsL (ibits BinOp.and a (255 : Int)) (8 : Nat)) = li (unli (li (bitsL (ibits BinOp.and a (255 : Int)) (8 : Nat)))) ∧ li (bitsL (ibits BinOp.and b (255 : Int)) (8 : Nat)) = li (unli (li (bitsL (ibits BinOp.and b (255 : Int)) (8 : Nat))))) ∧ True ∧ True ∧ True ∧ cases2 (followsB ((1 : UInt64) + v % (5 : UInt64)) (unli (li (bitsL (ibits BinOp.and a (255 : Int)) (8 : Nat)))) (v % (7 : UInt64)) (unli (li (bitsL (ibits BinOp.and b (255 : Int)) (8 : Nat)))) == afterB ((1 : UInt64) + v % (5 : UInt64)) (unli (li (bitsL (ibits BinOp.and a (255 : Int)) (8 : Nat)))) (v % (7 : UInt64)) (unli (li (bitsL (ibits BinOp.and b (255 : Int)) (8 : Nat))))) (True ∧ True ∧ (((True ∧ True ∧ True) ∧ (True ∧ True ∧ True) ∧ True) ∧ li (bitsL (ibits BinOp.and a (255 : Int)) (8 : Nat)) = li (unli (li (bitsL (ibits BinOp.and a (255 : Int)) (8 : Nat)))) ∧ li (bitsL (ibits BinOp.and b (255 : Int)) (8 : Nat)) = li (unli (li (bitsL (ibits BinOp.and b (255 : Int)) (8 : Nat)))) ∧ List.length (li (bitsL (ibits BinOp.and a (255 : Int)) (8 : Nat))) ≤ (9223372036854775807 : Nat) ∧ List.length (li (bitsL (ibits BinOp.and b (255 : Int)) (8 : Nat))) ≤ (9223372036854775807 : Nat)) ∧ True ∧ True ∧ True ∧ True ∧ True ∧ True ∧ cases2 ((1 : UInt64) + v % (5 : UInt64) == v % (7 : UInt64)) (True ∧ True ∧ True ∧ True ∧ ((True ∧ True ∧ True) ∧ li (bitsL (ibits BinOp.and a (255 : Int)) (8 : Nat)) = li (unli (li (bitsL (ibits BinOp.and a (255 : Int)) (8 : Nat)))) ∧ li (bitsL (ibits BinOp.and b (255 : Int)) (8 : Nat)) = li (unli (li (bitsL (ibits BinOp.and b (255 : Int)) (8 : Nat)))) ∧ List.length (li (bitsL (ibits BinOp.and a (255 : Int)) (8 : Nat))) ≤ (9223372036854775807 : Nat) ∧ List.length (li (bitsL (ibits BinOp.and b (255 : Int)) (8 : Nat))) ≤ (9223372036854775807 : Nat)) ∧ True ∧ True ∧ True ∧ True ∧ cases2 (((1 : UInt64) + v % (5 : UInt64) == v % (7 : UInt64) && unli (li (bitsL (ibits BinOp.and a (255 : Int)) (8 : Nat))) == unli (li (bitsL (ibits BinOp.and b (255 : Int)) (8 : Nat)))) == (unli (li (bitsL (ibits BinOp.and a (255 : Int)) (8 : Nat))) == unli (li (bitsL (ibits BinOp.and b (255 : Int)) (8 : Nat))))) ((True ∧ True) ∧ True ∧ True ∧ True ∧ True ∧ True ∧ true = true) (True ∧ True ∧ True ∧ True ∧ True ∧ false = true)) (True ∧ True ∧ True ∧ True ∧ cases2 (((1 : UInt64) + v % (5 : UInt64) == v % (7 : UInt64) && unli (li (bitsL (ibits BinOp.and a (255 : Int)) (8 : Nat))) == unli (li (bitsL (ibits BinOp.and b (255 : Int)) (8 : Nat)))) == false) ((True ∧ True) ∧ True ∧ True ∧ True ∧ True ∧ True ∧ true = true) (True ∧ True ∧ True ∧ True ∧ True ∧ false = true))) (True ∧ True ∧ True ∧ True ∧ True ∧ True ∧ True ∧ false = true)) (True ∧ True ∧ True ∧ True ∧ True ∧ True ∧ True ∧ True ∧ True ∧ false = true)) (True ∧ True ∧ True ∧ True ∧ True ∧ True ∧ True ∧ True ∧ True ∧ True ∧ True ∧ false = true)) :
    Spec Try.prog 10 [ls v1 m1, ls v2 m2, .i a, .i b, .i k, .u64 v] [] (.b true) [] :=
  spec_of_tr (by kernel_rfl) hT Try.func10 (c := Try.f10.body.getD .skip) (by kernel_rfl) (noO) (Eq.mp (by kernel_rfl) h)

end Ro

namespace Ro
open Go Go.AL Go.Proofs

def pc (d : Nat) : Nat → Nat
  | 0 => 0
  | n + 1 => pc d n + (if d.testBit n then 1 else 0)

theorem diffN_pc {v w : UInt64} {a b : Fin 256} (h1 : 1 ≤ v.toNat) (h2 : v.toNat ≤ 1099511627776) (h3 : 1 ≤ w.toNat) (h4 : w.toNat ≤ 1099511627776) :
    ∀ n, n ≤ 8 → diffN v (lst a.val) w (lst b.val) n = pc (a.val ^^^ b.val) n
  | 0, _ => rfl
  | n + 1, h => by
    have e1 := (has_all a ⟨n, by omega⟩).1
    have e2 := (has_all b ⟨n, by omega⟩).1
    simp only at e1 e2
    simp only [diffN, pc, diffN_pc h1 h2 h3 h4 n (by omega), has_ok h1 h2, has_ok h3 h4, e1, e2, Nat.testBit_xor]
set_option maxRecDepth 100000 in
theorem one_all : ∀ d : Fin 256, (pc d.val 8 == 1) = (((d.val : Int) != 0) && (ibits .and (d.val : Int) ((d.val : Int) - 1) == 0)) := by decide +kernel

theorem follows_after (v : UInt64) (xa : List Int) (w : UInt64) (xb : List Int) : followsB v xa w xb = afterB v xa w xb := by
  unfold followsB afterB
  cases h1 : rightB v xa with
  | false => rfl
  | true =>
  cases h2 : rightB w xb with
  | false => rfl
  | true =>
  obtain ⟨g1, g2, a, rfl, _⟩ := right_lst h1
  obtain ⟨g3, g4, b, rfl, _⟩ := right_lst h2
  congr 1
  rw [diffN_pc g1 g2 g3 g4 8 (Nat.le_refl _)]
  unfold afterD
  rw [lst_set, lst_set, xor_nat _ _ a.isLt b.isLt]
  exact one_all ⟨_, Nat.xor_lt_two_pow (n := 8) a.isLt b.isLt⟩

theorem and_any (p : Int) (a : Nat) (ha : a < 256) : ibits .and p (a : Int) = (((BitVec.ofInt 64 p).toNat &&& a : Nat) : Int) := by
  have h : (BitVec.ofInt 64 p).toNat &&& a < 256 := Nat.lt_of_le_of_lt Nat.and_le_right ha
  show IntKind.i64.wrap ((BitVec.ofInt 64 p &&& BitVec.ofInt 64 (a : Int)).toNat : Int) = _
  rw [BitVec.toNat_and, bv_nat a ha]
  exact wrap_i64 (by unfold InI; omega)

set_option maxRecDepth 100000 in
theorem pc_all : ∀ d : Fin 256, cntF 8 d.val = pc d.val 8 ∧ (lst d.val).length = pc d.val 8 := by decide +kernel

theorem pc_sum {P Q Y : Nat} (hPQ : P &&& Q = 0) (hP : ∀ n, P.testBit n = true → Y.testBit n = true) (hQ : ∀ n, Q.testBit n = true → Y.testBit n = true) : ∀ n, pc P n + pc Q n ≤ pc Y n
  | 0 => by simp [pc]
  | n + 1 => by
    have ih := pc_sum hPQ hP hQ n
    have hn : (P.testBit n && Q.testBit n) = false := by rw [← Nat.testBit_and, hPQ]; simp
    simp only [pc]
    cases hp : P.testBit n <;> cases hq : Q.testBit n <;> simp only [hp, hq] at hn ⊢
    · simp; omega
    · rw [hQ n hq]; simp; omega
    · rw [hP n hp]; simp; omega
    · cases hn

theorem pc_or (X : Nat) (k : Nat) (hk : X.testBit k = false) : ∀ n, pc (X ||| 2 ^ k) n = pc X n + (if k < n then 1 else 0)
  | 0 => by simp [pc]
  | n + 1 => by
    simp only [pc, pc_or X k hk n, Nat.testBit_or, Nat.testBit_two_pow]
    by_cases h1 : k = n
    · subst h1
      simp [hk]
    · by_cases h2 : k < n
      · have h3 : k < n + 1 := by omega
        simp [h1, h2, h3]; omega
      · have h3 : ¬ k < n + 1 := by omega
        simp [h1, h2, h3]

theorem maj_law {X Y P Q : Nat} (hXY : Y = X ∨ ∃ k, k < 8 ∧ X.testBit k = false ∧ Y = X ||| 2 ^ k) (hP : ∀ n, P.testBit n = true → X.testBit n = true) (hQ : ∀ n, Q.testBit n = true → Y.testBit n = true)
    (h1 : pc X 8 / 2 + 1 ≤ pc P 8) (h2 : pc Y 8 / 2 + 1 ≤ pc Q 8) : P &&& Q ≠ 0 := by
  intro h0
  rcases hXY with rfl | ⟨k, hk, hb, rfl⟩
  · have := pc_sum h0 hP hQ 8
    omega
  · have := pc_sum (Y := X ||| 2 ^ k) h0 (fun n hn => by rw [Nat.testBit_or, hP n hn]; rfl) hQ 8
    have h3 := pc_or X k hb 8
    rw [if_pos hk] at h3
    omega
end Ro

namespace Ro
open Go Go.AL Go.Proofs

theorem spec10 (v1 : UInt64) (m1 : List Int) (v2 : UInt64) (m2 : List Int) (a b k : Int) (v : UInt64) (h1 : m1.length ≤ 9223372036854775807) :
    Spec Try.prog 10 [ls v1 m1, ls v2 m2, .i a, .i b, .i k, .u64 v] [] (.b true) [] := by
  refine of10 v1 m1 v2 m2 a b k v (tbl_ok (by simp [ok45, ok54, ok55, ok52, ok56, ok35, ok50])) ?_
  simp only [true_and, and_true, unli_li, li_len, follows_after, beq_self_eq_true, cases2]
  have l8 := fun x => bitsL_len x 8
  have h7 := bit_bd (and7 k)
  refine ⟨by decide, by decide, h7, by decide, h1, ?_⟩
  have e1 := l8 (ibits .and a 255)
  have e2 := l8 (ibits .and b 255)
  refine ⟨by omega, by omega, ⟨by omega, by omega⟩, ?_⟩
  cases hv : (1 + v % 5 == v % 7) with
  | true => simp only [Bool.true_and, beq_self_eq_true]; exact ⟨⟨by omega, by omega⟩, trivial⟩
  | false => simp

theorem bits_lst (a : Nat) (h : a < 256) : bitsL (a : Int) 8 = lst a := (ok_all ⟨a, h⟩).2.2

theorem one_right (X : Fin 256) (h : X.val ≠ 0) : rightB 1 (lst X.val) = true ∧ rightB 2 (lst X.val) = true := by
  have h2 : okL (lst X.val) = true := by rw [(ok_all X).1]; simpa using h
  rw [right_ok (by decide) (by decide), right_ok (by decide) (by decide)]
  exact ⟨h2, h2⟩

theorem spec7 (b k p q : Int) : Spec Try.prog 7 [.i b, .i k, .i p, .i q] [] (.b true) [] := by
  refine of7 b k p q (tbl_ok (by simp [ok45, ok46, ok47, ok48, ok49, ok50])) ?_
  simp only [true_and, and_true, unli_li, li_len]
  obtain ⟨j, hj⟩ := ibits7 k
  rw [hj]
  have hx : ∃ X : Fin 256, ibits .or (ibits .and b 255) 1 = (X.val : Int) ∧ X.val ≠ 0 := by
    have e : ibits .and b 255 = (((BitVec.ofInt 64 b).toNat &&& 255 : Nat) : Int) := and_any b 255 (by omega)
    have hlt : (BitVec.ofInt 64 b).toNat &&& 255 < 256 := Nat.lt_of_le_of_lt Nat.and_le_right (by omega)
    have e2 := or_nat ((BitVec.ofInt 64 b).toNat &&& 255) 1 hlt (by omega)
    refine ⟨⟨((BitVec.ofInt 64 b).toNat &&& 255) ||| 1, Nat.or_lt_two_pow (n := 8) hlt (by omega)⟩, by rw [e]; exact e2, fun h0 => ?_⟩
    have := congrArg (fun x => x.testBit 0) h0
    simp [Nat.testBit_or] at this
  obtain ⟨X, hX, hX0⟩ := hx
  rw [hX, bits_lst X.val X.isLt]
  have hr := one_right X hX0
  have hlen := bitsL_len (X.val : Int) 8
  rw [bits_lst X.val X.isLt] at hlen
  have hp := and_any p X.val X.isLt
  have hpl : (BitVec.ofInt 64 p).toNat &&& X.val < 256 := Nat.lt_of_le_of_lt Nat.and_le_right X.isLt
  have hok : okL (lst X.val) = true := by rw [← right_ok (v := 1) (by decide) (by decide)]; exact hr.1
  -- both ways: Y is who is in m
  have main : ∀ (Y : Fin 256) (P Q : Nat), (Y.val = X.val ∨ ∃ k, k < 8 ∧ X.val.testBit k = false ∧ Y.val = X.val ||| 2 ^ k) → P = (BitVec.ofInt 64 p).toNat &&& X.val → Q = (BitVec.ofInt 64 q).toNat &&& Y.val →
      ¬ ((cntF 8 P : Int) < ((lst X.val).length / 2 + 1 : Nat)) → ¬ ((cntF 8 Q : Int) < ((lst Y.val).length / 2 + 1 : Nat)) → P < 256 → Q < 256 → (ibits .and (P : Int) (Q : Int) != 0) = true := by
    intro Y P Q hY hP hQ g1 g2 l1 l2
    rw [and_nat P Q l1 l2]
    have k1 := pc_all ⟨P, l1⟩
    have k2 := pc_all ⟨Q, l2⟩
    have k3 := pc_all X
    have k4 := pc_all Y
    simp only at k1 k2
    have := maj_law hY (P := P) (Q := Q) (fun n hn => by rw [hP, Nat.testBit_and] at hn; simp at hn; exact hn.2) (fun n hn => by rw [hQ, Nat.testBit_and] at hn; simp at hn; exact hn.2) (by omega) (by omega)
    simp only [bne_iff_ne, ne_eq]
    omega
  rw [withL_eq (by decide) (by decide) (lst_sorted _), hok, (has_all X j).1]
  cases hb : X.val.testBit j.val with
  | true =>
    have hq := and_any q X.val X.isLt
    have hql : (BitVec.ofInt 64 q).toNat &&& X.val < 256 := Nat.lt_of_le_of_lt Nat.and_le_right X.isLt
    simp only [Bool.not_true, Bool.and_false, Bool.false_and, Bool.false_eq_true, if_false, Bool.not_false, cases2, lst_set, hr.1, if_true]
    rw [hp, hq]
    refine ⟨by omega, by omega, ?_⟩
    rw [Int.toNat_natCast, Int.toNat_natCast]
    refine cases2_dec (fun _ => trivial) fun g1 => ?_
    refine ⟨by omega, cases2_dec (fun _ => trivial) fun g2 => ?_⟩
    rw [main X _ _ (.inl rfl) rfl rfl g1 g2 hpl hql]
    exact trivial
  | false =>
    obtain ⟨f1, f2⟩ := (ins_all X j).1 hb
    have hor : orL X.val j.val = lst (X.val ||| 2 ^ j.val) := by
      unfold orL
      have hj2 : 2 ^ j.val < 2 ^ 8 := Nat.pow_lt_pow_right (by decide) j.isLt
      have e : (1 : Int) * 2 ^ j.val = ((2 ^ j.val : Nat) : Int) := by simp
      rw [lst_set, e, or_nat X.val (2 ^ j.val) X.isLt hj2]
      exact bits_lst _ (Nat.or_lt_two_pow (n := 8) X.isLt hj2)
    have hYlt : X.val ||| 2 ^ j.val < 256 := Nat.or_lt_two_pow (n := 8) X.isLt (Nat.pow_lt_pow_right (a := 2) (by decide) j.isLt)
    have hY0 : X.val ||| 2 ^ j.val ≠ 0 := by
      intro h0
      have := congrArg (fun x => x.testBit j.val) h0
      simp [Nat.testBit_or] at this
    have hr2 := one_right ⟨_, hYlt⟩ hY0
    have hs2 := lst_set ⟨_, hYlt⟩
    have hq := and_any q (X.val ||| 2 ^ j.val) hYlt
    have hql : (BitVec.ofInt 64 q).toNat &&& (X.val ||| 2 ^ j.val) < 256 := Nat.lt_of_le_of_lt Nat.and_le_right hYlt
    have hlen2 := bitsL_len ((X.val ||| 2 ^ j.val : Nat) : Int) 8
    rw [bits_lst _ hYlt] at hlen2
    simp only at hr2 hs2
    rw [f1, f2, hor]
    have h11 : (1 : UInt64) + 1 = 2 := by decide
    simp only [Bool.not_false, Bool.and_self, if_true, Bool.not_true, cases2, hs2, hr.1, h11, hr2.2]
    rw [hp, hq]
    refine ⟨by omega, by omega, ?_⟩
    rw [Int.toNat_natCast, Int.toNat_natCast]
    refine cases2_dec (fun _ => trivial) fun g1 => ?_
    refine ⟨by omega, cases2_dec (fun _ => trivial) fun g2 => ?_⟩
    rw [main ⟨_, hYlt⟩ _ _ (.inr ⟨j.val, j.isLt, hb, rfl⟩) rfl rfl g1 g2 hpl hql]
    exact trivial
end Ro

namespace Ro
open Go Go.AL Go.Proofs
set_option maxRecDepth 100000
theorem spec9 : Spec Try.prog 9 [] [] (.b true) [] := by
  refine of9 (tbl_ok (by simp [ok45, ok54, ok50])) ?_
  simp only [true_and, and_true, unli_li, li_len]
  refine ⟨by omega, fun i hi => cases2_dec (fun h => ⟨by omega, by omega, fun j hj => cases2_dec (fun h => ?_) fun h => ?_⟩) fun h => ?_⟩
  · have := bitsL_len (i : Int) 8
    exact ⟨by decide, by omega, by omega, j + 1, by omega, by omega, by omega⟩
  · exact ⟨by omega, i + 1, by omega, by omega, by omega⟩
  · clear hi h i
    refine ⟨by omega, by omega, by omega, by omega, fun i hi => cases2_dec (fun h => ⟨⟨rfl, by decide⟩, by omega, i + 1, by omega, by omega, by omega⟩) fun h => ?_⟩
    refine ⟨by omega, by omega, by omega, by omega, fun i hi => cases2_dec (fun h => ⟨⟨rfl, by decide⟩, by omega, i + 1, by omega, by omega, by omega⟩) fun h => ?_⟩
    refine ⟨by omega, by omega, by omega, by omega, fun i hi => cases2_dec (fun h => ⟨⟨rfl, by decide⟩, by omega, i + 1, by omega, by omega, by omega⟩) fun h => ?_⟩
    refine ⟨by omega, by omega, by omega, by omega, fun i hi => cases2_dec (fun h => ⟨⟨rfl, by decide⟩, by omega, i + 1, by omega, by omega, by omega⟩) fun h => ?_⟩
    refine ⟨by omega, by omega, by omega, by omega, fun i hi => cases2_dec (fun h => ⟨⟨rfl, by decide⟩, by omega, i + 1, by omega, by omega, by omega⟩) fun h => ?_⟩
    refine ⟨by omega, by omega, by omega, by omega, fun i hi => cases2_dec (fun h => ⟨⟨rfl, by decide⟩, by omega, i + 1, by omega, by omega, by omega⟩) fun h => ?_⟩
    refine ⟨by omega, by omega, by omega, by omega, fun i hi => cases2_dec (fun h => ⟨⟨rfl, by decide⟩, by omega, i + 1, by omega, by omega, by omega⟩) fun h => ?_⟩
    refine ⟨by omega, by omega, by omega, by omega, fun i hi => cases2_dec (fun h => ⟨⟨rfl, by decide⟩, by omega, i + 1, by omega, by omega, by omega⟩) fun h => ?_⟩
    omega
end Ro

/- What a law's arguments read as, in the values of the abstract machine; and that they read again behind a call. No condition. -/
namespace Go.AL
open Go Go.RowKit

/-- The form of an argument. -/
inductive Sh where
  | i | u64 | u8 | b | s | bs
  | ba (n : Nat)
  | st (fs : List Sh)
  | sl (e : Sh)

mutual
def Sh.sk : Sh → Sk
  | .ba n => .ba n
  | .st fs => .ag (Sh.sks fs)
  | _ => .lf
def Sh.sks : List Sh → List Sk
  | [] => []
  | f :: fs => Sh.sk f :: Sh.sks fs
end

def isU8 (P : Program) (e : TypeId) : Bool := match P.underlying e with
  | some (.int .u8) => Nat.beq (P.cellsOf e) 1
  | _ => false

mutual
/-- Is a type of this form? -/
def Sh.fit (P : Program) : Sh → TypeId → Bool
  | .i, t => match P.underlying t with | some (.int .i64) => true | _ => false
  | .u64, t => match P.underlying t with | some (.int .u64) => true | _ => false
  | .u8, t => match P.underlying t with | some (.int .u8) => true | _ => false
  | .b, t => match P.underlying t with | some .bool => true | _ => false
  | .s, t => match P.underlying t with | some .string => true | _ => false
  | .bs, t => match P.underlying t with | some (.slice e) => isU8 P e | _ => false
  | .ba n, t => match P.underlying t with | some (.array m e) => Nat.beq n m && isU8 P e && Nat.beq (P.cellsOf t) n | _ => false
  | .st qs, t => match P.underlying t with | some (.struct fs) => Sh.fits P qs fs.toList 0 && Nat.beq (P.cellsOf t) (Sk.sizes (Sh.sks qs)) | _ => false
  | .sl q, t => match P.underlying t with | some (.slice e) => Sh.fit P q e && Nat.beq (P.cellsOf e) q.sk.size && Nat.ble 1 q.sk.size | _ => false
def Sh.fits (P : Program) : List Sh → List Field → Nat → Bool
  | [], [], _ => true
  | q :: qs, f :: fs, off => Nat.beq f.offset off && Sh.fit P q f.type && Nat.beq (P.cellsOf f.type) q.sk.size && Sh.fits P qs fs (off + q.sk.size)
  | _, _, _ => false
end

mutual
/-- A value of this form. -/
def Sh.is : Sh → T → Prop
  | .i, x => ∃ n, x = .i n ∧ InI n
  | .u64, x => ∃ n, x = .u64 n
  | .u8, x => ∃ n, x = .u8 n
  | .b, x => ∃ c, x = .b c
  | .s, x => ∃ l, x = .s l ∧ l.length ≤ maxLen
  | .bs, x => ∃ l, x = .sb l ∧ l.length ≤ maxLen
  | .ba n, x => ∃ l, x = .ba n l ∧ l.length = n
  | .st fs, x => ∃ xs, x = .agg xs ∧ Sh.are fs xs
  | .sl e, x => ∃ xs, x = .sl e.sk xs ∧ xs.length ≤ maxLen ∧ ∀ y ∈ xs, Sh.is e y
def Sh.are : List Sh → List T → Prop
  | [], xs => xs = []
  | f :: fs, xs => ∃ y ys, xs = y :: ys ∧ Sh.is f y ∧ Sh.are fs ys
end

theorem cell_heap {w : World} {a : Addr} {v : Value} (h : w.cell? a = some v) : a.spot = none ∧ ∃ cs e fz, w.heap[a.block]? = some (.cells cs e fz) ∧ cs[a.off]? = some v := by
  unfold World.cell? at h
  split at h
  · rename_i cs e fz hb
    split at h
    · cases h
    · rename_i hs
      refine ⟨by simpa using hs, cs, e, fz, hb, h⟩
  · cases h

theorem cells_at {w : World} {base : Nat} {a : Addr} {n : Nat} {cs : List Value} (h : w.cells? base a n = some cs) : cs.length = n ∧ ∀ i, i < n → w.cell? (a.add i) = cs[i]? := by
  unfold World.cells? at h
  split at h
  · have hl := mapM_some_length h
    simp at hl
    refine ⟨hl, fun i hi => ?_⟩
    exact mapM_some_get h i i (by simp [hi])
  · cases h

theorem add_plain {a : Addr} (h : a.spot = none) (i : Nat) : a.add i = ⟨a.block, a.off + i, none⟩ := by
  cases a
  simp only at h
  subst h
  exact addr_add _ _ _

/-- Cells of a slice, one behind the other. -/
theorem lies_of {w : World} {a : Addr} {ds : List Value} (h : ∀ j, j < ds.length → w.cell? (a.add j) = ds[j]?) : Lies w (fun _ => False) (some a) ds := by
  cases ds with
  | nil => exact .inl rfl
  | cons d ds =>
    right
    have h0 := h 0 (by simp)
    have ha0 : a.add 0 = a := by unfold Addr.add; simp
    rw [ha0] at h0
    simp only [List.getElem?_cons_zero] at h0
    obtain ⟨hs, cs, e, fz, hb, hc⟩ := cell_heap h0
    have hcell : ∀ j, j < (d :: ds).length → cs[a.off + j]? = (d :: ds)[j]? := by
      intro j hj
      have hj' := h j hj
      rw [add_plain hs] at hj'
      rw [List.getElem?_eq_getElem hj] at hj' ⊢
      obtain ⟨_, cs', e', fz', hb', hc'⟩ := cell_heap hj'
      simp only at hb' hc'
      rw [hb] at hb'
      simp only [Option.some.injEq, Go.Obj.cells.injEq] at hb'
      rw [hb'.1]; exact hc'
    refine ⟨a.block, a.off, ?_, fun f => f, cs, e, fz, hb, ?_, hcell⟩
    · cases a; simp only at hs; subst hs; rfl
    · have := hcell ((d :: ds).length - 1) (by simp)
      have h2 : cs[a.off + ((d :: ds).length - 1)]? ≠ none := by rw [this]; simp
      rw [ne_eq, Array.getElem?_eq_none_iff] at h2
      simp only [List.length_cons] at h2 ⊢
      omega

section
variable {H : Type} {enc : TypeId × Value → H} {P : Program} {w : World} {base : Nat} {spare : Nat → Bool} {held : Bool}

theorem read_u8 {e : TypeId} (he : isU8 P e = true) {n : Nat} {cs : List Value} {x : DataW H × List MemPlace} (h : DataW.trod enc P w base spare held n e cs = some x) : ∃ c : UInt8, cs = [u8v c] := by
  unfold isU8 at he
  split at he
  · rename_i ht
    obtain ⟨m, rfl, _, hw⟩ := DataW.trod_int ht h
    have := bounds_u8 hw
    refine ⟨UInt8.ofNat m.toNat, ?_⟩
    unfold u8v
    rw [UInt8.toNat_ofNat']
    congr 2
    omega
  · cases he

/-- A row of bytes. -/
theorem read_bytes {f : Nat → List Value} : ∀ n, (∀ i, i < n → ∃ c : UInt8, f i = [u8v c]) → ∃ l : List UInt8, l.length = n ∧ (List.range n).flatMap f = l.map u8v
  | 0, _ => ⟨[], rfl, rfl⟩
  | n + 1, h => by
    obtain ⟨l, hl, e⟩ := read_bytes n (fun i hi => h i (by omega))
    obtain ⟨c, hc⟩ := h n (by omega)
    refine ⟨l ++ [c], by simp [hl], ?_⟩
    rw [List.range_succ, List.flatMap_append, e]
    simp [hc]

theorem flat_get {k : Nat} {f : Nat → List Value} : ∀ n, (∀ i, i < n → (f i).length = k) → ((List.range n).flatMap f).length = n * k ∧ ∀ i j, i < n → j < k → ((List.range n).flatMap f)[i * k + j]? = (f i)[j]?
  | 0, _ => ⟨by simp, fun i j hi => by omega⟩
  | n + 1, h => by
    obtain ⟨h1, h2⟩ := flat_get n (fun i hi => h i (by omega))
    have h3 := h n (by omega)
    rw [List.range_succ, List.flatMap_append]
    simp only [List.flatMap_cons, List.flatMap_nil, List.append_nil]
    refine ⟨by rw [List.length_append, h1, h3, Nat.succ_mul], fun i j hi hj => ?_⟩
    by_cases hin : i < n
    · have : i * k + j < n * k := by
        have : (i + 1) * k ≤ n * k := Nat.mul_le_mul_right k (by omega)
        rw [Nat.succ_mul] at this; omega
      rw [List.getElem?_append_left (by omega)]
      exact h2 i j hin hj
    · have : i = n := by omega
      subst this
      rw [List.getElem?_append_right (by omega), h1]
      congr 1
      omega

theorem split_len (l : List Value) (k : Nat) : ∀ n, l.length = n * k → l = (List.range n).flatMap fun i => (l.drop (i * k)).take k
  | 0, h => by
    have : l = [] := by simpa using h
    subst this; rfl
  | n + 1, h => by
    have hk : (l.take (n * k)).length = n * k := by rw [List.length_take]; rw [Nat.succ_mul] at h; omega
    have ih := split_len (l.take (n * k)) k n hk
    rw [List.range_succ, List.flatMap_append]
    simp only [List.flatMap_cons, List.flatMap_nil, List.append_nil]
    have e1 : (List.range n).flatMap (fun i => (l.drop (i * k)).take k) = l.take (n * k) := by
      rw [ih]
      simp only [List.flatMap]
      congr 1
      refine List.map_congr_left fun i hi => ?_
      have hi : i < n := by simpa using hi
      have : (i + 1) * k ≤ n * k := Nat.mul_le_mul_right k (by omega)
      rw [Nat.succ_mul] at this
      rw [List.drop_take, List.take_take]
      congr 1
      omega
    rw [e1, List.take_of_length_le (l := l.drop (n * k)) (by rw [List.length_drop]; rw [Nat.succ_mul] at h; omega), List.take_append_drop]

mutual
theorem Sh.read : ∀ (q : Sh) {t : TypeId} {n : Nat} {cs : List Value} {x : DataW H × List MemPlace}, q.fit P t = true → DataW.trod enc P w base spare held n t cs = some x →
    ∃ y, q.is y ∧ y.sk = q.sk ∧ RC w (fun _ => False) Ext.none y cs
  | .i, t, n, cs, x, hf, h => by
    simp only [Sh.fit] at hf
    split at hf
    · rename_i ht
      obtain ⟨m, rfl, _, hw⟩ := DataW.trod_int ht h
      refine ⟨.i m, ⟨m, rfl, ?_⟩, rfl, by simp only [RC]⟩
      unfold InI
      simp [Lit.wf, IntKind.min, IntKind.max, IntKind.signed, IntKind.bits] at hw
      omega
    · cases hf
  | .u64, t, n, cs, x, hf, h => by
    simp only [Sh.fit] at hf
    split at hf
    · rename_i ht
      obtain ⟨m, rfl, _, hw⟩ := DataW.trod_int ht h
      refine ⟨.u64 (UInt64.ofInt m), ⟨_, rfl⟩, rfl, ?_⟩
      simp only [RC]
      rw [ofInt_u64]
      simp [Lit.wf, IntKind.min, IntKind.max, IntKind.signed, IntKind.bits] at hw
      congr 2
      omega
    · cases hf
  | .u8, t, n, cs, x, hf, h => by
    simp only [Sh.fit] at hf
    split at hf
    · rename_i ht
      obtain ⟨m, rfl, _, hw⟩ := DataW.trod_int ht h
      have := bounds_u8 hw
      refine ⟨.u8 (UInt8.ofInt m), ⟨_, rfl⟩, rfl, ?_⟩
      simp only [RC, u8v]
      rw [ofInt_u8]
      congr 2
      omega
    · cases hf
  | .b, t, n, cs, x, hf, h => by
    simp only [Sh.fit] at hf
    split at hf
    · rename_i ht
      obtain ⟨m, rfl, _⟩ := DataW.trod_bool ht h
      exact ⟨.b m, ⟨m, rfl⟩, rfl, by simp only [RC]⟩
    · cases hf
  | .s, t, n, cs, x, hf, h => by
    simp only [Sh.fit] at hf
    split at hf
    · rename_i ht
      obtain ⟨m, rfl, _, hl⟩ := DataW.trod_string ht h
      exact ⟨.s m.data.toList, ⟨_, rfl, by simpa using hl⟩, rfl, by simp only [RC, Array.toArray_toList]⟩
    · cases hf
  | .bs, t, n, cs, x, hf, h => by
    simp only [Sh.fit] at hf
    split at hf
    · rename_i e ht
      rcases Go.Deep.open_slice ht h with ⟨rfl, _⟩ | ⟨a, len, cap, m, k, D, Pl, rfl, _, h1, h2, h3, _, h5⟩
      · exact ⟨.sb [], ⟨[], rfl, by simp⟩, rfl, by simp only [RC]; exact ⟨none, 0, rfl, by simp, .inl rfl⟩⟩
      · have hc : P.cellsOf e = 1 := by unfold isU8 at hf; split at hf; (· exact Nat.eq_of_beq_eq_true hf); (· cases hf)
        have hm : len ≤ m := by rw [h3]; split <;> omega
        have hx : ∀ i, ∃ c : List Value, i < len → (∃ u : UInt8, c = [u8v u]) ∧ w.cell? (a.add i) = c[0]? := by
          intro i
          by_cases hi : i < len
          · obtain ⟨c, g1, g2⟩ := h5 i (by omega)
            rw [hc, Nat.mul_one] at g1
            obtain ⟨s1, s2⟩ := cells_at g1
            have s3 := s2 0 (by omega)
            have : (a.add i).add 0 = a.add i := by unfold Addr.add; simp
            rw [this] at s3
            exact ⟨c, fun _ => ⟨read_u8 hf g2, s3⟩⟩
          · exact ⟨[], fun hh => absurd hh hi⟩
        have hch := Classical.axiomOfChoice hx
        obtain ⟨f, hf'⟩ := hch
        obtain ⟨l, hl, hfl⟩ := read_bytes (f := f) len (fun i hi => (hf' i hi).1)
        refine ⟨.sb l, ⟨l, rfl, by omega⟩, rfl, ?_⟩
        simp only [RC]
        refine ⟨some a, cap, by rw [hl], by omega, lies_of fun j hj => ?_⟩
        have hj : j < len := by simpa [hl] using hj
        obtain ⟨_, s2⟩ := flat_get (k := 1) (f := f) len (fun i hi => by obtain ⟨u, hu⟩ := (hf' i hi).1; rw [hu]; rfl)
        have := s2 j 0 hj (by omega)
        rw [(hf' j hj).2, ← hfl, ← this]
        congr 1
        omega
    · cases hf
  | .ba k, t, n, cs, x, hf, h => by
    simp only [Sh.fit] at hf
    split at hf
    · rename_i m e ht
      simp only [Bool.and_eq_true] at hf
      have e1 := Nat.eq_of_beq_eq_true hf.1.1
      have e2 := Nat.eq_of_beq_eq_true hf.2
      subst e1
      have hc : P.cellsOf e = 1 := by have := hf.1.2; unfold isU8 at this; split at this; (· exact Nat.eq_of_beq_eq_true this); (· cases this)
      obtain ⟨xs, p, rfl, _, hl, hxl, hg⟩ := DataW.trod_array ht h
      rw [hc] at hg
      have hsp := split_len cs 1 k (by omega)
      obtain ⟨l, hll, hfl⟩ := read_bytes (f := fun i => (cs.drop (i * 1)).take 1) k (fun i hi => by
        have := hg i hi
        rw [List.getElem?_eq_getElem (by omega)] at this
        exact read_u8 hf.1.2 this)
      refine ⟨.ba k l, ⟨l, rfl, hll⟩, rfl, ?_⟩
      simp only [RC]
      exact ⟨hll, hsp.trans hfl⟩
    · cases hf
  | .st qs, t, n, cs, x, hf, h => by
    simp only [Sh.fit] at hf
    split at hf
    · rename_i fs ht
      simp only [Bool.and_eq_true] at hf
      obtain ⟨xs, p, rfl, _, hl, hxl, hg⟩ := DataW.trod_struct ht h
      obtain ⟨ys, h1, h2, h3⟩ := Sh.reads qs (fs := fs.toList) (off := 0) (cs := cs) (n := p) hf.1 (fun k f hk => by
        have hk' : fs[k]? = some f := by simpa using hk
        have := hg k f hk'
        have hlt : k < fs.size := (Array.getElem?_eq_some_iff.1 hk').1
        rw [List.getElem?_eq_getElem (by omega)] at this
        exact ⟨_, by simpa using this⟩) (by rw [hl, Nat.eq_of_beq_eq_true hf.2])
      exact ⟨.agg ys, ⟨ys, rfl, h1⟩, by simp only [T.sk, Sh.sk, h2], by simp only [RC]; exact h3⟩
    · cases hf
  | .sl q, t, n, cs, x, hf, h => by
    simp only [Sh.fit] at hf
    split at hf
    · rename_i e ht
      simp only [Bool.and_eq_true] at hf
      have e2 := Nat.eq_of_beq_eq_true hf.1.2
      rcases Go.Deep.open_slice ht h with ⟨rfl, _⟩ | ⟨a, len, cap, m, k, D, Pl, rfl, _, h1, h2, h3, _, h5⟩
      · exact ⟨.sl q.sk [], ⟨[], rfl, by simp, fun y hy => by simp at hy⟩, rfl, by simp only [RC]; exact ⟨none, 0, rfl, by simp, [], by simp only [RU], .inl rfl⟩⟩
      · have hm : len ≤ m := by rw [h3]; split <;> omega
        have hx : ∀ i, ∃ c : List Value × T, i < len → q.is c.2 ∧ c.2.sk = q.sk ∧ RC w (fun _ => False) Ext.none c.2 c.1 ∧ c.1.length = q.sk.size ∧ ∀ j, j < q.sk.size → w.cell? ((a.add (i * q.sk.size)).add j) = c.1[j]? := by
          intro i
          by_cases hi : i < len
          · obtain ⟨c, g1, g2⟩ := h5 i (by omega)
            rw [e2] at g1
            obtain ⟨s1, s2⟩ := cells_at g1
            obtain ⟨y, y1, y2, y3⟩ := Sh.read q hf.1.1 g2
            exact ⟨(c, y), fun _ => ⟨y1, y2, y3, s1, s2⟩⟩
          · exact ⟨([], .junk), fun hh => absurd hh hi⟩
        obtain ⟨f, hf'⟩ := Classical.axiomOfChoice hx
        have hru : ∀ k, k ≤ len → RU w (fun _ => False) q.sk ((List.range k).map fun i => (f i).2) ((List.range k).flatMap fun i => (f i).1) := by
          intro k
          induction k with
          | zero => intro _; simp [RU]
          | succ k ih =>
            intro hk
            rw [List.range_succ, List.map_append, List.flatMap_append]
            refine RU.append _ _ _ _ (ih (by omega)) ?_
            obtain ⟨_, y2, y3, y4, _⟩ := hf' k (by omega)
            simp only [List.map_cons, List.map_nil, List.flatMap_cons, List.flatMap_nil, List.append_nil, RU]
            exact ⟨_, [], by simp, y4, y2, y3, rfl⟩
        refine ⟨.sl q.sk ((List.range len).map fun i => (f i).2), ⟨_, rfl, by simp; omega, fun y hy => ?_⟩, rfl, ?_⟩
        · obtain ⟨i, hi, rfl⟩ := List.mem_map.1 hy
          exact (hf' i (by simpa using hi)).1
        · simp only [RC]
          refine ⟨some a, cap, by simp, by simpa using h1, _, hru len (Nat.le_refl _), lies_of fun j hj => ?_⟩
          obtain ⟨s1, s2⟩ := flat_get (k := q.sk.size) (f := fun i => (f i).1) len (fun i hi => (hf' i hi).2.2.2.1)
          rw [s1] at hj
          have hpos : 0 < q.sk.size := Nat.le_of_ble_eq_true hf.2
          have hdiv : j / q.sk.size < len := by rw [Nat.div_lt_iff_lt_mul hpos]; exact hj
          have hmod := Nat.mod_lt j hpos
          have hsum := Nat.div_add_mod j q.sk.size
          rw [Nat.mul_comm] at hsum
          have g := s2 (j / q.sk.size) (j % q.sk.size) hdiv hmod
          rw [hsum] at g
          rw [g, ← (hf' _ hdiv).2.2.2.2 _ hmod]
          have hspot : a.spot = none := by
            have c1 := (hf' 0 (Nat.lt_of_le_of_lt (Nat.zero_le _) hdiv)).2.2.2.2 0 hpos
            have c2 : (f 0).1.length = q.sk.size := (hf' 0 (Nat.lt_of_le_of_lt (Nat.zero_le _) hdiv)).2.2.2.1
            rw [List.getElem?_eq_getElem (by omega), Nat.zero_mul] at c1
            have ha0 : (a.add 0).add 0 = a := by unfold Addr.add; simp
            rw [ha0] at c1
            exact (cell_heap c1).1
          rw [add_plain hspot, add_plain hspot, addr_add]
          congr 2
          omega
    · cases hf
theorem Sh.reads : ∀ (qs : List Sh) {fs : List Field} {off : Nat} {cs : List Value} {n : Nat}, Sh.fits P qs fs off = true →
    (∀ (k : Nat) (f : Field), fs[k]? = some f → ∃ x, DataW.trod enc P w base spare held n f.type ((cs.drop (f.offset - off)).take (P.cellsOf f.type)) = some x) → cs.length = Sk.sizes (Sh.sks qs) →
    ∃ ys, Sh.are qs ys ∧ T.sks ys = Sh.sks qs ∧ RL w (fun _ => False) Ext.none ys cs
  | [], fs, off, cs, n, hf, h, hl => by
    refine ⟨[], rfl, rfl, ?_⟩
    simp only [RL]
    simpa [Sh.sks, Sk.sizes] using hl
  | q :: qs, [], off, cs, n, hf, h, hl => by simp [Sh.fits] at hf
  | q :: qs, f :: fs, off, cs, n, hf, h, hl => by
    simp only [Sh.fits, Bool.and_eq_true] at hf
    obtain ⟨⟨⟨f1, f2⟩, f3⟩, f4⟩ := hf
    have f1 := Nat.eq_of_beq_eq_true f1
    have f3 := Nat.eq_of_beq_eq_true f3
    simp only [Sh.sks, Sk.sizes] at hl
    obtain ⟨x, hx⟩ := h 0 f rfl
    rw [f1, Nat.sub_self, List.drop_zero, f3] at hx
    obtain ⟨y, y1, y2, y3⟩ := Sh.read q f2 hx
    have hoff : ∀ (k : Nat) (g : Field) (qs : List Sh) (fs : List Field) (o : Nat), Sh.fits P qs fs o = true → fs[k]? = some g → o ≤ g.offset := by
      intro k
      induction k with
      | zero =>
        intro g qs fs o hf hk
        cases fs with
        | nil => simp at hk
        | cons f' fs' =>
          cases qs with
          | nil => simp [Sh.fits] at hf
          | cons q' qs' =>
            simp only [Sh.fits, Bool.and_eq_true] at hf
            simp at hk; subst hk
            have := Nat.eq_of_beq_eq_true hf.1.1.1
            omega
      | succ k ih =>
        intro g qs fs o hf hk
        cases fs with
        | nil => simp at hk
        | cons f' fs' =>
          cases qs with
          | nil => simp [Sh.fits] at hf
          | cons q' qs' =>
            simp only [Sh.fits, Bool.and_eq_true] at hf
            simp at hk
            have := ih g qs' fs' _ hf.2 hk
            omega
    obtain ⟨ys, z1, z2, z3⟩ := Sh.reads qs (fs := fs) (off := off + q.sk.size) (cs := cs.drop q.sk.size) (n := n) f4 (fun k g hk => by
      obtain ⟨x', hx'⟩ := h (k + 1) g (by simpa using hk)
      have := hoff k g qs fs _ f4 hk
      rw [List.drop_drop]
      rw [show q.sk.size + (g.offset - (off + q.sk.size)) = g.offset - off by omega]
      exact ⟨x', hx'⟩) (by rw [List.length_drop]; omega)
    refine ⟨y :: ys, ⟨y, ys, rfl, y1, z1⟩, by simp only [T.sks, Sh.sks, y2, z2], ?_⟩
    simp only [RL]
    refine ⟨cs.take q.sk.size, cs.drop q.sk.size, (List.take_append_drop _ _).symm, ?_, y3, z3⟩
    rw [y2, List.length_take]; omega
end
end

/-- An argument. -/
theorem Sh.arg {H : Type} {enc : TypeId × Value → H} {P : Program} {w : World} {base : Nat} {spare : Nat → Bool} {held : Bool} {r : Reach} {b0 : Nat} (q : Sh) {t : TypeId} {v : Value} {d : DataW H} {ps : List MemPlace}
    (hf : q.fit P t = true) (hv : Value.okWide P w r b0 t v) (h : DataW.Trod enc P w base spare held t v d ps) : ∃ y, q.is y ∧ RV w (fun _ => False) Ext.none y v := by
  obtain ⟨n, h⟩ := h
  obtain ⟨y, y1, y2, y3⟩ := q.read hf h
  refine ⟨y, y1, ?_⟩
  cases q with
  | i =>
    simp only [Sh.fit] at hf
    split at hf
    · rename_i ht
      obtain ⟨m, rfl⟩ := WideShapes.okWide_int ht hv
      obtain ⟨m', rfl, _⟩ := y1
      exact .inr ⟨rfl, by simpa [Value.cells] using y3⟩
    · cases hf
  | u64 =>
    simp only [Sh.fit] at hf
    split at hf
    · rename_i ht
      obtain ⟨m, rfl⟩ := WideShapes.okWide_int ht hv
      obtain ⟨m', rfl⟩ := y1
      exact .inr ⟨rfl, by simpa [Value.cells] using y3⟩
    · cases hf
  | u8 =>
    simp only [Sh.fit] at hf
    split at hf
    · rename_i ht
      obtain ⟨m, rfl⟩ := WideShapes.okWide_int ht hv
      obtain ⟨m', rfl⟩ := y1
      exact .inr ⟨rfl, by simpa [Value.cells] using y3⟩
    · cases hf
  | b =>
    simp only [Sh.fit] at hf
    split at hf
    · rename_i ht
      obtain ⟨m, rfl⟩ := WideShapes.okWide_bool ht hv
      obtain ⟨m', rfl⟩ := y1
      exact .inr ⟨rfl, by simpa [Value.cells] using y3⟩
    · cases hf
  | s =>
    simp only [Sh.fit] at hf
    split at hf
    · rename_i ht
      obtain ⟨m, rfl⟩ := WideShapes.okWide_string ht hv
      obtain ⟨m', rfl, _⟩ := y1
      exact .inr ⟨rfl, by simpa [Value.cells] using y3⟩
    · cases hf
  | bs =>
    simp only [Sh.fit] at hf
    split at hf
    · rename_i ht
      obtain ⟨m, l, c, rfl⟩ := WideShapes.okWide_slice ht hv
      obtain ⟨m', rfl, _⟩ := y1
      exact .inr ⟨rfl, by simpa [Value.cells] using y3⟩
    · cases hf
  | sl e =>
    simp only [Sh.fit] at hf
    split at hf
    · rename_i ht
      obtain ⟨m, l, c, rfl⟩ := WideShapes.okWide_slice ht hv
      obtain ⟨m', rfl, _⟩ := y1
      exact .inr ⟨rfl, by simpa [Value.cells] using y3⟩
    · cases hf
  | ba k =>
    simp only [Sh.fit] at hf
    split at hf
    · rename_i ht
      unfold Value.okWide at hv
      rw [ht] at hv
      obtain ⟨cs, rfl, _⟩ := hv
      obtain ⟨l, rfl, _⟩ := y1
      exact .inl ⟨rfl, cs.toList, by simp, by simpa [Value.cells] using y3⟩
    · cases hf
  | st fs =>
    simp only [Sh.fit] at hf
    split at hf
    · rename_i ht
      unfold Value.okWide at hv
      rw [ht] at hv
      obtain ⟨cs, rfl, _⟩ := hv
      obtain ⟨l, rfl, _⟩ := y1
      exact .inl ⟨rfl, cs.toList, by simp, by simpa [Value.cells] using y3⟩
    · cases hf

def fitAll (P : Program) : List Sh → List TypeId → Bool
  | [], [] => true
  | q :: qs, t :: ts => Sh.fit P q t && fitAll P qs ts
  | _, _ => false

theorem args_read {H : Type} {enc : TypeId × Value → H} {P : Program} {w : World} {base : Nat} {spare : Nat → Bool} {held : Bool} {r : Reach} {b0 : Nat} :
    ∀ (qs : List Sh) {ts : List TypeId} {vs : List Value} {ds : List (DataW H)} {ps : List MemPlace}, fitAll P qs ts = true → (∀ (j : Nat) t v, ts[j]? = some t → vs[j]? = some v → Value.okWide P w r b0 t v) → DataW.TrodAll enc P w base spare held ts vs ds ps →
    ∃ xs, Sh.are qs xs ∧ vs.length = xs.length ∧ ∀ (k : Nat) (x : T), xs[k]? = some x → ∃ v, vs[k]? = some v ∧ RV w (fun _ => False) Ext.none x v
  | [], [], vs, ds, ps, _, _, h => by
    obtain ⟨rfl, rfl, rfl⟩ := ChangeShapes.trodAll_nil h
    exact ⟨[], rfl, rfl, fun k x hx => by simp at hx⟩
  | q :: qs, t :: ts, vs, ds, ps, hf, hv, h => by
    simp only [fitAll, Bool.and_eq_true] at hf
    obtain ⟨v, vs', d, ds', p, p', rfl, rfl, rfl, h1, h2⟩ := ChangeShapes.trodAll_cons h
    obtain ⟨y, y1, y2⟩ := q.arg hf.1 (hv 0 t v rfl rfl) h1
    obtain ⟨ys, z1, z2, z3⟩ := args_read qs hf.2 (fun j t' v' a b => hv (j + 1) t' v' (by simpa using a) (by simpa using b)) h2
    refine ⟨y :: ys, ⟨y, ys, rfl, y1, z1⟩, by simp [z2], fun k x hx => ?_⟩
    cases k with
    | zero => simp at hx; subst hx; exact ⟨v, rfl, y2⟩
    | succ k => simp at hx; simpa using z3 k x hx
  | [], _ :: _, _, _, _, hf, _, _ => by simp [fitAll] at hf
  | _ :: _, [], _, _, _, hf, _, _ => by simp [fitAll] at hf

theorem trodAll_carry {H : Type} {enc : TypeId × Value → H} {P : Program} {w w' : World} {base : Nat} {spare : Nat → Bool} {held : Bool} : ∀ {ts : List TypeId} {vs : List Value} {ds : List (DataW H)} {ps : List MemPlace},
    DataW.TrodAll enc P w base spare held ts vs ds ps → (∀ p ∈ ps, w.sameAt w' p) → DataW.TrodAll enc P w' base spare held ts vs ds ps
  | [], [], [], _, h, _ => h
  | _ :: _, _ :: _, _ :: _, _, ⟨p, q, ⟨n, h1⟩, h2, e⟩, hs => ⟨p, q, ⟨n, DataW.trod_carry n _ _ _ h1 (fun x hx => hs x (by rw [e]; exact List.mem_append_left _ hx))⟩, trodAll_carry h2 (fun x hx => hs x (by rw [e]; exact List.mem_append_right _ hx)), e⟩

theorem below_same {w w' : World} (hb : Below w.heap.size w w') {p : MemPlace} (hp : p.block < w.heap.size) : w.sameAt w' p := by
  cases p with
  | cell b off => exact hb.cell (p := ⟨b, off, none⟩) hp
  | map b => exact hb.block b hp

/-- Arguments read again, where the heap has at most grown. -/
theorem args_again {H : Type} {enc : TypeId × Value → H} {P : Program} {w w' : World} {base : Nat} {spare' : Nat → Bool} (K : Kids P (· < P.types.size)) (hz : ∀ t e, t < P.types.size → P.underlying t = some (.slice e) → 0 < P.cellsOf e)
    {ts : List TypeId} {vs : List Value} {ds : List (DataW H)} {ps : List MemPlace} (hT : ∀ t ∈ ts, t < P.types.size) (h : DataW.TrodAll enc P w base (fun _ => true) true ts vs ds ps) (hb : Below w.heap.size w w') (hlt : ∀ p ∈ ps, p.block < w.heap.size)
    (hs : ∀ p ∈ ps, spare' p.block = true) : DataW.TrodAll enc P w' base spare' true ts vs ds ps :=
  trodAll_carry (DataW.TrodAll.respare K hz hT h hs) (fun p hp => below_same hb (hlt p hp))

/-- A law's contract, as the row wants it. -/
theorem law_calls {P : Program} {f : FuncId} {xs : List T} (hs : Spec P f xs [] (.b true) []) {w : World} {vs : List Value} (hl : vs.length = xs.length) (hx : ∀ (k : Nat) (x : T), xs[k]? = some x → ∃ v, vs[k]? = some v ∧ RV w (fun _ => False) Ext.none x v) :
    Calls P f vs.toArray w fun e w' => e = .returned (.bool true) ∧ Below w.heap.size w w' := by
  refine (hs w (fun _ => False) [] vs rfl List.nodup_nil (fun b hb => by simp at hb) (fun b hb => hb.elim) (fun k x hk => by simp at hk) hl (fun k x hk => ?_)).mono ?_
  · obtain ⟨v, h1, h2⟩ := hx k x hk
    exact ⟨v, h1, RV.mono (fun b hb _ => ⟨hb, rfl⟩) (Ext.none_le _) h2⟩
  · rintro e w' ⟨v, rfl, hk, hr, _⟩
    have := RT.val (x := .b true) hr rfl
    subst this
    exact ⟨rfl, hk.os, hk.tape, hk.output, hk.size, fun k hkl => hk.block k hkl (by simp)⟩
end Go.AL
