/- Numbers in the abstract state. No condition. -/
import Derived.Test.YtngcjhiflplkbaaALNew
namespace Go.AL
open Go

def InI (n : Int) : Prop := -9223372036854775808 ≤ n ∧ n ≤ 9223372036854775807

theorem wrap_i64 {n : Int} (h : InI n) : IntKind.i64.wrap n = n := by
  unfold InI at h
  simp only [IntKind.wrap, IntKind.bits, IntKind.signed, Bool.true_and]
  split
  · rename_i hc
    simp at hc
    omega
  · rename_i hc
    simp at hc
    omega

theorem wrap_u8 (n : Int) : IntKind.u8.wrap n = n % 256 := by
  simp [IntKind.wrap, IntKind.signed, IntKind.bits]
theorem wrap_u32 (n : Int) : IntKind.u32.wrap n = n % 4294967296 := by
  simp [IntKind.wrap, IntKind.signed, IntKind.bits]
theorem wrap_u64 (n : Int) : IntKind.u64.wrap n = n % 18446744073709551616 := by
  simp [IntKind.wrap, IntKind.signed, IntKind.bits]

/-- & and its kin of two ints. -/
def ibits (op : BinOp) (x y : Int) : Int :=
  let a := BitVec.ofInt 64 x
  let b := BitVec.ofInt 64 y
  IntKind.i64.wrap (match op with
    | .and => (a &&& b).toNat
    | .or => (a ||| b).toNat
    | .xor => (a ^^^ b).toNat
    | _ => (a &&& ~~~b).toNat)

/-- What an operation on two values comes to, and what must hold. -/
def bin (op : BinOp) (x y : T) : Option (T × Prop) :=
  match x, y with
  | .i a, .i b => match op with
    | .add => some (.i (a + b), InI (a + b))
    | .sub => some (.i (a - b), InI (a - b))
    | .mul => some (.i (a * b), InI (a * b))
    | .quo => some (.i (a.tdiv b), b ≠ 0 ∧ InI (a.tdiv b))
    | .rem => some (.i (a.tmod b), b ≠ 0)
    | .and => some (.i (ibits .and a b), True)
    | .or => some (.i (ibits .or a b), True)
    | .xor => some (.i (ibits .xor a b), True)
    | .andNot => some (.i (ibits .andNot a b), True)
    | .eql => some (.b (a == b), True)
    | .neq => some (.b (a != b), True)
    | .lss => some (.b (decide (a < b)), True)
    | .leq => some (.b (decide (a ≤ b)), True)
    | .gtr => some (.b (decide (a > b)), True)
    | .geq => some (.b (decide (a ≥ b)), True)
    | .shl => some (.i (a * 2 ^ b.toNat), 0 ≤ b ∧ b < 64 ∧ InI (a * 2 ^ b.toNat))
    | .shr => some (.i (a.fdiv (2 ^ b.toNat)), 0 ≤ b ∧ b < 64)
  | .i a, .u64 b => match op with
    | .shl => some (.i (a * 2 ^ b.toNat), b.toNat < 64 ∧ InI (a * 2 ^ b.toNat))
    | .shr => some (.i (a.fdiv (2 ^ b.toNat)), b.toNat < 64)
    | _ => none
  | .u8 a, .u8 b => match op with
    | .add => some (.u8 (a + b), True)
    | .sub => some (.u8 (a - b), True)
    | .mul => some (.u8 (a * b), True)
    | .quo => some (.u8 (a / b), b ≠ 0)
    | .rem => some (.u8 (a % b), b ≠ 0)
    | .and => some (.u8 (a &&& b), True)
    | .or => some (.u8 (a ||| b), True)
    | .xor => some (.u8 (a ^^^ b), True)
    | .eql => some (.b (a == b), True)
    | .neq => some (.b (a != b), True)
    | .lss => some (.b (decide (a < b)), True)
    | .leq => some (.b (decide (a ≤ b)), True)
    | .gtr => some (.b (decide (b < a)), True)
    | .geq => some (.b (decide (b ≤ a)), True)
    | _ => none
  | .u32 a, .u32 b => match op with
    | .add => some (.u32 (a + b), True)
    | .sub => some (.u32 (a - b), True)
    | .mul => some (.u32 (a * b), True)
    | .quo => some (.u32 (a / b), b ≠ 0)
    | .rem => some (.u32 (a % b), b ≠ 0)
    | .and => some (.u32 (a &&& b), True)
    | .or => some (.u32 (a ||| b), True)
    | .xor => some (.u32 (a ^^^ b), True)
    | .eql => some (.b (a == b), True)
    | .neq => some (.b (a != b), True)
    | .lss => some (.b (decide (a < b)), True)
    | .leq => some (.b (decide (a ≤ b)), True)
    | .gtr => some (.b (decide (b < a)), True)
    | .geq => some (.b (decide (b ≤ a)), True)
    | _ => none
  | .u64 a, .u64 b => match op with
    | .add => some (.u64 (a + b), True)
    | .sub => some (.u64 (a - b), True)
    | .mul => some (.u64 (a * b), True)
    | .quo => some (.u64 (a / b), b ≠ 0)
    | .rem => some (.u64 (a % b), b ≠ 0)
    | .and => some (.u64 (a &&& b), True)
    | .or => some (.u64 (a ||| b), True)
    | .xor => some (.u64 (a ^^^ b), True)
    | .eql => some (.b (a == b), True)
    | .neq => some (.b (a != b), True)
    | .lss => some (.b (decide (a < b)), True)
    | .leq => some (.b (decide (a ≤ b)), True)
    | .gtr => some (.b (decide (b < a)), True)
    | .geq => some (.b (decide (b ≤ a)), True)
    | _ => none
  | .u8 a, .i b => match op with
    | .shl => some (.u8 (a <<< UInt8.ofNat b.toNat), 0 ≤ b ∧ b < 8)
    | .shr => some (.u8 (a >>> UInt8.ofNat b.toNat), 0 ≤ b ∧ b < 8)
    | _ => none
  | .u32 a, .i b => match op with
    | .shl => some (.u32 (a <<< UInt32.ofNat b.toNat), 0 ≤ b ∧ b < 32)
    | .shr => some (.u32 (a >>> UInt32.ofNat b.toNat), 0 ≤ b ∧ b < 32)
    | _ => none
  | .u32 a, .u64 b => match op with
    | .shl => some (.u32 (a <<< b.toUInt32), b.toNat < 32)
    | .shr => some (.u32 (a >>> b.toUInt32), b.toNat < 32)
    | _ => none
  | .u64 a, .i b => match op with
    | .shl => some (.u64 (a <<< UInt64.ofNat b.toNat), 0 ≤ b ∧ b < 64)
    | .shr => some (.u64 (a >>> UInt64.ofNat b.toNat), 0 ≤ b ∧ b < 64)
    | _ => none
  | .b a, .b c => match op with
    | .eql => some (.b (a == c), True)
    | .neq => some (.b (a != c), True)
    | _ => none
  | .s a, .s c => match op with
    | .eql => some (.b (a == c), True)
    | .neq => some (.b (a != c), True)
    | _ => none
  | _, _ => none

theorem u8_bits (a b : UInt8) (f : ∀ w, BitVec w → BitVec w → BitVec w) : (f 8 (BitVec.ofInt 8 (a.toNat : Int)) (BitVec.ofInt 8 (b.toNat : Int))) = f 8 a.toBitVec b.toBitVec := by
  have h : ∀ x : UInt8, BitVec.ofInt 8 (x.toNat : Int) = x.toBitVec := fun x => by
    apply BitVec.eq_of_toNat_eq
    rw [BitVec.toNat_ofInt]
    have := x.toNat_lt
    simp
    omega
  rw [h, h]
theorem u32_bits (a b : UInt32) (f : ∀ w, BitVec w → BitVec w → BitVec w) : (f 32 (BitVec.ofInt 32 (a.toNat : Int)) (BitVec.ofInt 32 (b.toNat : Int))) = f 32 a.toBitVec b.toBitVec := by
  have h : ∀ x : UInt32, BitVec.ofInt 32 (x.toNat : Int) = x.toBitVec := fun x => by
    apply BitVec.eq_of_toNat_eq
    rw [BitVec.toNat_ofInt]
    have := x.toNat_lt
    simp
    omega
  rw [h, h]
theorem u64_bits (a b : UInt64) (f : ∀ w, BitVec w → BitVec w → BitVec w) : (f 64 (BitVec.ofInt 64 (a.toNat : Int)) (BitVec.ofInt 64 (b.toNat : Int))) = f 64 a.toBitVec b.toBitVec := by
  have h : ∀ x : UInt64, BitVec.ofInt 64 (x.toNat : Int) = x.toBitVec := fun x => by
    apply BitVec.eq_of_toNat_eq
    rw [BitVec.toNat_ofInt]
    have := x.toNat_lt
    simp
    omega
  rw [h, h]


theorem run_shl {P : Program} {t : TypeId} {k j : IntKind} {a y : Int} {n : Nat} (h0 : ¬ y < 0) (hm : min y.toNat k.bits = n) (w : World) :
    (binOp .shl t (.int k a) (.int j y)).run P w = .ok (.int k (k.wrap (a * 2 ^ n))) w := by
  simp only [binOp, Op.shift, if_neg h0, hm]; rfl

theorem run_shr {P : Program} {t : TypeId} {k j : IntKind} {a y : Int} {n : Nat} (h0 : ¬ y < 0) (hm : min y.toNat k.bits = n) (w : World) :
    (binOp .shr t (.int k a) (.int j y)).run P w = .ok (.int k (a.fdiv (2 ^ n))) w := by
  simp only [binOp, Op.shift, if_neg h0, hm]; rfl

theorem bin_i {P : Program} {op : BinOp} {t : TypeId} {a b : Int} {z : T} {ob : Prop} (h : bin op (.i a) (.i b) = some (z, ob)) (ho : ob) (w : World) :
    ∃ r, (binOp op t (.int .i64 a) (.int .i64 b)).run P w = .ok r w ∧ z.leaf = some r := by
  cases op <;> simp only [bin, Option.some.injEq, Prod.mk.injEq] at h <;> obtain ⟨rfl, rfl⟩ := h
  · exact ⟨_, by simp [binOp, Op.intArith]; rfl, by simp [T.leaf, wrap_i64 ho]⟩
  · exact ⟨_, by simp [binOp, Op.intArith]; rfl, by simp [T.leaf, wrap_i64 ho]⟩
  · exact ⟨_, by simp [binOp, Op.intArith]; rfl, by simp [T.leaf, wrap_i64 ho]⟩
  · exact ⟨_, by simp [binOp, Op.intDiv, ho.1]; rfl, by simp [T.leaf, wrap_i64 ho.2]⟩
  · exact ⟨_, by simp [binOp, Op.intDiv, ho]; rfl, by simp [T.leaf]⟩
  · exact ⟨_, by simp [binOp, Op.intBits]; rfl, by simp [T.leaf, ibits, IntKind.bits]⟩
  · exact ⟨_, by simp [binOp, Op.intBits]; rfl, by simp [T.leaf, ibits, IntKind.bits]⟩
  · exact ⟨_, by simp [binOp, Op.intBits]; rfl, by simp [T.leaf, ibits, IntKind.bits]⟩
  · refine ⟨.int .i64 (a * 2 ^ b.toNat), ?_, rfl⟩
    have hm : min b.toNat IntKind.i64.bits = b.toNat := by simp [IntKind.bits]; omega
    rw [run_shl (by omega) hm, wrap_i64 ho.2.2]
  · refine ⟨.int .i64 (a.fdiv (2 ^ b.toNat)), ?_, rfl⟩
    have hm : min b.toNat IntKind.i64.bits = b.toNat := by simp [IntKind.bits]; omega
    rw [run_shr (by omega) hm]
  · exact ⟨_, by simp [binOp, Op.intBits]; rfl, by simp [T.leaf, ibits, IntKind.bits]⟩
  all_goals exact ⟨_, by simp [binOp, Op.intCmp]; rfl, by simp [T.leaf]⟩

theorem bin_iu {P : Program} {op : BinOp} {t : TypeId} {a : Int} {b : UInt64} {z : T} {ob : Prop} (h : bin op (.i a) (.u64 b) = some (z, ob)) (ho : ob) (w : World) :
    ∃ r, (binOp op t (.int .i64 a) (.int .u64 b.toNat)).run P w = .ok r w ∧ z.leaf = some r := by
  cases op <;> simp only [bin, Option.some.injEq, Prod.mk.injEq, reduceCtorEq] at h <;> obtain ⟨rfl, rfl⟩ := h
  · refine ⟨.int .i64 (a * 2 ^ b.toNat), ?_, rfl⟩
    have hm : min ((b.toNat : Int)).toNat IntKind.i64.bits = b.toNat := by simp [IntKind.bits]; omega
    rw [run_shl (by omega) hm, wrap_i64 ho.2]
  · refine ⟨.int .i64 (a.fdiv (2 ^ b.toNat)), ?_, rfl⟩
    have hm : min ((b.toNat : Int)).toNat IntKind.i64.bits = b.toNat := by simp [IntKind.bits]; omega
    rw [run_shr (by omega) hm]

theorem eq_bool {P : Program} {t : TypeId} (hu : P.underlying t = some .bool) (w : World) (d : Nat) (a c : Bool) : (Op.equalIn (d + 1) t (.bool a) (.bool c)).run P w = .ok (a == c) w := by
  simp [Op.equalIn, run_underlying hu]

theorem bin_b {P : Program} {op : BinOp} {t : TypeId} {a c : Bool} (hu : P.underlying t = some .bool) {z : T} {ob : Prop} (h : bin op (.b a) (.b c) = some (z, ob)) (w : World) :
    ∃ r, (binOp op t (.bool a) (.bool c)).run P w = .ok r w ∧ z.leaf = some r := by
  cases op <;> simp only [bin, Option.some.injEq, Prod.mk.injEq, reduceCtorEq] at h <;> obtain ⟨rfl, rfl⟩ := h
  · refine ⟨.bool (a == c), ?_, rfl⟩
    simp only [binOp]
    simp [Op.equal, Op.maxDepth, eq_bool hu w 9999 a c]
  · refine ⟨.bool (a != c), ?_, rfl⟩
    simp only [binOp]
    simp [Op.equal, Op.maxDepth, eq_bool hu w 9999 a c, bne]

theorem nat_tdiv (a b : Nat) : Int.tdiv (a : Int) (b : Int) = ((a / b : Nat) : Int) := by rw [Int.tdiv_eq_ediv_of_nonneg (by omega)]; rfl
theorem nat_tmod (a b : Nat) : Int.tmod (a : Int) (b : Int) = ((a % b : Nat) : Int) := by rw [Int.tmod_eq_emod_of_nonneg (by omega)]; rfl
theorem nat_fdiv (a n : Nat) : Int.fdiv (a : Int) (2 ^ n) = ((a >>> n : Nat) : Int) := by
  rw [Int.fdiv_eq_ediv_of_nonneg _ (by exact Int.le_of_lt (Int.pow_pos (by omega))), Nat.shiftRight_eq_div_pow]
  simp

theorem bin_u8 {P : Program} {op : BinOp} {t : TypeId} {a b : UInt8} {z : T} {ob : Prop} (h : bin op (.u8 a) (.u8 b) = some (z, ob)) (ho : ob) (w : World) :
    ∃ r, (binOp op t (.int .u8 a.toNat) (.int .u8 b.toNat)).run P w = .ok r w ∧ z.leaf = some r := by
  have ha := a.toNat_lt
  have hb := b.toNat_lt
  cases op <;> simp only [bin, Option.some.injEq, Prod.mk.injEq, reduceCtorEq] at h <;> obtain ⟨rfl, rfl⟩ := h
  · refine ⟨_, rfl, ?_⟩
    simp only [T.leaf, u8v, UInt8.toNat_add, Option.some.injEq, Value.int.injEq, true_and]
    rw [wrap_u8]; omega
  · refine ⟨_, rfl, ?_⟩
    simp only [T.leaf, u8v, UInt8.toNat_sub, Option.some.injEq, Value.int.injEq, true_and]
    rw [wrap_u8]; omega
  · refine ⟨_, rfl, ?_⟩
    simp only [T.leaf, u8v, UInt8.toNat_mul, Option.some.injEq, Value.int.injEq, true_and]
    rw [wrap_u8, ← Int.natCast_mul]; omega
  · have h0 : b.toNat ≠ 0 := fun h => ho (UInt8.toNat_inj.1 (by simpa using h))
    refine ⟨.int .u8 (a / b).toNat, ?_, rfl⟩
    have hq : a.toNat / b.toNat < 2 ^ 8 := Nat.lt_of_le_of_lt (Nat.div_le_self _ _) ha
    have hw : IntKind.u8.wrap ((a.toNat / b.toNat : Nat) : Int) = ((a.toNat / b.toNat : Nat) : Int) := by
      generalize a.toNat / b.toNat = q at hq
      rw [wrap_u8]; omega
    have h0' : ¬ (b.toNat : Int) = 0 := by omega
    simp only [binOp, Op.intDiv, h0', if_false, nat_tdiv, hw, UInt8.toNat_div]
    rfl
  · have h0 : b.toNat ≠ 0 := fun h => ho (UInt8.toNat_inj.1 (by simpa using h))
    refine ⟨.int .u8 (a % b).toNat, ?_, rfl⟩
    have h0' : ¬ (b.toNat : Int) = 0 := by omega
    simp only [binOp, Op.intDiv, h0', if_false, nat_tmod, UInt8.toNat_mod]
    rfl
  · refine ⟨.int .u8 (a &&& b).toNat, ?_, rfl⟩
    have := u8_bits a b (fun _ x y => x &&& y)
    show Result.ok (Value.int .u8 (IntKind.u8.wrap ((BitVec.ofInt 8 (a.toNat : Int) &&& BitVec.ofInt 8 (b.toNat : Int)).toNat : Int))) w = _
    rw [this]
    have hl := (a &&& b).toNat_lt
    have he : (a.toBitVec &&& b.toBitVec).toNat = (a &&& b).toNat := rfl
    rw [he, wrap_u8, Int.emod_eq_of_lt (by omega) (by omega)]
  · refine ⟨.int .u8 (a ||| b).toNat, ?_, rfl⟩
    have := u8_bits a b (fun _ x y => x ||| y)
    show Result.ok (Value.int .u8 (IntKind.u8.wrap ((BitVec.ofInt 8 (a.toNat : Int) ||| BitVec.ofInt 8 (b.toNat : Int)).toNat : Int))) w = _
    rw [this]
    have hl := (a ||| b).toNat_lt
    have he : (a.toBitVec ||| b.toBitVec).toNat = (a ||| b).toNat := rfl
    rw [he, wrap_u8, Int.emod_eq_of_lt (by omega) (by omega)]
  · refine ⟨.int .u8 (a ^^^ b).toNat, ?_, rfl⟩
    have := u8_bits a b (fun _ x y => x ^^^ y)
    show Result.ok (Value.int .u8 (IntKind.u8.wrap ((BitVec.ofInt 8 (a.toNat : Int) ^^^ BitVec.ofInt 8 (b.toNat : Int)).toNat : Int))) w = _
    rw [this]
    have hl := (a ^^^ b).toNat_lt
    have he : (a.toBitVec ^^^ b.toBitVec).toNat = (a ^^^ b).toNat := rfl
    rw [he, wrap_u8, Int.emod_eq_of_lt (by omega) (by omega)]
  · refine ⟨.bool (a == b), ?_, rfl⟩
    have : ((a.toNat : Int) == b.toNat) = (a == b) := by
      rw [Bool.eq_iff_iff]; simp [← UInt8.toNat_inj, ← Int.natCast_inj]
    simp only [binOp, Op.intCmp, this]; rfl
  · refine ⟨.bool (a != b), ?_, rfl⟩
    have : ((a.toNat : Int) != b.toNat) = (a != b) := by
      rw [Bool.eq_iff_iff]; simp [← UInt8.toNat_inj, ← Int.natCast_inj]
    simp only [binOp, Op.intCmp, this]; rfl
  · refine ⟨.bool (decide (a < b)), ?_, rfl⟩
    have : decide ((a.toNat : Int) < b.toNat) = decide (a < b) := by
      rw [Bool.eq_iff_iff]; simp [UInt8.lt_iff_toNat_lt]
    simp only [binOp, Op.intCmp, this]; rfl
  · refine ⟨.bool (decide (a ≤ b)), ?_, rfl⟩
    have : decide ((a.toNat : Int) ≤ b.toNat) = decide (a ≤ b) := by
      rw [Bool.eq_iff_iff]; simp [UInt8.le_iff_toNat_le]
    simp only [binOp, Op.intCmp, this]; rfl
  · refine ⟨.bool (decide (b < a)), ?_, rfl⟩
    have : decide ((a.toNat : Int) > b.toNat) = decide (b < a) := by
      rw [Bool.eq_iff_iff]; simp [UInt8.lt_iff_toNat_lt]
    simp only [binOp, Op.intCmp, this]; rfl
  · refine ⟨.bool (decide (b ≤ a)), ?_, rfl⟩
    have : decide ((a.toNat : Int) ≥ b.toNat) = decide (b ≤ a) := by
      rw [Bool.eq_iff_iff]; simp [UInt8.le_iff_toNat_le]
    simp only [binOp, Op.intCmp, this]; rfl

theorem shl_u8 (a : UInt8) (n : Nat) (s : UInt8) (hs : s.toNat = n) (h : n < 8) : IntKind.u8.wrap ((a.toNat : Int) * 2 ^ n) = ((a <<< s).toNat : Int) := by
  rw [UInt8.toNat_shiftLeft, hs, Nat.mod_eq_of_lt h, wrap_u8, Nat.shiftLeft_eq]
  simp

theorem shr_u8 (a : UInt8) (n : Nat) (s : UInt8) (hs : s.toNat = n) (h : n < 8) : Int.fdiv (a.toNat : Int) (2 ^ n) = ((a >>> s).toNat : Int) := by
  rw [UInt8.toNat_shiftRight, hs, Nat.mod_eq_of_lt h, nat_fdiv]

theorem bin_u8i {P : Program} {op : BinOp} {t : TypeId} {a : UInt8} {b : Int} {z : T} {ob : Prop} (h : bin op (.u8 a) (.i b) = some (z, ob)) (ho : ob) (w : World) :
    ∃ r, (binOp op t (.int .u8 a.toNat) (.int .i64 b)).run P w = .ok r w ∧ z.leaf = some r := by
  cases op <;> simp only [bin, Option.some.injEq, Prod.mk.injEq, reduceCtorEq] at h <;> obtain ⟨rfl, rfl⟩ := h
  all_goals
    have hs : (UInt8.ofNat b.toNat).toNat = b.toNat := by rw [UInt8.toNat_ofNat']; apply Nat.mod_eq_of_lt; have := ho.2; omega
    have hm : min b.toNat IntKind.u8.bits = b.toNat := by simp [IntKind.bits]; omega
  · refine ⟨.int .u8 (a <<< UInt8.ofNat b.toNat).toNat, ?_, rfl⟩
    rw [← shl_u8 a b.toNat _ hs (by omega)]
    rw [run_shl (by omega) hm]
  · refine ⟨.int .u8 (a >>> UInt8.ofNat b.toNat).toNat, ?_, rfl⟩
    rw [← shr_u8 a b.toNat _ hs (by omega)]
    rw [run_shr (by omega) hm]

theorem bin_u32 {P : Program} {op : BinOp} {t : TypeId} {a b : UInt32} {z : T} {ob : Prop} (h : bin op (.u32 a) (.u32 b) = some (z, ob)) (ho : ob) (w : World) :
    ∃ r, (binOp op t (.int .u32 a.toNat) (.int .u32 b.toNat)).run P w = .ok r w ∧ z.leaf = some r := by
  have ha := a.toNat_lt
  have hb := b.toNat_lt
  cases op <;> simp only [bin, Option.some.injEq, Prod.mk.injEq, reduceCtorEq] at h <;> obtain ⟨rfl, rfl⟩ := h
  · refine ⟨_, rfl, ?_⟩
    simp only [T.leaf, UInt32.toNat_add, Option.some.injEq, Value.int.injEq, true_and]
    rw [wrap_u32]; omega
  · refine ⟨_, rfl, ?_⟩
    simp only [T.leaf, UInt32.toNat_sub, Option.some.injEq, Value.int.injEq, true_and]
    rw [wrap_u32]; omega
  · refine ⟨_, rfl, ?_⟩
    simp only [T.leaf, UInt32.toNat_mul, Option.some.injEq, Value.int.injEq, true_and]
    rw [wrap_u32, ← Int.natCast_mul]; omega
  · have h0 : b.toNat ≠ 0 := fun h => ho (UInt32.toNat_inj.1 (by simpa using h))
    refine ⟨.int .u32 (a / b).toNat, ?_, rfl⟩
    have hq : a.toNat / b.toNat < 2 ^ 32 := Nat.lt_of_le_of_lt (Nat.div_le_self _ _) ha
    have hw : IntKind.u32.wrap ((a.toNat / b.toNat : Nat) : Int) = ((a.toNat / b.toNat : Nat) : Int) := by
      generalize a.toNat / b.toNat = q at hq
      rw [wrap_u32]; omega
    have h0' : ¬ (b.toNat : Int) = 0 := by omega
    simp only [binOp, Op.intDiv, h0', if_false, nat_tdiv, hw, UInt32.toNat_div]
    rfl
  · have h0 : b.toNat ≠ 0 := fun h => ho (UInt32.toNat_inj.1 (by simpa using h))
    refine ⟨.int .u32 (a % b).toNat, ?_, rfl⟩
    have h0' : ¬ (b.toNat : Int) = 0 := by omega
    simp only [binOp, Op.intDiv, h0', if_false, nat_tmod, UInt32.toNat_mod]
    rfl
  · refine ⟨.int .u32 (a &&& b).toNat, ?_, rfl⟩
    have := u32_bits a b (fun _ x y => x &&& y)
    show Result.ok (Value.int .u32 (IntKind.u32.wrap ((BitVec.ofInt 32 (a.toNat : Int) &&& BitVec.ofInt 32 (b.toNat : Int)).toNat : Int))) w = _
    rw [this]
    have hl := (a &&& b).toNat_lt
    have he : (a.toBitVec &&& b.toBitVec).toNat = (a &&& b).toNat := rfl
    rw [he, wrap_u32, Int.emod_eq_of_lt (by omega) (by omega)]
  · refine ⟨.int .u32 (a ||| b).toNat, ?_, rfl⟩
    have := u32_bits a b (fun _ x y => x ||| y)
    show Result.ok (Value.int .u32 (IntKind.u32.wrap ((BitVec.ofInt 32 (a.toNat : Int) ||| BitVec.ofInt 32 (b.toNat : Int)).toNat : Int))) w = _
    rw [this]
    have hl := (a ||| b).toNat_lt
    have he : (a.toBitVec ||| b.toBitVec).toNat = (a ||| b).toNat := rfl
    rw [he, wrap_u32, Int.emod_eq_of_lt (by omega) (by omega)]
  · refine ⟨.int .u32 (a ^^^ b).toNat, ?_, rfl⟩
    have := u32_bits a b (fun _ x y => x ^^^ y)
    show Result.ok (Value.int .u32 (IntKind.u32.wrap ((BitVec.ofInt 32 (a.toNat : Int) ^^^ BitVec.ofInt 32 (b.toNat : Int)).toNat : Int))) w = _
    rw [this]
    have hl := (a ^^^ b).toNat_lt
    have he : (a.toBitVec ^^^ b.toBitVec).toNat = (a ^^^ b).toNat := rfl
    rw [he, wrap_u32, Int.emod_eq_of_lt (by omega) (by omega)]
  · refine ⟨.bool (a == b), ?_, rfl⟩
    have : ((a.toNat : Int) == b.toNat) = (a == b) := by
      rw [Bool.eq_iff_iff]; simp [← UInt32.toNat_inj, ← Int.natCast_inj]
    simp only [binOp, Op.intCmp, this]; rfl
  · refine ⟨.bool (a != b), ?_, rfl⟩
    have : ((a.toNat : Int) != b.toNat) = (a != b) := by
      rw [Bool.eq_iff_iff]; simp [← UInt32.toNat_inj, ← Int.natCast_inj]
    simp only [binOp, Op.intCmp, this]; rfl
  · refine ⟨.bool (decide (a < b)), ?_, rfl⟩
    have : decide ((a.toNat : Int) < b.toNat) = decide (a < b) := by
      rw [Bool.eq_iff_iff]; simp [UInt32.lt_iff_toNat_lt]
    simp only [binOp, Op.intCmp, this]; rfl
  · refine ⟨.bool (decide (a ≤ b)), ?_, rfl⟩
    have : decide ((a.toNat : Int) ≤ b.toNat) = decide (a ≤ b) := by
      rw [Bool.eq_iff_iff]; simp [UInt32.le_iff_toNat_le]
    simp only [binOp, Op.intCmp, this]; rfl
  · refine ⟨.bool (decide (b < a)), ?_, rfl⟩
    have : decide ((a.toNat : Int) > b.toNat) = decide (b < a) := by
      rw [Bool.eq_iff_iff]; simp [UInt32.lt_iff_toNat_lt]
    simp only [binOp, Op.intCmp, this]; rfl
  · refine ⟨.bool (decide (b ≤ a)), ?_, rfl⟩
    have : decide ((a.toNat : Int) ≥ b.toNat) = decide (b ≤ a) := by
      rw [Bool.eq_iff_iff]; simp [UInt32.le_iff_toNat_le]
    simp only [binOp, Op.intCmp, this]; rfl

theorem shl_u32 (a : UInt32) (n : Nat) (s : UInt32) (hs : s.toNat = n) (h : n < 32) : IntKind.u32.wrap ((a.toNat : Int) * 2 ^ n) = ((a <<< s).toNat : Int) := by
  rw [UInt32.toNat_shiftLeft, hs, Nat.mod_eq_of_lt h, wrap_u32, Nat.shiftLeft_eq]
  simp

theorem shr_u32 (a : UInt32) (n : Nat) (s : UInt32) (hs : s.toNat = n) (h : n < 32) : Int.fdiv (a.toNat : Int) (2 ^ n) = ((a >>> s).toNat : Int) := by
  rw [UInt32.toNat_shiftRight, hs, Nat.mod_eq_of_lt h, nat_fdiv]

theorem bin_u32i {P : Program} {op : BinOp} {t : TypeId} {a : UInt32} {b : Int} {z : T} {ob : Prop} (h : bin op (.u32 a) (.i b) = some (z, ob)) (ho : ob) (w : World) :
    ∃ r, (binOp op t (.int .u32 a.toNat) (.int .i64 b)).run P w = .ok r w ∧ z.leaf = some r := by
  cases op <;> simp only [bin, Option.some.injEq, Prod.mk.injEq, reduceCtorEq] at h <;> obtain ⟨rfl, rfl⟩ := h
  all_goals
    have hs : (UInt32.ofNat b.toNat).toNat = b.toNat := by rw [UInt32.toNat_ofNat']; apply Nat.mod_eq_of_lt; have := ho.2; omega
    have hm : min b.toNat IntKind.u32.bits = b.toNat := by simp [IntKind.bits]; omega
  · refine ⟨.int .u32 (a <<< UInt32.ofNat b.toNat).toNat, ?_, rfl⟩
    rw [← shl_u32 a b.toNat _ hs (by omega)]
    rw [run_shl (by omega) hm]
  · refine ⟨.int .u32 (a >>> UInt32.ofNat b.toNat).toNat, ?_, rfl⟩
    rw [← shr_u32 a b.toNat _ hs (by omega)]
    rw [run_shr (by omega) hm]

theorem bin_u64 {P : Program} {op : BinOp} {t : TypeId} {a b : UInt64} {z : T} {ob : Prop} (h : bin op (.u64 a) (.u64 b) = some (z, ob)) (ho : ob) (w : World) :
    ∃ r, (binOp op t (.int .u64 a.toNat) (.int .u64 b.toNat)).run P w = .ok r w ∧ z.leaf = some r := by
  have ha := a.toNat_lt
  have hb := b.toNat_lt
  cases op <;> simp only [bin, Option.some.injEq, Prod.mk.injEq, reduceCtorEq] at h <;> obtain ⟨rfl, rfl⟩ := h
  · refine ⟨_, rfl, ?_⟩
    simp only [T.leaf, UInt64.toNat_add, Option.some.injEq, Value.int.injEq, true_and]
    rw [wrap_u64]; omega
  · refine ⟨_, rfl, ?_⟩
    simp only [T.leaf, UInt64.toNat_sub, Option.some.injEq, Value.int.injEq, true_and]
    rw [wrap_u64]; omega
  · refine ⟨_, rfl, ?_⟩
    simp only [T.leaf, UInt64.toNat_mul, Option.some.injEq, Value.int.injEq, true_and]
    rw [wrap_u64, ← Int.natCast_mul]; omega
  · have h0 : b.toNat ≠ 0 := fun h => ho (UInt64.toNat_inj.1 (by simpa using h))
    refine ⟨.int .u64 (a / b).toNat, ?_, rfl⟩
    have hq : a.toNat / b.toNat < 2 ^ 64 := Nat.lt_of_le_of_lt (Nat.div_le_self _ _) ha
    have hw : IntKind.u64.wrap ((a.toNat / b.toNat : Nat) : Int) = ((a.toNat / b.toNat : Nat) : Int) := by
      generalize a.toNat / b.toNat = q at hq
      rw [wrap_u64]; omega
    have h0' : ¬ (b.toNat : Int) = 0 := by omega
    simp only [binOp, Op.intDiv, h0', if_false, nat_tdiv, hw, UInt64.toNat_div]
    rfl
  · have h0 : b.toNat ≠ 0 := fun h => ho (UInt64.toNat_inj.1 (by simpa using h))
    refine ⟨.int .u64 (a % b).toNat, ?_, rfl⟩
    have h0' : ¬ (b.toNat : Int) = 0 := by omega
    simp only [binOp, Op.intDiv, h0', if_false, nat_tmod, UInt64.toNat_mod]
    rfl
  · refine ⟨.int .u64 (a &&& b).toNat, ?_, rfl⟩
    have := u64_bits a b (fun _ x y => x &&& y)
    show Result.ok (Value.int .u64 (IntKind.u64.wrap ((BitVec.ofInt 64 (a.toNat : Int) &&& BitVec.ofInt 64 (b.toNat : Int)).toNat : Int))) w = _
    rw [this]
    have hl := (a &&& b).toNat_lt
    have he : (a.toBitVec &&& b.toBitVec).toNat = (a &&& b).toNat := rfl
    rw [he, wrap_u64, Int.emod_eq_of_lt (by omega) (by omega)]
  · refine ⟨.int .u64 (a ||| b).toNat, ?_, rfl⟩
    have := u64_bits a b (fun _ x y => x ||| y)
    show Result.ok (Value.int .u64 (IntKind.u64.wrap ((BitVec.ofInt 64 (a.toNat : Int) ||| BitVec.ofInt 64 (b.toNat : Int)).toNat : Int))) w = _
    rw [this]
    have hl := (a ||| b).toNat_lt
    have he : (a.toBitVec ||| b.toBitVec).toNat = (a ||| b).toNat := rfl
    rw [he, wrap_u64, Int.emod_eq_of_lt (by omega) (by omega)]
  · refine ⟨.int .u64 (a ^^^ b).toNat, ?_, rfl⟩
    have := u64_bits a b (fun _ x y => x ^^^ y)
    show Result.ok (Value.int .u64 (IntKind.u64.wrap ((BitVec.ofInt 64 (a.toNat : Int) ^^^ BitVec.ofInt 64 (b.toNat : Int)).toNat : Int))) w = _
    rw [this]
    have hl := (a ^^^ b).toNat_lt
    have he : (a.toBitVec ^^^ b.toBitVec).toNat = (a ^^^ b).toNat := rfl
    rw [he, wrap_u64, Int.emod_eq_of_lt (by omega) (by omega)]
  · refine ⟨.bool (a == b), ?_, rfl⟩
    have : ((a.toNat : Int) == b.toNat) = (a == b) := by
      rw [Bool.eq_iff_iff]; simp [← UInt64.toNat_inj, ← Int.natCast_inj]
    simp only [binOp, Op.intCmp, this]; rfl
  · refine ⟨.bool (a != b), ?_, rfl⟩
    have : ((a.toNat : Int) != b.toNat) = (a != b) := by
      rw [Bool.eq_iff_iff]; simp [← UInt64.toNat_inj, ← Int.natCast_inj]
    simp only [binOp, Op.intCmp, this]; rfl
  · refine ⟨.bool (decide (a < b)), ?_, rfl⟩
    have : decide ((a.toNat : Int) < b.toNat) = decide (a < b) := by
      rw [Bool.eq_iff_iff]; simp [UInt64.lt_iff_toNat_lt]
    simp only [binOp, Op.intCmp, this]; rfl
  · refine ⟨.bool (decide (a ≤ b)), ?_, rfl⟩
    have : decide ((a.toNat : Int) ≤ b.toNat) = decide (a ≤ b) := by
      rw [Bool.eq_iff_iff]; simp [UInt64.le_iff_toNat_le]
    simp only [binOp, Op.intCmp, this]; rfl
  · refine ⟨.bool (decide (b < a)), ?_, rfl⟩
    have : decide ((a.toNat : Int) > b.toNat) = decide (b < a) := by
      rw [Bool.eq_iff_iff]; simp [UInt64.lt_iff_toNat_lt]
    simp only [binOp, Op.intCmp, this]; rfl
  · refine ⟨.bool (decide (b ≤ a)), ?_, rfl⟩
    have : decide ((a.toNat : Int) ≥ b.toNat) = decide (b ≤ a) := by
      rw [Bool.eq_iff_iff]; simp [UInt64.le_iff_toNat_le]
    simp only [binOp, Op.intCmp, this]; rfl

theorem shl_u64 (a : UInt64) (n : Nat) (s : UInt64) (hs : s.toNat = n) (h : n < 64) : IntKind.u64.wrap ((a.toNat : Int) * 2 ^ n) = ((a <<< s).toNat : Int) := by
  rw [UInt64.toNat_shiftLeft, hs, Nat.mod_eq_of_lt h, wrap_u64, Nat.shiftLeft_eq]
  simp

theorem shr_u64 (a : UInt64) (n : Nat) (s : UInt64) (hs : s.toNat = n) (h : n < 64) : Int.fdiv (a.toNat : Int) (2 ^ n) = ((a >>> s).toNat : Int) := by
  rw [UInt64.toNat_shiftRight, hs, Nat.mod_eq_of_lt h, nat_fdiv]

theorem bin_u64i {P : Program} {op : BinOp} {t : TypeId} {a : UInt64} {b : Int} {z : T} {ob : Prop} (h : bin op (.u64 a) (.i b) = some (z, ob)) (ho : ob) (w : World) :
    ∃ r, (binOp op t (.int .u64 a.toNat) (.int .i64 b)).run P w = .ok r w ∧ z.leaf = some r := by
  cases op <;> simp only [bin, Option.some.injEq, Prod.mk.injEq, reduceCtorEq] at h <;> obtain ⟨rfl, rfl⟩ := h
  all_goals
    have hs : (UInt64.ofNat b.toNat).toNat = b.toNat := by rw [UInt64.toNat_ofNat']; apply Nat.mod_eq_of_lt; have := ho.2; omega
    have hm : min b.toNat IntKind.u64.bits = b.toNat := by simp [IntKind.bits]; omega
  · refine ⟨.int .u64 (a <<< UInt64.ofNat b.toNat).toNat, ?_, rfl⟩
    rw [← shl_u64 a b.toNat _ hs (by omega)]
    rw [run_shl (by omega) hm]
  · refine ⟨.int .u64 (a >>> UInt64.ofNat b.toNat).toNat, ?_, rfl⟩
    rw [← shr_u64 a b.toNat _ hs (by omega)]
    rw [run_shr (by omega) hm]

theorem bin_u32u {P : Program} {op : BinOp} {t : TypeId} {a : UInt32} {b : UInt64} {z : T} {ob : Prop} (h : bin op (.u32 a) (.u64 b) = some (z, ob)) (ho : ob) (w : World) :
    ∃ r, (binOp op t (.int .u32 a.toNat) (.int .u64 b.toNat)).run P w = .ok r w ∧ z.leaf = some r := by
  cases op <;> simp only [bin, Option.some.injEq, Prod.mk.injEq, reduceCtorEq] at h <;> obtain ⟨rfl, rfl⟩ := h
  all_goals
    have hs : b.toUInt32.toNat = b.toNat := by rw [UInt64.toNat_toUInt32]; apply Nat.mod_eq_of_lt; omega
    have hm : min ((b.toNat : Int)).toNat IntKind.u32.bits = b.toNat := by simp [IntKind.bits]; omega
  · refine ⟨.int .u32 (a <<< b.toUInt32).toNat, ?_, rfl⟩
    rw [← shl_u32 a b.toNat _ hs ho]
    rw [run_shl (by omega) hm]
  · refine ⟨.int .u32 (a >>> b.toUInt32).toNat, ?_, rfl⟩
    rw [← shr_u32 a b.toNat _ hs ho]
    rw [run_shr (by omega) hm]

end Go.AL
