/- Conversions, equality, lengths in the abstract state. No condition. -/
import Derived.Test.YtngcjhiflplkbaaALCall
import Derived.Stop.BytesEq
import Derived.Lib.ConvBytes
import Derived.Laws.IdiomStrings
namespace Go.AL
open Go

theorem RT.val {w : World} {N : Nat → Prop} {X : Ext} {x : T} {v r : Value} (h : RT w N X x v) (hl : x.leaf = some r) : v = r := by
  cases x <;> simp only [T.leaf] at hl <;> try (cases hl; done)
  case v y =>
    split at hl
    · simp only [Option.some.injEq] at hl; subst hl
      rcases h with ⟨h1, _⟩ | ⟨_, h1⟩
      · simp [T.isAgg] at h1
      · simp only [RC] at h1; simpa using h1.2
    · cases hl
  all_goals
    simp only [Option.some.injEq] at hl; subst hl
    rcases h with ⟨h1, _⟩ | ⟨_, h1⟩
    · simp [T.isAgg] at h1
    · simp only [RC, List.cons.injEq, and_true] at h1; exact h1

theorem RT.of_val {w : World} {N : Nat → Prop} {X : Ext} {x : T} {r : Value} (hl : x.leaf = some r) : RT w N X x r := by
  cases x <;> simp only [T.leaf] at hl <;> try (cases hl; done)
  case v y =>
    split at hl
    · rename_i h1
      simp only [Option.some.injEq] at hl; subst hl
      exact RT.leaf (by simp only [RC]; exact ⟨h1, trivial⟩) rfl
    · cases hl
  all_goals
    simp only [Option.some.injEq] at hl; subst hl
    exact RT.leaf (by simp only [RC]) rfl

theorem RT.ba {w : World} {N : Nat → Prop} {X : Ext} {n : Nat} {l : List UInt8} {v : Value} (h : RT w N X (.ba n l) v) : l.length = n ∧ v = .agg (l.map u8v).toArray := by
  rcases h with ⟨_, ds, rfl, h1⟩ | ⟨h1, _⟩
  · simp only [RC] at h1
    exact ⟨h1.1, by rw [h1.2]⟩
  · simp [T.isAgg] at h1

/-- == and !=, of what 'bin' does not know. -/
def eqT (P : Program) (t : TypeId) (op : BinOp) (x y : T) : Option T :=
  let r (c : Bool) : Option T := match op with
    | .eql => some (.b c)
    | .neq => some (.b (!c))
    | _ => none
  match x, y with
  | .ba n l, .ba m k => match P.underlying t with
    | some (.array n' e) => match P.underlying e, szT P e with
      | some (.int .u8), some 1 => if (Nat.beq n n' && Nat.beq m n' && !P.eqGuardType P.depth t) then r (l == k) else none
      | _, _ => none
    | _ => none
  | .v (.pointer none), .v (.pointer none) => match P.underlying t with
    | some (.pointer _) => r true
    | _ => none
  | .ref _ _, .v (.pointer none) => match P.underlying t with
    | some (.pointer _) => r false
    | _ => none
  | .pt _, .v (.pointer none) => match P.underlying t with
    | some (.pointer _) => r false
    | _ => none
  | _, _ => none

theorem eq_pointer {P : Program} {t e : TypeId} (hu : P.underlying t = some (.pointer e)) (w : World) (d : Nat) (a : Option Addr) : (Op.equalIn (d + 1) t (.pointer a) (.pointer none)).run P w = .ok a.isNone w := by
  cases a <;> simp [Op.equalIn, run_underlying hu]

theorem eqPtr {P : Program} {t e : TypeId} (hu : P.underlying t = some (.pointer e)) (w : World) (a : Option Addr) (op : BinOp) (xo yo : Operand) (h : op = .eql ∨ op = .neq) :
    (do eqGuard op t xo yo (.pointer a) (.pointer none); binOp op t (.pointer a) (.pointer none) : Sem Value).run P w = .ok (.bool (match op with | .eql => a.isNone | _ => !a.isNone)) w := by
  have he : (Op.equal t (.pointer a) (.pointer none)).run P w = .ok a.isNone w := eq_pointer hu w 9999 a
  have hg : (eqGuard op t xo yo (.pointer a) (.pointer none)).run P w = .ok () w := by
    rcases h with rfl | rfl <;> cases a <;> simp [eqGuard]
  simp only [Sem.run_bind, hg, Result.andThen_ok]
  rcases h with rfl | rfl
  · have : binOp .eql t (.pointer a) (.pointer none) = (do pure (.bool (← Op.equal t (.pointer a) (.pointer none)))) := by cases a <;> rfl
    rw [this]
    simp [he]
  · have : binOp .neq t (.pointer a) (.pointer none) = (do pure (.bool (!(← Op.equal t (.pointer a) (.pointer none))))) := by cases a <;> rfl
    rw [this]
    simp [he]

theorem eqT_ok {P : Program} {t : TypeId} {op : BinOp} {x y z : T} {w : World} {N : Nat → Prop} {X : Ext} {v u : Value} (hx : RT w N X x v) (hy : RT w N X y u) (h : eqT P t op x y = some z) (xo yo : Operand) :
    ∃ r, (do eqGuard op t xo yo v u; binOp op t v u : Sem Value).run P w = .ok r w ∧ z.leaf = some r := by
  unfold eqT at h
  simp only at h
  split at h
  · split at h
    · rename_i n' e ht
      split at h
      · rename_i he hs
        split at h
        · rename_i hc
          simp only [Bool.and_eq_true, Bool.not_eq_true'] at hc
          have h1 := Nat.eq_of_beq_eq_true hc.1.1
          have h2 := Nat.eq_of_beq_eq_true hc.1.2
          obtain ⟨l1, rfl⟩ := hx.ba
          obtain ⟨l2, rfl⟩ := hy.ba
          subst h1; subst h2
          have hg := run_eqGuard_agg (P := P) w op t xo yo
          have heq := run_equalIn_bytes (P := P) w 9998 t e _ ht he (fun w => run_sizeOf' hs w) _ _ l1 l2
          cases op <;> simp only [Option.some.injEq, reduceCtorEq] at h <;> subst h
          · refine ⟨_, ?_, rfl⟩
            simp only [Sem.run_bind, hg _ _ hc.2, Result.andThen_ok]
            have := run_eql_struct (P := P) w t
            rw [show u8v = Extern.Stop.cell from rfl] at *
            rw [this, heq]
            rfl
          · refine ⟨_, ?_, rfl⟩
            simp only [Sem.run_bind, hg _ _ hc.2, Result.andThen_ok]
            have := run_neq_struct (P := P) w t
            rw [show u8v = Extern.Stop.cell from rfl] at *
            rw [this, heq]
            rfl
        · cases h
      · cases h
    · cases h
  · split at h
    · rename_i e ht
      have h1 := hx.val (r := .pointer none) rfl
      have h2 := hy.val (r := .pointer none) rfl
      subst h1; subst h2
      cases op <;> simp only [Option.some.injEq, reduceCtorEq] at h <;> subst h
      · exact ⟨_, eqPtr ht w none .eql xo yo (.inl rfl), rfl⟩
      · exact ⟨_, eqPtr ht w none .neq xo yo (.inr rfl), rfl⟩
    · cases h
  · split at h
    · rename_i e ht
      obtain ⟨a, h1, _⟩ := hx.ref
      have h2 := hy.val (r := .pointer none) rfl
      subst h1; subst h2
      cases op <;> simp only [Option.some.injEq, reduceCtorEq] at h <;> subst h
      · exact ⟨_, eqPtr ht w (some a) .eql xo yo (.inl rfl), rfl⟩
      · exact ⟨_, eqPtr ht w (some a) .neq xo yo (.inr rfl), rfl⟩
    · cases h
  · split at h
    · rename_i e ht
      obtain ⟨a, _, h1, _⟩ := hx.pt
      have h2 := hy.val (r := .pointer none) rfl
      subst h1; subst h2
      cases op <;> simp only [Option.some.injEq, reduceCtorEq] at h <;> subst h
      · exact ⟨_, eqPtr ht w (some a) .eql xo yo (.inl rfl), rfl⟩
      · exact ⟨_, eqPtr ht w (some a) .neq xo yo (.inr rfl), rfl⟩
    · cases h
  · cases h

/-- A conversion that needs no memory. -/
def conv (P : Program) (src dst : TypeId) (x : T) : Option (T × Prop) :=
  match P.underlying src, P.underlying dst with
  | some (.int _), some (.int k) => match x with
    | .i n => match k with
      | .i64 => some (.i n, InI n)
      | .u64 => some (.u64 (UInt64.ofInt n), True)
      | .u32 => some (.u32 (UInt32.ofInt n), True)
      | .u8 => some (.u8 (UInt8.ofInt n), True)
      | _ => none
    | .u8 a => match k with
      | .i64 => some (.i a.toNat, True)
      | .u64 => some (.u64 a.toUInt64, True)
      | .u32 => some (.u32 a.toUInt32, True)
      | .u8 => some (.u8 a, True)
      | _ => none
    | .u32 a => match k with
      | .i64 => some (.i a.toNat, True)
      | .u64 => some (.u64 a.toUInt64, True)
      | .u32 => some (.u32 a, True)
      | .u8 => some (.u8 a.toUInt8, True)
      | _ => none
    | .u64 a => match k with
      | .i64 => some (.i a.toNat, a.toNat < 9223372036854775808)
      | .u64 => some (.u64 a, True)
      | .u32 => some (.u32 a.toUInt32, True)
      | .u8 => some (.u8 a.toUInt8, True)
      | _ => none
    | _ => none
  | some .string, some .string => match x with
    | .s l => some (.s l, True)
    | _ => none
  | _, _ => none

theorem ofInt_u64 (n : Int) : ((UInt64.ofInt n).toNat : Int) = n % 18446744073709551616 := by
  simp only [UInt64.ofInt]; rw [UInt64.toNat_ofNat']; omega
theorem ofInt_u32 (n : Int) : ((UInt32.ofInt n).toNat : Int) = n % 4294967296 := by
  simp only [UInt32.ofInt]; rw [UInt32.toNat_ofNat']; omega
theorem ofInt_u8 (n : Int) : ((UInt8.ofInt n).toNat : Int) = n % 256 := by
  simp only [UInt8.ofInt]; rw [UInt8.toNat_ofNat']; omega

theorem conv_ok {P : Program} {src dst : TypeId} {x z : T} {ob : Prop} (h : conv P src dst x = some (z, ob)) (ho : ob) {w : World} {N : Nat → Prop} {X : Ext} {v : Value} (hx : RT w N X x v) :
    ∃ r, (convert src dst v).run P w = .ok r w ∧ z.leaf = some r := by
  unfold conv at h
  split at h
  · rename_i k0 k hs hd
    have hrun : ∀ (j : IntKind) (n : Int), (convert src dst (.int j n)).run P w = .ok (.int k (k.wrap n)) w := fun j n => by
      simp [convert, run_underlying hs, run_underlying hd, Conv.intToInt]
    cases x <;> simp only at h <;> try (cases h; done)
    all_goals
      have hv := hx.val rfl
      subst hv
      refine ⟨_, hrun _ _, ?_⟩
      clear hrun
      cases k <;> simp only [Option.some.injEq, Prod.mk.injEq, reduceCtorEq] at h <;> obtain ⟨rfl, rfl⟩ := h <;> simp only [T.leaf, u8v, Option.some.injEq, Value.int.injEq, true_and]
    · exact (wrap_i64 ho).symm
    · rw [wrap_u8, ofInt_u8]
    · rw [wrap_u32, ofInt_u32]
    · rw [wrap_u64, ofInt_u64]
    · rename_i a; have := a.toNat_lt; rw [wrap_i64 (by unfold InI; omega)]
    · rename_i a; have := a.toNat_lt; rw [wrap_u8]; omega
    · rename_i a; have := a.toNat_lt; rw [wrap_u32, UInt8.toNat_toUInt32]; omega
    · rename_i a; have := a.toNat_lt; rw [wrap_u64, UInt8.toNat_toUInt64]; omega
    · rename_i a; have := a.toNat_lt; rw [wrap_i64 (by unfold InI; omega)]
    · rename_i a; have := a.toNat_lt; rw [wrap_u8, UInt32.toNat_toUInt8]; omega
    · rename_i a; have := a.toNat_lt; rw [wrap_u32]; omega
    · rename_i a; have := a.toNat_lt; rw [wrap_u64, UInt32.toNat_toUInt64]; omega
    · rw [wrap_i64 (by unfold InI; omega)]
    · rename_i a; have := a.toNat_lt; rw [wrap_u8, UInt64.toNat_toUInt8]; omega
    · rename_i a; have := a.toNat_lt; rw [wrap_u32, UInt64.toNat_toUInt32]; omega
    · rename_i a; have := a.toNat_lt; rw [wrap_u64]; omega
  · rename_i hs hd
    cases x <;> simp only at h <;> try (cases h; done)
    simp only [Option.some.injEq, Prod.mk.injEq] at h
    obtain ⟨rfl, rfl⟩ := h
    have hv := hx.val rfl
    subst hv
    exact ⟨_, by simp [convert, run_underlying hs, run_underlying hd], rfl⟩
  · cases h

/-- A slice of bytes as a text. -/
theorem conv_str {P : Program} {src dst e : TypeId} (hs : P.underlying src = some (.slice e)) (he : P.underlying e = some (.int .u8)) (hd : P.underlying dst = some .string) {w : World} {A : Option Addr} {l : List UInt8} {c : Nat}
    (h : Lies w (fun _ => False) A (l.map u8v)) : (convert src dst (.slice A l.length c)).run P w = .ok (.string ⟨l.toArray⟩) w := by
  cases A with
  | none =>
    have hl : l = [] := by
      rcases h with h | ⟨b, off, hA, _⟩
      · simpa using h
      · cases hA
    subst hl
    rw [show ([] : List UInt8).length = 0 from rfl, run_convert_bytes_string w src dst e none 0 c hs he hd]
    simp [Conv.bytesToString]
    rfl
  | some a =>
    refine run_convert_bytes_back w src dst e a c l hs he hd (fun j hj => ?_)
    have hne : l.map u8v ≠ [] := by intro hq; simp at hq; subst hq; simp at hj
    obtain ⟨b, off, cs, e', fz, pre, post, rfl, _, hb, hcs, hp⟩ := h.split hne
    rw [addr_add]
    have : cs[off + j]? = cs.toList[off + j]? := by simp
    simp only [World.cell?, hb, Option.isSome_none, Bool.false_eq_true, if_false]
    rw [this, hcs, ← hp, List.append_assoc, List.getElem?_append_right (by omega), List.getElem?_append_left (by simp; omega)]
    rw [show pre.length + j - pre.length = j by omega]
    simp [List.getElem?_eq_getElem hj, u8v]

/-- A text as a new slice of bytes. -/
theorem conv_bytes {P : Program} {src dst e : TypeId} (hs : P.underlying src = some .string) (hd : P.underlying dst = some (.slice e)) (he : P.underlying e = some (.int .u8)) (w : World) (l : List UInt8) :
    ∃ v w', (convert src dst (.string ⟨l.toArray⟩)).run P w = .ok v w' ∧ Keeps (fun _ => False) w w' ∧ ∀ (N : Nat → Prop) (X : Ext), (∀ b, N b → b < w.heap.size) → RT w' N X (.sb l) v := by
  have hrun := Lib.run_convert_string_bytes (P := P) w src dst e ⟨l.toArray⟩ hs hd he
  have hsz : (⟨l.toArray⟩ : ByteArray).size = l.length := by simp [ByteArray.size]
  refine ⟨_, _, hrun, ⟨rfl, rfl, rfl, by rw [Lib.bytesWorld_size]; omega, fun b hb _ => Lib.bytesWorld_at_old w e _ b hb⟩, fun N X hN => RT.leaf ?_ rfl⟩
  simp only [RC]
  refine ⟨_, _, by rw [hsz], grown_le w _ _ _, ?_⟩
  refine lies_of_block (N := N) (fun hb => by have := hN _ hb; omega) (Lib.bytesWorld_at_new w e ⟨l.toArray⟩) (pre := []) (post := (Array.replicate (grownCap w (⟨l.toArray⟩ : ByteArray).size 0 e - (⟨l.toArray⟩ : ByteArray).size) (Value.int .u8 0)).toList) ?_
  simp [Lib.bytesCells, u8v]

end Go.AL
