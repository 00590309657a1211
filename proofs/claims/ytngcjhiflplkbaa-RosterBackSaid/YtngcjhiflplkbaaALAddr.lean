/- Addresses and slices in the abstract state. No condition. -/
import Derived.Test.YtngcjhiflplkbaaALMem
namespace Go.AL
open Go

def fieldOff (P : Program) (s : TypeId) (k : Nat) : Option Nat := match P.underlying s with
  | some (.struct fs) => match fs[k]? with
    | some f => match szT P f.type with
      | some (_ + 1) => some f.offset
      | _ => none
    | none => none
  | _ => none

theorem run_fieldAt {P : Program} {s : TypeId} {k off : Nat} (h : fieldOff P s k = some off) (a : Addr) (w : World) :
    (Instr.fieldAt s (.pointer (some a)) k).run P w = .ok (.pointer (some (a.add off))) w := by
  unfold fieldOff at h
  cases hu : P.underlying s with
  | none => simp [hu] at h
  | some d =>
    cases d <;> simp only [hu] at h <;> try (cases h; done)
    rename_i fs
    cases hf : fs[k]? with
    | none => simp [hf] at h
    | some f =>
      simp only [hf] at h
      cases hs : szT P f.type with
      | none => simp [hs] at h
      | some n =>
        cases n with
        | zero => simp [hs] at h
        | succ n =>
          simp [hs] at h
          subst h
          simp [Instr.fieldAt, Instr.sureAddr, run_underlying hu, hf, fieldPlace, run_sizeOf' hs]

theorem RT.ref {w : World} {N : Nat → Prop} {X : Ext} {id : Nat} {p : List Nat} {v : Value} (h : RT w N X (.ref id p) v) : ∃ a, v = .pointer (some a) ∧ X.rf id p a := by
  rcases h with ⟨h1, _⟩ | ⟨_, h1⟩
  · simp [T.isAgg] at h1
  · simp only [RC] at h1
    obtain ⟨a, h1, h2⟩ := h1
    simp at h1
    exact ⟨a, h1, h2⟩

theorem RT.pt {w : World} {N : Nat → Prop} {X : Ext} {x : T} {v : Value} (h : RT w N X (.pt x) v) : ∃ a ds, v = .pointer (some a) ∧ ds ≠ [] ∧ RC w N Ext.none x ds ∧ Lies w N (some a) ds := by
  rcases h with ⟨h1, _⟩ | ⟨_, h1⟩
  · simp [T.isAgg] at h1
  · simp only [RC] at h1
    obtain ⟨a, ds, h1, h2⟩ := h1
    simp at h1
    exact ⟨a, ds, h1, h2⟩

theorem RT.leaf {w : World} {N : Nat → Prop} {X : Ext} {x : T} {v : Value} (h : RC w N X x [v]) (ha : x.isAgg = false) : RT w N X x v := RT.of_RV (.inr ⟨ha, h⟩)

theorem Lies.part {w : World} {N : Nat → Prop} {b off : Nat} {pre d post : List Value} (h : Lies w N (some ⟨b, off, none⟩) (pre ++ d ++ post)) : Lies w N (some ⟨b, off + pre.length, none⟩) d := by
  rcases h with h | ⟨b', off', hA, hN, cs, e, fz, hb, hs, hd⟩
  · left
    simp at h
    exact h.2.1
  · right
    simp only [Option.some.injEq, Addr.mk.injEq, and_true] at hA
    obtain ⟨rfl, rfl⟩ := hA
    refine ⟨b, off + pre.length, rfl, hN, cs, e, fz, hb, by simp at hs; omega, fun j hj => ?_⟩
    have := hd (pre.length + j) (by simp; omega)
    rw [Nat.add_assoc, this, List.append_assoc, List.getElem?_append_right (by omega), List.getElem?_append_left (by omega)]
    congr 1
    omega

/-- The address of a field. -/
def St.fa (P : Program) (st : St) (s : TypeId) (x : T) (k : Nat) : Option T :=
  match x with
  | .ref id p => match st.m[id]? with
    | some (some o) => match o.c.sub p, fieldOff P s k with
      | some sk, some off => if Nat.beq (sk.off [k]) off then some (.ref id (p ++ [k])) else none
      | _, _ => none
    | _ => none
  | .pt (.agg fs) => match fs[k]?, fieldOff P s k with
    | some y, some off => if (Nat.beq (Sk.sizes ((T.sks fs).take k)) off && Nat.ble 1 y.sk.size) then some (.pt y) else none
    | _, _ => none
  | _ => none

theorem Sim.fa {P : Program} {C : Ctx} {β : Bel} {st : St} {a : Act} {w : World} (_h : Sim C β st a w) {s : TypeId} {x y : T} {k : Nat} {v : Value}
    (hx : RT w (Mut C.N0 st.m β) (ext st.m β) x v) (hl : st.fa P s x k = some y) :
    ∃ u, (Instr.fieldAt s v k).run P w = .ok u w ∧ RT w (Mut C.N0 st.m β) (ext st.m β) y u := by
  unfold St.fa at hl
  split at hl
  · rename_i id p
    split at hl
    · rename_i o hm
      split at hl
      · rename_i sk off h1 h2
        split at hl
        · rename_i hc
          simp only [Option.some.injEq] at hl; subst hl
          obtain ⟨ad, rfl, o', b, k', e1, e2, rfl⟩ := hx.ref
          rw [hm] at e1; simp only [Option.some.injEq] at e1; subst e1
          refine ⟨_, run_fieldAt h2 _ w, ?_⟩
          refine RT.leaf ?_ rfl
          simp only [RC]
          refine ⟨_, rfl, o, b, k', hm, e2, ?_⟩
          rw [addr_add, Cont.off_append _ _ _ _ h1, Nat.eq_of_beq_eq_true hc]
        · cases hl
      · cases hl
    · cases hl
  · rename_i fs
    split at hl
    · rename_i y' off h1 h2
      split at hl
      · rename_i hc
        simp only [Option.some.injEq] at hl; subst hl
        obtain ⟨ad, ds, rfl, hne, hr, hlies⟩ := hx.pt
        simp only [Bool.and_eq_true] at hc
        have hc1 := Nat.eq_of_beq_eq_true hc.1
        have hc2 := Nat.le_of_ble_eq_true hc.2
        simp only [RC] at hr
        obtain ⟨pre, c, post, q1, q2, q3, _⟩ := RL.at fs ds k y' hr h1
        obtain ⟨b, off', cs, e, fz, pre', post', rfl, _⟩ := hlies.split hne
        refine ⟨_, run_fieldAt h2 _ w, ?_⟩
        refine RT.leaf ?_ rfl
        simp only [RC]
        refine ⟨_, c, rfl, ?_, q3, ?_⟩
        · intro hc0; subst hc0
          have := RC.length _ _ q3
          simp at this; omega
        · rw [addr_add]
          rw [q1] at hlies
          have := hlies.part
          rwa [q2, hc1] at this
      · cases hl
    · cases hl
  · cases hl

def T.int? : T → Option Int
  | .i n => some n
  | .u8 x => some x.toNat
  | .u32 x => some x.toNat
  | .u64 x => some x.toNat
  | _ => none

theorem RT.int {w : World} {N : Nat → Prop} {X : Ext} {x : T} {n : Int} {v : Value} (h : RT w N X x v) (hi : x.int? = some n) : ∃ k, v = .int k n := by
  cases x <;> simp [T.int?] at hi <;> subst hi <;> (
    rcases h with ⟨h1, _⟩ | ⟨_, h1⟩
    · simp [T.isAgg] at h1
    · simp only [RC, List.cons.injEq, and_true] at h1
      exact ⟨_, h1⟩)

theorem Cont.len_off (c : Cont) (p : List Nat) (n sz k : Nat) (h : c.len p = some (n, sz)) : c.off (p ++ [k]) = c.off p + k * sz := by
  cases c with
  | var x =>
    simp only [Cont.len] at h
    cases hs : x.sk.sub p with
    | none => simp [hs, Sk.arrOf] at h
    | some s =>
      simp only [Cont.off]
      rw [Sk.off_append p _ s _ hs]
      cases s <;> simp [hs, Sk.arrOf] at h
      · obtain ⟨rfl, rfl⟩ := h; simp [Sk.off]
      · obtain ⟨rfl, rfl⟩ := h; simp [Sk.off]
  | rb l =>
    cases p with
    | nil => simp [Cont.len] at h; obtain ⟨rfl, rfl⟩ := h; simp [Cont.off]
    | cons a p => simp [Cont.len] at h
  | rs e xs =>
    cases p with
    | nil => simp [Cont.len] at h; obtain ⟨rfl, rfl⟩ := h; simp [Cont.off, Sk.off]
    | cons a p => simp [Cont.len] at h

/-- The length of a slice that is a row. -/
def Cont.rlen (c : Cont) (p : List Nat) (off : Nat) (rest : Option Nat) : Nat :=
  match rest with
  | some k => k
  | none => match c.len p with
    | some (n, _) => n - off
    | none => 0

def plus (off i : Nat) : Nat := match off with
  | 0 => i
  | k + 1 => (k + 1) + i

theorem plus_eq (off i : Nat) : plus off i = off + i := by cases off <;> simp [plus]

/-- The address of an element. -/
def St.ia (P : Program) (st : St) (t : TypeId) (x : T) (i : Int) (q : List T) : Option (T × Prop) :=
  match P.underlying t, x with
  | some (.array n el), .ref id p => match st.m[id]? with
    | some (some o) => match o.c.len p, szT P el with
      | some (n', sz), some k => if (Nat.beq n n' && Nat.beq sz k) then some (.ref id (p ++ [i.toNat]), 0 ≤ i ∧ i < n) else none
      | _, _ => none
    | _ => none
  | some (.array n el), .pt (.ba n' l) => match szT P el with
    | some 1 => if Nat.beq n n' then some (.pt (.u8 (l.getD i.toNat 0)), 0 ≤ i ∧ i < n) else none
    | _ => none
  | some (.slice el), .row id p off rest => match st.m[id]? with
    | some (some o) => match o.c.len p, szT P el with
      | some (_, sz), some k => if Nat.beq sz k then some (.ref id (p ++ [plus off i.toNat]), 0 ≤ i ∧ i < o.c.rlen p off rest) else none
      | _, _ => none
    | _ => none
  | some (.slice el), .sb l => match szT P el with
    | some 1 => some (.pt (.u8 (l.getD i.toNat 0)), 0 ≤ i ∧ i < l.length)
    | _ => none
  | some (.slice el), .sl e xs => match szT P el with
    | some k => if (Nat.beq e.size k && Nat.ble 1 k) then match q with
        | y :: _ => some (.pt y, 0 ≤ i ∧ xs[i.toNat]? = some y)
        | [] => match xs[i.toNat]? with
          | some y => some (.pt y, 0 ≤ i)
          | none => none
      else none
    | none => none
  | _, _ => none

theorem RT.row {w : World} {N : Nat → Prop} {X : Ext} {id : Nat} {p : List Nat} {off : Nat} {rest : Option Nat} {v : Value} (h : RT w N X (.row id p off rest) v) : v.oneCell' = true ∧ X.rw id p off rest v := by
  rcases h with ⟨h1, _⟩ | ⟨_, h1⟩
  · simp [T.isAgg] at h1
  · simp only [RC] at h1
    obtain ⟨a, h1, h2, h3⟩ := h1
    simp at h1; subst h1
    exact ⟨h2, h3⟩

theorem RT.sb {w : World} {N : Nat → Prop} {X : Ext} {l : List UInt8} {v : Value} (h : RT w N X (.sb l) v) : ∃ A c, v = .slice A l.length c ∧ l.length ≤ c ∧ Lies w N A (l.map u8v) := by
  rcases h with ⟨h1, _⟩ | ⟨_, h1⟩
  · simp [T.isAgg] at h1
  · simp only [RC] at h1
    obtain ⟨A, c, h1, h2⟩ := h1
    simp at h1
    exact ⟨A, c, h1, h2⟩

theorem RT.sl {w : World} {N : Nat → Prop} {X : Ext} {e : Sk} {xs : List T} {v : Value} (h : RT w N X (.sl e xs) v) : ∃ A c ds, v = .slice A xs.length c ∧ xs.length ≤ c ∧ RU w N e xs ds ∧ Lies w N A ds := by
  rcases h with ⟨h1, _⟩ | ⟨_, h1⟩
  · simp [T.isAgg] at h1
  · simp only [RC] at h1
    obtain ⟨A, c, h1, h2, ds, h3⟩ := h1
    simp at h1
    exact ⟨A, c, ds, h1, h2, h3⟩

theorem rlen_eq {c : Cont} {p : List Nat} {off n sz : Nat} {rest : Option Nat} (h : c.len p = some (n, sz)) : c.rlen p off rest = rest.getD (n - off) := by
  unfold Cont.rlen
  cases rest <;> simp [h]

theorem run_indexAt_array {P : Program} {t el : TypeId} {n k : Nat} (hu : P.underlying t = some (.array n el)) (hk : szT P el = some k) {kd : IntKind} {i : Int} (h0 : 0 ≤ i) (h1 : i < n) (a : Addr) (w : World) :
    (Instr.indexAt t (.pointer (some a)) (.int kd i)).run P w = .ok (.pointer (some (a.add (i.toNat * k)))) w := by
  simp [Instr.indexAt, asIntOf, run_underlying hu, Instr.sureAddr, h0, h1, run_sizeOf' hk]

theorem run_indexAt_slice {P : Program} {t el : TypeId} {k : Nat} (hu : P.underlying t = some (.slice el)) (hk : szT P el = some k) {kd : IntKind} {i : Int} {len cap : Nat} (h0 : 0 ≤ i) (h1 : i < len) (a : Addr) (w : World) :
    (Instr.indexAt t (.slice (some a) len cap) (.int kd i)).run P w = .ok (.pointer (some (a.add (i.toNat * k)))) w := by
  simp [Instr.indexAt, asIntOf, run_underlying hu, h0, h1, run_sizeOf' hk]

theorem lies_u8 {w : World} {N : Nat → Prop} {A : Option Addr} {l : List UInt8} (h : Lies w N A (l.map u8v)) {k : Nat} (hk : k < l.length) :
    ∃ b off, A = some ⟨b, off, none⟩ ∧ Lies w N (some ⟨b, off + k, none⟩) [u8v (l.getD k 0)] := by
  have hne : l.map u8v ≠ [] := by intro h; simp at h; subst h; simp at hk
  have : ∃ a, A = some a := by
    rcases h with h | ⟨b, off, hA, _⟩
    · exact absurd h hne
    · exact ⟨_, hA⟩
  obtain ⟨a, rfl⟩ := this
  obtain ⟨b, off, cs, e, fz, pre', post', rfl, _⟩ := h.split hne
  refine ⟨b, off, rfl, ?_⟩
  rw [ba_at l k hk] at h
  have := h.part
  simpa [Nat.min_eq_left (Nat.le_of_lt hk)] using this

theorem lies_ru {w : World} {N : Nat → Prop} {A : Option Addr} {e : Sk} {xs : List T} {ds : List Value} (hr : RU w N e xs ds) (h : Lies w N A ds) {k : Nat} {y : T} (hy : xs[k]? = some y) (hs : 1 ≤ e.size) :
    ∃ b off d, A = some ⟨b, off, none⟩ ∧ d ≠ [] ∧ y.sk = e ∧ RC w N Ext.none y d ∧ Lies w N (some ⟨b, off + k * e.size, none⟩) d := by
  obtain ⟨pre, c, post, e1, e2, e2', e3, _⟩ := RU.at xs ds k y hr hy
  have hcl : c.length = e.size := by rw [RC.length _ _ e3, e2']
  have hc : c ≠ [] := by intro h; rw [h] at hcl; simp at hcl; omega
  have hne : ds ≠ [] := by intro h; rw [h] at e1; simp at e1; exact hc e1.2.1
  have : ∃ a, A = some a := by
    rcases h with h | ⟨b, off, hA, _⟩
    · exact absurd h hne
    · exact ⟨_, hA⟩
  obtain ⟨a, rfl⟩ := this
  obtain ⟨b, off, cs, e', fz, pre', post', rfl, _⟩ := h.split hne
  refine ⟨b, off, c, rfl, hc, e2', e3, ?_⟩
  rw [e1] at h
  have := h.part
  rwa [e2] at this

theorem Sim.ia {P : Program} {C : Ctx} {β : Bel} {st : St} {a : Act} {w : World} (_h : Sim C β st a w) {t : TypeId} {x y z : T} {i : Int} {q : List T} {ob : Prop} {v iv : Value}
    (hx : RT w (Mut C.N0 st.m β) (ext st.m β) x v) (hz : RT w (Mut C.N0 st.m β) (ext st.m β) z iv) (hi : z.int? = some i) (hl : st.ia P t x i q = some (y, ob)) (ho : ob) :
    ∃ u, (Instr.indexAt t v iv).run P w = .ok u w ∧ RT w (Mut C.N0 st.m β) (ext st.m β) y u := by
  obtain ⟨kd, rfl⟩ := hz.int hi
  unfold St.ia at hl
  split at hl
  · rename_i n el id p hu
    split at hl
    · rename_i o hm
      split at hl
      · rename_i n' sz k h1 h2
        split at hl
        · rename_i hc
          simp only [Option.some.injEq, Prod.mk.injEq] at hl
          obtain ⟨rfl, rfl⟩ := hl
          simp only [Bool.and_eq_true] at hc
          have hc2 := Nat.eq_of_beq_eq_true hc.2
          subst hc2
          obtain ⟨ad, rfl, o', b, k', e1, e2, rfl⟩ := hx.ref
          rw [hm] at e1; simp only [Option.some.injEq] at e1; subst e1
          refine ⟨_, run_indexAt_array hu h2 ho.1 ho.2 _ w, RT.leaf ?_ rfl⟩
          simp only [RC]
          refine ⟨_, rfl, o, b, k', hm, e2, ?_⟩
          rw [addr_add, Cont.len_off _ _ _ _ _ h1]
        · cases hl
      · cases hl
    · cases hl
  · rename_i n el n' l hu
    split at hl
    · rename_i h2
      split at hl
      · rename_i hc
        simp only [Option.some.injEq, Prod.mk.injEq] at hl
        obtain ⟨rfl, rfl⟩ := hl
        have hc1 := Nat.eq_of_beq_eq_true hc
        subst hc1
        obtain ⟨ad, ds, rfl, hne, hr, hlies⟩ := hx.pt
        simp only [RC] at hr
        obtain ⟨hln, rfl⟩ := hr
        obtain ⟨b, off, hA, hl'⟩ := lies_u8 hlies (k := i.toNat) (by omega)
        simp only [Option.some.injEq] at hA; subst hA
        refine ⟨_, run_indexAt_array hu h2 ho.1 ho.2 _ w, RT.leaf ?_ rfl⟩
        simp only [RC]
        exact ⟨_, _, rfl, by simp, rfl, by rw [addr_add, Nat.mul_one]; exact hl'⟩
      · cases hl
    · cases hl
  · rename_i el id p off rest hu
    split at hl
    · rename_i o hm
      split at hl
      · rename_i n sz k h1 h2
        split at hl
        · rename_i hc
          simp only [Option.some.injEq, Prod.mk.injEq] at hl
          obtain ⟨rfl, rfl⟩ := hl
          have hc2 := Nat.eq_of_beq_eq_true hc
          subst hc2
          obtain ⟨_, o', e1, n', sz', e3, e4, e5⟩ := hx.row
          rw [hm] at e1; simp only [Option.some.injEq] at e1; subst e1
          rw [h1] at e3; simp only [Option.some.injEq, Prod.mk.injEq] at e3
          obtain ⟨rfl, rfl⟩ := e3
          rw [rlen_eq h1] at ho
          cases hβ : β id with
          | none => rw [hβ] at e5; simp only at e5; omega
          | some bk =>
            obtain ⟨b, k'⟩ := bk
            rw [hβ] at e5
            obtain ⟨A, cap, rfl, g1, g2, g3⟩ := e5
            have := g3 (by omega)
            subst this
            refine ⟨_, run_indexAt_slice hu h2 ho.1 ho.2 _ w, RT.leaf ?_ rfl⟩
            simp only [RC]
            refine ⟨_, rfl, o, b, k', hm, hβ, ?_⟩
            rw [addr_add, Cont.len_off _ _ _ _ _ h1, plus_eq, Nat.add_mul, Nat.add_assoc]
        · cases hl
      · cases hl
    · cases hl
  · rename_i el l hu
    split at hl
    · rename_i h2
      simp only [Option.some.injEq, Prod.mk.injEq] at hl
      obtain ⟨rfl, rfl⟩ := hl
      obtain ⟨A, c, rfl, hc, hlies⟩ := hx.sb
      obtain ⟨b, off, rfl, hl'⟩ := lies_u8 hlies (k := i.toNat) (by omega)
      refine ⟨_, run_indexAt_slice hu h2 ho.1 ho.2 _ w, RT.leaf ?_ rfl⟩
      simp only [RC]
      exact ⟨_, _, rfl, by simp, rfl, by rw [addr_add, Nat.mul_one]; exact hl'⟩
    · cases hl
  · rename_i el e xs hu
    split at hl
    · rename_i k h2
      split at hl
      · rename_i hc
        simp only [Bool.and_eq_true] at hc
        have hc1 := Nat.eq_of_beq_eq_true hc.1
        have hc2 := Nat.le_of_ble_eq_true hc.2
        subst hc1
        have key : ∀ y', xs[i.toNat]? = some y' → 0 ≤ i → ∃ u, (Instr.indexAt t v (.int kd i)).run P w = .ok u w ∧ RT w (Mut C.N0 st.m β) (ext st.m β) (.pt y') u := by
          intro y' hy h0
          obtain ⟨A, c, ds, rfl, hc, hr, hlies⟩ := hx.sl
          obtain ⟨b, off, d, rfl, q1, q2, q3, q4⟩ := lies_ru hr hlies hy hc2
          have hlt : i.toNat < xs.length := (List.getElem?_eq_some_iff.1 hy).1
          refine ⟨_, run_indexAt_slice hu h2 h0 (by omega) _ w, RT.leaf ?_ rfl⟩
          simp only [RC]
          exact ⟨_, d, rfl, q1, q3, by rw [addr_add]; exact q4⟩
        split at hl
        · simp only [Option.some.injEq, Prod.mk.injEq] at hl
          obtain ⟨rfl, rfl⟩ := hl
          exact key _ ho.2 ho.1
        · split at hl
          · rename_i y' hy
            simp only [Option.some.injEq, Prod.mk.injEq] at hl
            obtain ⟨rfl, rfl⟩ := hl
            exact key _ hy ho
          · cases hl
      · cases hl
    · cases hl
  · cases hl

end Go.AL
