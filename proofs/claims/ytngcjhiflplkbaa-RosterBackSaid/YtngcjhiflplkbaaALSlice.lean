/- Slicing in the abstract state. No condition. -/
import Derived.Test.YtngcjhiflplkbaaALAddr
namespace Go.AL
open Go

/-- A bound of a slice: none, or a number. -/
inductive Bd where
  | no
  | at (n : Int)

def Bd.lo : Bd → Int
  | .no => 0
  | .at n => n

/-- What the low and the high bound come to, of so many. -/
def bnds (n : Int) : Bd → Bd → Prop
  | .no, .no => True
  | .at l, .no => 0 ≤ l ∧ l ≤ n
  | .no, .at h => 0 ≤ h ∧ h ≤ n
  | .at l, .at h => 0 ≤ l ∧ l ≤ h ∧ h ≤ n

def cut {α : Type} (l : List α) : Bd → Bd → List α
  | .no, .no => l
  | .at a, .no => l.drop a.toNat
  | .no, .at h => l.take h.toNat
  | .at a, .at h => (l.take h.toNat).drop a.toNat

def BdV (b : Bd) (v : Option Value) : Prop := match b, v with
  | .no, none => True
  | .at n, some v => ∃ k, v = .int k n
  | _, _ => False

def Bd.hi (n : Nat) : Bd → Nat
  | .no => n
  | .at h => h.toNat

theorem run_sliceBound {P : Program} {k : IntKind} {i : Int} {y : Nat} (h0 : 0 ≤ i) (h1 : i ≤ y) (code : BoundsCode) (w : World) :
    (Instr.sliceBound (.int k i) y code).run P w = .ok i.toNat w := by
  simp only [Instr.sliceBound, asIntOf, Sem.run_bind, Sem.run_pure, Result.andThen_ok]
  rw [if_pos ⟨h0, h1⟩]
  rfl

theorem run_sliceBounds {P : Program} (sl : Bool) {n c : Nat} (hnc : n ≤ c) {lo hi : Bd} {vl vh : Option Value} (hl : BdV lo vl) (hh : BdV hi vh) (hb : bnds n lo hi) (w : World) :
    (Instr.sliceBounds sl n c vl vh none).run P w = .ok (lo.lo.toNat, hi.hi n, c) w := by
  cases lo <;> cases hi <;> cases vl <;> cases vh <;> simp only [BdV] at hl hh <;> simp only [bnds] at hb
  · simp [Instr.sliceBounds, Bd.lo, Bd.hi]
  · obtain ⟨k, rfl⟩ := hh
    rename_i h
    have h2 : h ≤ (c : Int) := by omega
    simp [Instr.sliceBounds, run_sliceBound hb.1 h2, Bd.lo, Bd.hi]
  · obtain ⟨k, rfl⟩ := hl
    simp [Instr.sliceBounds, run_sliceBound hb.1 hb.2, Bd.lo, Bd.hi]
  · obtain ⟨k, rfl⟩ := hl
    obtain ⟨k', rfl⟩ := hh
    rename_i l h
    have h1 : 0 ≤ h := by omega
    have h2 : h ≤ (c : Int) := by omega
    have h3 : l ≤ ((h.toNat : Nat) : Int) := by omega
    simp [Instr.sliceBounds, run_sliceBound h1 h2, run_sliceBound hb.1 h3, Bd.lo, Bd.hi]

theorem bnds_lo {n : Nat} {lo hi : Bd} (h : bnds n lo hi) : lo.lo.toNat ≤ hi.hi n ∧ hi.hi n ≤ n := by
  cases lo <;> cases hi <;> simp only [bnds, Bd.lo, Bd.hi] at h ⊢ <;> omega

theorem cut_eq {α : Type} (l : List α) (lo hi : Bd) : cut l lo hi = (l.take (hi.hi l.length)).drop lo.lo.toNat := by
  cases lo <;> cases hi <;> simp [cut, Bd.lo, Bd.hi]

theorem cut_length {α : Type} (l : List α) {lo hi : Bd} (h : bnds l.length lo hi) : (cut l lo hi).length = hi.hi l.length - lo.lo.toNat := by
  have := bnds_lo h
  rw [cut_eq]; simp; omega

theorem cut_map {α γ : Type} (f : α → γ) (l : List α) (lo hi : Bd) : (cut l lo hi).map f = cut (l.map f) lo hi := by
  cases lo <;> cases hi <;> simp [cut]

/-- Of a row: from where on, how many. -/
def restOf (rest : Option Nat) (lo hi : Bd) : Option Nat := match hi with
  | .at h => match lo with
    | .no => some h.toNat
    | .at l => some (h.toNat - l.toNat)
  | .no => match rest with
    | none => none
    | some k => some (k - lo.lo.toNat)

/-- A slice of a string, of a slice, of an array by its address. -/
def St.slc (P : Program) (st : St) (t : TypeId) (x : T) (lo hi : Bd) (q : List T) : Option (T × Prop) :=
  match P.underlying t, x with
  | some (.array n el), .ref id p => match st.m[id]? with
    | some (some o) => match o.c.len p, szT P el, o.c.nav p q with
      | some (n', sz), some k, some nv => if (Nat.beq n n' && Nat.beq sz k && Nat.beq nv.y.sk.size (n * k)) then some (.row id p lo.lo.toNat (restOf none lo hi), bnds n lo hi ∧ nv.ob) else none
      | _, _, _ => none
    | _ => none
  | some (.slice el), .row id p off rest => match st.m[id]? with
    | some (some o) => match o.c.len p, szT P el with
      | some (_, sz), some k => if Nat.beq sz k then some (.row id p (plus off lo.lo.toNat) (restOf rest lo hi), bnds (o.c.rlen p off rest) lo hi) else none
      | _, _ => none
    | _ => none
  | some (.slice el), .sb l => match szT P el with
    | some 1 => some (.sb (cut l lo hi), bnds l.length lo hi)
    | _ => none
  | some (.slice el), .sl e xs => match szT P el with
    | some k => if Nat.beq e.size k then some (.sl e (cut xs lo hi), bnds xs.length lo hi) else none
    | none => none
  | some (.slice el), .v (.slice none 0 0) => match szT P el with
    | some _ => some (.v (.slice none 0 0), bnds 0 lo hi)
    | none => none
  | some .string, .s l => some (.s (cut l lo hi), bnds l.length lo hi)
  | _, _ => none

theorem run_sliceAt_slice {P : Program} {t el : TypeId} {k : Nat} (hu : P.underlying t = some (.slice el)) (hk : szT P el = some k) {A : Option Addr} {n c : Nat} (hnc : n ≤ c) {lo hi : Bd} {vl vh : Option Value}
    (hl : BdV lo vl) (hh : BdV hi vh) (hb : bnds n lo hi) (w : World) :
    (Instr.sliceAt t (.slice A n c) vl vh none).run P w = .ok (.slice (if c = lo.lo.toNat then A else A.map (·.add (lo.lo.toNat * k))) (hi.hi n - lo.lo.toNat) (c - lo.lo.toNat)) w := by
  simp [Instr.sliceAt, Instr.slice, run_underlying hu, run_sliceBounds true hnc hl hh hb, run_sizeOf' hk]

theorem run_sliceAt_array {P : Program} {t el : TypeId} {n k : Nat} (hu : P.underlying t = some (.array n el)) (hk : szT P el = some k) {a : Addr} {lo hi : Bd} {vl vh : Option Value}
    (hl : BdV lo vl) (hh : BdV hi vh) (hb : bnds n lo hi) (w : World) :
    (Instr.sliceAt t (.pointer (some a)) vl vh none).run P w = .ok (.slice (some (if n = lo.lo.toNat then a else a.add (lo.lo.toNat * k))) (hi.hi n - lo.lo.toNat) (n - lo.lo.toNat)) w := by
  simp [Instr.sliceAt, run_underlying hu, Instr.sureAddr, run_sliceBounds false (Nat.le_refl n) hl hh hb, run_sizeOf' hk]

theorem toList_extract (s : ByteArray) (i j : Nat) : (s.extract i j).data.toList = (s.data.toList.take j).drop i := by
  simp [ByteArray.extract, ByteArray.copySlice, List.drop_take]

theorem lies_cut {w : World} {N : Nat → Prop} {A : Option Addr} {ds : List Value} {sz n c : Nat} (h : Lies w N A ds) (hn : ds.length = n * sz) (hc : n ≤ c) {lo hi : Nat} (h1 : lo ≤ hi) (h2 : hi ≤ n) :
    Lies w N (if c = lo then A else A.map (·.add (lo * sz))) ((ds.take (hi * sz)).drop (lo * sz)) := by
  by_cases he : (ds.take (hi * sz)).drop (lo * sz) = []
  · exact .inl he
  · have hlen : 0 < ((ds.take (hi * sz)).drop (lo * sz)).length := List.length_pos_iff.2 he
    have hm : hi * sz ≤ n * sz := Nat.mul_le_mul_right _ h2
    have hm1 : lo * sz ≤ hi * sz := Nat.mul_le_mul_right _ h1
    simp at hlen
    have hlt : lo * sz < hi * sz := by omega
    have hlt' : lo < hi := Nat.lt_of_mul_lt_mul_right hlt
    have hne : ds ≠ [] := by intro e; subst e; simp at he
    rw [if_neg (by omega)]
    have : ∃ a, A = some a := by
      rcases h with h | ⟨b, off, hA, _⟩
      · exact absurd h hne
      · exact ⟨_, hA⟩
    obtain ⟨a, rfl⟩ := this
    obtain ⟨b, off, cs, e, fz, pre, post, rfl, _⟩ := h.split hne
    have hsplit : ds = ds.take (lo * sz) ++ (ds.take (hi * sz)).drop (lo * sz) ++ ds.drop (hi * sz) := by
      have : ds.take (lo * sz) = (ds.take (hi * sz)).take (lo * sz) := by rw [List.take_take, Nat.min_eq_left hm1]
      rw [this, List.take_append_drop, List.take_append_drop]
    rw [hsplit] at h
    have := h.part
    simp only [Option.map_some, addr_add]
    have hl : (ds.take (lo * sz)).length = lo * sz := by simp; omega
    rwa [hl] at this

theorem RU.cut {w : World} {N : Nat → Prop} {e : Sk} {xs : List T} {cs : List Value} (h : RU w N e xs cs) {lo hi : Bd} :
    RU w N e (cut xs lo hi) ((cs.take (hi.hi xs.length * e.size)).drop (lo.lo.toNat * e.size)) := by
  rw [cut_eq]
  exact RU.drop _ _ _ (RU.take _ _ _ h)

theorem cut_u8 {l : List UInt8} {lo hi : Bd} : ((l.map u8v).take (hi.hi l.length * 1)).drop (lo.lo.toNat * 1) = (cut l lo hi).map u8v := by
  rw [cut_eq, Nat.mul_one, Nat.mul_one, List.map_drop, List.map_take]

theorem Sim.slc {P : Program} {C : Ctx} {β : Bel} {st : St} {a : Act} {w : World} (h : Sim C β st a w) {t : TypeId} {x y : T} {lo hi : Bd} {q : List T} {ob : Prop} {v : Value} {vl vh : Option Value}
    (hx : RT w (Mut C.N0 st.m β) (ext st.m β) x v) (hlo : BdV lo vl) (hhi : BdV hi vh) (hl : st.slc P t x lo hi q = some (y, ob)) (ho : ob) :
    ∃ u, (Instr.sliceAt t v vl vh none).run P w = .ok u w ∧ RT w (Mut C.N0 st.m β) (ext st.m β) y u := by
  unfold St.slc at hl
  split at hl
  · rename_i n el id p hu
    split at hl
    · rename_i o hm
      split at hl
      · rename_i n' sz k nv h1 h2 hn
        split at hl
        · rename_i hc
          simp only [Option.some.injEq, Prod.mk.injEq] at hl
          obtain ⟨rfl, rfl⟩ := hl
          simp only [Bool.and_eq_true] at hc
          have hc1 := Nat.eq_of_beq_eq_true hc.1.1
          have hc2 := Nat.eq_of_beq_eq_true hc.1.2
          have hc3 := Nat.eq_of_beq_eq_true hc.2
          subst hc1 hc2
          obtain ⟨ad, rfl, o', b, k', e1, e2, rfl⟩ := hx.ref
          rw [hm] at e1; simp only [Option.some.injEq] at e1; subst e1
          have hb := bnds_lo ho.1
          have hme := h.me id o hm
          rw [e2] at hme
          obtain ⟨cs, e, fz, q1, q2, q3, q4⟩ := hme
          obtain ⟨pre, d, post, r1, r2, r3, _⟩ := Cont.nav_ok o.c p q nv cs.toList hn q4 ho.2
          have hd : d.length = n * sz := by rw [RC.length _ _ r3, hc3]
          have htot : o.c.off p + n * sz ≤ k' := by
            have := congrArg List.length r1
            simp at this
            omega
          refine ⟨_, run_sliceAt_array hu h2 hlo hhi ho.1 w, RT.leaf ?_ rfl⟩
          simp only [RC]
          refine ⟨_, rfl, rfl, o, hm, n, sz, h1, ?_, ?_⟩
          · cases lo <;> cases hi <;> simp only [restOf, Bd.lo, Bd.hi, Option.getD_none, Option.getD_some] at hb ⊢ <;> omega
          · rw [e2]
            have hr : (restOf none lo hi).getD (n - lo.lo.toNat) = hi.hi n - lo.lo.toNat := by
              cases lo <;> cases hi <;> simp [restOf, Bd.lo, Bd.hi]
            have hadd : lo.lo.toNat + (n - lo.lo.toNat) = n := by omega
            refine ⟨_, n - lo.lo.toNat, by rw [hr], by omega, by rw [hadd]; exact htot, fun hcap => ?_⟩
            rw [if_neg (by omega), addr_add]
        · cases hl
      · cases hl
    · cases hl
  · rename_i el id p off rest hu
    split at hl
    · rename_i o hm
      split at hl
      · rename_i n sz k h1 h2
        split at hl
        · rename_i hc
          simp only [Option.some.injEq, Prod.mk.injEq] at hl
          obtain ⟨rfl, rfl⟩ := hl
          have hc2 := Nat.eq_of_beq_eq_true hc
          subst hc2
          obtain ⟨_, o', e1, n', sz', e3, e4, e5⟩ := hx.row
          rw [hm] at e1; simp only [Option.some.injEq] at e1; subst e1
          rw [h1] at e3; simp only [Option.some.injEq, Prod.mk.injEq] at e3
          obtain ⟨rfl, rfl⟩ := e3
          rw [rlen_eq h1] at ho
          have hb := bnds_lo ho
          have hr : (restOf rest lo hi).getD (n - (off + lo.lo.toNat)) = hi.hi (rest.getD (n - off)) - lo.lo.toNat := by
            cases lo <;> cases hi <;> cases rest <;> simp [restOf, Bd.lo, Bd.hi, Nat.sub_sub]
          cases hβ : β id with
          | none =>
            rw [hβ] at e5
            obtain ⟨rfl, g1, rfl, rfl⟩ := e5
            rw [g1] at hb ho hr
            have hlo0 : lo.lo.toNat = 0 := by omega
            have hhi0 : hi.hi 0 = 0 := by omega
            refine ⟨_, run_sliceAt_slice hu h2 (Nat.le_refl 0) hlo hhi ho w, RT.leaf ?_ rfl⟩
            simp only [RC]
            rw [plus_eq]
            refine ⟨_, rfl, rfl, o, hm, n, sz, h1, by rw [hr]; omega, ?_⟩
            rw [hβ]
            simp only
            rw [hr, hlo0, hhi0]
            simp
          | some bk =>
            obtain ⟨b, k'⟩ := bk
            rw [hβ] at e5
            obtain ⟨A, cap, rfl, g1, g2, g3⟩ := e5
            refine ⟨_, run_sliceAt_slice hu h2 g1 hlo hhi ho w, RT.leaf ?_ rfl⟩
            simp only [RC]
            rw [plus_eq]
            refine ⟨_, rfl, rfl, o, hm, n, sz, h1, by rw [hr]; omega, ?_⟩
            rw [hβ]
            simp only
            rw [hr]
            refine ⟨if cap = lo.lo.toNat then A else A.add (lo.lo.toNat * sz), cap - lo.lo.toNat, ?_, by omega, ?_, ?_⟩
            · congr 1
              split <;> simp
            · have : off + lo.lo.toNat + (cap - lo.lo.toNat) = off + cap := by omega
              rw [this]; exact g2
            · intro hcap
              rw [if_neg (by omega), g3 (by omega), addr_add, Nat.add_mul, Nat.add_assoc]
        · cases hl
      · cases hl
    · cases hl
  · rename_i el l hu
    split at hl
    · rename_i h2
      simp only [Option.some.injEq, Prod.mk.injEq] at hl
      obtain ⟨rfl, rfl⟩ := hl
      obtain ⟨A, c, rfl, hc, hlies⟩ := hx.sb
      have hb := bnds_lo ho
      refine ⟨_, run_sliceAt_slice hu h2 hc hlo hhi ho w, RT.leaf ?_ rfl⟩
      simp only [RC]
      refine ⟨_, _, by rw [cut_length l ho], by rw [cut_length l ho]; omega, ?_⟩
      have := lies_cut (sz := 1) hlies (by simp) hc hb.1 hb.2
      rwa [cut_u8] at this
    · cases hl
  · rename_i el e xs hu
    split at hl
    · rename_i k h2
      split at hl
      · rename_i hc
        simp only [Option.some.injEq, Prod.mk.injEq] at hl
        obtain ⟨rfl, rfl⟩ := hl
        have hc1 := Nat.eq_of_beq_eq_true hc
        subst hc1
        obtain ⟨A, c, ds, rfl, hc, hr, hlies⟩ := hx.sl
        have hb := bnds_lo ho
        refine ⟨_, run_sliceAt_slice hu h2 hc hlo hhi ho w, RT.leaf ?_ rfl⟩
        simp only [RC]
        exact ⟨_, _, by rw [cut_length xs ho], by rw [cut_length xs ho]; omega, _, hr.cut, lies_cut hlies (RU.length _ _ hr) hc hb.1 hb.2⟩
      · cases hl
    · cases hl
  · rename_i el hu
    split at hl <;> try (cases hl; done)
    rename_i k hk
    simp only [Option.some.injEq, Prod.mk.injEq] at hl
    obtain ⟨rfl, rfl⟩ := hl
    have hv : v = .slice none 0 0 := by
      rcases hx with ⟨h1, _⟩ | ⟨_, h1⟩
      · simp [T.isAgg] at h1
      · simp only [RC] at h1; simpa using h1.2
    subst hv
    have hb : lo.lo.toNat ≤ hi.hi 0 ∧ hi.hi 0 ≤ 0 := bnds_lo (n := 0) ho
    have h0 : hi.hi 0 = 0 := by omega
    have h1 : lo.lo.toNat = 0 := by omega
    refine ⟨_, run_sliceAt_slice hu hk (Nat.le_refl 0) hlo hhi ho w, ?_⟩
    rw [h0, h1]
    exact RT.leaf (by simp [RC, Value.oneCell']) rfl
  · rename_i l hu
    simp only [Option.some.injEq, Prod.mk.injEq] at hl
    obtain ⟨rfl, rfl⟩ := hl
    have hv : v = .string ⟨l.toArray⟩ := by
      rcases hx with ⟨h1, _⟩ | ⟨_, h1⟩
      · simp [T.isAgg] at h1
      · simp only [RC] at h1; simpa using h1
    subst hv
    have hsz : (⟨l.toArray⟩ : ByteArray).size = l.length := by simp [ByteArray.size]
    have hrun : (Instr.sliceAt t (.string ⟨l.toArray⟩) vl vh none).run P w = .ok (.string ((⟨l.toArray⟩ : ByteArray).extract lo.lo.toNat (hi.hi l.length))) w := by
      simp [Instr.sliceAt, Instr.slice, run_underlying hu, hsz, run_sliceBounds false (Nat.le_refl _) hlo hhi ho]
    refine ⟨_, hrun, RT.leaf ?_ rfl⟩
    simp only [RC]
    congr 2
    have := toList_extract ⟨l.toArray⟩ lo.lo.toNat (hi.hi l.length)
    rw [cut_eq]
    simp only [] at this
    rw [← this]
  · cases hl

end Go.AL
