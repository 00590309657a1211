/- What a function's code comes to in the abstract machine: what must hold. No condition. -/
import Derived.Deep.LoopGhost
import Derived.Test.YtngcjhiflplkbaaProg
import Derived.Tactics
import Derived.Shelf.Sort.Plain
import Derived.Sort.OwnSortedInts
import Derived.Test.YtngcjhiflplkbaaRoZ9M1
namespace Go.AL
open Go

/-- Does an operation make an object? -/
def mkSlot : Op → Bool
  | .alloc _ | .box _ _ | .buildSlice _ _ _ | .makeSlice _ _ _ | .call _ => true
  | _ => false

def countMk : List Oper → Nat
  | [] => 0
  | o :: os => match mkSlot o.op with
    | true => countMk os + 1
    | false => countMk os

def addNone : Nat → List (Option Obj) → List (Option Obj)
  | 0, m => m
  | n + 1, m => m ++ none :: List.replicate n none

/-- Where an operation's elements are asked after. -/
def Oper.key (o : Oper) : Nat := match o.dst with
  | some d => d
  | none => match o.op with
    | .store _ (.tmp a) _ => a
    | _ => 0

def dstIs (d : Option Nat) : Operand → Bool
  | .tmp t => match d with | some d => Nat.beq d t | none => false
  | _ => false

/-- Does one of these hang on what operation 'i' yields? -/
def hangs (i : Nat) (d : Option Nat) : List Oper → Bool
  | [] => false
  | o :: os => (match o.guard with | some (j, _) => Nat.beq i j | none => false) || (match o.op with | .pick c _ _ => dstIs d c | _ => false) || hangs i d os

/-- What is told from outside. -/
structure Orc where
  el : Nat → List T

/-- A truth that others hang on is made plain. -/
def plainB (b : Bool) (x : T) (K : T → Prop) : Prop := match b with
  | true => match x with
    | .b c => match c with
      | true => K (.b true)
      | false => K (.b false)
    | x => K x
  | false => K x

theorem plainB_ok {b : Bool} {x : T} {K : T → Prop} (h : plainB b x K) : K x := by
  unfold plainB at h
  split at h
  · split at h
    · split at h <;> exact h
    · exact h
  · exact h

def nilC : Operand → Bool
  | .const (.slice none 0 0) => true
  | _ => false
/-- 'x == nil' of a slice: what is known if it is so; and what it is then. -/
def St.unk (P : Program) (st : St) (o : Oper) : Option (Prop × Bool) :=
  match o.op with
  | .binOp op t x y _ => match nilC y, P.underlying t with
    | true, some (.slice _) => match st.ev x with
      | some (.sl e xs) => match Nat.ble 1 e.size, op with
        | true, .eql => some (xs = [], true)
        | true, .neq => some (xs = [], false)
        | _, _ => none
      | some (.sb l) => match op with
        | .eql => some (l = [], true)
        | .neq => some (l = [], false)
        | _ => none
      | _ => none
    | _, _ => none
  | _ => none

/-- A region, in its order. 'slot': the next object's number; 'dm': a number that stays free. -/
def trL (P : Program) (S : Tbl) (nio : Nat) (O : Orc) (all : List Oper) (dm : Nat) : List Oper → Nat → Nat → St → (St → Prop) → Prop
  | [], _, _, st, K => K st
  | o :: os, i, slot, st, K => match wantT all st o with
    | some true => match st.unk P o with
      | some (p, b) => (p → trL P S nio O all dm os (i + 1) slot (st.put o.dst (.b b)) K) ∧ trL P S nio O all dm os (i + 1) slot (st.put o.dst (.b (!b))) K
      | none => match st.step P S nio (match mkSlot o.op with | true => slot | false => dm) (O.el (Oper.key o)) o with
        | some e => e.ob ∧ plainB (hangs i o.dst os) e.x fun x => trL P S nio O all dm os (i + 1) (match mkSlot o.op with | true => slot + 1 | false => slot) ((st.apply e).put o.dst x) K
        | none => False
    | some false => trL P S nio O all dm os (i + 1) (match mkSlot o.op with | true => slot + 1 | false => slot) (st.put o.dst (.tup [])) K
    | none => False

/-- What is known of an operation of a region that draws its order. -/
structure DR where
  c : Rec
  slot : Nat
  v : St
  h : List Nat × List Nat

def mayHard (S : Tbl) : Op → Bool
  | .store _ _ _ => true
  | .call c => match c.callee with
    | .builtin .append => true
    | .builtin .clear => true
    | .value (.func f) => S.io f
    | .value _ => true
    | _ => false
  | _ => false

/-- In the order of the text: which objects an operation writes, which it grows. -/
def preH (P : Program) (S : Tbl) (nio : Nat) (O : Orc) (dm : Nat) : List Oper → Nat → St → List (List Nat × List Nat)
  | [], _, _ => []
  | o :: os, slot, st => match st.step P S nio (match mkSlot o.op with | true => slot | false => dm) (O.el (Oper.key o)) o with
    | some e => (e.ws.map (·.1), match e.kl with | some a => [a] | none => []) :: preH P S nio O dm os (match mkSlot o.op with | true => slot + 1 | false => slot) ((st.apply e).put o.dst e.x)
    | none => ([], []) :: preH P S nio O dm os (match mkSlot o.op with | true => slot + 1 | false => slot) (st.put o.dst .junk)

/-- What must be hidden from the i-th: what those write that may come on either side. -/
def hidFor (S : Tbl) (anc : List Nat) (i : Nat) : List Oper → List (List Nat × List Nat) → Nat → List Nat × List Nat
  | o :: os, pre, k => match mayHard S o.op && !Nat.beq i k && !hasB (anc.getD i 0) k && !hasB (anc.getD k 0) i with
    | true => let r := hidFor S anc i os (pre.drop 1) (k + 1)
              let p := pre.headD ([], [])
              (p.1 ++ r.1, p.2 ++ r.2)
    | false => hidFor S anc i os (pre.drop 1) (k + 1)
  | [], _, _ => ([], [])

/-- No two touch that may come in either order: 'c' against those behind it. -/
def pairB (os : List Oper) (anc : List Nat) (i : Nat) (c : DR) : List DR → Nat → Bool
  | [], _ => true
  | d :: ds, k => (hasB (anc.getD k 0) i || (commB c.c d.c && harmB c.v (readsOf os c.c.o) c.slot c.h c.c d.c && harmB d.v (readsOf os d.c.o) d.slot d.h d.c c.c)) && pairB os anc i c ds (k + 1)
def pairsB (os : List Oper) (anc : List Nat) : Nat → List DR → Bool
  | _, [] => true
  | i, c :: cs => pairB os anc i c cs (i + 1) && pairsB os anc (i + 1) cs

def recs : List DR → List Rec
  | [] => []
  | d :: ds => d.c :: recs ds

/-- A region that draws its order. -/
def trD (P : Program) (S : Tbl) (nio : Nat) (O : Orc) (all : List Oper) (anc : List Nat) (pre : List (List Nat × List Nat)) (dm : Nat) (st0 : St) : List Oper → Nat → Nat → List DR → (St → Prop) → Prop
  | [], _, _, done, K => match pairsB all anc 0 done with
    | true => K (SD st0 (recs done) 0 fun _ => true)
    | false => False
  | o :: os, i, slot, done, K =>
    let v := SD st0 (recs done) 0 (hasB (anc.getD i 0))
    let sl := match mkSlot o.op with | true => slot | false => dm
    let h := hidFor S anc i all pre 0
    match wantT all v o, v.m[sl]? with
    | some true, some none => match (v.hide h).step P S nio sl (O.el (Oper.key o)) o with
      | some e => e.ob ∧ plainB (hangs i o.dst os) e.x fun x => trD P S nio O all anc pre dm st0 os (i + 1) (match mkSlot o.op with | true => slot + 1 | false => slot) (done ++ [⟨⟨o, some ⟨e.ob, e.fr, e.kl, e.ws, x⟩⟩, sl, v, h⟩]) K
      | none => False
    | some false, some none => trD P S nio O all anc pre dm st0 os (i + 1) (match mkSlot o.op with | true => slot + 1 | false => slot) (done ++ [⟨⟨o, none⟩, sl, v, h⟩]) K
    | _, _ => False

/-- How a piece of code may end. -/
inductive AX where
  | normal
  | ret
  | exit (id : Nat)

def region (P : Program) (S : Tbl) (nio : Nat) (O : Orc) (ops : List Oper) (draw : Bool) (st : St) (K : St → Prop) : Prop :=
  let st1 : St := ⟨st.t, addNone (countMk ops) st.m⟩
  match draw with
  | false => trL P S nio O ops nio ops 0 st.m.length st1 K
  | true => match backB 0 ops with
    | true => trD P S nio O ops (ancs ops []) (preH P S nio O nio ops st.m.length st1) nio st1 ops 0 st.m.length [] K
    | false => False

end Go.AL

/- A region of the abstract machine is sound. No condition. -/
namespace Go.AL
open Go

theorem addNone_get (n : Nat) (m : List (Option Obj)) (id : Nat) (o : Obj) : (addNone n m)[id]? = some (some o) ↔ m[id]? = some (some o) := by
  cases n with
  | zero => rfl
  | succ n =>
    simp only [addNone]
    by_cases h : id < m.length
    · rw [List.getElem?_append_left h]
    · rw [List.getElem?_append_right (by omega)]
      have h1 : m[id]? = none := List.getElem?_eq_none (by omega)
      rw [h1]
      have : (none :: List.replicate n none : List (Option Obj))[id - m.length]? ≠ some (some o) := by
        intro hq
        have hm := List.mem_of_getElem? hq
        simp at hm
      simp [this]

theorem Sim.more {C : Ctx} {β : Bel} {st : St} {a : Act} {w : World} (h : Sim C β st a w) (n : Nat) : Sim C β ⟨st.t, addNone n st.m⟩ a w := by
  have he : ext (addNone n st.m) β = ext st.m β := by
    simp only [ext, addNone_get]
  have hm : Mut C.N0 (addNone n st.m) β = Mut C.N0 st.m β := by
    funext b
    simp only [Mut, addNone_get]
  refine { h with sz := h.sz, tm := ?_, me := ?_, inj := ?_, loc := ?_, ios := ?_, fzl := ?_ }
  · intro k x hx; rw [hm, he]; exact h.tm k x hx
  · intro id o ho
    rw [addNone_get] at ho
    rw [hm, he]; exact h.me id o ho
  · intro id id' o o' b k k' h1 h2
    rw [addNone_get] at h1 h2
    exact h.inj id id' o o' b k k' h1 h2
  · intro id o b k h1
    rw [addNone_get] at h1
    exact h.loc id o b k h1
  · intro id hlt
    obtain ⟨x, hx⟩ := h.ios id hlt
    exact ⟨x, (addNone_get _ _ _ _).2 hx⟩
  · intro id o b k h1
    rw [addNone_get] at h1
    exact h.fzl id o b k h1

theorem unk_ok {P : Program} {C : Ctx} {β : Bel} {st : St} {a : Act} {w : World} (h : Sim C β st a w) {o : Oper} {p : Prop} {b : Bool} (hu : st.unk P o = some (p, b)) :
    ∃ c : Bool, (execOp a.eval o).run P w = .ok (.value (.bool (match c with | true => b | false => !b))) w ∧ (c = true → p) := by
  have run : ∀ (t e : TypeId) (op : BinOp) (x y : Operand) (yt : TypeId) (A : Option Addr) (n c : Nat), o.op = .binOp op t x y yt → nilC y = true → P.underlying t = some (.slice e) → a.eval x = .slice A n c →
      (op = .eql ∨ op = .neq) → (execOp a.eval o).run P w = .ok (.value (.bool (match op with | .eql => A.isNone | _ => !A.isNone))) w := by
    intro t e op x y yt A n c ho hy ht hx hop
    have hyv : a.eval y = .slice none 0 0 := by
      unfold nilC at hy
      split at hy
      · rfl
      · cases hy
    have he : (Op.equal t (.slice A n c) (.slice none 0 0)).run P w = .ok A.isNone w := by
      have : ∀ d, (Op.equalIn (d + 1) t (.slice A n c) (.slice none 0 0)).run P w = .ok A.isNone w := fun d => by
        cases A <;> simp [Op.equalIn, run_underlying ht]
      exact this 9999
    have hg : (eqGuard op t x y (.slice A n c) (.slice none 0 0)).run P w = .ok () w := by
      rcases hop with rfl | rfl <;> rfl
    simp only [execOp, ho, hx, hyv, Sem.run_bind, hg, Result.andThen]
    rcases hop with rfl | rfl
    · have : binOp .eql t (.slice A n c) (.slice none 0 0) = (do pure (.bool (← Op.equal t (.slice A n c) (.slice none 0 0)))) := rfl
      rw [this]
      simp [he]
    · have : binOp .neq t (.slice A n c) (.slice none 0 0) = (do pure (.bool (!(← Op.equal t (.slice A n c) (.slice none 0 0))))) := rfl
      rw [this]
      simp [he]
  unfold St.unk at hu
  split at hu
  · rename_i op t x y yt ho
    split at hu
    · rename_i e hy ht
      split at hu
      · rename_i e' xs hx
        obtain ⟨A, c, ds, hv, _, hr, hl⟩ := (h.ev hx).sl
        have hnil : Nat.ble 1 e'.size = true → A.isNone = true → xs = [] := by
          intro hpos hA
          have hpos := Nat.le_of_ble_eq_true hpos
          have hds : ds = [] := by
            rcases hl with hq | ⟨b', off, hA', _⟩
            · exact hq
            · rw [hA'] at hA; cases hA
          have hlen : xs.length * e'.size = 0 := by rw [← RU.length _ _ hr, hds]; rfl
          rcases Nat.mul_eq_zero.1 hlen with hq | hq
          · exact List.length_eq_zero_iff.1 hq
          · omega
        split at hu
        · rename_i hpos
          simp only [Option.some.injEq, Prod.mk.injEq] at hu
          obtain ⟨rfl, rfl⟩ := hu
          exact ⟨A.isNone, by rw [run t e _ x y yt A _ c ho hy ht hv (.inl rfl)]; cases A <;> rfl, hnil hpos⟩
        · rename_i hpos
          simp only [Option.some.injEq, Prod.mk.injEq] at hu
          obtain ⟨rfl, rfl⟩ := hu
          exact ⟨A.isNone, by rw [run t e _ x y yt A _ c ho hy ht hv (.inr rfl)]; cases A <;> rfl, hnil hpos⟩
        · cases hu
      · rename_i l hx
        obtain ⟨A, c, hv, _, hl⟩ := (h.ev hx).sb
        have hnil : A.isNone = true → l = [] := by
          intro hA
          rcases hl with hq | ⟨b', off, hA', _⟩
          · simpa using hq
          · rw [hA'] at hA; cases hA
        split at hu
        · simp only [Option.some.injEq, Prod.mk.injEq] at hu
          obtain ⟨rfl, rfl⟩ := hu
          exact ⟨A.isNone, by rw [run t e _ x y yt A _ c ho hy ht hv (.inl rfl)]; cases A <;> rfl, hnil⟩
        · simp only [Option.some.injEq, Prod.mk.injEq] at hu
          obtain ⟨rfl, rfl⟩ := hu
          exact ⟨A.isNone, by rw [run t e _ x y yt A _ c ho hy ht hv (.inr rfl)]; cases A <;> rfl, hnil⟩
        · cases hu
      · cases hu
    · cases hu
  · cases hu

section
variable {P : Program} {S : Tbl} (hS : TblOk P S) {C : Ctx} {O : Orc}
include hS

theorem trL_ok {ops : Array Oper} {Q : Exit → Act → World → Prop} {K : St → Prop} (hK : ∀ st β a w, K st → Sim C β st a w → Q .normal a w) {dm : Nat} :
    ∀ (os : List Oper) (i slot : Nat) (st : St) (β : Bel) (a : Act) (w : World), (∀ j, os[j]? = ops[i + j]?) → Sim C β st a w → trL P S C.nio O ops.toList dm os i slot st K → wpOps P ops Q (List.range' i os.length) a w
  | [], i, slot, st, β, a, w, _, hs, h => hK st β a w h hs
  | o :: os, i, slot, st, β, a, w, ho, hs, h => by
    have h0 : ops[i]? = some o := by simpa using (ho 0).symm
    have hrest : ∀ j, os[j]? = ops[(i + 1) + j]? := fun j => by
      have := ho (j + 1)
      simp at this
      rw [this]
      congr 1
      omega
    simp only [List.length_cons, List.range'_succ, wpOps, h0]
    simp only [trL] at h
    split at h
    · rename_i hw
      rw [want_ok hs hw]
      simp only [if_true]
      split at h
      · rename_i p b hu
        obtain ⟨h1, h2⟩ := h
        obtain ⟨c, hrun, hc⟩ := unk_ok hs hu
        left
        unfold Oper.wp
        rw [hrun]
        cases c with
        | true => exact trL_ok hK os (i + 1) _ _ β _ w hrest (hs.put o.dst (RT.of_val rfl)) (h1 (hc rfl))
        | false => exact trL_ok hK os (i + 1) _ _ β _ w hrest (hs.put o.dst (RT.of_val rfl)) h2
      split at h
      · rename_i e he
        obtain ⟨h1, h2⟩ := h
        have h3 := plainB_ok h2
        exact .inl (step_ok hs hS he h1 fun β' w' v hs' hx => trL_ok hK os (i + 1) _ _ β' _ w' hrest (hs'.put o.dst hx) h3)
      · exact h.elim
    · rename_i hw
      rw [want_ok hs hw]
      simp only [Bool.false_eq_true, if_false]
      exact trL_ok hK os (i + 1) _ _ β _ w hrest (hs.put o.dst (x := .tup []) (v := undef) ⟨[], rfl, rfl, fun k x hx => by simp at hx⟩) h
    · exact h.elim

omit hS in
theorem recs_get : ∀ (ds : List DR) (i : Nat), (recs ds)[i]? = (ds[i]?).map (·.c)
  | [], i => by simp [recs]
  | d :: ds, 0 => by simp [recs]
  | d :: ds, i + 1 => by simp [recs, recs_get ds i]
omit hS in
theorem recs_append : ∀ (ds es : List DR), recs (ds ++ es) = recs ds ++ recs es
  | [], es => rfl
  | d :: ds, es => by simp [recs, recs_append ds es]
omit hS in
theorem recs_map : ∀ (ds : List DR), recs ds = ds.map (·.c)
  | [] => rfl
  | d :: ds => by simp [recs, recs_map ds]

omit hS in
theorem pairB_ok {os : List Oper} {anc : List Nat} {i : Nat} {c : DR} : ∀ {ds : List DR} {k : Nat}, pairB os anc i c ds k = true → ∀ (j : Nat) (d : DR), ds[j]? = some d → hasB (anc.getD (k + j) 0) i = false →
    commB c.c d.c = true ∧ harmB c.v (readsOf os c.c.o) c.slot c.h c.c d.c = true ∧ harmB d.v (readsOf os d.c.o) d.slot d.h d.c c.c = true
  | [], _, _, j, d, h, _ => by simp at h
  | d0 :: ds, k, hB, 0, d, h, hn => by
    simp at h; subst h
    simp only [pairB, Bool.and_eq_true, Bool.or_eq_true] at hB
    rcases hB.1 with hq | hq
    · rw [Nat.add_zero] at hn; rw [hn] at hq; cases hq
    · exact ⟨hq.1.1, hq.1.2, hq.2⟩
  | d0 :: ds, k, hB, j + 1, d, h, hn => by
    simp at h
    simp only [pairB, Bool.and_eq_true] at hB
    exact pairB_ok hB.2 j d h (by rw [← hn]; congr 2; omega)

omit hS in
theorem pairsB_ok {os : List Oper} {anc : List Nat} : ∀ {ds : List DR} {b : Nat}, pairsB os anc b ds = true → ∀ (i k : Nat) (c d : DR), ds[i]? = some c → ds[k]? = some d → i < k → hasB (anc.getD (b + k) 0) (b + i) = false →
    commB c.c d.c = true ∧ harmB c.v (readsOf os c.c.o) c.slot c.h c.c d.c = true ∧ harmB d.v (readsOf os d.c.o) d.slot d.h d.c c.c = true
  | [], _, _, i, k, c, d, h, _, _, _ => by simp at h
  | c0 :: ds, b, hB, 0, k + 1, c, d, h1, h2, _, hn => by
    simp at h1 h2; subst h1
    simp only [pairsB, Bool.and_eq_true] at hB
    exact pairB_ok hB.1 k d h2 (by rw [← hn]; congr 2; omega)
  | c0 :: ds, b, hB, i + 1, k + 1, c, d, h1, h2, hlt, hn => by
    simp at h1 h2
    simp only [pairsB, Bool.and_eq_true] at hB
    exact pairsB_ok hB.2 i k c d h1 h2 (by omega) (by rw [show b + 1 + k = b + (k + 1) by omega, show b + 1 + i = b + (i + 1) by omega]; exact hn)
  | c0 :: ds, b, hB, i, 0, c, d, _, _, hlt, _ => by omega

/-- What is known of all that came up. -/
def DInv (P : Program) (S : Tbl) (nio : Nat) (all : List Oper) (st0 : St) (done : List DR) : Prop :=
  ∀ (i : Nat) (d : DR), done[i]? = some d → ∃ q, d.v = SD st0 (recs done) 0 (hasB (ancAt all i)) ∧ wantT all d.v d.c.o = some d.c.r.isSome ∧ d.v.m[d.slot]? = some none ∧ ∀ e, d.c.r = some e → (d.v.hide d.h).step P S nio d.slot q d.c.o = some e ∧ e.ob

omit hS in
theorem SD_take {cs ds : List Rec} {st : St} {D : Nat → Bool} (h : ∀ k, cs.length ≤ k → D k = false) : SD st (cs ++ ds) 0 D = SD st cs 0 D := by
  rw [SD_append]
  exact SD_none _ _ _ _ (fun k hk => h k (by omega))

theorem trD_ok (hm : P.follows .mixedOrders = true) {ops : Array Oper} (hB : backB 0 ops.toList = true) {id : Nat} {Q : Exit → Act → World → Prop} {K : St → Prop} (hK : ∀ st β a w, K st → Sim C β st a w → Q .normal a w)
    {pre : List (List Nat × List Nat)} {dm : Nat} {st0 : St} {β : Bel} {a : Act} {w : World} (hs : Sim C β st0 a w) :
    ∀ (os : List Oper) (i slot : Nat) (done : List DR), ops.toList = (done.map (·.c.o)) ++ os → i = done.length → DInv P S C.nio ops.toList st0 done →
      trD P S C.nio O ops.toList (ancs ops.toList []) pre dm st0 os i slot done K → (Code.region id ops true).wp P Q a w
  | [], i, slot, done, hall, hi, hd, h => by
    simp only [trD] at h
    split at h
    · rename_i hp
      have hops : ((recs done).map (·.o)) = ops.toList := by rw [recs_map, hall]; simp
      refine draw_region (cs := recs done) ⟨hops, hB, ?_, ?_⟩ hS hm rfl (fun β a w hs' => hK _ β a w h hs') hs
      · intro j c hc
        rw [recs_get] at hc
        cases hdj : done[j]? with
        | none => rw [hdj] at hc; cases hc
        | some d =>
          rw [hdj] at hc
          simp only [Option.map_some, Option.some.injEq] at hc
          subst hc
          obtain ⟨q, h1, h2, h3, h4⟩ := hd j d hdj
          rw [← h1]
          refine ⟨d.h, d.slot, q, h2, fun e he => ⟨(h4 e he).1, (h4 e he).2, h3⟩, fun k c' hk hne hn1 hn2 => ?_⟩
          rw [recs_get] at hk
          cases hdk : done[k]? with
          | none => rw [hdk] at hk; cases hk
          | some d' =>
            rw [hdk] at hk
            simp only [Option.map_some, Option.some.injEq] at hk
            subst hk
            rcases Nat.lt_or_gt_of_ne hne with hlt | hgt
            · exact (pairsB_ok hp k j d' d hdk hdj hlt (by simpa [ancAt] using hn1)).2.2
            · exact (pairsB_ok hp j k d d' hdj hdk hgt (by simpa [ancAt] using hn2)).2.1
      · intro j k c c' hc hc' hlt hn
        rw [recs_get] at hc hc'
        cases hdj : done[j]? with
        | none => rw [hdj] at hc; cases hc
        | some d =>
          cases hdk : done[k]? with
          | none => rw [hdk] at hc'; cases hc'
          | some d' =>
            rw [hdj] at hc; rw [hdk] at hc'
            simp only [Option.map_some, Option.some.injEq] at hc hc'
            subst hc; subst hc'
            exact (pairsB_ok hp j k d d' hdj hdk hlt (by simpa [ancAt] using hn)).1
    · exact h.elim
  | o :: os, i, slot, done, hall, hi, hd, h => by
    have hoi : ops.toList[i]? = some o := by rw [hall, hi]; simp
    have hlen : (recs done).length = i := by rw [recs_map, hi]; simp
    have hanc : ∀ k, hasB (ancAt ops.toList i) k = true → k < i := anc_lt hB i o hoi
    have hancd : ∀ (j : Nat) (d : DR), done[j]? = some d → ∀ k, hasB (ancAt ops.toList j) k = true → k < i := by
      intro j d hdj k hk
      have hjl : j < done.length := (List.getElem?_eq_some_iff.1 hdj).1
      have hoj : ops.toList[j]? = some d.c.o := by rw [hall]; rw [List.getElem?_append_left (by simpa using hjl)]; simp [hdj]
      have := anc_lt hB j _ hoj k hk
      omega
    have grow : ∀ (d : DR) (q : List T), d.v = SD st0 (recs done) 0 (hasB (ancAt ops.toList i)) → wantT ops.toList d.v d.c.o = some d.c.r.isSome → d.v.m[d.slot]? = some none → (∀ e, d.c.r = some e → (d.v.hide d.h).step P S C.nio d.slot q d.c.o = some e ∧ e.ob) →
        DInv P S C.nio ops.toList st0 (done ++ [d]) := by
      intro d q h1 h2 h3 h4 j d' hj
      by_cases hjl : j < done.length
      · rw [List.getElem?_append_left hjl] at hj
        obtain ⟨q', g1, g2, g3, g4⟩ := hd j d' hj
        refine ⟨q', ?_, g2, g3, g4⟩
        rw [g1, recs_append, SD_take (fun k hk => by
          rw [Bool.eq_false_iff]; intro hb
          have := hancd j d' hj k hb
          omega)]
      · rw [List.getElem?_append_right (by omega)] at hj
        have hj0 : j - done.length = 0 := by
          have := (List.getElem?_eq_some_iff.1 hj).1
          simp at this; omega
        rw [hj0] at hj
        simp at hj
        subst hj
        have hji : j = i := by omega
        subst hji
        refine ⟨q, ?_, h2, h3, h4⟩
        rw [h1, recs_append, SD_take (fun k hk => by
          rw [Bool.eq_false_iff]; intro hb
          have := hanc k hb
          omega)]
    simp only [trD] at h
    have hav : ancAt ops.toList i = (ancs ops.toList []).getD i 0 := rfl
    rw [← hav] at h
    split at h
    · rename_i hw hsl
      split at h
      · rename_i e he
        obtain ⟨h1, h2⟩ := h
        have h3 := plainB_ok h2
        refine trD_ok hm hB hK hs os (i + 1) _ _ ?_ (by simp [hi]) (grow _ (O.el (Oper.key o)) rfl hw hsl (fun e' he' => ?_)) h3
        · rw [hall]; simp
        · simp only [Option.some.injEq] at he'
          subst he'
          exact ⟨he, h1⟩
      · exact h.elim
    · rename_i hw hsl
      refine trD_ok hm hB hK hs os (i + 1) _ _ ?_ (by simp [hi]) (grow _ [] rfl hw hsl (fun e' he' => by cases he')) h
      rw [hall]; simp
    · exact h.elim

theorem region_ok (hm : P.follows .mixedOrders = true) {ops : Array Oper} {draw : Bool} {id : Nat} {Q : Exit → Act → World → Prop} {K : St → Prop} (hK : ∀ st β a w, K st → Sim C β st a w → Q .normal a w)
    {st : St} {β : Bel} {a : Act} {w : World} (hs : Sim C β st a w) (h : region P S C.nio O ops.toList draw st K) : (Code.region id ops draw).wp P Q a w := by
  unfold region at h
  have hs' := hs.more (countMk ops.toList)
  cases draw with
  | false =>
    refine wp_region ?_
    have := trL_ok hS hK ops.toList 0 st.m.length _ β a w (fun j => by simp) hs' h
    simpa [List.range_eq_range'] using this
  | true =>
    simp only at h
    split at h
    · rename_i hB
      exact trD_ok hS hm hB hK hs' ops.toList 0 st.m.length [] (by simp) rfl (fun i d hd => by simp at hd) h
    · exact h.elim
end

end Go.AL

/- A state that knows less. No condition. -/
namespace Go.AL
open Go

mutual
/-- Does it speak of none but these objects? -/
def T.only (g : Nat → Bool) : T → Bool
  | .agg fs => T.onlys g fs
  | .ifc _ x => T.only g x
  | .clo _ caps => T.onlys g caps
  | .tup xs => T.onlys g xs
  | .ref j _ => g j
  | .row j _ _ _ => g j
  | _ => true
def T.onlys (g : Nat → Bool) : List T → Bool
  | [] => true
  | x :: xs => T.only g x && T.onlys g xs
end

/-- Two meanings that agree at these objects. -/
def On (g : Nat → Bool) (X X' : Ext) : Prop := (∀ j p a, g j = true → X.rf j p a → X'.rf j p a) ∧ ∀ j p o r v, g j = true → X.rw j p o r v → X'.rw j p o r v

section
variable {w : World} {N N' : Nat → Prop} {X X' : Ext} {g : Nat → Bool}

mutual
theorem RC.on (hN : ∀ b, ¬ N b → ¬ N' b) (hX : On g X X') : ∀ (x : T) (cs : List Value), x.only g = true → RC w N X x cs → RC w N' X' x cs
  | .agg fs, cs, hg, k => by
    simp only [T.only] at hg
    simp only [RC] at k ⊢
    exact RL.on hN hX fs cs hg k
  | .ifc t x, cs, hg, k => by
    simp only [T.only] at hg
    simp only [RC] at k ⊢
    obtain ⟨y, h1, h2⟩ := k
    refine ⟨y, h1, ?_⟩
    rcases h2 with ⟨h2, ds, h3, h4⟩ | ⟨h2, h4⟩
    · exact .inl ⟨h2, ds, h3, RC.on hN hX x ds hg h4⟩
    · exact .inr ⟨h2, RC.on hN hX x _ hg h4⟩
  | .clo f caps, cs, hg, k => by
    simp only [T.only] at hg
    simp only [RC] at k ⊢
    obtain ⟨vs, h1, h2, h3⟩ := k
    exact ⟨vs, h1, RL.on hN hX caps vs hg h2, h3⟩
  | .ref j p, cs, hg, k => by
    simp only [T.only] at hg
    simp only [RC] at k ⊢
    obtain ⟨a, h1, h2⟩ := k
    exact ⟨a, h1, hX.1 j p a hg h2⟩
  | .row j p o r, cs, hg, k => by
    simp only [T.only] at hg
    simp only [RC] at k ⊢
    obtain ⟨v, h1, h2, h3⟩ := k
    exact ⟨v, h1, h2, hX.2 j p o r v hg h3⟩
  | .i _, cs, _, k | .b _, cs, _, k | .u8 _, cs, _, k | .u32 _, cs, _, k | .u64 _, cs, _, k | .s _, cs, _, k | .v _, cs, _, k | .ba _ _, cs, _, k | .arr _ _ _, cs, _, k | .sb _, cs, _, k
  | .sl _ _, cs, _, k | .pt _, cs, _, k | .junk, cs, _, k => RC.data _ _ rfl (RC.mono (fun b hb _ => ⟨hN b hb, rfl⟩) (Ext.Le.refl _) _ _ k)
  | .tup _, cs, _, k | .ow _, cs, _, k | .os _ _, cs, _, k => by simp [RC] at k
theorem RL.on (hN : ∀ b, ¬ N b → ¬ N' b) (hX : On g X X') : ∀ (xs : List T) (cs : List Value), T.onlys g xs = true → RL w N X xs cs → RL w N' X' xs cs
  | [], cs, _, k => by simpa only [RL] using k
  | x :: xs, cs, hg, k => by
    simp only [T.onlys, Bool.and_eq_true] at hg
    simp only [RL] at k ⊢
    obtain ⟨c1, c2, h1, h2, h3, h4⟩ := k
    exact ⟨c1, c2, h1, h2, RC.on hN hX x c1 hg.1 h3, RL.on hN hX xs c2 hg.2 h4⟩
end

theorem RV.on (hN : ∀ b, ¬ N b → ¬ N' b) (hX : On g X X') {x : T} {v : Value} (hg : x.only g = true) (k : RV w N X x v) : RV w N' X' x v := by
  rcases k with ⟨h1, ds, h2, h3⟩ | ⟨h1, h2⟩
  · exact .inl ⟨h1, ds, h2, RC.on hN hX x ds hg h3⟩
  · exact .inr ⟨h1, RC.on hN hX x _ hg h2⟩

theorem onlys_get : ∀ (xs : List T) (k : Nat) (x : T), T.onlys g xs = true → xs[k]? = some x → x.only g = true
  | [], k, x, _, h => by simp at h
  | y :: xs, 0, x, hg, h => by
    simp at h; subst h
    simp only [T.onlys, Bool.and_eq_true] at hg; exact hg.1
  | y :: xs, k + 1, x, hg, h => by
    simp at h
    simp only [T.onlys, Bool.and_eq_true] at hg; exact onlys_get xs k x hg.2 h

theorem RT.on (hN : ∀ b, ¬ N b → ¬ N' b) (hX : On g X X') {x : T} {v : Value} (hg : x.only g = true) (k : RT w N X x v) : RT w N' X' x v := by
  cases x
  case junk => trivial
  case tup xs =>
    obtain ⟨vs, h1, h2, h3⟩ := k
    simp only [T.only] at hg
    refine ⟨vs, h1, h2, fun j x hx => ?_⟩
    obtain ⟨y, hy, hr⟩ := h3 j x hx
    exact ⟨y, hy, hr.on hN hX (onlys_get xs j x hg hx)⟩
  all_goals exact RV.on hN hX hg k
end

def Cont.only (g : Nat → Bool) : Cont → Bool
  | .var x => x.only g
  | _ => true

theorem CC.on {w : World} {N N' : Nat → Prop} {X X' : Ext} {g : Nat → Bool} (hN : ∀ b, ¬ N b → ¬ N' b) (hX : On g X X') (c : Cont) (cs : List Value) (hg : c.only g = true) (k : CC w N X c cs) : CC w N' X' c cs := by
  cases c with
  | var x => exact RC.on hN hX x cs hg k
  | rb l => exact k
  | rs e xs =>
    obtain ⟨c, r, h1, h2⟩ := k
    exact ⟨c, r, h1, RU.mono (fun b hb _ => ⟨hN b hb, rfl⟩) xs c h2⟩

/-! ## Alike -/

mutual
def teq : T → T → Prop
  | .i a, .i b => a = b
  | .b a, .b b => a = b
  | .u8 a, .u8 b => a = b
  | .u32 a, .u32 b => a = b
  | .u64 a, .u64 b => a = b
  | .s a, .s b => a = b
  | .sb a, .sb b => a = b
  | .ba n a, .ba m b => match Nat.beq n m with | true => a = b | false => False
  | .arr n e a, .arr m f b => match Nat.beq n m && Sk.beq e f with | true => a = b | false => False
  | .sl e a, .sl f b => match Sk.beq e f with | true => a = b | false => False
  | .agg xs, .agg ys => teqs xs ys
  | .tup xs, .tup ys => teqs xs ys
  | .ow a, .ow b => a = b
  | .os e a, .os f b => match Sk.beq e f with | true => a = b | false => False
  | .pt x, .pt y => teq x y
  | .row i [] 0 none, .row j [] 0 none => match Nat.beq i j with | true => True | false => False
  | .ref i [], .ref j [] => match Nat.beq i j with | true => True | false => False
  | .junk, .junk => True
  | x, y => x = y
def teqs : List T → List T → Prop
  | [], [] => True
  | x :: xs, y :: ys => teq x y ∧ teqs xs ys
  | _, _ => False
end

mutual
theorem teq_ok : ∀ (x y : T), teq x y → x = y := by
  intro x y h
  unfold teq at h
  split at h
  · rw [h]
  · rw [h]
  · rw [h]
  · rw [h]
  · rw [h]
  · rw [h]
  · rw [h]
  · split at h
    · rename_i hn; rw [h, Nat.eq_of_beq_eq_true hn]
    · exact h.elim
  · split at h
    · rename_i hn
      simp only [Bool.and_eq_true] at hn
      rw [h, Nat.eq_of_beq_eq_true hn.1, Sk.eq_of_beq _ _ hn.2]
    · exact h.elim
  · split at h
    · rename_i hn; rw [h, Sk.eq_of_beq _ _ hn]
    · exact h.elim
  · rw [teqs_ok _ _ h]
  · rw [teqs_ok _ _ h]
  · rw [h]
  · split at h
    · rename_i hn; rw [h, Sk.eq_of_beq _ _ hn]
    · exact h.elim
  · rw [teq_ok _ _ h]
  · split at h
    · rename_i hn; rw [Nat.eq_of_beq_eq_true hn]
    · exact h.elim
  · split at h
    · rename_i hn; rw [Nat.eq_of_beq_eq_true hn]
    · exact h.elim
  · rfl
  · exact h
theorem teqs_ok : ∀ (x y : List T), teqs x y → x = y := by
  intro x y h
  unfold teqs at h
  split at h
  · rfl
  · rw [teq_ok _ _ h.1, teqs_ok _ _ h.2]
  · exact h.elim
end

end Go.AL

/- A state that knows less holds where one that knows more holds. No condition. -/
namespace Go.AL
open Go

/-! ## A value that stands for less -/

mutual
/-- The first as the second tells it: a nil slice may be told as an empty one. -/
def vle : T → T → Prop
  | .v (.slice none 0 0), .sb l => l = []
  | .v (.slice none 0 0), .sl _ l => l = []
  | .agg xs, .agg ys => vles xs ys
  | x, y => teq x y
def vles : List T → List T → Prop
  | [], [] => True
  | x :: xs, y :: ys => vle x y ∧ vles xs ys
  | _, _ => False
end

section
variable {w : World} {N : Nat → Prop} {X : Ext}
mutual
theorem vle_ok : ∀ (x y : T) (cs : List Value), vle x y → RC w N X x cs → RC w N X y cs ∧ y.isAgg = x.isAgg ∧ y.sk = x.sk := by
  intro x y cs h k
  unfold vle at h
  split at h
  · subst h
    simp only [RC] at k ⊢
    exact ⟨⟨none, 0, k.2, by simp, .inl rfl⟩, rfl, rfl⟩
  · subst h
    simp only [RC] at k ⊢
    exact ⟨⟨none, 0, k.2, by simp, [], by simp only [RU], .inl rfl⟩, rfl, rfl⟩
  · simp only [RC] at k ⊢
    obtain ⟨r1, r2⟩ := vles_ok _ _ cs h k
    exact ⟨r1, rfl, by simp only [T.sk, r2]⟩
  · have := teq_ok _ _ h
    subst this
    exact ⟨k, rfl, rfl⟩
theorem vles_ok : ∀ (xs ys : List T) (cs : List Value), vles xs ys → RL w N X xs cs → RL w N X ys cs ∧ T.sks ys = T.sks xs := by
  intro xs ys cs h k
  unfold vles at h
  split at h
  · exact ⟨k, rfl⟩
  · simp only [RL] at k ⊢
    obtain ⟨c1, c2, h1, h2, h3, h4⟩ := k
    obtain ⟨r1, _, r2⟩ := vle_ok _ _ c1 h.1 h3
    obtain ⟨q1, q2⟩ := vles_ok _ _ c2 h.2 h4
    exact ⟨⟨c1, c2, h1, by rw [r2]; exact h2, r1, q1⟩, by simp only [T.sks, r2, q2]⟩
  · exact h.elim
end

theorem RV.vle {x y : T} {v : Value} (h : vle x y) (k : RV w N X x v) : RV w N X y v := by
  rcases k with ⟨h1, ds, h2, h3⟩ | ⟨h1, h2⟩
  · obtain ⟨r1, r2, _⟩ := vle_ok x y ds h h3
    exact .inl ⟨by rw [r2]; exact h1, ds, h2, r1⟩
  · obtain ⟨r1, r2, _⟩ := vle_ok x y _ h h2
    exact .inr ⟨by rw [r2]; exact h1, r1⟩
end

def ceq : Cont → Cont → Prop
  | .var x, .var y => teq x y
  | .rb a, .rb b => a = b
  | .rs e a, .rs f b => match Sk.beq e f with | true => a = b | false => False
  | _, _ => False

theorem ceq_ok {c d : Cont} (h : ceq c d) : c = d := by
  unfold ceq at h
  split at h
  · rw [teq_ok _ _ h]
  · rw [h]
  · split at h
    · rename_i hn; rw [h, Sk.eq_of_beq _ _ hn]
    · exact h.elim
  · exact h.elim


mutual
theorem vle_sk : ∀ (x y : T), vle x y → y.sk = x.sk := by
  intro x y h
  unfold vle at h
  split at h
  · rfl
  · rfl
  · simp only [T.sk, vles_sk _ _ h]
  · rw [teq_ok _ _ h]
theorem vles_sk : ∀ (xs ys : List T), vles xs ys → T.sks ys = T.sks xs := by
  intro xs ys h
  unfold vles at h
  split at h
  · rfl
  · simp only [T.sks, vle_sk _ _ h.1, vles_sk _ _ h.2]
  · exact h.elim
end

theorem RT.vle {w : World} {N : Nat → Prop} {X : Ext} {x y : T} {v : Value} (h : vle x y) (k : RT w N X x v) : RT w N X y v := by
  cases x
  case junk =>
    have : y = .junk := by cases y <;> simp [AL.vle, teq] at h <;> rfl
    subst this; trivial
  case tup xs =>
    have : y = .tup xs := by
      unfold AL.vle at h
      exact (teq_ok _ _ h).symm
    subst this; exact k
  all_goals
    have hrv : RV w N X _ v := k
    exact RT.of_RV (hrv.vle h)

def cle : Cont → Cont → Prop
  | .var x, .var y => vle x y
  | c, d => ceq c d

def cles : List Cont → List Cont → Prop
  | [], [] => True
  | c :: cs, d :: ds => cle c d ∧ cles cs ds
  | _, _ => False

theorem cle_like {c d : Cont} (h : cle c d) : (∀ p, d.off p = c.off p) ∧ ∀ p, d.len p = c.len p := by
  unfold cle at h
  split at h
  · have r3 := vle_sk _ _ h
    exact ⟨fun p => by simp only [Cont.off, r3], fun p => by simp only [Cont.len, r3]⟩
  · have := ceq_ok h
    subst this
    exact ⟨fun _ => rfl, fun _ => rfl⟩

theorem cle_ok {w : World} {N : Nat → Prop} {X : Ext} {c d : Cont} {cs : List Value} (h : cle c d) (k : CC w N X c cs) : CC w N X d cs ∧ (∀ p, d.off p = c.off p) ∧ ∀ p, d.len p = c.len p := by
  refine ⟨?_, cle_like h⟩
  unfold cle at h
  split at h
  · exact (vle_ok _ _ cs h k).1
  · have := ceq_ok h
    subst this
    exact k

theorem RowAt.likes {c d : Cont} {β : Option (Nat × Nat)} {p : List Nat} {off : Nat} {rest : Option Nat} {v : Value} (h1 : ∀ p, d.off p = c.off p) (h2 : ∀ p, d.len p = c.len p) (k : RowAt c β p off rest v) : RowAt d β p off rest v := by
  unfold RowAt at k ⊢
  simp only [h1, h2]
  exact k

theorem cles_get : ∀ {cs ds : List Cont}, cles cs ds → ds.length = cs.length ∧ ∀ (k : Nat) (d : Cont), ds[k]? = some d → ∃ c, cs[k]? = some c ∧ cle c d
  | [], [], _ => ⟨rfl, fun k d h => by simp at h⟩
  | c :: cs, d :: ds, h => by
    obtain ⟨r1, r2⟩ := cles_get h.2
    refine ⟨by simp [r1], fun k z hk => ?_⟩
    cases k with
    | zero => simp at hk; subst hk; exact ⟨c, rfl, h.1⟩
    | succ k => simp at hk; simpa using r2 k z hk
  | [], _ :: _, h => by simp [cles] at h
  | _ :: _, [], h => by simp [cles] at h

/-- The second knows no more: temporaries. -/
def leT : List T → List T → Prop
  | [], [] => True
  | x :: xs, y :: ys => match y with
    | .junk => leT xs ys
    | y => vle x y ∧ leT xs ys
  | _, _ => False

def fzOk (nio k : Nat) : Bool → Bool → Bool
  | true, false => false
  | false, true => Nat.ble nio k
  | _, _ => true

/-- The second knows no more: objects. -/
def leM (nio : Nat) : Nat → List (Option Obj) → List (Option Obj) → Prop
  | k, _, [] => match Nat.ble nio k with
    | true => True
    | false => False
  | k, [], y :: ys => match y with
    | none => match Nat.ble nio k with
      | true => leM nio (k + 1) [] ys
      | false => False
    | some _ => False
  | k, x :: xs, y :: ys => match y with
    | none => match Nat.ble nio k with
      | true => leM nio (k + 1) xs ys
      | false => False
    | some p => match x with
      | some o => match fzOk nio k o.fz p.fz with
        | true => cle o.c p.c ∧ leM nio (k + 1) xs ys
        | false => False
      | none => False

def isIn (m : List (Option Obj)) (id : Nat) : Bool := match m[id]? with
  | some (some _) => true
  | _ => false
def onlyM (g : Nat → Bool) : List (Option Obj) → Bool
  | [] => true
  | none :: m => onlyM g m
  | some o :: m => o.c.only g && onlyM g m

def St.le (nio : Nat) (s v : St) : Prop := match T.onlys (isIn v.m) v.t && onlyM (isIn v.m) v.m with
  | true => leT s.t v.t ∧ leM nio 0 s.m v.m
  | false => False

theorem leT_ok : ∀ (xs ys : List T), leT xs ys → xs.length = ys.length ∧ ∀ (k : Nat) (y : T), ys[k]? = some y → y = .junk ∨ ∃ x, xs[k]? = some x ∧ vle x y
  | [], [], _ => ⟨rfl, fun k y h => by simp at h⟩
  | x :: xs, y :: ys, h => by
    have key : leT xs ys ∧ (y = .junk ∨ vle x y) := by
      simp only [leT] at h
      split at h
      · exact ⟨h, .inl rfl⟩
      · exact ⟨h.2, .inr h.1⟩
    obtain ⟨r1, r2⟩ := leT_ok xs ys key.1
    refine ⟨by simp [r1], fun k z hk => ?_⟩
    cases k with
    | zero =>
      simp at hk; subst hk
      rcases key.2 with hq | hq
      · exact .inl hq
      · exact .inr ⟨x, rfl, hq⟩
    | succ k => simp at hk; simpa using r2 k z hk
  | [], _ :: _, h => by simp [leT] at h
  | _ :: _, [], h => by simp [leT] at h

theorem leM_ok (nio : Nat) : ∀ (b : Nat) (xs ys : List (Option Obj)), leM nio b xs ys → ∀ (k : Nat) (p : Obj), ys[k]? = some (some p) → ∃ o : Obj, xs[k]? = some (some o) ∧ cle o.c p.c ∧ fzOk nio (b + k) o.fz p.fz = true
  | _, _, [], _, k, p, h => by simp at h
  | b, [], y :: ys, hl, k, p, h => by
    simp only [leM] at hl
    split at hl
    · split at hl
      · cases k with
        | zero => simp at h
        | succ k =>
          simp at h
          obtain ⟨o, h1, _⟩ := leM_ok nio (b + 1) [] ys hl k p h
          simp at h1
      · exact hl.elim
    · exact hl.elim
  | b, x :: xs, y :: ys, hl, k, p, h => by
    simp only [leM] at hl
    split at hl
    · split at hl
      · cases k with
        | zero => simp at h
        | succ k =>
          simp at h
          obtain ⟨o, h1, h2, h3⟩ := leM_ok nio (b + 1) xs ys hl k p h
          exact ⟨o, by simpa using h1, h2, by rw [← h3]; congr 1; omega⟩
      · exact hl.elim
    · split at hl
      · split at hl
        · rename_i hf
          cases k with
          | zero =>
            simp at h; subst h
            exact ⟨_, rfl, hl.1, hf⟩
          | succ k =>
            simp at h
            obtain ⟨o, h1, h2, h3⟩ := leM_ok nio (b + 1) xs ys hl.2 k p h
            exact ⟨o, by simpa using h1, h2, by rw [← h3]; congr 1; omega⟩
        · exact hl.elim
      · exact hl.elim

/-- What was handed in to be written is still there. -/
theorem leM_io (nio : Nat) : ∀ (b : Nat) (xs ys : List (Option Obj)), leM nio b xs ys → ∀ k, b + k < nio → ∃ p : Obj, ys[k]? = some (some p)
  | b, xs, [], hl, k, hk => by
    simp only [leM] at hl
    split at hl
    · rename_i hb; have := Nat.le_of_ble_eq_true hb; omega
    · exact hl.elim
  | b, [], y :: ys, hl, k, hk => by
    simp only [leM] at hl
    split at hl
    · split at hl
      · rename_i hb; have := Nat.le_of_ble_eq_true hb; omega
      · exact hl.elim
    · exact hl.elim
  | b, x :: xs, y :: ys, hl, k, hk => by
    simp only [leM] at hl
    split at hl
    · split at hl
      · rename_i hb; have := Nat.le_of_ble_eq_true hb; omega
      · exact hl.elim
    · split at hl
      · split at hl
        · cases k with
          | zero => exact ⟨_, rfl⟩
          | succ k =>
            obtain ⟨p, hp⟩ := leM_io nio (b + 1) xs ys hl.2 k (by omega)
            exact ⟨p, by simpa using hp⟩
        · exact hl.elim
      · exact hl.elim

theorem onlyM_ok {g : Nat → Bool} : ∀ (m : List (Option Obj)) (k : Nat) (o : Obj), onlyM g m = true → m[k]? = some (some o) → o.c.only g = true
  | [], k, o, _, h => by simp at h
  | none :: m, 0, o, _, h => by simp at h
  | none :: m, k + 1, o, hg, h => by simp at h; exact onlyM_ok m k o hg h
  | some p :: m, 0, o, hg, h => by
    simp at h; subst h
    simp only [onlyM, Bool.and_eq_true] at hg; exact hg.1
  | some p :: m, k + 1, o, hg, h => by
    simp at h
    simp only [onlyM, Bool.and_eq_true] at hg; exact onlyM_ok m k o hg.2 h

theorem fzOk_back {nio k : Nat} {a b : Bool} (h : fzOk nio k a b = true) (hb : b = false) : a = false := by
  subst hb; cases a <;> simp [fzOk] at h ⊢

theorem fzOk_new {nio k : Nat} {a b : Bool} (h : fzOk nio k a b = true) (hb : b = true) : a = true ∨ nio ≤ k := by
  subst hb
  cases a with
  | true => exact .inl rfl
  | false => exact .inr (Nat.le_of_ble_eq_true h)

theorem Sim.less {C : Ctx} {β : Bel} {s v : St} {a : Act} {w : World} (h : Sim C β s a w) (hl : s.le C.nio v) : Sim C β v a w := by
  unfold St.le at hl
  split at hl
  · rename_i ho
    simp only [Bool.and_eq_true] at ho
    obtain ⟨ho1, ho2⟩ := ho
    obtain ⟨l1, l2⟩ := leT_ok _ _ hl.1
    have hm := leM_ok C.nio 0 _ _ hl.2
    have hN : ∀ b, ¬ Mut C.N0 s.m β b → ¬ Mut C.N0 v.m β b := by
      intro b hb
      rintro (hq | ⟨id, p, k, e1, e2, e3⟩)
      · exact hb (.inl hq)
      · obtain ⟨o, q1, q2, q3⟩ := hm id p e1
        exact hb (.inr ⟨id, o, k, q1, fzOk_back q3 e2, e3⟩)
    have hX : On (isIn v.m) (ext s.m β) (ext v.m β) := by
      refine ⟨?_, ?_⟩
      · rintro j p ad hj ⟨o, b, k, e1, e2, e3⟩
        unfold isIn at hj
        split at hj
        · rename_i o' ho'
          obtain ⟨o2, q1, q2, _⟩ := hm j o' ho'
          rw [e1] at q1; simp only [Option.some.injEq] at q1; subst q1
          exact ⟨o', b, k, ho', e2, by rw [(cle_like q2).1]; exact e3⟩
        · cases hj
      · rintro j p off r u hj ⟨o, e1, e2⟩
        unfold isIn at hj
        split at hj
        · rename_i o' ho'
          obtain ⟨o2, q1, q2, _⟩ := hm j o' ho'
          rw [e1] at q1; simp only [Option.some.injEq] at q1; subst q1
          exact ⟨o', ho', e2.likes (cle_like q2).1 (cle_like q2).2⟩
        · cases hj
    refine { sz := h.sz.trans l1, df := h.df, tm := ?_, me := ?_, inj := ?_, loc := ?_, ios := ?_, fzl := ?_, fn := h.fn, nl := h.nl, kp := h.kp, iob := h.iob }
    · intro k x hx
      rcases l2 k x hx with rfl | ⟨x', hx', hv⟩
      · trivial
      · exact RT.on hN hX (onlys_get _ k x ho1 hx) ((h.tm k x' hx').vle hv)
    · intro id p hp
      obtain ⟨o, q1, q2, q3⟩ := hm id p hp
      have := h.me id o q1
      revert this
      split
      · rintro ⟨cs, e, fz, g1, g2, g3, g4⟩
        exact ⟨cs, e, fz, g1, g2, fun hf => g3 (fzOk_back q3 hf), CC.on hN hX _ _ (onlyM_ok _ id p ho2 hp) (cle_ok q2 g4).1⟩
      · rintro (g | ⟨e, g⟩)
        · rw [g] at q2
          left
          exact (ceq_ok (d := p.c) (by unfold cle at q2; split at q2; (· rename_i e _; cases e); exact q2)).symm
        · rw [g] at q2
          right
          exact ⟨e, (ceq_ok (d := p.c) (by unfold cle at q2; split at q2; (· rename_i e _; cases e); exact q2)).symm⟩
    · intro id id' p p' b k k' e1 e2
      obtain ⟨o, q1, _⟩ := hm id p e1
      obtain ⟨o', q1', _⟩ := hm id' p' e2
      exact h.inj id id' o o' b k k' q1 q1'
    · intro id p b k e1
      obtain ⟨o, q1, _⟩ := hm id p e1
      exact h.loc id o b k q1
    · intro id hlt
      obtain ⟨p, hp⟩ := leM_io C.nio 0 _ _ hl.2 id (by omega)
      obtain ⟨o, q1, q2, q3⟩ := hm id p hp
      obtain ⟨x, hx⟩ := h.ios id hlt
      rw [hx] at q1; simp only [Option.some.injEq] at q1; subst q1
      obtain ⟨c, fz⟩ := p
      simp only at q2 q3
      cases fz with
      | false => exact ⟨_, hp⟩
      | true =>
        rcases fzOk_new q3 rfl with hq | hq
        · cases hq
        · omega
    · intro id p b k e1 e2 e3
      obtain ⟨o, q1, _, q3⟩ := hm id p e1
      rcases fzOk_new q3 e2 with hq | hq
      · exact h.fzl id o b k q1 hq e3
      · rcases h.loc id o b k q1 e3 with hr | hr
        · exact hr.2
        · have := hr.1; omega
  · exact hl.elim

end Go.AL

/- A nil slice as an object that holds nothing. No condition. -/
namespace Go.AL
open Go

inductive Gh where
  | tmp (k : Nat) (c : Cont)
  | fld (id : Nat) (p : List Nat) (c : Cont)

def emptyC : Cont → Bool
  | .rb [] => true
  | .rs _ [] => true
  | _ => false

def isNilT : T → Bool
  | .v (.slice none 0 0) => true
  | _ => false

def St.ghost (st : St) : Gh → Option (St × Prop)
  | .tmp k c => match st.t[k]? with
    | some x => if isNilT x && emptyC c then some ((St.mk (st.t.set k (T.row st.m.length [] 0 none)) (st.m ++ [some ⟨c, false⟩])), True) else none
    | none => none
  | .fld id p c => match st.m[id]? with
    | some (some o) => if o.fz || !emptyC c then none else match o.c.nav p [] with
      | some n => if isNilT n.y && !n.ar then match n.f (.row st.m.length [] 0 none) with
        | some c' => some ((St.mk st.t (List.set (st.m ++ [some (Obj.mk c false)]) id (some (Obj.mk c' false)))), n.ob)
        | none => none
        else none
      | none => none
    | _ => none

def St.ghosts (st : St) : List Gh → Option (St × Prop)
  | [] => some (st, True)
  | g :: gs => match st.ghost g with
    | some (st', o1) => match st'.ghosts gs with
      | some (st2, o2) => some (st2, o1 ∧ o2)
      | none => none
    | none => none

theorem isNilT_eq {x : T} (h : isNilT x = true) : x = .v (.slice none 0 0) := by
  unfold isNilT at h
  split at h
  · rfl
  · cases h

theorem emptyC_eq {c : Cont} (h : emptyC c = true) : (c = .rb [] ∨ ∃ e, c = .rs e []) ∧ ∃ sz, c.len [] = some (0, sz) := by
  unfold emptyC at h
  split at h
  · exact ⟨.inl rfl, 1, rfl⟩
  · exact ⟨.inr ⟨_, rfl⟩, _, rfl⟩
  · cases h

/-- An object that holds nothing, and lies nowhere. -/
theorem sim_none {C : Ctx} {β : Bel} {st : St} {a : Act} {w : World} (h : Sim C β st a w) {c : Cont} (hc : emptyC c = true) :
    ∃ β', Sim C β' ⟨st.t, st.m ++ [some ⟨c, false⟩]⟩ a w ∧ (∀ id, id < st.m.length → β' id = β id) ∧
      ∀ N, RC w N (ext (st.m ++ [some ⟨c, false⟩]) β') (.row st.m.length [] 0 none) [.slice none 0 0] := by
  have h1 := h.more 1
  have hn : (addNone 1 st.m)[st.m.length]? = some none := by simp [addNone]
  have h2 := h1.fill (Keeps.refl _ w) (id := st.m.length) hn ⟨c, false⟩ none (fun b k e => by cases e) (fun _ => (emptyC_eq hc).1)
  have he : (St.fill ⟨st.t, addNone 1 st.m⟩ st.m.length ⟨c, false⟩) = ⟨st.t, st.m ++ [some ⟨c, false⟩]⟩ := by
    simp [St.fill, addNone]
  rw [he] at h2
  refine ⟨_, h2, fun id hid => ?_, fun N => ?_⟩
  · simp only [Bel.with]
    rw [if_neg (by omega)]
  · simp only [RC]
    obtain ⟨_, sz, hsz⟩ := emptyC_eq hc
    refine ⟨_, rfl, rfl, ⟨c, false⟩, by simp, 0, sz, hsz, by simp, ?_⟩
    simp [Bel.with]

theorem Sim.ghost {C : Ctx} {β : Bel} {st st' : St} {a : Act} {w : World} (h : Sim C β st a w) {g : Gh} {ob : Prop} (hg : st.ghost g = some (st', ob)) (hob : ob) : ∃ β', Sim C β' st' a w := by
  cases g with
  | tmp k c =>
    simp only [St.ghost] at hg
    split at hg
    · rename_i x hx
      split at hg
      · rename_i hc
        simp only [Bool.and_eq_true] at hc
        simp only [Option.some.injEq, Prod.mk.injEq] at hg
        obtain ⟨rfl, rfl⟩ := hg
        obtain ⟨β', h1, _, h2⟩ := sim_none h hc.2
        have hv := (h.tm k x hx).val (r := .slice none 0 0) (by rw [isNilT_eq hc.1]; rfl)
        refine ⟨β', { h1 with sz := ?_, tm := ?_ }⟩
        · simpa using h1.sz
        · intro j y hy
          rw [List.getElem?_set] at hy
          by_cases hj : k = j
          · subst hj
            have hlt := (List.getElem?_eq_some_iff.1 hx).1
            simp only [if_true, hlt, Option.some.injEq] at hy
            subst hy
            rw [hv]
            exact RT.leaf (h2 _) rfl
          · rw [if_neg hj] at hy
            exact h1.tm j y hy
      · cases hg
    · cases hg
  | fld id p c =>
    simp only [St.ghost] at hg
    split at hg
    · rename_i o ho
      split at hg
      · cases hg
      · rename_i hc
        simp only [Bool.or_eq_true, Bool.not_eq_true', not_or, Bool.not_eq_true, Bool.not_eq_false] at hc
        split at hg
        · rename_i n hn
          split at hg
          · rename_i hnil
            simp only [Bool.and_eq_true, Bool.not_eq_true'] at hnil
            split at hg
            · rename_i c' hf
              simp only [Option.some.injEq, Prod.mk.injEq] at hg
              obtain ⟨rfl, rfl⟩ := hg
              obtain ⟨β', h1, hβ, h2⟩ := sim_none h hc.2
              have hlt := (List.getElem?_eq_some_iff.1 ho).1
              have ho1 : (st.m ++ [some ⟨c, false⟩])[id]? = some (some o) := by rw [List.getElem?_append_left hlt]; exact ho
              have hme := h1.me id o ho1
              have hy := isNilT_eq hnil.1
              cases hb : β' id with
              | none =>
                rw [hb] at hme
                exfalso
                rcases hme with hq | ⟨e, hq⟩
                · rw [hq] at hn
                  cases p with
                  | nil => simp [Cont.nav] at hn
                  | cons k p =>
                    cases p with
                    | nil =>
                      simp only [Cont.nav, Option.some.injEq] at hn
                      rw [← hn] at hy
                      cases hy
                    | cons k' p => simp [Cont.nav] at hn
                · rw [hq] at hn
                  cases p with
                  | nil => simp [Cont.nav] at hn
                  | cons k p =>
                    simp only [Cont.nav] at hn
                    split at hn
                    · simp only [Option.some.injEq] at hn
                      rw [← hn] at hnil
                      simp at hnil
                    · cases hn
              | some bk =>
                obtain ⟨b, k⟩ := bk
                rw [hb] at hme
                obtain ⟨cs, e, fz, p1, p2, p3, p4⟩ := hme
                rw [p3 hc.1] at p1
                obtain ⟨pre, d, post, g1, g2, g3, g4⟩ := Cont.nav_ok o.c p [] n cs.toList hn p4 hob
                rw [hy] at g3
                have hd : d = [.slice none 0 0] := by
                  simp only [RC] at g3; exact g3.2
                obtain ⟨g5, g6⟩ := g4 (.row st.m.length [] 0 none) d c' (by rw [hy]; rfl) (by rw [hnil.2]; simp) (by rw [hd]; exact h2 _) hf
                rw [← g1] at g5
                exact ⟨β', h1.write ho1 hc.1 hb c' g6 cs e (Keeps.refl _ w) p1 p2 g5⟩
            · cases hg
          · cases hg
        · cases hg
    · cases hg

theorem Sim.ghosts {C : Ctx} {a : Act} {w : World} : ∀ (gs : List Gh) {β : Bel} {st st' : St} {ob : Prop}, Sim C β st a w → st.ghosts gs = some (st', ob) → ob → ∃ β', Sim C β' st' a w
  | [], β, st, st', ob, h, hg, _ => by
    simp only [St.ghosts, Option.some.injEq, Prod.mk.injEq] at hg
    obtain ⟨rfl, rfl⟩ := hg
    exact ⟨β, h⟩
  | g :: gs, β, st, st', ob, h, hg, hob => by
    simp only [St.ghosts] at hg
    split at hg
    · rename_i s1 o1 h1
      split at hg
      · rename_i s2 o2 h2
        simp only [Option.some.injEq, Prod.mk.injEq] at hg
        obtain ⟨rfl, rfl⟩ := hg
        obtain ⟨β1, h3⟩ := h.ghost h1 hob.1
        exact Sim.ghosts gs h3 h2 hob.2
      · cases hg
    · cases hg

end Go.AL

/- Code in the abstract machine. No condition. -/
namespace Go.AL
open Go

def lookT : List (Nat × T) → Nat → Option T
  | [], _ => none
  | (k, x) :: r, n => match Nat.beq k n with
    | true => some x
    | false => lookT r n
def lookM : List (Nat × Cont × Bool) → Nat → Option (Cont × Bool)
  | [], _ => none
  | (k, x) :: r, n => match Nat.beq k n with
    | true => some x
    | false => lookM r n

def keepT (ts : List (Nat × T)) (keep : List Nat) : Nat → List T → List T
  | _, [] => []
  | k, x :: xs => (match lookT ts k with
    | some y => y
    | none => match memB k keep with
      | true => x
      | false => .junk) :: keepT ts keep (k + 1) xs
def keepM (os : List (Nat × Cont × Bool)) (keep : List Nat) : Nat → List (Option Obj) → List (Option Obj)
  | _, [] => []
  | k, x :: xs => (match lookM os k with
    | some (c, fz) => some ⟨c, fz⟩
    | none => match memB k keep with
      | true => x
      | false => none) :: keepM os keep (k + 1) xs

/-- The state at a loop's head: some temporaries and objects as told, some as they were, no more. -/
def St.head (st : St) (ts : List (Nat × T)) (keep : List Nat) (os : List (Nat × Cont × Bool)) (keepO : List Nat) : St := ⟨keepT ts keep 0 st.t, keepM os keepO 0 st.m⟩

/-- Where ways meet: temporaries as told, those kept, objects as told, those kept. -/
inductive Jn : Type 1 where
  | one (ts : List (Nat × T)) (keep : List Nat) (os : List (Nat × Cont × Bool)) (keepO : List Nat)
  | many (ι : Type) (pre : ι → Prop) (ts : ι → List (Nat × T)) (keep : List Nat) (os : ι → List (Nat × Cont × Bool)) (keepO : List Nat)

/-- How a loop is to be met: by so many rounds; or by an invariant over an index: the start, what holds of it, what sinks, what is made of nil, temporaries, those kept, objects, those kept, the elements that a round reads, the loops inside, where ways meet inside. -/
inductive Loop : Type 1 where
  | unroll (n : Nat)
  | invj (ι : Type) (i0 : ι) (pre : ι → Prop) (μ : ι → Nat) (gh : List Gh) (ts : ι → List (Nat × T)) (keep : List Nat) (os : ι → List (Nat × Cont × Bool)) (keepO : List Nat) (el : ι → Nat → List T) (lp : ι → Nat → Loop) (jn : ι → Nat → Option Jn)

abbrev Loop.inv (ι : Type) (i0 : ι) (pre : ι → Prop) (μ : ι → Nat) (gh : List Gh) (ts : ι → List (Nat × T)) (keep : List Nat) (os : ι → List (Nat × Cont × Bool)) (keepO : List Nat) (el : ι → Nat → List T) (lp : ι → Nat → Loop) : Loop :=
  .invj ι i0 pre μ gh ts keep os keepO el lp (fun _ _ => none)

structure Orc2 extends Orc where
  lp : Nat → Loop
  jn : Nat → Option Jn

abbrev orc (el : Nat → List T) (lp : Nat → Loop) : Orc2 := ⟨⟨el⟩, lp, fun _ => none⟩
abbrev orj (el : Nat → List T) (lp : Nat → Loop) (jn : Nat → Option Jn) : Orc2 := ⟨⟨el⟩, lp, jn⟩
/-- Where ways meet: no parameter. -/
abbrev jn1 (ts : List (Nat × T)) (keep : List Nat) (os : List (Nat × Cont × Bool)) (keepO : List Nat) : Option Jn := some (.one ts keep os keepO)

/-- The number of a piece's first region. -/
def firstR : Code → Option Nat
  | .region id _ _ => some id
  | .seq x y => match firstR x with
    | some r => some r
    | none => firstR y
  | .block _ c => firstR c
  | .loop c => firstR c
  | _ => none

def Orc2.join (O : Orc2) (y : Code) : Option Jn := match firstR y with
  | some r => O.jn r
  | none => none

def loops : Code → Nat
  | .seq x y => loops x + loops y
  | .cond _ x y => loops x + loops y
  | .block _ c => loops c
  | .loop c => loops c + 1
  | _ => 0

def iter (f : St → (AX → St → Prop) → Prop) : Nat → St → (AX → St → Prop) → Prop
  | 0, _, _ => False
  | n + 1, st, K => f st fun ex st' => match ex with
    | .normal => iter f n st' K
    | ex => K ex st'

/-- What must hold for a piece of code to do no wrong, and to end in K. 'pos': how many loops stand ahead of it. -/
def tr (P : Program) (S : Tbl) (nio : Nat) : Code → Orc2 → Nat → St → (AX → St → Prop) → Prop
  | .skip, _, _, st, K => K .normal st
  | .ret, _, _, st, K => K .ret st
  | .exit id, _, _, st, K => K (.exit id) st
  | .region _ ops draw, O, _, st, K => region P S nio O.toOrc ops.toList draw st fun st' => K .normal st'
  | .seq x y, O, pos, st, K => match O.join y with
    | none => tr P S nio x O pos st fun ex st' => match ex with
      | .normal => tr P S nio y O (pos + loops x) st' K
      | ex => K ex st'
    | some (.one ts keep os keepO) => (tr P S nio x O pos st fun ex st' => match ex with
      | .normal => st'.le nio (st.head ts keep os keepO)
      | ex => K ex st') ∧ tr P S nio y O (pos + loops x) (st.head ts keep os keepO) K
    | some (.many _ pre ts keep os keepO) => (tr P S nio x O pos st fun ex st' => match ex with
      | .normal => ∃ i, pre i ∧ st'.le nio (st.head (ts i) keep (os i) keepO)
      | ex => K ex st') ∧ ∀ i, pre i → tr P S nio y O (pos + loops x) (st.head (ts i) keep (os i) keepO) K
  | .cond c x y, O, pos, st, K => match st.ev c with
    | some (.b cc) => match cc with
      | true => tr P S nio x O pos st K
      | false => tr P S nio y O (pos + loops x) st K
    | _ => False
  | .block id c, O, pos, st, K => tr P S nio c O pos st fun ex st' => match ex with
    | .exit i => match Nat.beq i id with
      | true => K .normal st'
      | false => K (.exit i) st'
    | ex => K ex st'
  | .loop c, O, pos, st, K => match O.lp pos with
    | .unroll n => iter (fun st K => tr P S nio c O (pos + 1) st K) n st K
    | .invj _ i0 pre μ gh ts keep os keepO el lp jn => match st.ghosts gh with
      | some (s1, ob) => ob ∧ pre i0 ∧ s1.le nio (s1.head (ts i0) keep (os i0) keepO) ∧ ∀ i, pre i → tr P S nio c ⟨⟨el i⟩, lp i, jn i⟩ (pos + 1) (s1.head (ts i) keep (os i) keepO) fun ex st' => match ex with
        | .normal => ∃ j, pre j ∧ μ j < μ i ∧ st'.le nio (s1.head (ts j) keep (os j) keepO)
        | ex => K ex st'
      | none => False
  | _, _, _, _, _ => False

def AX.to : AX → Exit
  | .normal => .normal
  | .ret => .ret
  | .exit id => .exit id

/-- The end that the state answers. -/
def Ends (C : Ctx) (K : AX → St → Prop) (Q : Exit → Act → World → Prop) : Prop := ∀ ex st β a w, K ex st → Sim C β st a w → Q ex.to a w

theorem tr_ok {P : Program} (hm : P.follows .mixedOrders = true) {S : Tbl} (hS : TblOk P S) {C : Ctx} : ∀ (c : Code) (O : Orc2) (pos : Nat) (K : AX → St → Prop) (Q : Exit → Act → World → Prop) (st : St) (β : Bel) (a : Act) (w : World),
    Ends C K Q → Sim C β st a w → tr P S C.nio c O pos st K → c.wp P Q a w := by
  intro c
  induction c with
  | skip => intro O pos K Q st β a w hQ hs h; simp only [tr] at h; exact wp_skip (hQ .normal st β a w h hs)
  | ret => intro O pos K Q st β a w hQ hs h; simp only [tr] at h; exact wp_ret (hQ .ret st β a w h hs)
  | exit id => intro O pos K Q st β a w hQ hs h; simp only [tr] at h; exact wp_exit (hQ (.exit id) st β a w h hs)
  | region id ops draw =>
    intro O pos K Q st β a w hQ hs h
    simp only [tr] at h
    exact region_ok hS hm (fun st β a w hk hs => hQ .normal st β a w hk hs) hs h
  | seq x y ihx ihy =>
    intro O pos K Q st β a w hQ hs h
    simp only [tr] at h
    split at h
    · refine wp_seq (ihx O pos _ _ st β a w ?_ hs h)
      intro ex st' β' a' w' hk hs'
      cases ex with
      | normal => exact ihy O _ K Q st' β' a' w' hQ hs' hk
      | ret => exact hQ .ret st' β' a' w' hk hs'
      | exit id => exact hQ (.exit id) st' β' a' w' hk hs'
    · obtain ⟨h1, h2⟩ := h
      refine wp_seq (ihx O pos _ _ st β a w ?_ hs h1)
      intro ex st' β' a' w' hk hs'
      cases ex with
      | normal => exact ihy O _ K Q _ β' a' w' hQ (hs'.less hk) h2
      | ret => exact hQ .ret st' β' a' w' hk hs'
      | exit id => exact hQ (.exit id) st' β' a' w' hk hs'
    · obtain ⟨h1, h2⟩ := h
      refine wp_seq (ihx O pos _ _ st β a w ?_ hs h1)
      intro ex st' β' a' w' hk hs'
      cases ex with
      | normal =>
        obtain ⟨i, g1, g2⟩ := hk
        exact ihy O _ K Q _ β' a' w' hQ (hs'.less g2) (h2 i g1)
      | ret => exact hQ .ret st' β' a' w' hk hs'
      | exit id => exact hQ (.exit id) st' β' a' w' hk hs'
  | cond c x y ihx ihy =>
    intro O pos K Q st β a w hQ hs h
    simp only [tr] at h
    split at h
    · rename_i cc hc
      have hv := (hs.ev hc).val rfl
      split at h
      · exact wp_cond_true hv (ihx O pos K Q st β a w hQ hs h)
      · exact wp_cond_false hv (ihy O _ K Q st β a w hQ hs h)
    · exact h.elim
  | block id c ih =>
    intro O pos K Q st β a w hQ hs h
    simp only [tr] at h
    refine wp_block (ih O pos _ _ st β a w ?_ hs h)
    intro ex st' β' a' w' hk hs'
    cases ex with
    | normal => exact hQ .normal st' β' a' w' hk hs'
    | ret => exact hQ .ret st' β' a' w' hk hs'
    | exit i =>
      simp only [AX.to, Exit.inBlock]
      simp only at hk
      split at hk
      · rename_i hb
        rw [if_pos (Nat.eq_of_beq_eq_true hb)]
        exact hQ .normal st' β' a' w' hk hs'
      · rename_i hb
        rw [if_neg (by intro he; rw [he, Nat.beq_refl] at hb; cases hb)]
        exact hQ (.exit i) st' β' a' w' hk hs'
  | loop c ih =>
    intro O pos K Q st β a w hQ hs h
    simp only [tr] at h
    split at h
    · rename_i n _
      have key : ∀ (n : Nat) (st : St) (β : Bel) (a : Act) (w : World), Sim C β st a w → iter (fun st K => tr P S C.nio c O (pos + 1) st K) n st K → Code.rounds P c Q n a w := by
        intro n
        induction n with
        | zero => intro st β a w _ h; exact h.elim
        | succ n ihn =>
          intro st β a w hs h
          rw [rounds_succ]
          simp only [iter] at h
          refine ih O _ _ _ st β a w ?_ hs h
          intro ex st' β' a' w' hk hs'
          cases ex with
          | normal => exact ihn st' β' a' w' hs' hk
          | ret => exact hQ .ret st' β' a' w' hk hs'
          | exit i => exact hQ (.exit i) st' β' a' w' hk hs'
      exact wp_loop_rounds n (key n st β a w hs h)
    · rename_i ι i0 pre μ gh ts keep os keepO el lp jn _
      split at h
      · rename_i s1 ob hgh
        obtain ⟨h0, h1, h2, h3⟩ := h
        obtain ⟨β1, hs1⟩ := Sim.ghosts gh hs hgh h0
        refine wp_loop_ghost (fun n a w => ∃ i β, μ i = n ∧ pre i ∧ Sim C β (s1.head (ts i) keep (os i) keepO) a w) (μ i0) ⟨i0, β1, rfl, h1, hs1.less h2⟩ ?_
        rintro n a w ⟨i, β, rfl, hp, hs⟩
        refine ih _ _ _ _ _ β a w ?_ hs (h3 i hp)
        intro ex st' β' a' w' hk hs'
        cases ex with
        | normal =>
          obtain ⟨j, g1, g2, g3⟩ := hk
          exact ⟨μ j, g2, j, β', rfl, g1, hs'.less g3⟩
        | ret => exact hQ .ret st' β' a' w' hk hs'
        | exit id => exact hQ (.exit id) st' β' a' w' hk hs'
      · exact h.elim
  | rangeFunc => intro O pos K Q st β a w hQ hs h; simp only [tr] at h
  | scope => intro O pos K Q st β a w hQ hs h; simp only [tr] at h
  | label => intro O pos K Q st β a w hQ hs h; simp only [tr] at h
  | goto => intro O pos K Q st β a w hQ hs h; simp only [tr] at h
  | refuse => intro O pos K Q st β a w hQ hs h; simp only [tr] at h

end Go.AL

/- A function's contract out of its code. No condition. -/
namespace Go.AL
open Go

/-- A contract with arguments that are told so. -/
theorem Spec.args {P : Program} {f : FuncId} {xs ys : List T} {ins : List Cont} {res : T} {outs : List Cont} (h : Spec P f ys ins res outs) (hl : vles xs ys) : Spec P f xs ins res outs := by
  intro w N bs vs h1 h2 h3 h4 h5 h6 h7
  have hlen : ∀ xs ys : List T, vles xs ys → ys.length = xs.length ∧ ∀ (k : Nat) (y : T), ys[k]? = some y → ∃ x, xs[k]? = some x ∧ vle x y := by
    intro xs
    induction xs with
    | nil =>
      intro ys h
      cases ys with
      | nil => exact ⟨rfl, fun k y hk => by simp at hk⟩
      | cons y ys => simp [vles] at h
    | cons x xs ih =>
      intro ys h
      cases ys with
      | nil => simp [vles] at h
      | cons y ys =>
        simp only [vles] at h
        obtain ⟨r1, r2⟩ := ih ys h.2
        refine ⟨by simp [r1], fun k z hk => ?_⟩
        cases k with
        | zero => simp at hk; subst hk; exact ⟨x, rfl, h.1⟩
        | succ k => simp at hk; simpa using r2 k z hk
  obtain ⟨l1, l2⟩ := hlen xs ys hl
  refine h w N bs vs h1 h2 h3 h4 h5 (by rw [h6, l1]) (fun k y hy => ?_)
  obtain ⟨x, hx, hxy⟩ := l2 k y hy
  obtain ⟨v, q1, q2⟩ := h7 k x hx
  exact ⟨v, q1, q2.vle hxy⟩

/-- A contract with contents that are told so. -/
theorem Spec.ins {P : Program} {f : FuncId} {args : List T} {ins ins' : List Cont} {res : T} {outs : List Cont} (h : Spec P f args ins' res outs) (hl : cles ins ins') : Spec P f args ins res outs := by
  obtain ⟨l1, l2⟩ := cles_get hl
  intro w N bs vs h1 h2 h3 h4 h5 h6 h7
  have hin : ∀ (k : Nat) (d : Cont), ins'[k]? = some d → ∃ c b cs e, ins[k]? = some c ∧ bs[k]? = some b ∧ w.heap[b]? = some (.cells cs e (0, 0)) ∧ CC w N Ext.none d cs.toList ∧ (∀ p, d.off p = c.off p) ∧ ∀ p, d.len p = c.len p := by
    intro k d hk
    obtain ⟨c, hc, hcd⟩ := l2 k d hk
    obtain ⟨b, cs, e, q1, q2, q3⟩ := h5 k c hc
    obtain ⟨r1, r2, r3⟩ := cle_ok hcd q3
    exact ⟨c, b, cs, e, hc, q1, q2, r1, r2, r3⟩
  have hX : (rio w bs ins).Le (rio w bs ins') := by
    have get : ∀ (id : Nat) (c : Cont), ins[id]? = some c → ∃ d, ins'[id]? = some d ∧ (∀ p, d.off p = c.off p) ∧ ∀ p, d.len p = c.len p := by
      intro id c hc
      have hlt := (List.getElem?_eq_some_iff.1 hc).1
      have hlt' : id < ins'.length := by omega
      obtain ⟨c', b, cs, e, q1, _, _, _, q2, q3⟩ := hin id ins'[id] (List.getElem?_eq_getElem hlt')
      rw [hc] at q1; simp only [Option.some.injEq] at q1; subst q1
      exact ⟨_, List.getElem?_eq_getElem hlt', q2, q3⟩
    refine ⟨?_, ?_⟩
    · rintro id p a ⟨b, c, hb, hc, rfl⟩
      obtain ⟨d, hd, g1, _⟩ := get id c hc
      exact ⟨b, d, hb, hd, by rw [g1]⟩
    · rintro id p off r v ⟨b, c, xs, e, hb, hc, hh, hr⟩
      obtain ⟨d, hd, g1, g2⟩ := get id c hc
      exact ⟨b, d, xs, e, hb, hd, hh, hr.likes g1 g2⟩
  refine (h w N bs vs (by rw [h1, l1]) h2 h3 h4 (fun k d hk => ?_) h6 (fun k x hx => ?_)).mono ?_
  · obtain ⟨c, b, cs, e, _, q1, q2, q3, _⟩ := hin k d hk
    exact ⟨b, cs, e, q1, q2, q3⟩
  · obtain ⟨v, q1, q2⟩ := h7 k x hx
    exact ⟨v, q1, RV.mono (fun b hb _ => ⟨hb, rfl⟩) hX q2⟩
  · rintro e w' ⟨v, r1, r2, r3, r4, r5⟩
    exact ⟨v, r1, r2, r3, by rw [r4, l1], r5⟩

/-! ## The end -/

/-- What the results hold. -/
def St.outT (P : Program) (st : St) : List ResultVar → Option (List T × Prop)
  | [] => some ([], True)
  | .tmp t :: rs => match st.t[t]?, st.outT P rs with
    | some x, some (xs, ob) => if x.plain then some (x :: xs, ob) else none
    | _, _ => none
  | .cell a ty :: rs => match st.t[a]?, st.outT P rs with
    | some x, some (xs, ob) => match st.ld P ty x [] with
      | some (y, ob2) => if y.plain then some (y :: xs, ob2 ∧ ob) else none
      | none => none
    | _, _ => none

def outsOk (nio : Nat) : Nat → List (Option Obj) → List Cont → Prop
  | k, _, [] => match Nat.beq k nio with
    | true => True
    | false => False
  | k, some o :: m, y :: ys => match !o.fz && o.c.data && Nat.blt k nio with
      | true => cle o.c y ∧ outsOk nio (k + 1) m ys
      | false => False
  | _, _, _ => False

def ltG (nio : Nat) (id : Nat) : Bool := Nat.blt id nio

def St.fin (P : Program) (nio : Nat) (st : St) (rs : List ResultVar) (res : T) (outs : List Cont) : Prop :=
  match st.outT P rs with
  | some (xs, ob) => ob ∧ outsOk nio 0 st.m outs ∧ match res with
    | .ow l => match xs with
      | [.row id [] 0 none] => match st.m[id]? with
        | some (some o) => match o.c with
          | .rb l' => match !o.fz && Nat.ble nio id with
            | true => l' = l
            | false => False
          | _ => False
        | _ => False
      | [.v (.slice none 0 0)] => l = []
      | _ => False
    | .os e ys => match xs with
      | [.row id [] 0 none] => match st.m[id]? with
        | some (some o) => match o.c with
          | .rs e' ys' => match !o.fz && Nat.ble nio id && Sk.beq e' e with
            | true => ys' = ys
            | false => False
          | _ => False
        | _ => False
      | [.v (.slice none 0 0)] => ys = []
      | _ => False
    | .tup ys => match st.views (ltG nio) 13 xs with
      | some (zs, ob2) => match Nat.beq xs.length 1 with
        | true => False
        | false => ob2 ∧ vles zs ys
      | none => False
    | .row j [] off rest => match xs with
      | [.row i [] off' rest'] => match Nat.beq i j && Nat.blt i nio with
        | true => off' = off ∧ rest' = rest
        | false => False
      | _ => False
    | res => match xs with
      | [x] => match st.view (ltG nio) 12 x with
        | some (z, ob2) => ob2 ∧ vle z res
        | none => False
      | _ => False
  | none => False

end Go.AL

/- A function's contract out of its code: sound. No condition. -/
namespace Go.AL
open Go

def resM (tmps : Array Value) (r : ResultVar) : Sem Value := match r with
  | .tmp t => pure (tmps.getD t undef)
  | .cell a t => do loadVar t (← asAddr (tmps.getD a undef))

section
variable {P : Program} {C : Ctx} {β : Bel} {st : St} {a : Act} {w : World} (h : Sim C β st a w)
include h

theorem outT_ok : ∀ (rs : List ResultVar) (xs : List T) (ob : Prop), st.outT P rs = some (xs, ob) → ob →
    ∃ vs : List Value, (rs.mapM (resM a.tmps)).run P w = .ok vs w ∧ vs.length = xs.length ∧
      ∀ (k : Nat) (x : T), xs[k]? = some x → ∃ v, vs[k]? = some v ∧ RV w (Mut C.N0 st.m β) (ext st.m β) x v
  | [], xs, ob, ho, _ => by
    simp only [St.outT, Option.some.injEq, Prod.mk.injEq] at ho
    obtain ⟨rfl, rfl⟩ := ho
    exact ⟨[], by simp, rfl, fun k x hk => by simp at hk⟩
  | .tmp t :: rs, xs, ob, ho, hob => by
    simp only [St.outT] at ho
    split at ho
    · rename_i x xs' ob' hx hrest
      split at ho
      · rename_i hp
        simp only [Option.some.injEq, Prod.mk.injEq] at ho
        obtain ⟨rfl, rfl⟩ := ho
        obtain ⟨vs, g1, g2, g3⟩ := outT_ok rs xs' _ hrest hob
        refine ⟨a.tmps.getD t undef :: vs, ?_, by simp [g2], fun k y hk => ?_⟩
        · rw [List.mapM_cons]
          simp only [resM, Sem.run_bind, Sem.run_pure, Result.andThen, g1]
        · cases k with
          | zero => simp at hk; subst hk; exact ⟨_, rfl, RV.of_plain (h.tm t x hx) hp⟩
          | succ k => simp at hk; simpa using g3 k y hk
      · cases ho
    · cases ho
  | .cell c t :: rs, xs, ob, ho, hob => by
    simp only [St.outT] at ho
    split at ho
    · rename_i x xs' ob' hx hrest
      split at ho
      · rename_i y ob2 hl
        split at ho
        · rename_i hp
          simp only [Option.some.injEq, Prod.mk.injEq] at ho
          obtain ⟨rfl, rfl⟩ := ho
          obtain ⟨vs, g1, g2, g3⟩ := outT_ok rs xs' _ hrest hob.2
          have hxt := h.tm c x hx
          obtain ⟨u, q1, q2⟩ := h.ld hxt hl hob.1
          have hptr : ∃ ad, a.tmps.getD c undef = .pointer (some ad) := by
            unfold St.ld at hl
            split at hl
            · obtain ⟨ad, hq, _⟩ := hxt.ref; exact ⟨ad, hq⟩
            · obtain ⟨ad, _, hq, _⟩ := hxt.pt; exact ⟨ad, hq⟩
            · cases hl
          obtain ⟨ad, hptr⟩ := hptr
          have hload : (resM a.tmps (.cell c t)).run P w = .ok u w := by
            simp only [resM]
            rw [hptr] at q1 ⊢
            simpa [Instr.loadAt, asAddr, Instr.sureAddr] using q1
          refine ⟨u :: vs, ?_, by simp [g2], fun k z hk => ?_⟩
          · rw [List.mapM_cons]
            rw [Sem.run_bind, hload]
            simp only [Result.andThen, Sem.run_bind, g1, Sem.run_pure]
          · cases k with
            | zero => simp at hk; subst hk; exact ⟨_, rfl, RV.of_plain q2 hp⟩
            | succ k => simp at hk; simpa using g3 k z hk
        · cases ho
      · cases ho
    · cases ho

theorem results_ok {fn : Func} {xs : List T} {ob : Prop} (ho : st.outT P fn.results.toList = some (xs, ob)) (hob : ob) :
    ∃ vs : List Value, (results fn a.tmps).run P w = .ok (match vs with | [v] => v | vs => .tuple vs.toArray) w ∧ vs.length = xs.length ∧
      ∀ (k : Nat) (x : T), xs[k]? = some x → ∃ v, vs[k]? = some v ∧ RV w (Mut C.N0 st.m β) (ext st.m β) x v := by
  obtain ⟨vs, g1, g2, g3⟩ := outT_ok h fn.results.toList xs ob ho hob
  refine ⟨vs, ?_, g2, g3⟩
  have hr : results fn a.tmps = (do let vs ← fn.results.mapM (resM a.tmps); pure (if h : vs.size = 1 then vs[0] else .tuple vs)) := rfl
  rw [hr, Array.mapM_eq_mapM_toList]
  simp only [map_eq_pure_bind, bind_assoc, pure_bind]
  rw [Sem.run_bind, g1]
  simp only [Result.andThen, Sem.run_pure]
  match vs with
  | [] => rfl
  | [v] => rfl
  | v :: u :: vs => simp
end

/-- A function's first state. -/
def St.start (fn : Func) (args : List T) (ins : List Cont) : St := ⟨args ++ List.replicate (fn.ntmps - args.length) (.tup []), ins.map (fun c => some ⟨c, false⟩) ++ [none]⟩

/-- What must hold at the end. -/
def atEnd (P : Program) (fn : Func) (nio : Nat) (res : T) (outs : List Cont) (ex : AX) (st : St) : Prop := match ex with
  | .normal => st.fin P nio fn.results.toList res outs
  | .ret => st.fin P nio fn.results.toList res outs
  | .exit _ => False

theorem outsOk_len {nio : Nat} : ∀ {outs : List Cont} {k : Nat} {m : List (Option Obj)}, outsOk nio k m outs → k + outs.length = nio ∧
    ∀ (j : Nat) (y : Cont), outs[j]? = some y → ∃ o : Obj, m[j]? = some (some o) ∧ cle o.c y ∧ o.fz = false ∧ o.c.data = true ∧ k + j < nio
  | [], k, m, h => by
    unfold outsOk at h
    split at h
    · rename_i hb; exact ⟨by simpa using Nat.eq_of_beq_eq_true hb, fun j y hj => by simp at hj⟩
    · exact h.elim
  | y :: ys, k, m, h => by
    cases m with
    | nil => simp [outsOk] at h
    | cons x m =>
      cases x with
      | none => simp [outsOk] at h
      | some o =>
        simp only [outsOk] at h
        split at h
        · rename_i hc
          simp only [Bool.and_eq_true, Bool.not_eq_true'] at hc
          obtain ⟨r1, r2⟩ := outsOk_len h.2
          have hzy := h.1
          refine ⟨by simp; omega, fun j y' hj => ?_⟩
          cases j with
          | zero =>
            simp at hj; subst hj
            exact ⟨o, rfl, hzy, hc.1.1, hc.1.2, by have := Nat.le_of_ble_eq_true hc.2; omega⟩
          | succ j =>
            simp at hj
            obtain ⟨o', q1, q2, q3, q4, q5⟩ := r2 j y' hj
            exact ⟨o', by simpa using q1, q2, q3, q4, by omega⟩
        · exact h.elim

theorem CC.dataX {w : World} {N : Nat → Prop} {X X' : Ext} {c : Cont} {cs : List Value} (hd : c.data = true) (h : CC w N X c cs) : CC w N X' c cs := by
  cases c with
  | var x => exact RC.data _ _ hd h
  | rb l => exact h
  | rs e xs => exact h

theorem ltG_false {nio id : Nat} (h : ltG nio id = false) : nio ≤ id := by
  apply Nat.le_of_not_lt
  intro hlt
  have : ltG nio id = true := by unfold ltG Nat.blt; rw [Nat.ble_eq]; omega
  rw [h] at this; cases this

theorem fin_ok {P : Program} {C : Ctx} {β : Bel} {st : St} {a : Act} {w : World} (h : Sim C β st a w) {fn : Func} {res : T} {outs : List Cont} {bs : List Nat} (hbs : ∀ k, k < C.nio → bs[k]? = some (C.io k)) (hf : st.fin P C.nio fn.results.toList res outs) :
    ∃ v, (results fn a.tmps).run P w = .ok v w ∧ RR C.w0 w C.N0 bs outs res v ∧ outs.length = C.nio ∧
      ∀ (k : Nat) (y : Cont), outs[k]? = some y → ∃ cs e, w.heap[C.io k]? = some (.cells cs e (0, 0)) ∧ cs.size = C.sz k ∧ CC w C.N0 Ext.none y cs.toList := by
  unfold St.fin at hf
  split at hf
  · rename_i xs ob hout
    obtain ⟨hob, houts, hres⟩ := hf
    obtain ⟨vs, g1, g2, g3⟩ := results_ok h hout hob
    obtain ⟨o1, o2⟩ := outsOk_len houts
    have hNM : ∀ b, ¬ Mut C.N0 st.m β b → ¬ C.N0 b := fun b hb hN => hb (.inl hN)
    have hview : ∀ (id : Nat) (o : Obj) (b k : Nat), st.m[id]? = some (some o) → β id = some (b, k) → ltG C.nio id = false → ¬ C.N0 b := by
      intro id o b k e1 e2 hg hN
      have hge := ltG_false hg
      rcases h.loc id o b k e1 e2 with hq | hq
      · have := h.nl b hN; omega
      · have := hq.1; omega
    have hne : ∀ (k : Nat) (y : Cont), outs[k]? = some y → ∃ o cs e kk, st.m[k]? = some (some o) ∧ ((∀ p, y.off p = o.c.off p) ∧ ∀ p, y.len p = o.c.len p) ∧ β k = some (C.io k, kk) ∧ w.heap[C.io k]? = some (.cells cs e (0, 0)) ∧ cs.size = C.sz k ∧ kk = C.sz k ∧ CC w C.N0 Ext.none y cs.toList := by
      intro k y hk
      obtain ⟨o, q1, q2, q3, q4, q5⟩ := o2 k y hk
      have hme := h.me k o q1
      have hbk : ∃ b kk, β k = some (b, kk) := h.iob k (by omega)
      obtain ⟨b, kk, hβ⟩ := hbk
      rw [hβ] at hme
      obtain ⟨cs, e, fz, p1, p2, p3, p4⟩ := hme
      rw [p3 q3] at p1
      rcases h.loc k o b kk q1 hβ with hq | hq
      · have := hq.1; omega
      · obtain ⟨_, hq2, _, hq4⟩ := hq
        subst hq2
        obtain ⟨s1, s2, s3⟩ := cle_ok q2 (CC.dataX (X' := Ext.none) q4 (CC.mono (fun b hb _ => ⟨hNM b hb, rfl⟩) (Ext.Le.refl _) _ _ p4))
        exact ⟨o, cs, e, kk, q1, ⟨s2, s3⟩, hβ, p1, by omega, hq4.symm, s1⟩
    have hlast : outs.length = C.nio ∧ ∀ (k : Nat) (y : Cont), outs[k]? = some y → ∃ cs e, w.heap[C.io k]? = some (.cells cs e (0, 0)) ∧ cs.size = C.sz k ∧ CC w C.N0 Ext.none y cs.toList := by
      refine ⟨by omega, fun k y hk => ?_⟩
      obtain ⟨o, cs, e, kk, q1, q2, q3, q4, q5, q6, q7⟩ := hne k y hk
      exact ⟨cs, e, q4, q5, q7⟩
    -- one result
    have one : ∀ x, xs = [x] → ∃ v, vs = [v] ∧ (results fn a.tmps).run P w = .ok v w ∧ RV w (Mut C.N0 st.m β) (ext st.m β) x v := by
      intro x hx
      subst hx
      obtain ⟨v, hv⟩ := one_list g2
      obtain ⟨v', q1, q2⟩ := g3 0 x rfl
      rw [hv] at q1; simp at q1; subst q1
      rw [hv] at g1
      exact ⟨v, hv, g1, q2⟩
    have ofRow : ∀ (id : Nat) (c : Cont) (o : Obj), xs = [.row id [] 0 none] → st.m[id]? = some (some o) → o.c = c → o.fz = false → C.nio ≤ id → (∃ n sz, c.len [] = some (n, sz)) → c.off [] = 0 → (∀ n sz, c.len [] = some (n, sz) → n = 0 → True) → ((∃ l, c = .rb l) ∨ ∃ e ys, c = .rs e ys) →
        ∃ v, (results fn a.tmps).run P w = .ok v w ∧ OwnS C.w0 w C.N0 c v := by
      intro id c o hx hm hc hfz hge ⟨n, sz, hlen⟩ hoff _ hform
      obtain ⟨v, _, hrun, hrv⟩ := one _ hx
      refine ⟨v, hrun, n, sz, hlen, hoff, ?_⟩
      obtain ⟨_, o', e1, n', sz', e2, e3, e4⟩ := (RT.of_RV hrv).row
      rw [hm] at e1; simp only [Option.some.injEq] at e1; subst e1
      rw [hc, hlen] at e2; simp only [Option.some.injEq, Prod.mk.injEq] at e2
      obtain ⟨rfl, rfl⟩ := e2
      have hme := h.me id o hm
      simp only [Option.getD_none, Nat.sub_zero, Nat.zero_add, Nat.zero_mul, Nat.add_zero] at e3 e4
      cases hβ : β id with
      | none =>
        rw [hβ] at e4
        exact .inl ⟨e4.1, e4.2.1⟩
      | some bk =>
        obtain ⟨b, kk⟩ := bk
        rw [hβ] at e4 hme
        obtain ⟨A, cap, rfl, f1, f2, f3⟩ := e4
        obtain ⟨cs, e, fz, p1, p2, p3, p4⟩ := hme
        rw [p3 hfz] at p1
        rw [hc, hoff] at f2 f3
        rw [hc] at p4
        refine .inr ⟨b, cap, cs, e, A, ?_, rfl, fun hcap => by simpa using f3 hcap, f1, by rw [p2]; omega, p1, ?_⟩
        · rcases h.loc id o b kk hm hβ with hq | hq
          · exact hq.2
          · have := hq.1; omega
        · rcases hform with ⟨l, rfl⟩ | ⟨e', ys, rfl⟩
          · exact p4
          · obtain ⟨d, r, hd, hu⟩ := p4
            refine ⟨d, r, hd, RU.mono (fun b' hb' _ => ⟨?_, rfl⟩) ys d hu⟩
            rintro (hx | hx)
            · exact hb' (.inl hx)
            · subst hx
              exact hb' (.inr ⟨id, o, kk, hm, hfz, hβ⟩)
    have ofNil : ∀ (c : Cont), xs = [.v (.slice none 0 0)] → (∃ sz, c.len [] = some (0, sz)) → c.off [] = 0 → ∃ v, (results fn a.tmps).run P w = .ok v w ∧ OwnS C.w0 w C.N0 c v := by
      intro c hx ⟨sz, hlen⟩ hoff
      obtain ⟨v, _, hrun, hrv⟩ := one _ hx
      have hv := (RT.of_RV hrv).val (r := .slice none 0 0) rfl
      exact ⟨v, hrun, 0, sz, hlen, hoff, .inl ⟨hv, rfl⟩⟩
    have fin : (∃ v, (results fn a.tmps).run P w = .ok v w ∧ RR C.w0 w C.N0 bs outs res v) → ∃ v, (results fn a.tmps).run P w = .ok v w ∧ RR C.w0 w C.N0 bs outs res v ∧ outs.length = C.nio ∧
      ∀ (k : Nat) (y : Cont), outs[k]? = some y → ∃ cs e, w.heap[C.io k]? = some (.cells cs e (0, 0)) ∧ cs.size = C.sz k ∧ CC w C.N0 Ext.none y cs.toList := fun ⟨v, e1, e2⟩ => ⟨v, e1, e2, hlast⟩
    apply fin
    clear fin
    split at hres
    · rename_i l
      split at hres
      · rename_i id
        split at hres
        · rename_i o hm
          split at hres
          · rename_i l' hc
            split at hres
            · rename_i hb
              simp only [Bool.and_eq_true, Bool.not_eq_true'] at hb
              subst hres
              exact ofRow id _ o rfl hm hc hb.1 (Nat.le_of_ble_eq_true hb.2) ⟨_, _, rfl⟩ rfl (fun _ _ _ _ => trivial) (.inl ⟨_, rfl⟩)
            · exact hres.elim
          · exact hres.elim
        · exact hres.elim
      · subst hres
        exact ofNil _ rfl ⟨1, rfl⟩ rfl
      · exact hres.elim
    · rename_i e ys
      split at hres
      · rename_i id
        split at hres
        · rename_i o hm
          split at hres
          · rename_i e' ys' hc
            split at hres
            · rename_i hb
              simp only [Bool.and_eq_true, Bool.not_eq_true'] at hb
              subst hres
              have := Sk.eq_of_beq _ _ hb.2
              subst this
              exact ofRow id _ o rfl hm hc hb.1.1 (Nat.le_of_ble_eq_true hb.1.2) ⟨_, _, rfl⟩ rfl (fun _ _ _ _ => trivial) (.inr ⟨_, _, rfl⟩)
            · exact hres.elim
          · exact hres.elim
        · exact hres.elim
      · subst hres
        exact ofNil _ rfl ⟨e.size, rfl⟩ rfl
      · exact hres.elim
    · rename_i ys
      split at hres
      · rename_i zs ob2 hv
        split at hres
        · exact hres.elim
        · rename_i hb
          obtain ⟨ho2, hle⟩ := hres
          refine ⟨.tuple vs.toArray, ?_, ?_⟩
          · rw [g1]
            match vs, g2 with
            | [v], g2 =>
              exfalso
              rw [← g2] at hb
              simp at hb
            | [], _ => rfl
            | v :: u :: vs, _ => rfl
          · have key : ∀ (f : Nat) (xs zs ys : List T) (ob2 : Prop) (vs : List Value), st.views (ltG C.nio) f xs = some (zs, ob2) → ob2 → vles zs ys → vs.length = xs.length →
                (∀ (k : Nat) (x : T), xs[k]? = some x → ∃ v, vs[k]? = some v ∧ RV w (Mut C.N0 st.m β) (ext st.m β) x v) →
                vs.length = ys.length ∧ ∀ (k : Nat) (y : T), ys[k]? = some y → ∃ v, vs[k]? = some v ∧ RV w C.N0 (rio w bs outs) y v := by
              intro f
              induction f with
              | zero => intro xs zs ys ob2 vs hv; simp [St.views] at hv
              | succ f ih =>
                intro xs zs ys ob2 vs hv ho2 hle hl hx
                cases xs with
                | nil =>
                  simp only [St.views, Option.some.injEq, Prod.mk.injEq] at hv
                  obtain ⟨rfl, rfl⟩ := hv
                  cases ys with
                  | nil => exact ⟨by simpa using hl, fun k y hk => by simp at hk⟩
                  | cons y ys => simp [vles] at hle
                | cons x xs =>
                  cases vs with
                  | nil => simp at hl
                  | cons v vs =>
                  simp only [St.views] at hv
                  split at hv
                  · rename_i z o1 zs' o2 hz1 hz2
                    simp only [Option.some.injEq, Prod.mk.injEq] at hv
                    obtain ⟨rfl, rfl⟩ := hv
                    cases ys with
                    | nil => simp [vles] at hle
                    | cons y ys =>
                    simp only [vles] at hle
                    obtain ⟨r1, r2⟩ := ih xs zs' ys o2 vs hz2 ho2.2 hle.2 (by simpa using hl) (fun k x' hk => by have := hx (k + 1) x' (by simpa using hk); simpa using this)
                    refine ⟨by simp [r1], fun k y' hk => ?_⟩
                    cases k with
                    | zero =>
                      simp at hk; subst hk
                      obtain ⟨v', e1, e2⟩ := hx 0 x rfl
                      simp at e1; subst e1
                      refine ⟨v, rfl, RV.vle hle.1 ?_⟩
                      rcases e2 with ⟨h2, ds, h3, h4⟩ | ⟨h2, h4⟩
                      · obtain ⟨s1, s2, _⟩ := view_ok hNM hview h f x z _ ds hz1 ho2.1 h4
                        exact .inl ⟨by rw [s2]; exact h2, ds, h3, RC.mono (fun b hb _ => ⟨hb, rfl⟩) (Ext.none_le _) _ _ s1⟩
                      · obtain ⟨s1, s2, _⟩ := view_ok hNM hview h f x z _ _ hz1 ho2.1 h4
                        exact .inr ⟨by rw [s2]; exact h2, RC.mono (fun b hb _ => ⟨hb, rfl⟩) (Ext.none_le _) _ _ s1⟩
                    | succ k => simp at hk; simpa using r2 k y' hk
                  · cases hv
            obtain ⟨k1, k2⟩ := key 13 xs zs ys ob2 vs hv ho2 hle g2 g3
            exact ⟨vs, rfl, k1, k2⟩
      · exact hres.elim
    · rename_i j off rest
      split at hres
      · rename_i i off' rest'
        split at hres
        · rename_i hb
          simp only [Bool.and_eq_true] at hb
          have hij := Nat.eq_of_beq_eq_true hb.1
          have hlt := Nat.le_of_ble_eq_true hb.2
          obtain ⟨rfl, rfl⟩ := hres
          subst hij
          obtain ⟨v, _, hrun, hrv⟩ := one _ rfl
          have goal : RC w C.N0 (rio w bs outs) (.row i [] off' rest') [v] → RT w C.N0 (rio w bs outs) (.row i [] off' rest') v := fun hh => RT.leaf hh rfl
          refine ⟨v, hrun, goal ?_⟩
          obtain ⟨hone, o, e1, e2⟩ := (RT.of_RV hrv).row
          have hil : i < outs.length := by omega
          obtain ⟨o', cs, e, kk, q1, q2, q3, q4, q5, q6, q7⟩ := hne i outs[i] (List.getElem?_eq_getElem hil)
          rw [e1] at q1; simp only [Option.some.injEq] at q1; subst q1
          simp only [RC]
          refine ⟨v, rfl, hone, C.io i, outs[i], cs, e, hbs i (by omega), List.getElem?_eq_getElem hil, q4, ?_⟩
          rw [q3] at e2
          rw [q5, ← q6]
          exact e2.likes q2.1 q2.2
        · exact hres.elim
      · exact hres.elim
    · rename_i h1 h2 h3 h4
      split at hres
      · rename_i x
        split at hres
        · rename_i z ob2 hv
          obtain ⟨v, _, hrun, hrv⟩ := one x rfl
          have := (view_RV (X := rio w bs outs) hNM hview h hv hres.1 hrv).vle hres.2
          refine ⟨v, hrun, ?_⟩
          have hrt := RT.of_RV this
          cases res
          case ow l => exact absurd rfl (h1 l)
          case os e l => exact absurd rfl (h2 e l)
          all_goals exact hrt
        · exact hres.elim
      · exact hres.elim
  · exact hf.elim

end Go.AL

/- A function's contract out of its code. No condition. -/
namespace Go.AL
open Go

theorem start_sim {fn : Func} {args : List T} {ins : List Cont} {w : World} {N : Nat → Prop} {bs : List Nat} {vs : List Value} (h1 : bs.length = ins.length) (h2 : bs.Nodup) (h3 : ∀ b ∈ bs, N b) (h4 : ∀ b, N b → b < w.heap.size)
    (h5 : ∀ (k : Nat) (x : Cont), ins[k]? = some x → ∃ b cs e, bs[k]? = some b ∧ w.heap[b]? = some (.cells cs e (0, 0)) ∧ CC w N Ext.none x cs.toList)
    (h6 : vs.length = args.length) (h7 : ∀ (k : Nat) (x : T), args[k]? = some x → ∃ v, vs[k]? = some v ∧ RV w N (rio w bs ins) x v) :
    ∃ β, Sim ⟨w, (· ∈ bs), N, ins.length, fun k => bs.getD k 0, fun k => match w.heap[bs.getD k 0]? with | some (.cells cs _ _) => cs.size | _ => 0⟩ β (St.start fn args ins) { tmps := vs.toArray ++ Array.replicate (fn.ntmps - vs.toArray.size) undef, defers := [] } w := by
  have hget : ∀ (id : Nat) (o : Obj), (St.start fn args ins).m[id]? = some (some o) → id < ins.length ∧ ∃ x, ins[id]? = some x ∧ o = ⟨x, false⟩ := by
    intro id o ho
    simp only [St.start] at ho
    by_cases hlt : id < ins.length
    · rw [List.getElem?_append_left (by simpa using hlt)] at ho
      refine ⟨hlt, ins[id], List.getElem?_eq_getElem hlt, ?_⟩
      simp [hlt] at ho
      exact ho.symm
    · rw [List.getElem?_append_right (by simp; omega)] at ho
      have hm := List.mem_of_getElem? ho
      simp at hm
  have hinv : ∀ (id : Nat) (x : Cont), ins[id]? = some x → (St.start fn args ins).m[id]? = some (some ⟨x, false⟩) := by
    intro id x hx
    have hlt := (List.getElem?_eq_some_iff.1 hx).1
    simp only [St.start]
    rw [List.getElem?_append_left (by simpa using hlt)]
    simp [hx]
  let sz : Nat → Nat := fun b => match w.heap[b]? with | some (.cells cs _ _) => cs.size | _ => 0
  let β : Bel := fun id => (bs[id]?).map fun b => (b, sz b)
  have hβ : ∀ id b k, β id = some (b, k) → bs[id]? = some b ∧ k = sz b := by
    intro id b k hb
    simp only [β] at hb
    cases hbs : bs[id]? with
    | none => simp [hbs] at hb
    | some b' =>
      simp [hbs] at hb
      exact ⟨by rw [hb.1], by rw [← hb.2, hb.1]⟩
  have hMut : ∀ b, Mut N (St.start fn args ins).m β b → N b := by
    rintro b (hN | ⟨id, o, k, e1, e2, e3⟩)
    · exact hN
    · exact h3 b (List.mem_of_getElem? (hβ id b k e3).1)
  have hS : Stay w w N (Mut N (St.start fn args ins).m β) := fun b hb _ => ⟨fun hm => hb (hMut b hm), rfl⟩
  have hX : (rio w bs ins).Le (ext (St.start fn args ins).m β) := by
    refine ⟨?_, ?_⟩
    · rintro id p ad ⟨b, c, hb, hc, rfl⟩
      exact ⟨_, b, sz b, hinv id c hc, by simp [β, hb], rfl⟩
    · rintro id p off r v ⟨b, c, xs, e, hb, hc, hh, hr⟩
      refine ⟨_, hinv id c hc, ?_⟩
      have : β id = some (b, xs.size) := by simp [β, hb, sz, hh]
      rw [this]
      exact hr
  refine ⟨β, ⟨?_, rfl, ?_, ?_, ?_, ?_, ?_, ?_, h3, h4, Keeps.refl _ w, ?_⟩⟩
  · simp [St.start, h6]
  · intro k x hx
    simp only [St.start] at hx
    by_cases hlt : k < args.length
    · rw [List.getElem?_append_left hlt] at hx
      obtain ⟨v, q1, q2⟩ := h7 k x hx
      have hvl : k < vs.length := by omega
      have : (vs.toArray ++ Array.replicate (fn.ntmps - vs.toArray.size) undef).getD k undef = v := by
        rw [Array.getD_eq_getD_getElem?, Array.getElem?_append_left (by simpa using hvl)]
        simp [q1]
      simp only
      rw [this]
      exact RT.of_RV (RV.mono hS hX q2)
    · rw [List.getElem?_append_right (by omega)] at hx
      have hx' : x = .tup [] := by
        have := List.mem_of_getElem? hx
        simp at this; exact this.2
      subst hx'
      have : (vs.toArray ++ Array.replicate (fn.ntmps - vs.toArray.size) undef).getD k undef = undef := by
        rw [Array.getD_eq_getD_getElem?, Array.getElem?_append_right (by simp; omega)]
        rw [Array.getElem?_replicate]
        split <;> rfl
      simp only
      rw [this]
      exact ⟨[], rfl, rfl, fun k x hk => by simp at hk⟩
  · intro id o ho
    obtain ⟨hlt, x, hx, rfl⟩ := hget id o ho
    obtain ⟨b, cs, e, q1, q2, q3⟩ := h5 id x hx
    have hb : β id = some (b, cs.size) := by simp [β, q1, sz, q2]
    rw [hb]
    exact ⟨cs, e, (0, 0), q2, rfl, fun _ => rfl, CC.mono hS (Ext.none_le _) x _ q3⟩
  · intro id id' o o' b k k' e1 e2 e3 e4
    have q1 := (hβ id b k e3).1
    have q2 := (hβ id' b k' e4).1
    obtain ⟨l1, g1⟩ := List.getElem?_eq_some_iff.1 q1
    exact (List.getElem?_inj l1 h2).1 (q1.trans q2.symm)
  · intro id o b k e1 e2
    obtain ⟨hlt, _⟩ := hget id o e1
    obtain ⟨q1, q2⟩ := hβ id b k e2
    refine .inr ⟨hlt, by simp [q1], List.mem_of_getElem? q1, ?_⟩
    simp only [List.getD_eq_getElem?_getD, q1, Option.getD_some]
    exact q2.symm
  · intro id hlt
    exact ⟨ins[id], hinv id _ (List.getElem?_eq_getElem hlt)⟩
  · intro id o b k e1 hz
    obtain ⟨_, x, _, rfl⟩ := hget id o e1
    cases hz
  · intro id hlt
    have hlt' : id < bs.length := by rw [h1]; exact hlt
    exact ⟨bs[id], sz bs[id], by simp [β, List.getElem?_eq_getElem hlt']⟩

/-- THE CONTRACT. -/
theorem spec_of_tr {P : Program} (hm : P.follows .mixedOrders = true) {S : Tbl} (hS : TblOk P S) {f : FuncId} {fn : Func} {c : Code} (hf : P.funcs[f]? = some fn) (hb : fn.body = some c) (O : Orc2) {args : List T} {ins : List Cont} {res : T} {outs : List Cont}
    (h : tr P S ins.length c O 0 (St.start fn args ins) (atEnd P fn ins.length res outs)) : Spec P f args ins res outs := by
  intro w N bs vs h1 h2 h3 h4 h5 h6 h7
  obtain ⟨β, hsim⟩ := start_sim (fn := fn) h1 h2 h3 h4 h5 h6 h7
  refine calls_of_wp hf hb (tr_ok hm hS c O 0 _ _ _ β _ w ?_ hsim h)
  intro ex st β' a w' hk hs
  have hend : ∀ (_ : st.fin P ins.length fn.results.toList res outs), a.defers = [] ∧ ∃ v, (results fn a.tmps).run P w' = .ok v w' ∧ ∃ v', Ending.returned v = .returned v' ∧ Keeps (· ∈ bs) w w' ∧ RR w w' N bs outs res v' ∧ outs.length = ins.length ∧
      ∀ (k : Nat) (y : Cont), outs[k]? = some y → ∃ b cs cs' e e', bs[k]? = some b ∧ w.heap[b]? = some (.cells cs e (0, 0)) ∧ w'.heap[b]? = some (.cells cs' e' (0, 0)) ∧ cs'.size = cs.size ∧ CC w' N Ext.none y cs'.toList := by
    intro hfin
    obtain ⟨v, g1, g2, g3, g4⟩ := fin_ok hs (bs := bs) (fun k hk => by
      have hlt : k < bs.length := by simp only at hk; omega
      simp [List.getElem?_eq_getElem hlt]) hfin
    refine ⟨hs.df, v, g1, v, rfl, hs.kp, g2, g3, fun k y hk => ?_⟩
    obtain ⟨cs', e', q1, q2, q3⟩ := g4 k y hk
    simp only at g3
    have hkl := (List.getElem?_eq_some_iff.1 hk).1
    have hlt : k < bs.length := by omega
    have hil : k < ins.length := by omega
    obtain ⟨b, cs, e, r1, r2, _⟩ := h5 k ins[k] (List.getElem?_eq_getElem hil)
    have hbk : bs.getD k 0 = b := by simp [r1]
    simp only [hbk, r2] at q1 q2
    exact ⟨b, cs, cs', e, e', r1, r2, q1, q2, q3⟩
  cases ex with
  | normal => exact hend hk
  | ret => exact hend hk
  | exit id => exact hk.elim

/-- Two cases of a truth. -/
def cases2 (c : Bool) (A B : Prop) : Prop := match c with
  | true => A
  | false => B

theorem cases2_of {c : Bool} {A B : Prop} (h1 : c = true → A) (h2 : c = false → B) : cases2 c A B := by
  cases c
  · exact h2 rfl
  · exact h1 rfl

theorem cases2_dec {p : Prop} {_ : Decidable p} {A B : Prop} (h1 : p → A) (h2 : ¬ p → B) : cases2 (decide p) A B :=
  cases2_of (fun h => h1 (of_decide_eq_true h)) (fun h => h2 (of_decide_eq_false h))

/-! ## Tables of contracts -/

structure Ent where
  f : FuncId
  io : Bool
  s : List T → List Cont → Option (Prop × T × List Cont)

def EntOk (P : Program) (e : Ent) : Prop := ∀ args ins pre res outs, e.s args ins = some (pre, res, outs) → pre → Spec P e.f args ins res outs

def findE : List Ent → FuncId → Option Ent
  | [], _ => none
  | e :: es, f => match Nat.beq e.f f with
    | true => some e
    | false => findE es f

def tbl (es : List Ent) : Tbl := ⟨fun f => match findE es f with | some e => e.io | none => false, fun f args ins => match findE es f with | some e => e.s args ins | none => none⟩

theorem tbl_ok {P : Program} : ∀ {es : List Ent}, (∀ e ∈ es, EntOk P e) → TblOk P (tbl es) := by
  intro es h f args ins pre res outs hs hp
  have : ∀ (es : List Ent), (∀ e ∈ es, EntOk P e) → ∀ e, findE es f = some e → EntOk P e ∧ e.f = f := by
    intro es
    induction es with
    | nil => intro _ e he; simp [findE] at he
    | cons e0 es ih =>
      intro hall e he
      simp only [findE] at he
      split at he
      · rename_i hb
        simp only [Option.some.injEq] at he
        subst he
        exact ⟨hall e0 (by simp), Nat.eq_of_beq_eq_true hb⟩
      · exact ih (fun e he => hall e (by simp [he])) e he
  simp only [tbl] at hs
  split at hs
  · rename_i e he
    obtain ⟨h1, h2⟩ := this es h e he
    rw [← h2]
    exact h1 args ins pre res outs hs hp
  · cases hs

end Go.AL

namespace Ro
open Go Go.AL Go.Proofs

def li (ms : List Int) : List T := ms.map .i
def ls (v : UInt64) (ms : List Int) : T := .agg [.u64 v, .sl .lf (li ms)]

/-! ## Right -/
def badAt (ms : List Int) (i : Nat) : Bool := decide (ms.getD i 0 < 0) || decide (ms.getD i 0 ≥ 8) || (decide (0 < i) && decide (ms.getD (i - 1) 0 ≥ ms.getD i 0))
def okTo (ms : List Int) (n : Nat) : Bool := (List.range n).all fun i => !badAt ms i
def rightB (v : UInt64) (ms : List Int) : Bool := !decide (v < 1) && !decide (1099511627776 < v) && !decide (ms.length < 1) && !decide (8 < ms.length) && okTo ms ms.length

def noO : Orc2 := orc (fun _ => []) fun _ => .unroll 0
def O112 (ms : List Int) : Orc2 := orc (fun _ => []) fun _ => .inv Nat 0 (fun i => i ≤ ms.length ∧ okTo ms i = true) (fun i => ms.length - i) [] (fun i => [(28, .i i)]) [1, 26, 27] (fun _ => []) [1]
  (fun i k => match k with
    | 31 => [.i (ms.getD i 0)]
    | 47 => [.i (ms.getD (i - 1) 0)]
    | _ => []) (fun _ _ => .unroll 0)
end Ro

namespace Ro
open Go Go.AL Go.Proofs
theorem of112 (v : UInt64) (ms : List Int) (hT : TblOk Try.prog (tbl []))
    (h : True ∧ True ∧ True ∧ True ∧ True ∧ True ∧ cases2 (decide (v < (1 : UInt64))) (True ∧ True ∧ True ∧ True ∧ True ∧ True ∧ True ∧ True ∧ True ∧ false = rightB v ms) (True ∧ True ∧ True ∧ True ∧ True ∧ cases2 (decide ((1099511627776 : UInt64) < v)) (True ∧ True ∧ True ∧ True ∧ True ∧ True ∧ True ∧ false = rightB v ms) (True ∧ True ∧ True ∧ True ∧ True ∧ True ∧ cases2 (decide ((↑(List.length (li ms)) : Int) < (1 : Int))) (True ∧ True ∧ True ∧ True ∧ True ∧ false = rightB v ms) (True ∧ True ∧ True ∧ True ∧ True ∧ cases2 (decide ((↑(List.length (li ms)) : Int) > (8 : Int))) (True ∧ True ∧ True ∧ True ∧ false = rightB v ms) (True ∧ True ∧ True ∧ True ∧ True ∧ ((0 : Nat) ≤ List.length ms ∧ okTo ms (0 : Nat) = true) ∧ ((True ∧ li ms = li ms ∧ (↑(List.length (li ms)) : Int) = (↑(List.length (li ms)) : Int) ∧ (0 : Int) = (0 : Int) ∧ True) ∧ (v = v ∧ li ms = li ms ∧ True) ∧ True) ∧ ∀ (i : Nat), i ≤ List.length ms ∧ okTo ms i = true → True ∧ cases2 (decide ((↑i : Int) < (↑(List.length (li ms)) : Int))) (True ∧ ((0 : Int) ≤ (↑i : Int) ∧ (li ms)[Int.toNat (↑i : Int)]? = some (T.i (List.getD ms i (0 : Int)))) ∧ True ∧ True ∧ True ∧ True ∧ True ∧ True ∧ cases2 (decide (List.getD ms i (0 : Int) < (0 : Int))) (True ∧ True ∧ True ∧ True ∧ True ∧ True ∧ True ∧ false = rightB v ms) (True ∧ True ∧ True ∧ True ∧ cases2 (decide (List.getD ms i (0 : Int) ≥ (8 : Int))) (True ∧ True ∧ True ∧ True ∧ True ∧ false = rightB v ms) (True ∧ True ∧ True ∧ cases2 (decide ((↑i : Int) > (0 : Int))) (True ∧ True ∧ True ∧ ((-9223372036854775808 : Int) ≤ (↑i : Int) - (1 : Int) ∧ (↑i : Int) - (1 : Int) ≤ (9223372036854775807 : Int)) ∧ ((0 : Int) ≤ (↑i : Int) - (1 : Int) ∧ (li ms)[Int.toNat ((↑i : Int) - (1 : Int))]? = some (T.i (List.getD ms (i - (1 : Nat)) (0 : Int)))) ∧ True ∧ True ∧ True ∧ True ∧ True ∧ cases2 (decide (List.getD ms (i - (1 : Nat)) (0 : Int) ≥ List.getD ms i (0 : Int))) (True ∧ True ∧ True ∧ True ∧ false = rightB v ms) (((-9223372036854775808 : Int) ≤ (↑i : Int) + (1 : Int) ∧ (↑i : Int) + (1 : Int) ≤ (9223372036854775807 : Int)) ∧ True ∧ ∃ j, (j ≤ List.length ms ∧ okTo ms j = true) ∧ List.length ms - j < List.length ms - i ∧ (True ∧ li ms = li ms ∧ (↑(List.length (li ms)) : Int) = (↑(List.length (li ms)) : Int) ∧ (↑i : Int) + (1 : Int) = (↑j : Int) ∧ True) ∧ (v = v ∧ li ms = li ms ∧ True) ∧ True)) (True ∧ True ∧ ((-9223372036854775808 : Int) ≤ (↑i : Int) + (1 : Int) ∧ (↑i : Int) + (1 : Int) ≤ (9223372036854775807 : Int)) ∧ True ∧ ∃ j, (j ≤ List.length ms ∧ okTo ms j = true) ∧ List.length ms - j < List.length ms - i ∧ (True ∧ li ms = li ms ∧ (↑(List.length (li ms)) : Int) = (↑(List.length (li ms)) : Int) ∧ (↑i : Int) + (1 : Int) = (↑j : Int) ∧ True) ∧ (v = v ∧ li ms = li ms ∧ True) ∧ True)))) (True ∧ True ∧ True ∧ True ∧ true = rightB v ms)))))) :
    Spec Try.prog 112 [ls v ms] [] (.b (rightB v ms)) [] :=
  spec_of_tr (by kernel_rfl) hT Try.func112 (c := Try.f112.body.getD .skip) (by kernel_rfl) (O112 ms) (Eq.mp (by kernel_rfl) h)

end Ro

namespace Ro
open Go Go.AL Go.Proofs

theorem li_get (ms : List Int) (i : Nat) (h : i < ms.length) : (li ms)[i]? = some (T.i (ms.getD i 0)) := by
  simp [li, h]
theorem li_len (ms : List Int) : (li ms).length = ms.length := by simp [li]

theorem okTo_succ (ms : List Int) (i : Nat) (h : okTo ms i = true) (hb : badAt ms i = false) : okTo ms (i + 1) = true := by
  unfold okTo at *
  rw [List.range_succ, List.all_append, h]
  simp [hb]
theorem okTo_bad (ms : List Int) (i : Nat) (hi : i < ms.length) (hb : badAt ms i = true) : okTo ms ms.length = false := by
  unfold okTo
  rw [List.all_eq_false]
  exact ⟨i, List.mem_range.2 hi, by simp [hb]⟩

theorem spec112 (v : UInt64) (ms : List Int) (hT : TblOk Try.prog (tbl [])) : Spec Try.prog 112 [ls v ms] [] (.b (rightB v ms)) [] := by
  refine of112 v ms hT ?_
  simp only [true_and, and_true, li_len, Int.toNat_natCast]
  refine cases2_dec (fun h1 => by simp [rightB, h1]) fun h1 => ?_
  refine cases2_dec (fun h2 => by simp [rightB, h2]) fun h2 => ?_
  refine cases2_dec (fun h3 => ?_) fun h3 => ?_
  · have : ms.length < 1 := by omega
    simp [rightB, this]
  refine cases2_dec (fun h4 => ?_) fun h4 => ?_
  · have : 8 < ms.length := by omega
    simp [rightB, this]
  have hr : rightB v ms = okTo ms ms.length := by
    have h5 : ¬ ms.length < 1 := by omega
    have h6 : ¬ 8 < ms.length := by omega
    simp only [rightB, h1, h2, h5, h6, decide_false, Bool.not_false, Bool.true_and]
  rw [hr]
  refine ⟨⟨by omega, rfl⟩, fun i hi => ?_⟩
  obtain ⟨hi1, hi2⟩ := hi
  refine cases2_dec (fun h5 => ?_) fun h5 => ?_
  · have hlt : i < ms.length := by omega
    have next : ∀ (_ : badAt ms i = false), ∃ j, (j ≤ ms.length ∧ okTo ms j = true) ∧ ms.length - j < ms.length - i ∧ (i : Int) + 1 = (j : Int) := fun hb =>
      ⟨i + 1, ⟨by omega, okTo_succ ms i hi2 hb⟩, by omega, by omega⟩
    refine ⟨⟨by omega, li_get ms i hlt⟩, ?_⟩
    refine cases2_dec (fun h6 => (okTo_bad ms i hlt (by simp only [badAt, h6, decide_true, Bool.true_or])).symm) fun h6 => ?_
    refine cases2_dec (fun h7 => (okTo_bad ms i hlt (by simp only [badAt, h7, decide_true, Bool.true_or, Bool.or_true])).symm) fun h7 => ?_
    refine cases2_dec (fun h8 => ?_) fun h8 => ?_
    · refine ⟨by omega, ⟨by omega, ?_⟩, ?_⟩
      · rw [show Int.toNat ((i : Int) - 1) = i - 1 by omega]
        exact li_get ms (i - 1) (by omega)
      · have hp : 0 < i := by omega
        refine cases2_dec (fun h9 => (okTo_bad ms i hlt (by simp only [badAt, hp, h9, decide_true, Bool.and_self, Bool.or_true])).symm) fun h9 => ?_
        refine ⟨by omega, next ?_⟩
        simp only [badAt, h6, h7, h9, decide_false, Bool.and_false, Bool.or_false]
    · refine ⟨by omega, next ?_⟩
      have hp : ¬ 0 < i := by omega
      simp only [badAt, h6, h7, hp, decide_false, Bool.false_and, Bool.or_false]
  · have : i = ms.length := by omega
    subst this
    exact hi2.symm
end Ro

namespace Ro
open Go Go.AL Go.Proofs

def unI : T → Int
  | .i n => n
  | _ => 0
def unli (xs : List T) : List Int := xs.map unI
theorem unli_li (ms : List Int) : unli (li ms) = ms := by simp [unli, li, Function.comp_def, unI]

/-- A slice of numbers, or nil. -/
def asL : T → Option (List T)
  | .sl .lf xs => some xs
  | .v (.slice none 0 0) => some []
  | _ => none

theorem asL_vle {m : T} {xs : List T} (h : asL m = some xs) : vle m (.sl .lf xs) := by
  unfold asL at h
  split at h
  · simp only [Option.some.injEq] at h; subst h
    simp [vle, teq, Sk.beq]
  · simp only [Option.some.injEq] at h; subst h
    simp [vle]
  · cases h

/-! ## Entries -/
def s112 (args : List T) (ins : List Cont) : Option (Prop × T × List Cont) := match args, ins with
  | [.agg [.u64 v, m]], [] => match asL m with
    | some xs => some (xs = li (unli xs), .b (rightB v (unli xs)), [])
    | none => none
  | _, _ => none
def e112 : Ent := ⟨112, false, s112⟩

theorem ok112 : EntOk Try.prog e112 := by
  intro args ins pre res outs h hp
  simp only [e112] at h ⊢
  unfold s112 at h
  split at h
  · rename_i v m
    split at h
    · rename_i xs hm
      simp only [Option.some.injEq, Prod.mk.injEq] at h
      obtain ⟨rfl, rfl, rfl⟩ := h
      have := spec112 v (unli xs) (tbl_ok (by simp))
      rw [ls, ← hp] at this
      exact this.args (by simp [vles, vle, teq, asL_vle hm])
    · cases h
  · cases h

/-! ## Index, Contains -/
def findI (ms : List Int) (k : Int) (i : Nat) : Int := match ms with
  | [] => -1
  | m :: ms => if k = m then i else findI ms k (i + 1)

def O168 (ms : List Int) (k : Int) : Orc2 := orc (fun _ => []) fun _ => .inv Nat 0 (fun i => i ≤ ms.length ∧ ∀ j, j < i → ms.getD j 0 ≠ k) (fun i => ms.length - i) [] (fun i => [(8, .i i)]) [0, 1, 7] (fun _ => []) []
  (fun i j => match j with
    | 14 => [.i (ms.getD i 0)]
    | _ => []) (fun _ _ => .unroll 0)

def s168 (args : List T) (ins : List Cont) : Option (Prop × T × List Cont) := match args, ins with
  | [m, .i k], [] => match asL m with
    | some xs => some (xs = li (unli xs) ∧ xs.length ≤ 9223372036854775807, .i (findI (unli xs) k 0), [])
    | none => none
  | _, _ => none
def e168 : Ent := ⟨168, false, s168⟩

def s118 (args : List T) (ins : List Cont) : Option (Prop × T × List Cont) := match args, ins with
  | [m, .i k], [] => match asL m with
    | some xs => some (xs = li (unli xs) ∧ xs.length ≤ 9223372036854775807, .b (decide (0 ≤ findI (unli xs) k 0)), [])
    | none => none
  | _, _ => none
def e118 : Ent := ⟨118, false, s118⟩

/-! ## Clone -/
def s113 (args : List T) (ins : List Cont) : Option (Prop × T × List Cont) := match args, ins with
  | [m], [] => match asL m with
    | some xs => some (xs.length * 8 ≤ 140737488355328, .os .lf xs, [])
    | none => none
  | _, _ => none
def e113 : Ent := ⟨113, false, s113⟩

/-! ## Has, Majority, so -/
def hasB (v : UInt64) (ms : List Int) (k : Int) : Bool := rightB v ms && decide (0 ≤ findI ms k 0)
def s53 (args : List T) (ins : List Cont) : Option (Prop × T × List Cont) := match args, ins with
  | [.agg [.u64 v, m], .i k], [] => match asL m with
    | some xs => some (xs = li (unli xs), .b (hasB v (unli xs) k), [])
    | none => none
  | _, _ => none
def e53 : Ent := ⟨53, false, s53⟩
def s49 (args : List T) (ins : List Cont) : Option (Prop × T × List Cont) := match args, ins with
  | [.agg [.u64 v, m]], [] => match asL m with
    | some xs => some (xs = li (unli xs), .i (if rightB v (unli xs) then ((unli xs).length / 2 + 1 : Nat) else 0), [])
    | none => none
  | _, _ => none
def e49 : Ent := ⟨49, false, s49⟩
def s115 (args : List T) (ins : List Cont) : Option (Prop × T × List Cont) := match args, ins with
  | [.agg [.u64 v, m]], [] => match asL m with
    | some xs => some (xs = li (unli xs), .tup [ls (if rightB v (unli xs) then v else 0) (if rightB v (unli xs) then unli xs else []), .b (rightB v (unli xs))], [])
    | none => none
  | _, _ => none
def e115 : Ent := ⟨115, false, s115⟩

/-! ## Same -/
def O35 (xa xb : List Int) : Orc2 := orc (fun _ => []) fun _ => .inv Nat 0 (fun i => i ≤ xa.length ∧ xa.take i = xb.take i) (fun i => xa.length - i) [] (fun i => [(5, .i i)]) [0, 1] (fun _ => []) []
  (fun i j => match j with
    | 19 => [.i (xa.getD i 0)]
    | 23 => [.i (xb.getD i 0)]
    | _ => []) (fun _ _ => .unroll 0)
def s35 (args : List T) (ins : List Cont) : Option (Prop × T × List Cont) := match args, ins with
  | [m, n], [] => match asL m, asL n with
    | some xs, some ys => some (xs = li (unli xs) ∧ ys = li (unli ys) ∧ xs.length ≤ 9223372036854775807 ∧ ys.length ≤ 9223372036854775807, .b (unli xs == unli ys), [])
    | _, _ => none
  | _, _ => none
def e35 : Ent := ⟨35, false, s35⟩

/-! ## Follows -/
def diffN (v : UInt64) (xa : List Int) (w : UInt64) (xb : List Int) : Nat → Nat
  | 0 => 0
  | n + 1 => diffN v xa w xb n + (if hasB v xa n != hasB w xb n then 1 else 0)
def followsB (v : UInt64) (xa : List Int) (w : UInt64) (xb : List Int) : Bool := rightB v xa && rightB w xb && (w == v + 1) && (diffN v xa w xb 8 == 1)
def O52 (v : UInt64) (xa : List Int) (w : UInt64) (xb : List Int) : Orc2 := orc (fun _ => []) fun _ => .inv Nat 0 (fun i => i ≤ 8) (fun i => 8 - i) [] (fun i => [(23, .i i), (5, .i (diffN v xa w xb i))]) [2, 3] (fun _ => []) [1, 2]
  (fun _ _ => []) (fun _ _ => .unroll 0)
def s52 (args : List T) (ins : List Cont) : Option (Prop × T × List Cont) := match args, ins with
  | [.agg [.u64 v, m], .agg [.u64 w, n]], [] => match asL m, asL n with
    | some xs, some ys => some (xs = li (unli xs) ∧ ys = li (unli ys), .b (followsB v (unli xs) w (unli ys)), [])
    | _, _ => none
  | _, _ => none
def e52 : Ent := ⟨52, false, s52⟩
end Ro

namespace Ro
open Go Go.AL Go.Proofs
theorem of168 (ms : List Int) (k : Int) (hT : TblOk Try.prog (tbl []))
    (h : True ∧ True ∧ True ∧ True ∧ True ∧ ((0 : Nat) ≤ List.length ms ∧ ∀ (j : Nat), j < (0 : Nat) → List.getD ms j (0 : Int) = k → False) ∧ ((li ms = li ms ∧ k = k ∧ (↑(List.length (li ms)) : Int) = (↑(List.length (li ms)) : Int) ∧ (0 : Int) = (0 : Int) ∧ True) ∧ True) ∧ ∀ (i : Nat), (i ≤ List.length ms ∧ ∀ (j : Nat), j < i → List.getD ms j (0 : Int) = k → False) → True ∧ cases2 (decide ((↑i : Int) < (↑(List.length (li ms)) : Int))) (True ∧ True ∧ True ∧ True ∧ True ∧ ((0 : Int) ≤ (↑i : Int) ∧ (li ms)[Int.toNat (↑i : Int)]? = some (T.i (List.getD ms i (0 : Int)))) ∧ True ∧ True ∧ cases2 (k == List.getD ms i (0 : Int)) (True ∧ True ∧ True ∧ True ∧ True ∧ (↑i : Int) = findI ms k (0 : Nat)) (((-9223372036854775808 : Int) ≤ (↑i : Int) + (1 : Int) ∧ (↑i : Int) + (1 : Int) ≤ (9223372036854775807 : Int)) ∧ True ∧ ∃ j, (j ≤ List.length ms ∧ ∀ (j_1 : Nat), j_1 < j → List.getD ms j_1 (0 : Int) = k → False) ∧ List.length ms - j < List.length ms - i ∧ (li ms = li ms ∧ k = k ∧ (↑(List.length (li ms)) : Int) = (↑(List.length (li ms)) : Int) ∧ (↑i : Int) + (1 : Int) = (↑j : Int) ∧ True) ∧ True)) (True ∧ True ∧ True ∧ True ∧ (-1 : Int) = findI ms k (0 : Nat))) :
    Spec Try.prog 168 [.sl .lf (li ms), .i k] [] (.i (findI ms k 0)) [] :=
  spec_of_tr (by kernel_rfl) hT Try.func168 (c := Try.f168.body.getD .skip) (by kernel_rfl) (O168 ms k) (Eq.mp (by kernel_rfl) h)

theorem of118 (ms : List Int) (k : Int) (hT : TblOk Try.prog (tbl [e168]))
    (h : True ∧ True ∧ True ∧ ((True ∧ True ∧ True) ∧ li ms = li (unli (li ms)) ∧ List.length (li ms) ≤ (9223372036854775807 : Nat)) ∧ True ∧ True ∧ True ∧ True ∧ True ∧ decide (findI (unli (li ms)) k (0 : Nat) ≥ (0 : Int)) = decide ((0 : Int) ≤ findI ms k (0 : Nat))) :
    Spec Try.prog 118 [.sl .lf (li ms), .i k] [] (.b (decide (0 ≤ findI ms k 0))) [] :=
  spec_of_tr (by kernel_rfl) hT Try.func118 (c := Try.f118.body.getD .skip) (by kernel_rfl) (noO) (Eq.mp (by kernel_rfl) h)

theorem of113 (xs : List T) (hT : TblOk Try.prog (tbl []))
    (h : True ∧ True ∧ (xs = [] → True ∧ True ∧ True ∧ xs = []) ∧ True ∧ True ∧ (True ∧ ((0 : Nat) + List.length xs) * (8 : Nat) ≤ (140737488355328 : Nat) ∧ (0 : Nat) + List.length xs ≤ (9223372036854775807 : Nat)) ∧ True ∧ True ∧ True ∧ [] ++ xs = xs) :
    Spec Try.prog 113 [.sl .lf xs] [] (.os .lf xs) [] :=
  spec_of_tr (by kernel_rfl) hT Try.func113 (c := Try.f113.body.getD .skip) (by kernel_rfl) (noO) (Eq.mp (by kernel_rfl) h)

theorem of53 (v : UInt64) (ms : List Int) (k : Int) (hT : TblOk Try.prog (tbl [e112, e118]))
    (h : True ∧ True ∧ True ∧ (((True ∧ True ∧ True) ∧ True) ∧ li ms = li (unli (li ms))) ∧ True ∧ cases2 (rightB v (unli (li ms))) (True ∧ True ∧ True ∧ ((True ∧ True ∧ True) ∧ li ms = li (unli (li ms)) ∧ List.length (li ms) ≤ (9223372036854775807 : Nat)) ∧ True ∧ True ∧ True ∧ True ∧ True ∧ decide ((0 : Int) ≤ findI (unli (li ms)) k (0 : Nat)) = hasB v ms k) (True ∧ True ∧ True ∧ True ∧ True ∧ false = hasB v ms k)) :
    Spec Try.prog 53 [ls v ms, .i k] [] (.b (hasB v ms k)) [] :=
  spec_of_tr (by kernel_rfl) hT Try.func53 (c := Try.f53.body.getD .skip) (by kernel_rfl) (noO) (Eq.mp (by kernel_rfl) h)

theorem of49 (v : UInt64) (ms : List Int) (hT : TblOk Try.prog (tbl [e112]))
    (h : True ∧ True ∧ True ∧ (((True ∧ True ∧ True) ∧ True) ∧ li ms = li (unli (li ms))) ∧ True ∧ cases2 (!rightB v (unli (li ms))) (True ∧ True ∧ True ∧ True ∧ (0 : Int) = if rightB v ms = true then (↑(List.length ms / (2 : Nat) + (1 : Nat)) : Int) else (0 : Int)) (True ∧ True ∧ True ∧ (((2 : Int) = (0 : Int) → False) ∧ (-9223372036854775808 : Int) ≤ Int.tdiv (↑(List.length (li ms)) : Int) (2 : Int) ∧ Int.tdiv (↑(List.length (li ms)) : Int) (2 : Int) ≤ (9223372036854775807 : Int)) ∧ ((-9223372036854775808 : Int) ≤ Int.tdiv (↑(List.length (li ms)) : Int) (2 : Int) + (1 : Int) ∧ Int.tdiv (↑(List.length (li ms)) : Int) (2 : Int) + (1 : Int) ≤ (9223372036854775807 : Int)) ∧ True ∧ True ∧ True ∧ True ∧ Int.tdiv (↑(List.length (li ms)) : Int) (2 : Int) + (1 : Int) = if rightB v ms = true then (↑(List.length ms / (2 : Nat) + (1 : Nat)) : Int) else (0 : Int))) :
    Spec Try.prog 49 [ls v ms] [] (.i (if rightB v ms then (ms.length / 2 + 1 : Nat) else 0)) [] :=
  spec_of_tr (by kernel_rfl) hT Try.func49 (c := Try.f49.body.getD .skip) (by kernel_rfl) (noO) (Eq.mp (by kernel_rfl) h)

theorem of115 (v : UInt64) (ms : List Int) (hT : TblOk Try.prog (tbl [e112]))
    (h : True ∧ True ∧ True ∧ True ∧ (((True ∧ True ∧ True) ∧ True) ∧ li ms = li (unli (li ms))) ∧ True ∧ cases2 (!rightB v (unli (li ms))) (True ∧ True ∧ True ∧ (True ∧ True) ∧ True ∧ ((True ∧ True ∧ True) ∧ True ∧ True) ∧ (((0 : UInt64) = if rightB v ms = true then v else (0 : UInt64)) ∧ li (if rightB v ms = true then ms else []) = [] ∧ True) ∧ false = rightB v ms ∧ True) (True ∧ True ∧ True ∧ (True ∧ True) ∧ True ∧ ((True ∧ True ∧ True) ∧ True ∧ True) ∧ ((v = if rightB v ms = true then v else (0 : UInt64)) ∧ li ms = li (if rightB v ms = true then ms else []) ∧ True) ∧ true = rightB v ms ∧ True)) :
    Spec Try.prog 115 [ls v ms] [] (.tup [ls (if rightB v ms then v else 0) (if rightB v ms then ms else []), .b (rightB v ms)]) [] :=
  spec_of_tr (by kernel_rfl) hT Try.func115 (c := Try.f115.body.getD .skip) (by kernel_rfl) (noO) (Eq.mp (by kernel_rfl) h)

theorem of35 (xa xb : List Int) (hT : TblOk Try.prog (tbl []))
    (h : True ∧ True ∧ True ∧ True ∧ True ∧ True ∧ cases2 ((↑(List.length (li xa)) : Int) != (↑(List.length (li xb)) : Int)) (True ∧ True ∧ True ∧ True ∧ false = (xa == xb)) (True ∧ True ∧ ((0 : Nat) ≤ List.length xa ∧ List.take (0 : Nat) xa = List.take (0 : Nat) xb) ∧ ((li xa = li xa ∧ li xb = li xb ∧ (0 : Int) = (0 : Int) ∧ True) ∧ True) ∧ ∀ (i : Nat), i ≤ List.length xa ∧ List.take i xa = List.take i xb → True ∧ True ∧ True ∧ True ∧ cases2 (decide ((↑i : Int) < (↑(List.length (li xa)) : Int))) (True ∧ True ∧ ((0 : Int) ≤ (↑i : Int) ∧ (li xa)[Int.toNat (↑i : Int)]? = some (T.i (List.getD xa i (0 : Int)))) ∧ True ∧ True ∧ True ∧ ((0 : Int) ≤ (↑i : Int) ∧ (li xb)[Int.toNat (↑i : Int)]? = some (T.i (List.getD xb i (0 : Int)))) ∧ True ∧ True ∧ cases2 (List.getD xa i (0 : Int) != List.getD xb i (0 : Int)) (True ∧ True ∧ True ∧ True ∧ false = (xa == xb)) (True ∧ ((-9223372036854775808 : Int) ≤ (↑i : Int) + (1 : Int) ∧ (↑i : Int) + (1 : Int) ≤ (9223372036854775807 : Int)) ∧ True ∧ ∃ j, (j ≤ List.length xa ∧ List.take j xa = List.take j xb) ∧ List.length xa - j < List.length xa - i ∧ (li xa = li xa ∧ li xb = li xb ∧ (↑i : Int) + (1 : Int) = (↑j : Int) ∧ True) ∧ True)) (True ∧ True ∧ True ∧ True ∧ true = (xa == xb)))) :
    Spec Try.prog 35 [.sl .lf (li xa), .sl .lf (li xb)] [] (.b (xa == xb)) [] :=
  spec_of_tr (by kernel_rfl) hT Try.func35 (c := Try.f35.body.getD .skip) (by kernel_rfl) (O35 xa xb) (Eq.mp (by kernel_rfl) h)

theorem of52 (v : UInt64) (xa : List Int) (w : UInt64) (xb : List Int) (hT : TblOk Try.prog (tbl [e112, e53]))
    (h : True ∧ True ∧ True ∧ True ∧ (((True ∧ True ∧ True) ∧ True) ∧ li xa = li (unli (li xa))) ∧ True ∧ True ∧ cases2 (!rightB v (unli (li xa))) (True ∧ True ∧ True ∧ True ∧ True ∧ True ∧ True ∧ false = followsB v xa w xb) (True ∧ (((True ∧ True ∧ True) ∧ True) ∧ li xb = li (unli (li xb))) ∧ True ∧ True ∧ True ∧ cases2 (!rightB w (unli (li xb))) (True ∧ True ∧ True ∧ True ∧ True ∧ false = followsB v xa w xb) (True ∧ True ∧ True ∧ True ∧ True ∧ True ∧ True ∧ cases2 (w != v + (1 : UInt64)) (True ∧ True ∧ True ∧ True ∧ false = followsB v xa w xb) (True ∧ True ∧ True ∧ (0 : Nat) ≤ (8 : Nat) ∧ ((True ∧ True ∧ (0 : Int) = (↑(diffN v xa w xb (0 : Nat)) : Int) ∧ (0 : Int) = (0 : Int) ∧ True) ∧ (v = v ∧ li xa = li xa ∧ True) ∧ (w = w ∧ li xb = li xb ∧ True) ∧ True) ∧ ∀ (i : Nat), i ≤ (8 : Nat) → True ∧ cases2 (decide ((↑i : Int) < (8 : Int))) (True ∧ True ∧ True ∧ True ∧ (((True ∧ True ∧ True) ∧ True ∧ True) ∧ li xa = li (unli (li xa))) ∧ True ∧ True ∧ (((True ∧ True ∧ True) ∧ True ∧ True) ∧ li xb = li (unli (li xb))) ∧ True ∧ cases2 (hasB v (unli (li xa)) (↑i : Int) != hasB w (unli (li xb)) (↑i : Int)) (True ∧ ((-9223372036854775808 : Int) ≤ (↑(diffN v xa w xb i) : Int) + (1 : Int) ∧ (↑(diffN v xa w xb i) : Int) + (1 : Int) ≤ (9223372036854775807 : Int)) ∧ True ∧ ((-9223372036854775808 : Int) ≤ (↑i : Int) + (1 : Int) ∧ (↑i : Int) + (1 : Int) ≤ (9223372036854775807 : Int)) ∧ True ∧ ∃ j, j ≤ (8 : Nat) ∧ (8 : Nat) - j < (8 : Nat) - i ∧ (True ∧ True ∧ (↑(diffN v xa w xb i) : Int) + (1 : Int) = (↑(diffN v xa w xb j) : Int) ∧ (↑i : Int) + (1 : Int) = (↑j : Int) ∧ True) ∧ (v = v ∧ li xa = li xa ∧ True) ∧ (w = w ∧ li xb = li xb ∧ True) ∧ True) (((-9223372036854775808 : Int) ≤ (↑i : Int) + (1 : Int) ∧ (↑i : Int) + (1 : Int) ≤ (9223372036854775807 : Int)) ∧ True ∧ ∃ j, j ≤ (8 : Nat) ∧ (8 : Nat) - j < (8 : Nat) - i ∧ (True ∧ True ∧ (↑(diffN v xa w xb i) : Int) = (↑(diffN v xa w xb j) : Int) ∧ (↑i : Int) + (1 : Int) = (↑j : Int) ∧ True) ∧ (v = v ∧ li xa = li xa ∧ True) ∧ (w = w ∧ li xb = li xb ∧ True) ∧ True)) (True ∧ True ∧ True ∧ True ∧ True ∧ True ∧ ((↑(diffN v xa w xb i) : Int) == (1 : Int)) = followsB v xa w xb))))) :
    Spec Try.prog 52 [ls v xa, ls w xb] [] (.b (followsB v xa w xb)) [] :=
  spec_of_tr (by kernel_rfl) hT Try.func52 (c := Try.f52.body.getD .skip) (by kernel_rfl) (O52 v xa w xb) (Eq.mp (by kernel_rfl) h)

end Ro

namespace Ro
open Go Go.AL Go.Proofs

theorem findI_ge (ms : List Int) (k : Int) : ∀ i : Nat, findI ms k i = -1 ∨ (i : Int) ≤ findI ms k i := by
  induction ms with
  | nil => intro i; left; rfl
  | cons m ms ih =>
    intro i
    unfold findI
    split
    · right; omega
    · rcases ih (i + 1) with h | h
      · exact .inl h
      · right; omega

theorem findI_at : ∀ (ms : List Int) (k : Int) (b i : Nat), i < ms.length → (∀ j, j < i → ms.getD j 0 ≠ k) → ms.getD i 0 = k → findI ms k b = b + i
  | [], _, _, i, h, _, _ => by simp at h
  | m :: ms, k, b, 0, _, _, h => by
    simp at h
    simp [findI, h]
  | m :: ms, k, b, i + 1, hi, hn, h => by
    have h0 := hn 0 (by omega)
    simp at h0
    unfold findI
    rw [if_neg (fun e => h0 e.symm), findI_at ms k (b + 1) i (by simpa using hi) (fun j hj => by have := hn (j + 1) (by omega); simpa using this) (by simpa using h)]
    omega

theorem findI_no : ∀ (ms : List Int) (k : Int) (b : Nat), (∀ j, j < ms.length → ms.getD j 0 ≠ k) → findI ms k b = -1
  | [], _, _, _ => rfl
  | m :: ms, k, b, hn => by
    have h0 := hn 0 (by simp)
    simp at h0
    unfold findI
    rw [if_neg (fun e => h0 e.symm)]
    exact findI_no ms k (b + 1) (fun j hj => by have := hn (j + 1) (by simp; omega); simpa using this)

theorem spec168 (ms : List Int) (k : Int) (hl : ms.length ≤ 9223372036854775807) (hT : TblOk Try.prog (tbl [])) : Spec Try.prog 168 [.sl .lf (li ms), .i k] [] (.i (findI ms k 0)) [] := by
  refine of168 ms k hT ?_
  simp only [true_and, and_true, li_len, Int.toNat_natCast]
  refine ⟨⟨Nat.zero_le _, fun j hj => by omega⟩, fun i hi => ?_⟩
  obtain ⟨hi1, hi2⟩ := hi
  refine cases2_dec (fun h => ?_) fun h => ?_
  · have hlt : i < ms.length := by omega
    refine ⟨⟨by omega, li_get ms i hlt⟩, cases2_of (fun h1 => ?_) fun h1 => ?_⟩
    · have h1 : k = ms.getD i 0 := by simpa using h1
      rw [findI_at ms k 0 i hlt hi2 h1.symm]; simp
    · have h1 : k ≠ ms.getD i 0 := by simpa using h1
      refine ⟨by omega, i + 1, ⟨by omega, fun j hj => ?_⟩, by omega, by omega⟩
      by_cases hji : j = i
      · subst hji; exact fun e => h1 e.symm
      · exact hi2 j (by omega)
  · have : i = ms.length := by omega
    subst this
    exact (findI_no ms k 0 (fun j hj => hi2 j hj)).symm

theorem ok168 : EntOk Try.prog e168 := by
  intro args ins pre res outs h hp
  simp only [e168] at h ⊢
  unfold s168 at h
  split at h
  · rename_i m k
    split at h
    · rename_i xs hm
      simp only [Option.some.injEq, Prod.mk.injEq] at h
      obtain ⟨rfl, rfl, rfl⟩ := h
      have := spec168 (unli xs) k (by rw [unli, List.length_map]; exact hp.2) (tbl_ok (by simp))
      rw [← hp.1] at this
      exact this.args (by simp [vles, vle, teq, asL_vle hm])
    · cases h
  · cases h

theorem ok118 : EntOk Try.prog e118 := by
  intro args ins pre res outs h hp
  simp only [e118] at h ⊢
  unfold s118 at h
  split at h
  · rename_i m k
    split at h
    · rename_i xs hm
      simp only [Option.some.injEq, Prod.mk.injEq] at h
      obtain ⟨rfl, rfl, rfl⟩ := h
      have := of118 (unli xs) k (tbl_ok (by simp [ok168])) (by
        have : (li (unli xs)).length ≤ 9223372036854775807 := by rw [← hp.1]; exact hp.2
        simp only [unli_li, and_true, this, ge_iff_le])
      rw [← hp.1] at this
      exact this.args (by simp [vles, vle, teq, asL_vle hm])
    · cases h
  · cases h

theorem ok113 : EntOk Try.prog e113 := by
  intro args ins pre res outs h hp
  simp only [e113] at h ⊢
  unfold s113 at h
  split at h
  · rename_i m
    split at h
    · rename_i xs hm
      simp only [Option.some.injEq, Prod.mk.injEq] at h
      obtain ⟨rfl, rfl, rfl⟩ := h
      refine (of113 xs (tbl_ok (by simp)) ?_).args (by simp [vles, asL_vle hm])
      simp only [true_and, and_true, Nat.zero_add, List.nil_append]
      exact ⟨fun h => h, hp, by omega⟩
    · cases h
  · cases h

theorem ok53 : EntOk Try.prog e53 := by
  intro args ins pre res outs h hp
  simp only [e53] at h ⊢
  unfold s53 at h
  split at h
  · rename_i v m k
    split at h
    · rename_i xs hm
      simp only [Option.some.injEq, Prod.mk.injEq] at h
      obtain ⟨rfl, rfl, rfl⟩ := h
      have := of53 v (unli xs) k (tbl_ok (by simp [ok112, ok118])) (by
        simp only [unli_li, true_and, and_true]
        refine cases2_of (fun h => ?_) fun h => ?_
        · have hlen : (li (unli xs)).length ≤ 9223372036854775807 := by
            rw [li_len]
            unfold rightB at h
            simp only [Bool.and_eq_true, Bool.not_eq_true', decide_eq_false_iff_not] at h
            omega
          exact ⟨hlen, by simp [hasB, h]⟩
        · simp [hasB, h])
      rw [ls, ← hp] at this
      exact this.args (by simp [vles, vle, teq, asL_vle hm])
    · cases h
  · cases h

theorem right_len {v : UInt64} {ms : List Int} (h : rightB v ms = true) : 1 ≤ ms.length ∧ ms.length ≤ 8 := by
  unfold rightB at h
  simp only [Bool.and_eq_true, Bool.not_eq_true', decide_eq_false_iff_not] at h
  omega

theorem ok49 : EntOk Try.prog e49 := by
  intro args ins pre res outs h hp
  simp only [e49] at h ⊢
  unfold s49 at h
  split at h
  · rename_i v m
    split at h
    · rename_i xs hm
      simp only [Option.some.injEq, Prod.mk.injEq] at h
      obtain ⟨rfl, rfl, rfl⟩ := h
      have := of49 v (unli xs) (tbl_ok (by simp [ok112])) (by
        simp only [unli_li, true_and, and_true, li_len]
        refine cases2_of (fun h => ?_) fun h => ?_
        · have h : rightB v (unli xs) = false := by simpa using h
          simp [h]
        · have h : rightB v (unli xs) = true := by simpa using h
          have := right_len h
          rw [if_pos h, Int.tdiv_eq_ediv_of_nonneg (by omega)]
          refine ⟨⟨by omega, by omega, by omega⟩, ⟨by omega, by omega⟩, by omega⟩)
      rw [ls, ← hp] at this
      exact this.args (by simp [vles, vle, teq, asL_vle hm])
    · cases h
  · cases h

theorem ok115 : EntOk Try.prog e115 := by
  intro args ins pre res outs h hp
  simp only [e115] at h ⊢
  unfold s115 at h
  split at h
  · rename_i v m
    split at h
    · rename_i xs hm
      simp only [Option.some.injEq, Prod.mk.injEq] at h
      obtain ⟨rfl, rfl, rfl⟩ := h
      have := of115 v (unli xs) (tbl_ok (by simp [ok112])) (by
        simp only [unli_li, true_and, and_true]
        refine cases2_of (fun h => ?_) fun h => ?_
        · have h : rightB v (unli xs) = false := by simpa using h
          simp [h, li]
        · have h : rightB v (unli xs) = true := by simpa using h
          simp [h])
      have e : ls v (unli xs) = .agg [.u64 v, .sl .lf xs] := by rw [ls, ← hp]
      rw [e] at this
      exact this.args (by simp [vles, vle, teq, asL_vle hm])
    · cases h
  · cases h

theorem ok35 : EntOk Try.prog e35 := by
  intro args ins pre res outs h hp
  simp only [e35] at h ⊢
  unfold s35 at h
  split at h
  · rename_i m n
    split at h
    · rename_i xs ys hm hn
      simp only [Option.some.injEq, Prod.mk.injEq] at h
      obtain ⟨rfl, rfl, rfl⟩ := h
      obtain ⟨hp1, hp2, hp3, hp4⟩ := hp
      have hla : (unli xs).length ≤ 9223372036854775807 := by simpa [unli] using hp3
      have := of35 (unli xs) (unli ys) (tbl_ok (by simp)) (by
        generalize unli xs = xa at hla
        generalize unli ys = xb
        simp only [true_and, and_true, li_len, Int.toNat_natCast]
        refine cases2_of (fun h => ?_) fun h => ?_
        · have h : ¬ xa.length = xb.length := by simp at h; omega
          symm
          rw [Bool.eq_false_iff]
          intro hb
          exact h (by rw [eq_of_beq hb])
        · have hlen : xa.length = xb.length := by simp at h; omega
          refine ⟨⟨Nat.zero_le _, rfl⟩, fun i hi => ?_⟩
          obtain ⟨h1, h2⟩ := hi
          refine cases2_dec (fun h3 => ?_) fun h3 => ?_
          · have hlt : i < xa.length := by omega
            refine ⟨⟨by omega, li_get xa i hlt⟩, ⟨by omega, li_get xb i (by omega)⟩, cases2_of (fun h4 => ?_) fun h4 => ?_⟩
            · symm
              rw [Bool.eq_false_iff]
              intro hb
              rw [eq_of_beq hb] at h4
              simp at h4
            · have h4 : xa.getD i 0 = xb.getD i 0 := by simpa using h4
              refine ⟨by omega, i + 1, ⟨by omega, ?_⟩, by omega, by omega⟩
              rw [List.take_add_one, List.take_add_one, h2]
              congr 1
              have e1 : xa[i]? = some (xa.getD i 0) := by simp [hlt]
              have e2 : xb[i]? = some (xb.getD i 0) := by simp [show i < xb.length by omega]
              rw [e1, e2, h4]
          · have hi : i = xa.length := by omega
            subst hi
            rw [List.take_length, hlen, List.take_length] at h2
            subst h2
            simp)
      rw [← hp1, ← hp2] at this
      exact this.args (by simp [vles, asL_vle hm, asL_vle hn])
    · cases h
  · cases h

theorem diffN_le (v : UInt64) (xa : List Int) (w : UInt64) (xb : List Int) : ∀ n, diffN v xa w xb n ≤ n
  | 0 => Nat.le_refl _
  | n + 1 => by
    have := diffN_le v xa w xb n
    unfold diffN
    split <;> omega

theorem ok52 : EntOk Try.prog e52 := by
  intro args ins pre res outs h hp
  simp only [e52] at h ⊢
  unfold s52 at h
  split at h
  · rename_i v m w n
    split at h
    · rename_i xs ys hm hn
      simp only [Option.some.injEq, Prod.mk.injEq] at h
      obtain ⟨rfl, rfl, rfl⟩ := h
      obtain ⟨hp1, hp2⟩ := hp
      have := of52 v (unli xs) w (unli ys) (tbl_ok (by simp [ok112, ok53])) (by
        generalize unli xs = xa
        generalize unli ys = xb
        simp only [unli_li, true_and, and_true]
        refine cases2_of (fun h => ?_) fun h => ?_
        · simp at h; simp [followsB, h]
        have h : rightB v xa = true := by simpa using h
        refine cases2_of (fun h' => ?_) fun h' => ?_
        · simp at h'; simp [followsB, h']
        have h' : rightB w xb = true := by simpa using h'
        refine cases2_of (fun h3 => ?_) fun h3 => ?_
        · have h3 : ¬ w = v + 1 := by simpa using h3
          simp [followsB, h3]
        have h3 : w = v + 1 := by simpa using h3
        refine ⟨by omega, by simp [diffN], fun i hi => ?_⟩
        have hd := diffN_le v xa w xb i
        refine cases2_dec (fun h4 => ?_) fun h4 => ?_
        · refine cases2_of (fun h5 => ?_) fun h5 => ?_
          · refine ⟨by omega, by omega, i + 1, by omega, by omega, ?_, by omega⟩
            simp [diffN, h5]
          · refine ⟨by omega, i + 1, by omega, by omega, ?_, by omega⟩
            simp [diffN, h5]
        · have : i = 8 := by omega
          subst this
          subst h3
          simp only [followsB, h, h', beq_self_eq_true, Bool.true_and]
          rw [Bool.eq_iff_iff]
          simp only [beq_iff_eq]
          omega)
      rw [ls, ls, ← hp1, ← hp2] at this
      exact this.args (by simp [vles, vle, teq, asL_vle hm, asL_vle hn])
    · cases h
  · cases h
end Ro

namespace Go.Proofs
open Go.Shelf
def Try.lays189_ren : Go.Shelf.Ren := ⟨fun | 189 => 114 | 125 => 166 | 257 => 165 | 128 => 211 | 129 => 212 | 294 => 202 | 295 => 203 | 296 => 204 | 297 => 205 | 298 => 206 | 299 => 207 | 216 => 208 | 300 => 209 | 301 => 210 | 328 => 221 | 329 => 222 | 330 => 223 | 331 => 224 | 332 => 225 | 215 => 226 | 343 => 228 | n => n, fun | 28 => 77 | 3 => 3 | 46 => 104 | 0 => 0 | 51 => 225 | 53 => 24 | 4 => 4 | 183 => 251 | 182 => 250 | 131 => 116 | 5 => 5 | 9 => 9 | 218 => 263 | 222 => 266 | 228 => 269 | 229 => 201 | n => n, fun | n => n⟩
theorem Try.lays189 : Go.Proofs.Lays.n189 Try.prog Try.lays189_ren := {
  mixed := by kernel_rfl
  f125 := Try.func166.trans (congrArg some (by kernel_rfl))
  f128 := Try.func211.trans (congrArg some (by kernel_rfl))
  f129 := Try.func212.trans (congrArg some (by kernel_rfl))
  f189 := Try.func114.trans (congrArg some (by kernel_rfl))
  f215 := Try.func226.trans (congrArg some (by kernel_rfl))
  f216 := Try.func208.trans (congrArg some (by kernel_rfl))
  f257 := Try.func165.trans (congrArg some (by kernel_rfl))
  f294 := Try.func202.trans (congrArg some (by kernel_rfl))
  f295 := Try.func203.trans (congrArg some (by kernel_rfl))
  f296 := Try.func204.trans (congrArg some (by kernel_rfl))
  f297 := Try.func205.trans (congrArg some (by kernel_rfl))
  f298 := Try.func206.trans (congrArg some (by kernel_rfl))
  f299 := Try.func207.trans (congrArg some (by kernel_rfl))
  f300 := Try.func209.trans (congrArg some (by kernel_rfl))
  f301 := Try.func210.trans (congrArg some (by kernel_rfl))
  f328 := Try.func221.trans (congrArg some (by kernel_rfl))
  f329 := Try.func222.trans (congrArg some (by kernel_rfl))
  f330 := Try.func223.trans (congrArg some (by kernel_rfl))
  f331 := Try.func224.trans (congrArg some (by kernel_rfl))
  f332 := Try.func225.trans (congrArg some (by kernel_rfl))
  f343 := Try.func228.trans (congrArg some (by kernel_rfl))
  t0 := Try.underlying0
  a0 := Try.isAgg0
  z0 := Try.sizeOf0
  v0 := Try.zeroValue0
  t3 := Try.underlying3
  a3 := Try.isAgg3
  z3 := Try.sizeOf3
  v3 := Try.zeroValue3
  t4 := Try.underlying4
  a4 := Try.isAgg4
  z4 := Try.sizeOf4
  v4 := Try.zeroValue4
  t5 := Try.underlying5
  a5 := Try.isAgg5
  z5 := Try.sizeOf5
  v5 := Try.zeroValue5
  t9 := Try.underlying9
  a9 := Try.isAgg9
  z9 := Try.sizeOf9
  v9 := Try.zeroValue9
  t28 := Try.underlying77
  a28 := Try.isAgg77
  z28 := Try.sizeOf77
  v28 := Try.zeroValue77
  t46 := Try.underlying104
  a46 := Try.isAgg104
  z46 := Try.sizeOf104
  v46 := Try.zeroValue104
  t51 := Try.underlying225
  a51 := Try.isAgg225
  z51 := Try.sizeOf225
  v51 := Try.zeroValue225
  t53 := Try.underlying24
  a53 := Try.isAgg24
  z53 := Try.sizeOf24
  v53 := Try.zeroValue24
  t131 := Try.underlying116
  a131 := Try.isAgg116
  z131 := Try.sizeOf116
  v131 := Try.zeroValue116
  t182 := Try.underlying250
  a182 := Try.isAgg250
  z182 := Try.sizeOf250
  v182 := Try.zeroValue250
  t183 := Try.underlying251
  a183 := Try.isAgg251
  z183 := Try.sizeOf251
  v183 := Try.zeroValue251
  t218 := Try.underlying263
  a218 := Try.isAgg263
  z218 := Try.sizeOf263
  v218 := Try.zeroValue263
  t222 := Try.underlying266
  a222 := Try.isAgg266
  z222 := Try.sizeOf266
  v222 := Try.zeroValue266
  t228 := Try.underlying269
  a228 := Try.isAgg269
  z228 := Try.sizeOf269
  v228 := Try.zeroValue269
  t229 := Try.underlying201
  a229 := Try.isAgg201
  z229 := Try.sizeOf201
  v229 := Try.zeroValue201 }
end Go.Proofs
namespace Ro
open Go Go.AL Go.Proofs

def sortI (ms : List Int) : List Int := ms.mergeSort fun x y => decide (x ≤ y)

def s114 (args : List T) (ins : List Cont) : Option (Prop × T × List Cont) := match args, ins with
  | [.row 0 [] 0 none], [.rs .lf xs] => some (xs = li (unli xs) ∧ 0 < xs.length ∧ xs.length < 4611686018427387904, .tup [], [.rs .lf (li (sortI (unli xs)))])
  | _, _ => none
def e114 : Ent := ⟨114, true, s114⟩

theorem RU_li {w : World} {N : Nat → Prop} : ∀ (ms : List Int) (ds : List Value), RU w N .lf (li ms) ds ↔ ds = ms.map (Value.int .i64)
  | [], ds => by simp [li, RU]
  | m :: ms, ds => by
    have ih := RU_li (w := w) (N := N) ms
    simp only [li, List.map_cons, RU]
    constructor
    · rintro ⟨c1, c2, rfl, h1, h2, h3, h4⟩
      simp only [RC] at h3
      rw [h3, (ih c2).1 h4]; rfl
    · rintro rfl
      exact ⟨[.int .i64 m], _, rfl, rfl, rfl, by simp only [RC], (ih _).2 rfl⟩

theorem ok114 : EntOk Try.prog e114 := by
  intro args ins pre res outs h hp
  simp only [e114] at h ⊢
  unfold s114 at h
  split at h
  · rename_i xs
    simp only [Option.some.injEq, Prod.mk.injEq] at h
    obtain ⟨rfl, rfl, rfl⟩ := h
    obtain ⟨hx, h0, hl⟩ := hp
    generalize hms : unli xs = ms at hx
    subst hx
    intro w N bs vs hb1 hb2 hb3 hb4 hb5 hb6 hb7
    obtain ⟨b, cs, e, q1, q2, ds, r, q3, q4⟩ := hb5 0 _ rfl
    have q4 := (RU_li ms ds).1 q4
    obtain ⟨v, r1, r2⟩ := hb7 0 _ rfl
    have hbs : bs = [b] := by
      match bs, hb1, q1 with
      | [b'], _, q1 => simp at q1; rw [q1]
    subst hbs
    have hvs : vs = [v] := by
      match vs, hb6, r1 with
      | [v'], _, r1 => simp at r1; rw [r1]
    subst hvs
    rcases r2 with ⟨hc, _⟩ | ⟨_, r2⟩
    · cases hc
    simp only [RC] at r2
    obtain ⟨_, hv, hone, b', c', xs', e', g1, g2, g3, g4⟩ := r2
    simp only [List.cons.injEq, and_true] at hv
    subst hv
    simp at g1 g2
    subst g1; subst g2
    rw [q2] at g3
    simp only [Option.some.injEq, Obj.cells.injEq] at g3
    obtain ⟨rfl, rfl, _⟩ := g3
    obtain ⟨n, sz, k1, k2, A, cap, rfl, k3, k4, k5⟩ := g4
    simp only [Cont.len, Option.some.injEq, Prod.mk.injEq, li_len, Sk.size] at k1
    obtain ⟨rfl, rfl⟩ := k1
    simp only [Option.getD_none, Nat.sub_zero, Nat.zero_add, Cont.off, Nat.mul_one, Nat.add_zero] at k2 k3 k4 k5
    have hml : 0 < ms.length := by simpa [li_len] using h0
    have hA := k5 (by omega)
    subst hA
    have hblt : b < w.heap.size := hb4 b (hb3 b (by simp))
    have hcell : ∀ j, j < ms.length → cs[j]? = some (.int .i64 (ms.getD j 0)) := by
      intro j hj
      have : cs.toList[j]? = some (.int .i64 (ms.getD j 0)) := by
        rw [q3, q4, List.getElem?_append_left (by simpa using hj)]
        simp [hj]
      simpa using this
    have hH : Sort.Holds (Value.int .i64) w b 0 ms.toArray := by
      intro j hj
      have hj : j < ms.length := by simpa using hj
      have := hcell j hj
      constructor
      · simp only [World.cell?, q2, Nat.zero_add]
        simp [this, hj]
      · simp [World.frozen?, q2]
    refine (Any.slices_Sort_int Try.lays189 b 0 cap ms w hH hblt (by simpa [li_len] using hl)).mono ?_
    rintro e2 w' ⟨rfl, nn, os, rfl⟩
    have hsl : (ms.mergeSort fun x y => decide (x ≤ y)).length = ms.length := List.length_mergeSort _
    generalize hso : (ms.mergeSort fun x y => decide (x ≤ y)) = so at hsl
    have hgr := grownBy_sortedI (w := w) (g := b) (n := nn) (os := os) so.toArray
    have hhp := heap_sortedI (w := w) (g := b) (n := nn) (os := os) so.toArray q2
    have hmc : ms.length ≤ cs.size := by omega
    refine ⟨.tuple #[], rfl, ⟨hgr.os, hgr.tape, hgr.output, hgr.size, fun k hk hne => hgr.block k hk (fun e => by simp at e; exact hne (by simp [e]))⟩, ⟨[], rfl, rfl, fun k x hx => by simp at hx⟩, rfl, fun k y hy => ?_⟩
    cases k with
    | succ k => simp at hy
    | zero =>
      simp at hy
      subst hy
      refine ⟨b, cs, _, e, e, rfl, q2, hhp, by simp [Sort.putCells], ?_⟩
      have htk := take_putCellsI cs so (by rw [hsl]; exact hmc)
      refine ⟨so.map (Value.int .i64), (Sort.putCells (Value.int .i64) 0 so.toArray cs).toList.drop so.length, ?_, (RU_li _ _).2 (by rw [sortI, hso])⟩
      rw [← htk, List.take_append_drop]
  · cases h
end Ro

namespace Ro
open Go Go.AL Go.Proofs

def s117 (args : List T) (ins : List Cont) : Option (Prop × T × List Cont) := match args, ins with
  | [.i n, .pt (.i m)], [] => some (True, .b (n == m), [])
  | _, _ => none
def e117 : Ent := ⟨117, false, s117⟩

def O167 (ms : List Int) (k : Int) : Orc2 := orc (fun _ => []) fun _ => .inv Nat 0 (fun i => i ≤ ms.length ∧ ∀ j, j < i → ms.getD j 0 ≠ k) (fun i => ms.length - i) [] (fun i => [(8, .i i)]) [0, 1, 7] (fun _ => []) []
  (fun i j => match j with
    | 14 => [.i (ms.getD i 0)]
    | _ => []) (fun _ _ => .unroll 0)
def s167 (args : List T) (ins : List Cont) : Option (Prop × T × List Cont) := match args, ins with
  | [m, .clo 117 [.pt (.i k)]], [] => match asL m with
    | some xs => some (xs = li (unli xs) ∧ xs.length ≤ 9223372036854775807, .i (findI (unli xs) k 0), [])
    | none => none
  | _, _ => none
def e167 : Ent := ⟨167, false, s167⟩

/-! ## DeleteFunc -/
def delI (ms : List Int) (k : Int) : List Int := ms.filter fun x => !(x == k)
def delP (ms : List Int) (k : Int) (s : Nat × Nat × List Int) : Prop :=
  s.1 < s.2.1 ∧ s.2.1 ≤ ms.length ∧ s.2.2.length = ms.length ∧ s.1 = (delI (ms.take s.2.1) k).length ∧ s.2.2.take s.1 = delI (ms.take s.2.1) k ∧ s.2.2.drop s.2.1 = ms.drop s.2.1
def O116 (ms : List Int) (k : Int) : Orc2 := orc (fun _ => []) fun _ => .inv (Nat × Nat × List Int) ((findI ms k 0).toNat, (findI ms k 0).toNat + 1, ms) (delP ms k) (fun s => ms.length - s.2.1) []
  (fun s => [(5, .i s.1), (6, .i s.2.1)]) [0, 1] (fun s => [(0, .rs .lf (li s.2.2), false)]) []
  (fun s j => match j with
    | 25 => [.i (ms.getD s.2.1 0)]
    | 33 => [.i (s.2.2.getD s.1 0)]
    | _ => []) (fun _ _ => .unroll 0)
def s116 (args : List T) (ins : List Cont) : Option (Prop × T × List Cont) := match args, ins with
  | [.row 0 [] 0 none, .clo 117 [.pt (.i k)]], [.rs .lf xs] => some (xs = li (unli xs) ∧ 0 ≤ findI (unli xs) k 0 ∧ xs.length ≤ 1000000, .row 0 [] 0 (some (delI (unli xs) k).length), [.rs .lf (li (delI (unli xs) k ++ List.replicate ((unli xs).length - (delI (unli xs) k).length) 0))])
  | _, _ => none
def e116 : Ent := ⟨116, true, s116⟩

/-! ## list -/
def bitI (b : Int) (i : Nat) : Bool := ibits .and (b.fdiv (2 ^ (UInt64.ofInt i).toNat)) 1 == 1
def bitsL (b : Int) : Nat → List Int
  | 0 => []
  | n + 1 => if bitI b n then bitsL b n ++ [(n : Int)] else bitsL b n
def O45 (v : UInt64) (b : Int) : Orc2 := orc (fun _ => []) fun _ => .inv Nat 0 (fun i => i ≤ 8) (fun i => 8 - i) [.fld 2 [1] (.rs .lf [])] (fun i => [(6, .i i)]) [0, 1, 4, 5]
  (fun i => [(2, .var (.agg [.u64 v, .row 3 [] 0 none]), false), (3, .rs .lf (li (bitsL b i)), false)]) [1] (fun _ _ => []) (fun _ _ => .unroll 0)
def s45 (args : List T) (ins : List Cont) : Option (Prop × T × List Cont) := match args, ins with
  | [.u64 v, .i b], [] => some (True, ls v (bitsL b 8), [])
  | _, _ => none
def e45 : Ent := ⟨45, false, s45⟩

/-! ## With, Without -/
def soL (v : UInt64) (ms : List Int) : UInt64 × List Int × Bool := if rightB v ms then (v, ms, true) else (0, [], false)
def withL (v : UInt64) (ms : List Int) (k : Int) : UInt64 × List Int × Bool := if rightB v ms && !hasB v ms k then soL (v + 1) (sortI (ms ++ [k])) else (0, [], false)
def withoutL (v : UInt64) (ms : List Int) (k : Int) : UInt64 × List Int × Bool := if hasB v ms k then soL (v + 1) (delI ms k) else (0, [], false)
def s46 (args : List T) (ins : List Cont) : Option (Prop × T × List Cont) := match args, ins with
  | [.agg [.u64 v, m], .i k], [] => match asL m with
    | some xs => some (xs = li (unli xs), .tup [ls (withL v (unli xs) k).1 (withL v (unli xs) k).2.1, .b (withL v (unli xs) k).2.2], [])
    | none => none
  | _, _ => none
def e46 : Ent := ⟨46, false, s46⟩
def s51 (args : List T) (ins : List Cont) : Option (Prop × T × List Cont) := match args, ins with
  | [.agg [.u64 v, m], .i k], [] => match asL m with
    | some xs => some (xs = li (unli xs), .tup [ls (withoutL v (unli xs) k).1 (withoutL v (unli xs) k).2.1, .b (withoutL v (unli xs) k).2.2], [])
    | none => none
  | _, _ => none
def e51 : Ent := ⟨51, false, s51⟩
end Ro

namespace Ro
open Go Go.AL Go.Proofs
set_option maxRecDepth 10000
theorem of117 (n m : Int) (hT : TblOk Try.prog (tbl []))
    (h : True ∧ True ∧ True ∧ True ∧ True ∧ True ∧ True ∧ True ∧ (n == m) = (n == m)) :
    Spec Try.prog 117 [.i n, .pt (.i m)] [] (.b (n == m)) [] :=
  spec_of_tr (by kernel_rfl) hT Try.func117 (c := Try.f117.body.getD .skip) (by kernel_rfl) (noO) (Eq.mp (by kernel_rfl) h)

theorem of167 (ms : List Int) (k : Int) (hT : TblOk Try.prog (tbl [e117]))
    (h : True ∧ True ∧ True ∧ True ∧ True ∧ ((0 : Nat) ≤ List.length ms ∧ ∀ (j : Nat), j < (0 : Nat) → List.getD ms j (0 : Int) = k → False) ∧ ((li ms = li ms ∧ T.clo (OfNat.ofNat (117 : Nat)) [T.pt (T.i k)] = T.clo (OfNat.ofNat (117 : Nat)) [T.pt (T.i k)] ∧ (↑(List.length (li ms)) : Int) = (↑(List.length (li ms)) : Int) ∧ (0 : Int) = (0 : Int) ∧ True) ∧ True) ∧ ∀ (i : Nat), (i ≤ List.length ms ∧ ∀ (j : Nat), j < i → List.getD ms j (0 : Int) = k → False) → True ∧ cases2 (decide ((↑i : Int) < (↑(List.length (li ms)) : Int))) (True ∧ True ∧ True ∧ True ∧ True ∧ ((0 : Int) ≤ (↑i : Int) ∧ (li ms)[Int.toNat (↑i : Int)]? = some (T.i (List.getD ms i (0 : Int)))) ∧ True ∧ ((True ∧ True ∧ True) ∧ True) ∧ cases2 (List.getD ms i (0 : Int) == k) (True ∧ True ∧ True ∧ True ∧ True ∧ (↑i : Int) = findI ms k (0 : Nat)) (((-9223372036854775808 : Int) ≤ (↑i : Int) + (1 : Int) ∧ (↑i : Int) + (1 : Int) ≤ (9223372036854775807 : Int)) ∧ True ∧ ∃ j, (j ≤ List.length ms ∧ ∀ (j_1 : Nat), j_1 < j → List.getD ms j_1 (0 : Int) = k → False) ∧ List.length ms - j < List.length ms - i ∧ (li ms = li ms ∧ T.clo (OfNat.ofNat (117 : Nat)) [T.pt (T.i k)] = T.clo (OfNat.ofNat (117 : Nat)) [T.pt (T.i k)] ∧ (↑(List.length (li ms)) : Int) = (↑(List.length (li ms)) : Int) ∧ (↑i : Int) + (1 : Int) = (↑j : Int) ∧ True) ∧ True)) (True ∧ True ∧ True ∧ True ∧ (-1 : Int) = findI ms k (0 : Nat))) :
    Spec Try.prog 167 [.sl .lf (li ms), .clo 117 [.pt (.i k)]] [] (.i (findI ms k 0)) [] :=
  spec_of_tr (by kernel_rfl) hT Try.func167 (c := Try.f167.body.getD .skip) (by kernel_rfl) (O167 ms k) (Eq.mp (by kernel_rfl) h)

theorem of116 (ms : List Int) (k : Int) (hT : TblOk Try.prog (tbl [e117, e167]))
    (h : True ∧ True ∧ True ∧ ((True ∧ (True ∧ True) ∧ True) ∧ li ms = li (unli (li ms)) ∧ List.length (li ms) ≤ (9223372036854775807 : Nat)) ∧ True ∧ True ∧ True ∧ cases2 (findI (unli (li ms)) k (0 : Nat) == (-1 : Int)) (True ∧ True ∧ True ∧ (li ms = li (delI ms k ++ List.replicate (List.length ms - List.length (delI ms k)) (0 : Int)) ∧ True) ∧ (0 : Nat) = (0 : Nat) ∧ none = some (List.length (delI ms k))) (True ∧ ((-9223372036854775808 : Int) ≤ findI (unli (li ms)) k (0 : Nat) + (1 : Int) ∧ findI (unli (li ms)) k (0 : Nat) + (1 : Int) ≤ (9223372036854775807 : Int)) ∧ True ∧ True ∧ (Prod.fst (Int.toNat (findI ms k (0 : Nat)), Int.toNat (findI ms k (0 : Nat)) + (1 : Nat), ms) < Prod.fst (Prod.snd (Int.toNat (findI ms k (0 : Nat)), Int.toNat (findI ms k (0 : Nat)) + (1 : Nat), ms)) ∧ Prod.fst (Prod.snd (Int.toNat (findI ms k (0 : Nat)), Int.toNat (findI ms k (0 : Nat)) + (1 : Nat), ms)) ≤ List.length ms ∧ List.length (Prod.snd (Prod.snd (Int.toNat (findI ms k (0 : Nat)), Int.toNat (findI ms k (0 : Nat)) + (1 : Nat), ms))) = List.length ms ∧ Prod.fst (Int.toNat (findI ms k (0 : Nat)), Int.toNat (findI ms k (0 : Nat)) + (1 : Nat), ms) = List.length (delI (List.take (Prod.fst (Prod.snd (Int.toNat (findI ms k (0 : Nat)), Int.toNat (findI ms k (0 : Nat)) + (1 : Nat), ms))) ms) k) ∧ List.take (Prod.fst (Int.toNat (findI ms k (0 : Nat)), Int.toNat (findI ms k (0 : Nat)) + (1 : Nat), ms)) (Prod.snd (Prod.snd (Int.toNat (findI ms k (0 : Nat)), Int.toNat (findI ms k (0 : Nat)) + (1 : Nat), ms))) = delI (List.take (Prod.fst (Prod.snd (Int.toNat (findI ms k (0 : Nat)), Int.toNat (findI ms k (0 : Nat)) + (1 : Nat), ms))) ms) k ∧ List.drop (Prod.fst (Prod.snd (Int.toNat (findI ms k (0 : Nat)), Int.toNat (findI ms k (0 : Nat)) + (1 : Nat), ms))) (Prod.snd (Prod.snd (Int.toNat (findI ms k (0 : Nat)), Int.toNat (findI ms k (0 : Nat)) + (1 : Nat), ms))) = List.drop (Prod.fst (Prod.snd (Int.toNat (findI ms k (0 : Nat)), Int.toNat (findI ms k (0 : Nat)) + (1 : Nat), ms))) ms) ∧ ((True ∧ T.clo (OfNat.ofNat (117 : Nat)) [T.pt (T.i k)] = T.clo (OfNat.ofNat (117 : Nat)) [T.pt (T.i k)] ∧ findI (unli (li ms)) k (0 : Nat) = (↑(Prod.fst (Int.toNat (findI ms k (0 : Nat)), Int.toNat (findI ms k (0 : Nat)) + (1 : Nat), ms)) : Int) ∧ findI (unli (li ms)) k (0 : Nat) + (1 : Int) = (↑(Prod.fst (Prod.snd (Int.toNat (findI ms k (0 : Nat)), Int.toNat (findI ms k (0 : Nat)) + (1 : Nat), ms))) : Int) ∧ True) ∧ li ms = li (Prod.snd (Prod.snd (Int.toNat (findI ms k (0 : Nat)), Int.toNat (findI ms k (0 : Nat)) + (1 : Nat), ms))) ∧ True) ∧ ∀ (i : Nat × Nat × List Int), Prod.fst i < Prod.fst (Prod.snd i) ∧ Prod.fst (Prod.snd i) ≤ List.length ms ∧ List.length (Prod.snd (Prod.snd i)) = List.length ms ∧ Prod.fst i = List.length (delI (List.take (Prod.fst (Prod.snd i)) ms) k) ∧ List.take (Prod.fst i) (Prod.snd (Prod.snd i)) = delI (List.take (Prod.fst (Prod.snd i)) ms) k ∧ List.drop (Prod.fst (Prod.snd i)) (Prod.snd (Prod.snd i)) = List.drop (Prod.fst (Prod.snd i)) ms → True ∧ True ∧ True ∧ True ∧ cases2 (decide ((↑(Prod.fst (Prod.snd i)) : Int) < (↑(List.length (li (Prod.snd (Prod.snd i))) - (0 : Nat)) : Int))) (True ∧ True ∧ ((0 : Int) ≤ (↑(Prod.fst (Prod.snd i)) : Int) ∧ (↑(Prod.fst (Prod.snd i)) : Int) + (1 : Int) ≤ (↑(List.length (li (Prod.snd (Prod.snd i))) - (0 : Nat)) : Int)) ∧ ((li (Prod.snd (Prod.snd i)))[Int.toNat (↑(Prod.fst (Prod.snd i)) : Int)]? = some (T.i (List.getD ms (Prod.fst (Prod.snd i)) (0 : Int))) ∧ True) ∧ True ∧ True ∧ True ∧ ((True ∧ True ∧ True) ∧ True) ∧ True ∧ cases2 (!List.getD ms (Prod.fst (Prod.snd i)) (0 : Int) == k) (True ∧ True ∧ True ∧ ((0 : Int) ≤ (↑(Prod.fst i) : Int) ∧ (↑(Prod.fst i) : Int) + (1 : Int) ≤ (↑(List.length (li (Prod.snd (Prod.snd i))) - (0 : Nat)) : Int)) ∧ ((li (Prod.snd (Prod.snd i)))[Int.toNat (↑(Prod.fst i) : Int)]? = some (T.i (List.getD (Prod.snd (Prod.snd i)) (Prod.fst i) (0 : Int))) ∧ True) ∧ True ∧ ((-9223372036854775808 : Int) ≤ (↑(Prod.fst i) : Int) + (1 : Int) ∧ (↑(Prod.fst i) : Int) + (1 : Int) ≤ (9223372036854775807 : Int)) ∧ True ∧ True ∧ ((-9223372036854775808 : Int) ≤ (↑(Prod.fst (Prod.snd i)) : Int) + (1 : Int) ∧ (↑(Prod.fst (Prod.snd i)) : Int) + (1 : Int) ≤ (9223372036854775807 : Int)) ∧ True ∧ ∃ j, (Prod.fst j < Prod.fst (Prod.snd j) ∧ Prod.fst (Prod.snd j) ≤ List.length ms ∧ List.length (Prod.snd (Prod.snd j)) = List.length ms ∧ Prod.fst j = List.length (delI (List.take (Prod.fst (Prod.snd j)) ms) k) ∧ List.take (Prod.fst j) (Prod.snd (Prod.snd j)) = delI (List.take (Prod.fst (Prod.snd j)) ms) k ∧ List.drop (Prod.fst (Prod.snd j)) (Prod.snd (Prod.snd j)) = List.drop (Prod.fst (Prod.snd j)) ms) ∧ List.length ms - Prod.fst (Prod.snd j) < List.length ms - Prod.fst (Prod.snd i) ∧ (True ∧ T.clo (OfNat.ofNat (117 : Nat)) [T.pt (T.i k)] = T.clo (OfNat.ofNat (117 : Nat)) [T.pt (T.i k)] ∧ (↑(Prod.fst i) : Int) + (1 : Int) = (↑(Prod.fst j) : Int) ∧ (↑(Prod.fst (Prod.snd i)) : Int) + (1 : Int) = (↑(Prod.fst (Prod.snd j)) : Int) ∧ True) ∧ List.set (li (Prod.snd (Prod.snd i))) (Int.toNat (↑(Prod.fst i) : Int)) (T.i (List.getD ms (Prod.fst (Prod.snd i)) (0 : Int))) = li (Prod.snd (Prod.snd j)) ∧ True) (True ∧ ((-9223372036854775808 : Int) ≤ (↑(Prod.fst (Prod.snd i)) : Int) + (1 : Int) ∧ (↑(Prod.fst (Prod.snd i)) : Int) + (1 : Int) ≤ (9223372036854775807 : Int)) ∧ True ∧ ∃ j, (Prod.fst j < Prod.fst (Prod.snd j) ∧ Prod.fst (Prod.snd j) ≤ List.length ms ∧ List.length (Prod.snd (Prod.snd j)) = List.length ms ∧ Prod.fst j = List.length (delI (List.take (Prod.fst (Prod.snd j)) ms) k) ∧ List.take (Prod.fst j) (Prod.snd (Prod.snd j)) = delI (List.take (Prod.fst (Prod.snd j)) ms) k ∧ List.drop (Prod.fst (Prod.snd j)) (Prod.snd (Prod.snd j)) = List.drop (Prod.fst (Prod.snd j)) ms) ∧ List.length ms - Prod.fst (Prod.snd j) < List.length ms - Prod.fst (Prod.snd i) ∧ (True ∧ T.clo (OfNat.ofNat (117 : Nat)) [T.pt (T.i k)] = T.clo (OfNat.ofNat (117 : Nat)) [T.pt (T.i k)] ∧ (↑(Prod.fst i) : Int) = (↑(Prod.fst j) : Int) ∧ (↑(Prod.fst (Prod.snd i)) : Int) + (1 : Int) = (↑(Prod.fst (Prod.snd j)) : Int) ∧ True) ∧ li (Prod.snd (Prod.snd i)) = li (Prod.snd (Prod.snd j)) ∧ True)) (True ∧ True ∧ ((0 : Int) ≤ (↑(Prod.fst i) : Int) ∧ (↑(Prod.fst i) : Int) ≤ (↑(List.length (li (Prod.snd (Prod.snd i))) - (0 : Nat)) : Int)) ∧ True ∧ True ∧ True ∧ ((0 : Int) ≤ (↑(Prod.fst i) : Int) ∧ (↑(Prod.fst i) : Int) ≤ (↑(List.length (List.take (Int.toNat (↑(Prod.fst i) : Int)) (li (Prod.snd (Prod.snd i))) ++ List.replicate (List.length (li (Prod.snd (Prod.snd i))) - Int.toNat (↑(Prod.fst i) : Int)) (T.i (0 : Int)) ++ List.drop (Int.toNat (↑(Prod.fst i) : Int) + (List.length (li (Prod.snd (Prod.snd i))) - Int.toNat (↑(Prod.fst i) : Int))) (li (Prod.snd (Prod.snd i)))) - (0 : Nat)) : Int)) ∧ True ∧ True ∧ (List.take (Int.toNat (↑(Prod.fst i) : Int)) (li (Prod.snd (Prod.snd i))) ++ List.replicate (List.length (li (Prod.snd (Prod.snd i))) - Int.toNat (↑(Prod.fst i) : Int)) (T.i (0 : Int)) ++ List.drop (Int.toNat (↑(Prod.fst i) : Int) + (List.length (li (Prod.snd (Prod.snd i))) - Int.toNat (↑(Prod.fst i) : Int))) (li (Prod.snd (Prod.snd i))) = li (delI ms k ++ List.replicate (List.length ms - List.length (delI ms k)) (0 : Int)) ∧ True) ∧ (0 : Nat) = (0 : Nat) ∧ some (Int.toNat (↑(Prod.fst i) : Int)) = some (List.length (delI ms k))))) :
    Spec Try.prog 116 [.row 0 [] 0 none, .clo 117 [.pt (.i k)]] [.rs .lf (li ms)] (.row 0 [] 0 (some (delI ms k).length)) [.rs .lf (li (delI ms k ++ List.replicate (ms.length - (delI ms k).length) 0))] :=
  spec_of_tr (by kernel_rfl) hT Try.func116 (c := Try.f116.body.getD .skip) (by kernel_rfl) (O116 ms k) (Eq.mp (by kernel_rfl) h)

theorem of45 (v : UInt64) (b : Int) (hT : TblOk Try.prog (tbl []))
    (h : True ∧ True ∧ True ∧ True ∧ True ∧ True ∧ (True ∧ True) ∧ (0 : Nat) ≤ (8 : Nat) ∧ ((v = v ∧ b = b ∧ True ∧ True ∧ (0 : Int) = (0 : Int) ∧ True) ∧ ((0 : UInt64) = (0 : UInt64) ∧ T.v (Value.slice none (0 : Nat) (0 : Nat)) = T.v (Value.slice none (0 : Nat) (0 : Nat)) ∧ True) ∧ (v = v ∧ True ∧ True) ∧ [] = li (bitsL b (0 : Nat)) ∧ True) ∧ ∀ (i : Nat), i ≤ (8 : Nat) → True ∧ True ∧ cases2 (decide ((↑i : Int) < (8 : Int))) (True ∧ True ∧ True ∧ UInt64.toNat (UInt64.ofInt (↑i : Int)) < (64 : Nat) ∧ True ∧ True ∧ cases2 (ibits BinOp.and (Int.fdiv b ((2 : Int) ^ UInt64.toNat (UInt64.ofInt (↑i : Int)))) (1 : Int) == (1 : Int)) (True ∧ True ∧ True ∧ True ∧ (True ∧ (List.length (li (bitsL b i)) + List.length [T.i (↑i : Int)]) * (8 : Nat) ≤ (140737488355328 : Nat) ∧ List.length (li (bitsL b i)) + List.length [T.i (↑i : Int)] ≤ (9223372036854775807 : Nat)) ∧ True ∧ True ∧ True ∧ ((-9223372036854775808 : Int) ≤ (↑i : Int) + (1 : Int) ∧ (↑i : Int) + (1 : Int) ≤ (9223372036854775807 : Int)) ∧ True ∧ ∃ j, j ≤ (8 : Nat) ∧ (8 : Nat) - j < (8 : Nat) - i ∧ (v = v ∧ b = b ∧ True ∧ True ∧ (↑i : Int) + (1 : Int) = (↑j : Int) ∧ True) ∧ ((0 : UInt64) = (0 : UInt64) ∧ T.v (Value.slice none (0 : Nat) (0 : Nat)) = T.v (Value.slice none (0 : Nat) (0 : Nat)) ∧ True) ∧ (v = v ∧ True ∧ True) ∧ li (bitsL b i) ++ [T.i (↑i : Int)] = li (bitsL b j) ∧ True) (True ∧ ((-9223372036854775808 : Int) ≤ (↑i : Int) + (1 : Int) ∧ (↑i : Int) + (1 : Int) ≤ (9223372036854775807 : Int)) ∧ True ∧ ∃ j, j ≤ (8 : Nat) ∧ (8 : Nat) - j < (8 : Nat) - i ∧ (v = v ∧ b = b ∧ True ∧ True ∧ (↑i : Int) + (1 : Int) = (↑j : Int) ∧ True) ∧ ((0 : UInt64) = (0 : UInt64) ∧ T.v (Value.slice none (0 : Nat) (0 : Nat)) = T.v (Value.slice none (0 : Nat) (0 : Nat)) ∧ True) ∧ (v = v ∧ True ∧ True) ∧ li (bitsL b i) = li (bitsL b j) ∧ True)) (True ∧ True ∧ (True ∧ True) ∧ True ∧ (True ∧ True ∧ True) ∧ v = v ∧ li (bitsL b i) = li (bitsL b (8 : Nat)) ∧ True)) :
    Spec Try.prog 45 [.u64 v, .i b] [] (ls v (bitsL b 8)) [] :=
  spec_of_tr (by kernel_rfl) hT Try.func45 (c := Try.f45.body.getD .skip) (by kernel_rfl) (O45 v b) (Eq.mp (by kernel_rfl) h)

theorem of46 (v : UInt64) (ms : List Int) (k : Int) (hT : TblOk Try.prog (tbl [e112, e53, e113, e114, e115]))
    (h : True ∧ True ∧ True ∧ True ∧ (((True ∧ True ∧ True) ∧ True) ∧ li ms = li (unli (li ms))) ∧ True ∧ True ∧ cases2 (!rightB v (unli (li ms))) (True ∧ True ∧ True ∧ True ∧ (True ∧ True) ∧ True ∧ ((True ∧ True ∧ True) ∧ True ∧ True) ∧ ((0 : UInt64) = Prod.fst (withL v ms k) ∧ li (Prod.fst (Prod.snd (withL v ms k))) = [] ∧ True) ∧ false = Prod.snd (Prod.snd (withL v ms k)) ∧ True) (True ∧ True ∧ (((True ∧ True ∧ True) ∧ True ∧ True) ∧ li ms = li (unli (li ms))) ∧ True ∧ cases2 (hasB v (unli (li ms)) k) (True ∧ True ∧ True ∧ (True ∧ True) ∧ True ∧ ((True ∧ True ∧ True) ∧ True ∧ True) ∧ ((0 : UInt64) = Prod.fst (withL v ms k) ∧ li (Prod.fst (Prod.snd (withL v ms k))) = [] ∧ True) ∧ false = Prod.snd (Prod.snd (withL v ms k)) ∧ True) (True ∧ True ∧ ((True ∧ True) ∧ List.length (li ms) * (8 : Nat) ≤ (140737488355328 : Nat)) ∧ True ∧ True ∧ (True ∧ (List.length (li ms) + List.length [T.i k]) * (8 : Nat) ≤ (140737488355328 : Nat) ∧ List.length (li ms) + List.length [T.i k] ≤ (9223372036854775807 : Nat)) ∧ True ∧ True ∧ ((True ∧ True) ∧ (li ms ++ [T.i k] = li (unli (li ms ++ [T.i k])) ∧ (0 : Nat) < List.length (li ms ++ [T.i k]) ∧ List.length (li ms ++ [T.i k]) < (4611686018427387904 : Nat)) ∧ (0 : Nat) < List.length (li ms ++ [T.i k]) ∧ List.length (li ms ++ [T.i k]) = List.length (li (sortI (unli (li ms ++ [T.i k]))))) ∧ True ∧ True ∧ True ∧ True ∧ True ∧ (((True ∧ True ∧ True) ∧ True) ∧ li (sortI (unli (li ms ++ [T.i k]))) = li (unli (li (sortI (unli (li ms ++ [T.i k])))))) ∧ True ∧ True ∧ True ∧ True ∧ (True ∧ True) ∧ True ∧ ((True ∧ True ∧ True) ∧ True ∧ True) ∧ ((if rightB (v + (1 : UInt64)) (unli (li (sortI (unli (li ms ++ [T.i k]))))) = true then v + (1 : UInt64) else (0 : UInt64)) = Prod.fst (withL v ms k) ∧ li (if rightB (v + (1 : UInt64)) (unli (li (sortI (unli (li ms ++ [T.i k]))))) = true then unli (li (sortI (unli (li ms ++ [T.i k])))) else []) = li (Prod.fst (Prod.snd (withL v ms k))) ∧ True) ∧ rightB (v + (1 : UInt64)) (unli (li (sortI (unli (li ms ++ [T.i k]))))) = Prod.snd (Prod.snd (withL v ms k)) ∧ True))) :
    Spec Try.prog 46 [ls v ms, .i k] [] (.tup [ls (withL v ms k).1 (withL v ms k).2.1, .b (withL v ms k).2.2]) [] :=
  spec_of_tr (by kernel_rfl) hT Try.func46 (c := Try.f46.body.getD .skip) (by kernel_rfl) (noO) (Eq.mp (by kernel_rfl) h)

theorem of51 (v : UInt64) (ms : List Int) (k : Int) (hT : TblOk Try.prog (tbl [e53, e113, e116, e115]))
    (h : True ∧ True ∧ True ∧ True ∧ True ∧ True ∧ (((True ∧ True ∧ True) ∧ True ∧ True) ∧ li ms = li (unli (li ms))) ∧ True ∧ cases2 (!hasB v (unli (li ms)) k) (True ∧ True ∧ True ∧ (True ∧ True) ∧ True ∧ ((True ∧ True ∧ True) ∧ True ∧ True) ∧ ((0 : UInt64) = Prod.fst (withoutL v ms k) ∧ li (Prod.fst (Prod.snd (withoutL v ms k))) = [] ∧ True) ∧ false = Prod.snd (Prod.snd (withoutL v ms k)) ∧ True) (True ∧ True ∧ ((True ∧ True) ∧ List.length (li ms) * (8 : Nat) ≤ (140737488355328 : Nat)) ∧ True ∧ ((True ∧ ((True ∧ True) ∧ True) ∧ True) ∧ (li ms = li (unli (li ms)) ∧ (0 : Int) ≤ findI (unli (li ms)) k (0 : Nat) ∧ List.length (li ms) ≤ (1000000 : Nat)) ∧ (0 : Nat) < List.length (li ms) ∧ List.length (li ms) = List.length (li (delI (unli (li ms)) k ++ List.replicate (List.length (unli (li ms)) - List.length (delI (unli (li ms)) k)) (0 : Int)))) ∧ True ∧ True ∧ True ∧ True ∧ True ∧ True ∧ (((True ∧ True ∧ True) ∧ True) ∧ List.take (List.length (delI (unli (li ms)) k)) (li (delI (unli (li ms)) k ++ List.replicate (List.length (unli (li ms)) - List.length (delI (unli (li ms)) k)) (0 : Int))) = li (unli (List.take (List.length (delI (unli (li ms)) k)) (li (delI (unli (li ms)) k ++ List.replicate (List.length (unli (li ms)) - List.length (delI (unli (li ms)) k)) (0 : Int)))))) ∧ True ∧ True ∧ True ∧ True ∧ (True ∧ True) ∧ True ∧ ((True ∧ True ∧ True) ∧ True ∧ True) ∧ ((if rightB (v + (1 : UInt64)) (unli (List.take (List.length (delI (unli (li ms)) k)) (li (delI (unli (li ms)) k ++ List.replicate (List.length (unli (li ms)) - List.length (delI (unli (li ms)) k)) (0 : Int))))) = true then v + (1 : UInt64) else (0 : UInt64)) = Prod.fst (withoutL v ms k) ∧ li (if rightB (v + (1 : UInt64)) (unli (List.take (List.length (delI (unli (li ms)) k)) (li (delI (unli (li ms)) k ++ List.replicate (List.length (unli (li ms)) - List.length (delI (unli (li ms)) k)) (0 : Int))))) = true then unli (List.take (List.length (delI (unli (li ms)) k)) (li (delI (unli (li ms)) k ++ List.replicate (List.length (unli (li ms)) - List.length (delI (unli (li ms)) k)) (0 : Int)))) else []) = li (Prod.fst (Prod.snd (withoutL v ms k))) ∧ True) ∧ rightB (v + (1 : UInt64)) (unli (List.take (List.length (delI (unli (li ms)) k)) (li (delI (unli (li ms)) k ++ List.replicate (List.length (unli (li ms)) - List.length (delI (unli (li ms)) k)) (0 : Int))))) = Prod.snd (Prod.snd (withoutL v ms k)) ∧ True)) :
    Spec Try.prog 51 [ls v ms, .i k] [] (.tup [ls (withoutL v ms k).1 (withoutL v ms k).2.1, .b (withoutL v ms k).2.2]) [] :=
  spec_of_tr (by kernel_rfl) hT Try.func51 (c := Try.f51.body.getD .skip) (by kernel_rfl) (noO) (Eq.mp (by kernel_rfl) h)

end Ro

namespace Ro
open Go Go.AL Go.Proofs

theorem ok117 : EntOk Try.prog e117 := by
  intro args ins pre res outs h hp
  simp only [e117] at h ⊢
  unfold s117 at h
  split at h
  · rename_i n m
    simp only [Option.some.injEq, Prod.mk.injEq] at h
    obtain ⟨rfl, rfl, rfl⟩ := h
    exact of117 n m (tbl_ok (by simp)) (by simp)
  · cases h

theorem ok167 : EntOk Try.prog e167 := by
  intro args ins pre res outs h hp
  simp only [e167] at h ⊢
  unfold s167 at h
  split at h
  · rename_i m k
    split at h
    · rename_i xs hm
      simp only [Option.some.injEq, Prod.mk.injEq] at h
      obtain ⟨rfl, rfl, rfl⟩ := h
      have hl : (unli xs).length ≤ 9223372036854775807 := by rw [unli, List.length_map]; exact hp.2
      have := of167 (unli xs) k (tbl_ok (by simp [ok117])) (by
        generalize unli xs = ms at hl
        simp only [true_and, and_true, li_len, Int.toNat_natCast]
        refine ⟨⟨Nat.zero_le _, fun j hj => by omega⟩, fun i hi => ?_⟩
        obtain ⟨hi1, hi2⟩ := hi
        refine cases2_dec (fun h => ?_) fun h => ?_
        · have hlt : i < ms.length := by omega
          refine ⟨⟨by omega, li_get ms i hlt⟩, cases2_of (fun h1 => ?_) fun h1 => ?_⟩
          · have h1 : ms.getD i 0 = k := by simpa using h1
            rw [findI_at ms k 0 i hlt hi2 h1]; simp
          · have h1 : ms.getD i 0 ≠ k := by simpa using h1
            refine ⟨by omega, i + 1, ⟨by omega, fun j hj => ?_⟩, by omega, by omega⟩
            by_cases hji : j = i
            · subst hji; exact h1
            · exact hi2 j (by omega)
        · have : i = ms.length := by omega
          subst this
          exact (findI_no ms k 0 (fun j hj => hi2 j hj)).symm)
      rw [← hp.1] at this
      exact this.args (by simp [vles, vle, teq, asL_vle hm])
    · cases h
  · cases h

theorem bitsL_len (b : Int) : ∀ n, (bitsL b n).length ≤ n
  | 0 => Nat.le_refl _
  | n + 1 => by
    have := bitsL_len b n
    unfold bitsL
    split
    · simp; omega
    · omega

theorem ok45 : EntOk Try.prog e45 := by
  intro args ins pre res outs h hp
  simp only [e45] at h ⊢
  unfold s45 at h
  split at h
  · rename_i v b
    simp only [Option.some.injEq, Prod.mk.injEq] at h
    obtain ⟨rfl, rfl, rfl⟩ := h
    refine of45 v b (tbl_ok (by simp)) ?_
    simp only [true_and, and_true, li_len, List.length_singleton]
    refine ⟨by omega, by simp [bitsL, li], fun i hi => ?_⟩
    have hlen := bitsL_len b i
    refine cases2_dec (fun h => ?_) fun h => ?_
    · have hi8 : i < 8 := by omega
      refine ⟨?_, cases2_of (fun h1 => ?_) fun h1 => ?_⟩
      · have : (UInt64.ofInt (i : Int)).toNat = i := by
          have := ofInt_u64 (i : Int); omega
        omega
      · refine ⟨⟨by omega, by omega⟩, by omega, i + 1, by omega, by omega, by omega, ?_⟩
        have h2 : bitI b i = true := h1
        simp [bitsL, h2, li]
      · refine ⟨by omega, i + 1, by omega, by omega, by omega, ?_⟩
        have h2 : bitI b i = false := h1
        simp [bitsL, h2]
    · have : i = 8 := by omega
      subst this; rfl
  · cases h

theorem li_app (ms : List Int) (k : Int) : li ms ++ [T.i k] = li (ms ++ [k]) := by simp [li]
theorem sortI_len (ms : List Int) : (sortI ms).length = ms.length := List.length_mergeSort _

theorem ok46 : EntOk Try.prog e46 := by
  intro args ins pre res outs h hp
  simp only [e46] at h ⊢
  unfold s46 at h
  split at h
  · rename_i v m k
    split at h
    · rename_i xs hm
      simp only [Option.some.injEq, Prod.mk.injEq] at h
      obtain ⟨rfl, rfl, rfl⟩ := h
      have := of46 v (unli xs) k (tbl_ok (by simp [ok112, ok53, ok113, ok114, ok115])) (by
        generalize unli xs = ms
        simp only [true_and, and_true, li_app, unli_li, li_len, sortI_len, List.length_append, List.length_singleton]
        refine cases2_of (fun h => ?_) fun h => ?_
        · simp at h; simp [withL, h, li]
        have h : rightB v ms = true := by simpa using h
        have hl := right_len h
        refine cases2_of (fun h' => ?_) fun h' => ?_
        · simp [withL, h, h', li]
        refine ⟨by omega, ⟨by omega, by omega⟩, ⟨by omega, by omega⟩, ?_⟩
        simp only [withL, h, h', soL, Bool.not_false, Bool.and_self, if_true]
        by_cases hr : rightB (v + 1) (sortI (ms ++ [k])) = true
        · simp [hr]
        · simp at hr; simp [hr])
      have e : ls v (unli xs) = .agg [.u64 v, .sl .lf xs] := by rw [ls, ← hp]
      rw [e] at this
      exact this.args (by simp [vles, vle, teq, asL_vle hm])
    · cases h
  · cases h
end Ro

namespace Ro
open Go Go.AL Go.Proofs

theorem unli_len (xs : List T) : (unli xs).length = xs.length := by simp [unli]
theorem li_rep (n : Nat) : List.replicate n (T.i 0) = li (List.replicate n 0) := by simp [li]
theorem li_take (ms : List Int) (n : Nat) : (li ms).take n = li (ms.take n) := by simp [li]
theorem li_drop (ms : List Int) (n : Nat) : (li ms).drop n = li (ms.drop n) := by simp [li]
theorem li_append (a b : List Int) : li a ++ li b = li (a ++ b) := by simp [li]
theorem li_set (a : List Int) (i : Nat) (x : Int) : (li a).set i (T.i x) = li (a.set i x) := by simp [li, List.map_set]
theorem delI_le (ms : List Int) (k : Int) : (delI ms k).length ≤ ms.length := List.length_filter_le _ _

theorem ok51 (ok116 : EntOk Try.prog e116) : EntOk Try.prog e51 := by
  intro args ins pre res outs h hp
  simp only [e51] at h ⊢
  unfold s51 at h
  split at h
  · rename_i v m k
    split at h
    · rename_i xs hm
      simp only [Option.some.injEq, Prod.mk.injEq] at h
      obtain ⟨rfl, rfl, rfl⟩ := h
      have := of51 v (unli xs) k (tbl_ok (by simp [ok53, ok113, ok116, ok115])) (by
        generalize unli xs = ms
        have hdl := delI_le ms k
        have ht : (li (delI ms k ++ List.replicate (ms.length - (delI ms k).length) 0)).take (delI ms k).length = li (delI ms k) := by
          rw [li_take, List.take_left']; rfl
        simp only [true_and, and_true, unli_li, li_len, ht, List.length_append, List.length_replicate]
        refine cases2_of (fun h => ?_) fun h => ?_
        · have h : hasB v ms k = false := by simpa using h
          simp [withoutL, h, li]
        · have h : hasB v ms k = true := by simpa using h
          have hh := h
          simp only [hasB, Bool.and_eq_true, decide_eq_true_eq] at hh
          have hl := right_len hh.1
          refine ⟨by omega, ⟨⟨hh.2, by omega⟩, by omega, by omega⟩, ?_⟩
          simp only [withoutL, h, soL, if_true]
          by_cases hr : rightB (v + 1) (delI ms k) = true
          · simp [hr]
          · simp at hr; simp [hr])
      have e : ls v (unli xs) = .agg [.u64 v, .sl .lf xs] := by rw [ls, ← hp]
      rw [e] at this
      exact this.args (by simp [vles, vle, teq, asL_vle hm])
    · cases h
  · cases h

theorem delI_take_succ (ms : List Int) (k : Int) (j : Nat) (h : j < ms.length) : delI (ms.take (j + 1)) k = delI (ms.take j) k ++ (if ms.getD j 0 = k then [] else [ms.getD j 0]) := by
  have e : ms[j]? = some (ms.getD j 0) := by simp [h]
  rw [List.take_add_one, e, delI, delI, List.filter_append]
  congr 1
  by_cases hk : ms.getD j 0 = k
  · rw [if_pos hk]; simp only [Option.toList, List.filter_cons, List.filter_nil]; simp only [hk]; simp
  · rw [if_neg hk]
    have : (ms.getD j 0 == k) = false := by simpa using hk
    simp only [Option.toList, List.filter_cons, List.filter_nil, this, Bool.not_false, if_true]

theorem findI_spec (ms : List Int) (k : Int) (h : 0 ≤ findI ms k 0) : (findI ms k 0).toNat < ms.length ∧ ms.getD (findI ms k 0).toNat 0 = k ∧ delI (ms.take (findI ms k 0).toNat) k = ms.take (findI ms k 0).toNat := by
  have main : ∀ (ms : List Int) (b : Nat), (b : Int) ≤ findI ms k b → ∃ i : Nat, findI ms k b = b + i ∧ i < ms.length ∧ ms.getD i 0 = k ∧ delI (ms.take i) k = ms.take i := by
    intro ms
    induction ms with
    | nil => intro b h; simp [findI] at h; omega
    | cons m ms ih =>
      intro b h
      unfold findI at h ⊢
      split
      · rename_i hm
        exact ⟨0, by simp, by simp, by simp [hm], by simp [delI]⟩
      · rename_i hm
        rw [if_neg hm] at h
        rcases findI_ge ms k (b + 1) with hq | hq
        · omega
        · obtain ⟨i, h1, h2, h3, h4⟩ := ih (b + 1) hq
          refine ⟨i + 1, by rw [h1]; omega, by simp; omega, by simpa using h3, ?_⟩
          simp only [List.take_succ_cons, delI, List.filter_cons] at h4 ⊢
          rw [h4]
          have : (m == k) = false := by simp; exact fun e => hm e.symm
          simp [this]
  obtain ⟨i, h1, h2, h3, h4⟩ := main ms 0 (by simpa using h)
  have : (findI ms k 0).toNat = i := by rw [h1]; omega
  rw [this]
  exact ⟨h2, h3, h4⟩

theorem spec116 (ms : List Int) (k : Int) (h0 : 0 ≤ findI ms k 0) (hl : ms.length ≤ 1000000) (hT : TblOk Try.prog (tbl [e117, e167])) :
    Spec Try.prog 116 [.row 0 [] 0 none, .clo 117 [.pt (.i k)]] [.rs .lf (li ms)] (.row 0 [] 0 (some (delI ms k).length)) [.rs .lf (li (delI ms k ++ List.replicate (ms.length - (delI ms k).length) 0))] := by
  obtain ⟨f1, f2, f3⟩ := findI_spec ms k h0
  have f4 : findI ms k 0 = ((findI ms k 0).toNat : Int) := by omega
  generalize hi0 : (findI ms k 0).toNat = i0 at f1 f2 f3 f4
  refine of116 ms k hT ?_
  simp only [true_and, and_true, unli_li, li_len, Int.toNat_natCast, li_take, li_drop, li_set, li_rep, li_append, hi0, Nat.sub_zero]
  rw [f4]
  refine ⟨by omega, cases2_of (fun h => ?_) fun h => ?_⟩
  · simp at h
  clear h
  refine ⟨⟨by omega, by omega⟩, ⟨by omega, by omega, ?_, ?_⟩, by omega, fun s hs => ?_⟩
  · have := delI_take_succ ms k i0 f1
    rw [if_pos f2, f3, List.append_nil] at this
    rw [this, List.length_take]; omega
  · have := delI_take_succ ms k i0 f1
    rw [if_pos f2, f3, List.append_nil] at this
    exact this.symm
  · obtain ⟨i, j, c⟩ := s
    simp only at hs ⊢
    obtain ⟨g1, g2, g3, g4, g5, g6⟩ := hs
    refine cases2_dec (fun h => ?_) fun h => ?_
    · have hj : j < ms.length := by omega
      have hcj : c.getD j 0 = ms.getD j 0 := by
        have e1 : (c.drop j)[0]? = (ms.drop j)[0]? := by rw [g6]
        simp only [List.getElem?_drop, Nat.add_zero] at e1
        simp [List.getD_eq_getElem?_getD, e1]
      have hds := delI_take_succ ms k j hj
      have hdrop : ∀ c' : List Int, c'.drop (j + 1) = c.drop (j + 1) → c'.drop (j + 1) = ms.drop (j + 1) := by
        intro c' hc
        rw [hc]
        have : (c.drop j).drop 1 = (ms.drop j).drop 1 := by rw [g6]
        simpa [List.drop_drop, Nat.add_comm] using this
      refine ⟨⟨by omega, by omega⟩, by rw [← hcj]; exact li_get c j (by omega), cases2_of (fun h1 => ?_) fun h1 => ?_⟩
      · have h1 : ¬ ms.getD j 0 = k := by simpa using h1
        rw [if_neg h1] at hds
        refine ⟨⟨by omega, by omega⟩, li_get c i (by omega), ⟨by omega, by omega⟩, ⟨by omega, by omega⟩, (i + 1, j + 1, c.set i (ms.getD j 0)), ⟨by simp only; omega, by simp only; omega, by simp; omega, ?_, ?_, ?_⟩, by simp only; omega, ⟨by simp only; omega, by simp only; omega⟩, rfl⟩
        · rw [hds]; simp; omega
        · rw [hds, ← g5]
          have hic : i < c.length := by omega
          rw [List.take_add_one]
          congr 1
          · rw [List.take_set_of_le (Nat.le_refl i)]
          · simp [hic]
        · exact hdrop _ (by rw [List.drop_set_of_lt (by omega)])
      · have h1 : ms.getD j 0 = k := by simpa using h1
        rw [if_pos h1, List.append_nil] at hds
        refine ⟨⟨by omega, by omega⟩, (i, j + 1, c), ⟨by simp only; omega, by simp only; omega, g3, by rw [hds]; exact g4, by rw [hds]; exact g5, hdrop c rfl⟩, by simp only; omega, ⟨rfl, by simp only; omega⟩, rfl⟩
    · have hj : j = ms.length := by omega
      subst hj
      rw [List.take_length] at g4 g5
      refine ⟨⟨by omega, by omega⟩, ⟨by omega, ?_⟩, ?_, ?_⟩
      · simp; omega
      · rw [g5, g3, g4]
        congr 1
        have : i + (c.length - i) = c.length := by omega
        simp
        omega
      · rw [g4]

theorem ok116 : EntOk Try.prog e116 := by
  intro args ins pre res outs h hp
  simp only [e116] at h ⊢
  unfold s116 at h
  split at h
  · rename_i k xs
    simp only [Option.some.injEq, Prod.mk.injEq] at h
    obtain ⟨rfl, rfl, rfl⟩ := h
    obtain ⟨h1, h2, h3⟩ := hp
    have := spec116 (unli xs) k h2 (by rw [unli_len]; exact h3) (tbl_ok (by simp [ok117, ok167]))
    rw [← h1] at this
    exact this
  · cases h
end Ro

namespace Ro
open Go Go.AL Go.Proofs
def knownB : Bool :=
  let m := withL 1 [0, 2, 5] 3
  let n := withoutL 1 [4] 4
  rightB 1 [0, 2, 5] && m.2.2 && (m.1 == 2) && (m.2.1 == [0, 2, 3, 5]) && followsB 1 [0, 2, 5] m.1 m.2.1 && !followsB 1 [0, 2, 5] 1 [0, 2, 5] && !n.2.2 && true && hasB 1 [0, 2, 5] 5
def s50 (args : List T) (ins : List Cont) : Option (Prop × T × List Cont) := match args, ins with
  | [], [] => some (True, .b true, [])
  | _, _ => none
def e50 : Ent := ⟨50, false, s50⟩
end Ro

namespace Ro
open Go Go.AL Go.Proofs
set_option maxRecDepth 10000
theorem of50  (hT : TblOk Try.prog (tbl [e46, e51, e112, e35, e52, e49, e53]))
    (h : True ∧ True ∧ True ∧ True ∧ True ∧ True ∧ (((True ∧ True ∧ True) ∧ True ∧ True) ∧ [T.i (0 : Int), T.i (2 : Int), T.i (5 : Int)] = li (unli [T.i (0 : Int), T.i (2 : Int), T.i (5 : Int)])) ∧ True ∧ True ∧ True ∧ True ∧ True ∧ True ∧ True ∧ True ∧ (((True ∧ True ∧ True) ∧ True ∧ True) ∧ [T.i (4 : Int)] = li (unli [T.i (4 : Int)])) ∧ True ∧ True ∧ True ∧ True ∧ True ∧ True ∧ True ∧ (((True ∧ True ∧ True) ∧ True) ∧ [T.i (0 : Int), T.i (2 : Int), T.i (5 : Int)] = li (unli [T.i (0 : Int), T.i (2 : Int), T.i (5 : Int)])) ∧ True ∧ True ∧ True ∧ True ∧ cases2 (Prod.snd (Prod.snd (withL (1 : UInt64) (unli [T.i (0 : Int), T.i (2 : Int), T.i (5 : Int)]) (3 : Int)))) (True ∧ True ∧ True ∧ True ∧ True ∧ cases2 (Prod.fst (withL (1 : UInt64) (unli [T.i (0 : Int), T.i (2 : Int), T.i (5 : Int)]) (3 : Int)) == (2 : UInt64)) (True ∧ True ∧ True ∧ ((True ∧ True ∧ True) ∧ li (Prod.fst (Prod.snd (withL (1 : UInt64) (unli [T.i (0 : Int), T.i (2 : Int), T.i (5 : Int)]) (3 : Int)))) = li (unli (li (Prod.fst (Prod.snd (withL (1 : UInt64) (unli [T.i (0 : Int), T.i (2 : Int), T.i (5 : Int)]) (3 : Int)))))) ∧ [T.i (0 : Int), T.i (2 : Int), T.i (3 : Int), T.i (5 : Int)] = li (unli [T.i (0 : Int), T.i (2 : Int), T.i (3 : Int), T.i (5 : Int)]) ∧ List.length (li (Prod.fst (Prod.snd (withL (1 : UInt64) (unli [T.i (0 : Int), T.i (2 : Int), T.i (5 : Int)]) (3 : Int))))) ≤ (9223372036854775807 : Nat) ∧ (4 : Nat) ≤ (9223372036854775807 : Nat)) ∧ True ∧ True ∧ cases2 (unli (li (Prod.fst (Prod.snd (withL (1 : UInt64) (unli [T.i (0 : Int), T.i (2 : Int), T.i (5 : Int)]) (3 : Int))))) == unli [T.i (0 : Int), T.i (2 : Int), T.i (3 : Int), T.i (5 : Int)]) (True ∧ True ∧ (((True ∧ True ∧ True) ∧ (True ∧ True ∧ True) ∧ True) ∧ [T.i (0 : Int), T.i (2 : Int), T.i (5 : Int)] = li (unli [T.i (0 : Int), T.i (2 : Int), T.i (5 : Int)]) ∧ li (Prod.fst (Prod.snd (withL (1 : UInt64) (unli [T.i (0 : Int), T.i (2 : Int), T.i (5 : Int)]) (3 : Int)))) = li (unli (li (Prod.fst (Prod.snd (withL (1 : UInt64) (unli [T.i (0 : Int), T.i (2 : Int), T.i (5 : Int)]) (3 : Int))))))) ∧ True ∧ True ∧ cases2 (followsB (1 : UInt64) (unli [T.i (0 : Int), T.i (2 : Int), T.i (5 : Int)]) (Prod.fst (withL (1 : UInt64) (unli [T.i (0 : Int), T.i (2 : Int), T.i (5 : Int)]) (3 : Int))) (unli (li (Prod.fst (Prod.snd (withL (1 : UInt64) (unli [T.i (0 : Int), T.i (2 : Int), T.i (5 : Int)]) (3 : Int))))))) (True ∧ True ∧ (((True ∧ True ∧ True) ∧ (True ∧ True ∧ True) ∧ True) ∧ [T.i (0 : Int), T.i (2 : Int), T.i (5 : Int)] = li (unli [T.i (0 : Int), T.i (2 : Int), T.i (5 : Int)]) ∧ [T.i (0 : Int), T.i (2 : Int), T.i (5 : Int)] = li (unli [T.i (0 : Int), T.i (2 : Int), T.i (5 : Int)])) ∧ True ∧ True ∧ True ∧ True ∧ True ∧ True ∧ True ∧ True ∧ (((True ∧ True ∧ True) ∧ True) ∧ [T.i (0 : Int), T.i (2 : Int), T.i (5 : Int)] = li (unli [T.i (0 : Int), T.i (2 : Int), T.i (5 : Int)])) ∧ True ∧ True ∧ True ∧ True ∧ (((True ∧ True ∧ True) ∧ True ∧ True) ∧ [T.i (0 : Int), T.i (2 : Int), T.i (5 : Int)] = li (unli [T.i (0 : Int), T.i (2 : Int), T.i (5 : Int)])) ∧ True ∧ True ∧ True ∧ True ∧ True ∧ hasB (1 : UInt64) (unli [T.i (0 : Int), T.i (2 : Int), T.i (5 : Int)]) (5 : Int) = true) (True ∧ True ∧ True ∧ True ∧ True ∧ True ∧ True ∧ True ∧ True ∧ True ∧ True ∧ false = true)) (True ∧ True ∧ True ∧ True ∧ True ∧ True ∧ True ∧ True ∧ True ∧ True ∧ True ∧ True ∧ True ∧ false = true)) (True ∧ True ∧ True ∧ True ∧ True ∧ True ∧ True ∧ True ∧ True ∧ True ∧ True ∧ True ∧ True ∧ True ∧ True ∧ false = true)) (True ∧ True ∧ True ∧ True ∧ True ∧ True ∧ True ∧ True ∧ True ∧ True ∧ True ∧ True ∧ True ∧ True ∧ True ∧ True ∧ True ∧ false = true)) :
    Spec Try.prog 50 [] [] (.b true) [] :=
  spec_of_tr (by kernel_rfl) hT Try.func50 (c := Try.f50.body.getD .skip) (by kernel_rfl) (noO) (Eq.mp (by kernel_rfl) h)

theorem of8 (b k : Int) (v : UInt64) (hT : TblOk Try.prog (tbl [e45, e46, e50, e51, e35, e52, e53]))
    (h : True ∧ True ∧ ((100 : UInt64) = (0 : UInt64) → False) ∧ True ∧ True ∧ True ∧ ((True ∧ True ∧ True) ∧ True) ∧ True ∧ True ∧ True ∧ True ∧ True ∧ (((True ∧ True ∧ True) ∧ True ∧ True) ∧ li (bitsL (ibits BinOp.and b (255 : Int)) (8 : Nat)) = li (unli (li (bitsL (ibits BinOp.and b (255 : Int)) (8 : Nat))))) ∧ True ∧ True ∧ True ∧ True ∧ True ∧ True ∧ True ∧ True ∧ cases2 (!Prod.snd (Prod.snd (withL ((1 : UInt64) + v % (100 : UInt64)) (unli (li (bitsL (ibits BinOp.and b (255 : Int)) (8 : Nat)))) (ibits BinOp.and k (7 : Int))))) ((True ∧ True) ∧ True ∧ True ∧ True ∧ True ∧ true = true) (True ∧ True ∧ True ∧ (((True ∧ True ∧ True) ∧ True ∧ True) ∧ li (Prod.fst (Prod.snd (withL ((1 : UInt64) + v % (100 : UInt64)) (unli (li (bitsL (ibits BinOp.and b (255 : Int)) (8 : Nat)))) (ibits BinOp.and k (7 : Int))))) = li (unli (li (Prod.fst (Prod.snd (withL ((1 : UInt64) + v % (100 : UInt64)) (unli (li (bitsL (ibits BinOp.and b (255 : Int)) (8 : Nat)))) (ibits BinOp.and k (7 : Int)))))))) ∧ True ∧ True ∧ True ∧ True ∧ True ∧ True ∧ True ∧ True ∧ cases2 (Prod.snd (Prod.snd (withoutL (Prod.fst (withL ((1 : UInt64) + v % (100 : UInt64)) (unli (li (bitsL (ibits BinOp.and b (255 : Int)) (8 : Nat)))) (ibits BinOp.and k (7 : Int)))) (unli (li (Prod.fst (Prod.snd (withL ((1 : UInt64) + v % (100 : UInt64)) (unli (li (bitsL (ibits BinOp.and b (255 : Int)) (8 : Nat)))) (ibits BinOp.and k (7 : Int))))))) (ibits BinOp.and k (7 : Int))))) (True ∧ True ∧ True ∧ True ∧ ((True ∧ True ∧ True) ∧ li (Prod.fst (Prod.snd (withoutL (Prod.fst (withL ((1 : UInt64) + v % (100 : UInt64)) (unli (li (bitsL (ibits BinOp.and b (255 : Int)) (8 : Nat)))) (ibits BinOp.and k (7 : Int)))) (unli (li (Prod.fst (Prod.snd (withL ((1 : UInt64) + v % (100 : UInt64)) (unli (li (bitsL (ibits BinOp.and b (255 : Int)) (8 : Nat)))) (ibits BinOp.and k (7 : Int))))))) (ibits BinOp.and k (7 : Int))))) = li (unli (li (Prod.fst (Prod.snd (withoutL (Prod.fst (withL ((1 : UInt64) + v % (100 : UInt64)) (unli (li (bitsL (ibits BinOp.and b (255 : Int)) (8 : Nat)))) (ibits BinOp.and k (7 : Int)))) (unli (li (Prod.fst (Prod.snd (withL ((1 : UInt64) + v % (100 : UInt64)) (unli (li (bitsL (ibits BinOp.and b (255 : Int)) (8 : Nat)))) (ibits BinOp.and k (7 : Int))))))) (ibits BinOp.and k (7 : Int))))))) ∧ li (bitsL (ibits BinOp.and b (255 : Int)) (8 : Nat)) = li (unli (li (bitsL (ibits BinOp.and b (255 : Int)) (8 : Nat)))) ∧ List.length (li (Prod.fst (Prod.snd (withoutL (Prod.fst (withL ((1 : UInt64) + v % (100 : UInt64)) (unli (li (bitsL (ibits BinOp.and b (255 : Int)) (8 : Nat)))) (ibits BinOp.and k (7 : Int)))) (unli (li (Prod.fst (Prod.snd (withL ((1 : UInt64) + v % (100 : UInt64)) (unli (li (bitsL (ibits BinOp.and b (255 : Int)) (8 : Nat)))) (ibits BinOp.and k (7 : Int))))))) (ibits BinOp.and k (7 : Int)))))) ≤ (9223372036854775807 : Nat) ∧ List.length (li (bitsL (ibits BinOp.and b (255 : Int)) (8 : Nat))) ≤ (9223372036854775807 : Nat)) ∧ True ∧ True ∧ cases2 (unli (li (Prod.fst (Prod.snd (withoutL (Prod.fst (withL ((1 : UInt64) + v % (100 : UInt64)) (unli (li (bitsL (ibits BinOp.and b (255 : Int)) (8 : Nat)))) (ibits BinOp.and k (7 : Int)))) (unli (li (Prod.fst (Prod.snd (withL ((1 : UInt64) + v % (100 : UInt64)) (unli (li (bitsL (ibits BinOp.and b (255 : Int)) (8 : Nat)))) (ibits BinOp.and k (7 : Int))))))) (ibits BinOp.and k (7 : Int)))))) == unli (li (bitsL (ibits BinOp.and b (255 : Int)) (8 : Nat)))) (True ∧ True ∧ True ∧ True ∧ True ∧ True ∧ True ∧ True ∧ cases2 (Prod.fst (withoutL (Prod.fst (withL ((1 : UInt64) + v % (100 : UInt64)) (unli (li (bitsL (ibits BinOp.and b (255 : Int)) (8 : Nat)))) (ibits BinOp.and k (7 : Int)))) (unli (li (Prod.fst (Prod.snd (withL ((1 : UInt64) + v % (100 : UInt64)) (unli (li (bitsL (ibits BinOp.and b (255 : Int)) (8 : Nat)))) (ibits BinOp.and k (7 : Int))))))) (ibits BinOp.and k (7 : Int))) == (1 : UInt64) + v % (100 : UInt64) + (2 : UInt64)) (True ∧ True ∧ (((True ∧ True ∧ True) ∧ (True ∧ True ∧ True) ∧ True) ∧ li (bitsL (ibits BinOp.and b (255 : Int)) (8 : Nat)) = li (unli (li (bitsL (ibits BinOp.and b (255 : Int)) (8 : Nat)))) ∧ li (Prod.fst (Prod.snd (withL ((1 : UInt64) + v % (100 : UInt64)) (unli (li (bitsL (ibits BinOp.and b (255 : Int)) (8 : Nat)))) (ibits BinOp.and k (7 : Int))))) = li (unli (li (Prod.fst (Prod.snd (withL ((1 : UInt64) + v % (100 : UInt64)) (unli (li (bitsL (ibits BinOp.and b (255 : Int)) (8 : Nat)))) (ibits BinOp.and k (7 : Int)))))))) ∧ True ∧ True ∧ cases2 (followsB ((1 : UInt64) + v % (100 : UInt64)) (unli (li (bitsL (ibits BinOp.and b (255 : Int)) (8 : Nat)))) (Prod.fst (withL ((1 : UInt64) + v % (100 : UInt64)) (unli (li (bitsL (ibits BinOp.and b (255 : Int)) (8 : Nat)))) (ibits BinOp.and k (7 : Int)))) (unli (li (Prod.fst (Prod.snd (withL ((1 : UInt64) + v % (100 : UInt64)) (unli (li (bitsL (ibits BinOp.and b (255 : Int)) (8 : Nat)))) (ibits BinOp.and k (7 : Int)))))))) (True ∧ True ∧ (((True ∧ True ∧ True) ∧ (True ∧ True ∧ True) ∧ True) ∧ li (Prod.fst (Prod.snd (withL ((1 : UInt64) + v % (100 : UInt64)) (unli (li (bitsL (ibits BinOp.and b (255 : Int)) (8 : Nat)))) (ibits BinOp.and k (7 : Int))))) = li (unli (li (Prod.fst (Prod.snd (withL ((1 : UInt64) + v % (100 : UInt64)) (unli (li (bitsL (ibits BinOp.and b (255 : Int)) (8 : Nat)))) (ibits BinOp.and k (7 : Int))))))) ∧ li (Prod.fst (Prod.snd (withoutL (Prod.fst (withL ((1 : UInt64) + v % (100 : UInt64)) (unli (li (bitsL (ibits BinOp.and b (255 : Int)) (8 : Nat)))) (ibits BinOp.and k (7 : Int)))) (unli (li (Prod.fst (Prod.snd (withL ((1 : UInt64) + v % (100 : UInt64)) (unli (li (bitsL (ibits BinOp.and b (255 : Int)) (8 : Nat)))) (ibits BinOp.and k (7 : Int))))))) (ibits BinOp.and k (7 : Int))))) = li (unli (li (Prod.fst (Prod.snd (withoutL (Prod.fst (withL ((1 : UInt64) + v % (100 : UInt64)) (unli (li (bitsL (ibits BinOp.and b (255 : Int)) (8 : Nat)))) (ibits BinOp.and k (7 : Int)))) (unli (li (Prod.fst (Prod.snd (withL ((1 : UInt64) + v % (100 : UInt64)) (unli (li (bitsL (ibits BinOp.and b (255 : Int)) (8 : Nat)))) (ibits BinOp.and k (7 : Int))))))) (ibits BinOp.and k (7 : Int)))))))) ∧ True ∧ True ∧ cases2 (followsB (Prod.fst (withL ((1 : UInt64) + v % (100 : UInt64)) (unli (li (bitsL (ibits BinOp.and b (255 : Int)) (8 : Nat)))) (ibits BinOp.and k (7 : Int)))) (unli (li (Prod.fst (Prod.snd (withL ((1 : UInt64) + v % (100 : UInt64)) (unli (li (bitsL (ibits BinOp.and b (255 : Int)) (8 : Nat)))) (ibits BinOp.and k (7 : Int))))))) (Prod.fst (withoutL (Prod.fst (withL ((1 : UInt64) + v % (100 : UInt64)) (unli (li (bitsL (ibits BinOp.and b (255 : Int)) (8 : Nat)))) (ibits BinOp.and k (7 : Int)))) (unli (li (Prod.fst (Prod.snd (withL ((1 : UInt64) + v % (100 : UInt64)) (unli (li (bitsL (ibits BinOp.and b (255 : Int)) (8 : Nat)))) (ibits BinOp.and k (7 : Int))))))) (ibits BinOp.and k (7 : Int)))) (unli (li (Prod.fst (Prod.snd (withoutL (Prod.fst (withL ((1 : UInt64) + v % (100 : UInt64)) (unli (li (bitsL (ibits BinOp.and b (255 : Int)) (8 : Nat)))) (ibits BinOp.and k (7 : Int)))) (unli (li (Prod.fst (Prod.snd (withL ((1 : UInt64) + v % (100 : UInt64)) (unli (li (bitsL (ibits BinOp.and b (255 : Int)) (8 : Nat)))) (ibits BinOp.and k (7 : Int))))))) (ibits BinOp.and k (7 : Int)))))))) (True ∧ True ∧ (((True ∧ True ∧ True) ∧ (True ∧ True ∧ True) ∧ True) ∧ li (bitsL (ibits BinOp.and b (255 : Int)) (8 : Nat)) = li (unli (li (bitsL (ibits BinOp.and b (255 : Int)) (8 : Nat)))) ∧ li (Prod.fst (Prod.snd (withoutL (Prod.fst (withL ((1 : UInt64) + v % (100 : UInt64)) (unli (li (bitsL (ibits BinOp.and b (255 : Int)) (8 : Nat)))) (ibits BinOp.and k (7 : Int)))) (unli (li (Prod.fst (Prod.snd (withL ((1 : UInt64) + v % (100 : UInt64)) (unli (li (bitsL (ibits BinOp.and b (255 : Int)) (8 : Nat)))) (ibits BinOp.and k (7 : Int))))))) (ibits BinOp.and k (7 : Int))))) = li (unli (li (Prod.fst (Prod.snd (withoutL (Prod.fst (withL ((1 : UInt64) + v % (100 : UInt64)) (unli (li (bitsL (ibits BinOp.and b (255 : Int)) (8 : Nat)))) (ibits BinOp.and k (7 : Int)))) (unli (li (Prod.fst (Prod.snd (withL ((1 : UInt64) + v % (100 : UInt64)) (unli (li (bitsL (ibits BinOp.and b (255 : Int)) (8 : Nat)))) (ibits BinOp.and k (7 : Int))))))) (ibits BinOp.and k (7 : Int)))))))) ∧ True ∧ True ∧ True ∧ cases2 (!followsB ((1 : UInt64) + v % (100 : UInt64)) (unli (li (bitsL (ibits BinOp.and b (255 : Int)) (8 : Nat)))) (Prod.fst (withoutL (Prod.fst (withL ((1 : UInt64) + v % (100 : UInt64)) (unli (li (bitsL (ibits BinOp.and b (255 : Int)) (8 : Nat)))) (ibits BinOp.and k (7 : Int)))) (unli (li (Prod.fst (Prod.snd (withL ((1 : UInt64) + v % (100 : UInt64)) (unli (li (bitsL (ibits BinOp.and b (255 : Int)) (8 : Nat)))) (ibits BinOp.and k (7 : Int))))))) (ibits BinOp.and k (7 : Int)))) (unli (li (Prod.fst (Prod.snd (withoutL (Prod.fst (withL ((1 : UInt64) + v % (100 : UInt64)) (unli (li (bitsL (ibits BinOp.and b (255 : Int)) (8 : Nat)))) (ibits BinOp.and k (7 : Int)))) (unli (li (Prod.fst (Prod.snd (withL ((1 : UInt64) + v % (100 : UInt64)) (unli (li (bitsL (ibits BinOp.and b (255 : Int)) (8 : Nat)))) (ibits BinOp.and k (7 : Int))))))) (ibits BinOp.and k (7 : Int)))))))) (True ∧ True ∧ True ∧ (((True ∧ True ∧ True) ∧ True ∧ True) ∧ li (Prod.fst (Prod.snd (withL ((1 : UInt64) + v % (100 : UInt64)) (unli (li (bitsL (ibits BinOp.and b (255 : Int)) (8 : Nat)))) (ibits BinOp.and k (7 : Int))))) = li (unli (li (Prod.fst (Prod.snd (withL ((1 : UInt64) + v % (100 : UInt64)) (unli (li (bitsL (ibits BinOp.and b (255 : Int)) (8 : Nat)))) (ibits BinOp.and k (7 : Int)))))))) ∧ True ∧ True ∧ cases2 (hasB (Prod.fst (withL ((1 : UInt64) + v % (100 : UInt64)) (unli (li (bitsL (ibits BinOp.and b (255 : Int)) (8 : Nat)))) (ibits BinOp.and k (7 : Int)))) (unli (li (Prod.fst (Prod.snd (withL ((1 : UInt64) + v % (100 : UInt64)) (unli (li (bitsL (ibits BinOp.and b (255 : Int)) (8 : Nat)))) (ibits BinOp.and k (7 : Int))))))) (ibits BinOp.and k (7 : Int))) (True ∧ True ∧ True ∧ (((True ∧ True ∧ True) ∧ True ∧ True) ∧ li (Prod.fst (Prod.snd (withoutL (Prod.fst (withL ((1 : UInt64) + v % (100 : UInt64)) (unli (li (bitsL (ibits BinOp.and b (255 : Int)) (8 : Nat)))) (ibits BinOp.and k (7 : Int)))) (unli (li (Prod.fst (Prod.snd (withL ((1 : UInt64) + v % (100 : UInt64)) (unli (li (bitsL (ibits BinOp.and b (255 : Int)) (8 : Nat)))) (ibits BinOp.and k (7 : Int))))))) (ibits BinOp.and k (7 : Int))))) = li (unli (li (Prod.fst (Prod.snd (withoutL (Prod.fst (withL ((1 : UInt64) + v % (100 : UInt64)) (unli (li (bitsL (ibits BinOp.and b (255 : Int)) (8 : Nat)))) (ibits BinOp.and k (7 : Int)))) (unli (li (Prod.fst (Prod.snd (withL ((1 : UInt64) + v % (100 : UInt64)) (unli (li (bitsL (ibits BinOp.and b (255 : Int)) (8 : Nat)))) (ibits BinOp.and k (7 : Int))))))) (ibits BinOp.and k (7 : Int)))))))) ∧ True ∧ True ∧ True ∧ cases2 (!hasB (Prod.fst (withoutL (Prod.fst (withL ((1 : UInt64) + v % (100 : UInt64)) (unli (li (bitsL (ibits BinOp.and b (255 : Int)) (8 : Nat)))) (ibits BinOp.and k (7 : Int)))) (unli (li (Prod.fst (Prod.snd (withL ((1 : UInt64) + v % (100 : UInt64)) (unli (li (bitsL (ibits BinOp.and b (255 : Int)) (8 : Nat)))) (ibits BinOp.and k (7 : Int))))))) (ibits BinOp.and k (7 : Int)))) (unli (li (Prod.fst (Prod.snd (withoutL (Prod.fst (withL ((1 : UInt64) + v % (100 : UInt64)) (unli (li (bitsL (ibits BinOp.and b (255 : Int)) (8 : Nat)))) (ibits BinOp.and k (7 : Int)))) (unli (li (Prod.fst (Prod.snd (withL ((1 : UInt64) + v % (100 : UInt64)) (unli (li (bitsL (ibits BinOp.and b (255 : Int)) (8 : Nat)))) (ibits BinOp.and k (7 : Int))))))) (ibits BinOp.and k (7 : Int))))))) (ibits BinOp.and k (7 : Int))) ((True ∧ True) ∧ True ∧ True ∧ True ∧ True ∧ True ∧ true = true) (True ∧ True ∧ True ∧ True ∧ True ∧ false = true)) (True ∧ True ∧ True ∧ True ∧ True ∧ True ∧ True ∧ false = true)) (True ∧ True ∧ True ∧ True ∧ True ∧ True ∧ True ∧ True ∧ True ∧ false = true)) (True ∧ True ∧ True ∧ True ∧ True ∧ True ∧ True ∧ True ∧ True ∧ True ∧ True ∧ false = true)) (True ∧ True ∧ True ∧ True ∧ True ∧ True ∧ True ∧ True ∧ True ∧ True ∧ True ∧ True ∧ True ∧ false = true)) (True ∧ True ∧ True ∧ True ∧ True ∧ True ∧ True ∧ True ∧ True ∧ True ∧ True ∧ True ∧ True ∧ True ∧ True ∧ false = true)) (True ∧ True ∧ True ∧ True ∧ True ∧ True ∧ True ∧ True ∧ True ∧ True ∧ True ∧ True ∧ True ∧ True ∧ True ∧ True ∧ True ∧ false = true)) (True ∧ True ∧ True ∧ True ∧ True ∧ True ∧ True ∧ True ∧ True ∧ True ∧ True ∧ True ∧ True ∧ True ∧ True ∧ True ∧ True ∧ True ∧ True ∧ false = true))) :
    Spec Try.prog 8 [.i b, .i k, .u64 v] [] (.b true) [] :=
  spec_of_tr (by kernel_rfl) hT Try.func8 (c := Try.f8.body.getD .skip) (by kernel_rfl) (noO) (Eq.mp (by kernel_rfl) h)

end Ro

namespace Ro
open Go Go.AL Go.Proofs

def insI (k : Int) : List Int → List Int
  | [] => [k]
  | m :: ms => if k ≤ m then k :: m :: ms else m :: insI k ms

theorem insI_perm (k : Int) : ∀ ms : List Int, (insI k ms).Perm (ms ++ [k])
  | [] => List.Perm.refl _
  | m :: ms => by
    unfold insI
    split
    · exact (List.perm_append_singleton k (m :: ms)).symm
    · exact List.Perm.cons m (insI_perm k ms)

theorem insI_mem {k x : Int} {ms : List Int} (h : x ∈ insI k ms) : x = k ∨ x ∈ ms := by
  have := (insI_perm k ms).mem_iff.1 h
  simp at this
  exact this.symm

theorem insI_sorted (k : Int) : ∀ ms : List Int, ms.Pairwise (· ≤ ·) → (insI k ms).Pairwise (· ≤ ·)
  | [], _ => by simp [insI]
  | m :: ms, h => by
    have h1 := List.pairwise_cons.1 h
    unfold insI
    split
    · rename_i hk
      refine List.pairwise_cons.2 ⟨fun x hx => ?_, h⟩
      rcases List.mem_cons.1 hx with rfl | hx
      · exact hk
      · have := h1.1 x hx; omega
    · rename_i hk
      refine List.pairwise_cons.2 ⟨fun x hx => ?_, insI_sorted k ms h1.2⟩
      rcases insI_mem hx with rfl | hx
      · omega
      · exact h1.1 x hx

theorem sortI_ins (k : Int) (ms : List Int) (h : ms.Pairwise (· ≤ ·)) : sortI (ms ++ [k]) = insI k ms := by
  have h1 : (sortI (ms ++ [k])).Pairwise (· ≤ ·) := by
    have := List.pairwise_mergeSort (le := fun x y : Int => decide (x ≤ y)) (fun a b c h1 h2 => by simp at *; omega) (fun a b => by simp; omega) (ms ++ [k])
    simpa [sortI] using this
  exact List.Perm.eq_of_pairwise (fun a b _ _ h1 h2 => by omega) h1 (insI_sorted k ms h) ((List.mergeSort_perm _ _).trans (insI_perm k ms).symm)

theorem bitsL_mem {b : Int} : ∀ {n : Nat} {x : Int}, x ∈ bitsL b n → x < n
  | 0, x, h => by simp [bitsL] at h
  | n + 1, x, h => by
    unfold bitsL at h
    split at h
    · rcases List.mem_append.1 h with h | h
      · have := bitsL_mem h; omega
      · simp at h; omega
    · have := bitsL_mem h; omega

theorem bitsL_sorted (b : Int) : ∀ n : Nat, (bitsL b n).Pairwise (· ≤ ·)
  | 0 => by simp [bitsL]
  | n + 1 => by
    unfold bitsL
    split
    · refine List.pairwise_append.2 ⟨bitsL_sorted b n, by simp, fun x hx y hy => ?_⟩
      simp at hy; subst hy
      have := bitsL_mem hx; omega
    · exact bitsL_sorted b n

/-- The list of eight truths. -/
def lstB (f : Nat → Bool) : Nat → List Int
  | 0 => []
  | n + 1 => if f n then lstB f n ++ [(n : Int)] else lstB f n
theorem bitsL_lst (b : Int) : ∀ n, bitsL b n = lstB (bitI b) n
  | 0 => rfl
  | n + 1 => by simp only [bitsL, lstB, bitsL_lst b n]
def fB (b0 b1 b2 b3 b4 b5 b6 b7 : Bool) (n : Nat) : Bool := match n with
  | 0 => b0 | 1 => b1 | 2 => b2 | 3 => b3 | 4 => b4 | 5 => b5 | 6 => b6 | _ => b7
theorem lst_fB (f : Nat → Bool) : lstB f 8 = lstB (fB (f 0) (f 1) (f 2) (f 3) (f 4) (f 5) (f 6) (f 7)) 8 := by
  simp only [lstB, fB]

def okL (ms : List Int) : Bool := !decide (ms.length < 1) && !decide (8 < ms.length) && okTo ms ms.length
theorem right_ok {v : UInt64} (h1 : 1 ≤ v.toNat) (h2 : v.toNat ≤ 1099511627776) (ms : List Int) : rightB v ms = okL ms := by
  have e1 : ¬ v < 1 := by rw [UInt64.lt_iff_toNat_lt]; simp; omega
  have e2 : ¬ (1099511627776 : UInt64) < v := by rw [UInt64.lt_iff_toNat_lt]; simp; omega
  simp only [rightB, okL, e1, e2, decide_false, Bool.not_false, Bool.true_and]
def hasL (ms : List Int) (k : Int) : Bool := okL ms && decide (0 ≤ findI ms k 0)
theorem has_ok {v : UInt64} (h1 : 1 ≤ v.toNat) (h2 : v.toNat ≤ 1099511627776) (ms : List Int) (k : Int) : hasB v ms k = hasL ms k := by
  simp only [hasB, hasL, right_ok h1 h2]
def diffL (xa xb : List Int) : Nat → Nat
  | 0 => 0
  | n + 1 => diffL xa xb n + (if hasL xa n != hasL xb n then 1 else 0)
theorem diff_ok {v w : UInt64} (h1 : 1 ≤ v.toNat) (h2 : v.toNat ≤ 1099511627776) (h3 : 1 ≤ w.toNat) (h4 : w.toNat ≤ 1099511627776) (xa xb : List Int) : ∀ n, diffN v xa w xb n = diffL xa xb n
  | 0 => rfl
  | n + 1 => by simp only [diffN, diffL, diff_ok h1 h2 h3 h4 xa xb n, has_ok h1 h2, has_ok h3 h4]

def backL (ms : List Int) (k : Int) : Bool :=
  !(okL ms && !hasL ms k && okL (insI k ms)) || (delI (insI k ms) k == ms && hasL (insI k ms) k && (diffL ms (insI k ms) 8 == 1) && (diffL (insI k ms) ms 8 == 1))
set_option maxRecDepth 100000 in
set_option maxHeartbeats 0 in
theorem back_all : ∀ b0 b1 b2 b3 b4 b5 b6 b7 : Bool, ∀ k : Fin 8, backL (lstB (fB b0 b1 b2 b3 b4 b5 b6 b7) 8) (k.val : Int) = true := by decide +kernel
end Ro

namespace Ro
open Go Go.AL Go.Proofs

theorem withL_eq {v : UInt64} (h1 : 1 ≤ v.toNat) (h2 : v.toNat < 1099511627776) {ms : List Int} (hs : ms.Pairwise (· ≤ ·)) (k : Int) :
    withL v ms k = if okL ms && !hasL ms k && okL (insI k ms) then (v + 1, insI k ms, true) else (0, [], false) := by
  have hv : (v + 1).toNat = v.toNat + 1 := by rw [UInt64.toNat_add]; simp; omega
  unfold withL soL
  rw [right_ok h1 (by omega), has_ok h1 (by omega), right_ok (by omega) (by omega), sortI_ins k ms hs]
  cases okL ms <;> cases hasL ms k <;> cases okL (insI k ms) <;> rfl
theorem withoutL_eq {v : UInt64} (h1 : 1 ≤ v.toNat) (h2 : v.toNat < 1099511627776) (ms : List Int) (k : Int) :
    withoutL v ms k = if hasL ms k && okL (delI ms k) then (v + 1, delI ms k, true) else (0, [], false) := by
  have hv : (v + 1).toNat = v.toNat + 1 := by rw [UInt64.toNat_add]; simp; omega
  unfold withoutL soL
  rw [has_ok h1 (by omega), right_ok (by omega) (by omega)]
  cases hasL ms k <;> cases okL (delI ms k) <;> rfl
theorem follows_eq {v w : UInt64} (h1 : 1 ≤ v.toNat) (h2 : v.toNat ≤ 1099511627776) (h3 : 1 ≤ w.toNat) (h4 : w.toNat ≤ 1099511627776) (xa xb : List Int) :
    followsB v xa w xb = (okL xa && okL xb && (w == v + 1) && (diffL xa xb 8 == 1)) := by
  unfold followsB
  rw [right_ok h1 h2, right_ok h3 h4, diff_ok h1 h2 h3 h4]

theorem spec50 : Spec Try.prog 50 [] [] (.b true) [] := by
  refine of50 (tbl_ok (by simp [ok46, ok51 ok116, ok112, ok35, ok52, ok49, ok53])) ?_
  have hw : withL 1 (unli [T.i 0, T.i 2, T.i 5]) 3 = (2, [0, 2, 3, 5], true) := by
    rw [show unli [T.i 0, T.i 2, T.i 5] = [0, 2, 5] from rfl, withL_eq (by decide) (by decide) (by decide)]
    decide +kernel
  have hu : unli [T.i 0, T.i 2, T.i 5] = [0, 2, 5] := rfl
  have hu2 : unli [T.i 0, T.i 2, T.i 3, T.i 5] = [0, 2, 3, 5] := rfl
  have hf : followsB 1 [0, 2, 5] 2 [0, 2, 3, 5] = true := by
    rw [follows_eq (by decide) (by decide) (by decide) (by decide)]
    decide +kernel
  have hh : hasB 1 [0, 2, 5] 5 = true := by
    rw [has_ok (by decide) (by decide)]
    decide +kernel
  rw [hw]
  simp only [true_and, and_true, hu, hu2, unli_li, hf, hh, cases2, li_len]
  exact ⟨rfl, rfl, rfl, ⟨rfl, by decide, by decide⟩, rfl, ⟨rfl, rfl⟩, rfl, rfl⟩

theorem ok50 : EntOk Try.prog e50 := by
  intro args ins pre res outs h hp
  simp only [e50] at h ⊢
  unfold s50 at h
  split at h
  · simp only [Option.some.injEq, Prod.mk.injEq] at h
    obtain ⟨rfl, rfl, rfl⟩ := h
    exact spec50
  · cases h

theorem ibits7 (k : Int) : ∃ j : Fin 8, ibits .and k 7 = (j.val : Int) := by
  have h1 : (BitVec.ofInt 64 k &&& BitVec.ofInt 64 7).toNat < 8 := by
    rw [BitVec.toNat_and]
    have : (BitVec.ofInt 64 7).toNat = 7 := by decide
    rw [this]
    have := @Nat.and_le_right (BitVec.ofInt 64 k).toNat 7
    omega
  refine ⟨⟨_, h1⟩, ?_⟩
  show IntKind.i64.wrap ((BitVec.ofInt 64 k &&& BitVec.ofInt 64 7).toNat : Int) = _
  exact wrap_i64 (by unfold InI; omega)

theorem back_bits (b : Int) (j : Fin 8) : backL (bitsL b 8) (j.val : Int) = true := by
  rw [bitsL_lst, lst_fB]
  exact back_all _ _ _ _ _ _ _ _ j

theorem spec8 (b k : Int) (v : UInt64) : Spec Try.prog 8 [.i b, .i k, .u64 v] [] (.b true) [] := by
  refine of8 b k v (tbl_ok (by simp [ok45, ok46, ok50, ok51 ok116, ok35, ok52, ok53])) ?_
  have hv : (1 + v % 100).toNat = 1 + v.toNat % 100 := by
    rw [UInt64.toNat_add, UInt64.toNat_mod]
    have : v.toNat % (100 : UInt64).toNat < 100 := Nat.mod_lt _ (by decide)
    simp at this ⊢
    omega
  have hv1 : 1 ≤ (1 + v % 100).toNat ∧ (1 + v % 100).toNat ≤ 100 := by rw [hv]; omega
  generalize 1 + v % 100 = u at hv1
  clear hv
  obtain ⟨j, hj⟩ := ibits7 k
  rw [hj]
  generalize hms : bitsL (ibits .and b 255) 8 = ms
  have hsort : ms.Pairwise (· ≤ ·) := by rw [← hms]; exact bitsL_sorted _ _
  have hback : backL ms (j.val : Int) = true := by rw [← hms]; exact back_bits _ j
  simp only [unli_li, li_len]
  rw [withL_eq hv1.1 (by omega) hsort]
  by_cases hc : (okL ms && !hasL ms j.val && okL (insI j.val ms)) = true
  · rw [if_pos hc]
    have hu1 : (u + 1).toNat = u.toNat + 1 := by rw [UInt64.toNat_add]; simp; omega
    have hu2 : (u + 1 + 1).toNat = u.toNat + 2 := by rw [UInt64.toNat_add, hu1]; simp; omega
    simp only [Bool.and_eq_true, Bool.not_eq_true'] at hc
    unfold backL at hback
    simp only [hc.1.1, hc.1.2, hc.2, Bool.not_false, Bool.and_self, Bool.not_true, Bool.false_or, Bool.and_eq_true, beq_iff_eq] at hback
    obtain ⟨⟨⟨g1, g2⟩, g3⟩, g4⟩ := hback
    have hwo : withoutL (u + 1) (insI j.val ms) j.val = (u + 1 + 1, ms, true) := by
      rw [withoutL_eq (by omega) (by omega), g1, g2, hc.1.1]; rfl
    have hlen : ms.length ≤ 8 := by
      have := hc.1.1
      unfold okL at this
      simp only [Bool.and_eq_true, Bool.not_eq_true', decide_eq_false_iff_not] at this
      omega
    have e1 : followsB u ms (u + 1) (insI j.val ms) = true := by
      rw [follows_eq (by omega) (by omega) (by omega) (by omega)]; simp [hc.1.1, hc.2, g3]
    have e2 : followsB (u + 1) (insI j.val ms) (u + 1 + 1) ms = true := by
      rw [follows_eq (by omega) (by omega) (by omega) (by omega)]; simp [hc.1.1, hc.2, g4]
    have hne : (u + 1 + 1 == u + 1) = false := by
      simp only [beq_eq_false_iff_ne, ne_eq]
      intro e
      have := congrArg UInt64.toNat e
      omega
    have e3 : followsB u ms (u + 1 + 1) ms = false := by
      rw [follows_eq (by omega) (by omega) (by omega) (by omega), hne]; simp
    have e4 : hasB (u + 1) (insI j.val ms) j.val = true := by rw [has_ok (by omega) (by omega)]; exact g2
    have e5 : hasB (u + 1 + 1) ms j.val = false := by rw [has_ok (by omega) (by omega)]; exact hc.1.2
    have e6 : (u + 1 + 1 == u + 2) = true := by
      simp only [beq_iff_eq]
      apply UInt64.toNat_inj.1
      rw [hu2, UInt64.toNat_add]; simp; omega
    simp only [hwo, e1, e2, e3, e4, e5, e6, Bool.not_true, Bool.not_false, beq_self_eq_true, cases2, true_and, and_true]
    exact ⟨by decide, by omega, by omega⟩
  · rw [if_neg hc]
    simp only [cases2, Bool.not_false, true_and, and_true]
    decide
end Ro

namespace Ro
open Go Go.AL Go.Proofs

/-! ## count, set -/
def cntF : Nat → Nat → Nat
  | 0, _ => 0
  | f + 1, n => n % 2 + cntF f (n / 2)
def O48 (n : Nat) : Orc2 := orc (fun _ => []) fun _ => .inv (Nat × Nat) (n, 0) (fun s => s.1 < 256 ∧ s.2 + cntF 8 s.1 = cntF 8 n) (fun s => s.1) [] (fun s => [(0, .i s.1), (3, .i s.2)]) [] (fun _ => []) []
  (fun _ _ => []) (fun _ _ => .unroll 0)
def s48 (args : List T) (ins : List Cont) : Option (Prop × T × List Cont) := match args, ins with
  | [.i n], [] => some (0 ≤ n ∧ n < 256, .i (cntF 8 n.toNat), [])
  | _, _ => none
def e48 : Ent := ⟨48, false, s48⟩

def bitOf (m : Int) : Int := 1 * 2 ^ (UInt64.ofInt (ibits .and m 7)).toNat
def setI (ms : List Int) : Int := ms.foldl (fun n m => ibits .or n (bitOf m)) 0
def O47 (ms : List Int) : Orc2 := orc (fun _ => []) fun _ => .inv Nat 0 (fun i => i ≤ ms.length) (fun i => ms.length - i) [] (fun i => [(3, .i (setI (ms.take i))), (4, .i i)]) [1] (fun _ => []) [1]
  (fun i j => match j with
    | 16 => [.i (ms.getD i 0)]
    | _ => []) (fun _ _ => .unroll 0)
def s47 (args : List T) (ins : List Cont) : Option (Prop × T × List Cont) := match args, ins with
  | [.agg [.u64 _, m]], [] => match asL m with
    | some xs => some (xs = li (unli xs) ∧ xs.length ≤ 1000000, .i (setI (unli xs)), [])
    | none => none
  | _, _ => none
def e47 : Ent := ⟨47, false, s47⟩

/-! ## the law's right; Equal, Same, after, same -/
def O119 (ms : List Int) : Orc2 := orc (fun _ => []) fun _ => .inv Nat 0 (fun i => i ≤ ms.length ∧ okTo ms i = true) (fun i => ms.length - i) [] (fun i => [(3, .i i)]) [1] (fun _ => []) [1]
  (fun i k => match k with
    | 34 => [.i (ms.getD i 0)]
    | 41 => [.i (ms.getD i 0)]
    | 53 => [.i (ms.getD (i - 1) 0)]
    | 58 => [.i (ms.getD i 0)]
    | _ => []) (fun _ _ => .unroll 0)
def s119 (args : List T) (ins : List Cont) : Option (Prop × T × List Cont) := match args, ins with
  | [.agg [.u64 v, m]], [] => match asL m with
    | some xs => some (xs = li (unli xs), .b (rightB v (unli xs)), [])
    | none => none
  | _, _ => none
def e119 : Ent := ⟨119, false, s119⟩

def O120 (xa xb : List Int) : Orc2 := orc (fun _ => []) fun _ => .inv Nat 0 (fun i => i ≤ xa.length ∧ xa.take i = xb.take i) (fun i => xa.length - i) [] (fun i => [(13, .i i)]) [0, 1, 12] (fun _ => []) []
  (fun i j => match j with
    | 18 => [.i (xa.getD i 0)]
    | 22 => [.i (xb.getD i 0)]
    | _ => []) (fun _ _ => .unroll 0)
def s120 (args : List T) (ins : List Cont) : Option (Prop × T × List Cont) := match args, ins with
  | [m, n], [] => match asL m, asL n with
    | some xs, some ys => some (xs = li (unli xs) ∧ ys = li (unli ys) ∧ xs.length ≤ 9223372036854775807 ∧ ys.length ≤ 9223372036854775807, .b (unli xs == unli ys), [])
    | _, _ => none
  | _, _ => none
def e120 : Ent := ⟨120, false, s120⟩

def s56 (args : List T) (ins : List Cont) : Option (Prop × T × List Cont) := match args, ins with
  | [.agg [.u64 v, m], .agg [.u64 w, n]], [] => match asL m, asL n with
    | some xs, some ys => some (xs = li (unli xs) ∧ ys = li (unli ys) ∧ xs.length ≤ 9223372036854775807 ∧ ys.length ≤ 9223372036854775807, .b (v == w && unli xs == unli ys), [])
    | _, _ => none
  | _, _ => none
def e56 : Ent := ⟨56, false, s56⟩

def afterD (xa xb : List Int) : Bool := let d := ibits .xor (setI xa) (setI xb); (d != 0) && (ibits .and d (d - 1) == 0)
def afterB (v : UInt64) (xa : List Int) (w : UInt64) (xb : List Int) : Bool := rightB v xa && rightB w xb && (w == v + 1) && afterD xa xb
def s55 (args : List T) (ins : List Cont) : Option (Prop × T × List Cont) := match args, ins with
  | [.agg [.u64 v, m], .agg [.u64 w, n]], [] => match asL m, asL n with
    | some xs, some ys => some (xs = li (unli xs) ∧ ys = li (unli ys), .b (afterB v (unli xs) w (unli ys)), [])
    | _, _ => none
  | _, _ => none
def e55 : Ent := ⟨55, false, s55⟩

/-! The law's own answer to k: is it there, whom With and Without answer. -/
def inB (v : UInt64) (ms : List Int) (k : Int) : Bool := rightB v ms && decide (k ≥ 0) && decide (k < 8) && (ibits .and ((setI ms).fdiv (2 ^ (UInt64.ofInt (ibits .and k 7)).toNat)) 1 == 1)
def xB (v : UInt64) (ms : List Int) (k : Int) : Bool := rightB v ms && !inB v ms k && decide (k ≥ 0) && decide (k < 8) && decide (v < 1099511627776)
def yB (v : UInt64) (ms : List Int) (k : Int) : Bool := inB v ms k && decide ((ms.length : Int) > 1) && decide (v < 1099511627776)
def xV (v : UInt64) (ms : List Int) (k : Int) : UInt64 := if xB v ms k then v + 1 else 0
def xL (v : UInt64) (ms : List Int) (k : Int) : List Int := if xB v ms k then bitsL (ibits .or (setI ms) (1 * 2 ^ (UInt64.ofInt k).toNat)) 8 else []
def yV (v : UInt64) (ms : List Int) (k : Int) : UInt64 := if yB v ms k then v + 1 else 0
def yL (v : UInt64) (ms : List Int) (k : Int) : List Int := if yB v ms k then bitsL (ibits .andNot (setI ms) (1 * 2 ^ (UInt64.ofInt k).toNat)) 8 else []
def mostI (v : UInt64) (ms : List Int) : Int := if rightB v ms then (ms.length : Int).tdiv 2 + 1 else 0
def O54 (v : UInt64) (ms : List Int) (k : Int) : Orc2 := orj (fun _ => []) (fun _ => .unroll 0) fun r => match r with
  | 5 => jn1 [(6, .b (inB v ms k))] [1, 2, 5] [] [1]
  | 10 => jn1 [] [1, 2, 5, 6, 7, 8, 9, 10, 11, 12] [(8, .var (ls (xV v ms k) (xL v ms k)), false)] [1, 5, 7, 9]
  | 12 => jn1 [] [1, 2, 5, 6, 7, 8, 9, 10, 11, 12] [(9, .var (ls (yV v ms k) (yL v ms k)), false)] [1, 5, 7, 8]
  | 15 => jn1 [(13, .i (mostI v ms))] [1, 2, 5, 6, 7, 8, 9, 10, 11, 12] [] [1, 5, 7, 8, 9]
  | _ => none
def s54 (args : List T) (ins : List Cont) : Option (Prop × T × List Cont) := match args, ins with
  | [.agg [.u64 _, m], .i _], [] => match asL m with
    | some xs => some (xs = li (unli xs) ∧ xs.length ≤ 9223372036854775807, .b true, [])
    | none => none
  | _, _ => none
def e54 : Ent := ⟨54, false, s54⟩
end Ro
