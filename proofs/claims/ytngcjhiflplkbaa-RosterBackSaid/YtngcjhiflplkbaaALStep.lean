/- One operation in the abstract machine. No condition. -/
import Derived.Test.YtngcjhiflplkbaaALConv
import Derived.Great.BuildSlice
namespace Go.AL
open Go

def T.plain : T → Bool
  | .tup _ | .junk | .ow _ | .os _ _ => false
  | _ => true

theorem RV.of_plain {w : World} {N : Nat → Prop} {X : Ext} {x : T} {v : Value} (h : RT w N X x v) (hp : x.plain = true) : RV w N X x v :=
  RV.of_RT h (fun xs e => by subst e; simp [T.plain] at hp) (fun e => by subst e; simp [T.plain] at hp)

def St.evs (st : St) : List Operand → Option (List T)
  | [] => some []
  | o :: os => match st.ev o, st.evs os with
    | some x, some xs => some (x :: xs)
    | _, _ => none

def St.bd (st : St) : Option Operand → Option Bd
  | none => some .no
  | some o => match st.ev o with
    | some x => match x.int? with
      | some n => some (.at n)
      | none => none
    | none => none

def callOk (P : Program) (f : FuncId) : Bool := match P.funcs[f]? with
  | some fn => fn.body.isSome && !(fn.name == "runtime.NumGoroutine")
  | none => false

/-- A struct or an array out of parts: each part in its place, the others zero. -/
def setAll (xs : List T) : List (Nat × T) → Option (List T)
  | [] => some xs
  | (k, y) :: ps => match xs[k]? with
    | some x => if (y.plain && Sk.beq x.sk y.sk) then setAll (xs.set k y) ps else none
    | none => none

def St.evp (st : St) : List (Nat × Operand) → Option (List (Nat × T))
  | [] => some []
  | (k, o) :: ps => match st.ev o, st.evp ps with
    | some x, some xs => some ((k, x) :: xs)
    | _, _ => none

def asU8s : List T → Option (List UInt8)
  | [] => some []
  | .u8 x :: xs => match asU8s xs with
    | some l => some (x :: l)
    | none => none
  | _ => none

/-- The places of a struct's fields as the program has them. -/
def placesOk (P : Program) (fs : List Field) (xs : List T) (off : Nat) : Bool := match fs, xs with
  | [], [] => true
  | f :: fs, x :: xs => Nat.beq f.offset off && (match szT P f.type with | some k => Nat.beq k x.sk.size | none => false) && placesOk P fs xs (off + x.sk.size)
  | _, _ => false

def bld (P : Program) (t : TypeId) (ps : List (Nat × T)) : Option T :=
  match zeroOk P t with
  | some (.agg xs, _) => match P.underlying t with
    | some (.struct fs) => if placesOk P fs.toList xs 0 then match setAll xs ps with
      | some ys => some (.agg ys)
      | none => none
      else none
    | _ => none
  | some (.ba n l, _) => match P.underlying t with
    | some (.array _ e) => match szT P e, setAll (l.map .u8) ps with
      | some 1, some ys => match asU8s ys with
        | some l' => some (.ba n l')
        | none => none
      | _, _ => none
    | _ => none
  | some (.arr n e xs, _) => match P.underlying t with
    | some (.array _ e') => match szT P e', setAll xs ps with
      | some k, some ys => if (Nat.beq k e.size && T.datas ys) then some (.arr n e ys) else none
      | _, _ => none
    | _ => none
  | _ => none

theorem part_set {cells : Array Value} {pre c post : List Value} (h : cells.toList = pre ++ c ++ post) (v : Array Value) (hv : v.size = c.length) :
    (v.zipIdx.foldl (fun cs (x : Value × Nat) => cs.setIfInBounds (pre.length + x.2) x.1) cells).toList = pre ++ v.toList ++ post := by
  rw [← Array.foldl_toList, Array.toList_zipIdx]
  obtain ⟨h1, h2⟩ := Great.foldl_set pre.length v.toList 0 cells
  have hsz : cells.size = pre.length + c.length + post.length := by
    have := congrArg List.length h
    simp at this
    omega
  apply List.ext_getElem?
  intro k
  rw [Array.getElem?_toList, h2 k]
  simp only [Nat.add_zero, Array.length_toList]
  by_cases hk : pre.length ≤ k ∧ k < pre.length + v.size ∧ k < cells.size
  · rw [if_pos hk, List.append_assoc, List.getElem?_append_right hk.1, List.getElem?_append_left (by simp; omega)]
  · rw [if_neg hk]
    have : cells[k]? = cells.toList[k]? := by simp
    rw [this, h]
    by_cases h1 : k < pre.length
    · rw [List.append_assoc, List.append_assoc, List.getElem?_append_left h1, List.getElem?_append_left h1]
    · rw [List.append_assoc, List.append_assoc, List.getElem?_append_right (by omega), List.getElem?_append_right (by omega)]
      rw [List.getElem?_append_right (by omega), List.getElem?_append_right (by simp; omega)]
      congr 1
      simp; omega

theorem fill_RL {w : World} {N : Nat → Prop} {X : Ext} (place : Nat → Option (Nat × Nat)) : ∀ (ps : List (Nat × T)) (vs : List (Nat × Value)) (xs ys : List T) (cs : Array Value), RL w N X xs cs.toList →
    (∀ k x, xs[k]? = some x → place k = some (Sk.sizes ((T.sks xs).take k), x.sk.size)) → setAll xs ps = some ys → vs.map (·.1) = ps.map (·.1) →
    (∀ (k : Nat) (p : Nat × T), ps[k]? = some p → ∃ q : Nat × Value, vs[k]? = some q ∧ RT w N X p.2 q.2) →
    ∃ cs', Instr.fill place cs vs = some cs' ∧ RL w N X ys cs'.toList ∧ T.sks ys = T.sks xs
  | [], vs, xs, ys, cs, h, _, hs, hm, _ => by
    simp only [setAll, Option.some.injEq] at hs
    subst hs
    cases vs with
    | nil => exact ⟨cs, rfl, h, rfl⟩
    | cons _ _ => simp at hm
  | (k, y) :: ps, vs, xs, ys, cs, h, hp, hs, hm, hv => by
    simp only [setAll] at hs
    split at hs
    · rename_i x hx
      split at hs
      · rename_i hc
        simp only [Bool.and_eq_true] at hc
        have hsk := Sk.eq_of_beq _ _ hc.2
        cases vs with
        | nil => simp at hm
        | cons q vs =>
          obtain ⟨k', v⟩ := q
          simp at hm
          obtain ⟨rfl, hm⟩ := hm
          obtain ⟨q, hq, hrt⟩ := hv 0 (k', y) rfl
          simp at hq
          subst hq
          have hrv := RV.of_plain hrt hc.1
          have hcells := hrv.cells
          obtain ⟨pre, c, post, e1, e2, e3, e4⟩ := RL.at xs cs.toList k' x h hx
          have hvl : v.cells.size = x.sk.size := by
            have := RC.length _ _ hcells
            simp at this
            rw [this, ← hsk]
          have hcl : v.cells.size = c.length := by rw [hvl, RC.length _ _ e3]
          have hplace := hp k' x hx
          have hset := part_set e1 v.cells hcl
          rw [e2] at hset
          have hrl := e4 y v.cells.toList (by rw [hsk]) hcells
          rw [← hset] at hrl
          have hsks := sks_set xs k' x y hx hsk.symm
          have hplaces : ∀ j z, (xs.set k' y)[j]? = some z → place j = some (Sk.sizes ((T.sks (xs.set k' y)).take j), z.sk.size) := by
            intro j z hz
            rw [hsks]
            by_cases hj : k' = j
            · subst hj
              rw [List.getElem?_set] at hz
              have hlt : k' < xs.length := (List.getElem?_eq_some_iff.1 hx).1
              simp [hlt] at hz
              subst hz
              rw [hp k' x hx, hsk]
            · rw [List.getElem?_set_ne hj] at hz
              exact hp j z hz
          obtain ⟨cs', r1, r2, r3⟩ := fill_RL place ps vs (xs.set k' y) ys _ hrl hplaces hs hm (fun j p hj => by
            have := hv (j + 1) p (by simpa using hj)
            simpa using this)
          refine ⟨cs', ?_, r2, by rw [r3, hsks]⟩
          simp only [Instr.fill, hplace]
          rw [if_neg]
          · exact r1
          · have hsz : cs.size = pre.length + c.length + post.length := by
              have := congrArg List.length e1
              simp at this
              omega
            simp only [Bool.or_eq_true, decide_eq_true_eq, not_or]
            refine ⟨fun h => h hvl, ?_⟩
            rw [← e2]
            omega
      · cases hs
    · cases hs

theorem RU.toRL {w : World} {N : Nat → Prop} {e : Sk} : ∀ (xs : List T) (cs : List Value), RU w N e xs cs → RL w N Ext.none xs cs
  | [], cs, h => by simpa only [RU, RL] using h
  | x :: xs, cs, h => by
    simp only [RU, RL] at h ⊢
    obtain ⟨c1, c2, h1, h2, h2', h3, h4⟩ := h
    exact ⟨c1, c2, h1, by rw [h2, h2'], h3, RU.toRL xs c2 h4⟩

theorem RL.toRU {w : World} {N : Nat → Prop} {e : Sk} : ∀ (xs : List T) (cs : List Value), T.sks xs = List.replicate xs.length e → RL w N Ext.none xs cs → RU w N e xs cs
  | [], cs, _, h => by simpa only [RU, RL] using h
  | x :: xs, cs, hs, h => by
    simp only [RU, RL] at h ⊢
    obtain ⟨c1, c2, h1, h2, h3, h4⟩ := h
    simp only [T.sks, List.length_cons, List.replicate_succ, List.cons.injEq] at hs
    exact ⟨c1, c2, h1, by rw [h2, hs.1], hs.1, h3, RL.toRU xs c2 hs.2 h4⟩

theorem RU.sks {w : World} {N : Nat → Prop} {e : Sk} : ∀ (xs : List T) (cs : List Value), RU w N e xs cs → T.sks xs = List.replicate xs.length e
  | [], _, _ => rfl
  | x :: xs, cs, h => by
    simp only [RU] at h
    obtain ⟨c1, c2, h1, h2, h2', h3, h4⟩ := h
    simp only [T.sks, List.length_cons, List.replicate_succ, h2', RU.sks xs c2 h4]

theorem sizes_rep (e : Sk) : ∀ (n k : Nat), k ≤ n → Sk.sizes ((List.replicate n e).take k) = k * e.size
  | n, 0, _ => by simp [Sk.sizes]
  | 0, k + 1, h => by omega
  | n + 1, k + 1, h => by
    simp only [List.replicate_succ, List.take_succ_cons, Sk.sizes]
    rw [sizes_rep e n k (by omega), Nat.succ_mul]
    omega

theorem RL_u8 {w : World} {N : Nat → Prop} {X : Ext} : ∀ (l : List UInt8), RL w N X (l.map .u8) (l.map u8v)
  | [] => by simp only [List.map_nil, RL]
  | x :: l => by
    simp only [List.map_cons, RL]
    exact ⟨[u8v x], l.map u8v, rfl, rfl, by simp only [RC], RL_u8 l⟩

theorem asU8s_ok {w : World} {N : Nat → Prop} {X : Ext} : ∀ (xs : List T) (l : List UInt8) (cs : List Value), asU8s xs = some l → RL w N X xs cs → cs = l.map u8v ∧ l.length = xs.length
  | [], l, cs, h, hr => by
    simp only [asU8s, Option.some.injEq] at h
    subst h
    simp only [RL] at hr
    subst hr
    exact ⟨rfl, rfl⟩
  | x :: xs, l, cs, h, hr => by
    cases x <;> simp only [asU8s] at h <;> try (cases h; done)
    split at h
    · rename_i l' hl
      simp only [Option.some.injEq] at h
      subst h
      simp only [RL, RC] at hr
      obtain ⟨c1, c2, h1, _, h3, h4⟩ := hr
      obtain ⟨r1, r2⟩ := asU8s_ok xs l' c2 hl h4
      rw [h1, h3, r1]
      exact ⟨rfl, by simp [r2]⟩
    · cases h

theorem u8_sks (l : List UInt8) : T.sks (l.map .u8) = List.replicate l.length .lf := by
  induction l with
  | nil => rfl
  | cons x l ih => simp [T.sks, T.sk, ih, List.replicate_succ]

end Go.AL
