/- Structs, arrays and slices out of parts. No condition. -/
import Derived.Test.YtngcjhiflplkbaaALStep
namespace Go.AL
open Go

theorem placesOk_spec {P : Program} : ∀ (fs : List Field) (xs : List T) (off : Nat), placesOk P fs xs off = true →
    ∃ places, fs.mapM (fun f => (P.info? f.type).map fun i => (f.offset, i.size)) = some places ∧ places.length = xs.length ∧
      ∀ k x, xs[k]? = some x → places[k]? = some (off + Sk.sizes ((T.sks xs).take k), x.sk.size)
  | [], [], off, _ => ⟨[], by simp, rfl, fun k x h => by simp at h⟩
  | f :: fs, x :: xs, off, h => by
    simp only [placesOk, Bool.and_eq_true] at h
    obtain ⟨⟨h1, h2⟩, h3⟩ := h
    have h1 := Nat.eq_of_beq_eq_true h1
    cases hi : P.info? f.type with
    | none => simp [szT, hi] at h2
    | some i =>
      simp [szT, hi] at h2
      obtain ⟨places, q1, q2, q3⟩ := placesOk_spec fs xs (off + x.sk.size) h3
      refine ⟨(f.offset, i.size) :: places, by simp [List.mapM_cons, hi, q1], by simp [q2], fun k y hk => ?_⟩
      cases k with
      | zero => simp at hk; subst hk; simp [Sk.sizes, h1, h2]
      | succ k =>
        simp at hk
        have := q3 k y hk
        simp only [List.getElem?_cons_succ, T.sks, List.take_succ_cons, Sk.sizes]
        rw [this]
        congr 2
        omega
  | [], _ :: _, _, h => by simp [placesOk] at h
  | _ :: _, [], _, h => by simp [placesOk] at h

theorem szT_info {P : Program} {t : TypeId} {k : Nat} (h : szT P t = some k) : ∃ i, P.info? t = some i ∧ i.size = k := by
  unfold szT at h
  cases hi : P.info? t with
  | none => simp [hi] at h
  | some i => simp [hi] at h; exact ⟨i, rfl, h⟩

theorem bld_ok {P : Program} {t : TypeId} {ps : List (Nat × T)} {y : T} (h : bld P t ps = some y) {w : World} {N : Nat → Prop} {X : Ext} {vs : List (Nat × Value)} (hm : vs.map (·.1) = ps.map (·.1))
    (hv : ∀ (k : Nat) (p : Nat × T), ps[k]? = some p → ∃ q : Nat × Value, vs[k]? = some q ∧ RT w N X p.2 q.2) :
    ∃ u, (Instr.build t vs.toArray).run P w = .ok u w ∧ RT w N X y u := by
  unfold bld at h
  split at h
  · rename_i xs cs hz
    obtain ⟨i, z, z1, z2, z3, z4, z5, z6⟩ := zeroOk_spec hz
    split at h
    · rename_i fs ht
      split at h
      · rename_i hpl
        split at h
        · rename_i ys hset
          simp only [Option.some.injEq] at h
          subst h
          obtain ⟨places, q1, q2, q3⟩ := placesOk_spec fs.toList xs 0 hpl
          have hz6 := z6 w N X
          have hrl : RL w N X xs z.cells.toList := by have := hz6.cells; simpa only [RC] using this
          obtain ⟨cs', r1, r2, _⟩ := fill_RL (places.toArray[·]?) ps vs xs ys z.cells hrl (fun k x hk => by
            have := q3 k x hk
            simpa using this) hset hm hv
          have hb : P.built t vs.toArray.toList = some cs' := by
            unfold Program.built
            simp only [z1, ht, z2, q1]
            simpa using r1
          refine ⟨_, run_build w t vs.toArray cs' hb, RT.of_RV (.inl ⟨rfl, cs'.toList, by simp, ?_⟩)⟩
          simp only [RC]
          exact r2
        · cases h
      · cases h
    · cases h
  · rename_i n l cs hz
    obtain ⟨i, z, z1, z2, z3, z4, z5, z6⟩ := zeroOk_spec hz
    split at h
    · rename_i n' e ht
      split at h
      · rename_i ys hsz hset
        split at h
        · rename_i l' hl'
          simp only [Option.some.injEq] at h
          subst h
          have hz6 := (z6 w N X).cells
          simp only [RC] at hz6
          obtain ⟨hln, hzc⟩ := hz6
          have hrl : RL w N X (l.map .u8) z.cells.toList := by rw [hzc]; exact RL_u8 l
          obtain ⟨ie, hie, hies⟩ := szT_info hsz
          obtain ⟨cs', r1, r2, r3⟩ := fill_RL (fun i => some (i * ie.size, ie.size)) ps vs (l.map .u8) ys z.cells hrl (fun k x hk => by
            have hlt : k < l.length := by have := (List.getElem?_eq_some_iff.1 hk).1; simpa using this
            rw [u8_sks, sizes_rep _ _ _ (by omega)]
            simp at hk
            obtain ⟨a, _, rfl⟩ := hk
            simp [hies, Sk.size, T.sk]) hset hm hv
          have hb : P.built t vs.toArray.toList = some cs' := by
            unfold Program.built
            simp only [z1, ht, z2, hie]
            simpa using r1
          obtain ⟨g1, g2⟩ := asU8s_ok ys l' _ hl' r2
          refine ⟨_, run_build w t vs.toArray cs' hb, RT.of_RV (.inl ⟨rfl, cs'.toList, by simp, ?_⟩)⟩
          simp only [RC]
          refine ⟨?_, g1⟩
          rw [g2, ← sks_length, r3, sks_length]
          simpa using hln
        · cases h
      · cases h
    · cases h
  · rename_i n e xs cs hz
    obtain ⟨i, z, z1, z2, z3, z4, z5, z6⟩ := zeroOk_spec hz
    split at h
    · rename_i n' e' ht
      split at h
      · rename_i k ys hsz hset
        split at h
        · rename_i hc
          simp only [Bool.and_eq_true] at hc
          have hk := Nat.eq_of_beq_eq_true hc.1
          simp only [Option.some.injEq] at h
          subst h
          have hz6 := (z6 w N X).cells
          simp only [RC] at hz6
          obtain ⟨hln, hu⟩ := hz6
          have hsks := RU.sks _ _ hu
          have hrl : RL w N X xs z.cells.toList := RL.mono (fun b hb _ => ⟨hb, rfl⟩) (Ext.none_le X) _ _ (RU.toRL _ _ hu)
          obtain ⟨ie, hie, hies⟩ := szT_info hsz
          obtain ⟨cs', r1, r2, r3⟩ := fill_RL (fun i => some (i * ie.size, ie.size)) ps vs xs ys z.cells hrl (fun j x hj => by
            have hlt : j < xs.length := (List.getElem?_eq_some_iff.1 hj).1
            rw [hsks, sizes_rep _ _ _ (by omega)]
            have := sks_get xs j x hj
            rw [hsks, List.getElem?_replicate, if_pos hlt] at this
            simp only [Option.some.injEq] at this
            rw [← this, hies, hk]) hset hm hv
          have hb : P.built t vs.toArray.toList = some cs' := by
            unfold Program.built
            simp only [z1, ht, z2, hie]
            simpa using r1
          have hlen : ys.length = xs.length := by rw [← sks_length, r3, sks_length]
          refine ⟨_, run_build w t vs.toArray cs' hb, RT.of_RV (.inl ⟨rfl, cs'.toList, by simp, ?_⟩)⟩
          simp only [RC]
          refine ⟨by rw [hlen]; exact hln, RL.toRU _ _ (by rw [r3, hsks, hlen]) (RL.data _ _ hc.2 r2)⟩
        · cases h
      · cases h
    · cases h
  · cases h

/-- The parts of a slice literal: numbers 0, 1, .. -/
def seqFrom : Nat → List (Nat × T) → Option (List T)
  | _, [] => some []
  | k, (j, x) :: ps => if (Nat.beq j k && x.plain && x.data) then match seqFrom (k + 1) ps with
      | some xs => some (x :: xs)
      | none => none
    else none

def allSk (e : Sk) : List T → Bool
  | [] => true
  | x :: xs => Sk.beq x.sk e && allSk e xs

/-- A slice literal as a row. -/
def bldS (P : Program) (t : TypeId) (len : Nat) (ps : List (Nat × T)) : Option Cont :=
  match P.underlying t with
  | some (.slice e) => match zeroOk P e, seqFrom 0 ps with
    | some (z, _), some xs => if (Nat.beq xs.length len && Nat.ble 1 z.sk.size && Nat.ble (len * z.sk.size) 16777216) then match P.underlying e with
        | some (.int .u8) => match asU8s xs with
          | some l => some (.rb l)
          | none => none
        | _ => if allSk z.sk xs then some (.rs z.sk xs) else none
      else none
    | _, _ => none
  | _ => none

theorem seqFrom_ok {w : World} {N : Nat → Prop} {X : Ext} : ∀ (k : Nat) (ps : List (Nat × T)) (xs : List T) (vs : List (Nat × Value)), seqFrom k ps = some xs → vs.map (·.1) = ps.map (·.1) →
    (∀ (j : Nat) (p : Nat × T), ps[j]? = some p → ∃ q : Nat × Value, vs[j]? = some q ∧ RT w N X p.2 q.2) →
    vs = ((vs.map (·.2)).zipIdx k).map (fun x => (x.2, x.1)) ∧ xs.length = vs.length ∧ RL w N Ext.none xs ((vs.map (·.2)).flatMap fun v => v.cells.toList) ∧
      ∀ (j : Nat) (x : T), xs[j]? = some x → ∃ v, (vs.map (·.2))[j]? = some v ∧ v.cells.size = x.sk.size
  | k, [], xs, vs, h, hm, _ => by
    simp only [seqFrom, Option.some.injEq] at h
    subst h
    cases vs with
    | nil => exact ⟨rfl, rfl, by simp [RL], fun j x hj => by simp at hj⟩
    | cons _ _ => simp at hm
  | k, (j, x) :: ps, xs, vs, h, hm, hv => by
    simp only [seqFrom] at h
    split at h
    · rename_i hc
      simp only [Bool.and_eq_true] at hc
      have hj := Nat.eq_of_beq_eq_true hc.1.1
      subst hj
      split at h
      · rename_i xs' hrest
        simp only [Option.some.injEq] at h
        subst h
        cases vs with
        | nil => simp at hm
        | cons q vs =>
          obtain ⟨j', v⟩ := q
          simp at hm
          obtain ⟨rfl, hm⟩ := hm
          obtain ⟨q, hq, hrt⟩ := hv 0 (j', x) rfl
          simp at hq
          subst hq
          have hrv := RV.of_plain hrt hc.1.2
          have hrc := RC.data (X' := Ext.none) _ _ hc.2 hrv.cells
          obtain ⟨r1, r2, r3, r4⟩ := seqFrom_ok (w := w) (N := N) (X := X) (j' + 1) ps xs' vs hrest hm (fun j p hj => by
            have := hv (j + 1) p (by simpa using hj)
            simpa using this)
          refine ⟨?_, by simp [r2], ?_, fun j y hj => ?_⟩
          · simp only [List.map_cons, List.zipIdx_cons, List.cons.injEq, true_and]
            exact r1
          · simp only [List.map_cons, List.flatMap_cons, RL]
            exact ⟨_, _, rfl, RC.length _ _ hrc, hrc, r3⟩
          · cases j with
            | zero =>
              simp at hj; subst hj
              have := RC.length _ _ hrc
              simp at this
              exact ⟨v, rfl, this⟩
            | succ j => simp at hj; simpa using r4 j y hj
      · cases h
    · cases h

theorem allSk_ok (e : Sk) : ∀ (xs : List T), allSk e xs = true → T.sks xs = List.replicate xs.length e
  | [], _ => rfl
  | x :: xs, h => by
    simp only [allSk, Bool.and_eq_true] at h
    simp [T.sks, Sk.eq_of_beq _ _ h.1, allSk_ok e xs h.2, List.replicate_succ]

theorem asU8s_sk : ∀ (xs : List T) (l : List UInt8), asU8s xs = some l → T.sks xs = List.replicate xs.length .lf
  | [], _, _ => rfl
  | x :: xs, l, h => by
    cases x <;> simp only [asU8s] at h <;> try (cases h; done)
    split at h
    · rename_i l' hl
      simp [T.sks, T.sk, asU8s_sk xs l' hl, List.replicate_succ]
    · cases h

theorem bldS_ok {P : Program} {t : TypeId} {len : Nat} {ps : List (Nat × T)} {c : Cont} (h : bldS P t len ps = some c) {w : World} {N : Nat → Prop} {X : Ext} {vs : List (Nat × Value)} (hm : vs.map (·.1) = ps.map (·.1))
    (hv : ∀ (k : Nat) (p : Nat × T), ps[k]? = some p → ∃ q : Nat × Value, vs[k]? = some q ∧ RT w N X p.2 q.2) :
    ∃ e cs n sz, (Instr.buildSlice t len vs.toArray).run P w = .ok (.slice (some ⟨w.heap.size, 0, none⟩) len len) (w.alloc (.cells cs e)) ∧ c.len [] = some (n, sz) ∧ n = len ∧ c.off [] = 0 ∧ len * sz ≤ cs.size ∧ ∀ X', CC w N X' c cs.toList := by
  unfold bldS at h
  split at h
  · rename_i e ht
    split at h
    · rename_i z cz xs hz hseq
      obtain ⟨ie, zv, z1, z2, z3, z4, z5, z6⟩ := zeroOk_spec hz
      split at h
      · rename_i hc
        simp only [Bool.and_eq_true] at hc
        have hlen := Nat.eq_of_beq_eq_true hc.1.1
        have hpos := Nat.le_of_ble_eq_true hc.1.2
        have hsmall := Nat.le_of_ble_eq_true hc.2
        have hies : ie.size = z.sk.size := by simpa [szT, z1] using z5
        have hzc : zv.cells.size = z.sk.size := by
          have := RC.length _ _ (z6 w N X).cells
          simpa using this
        obtain ⟨g1, g2, g3, g4⟩ := seqFrom_ok 0 ps xs vs hseq hm hv
        have main : T.sks xs = List.replicate xs.length z.sk → ∃ cs : Array Value, (Instr.buildSlice t len vs.toArray).run P w = .ok (.slice (some ⟨w.heap.size, 0, none⟩) len len) (w.alloc (.cells cs e)) ∧ cs.size = len * z.sk.size ∧ RL w N Ext.none xs cs.toList := by
          intro hsk
          by_cases h0 : len = 0
          · subst h0
            have hxs : xs = [] := List.length_eq_zero_iff.1 hlen
            subst hxs
            have hvs : vs = [] := by
              rw [List.length_nil] at g2
              exact List.length_eq_zero_iff.1 g2.symm
            subst hvs
            refine ⟨#[], ?_, by simp, by simp only [RL]⟩
            simp [Instr.buildSlice, run_underlying ht, sizeOf, typeInfo, z1, Instr.fill, newRow]
            congr 2
            apply Array.ext'
            simp
          · have hcell : ∀ v ∈ vs.map (·.2), v.cells.size = z.sk.size := by
              intro v hvm
              obtain ⟨j, hj⟩ := List.mem_iff_getElem?.1 hvm
              have hjl : j < xs.length := by
                have := (List.getElem?_eq_some_iff.1 hj).1
                simp at this; omega
              obtain ⟨v', q1, q2⟩ := g4 j xs[j] (List.getElem?_eq_getElem hjl)
              rw [hj] at q1; simp only [Option.some.injEq] at q1; subst q1
              have := sks_get xs j xs[j] (List.getElem?_eq_getElem hjl)
              rw [hsk, List.getElem?_replicate, if_pos hjl] at this
              simp only [Option.some.injEq] at this
              rw [q2, ← this]
            have hfill := Great.fill_whole (s := z.sk.size) hpos (vs.map (·.2)) ((Array.range (len * ie.size)).map (zv.cells[· % zv.cells.size]!)) hcell (by simp [hies, ← hlen, g2])
            rw [← g1] at hfill
            refine ⟨_, run_buildSlice w t e len vs.toArray _ ie zv ht z1 z2 (by rw [hies]; omega) (by rw [hies]; exact Nat.ne_of_gt (Nat.mul_pos (by omega) hpos)) (by rw [hies] at hfill ⊢; exact hfill), ?_, by simpa using g3⟩
            have := RL.length _ _ g3
            simp only [List.size_toArray]
            rw [this, hsk]
            have hs := sizes_rep z.sk xs.length xs.length (Nat.le_refl _)
            rw [List.take_of_length_le (by simp)] at hs
            rw [hs, hlen]
        split at h
        · rename_i hu
          split at h
          · rename_i l hl
            simp only [Option.some.injEq] at h
            subst h
            have hzlf : z.sk = .lf ∧ z.sk.size = 1 := by
              have : zeroT P e = some (.u8 0) := by simp [zeroT, zeroF, hu]
              unfold zeroOk at hz
              rw [this] at hz
              simp only at hz
              split at hz
              · split at hz
                · split at hz
                  · simp only [Option.some.injEq, Prod.mk.injEq] at hz
                    rw [← hz.1]; exact ⟨rfl, rfl⟩
                  · cases hz
                · cases hz
              · cases hz
            obtain ⟨cs, q1, q2, q3⟩ := main (by rw [hzlf.1]; exact asU8s_sk xs l hl)
            obtain ⟨r1, r2⟩ := asU8s_ok xs l cs.toList hl q3
            refine ⟨e, cs, l.length, 1, q1, rfl, by rw [r2, hlen], rfl, by rw [q2, hzlf.2]; exact Nat.le_refl _, fun X' => ⟨[], by simpa using r1⟩⟩
          · cases h
        · split at h
          · rename_i hall
            simp only [Option.some.injEq] at h
            subst h
            have hsk := allSk_ok _ _ hall
            obtain ⟨cs, q1, q2, q3⟩ := main hsk
            exact ⟨e, cs, xs.length, z.sk.size, q1, rfl, hlen, rfl, by rw [q2]; exact Nat.le_refl _, fun X' => ⟨cs.toList, [], by simp, RL.toRU _ _ hsk q3⟩⟩
          · cases h
      · cases h
    · cases h
  · cases h

end Go.AL
