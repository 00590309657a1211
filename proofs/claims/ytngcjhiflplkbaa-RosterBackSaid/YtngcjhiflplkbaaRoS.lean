/- A part of the proof of a law about rosters over an abstract machine. No condition. -/
import Derived.Test.YtngcjhiflplkbaaRoP2
import Derived.Shelf.Sort.Plain
import Derived.Shelf.Lay
import Derived.Sort.OwnSortedInts
namespace Go.Proofs
open Go Go.Shelf
shelf_lay Lays.n189 Nm 189 at Try as Try.lays189
end Go.Proofs
namespace Ro
open Go Go.AL Go.Proofs

def sortI (ms : List Int) : List Int := ms.mergeSort fun x y => decide (x ≤ y)

def s114 (args : List T) (ins : List Cont) : Option (Prop × T × List Cont) := match args, ins with
  | [.row 0 [] 0 none], [.rs .lf xs] => some (xs = li (unli xs) ∧ 0 < xs.length ∧ xs.length < 4611686018427387904, .tup [], [.rs .lf (li (sortI (unli xs)))])
  | _, _ => none
def e114 : Ent := ⟨114, true, s114⟩

theorem RU_li {w : World} {N : Nat → Prop} : ∀ (ms : List Int) (ds : List Value), RU w N .lf (li ms) ds ↔ ds = ms.map (Value.int .i64)
  | [], ds => by simp [li, RU]
  | m :: ms, ds => by
    have ih := RU_li (w := w) (N := N) ms
    simp only [li, List.map_cons, RU]
    constructor
    · rintro ⟨c1, c2, rfl, h1, h2, h3, h4⟩
      simp only [RC] at h3
      rw [h3, (ih c2).1 h4]; rfl
    · rintro rfl
      exact ⟨[.int .i64 m], _, rfl, rfl, rfl, by simp only [RC], (ih _).2 rfl⟩

theorem ok114 : EntOk Try.prog e114 := by
  intro args ins pre res outs h hp
  simp only [e114] at h ⊢
  unfold s114 at h
  split at h
  · rename_i xs
    simp only [Option.some.injEq, Prod.mk.injEq] at h
    obtain ⟨rfl, rfl, rfl⟩ := h
    obtain ⟨hx, h0, hl⟩ := hp
    generalize hms : unli xs = ms at hx
    subst hx
    intro w N bs vs hb1 hb2 hb3 hb4 hb5 hb6 hb7
    obtain ⟨b, cs, e, q1, q2, ds, r, q3, q4⟩ := hb5 0 _ rfl
    have q4 := (RU_li ms ds).1 q4
    obtain ⟨v, r1, r2⟩ := hb7 0 _ rfl
    have hbs : bs = [b] := by
      match bs, hb1, q1 with
      | [b'], _, q1 => simp at q1; rw [q1]
    subst hbs
    have hvs : vs = [v] := by
      match vs, hb6, r1 with
      | [v'], _, r1 => simp at r1; rw [r1]
    subst hvs
    rcases r2 with ⟨hc, _⟩ | ⟨_, r2⟩
    · cases hc
    simp only [RC] at r2
    obtain ⟨_, hv, hone, b', c', xs', e', g1, g2, g3, g4⟩ := r2
    simp only [List.cons.injEq, and_true] at hv
    subst hv
    simp at g1 g2
    subst g1; subst g2
    rw [q2] at g3
    simp only [Option.some.injEq, Obj.cells.injEq] at g3
    obtain ⟨rfl, rfl, _⟩ := g3
    obtain ⟨n, sz, k1, k2, A, cap, rfl, k3, k4, k5⟩ := g4
    simp only [Cont.len, Option.some.injEq, Prod.mk.injEq, li_len, Sk.size] at k1
    obtain ⟨rfl, rfl⟩ := k1
    simp only [Option.getD_none, Nat.sub_zero, Nat.zero_add, Cont.off, Nat.mul_one, Nat.add_zero] at k2 k3 k4 k5
    have hml : 0 < ms.length := by simpa [li_len] using h0
    have hA := k5 (by omega)
    subst hA
    have hblt : b < w.heap.size := hb4 b (hb3 b (by simp))
    have hcell : ∀ j, j < ms.length → cs[j]? = some (.int .i64 (ms.getD j 0)) := by
      intro j hj
      have : cs.toList[j]? = some (.int .i64 (ms.getD j 0)) := by
        rw [q3, q4, List.getElem?_append_left (by simpa using hj)]
        simp [hj]
      simpa using this
    have hH : Sort.Holds (Value.int .i64) w b 0 ms.toArray := by
      intro j hj
      have hj : j < ms.length := by simpa using hj
      have := hcell j hj
      constructor
      · simp only [World.cell?, q2, Nat.zero_add]
        simp [this, hj]
      · simp [World.frozen?, q2]
    refine (Any.slices_Sort_int Try.lays189 b 0 cap ms w hH hblt (by simpa [li_len] using hl)).mono ?_
    rintro e2 w' ⟨rfl, nn, os, rfl⟩
    have hsl : (ms.mergeSort fun x y => decide (x ≤ y)).length = ms.length := List.length_mergeSort _
    generalize hso : (ms.mergeSort fun x y => decide (x ≤ y)) = so at hsl
    have hgr := grownBy_sortedI (w := w) (g := b) (n := nn) (os := os) so.toArray
    have hhp := heap_sortedI (w := w) (g := b) (n := nn) (os := os) so.toArray q2
    have hmc : ms.length ≤ cs.size := by omega
    refine ⟨.tuple #[], rfl, ⟨hgr.os, hgr.tape, hgr.output, hgr.size, fun k hk hne => hgr.block k hk (fun e => by simp at e; exact hne (by simp [e]))⟩, ⟨[], rfl, rfl, fun k x hx => by simp at hx⟩, rfl, fun k y hy => ?_⟩
    cases k with
    | succ k => simp at hy
    | zero =>
      simp at hy
      subst hy
      refine ⟨b, cs, _, e, e, rfl, q2, hhp, by simp [Sort.putCells], ?_⟩
      have htk := take_putCellsI cs so (by rw [hsl]; exact hmc)
      refine ⟨so.map (Value.int .i64), (Sort.putCells (Value.int .i64) 0 so.toArray cs).toList.drop so.length, ?_, (RU_li _ _).2 (by rw [sortI, hso])⟩
      rw [← htk, List.take_append_drop]
  · cases h
end Ro
