/- A part of the proof of a law about rosters over an abstract machine. No condition. -/
import Derived.Test.YtngcjhiflplkbaaRoP2
import Derived.Shelf.Sort.Plain
import Derived.Sort.OwnSortedInts
namespace Go.Proofs
open Go.Shelf
def Try.lays189_ren : Go.Shelf.Ren := ⟨fun | 189 => 114 | 125 => 166 | 257 => 165 | 128 => 211 | 129 => 212 | 294 => 202 | 295 => 203 | 296 => 204 | 297 => 205 | 298 => 206 | 299 => 207 | 216 => 208 | 300 => 209 | 301 => 210 | 328 => 221 | 329 => 222 | 330 => 223 | 331 => 224 | 332 => 225 | 215 => 226 | 343 => 228 | n => n, fun | 28 => 77 | 3 => 3 | 46 => 104 | 0 => 0 | 51 => 225 | 53 => 24 | 4 => 4 | 183 => 251 | 182 => 250 | 131 => 116 | 5 => 5 | 9 => 9 | 218 => 263 | 222 => 266 | 228 => 269 | 229 => 201 | n => n, fun | n => n⟩
theorem Try.lays189 : Go.Proofs.Lays.n189 Try.prog Try.lays189_ren := {
  mixed := by kernel_rfl
  f125 := Try.func166.trans (congrArg some (by kernel_rfl))
  f128 := Try.func211.trans (congrArg some (by kernel_rfl))
  f129 := Try.func212.trans (congrArg some (by kernel_rfl))
  f189 := Try.func114.trans (congrArg some (by kernel_rfl))
  f215 := Try.func226.trans (congrArg some (by kernel_rfl))
  f216 := Try.func208.trans (congrArg some (by kernel_rfl))
  f257 := Try.func165.trans (congrArg some (by kernel_rfl))
  f294 := Try.func202.trans (congrArg some (by kernel_rfl))
  f295 := Try.func203.trans (congrArg some (by kernel_rfl))
  f296 := Try.func204.trans (congrArg some (by kernel_rfl))
  f297 := Try.func205.trans (congrArg some (by kernel_rfl))
  f298 := Try.func206.trans (congrArg some (by kernel_rfl))
  f299 := Try.func207.trans (congrArg some (by kernel_rfl))
  f300 := Try.func209.trans (congrArg some (by kernel_rfl))
  f301 := Try.func210.trans (congrArg some (by kernel_rfl))
  f328 := Try.func221.trans (congrArg some (by kernel_rfl))
  f329 := Try.func222.trans (congrArg some (by kernel_rfl))
  f330 := Try.func223.trans (congrArg some (by kernel_rfl))
  f331 := Try.func224.trans (congrArg some (by kernel_rfl))
  f332 := Try.func225.trans (congrArg some (by kernel_rfl))
  f343 := Try.func228.trans (congrArg some (by kernel_rfl))
  t0 := Try.underlying0
  a0 := Try.isAgg0
  z0 := Try.sizeOf0
  v0 := Try.zeroValue0
  t3 := Try.underlying3
  a3 := Try.isAgg3
  z3 := Try.sizeOf3
  v3 := Try.zeroValue3
  t4 := Try.underlying4
  a4 := Try.isAgg4
  z4 := Try.sizeOf4
  v4 := Try.zeroValue4
  t5 := Try.underlying5
  a5 := Try.isAgg5
  z5 := Try.sizeOf5
  v5 := Try.zeroValue5
  t9 := Try.underlying9
  a9 := Try.isAgg9
  z9 := Try.sizeOf9
  v9 := Try.zeroValue9
  t28 := Try.underlying77
  a28 := Try.isAgg77
  z28 := Try.sizeOf77
  v28 := Try.zeroValue77
  t46 := Try.underlying104
  a46 := Try.isAgg104
  z46 := Try.sizeOf104
  v46 := Try.zeroValue104
  t51 := Try.underlying225
  a51 := Try.isAgg225
  z51 := Try.sizeOf225
  v51 := Try.zeroValue225
  t53 := Try.underlying24
  a53 := Try.isAgg24
  z53 := Try.sizeOf24
  v53 := Try.zeroValue24
  t131 := Try.underlying116
  a131 := Try.isAgg116
  z131 := Try.sizeOf116
  v131 := Try.zeroValue116
  t182 := Try.underlying250
  a182 := Try.isAgg250
  z182 := Try.sizeOf250
  v182 := Try.zeroValue250
  t183 := Try.underlying251
  a183 := Try.isAgg251
  z183 := Try.sizeOf251
  v183 := Try.zeroValue251
  t218 := Try.underlying263
  a218 := Try.isAgg263
  z218 := Try.sizeOf263
  v218 := Try.zeroValue263
  t222 := Try.underlying266
  a222 := Try.isAgg266
  z222 := Try.sizeOf266
  v222 := Try.zeroValue266
  t228 := Try.underlying269
  a228 := Try.isAgg269
  z228 := Try.sizeOf269
  v228 := Try.zeroValue269
  t229 := Try.underlying201
  a229 := Try.isAgg201
  z229 := Try.sizeOf201
  v229 := Try.zeroValue201 }
end Go.Proofs
namespace Ro
open Go Go.AL Go.Proofs

def sortI (ms : List Int) : List Int := ms.mergeSort fun x y => decide (x ≤ y)

def s114 (args : List T) (ins : List Cont) : Option (Prop × T × List Cont) := match args, ins with
  | [.row 0 [] 0 none], [.rs .lf xs] => some (xs = li (unli xs) ∧ 0 < xs.length ∧ xs.length < 4611686018427387904, .tup [], [.rs .lf (li (sortI (unli xs)))])
  | _, _ => none
def e114 : Ent := ⟨114, true, s114⟩

theorem RU_li {w : World} {N : Nat → Prop} : ∀ (ms : List Int) (ds : List Value), RU w N .lf (li ms) ds ↔ ds = ms.map (Value.int .i64)
  | [], ds => by simp [li, RU]
  | m :: ms, ds => by
    have ih := RU_li (w := w) (N := N) ms
    simp only [li, List.map_cons, RU]
    constructor
    · rintro ⟨c1, c2, rfl, h1, h2, h3, h4⟩
      simp only [RC] at h3
      rw [h3, (ih c2).1 h4]; rfl
    · rintro rfl
      exact ⟨[.int .i64 m], _, rfl, rfl, rfl, by simp only [RC], (ih _).2 rfl⟩

theorem ok114 : EntOk Try.prog e114 := by
  intro args ins pre res outs h hp
  simp only [e114] at h ⊢
  unfold s114 at h
  split at h
  · rename_i xs
    simp only [Option.some.injEq, Prod.mk.injEq] at h
    obtain ⟨rfl, rfl, rfl⟩ := h
    obtain ⟨hx, h0, hl⟩ := hp
    generalize hms : unli xs = ms at hx
    subst hx
    intro w N bs vs hb1 hb2 hb3 hb4 hb5 hb6 hb7
    obtain ⟨b, cs, e, q1, q2, ds, r, q3, q4⟩ := hb5 0 _ rfl
    have q4 := (RU_li ms ds).1 q4
    obtain ⟨v, r1, r2⟩ := hb7 0 _ rfl
    have hbs : bs = [b] := by
      match bs, hb1, q1 with
      | [b'], _, q1 => simp at q1; rw [q1]
    subst hbs
    have hvs : vs = [v] := by
      match vs, hb6, r1 with
      | [v'], _, r1 => simp at r1; rw [r1]
    subst hvs
    rcases r2 with ⟨hc, _⟩ | ⟨_, r2⟩
    · cases hc
    simp only [RC] at r2
    obtain ⟨_, hv, hone, b', c', xs', e', g1, g2, g3, g4⟩ := r2
    simp only [List.cons.injEq, and_true] at hv
    subst hv
    simp at g1 g2
    subst g1; subst g2
    rw [q2] at g3
    simp only [Option.some.injEq, Obj.cells.injEq] at g3
    obtain ⟨rfl, rfl, _⟩ := g3
    obtain ⟨n, sz, k1, k2, A, cap, rfl, k3, k4, k5⟩ := g4
    simp only [Cont.len, Option.some.injEq, Prod.mk.injEq, li_len, Sk.size] at k1
    obtain ⟨rfl, rfl⟩ := k1
    simp only [Option.getD_none, Nat.sub_zero, Nat.zero_add, Cont.off, Nat.mul_one, Nat.add_zero] at k2 k3 k4 k5
    have hml : 0 < ms.length := by simpa [li_len] using h0
    have hA := k5 (by omega)
    subst hA
    have hblt : b < w.heap.size := hb4 b (hb3 b (by simp))
    have hcell : ∀ j, j < ms.length → cs[j]? = some (.int .i64 (ms.getD j 0)) := by
      intro j hj
      have : cs.toList[j]? = some (.int .i64 (ms.getD j 0)) := by
        rw [q3, q4, List.getElem?_append_left (by simpa using hj)]
        simp [hj]
      simpa using this
    have hH : Sort.Holds (Value.int .i64) w b 0 ms.toArray := by
      intro j hj
      have hj : j < ms.length := by simpa using hj
      have := hcell j hj
      constructor
      · simp only [World.cell?, q2, Nat.zero_add]
        simp [this, hj]
      · simp [World.frozen?, q2]
    refine (Any.slices_Sort_int Try.lays189 b 0 cap ms w hH hblt (by simpa [li_len] using hl)).mono ?_
    rintro e2 w' ⟨rfl, nn, os, rfl⟩
    have hsl : (ms.mergeSort fun x y => decide (x ≤ y)).length = ms.length := List.length_mergeSort _
    generalize hso : (ms.mergeSort fun x y => decide (x ≤ y)) = so at hsl
    have hgr := grownBy_sortedI (w := w) (g := b) (n := nn) (os := os) so.toArray
    have hhp := heap_sortedI (w := w) (g := b) (n := nn) (os := os) so.toArray q2
    have hmc : ms.length ≤ cs.size := by omega
    refine ⟨.tuple #[], rfl, ⟨hgr.os, hgr.tape, hgr.output, hgr.size, fun k hk hne => hgr.block k hk (fun e => by simp at e; exact hne (by simp [e]))⟩, ⟨[], rfl, rfl, fun k x hx => by simp at hx⟩, rfl, fun k y hy => ?_⟩
    cases k with
    | succ k => simp at hy
    | zero =>
      simp at hy
      subst hy
      refine ⟨b, cs, _, e, e, rfl, q2, hhp, by simp [Sort.putCells], ?_⟩
      have htk := take_putCellsI cs so (by rw [hsl]; exact hmc)
      refine ⟨so.map (Value.int .i64), (Sort.putCells (Value.int .i64) 0 so.toArray cs).toList.drop so.length, ?_, (RU_li _ _).2 (by rw [sortI, hso])⟩
      rw [← htk, List.take_append_drop]
  · cases h
end Ro
