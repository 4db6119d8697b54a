/-
  Arrays of 18 integers: equality, elements. Steps in a region that draws its order.
-/
import Derived.Test.YticcfbeocepnpaaGreatDoorSizesM
import Derived.Test.YticcfbeocepnpaaGreatDoorKnown
import Derived.Laws.StructEq
import Derived.Deep.RegionLaw
set_option linter.unusedSimpArgs false
set_option maxRecDepth 100000
namespace Go.Proofs.YticcfbeocepnpaaGreatDoor
open Go.RowKit Go.Shelf Pl

theorem mapM_some {α β : Type} (f : α → Option β) (g : α → β) : ∀ (l : List α), (∀ x ∈ l, f x = some (g x)) → l.mapM f = some (l.map g)
  | [], _ => rfl
  | x :: r, h => by
    rw [List.mapM_cons, h x (by simp), mapM_some f g r (fun y hy => h y (by simp [hy]))]
    rfl
theorem flatten_one {α β : Type} (f : α → β) : ∀ l : List α, (l.map fun i => [f i]).flatten = l.map f
  | [] => rfl
  | x :: r => by simp [flatten_one f r]
theorem sizes_cells : Tryz.prog.cellsOf 41 = 18 := by kernel_rfl
theorem sizes_lits (n : Nat) (z : List Int) (hz : z.length = 18) (hr : ∀ x ∈ z, -9223372036854775808 ≤ x ∧ x ≤ 9223372036854775807) :
    Tryz.prog.keyLits (n + 1 + 1) 41 (z.map (Value.int .i64)) = some (z.map (Lit.int .i64)) := by
  unfold Program.keyLits
  rw [Tryz.underlying41]
  simp only [sizes_cells, List.length_map, hz, if_true, int_cells]
  rw [mapM_some _ (fun i => [Lit.int .i64 (z.getD i 0)]) _ (by
    intro i hi
    have hi' : i < z.length := by rw [hz]; exact List.mem_range.1 hi
    have : ((z.map (Value.int .i64)).drop (i * 1)).take 1 = [Value.int .i64 (z.getD i 0)] := by
      rw [Nat.mul_one, List.drop_eq_getElem_cons (by simpa using hi')]
      simp [hi']
    rw [this]
    have hx := hr (z.getD i 0) (by rw [List.getD_eq_getElem?_getD, List.getElem?_eq_getElem hi']; exact List.getElem_mem _)
    exact lits_int n _ (i64_wf _ hx.1 hx.2))]
  simp only [Option.map_some, Option.some.injEq]
  apply List.ext_getElem?
  intro j
  have e1 := flatten_one (fun i => Lit.int .i64 (z.getD i 0)) (List.range 18)
  rw [e1, List.getElem?_map, List.getElem?_map]
  by_cases hj : j < 18
  · rw [List.getElem?_range hj, List.getElem?_eq_getElem (by omega)]
    simp [hz, hj]
  · rw [List.getElem?_eq_none (by simpa using hj), List.getElem?_eq_none (by omega)]; rfl
theorem sizes_formed (z : List Int) (hz : z.length = 18) : (Value.agg (intsV z)).formed Tryz.prog 41 = true := by
  unfold Value.formed
  rw [Tryz.underlying41]
  simp [intsV_size, hz, sizes_cells]
theorem sizes_equal (z y : List Int) (hz : z.length = 18) (hy : y.length = 18) (rz : ∀ x ∈ z, -9223372036854775808 ≤ x ∧ x ≤ 9223372036854775807) (ry : ∀ x ∈ y, -9223372036854775808 ≤ x ∧ x ≤ 9223372036854775807) (w : World) :
    (Op.equalIn 10000 41 (.agg (intsV z)) (.agg (intsV y))).run Tryz.prog w = .ok (decide (z = y)) w := by
  have hk : Tryz.prog.keyTypeAt 2 41 = true := by kernel_rfl
  obtain ⟨r, h1, h2⟩ := run_equalIn_deep 9998 2 41 hk w 2 2 (.agg (intsV z)) (.agg (intsV y)) _ _ (sizes_formed z hz) (sizes_formed y hy)
    (by simpa [Value.cells, intsV] using sizes_lits 0 z hz rz) (by simpa [Value.cells, intsV] using sizes_lits 0 y hy ry)
  rw [h1]
  congr 1
  have hinj : (z.map (Lit.int .i64) = y.map (Lit.int .i64)) ↔ z = y := by
    constructor
    · intro h
      have := congrArg (List.map fun l : Lit => match l with | .int _ n => n | _ => 0) h
      simpa [List.map_map, Function.comp_def] using this
    · rintro rfl; rfl
  rw [hinj] at h2
  cases r
  · simp at h2; simp [h2]
  · simp at h2; simp [h2]

/-- An element of an array of integers. -/
theorem run_index_i64 (w : World) (z : List Int) (k : Nat) (hk : k < 18) (hz : z.length = 18) : (Instr.index 41 (.agg (intsV z)) (.int .i64 (k : Int))).run Tryz.prog w = .ok (.int .i64 (z.getD k 0)) w := by
  have hs0 : (Tryz.prog.info? 3).map (·.size) = some 1 := by kernel_rfl
  have hv := intsV_get z k (by omega)
  cases hq : Tryz.prog.info? 3 with
  | none => simp [hq] at hs0
  | some i =>
    have hs : i.size = 1 := by simpa [hq] using hs0
    have h2 : (0 : Int) ≤ (k : Int) ∧ (k : Int) < 18 := by omega
    have hagg : (isAgg 3).run Tryz.prog w = .ok false w := by
      unfold isAgg
      rw [Sem.run_bind, run_underlying Tryz.underlying3 w]
      simp
    simp [Instr.index, asIntOf, run_underlying Tryz.underlying41, sizeOf, typeInfo, hq, hs, part, hagg, hv, h2, hk]

section
variable {P : Program} {ops : Array Oper} {o : Oper} {a : Act} {w : World} {K : Act → World → Prop} {Q : Exit → Act → World → Prop} {E : Prop}
theorem step_load_cells (hgd : o.guard = none) (ty : TypeId) (x : Operand) (ho : o.op = .load ty x)
    (g off : Nat) (hx : a.eval x = .pointer (some ⟨g, off, none⟩)) (d : TypeDesc) (xs : Array Value)
    (hxs : ∀ (j : Nat) v, xs[j]? = some v → w.cell? ⟨g, off + j, none⟩ = some v)
    (hu : P.underlying ty = some d) (hd : (match d with | .struct _ | .array _ _ => true | _ => false) = true) (hi : (P.info? ty).map (·.size) = some xs.size)
    (h : K (a.put o.dst (.agg xs)) w) : if Region.wanted o (yielded ops a.tmps) = true then Oper.wp P o a w K Q else E := by
  have hw : Region.wanted o (yielded ops a.tmps) = true := by simp [Region.wanted, hgd]
  rw [if_pos hw]
  exact wp_load_cells ty x ho g off hx d xs hxs hu hd hi h
theorem step_buildSlice (hgd : o.guard = none) (t e : TypeId) (len : Nat) (parts : Array (Nat × Operand)) (ho : o.op = .buildSlice t len parts)
    (cells : Array Value) (ie : TypeInfo) (z : Value)
    (hu : P.underlying t = some (.slice e)) (hie : P.info? e = some ie) (hz : ie.zero = some z) (hsmall : ¬ len * ie.size > 2 ^ 24) (hpos : ¬ len * ie.size = 0)
    (hf : Instr.fill (fun i => some (i * ie.size, ie.size)) ((Array.range (len * ie.size)).map (z.cells[· % z.cells.size]!)) (parts.map fun (i, x) => (i, a.eval x)).toList = some cells)
    (h : K (a.put o.dst (.slice (some ⟨w.heap.size, 0, none⟩) len len)) (w.alloc (.cells cells e))) : if Region.wanted o (yielded ops a.tmps) = true then Oper.wp P o a w K Q else E := by
  have hw : Region.wanted o (yielded ops a.tmps) = true := by simp [Region.wanted, hgd]
  rw [if_pos hw]
  exact wp_buildSlice t e len parts ho cells ie z hu hie hz hsmall hpos hf h
end
end Go.Proofs.YticcfbeocepnpaaGreatDoor
