/-
  The row of StatsOf.
-/
import Derived.Test.YticcfbeocepnpaaDoorRows
import Derived.Test.YticcfbeocepnpaaDoorOpen
import Derived.Test.YticcfbeocepnpaaDoorFrame
set_option maxRecDepth 100000
namespace Go.Proofs.YticcfbeocepnpaaDoor
open Go.ChangeShapes Go.WideShapes Go.ChangeAt Go.RowKit

theorem row_own : ownKnob Tryd.prog.godebug = none := by kernel_rfl
theorem mlen_of_shape {w : World} (h : w.ShapedOpen Tryd.prog) : MLen w :=
  Go.Proofs.cell_of_shapedOpen_int (zero := #[.int .i64 0]) (t := 3) h (of_decide_eq_true (by kernel_rfl)) (by kernel_rfl) rfl (by kernel_rfl) (by kernel_rfl) Tryd.underlying3
/-- A world that meets the condition: the door's own, Go's table laid. -/
noncomputable def laidWorld (os : Os) : World :=
  let w0 := World.doorLaid Tryd.prog 400 os
  { w0 with heap := w0.heap.modify 1 fun
      | .cells _ t frozen => .cells (Go.Pinned.utf8FirstZ.map fun (n : Nat) => Value.int .u8 (n : Int)).toArray t frozen
      | o => o }
theorem world_met (os : Os) (args : Array Value) : laidMetH Tryd.prog Rows.statsOfRow.laid ((laidWorld os).forCall (fun _ _ => 0) ⟨#[], args, []⟩).memory :=
  laidMetH_of_parts3 (fuel := 8) (laidMet_of_run' 8 (by kernel_rfl) (by kernel_rfl)) (by kernel_rfl) (by kernel_rfl)
theorem world_shaped (os : Os) (args : Array Value) : ((laidWorld os).forCall (fun _ _ => 0) ⟨#[], args, []⟩).Shaped Tryd.prog := World.shaped_of_RefB (by kernel_rfl) (by kernel_rfl)

theorem row_laidOut : laidOutB Tryd.prog = true := by kernel_rfl
theorem rows_ok : Tryd.prog.readableRec 22 = true := by kernel_rfl
set_option maxHeartbeats 400000 in
theorem statsOf_contract {H : Type} {enc : TypeId × Value → H} (W : World) (base : Nat) (args : Array Value) (ds gs : List (DataW H)) (before : List MemPlace)
    (hval : ∀ (j : Nat) t v, Tryd.f3.params[j]? = some t → args[j]? = some v → Value.okWide Tryd.prog W .any base t v)
    (hW : DataW.Whole enc Tryd.prog Tryd.f3.params.toList Rows.statsOfSpec.vars false W args.toList ds gs before) (hsh : W.ShapedOpen Tryd.prog) :
    Calls Tryd.prog 3 args W fun e W' => ∃ v, e = .returned v ∧ Rows.statsOfSpec.post enc Tryd.prog Tryd.f3 false true false false W args v W' := by
  have hW' := hW
  obtain ⟨p, q, hA, hV, rfl, hfz, hnd⟩ := hW
  rw [show Tryd.f3.params.toList = [22, 3, 9, 3, 3] from rfl] at hA
  rw [show Tryd.f3.params = #[22, 3, 9, 3, 3] from rfl] at hval
  obtain ⟨v0, r0, d0, e0, p0, q0, hargs, rfl, rfl, h0, hA1⟩ := trodAll_cons hA
  obtain ⟨v1, r1, d1, e1, p1, q1, rfl, rfl, rfl, h1, hA2⟩ := trodAll_cons hA1
  obtain ⟨v2, r2, d2, e2, p2, q2, rfl, rfl, rfl, h2, hA3⟩ := trodAll_cons hA2
  obtain ⟨v3, r3, d3, e3, p3, q3, rfl, rfl, rfl, h3, hA4⟩ := trodAll_cons hA3
  obtain ⟨v4, r4, d4, e4, p4, q4, rfl, rfl, rfl, h4, hA5⟩ := trodAll_cons hA4
  obtain ⟨rfl, rfl, rfl⟩ := trodAll_nil hA5
  obtain rfl : args = #[v0, v1, v2, v3, v4] := by cases args; simp_all
  obtain ⟨kind, rfl, _, _, w1⟩ := open_int Tryd.underlying3 (hval 1 _ _ rfl rfl) h1
  obtain ⟨name, rfl, _, _, w2⟩ := Go.ChangeMaps.open_string Tryd.underlying9 (hval 2 _ _ rfl rfl) h2
  obtain ⟨fro, rfl, _, _, w3⟩ := open_int Tryd.underlying3 (hval 3 _ _ rfl rfl) h3
  obtain ⟨til, rfl, _, _, w4⟩ := open_int Tryd.underlying3 (hval 4 _ _ rfl rfl) h4
  obtain ⟨xa, xn, xc, rfl⟩ := okWide_slice Tryd.underlying22 (hval 0 _ _ rfl rfl)
  obtain ⟨fuel, hf⟩ := h0
  obtain ⟨sa, sn, sc, l, hv, hevs⟩ := evs_open (show DataW.trod enc Tryd.prog W 0 (fun _ => true) true fuel 22 [.slice xa xn xc] = _ from hf)
  obtain ⟨rfl, rfl, rfl⟩ : xa = sa ∧ xn = sn ∧ xc = sc := by cases hv; exact ⟨rfl, rfl, rfl⟩
  exact (statsOf_any xa xn xc l kind fro til name W hevs (mlen_of_shape hsh)).mono fun e W' ⟨he, hb⟩ =>
    ⟨_, he, post_true row_laidOut (by kernel_rfl) rfl hW' hb rfl Tryd.underlying4 rfl⟩

set_option maxHeartbeats 400000 in
theorem statsOf_lifted (os : Os) (started : os.Started) (H : Type) (enc : TypeId × Value → H) :
    ReturnsInHanded {} Tryd.checked os 3 .any (fun w args => (Rows.statsOfSpec.pre enc Tryd.prog Tryd.f3 [] false w args ∧ laidMetH Tryd.prog Rows.statsOfRow.laid w) ∧ sizedMet enc Tryd.prog Tryd.f3 (OpenSpec.ofChange Rows.statsOfSpec) false w args)
      (Rows.statsOfSpec.post enc Tryd.prog Tryd.f3 false true false false) :=
  returns_and_shaped (C := Tryd.checked) (X := fun w _ => laidMetH Tryd.prog Rows.statsOfRow.laid w) row_own started (by kernel_rfl) Tryd.func3
    (ChangeSpec.witness_shaped (enc := enc) (C := Tryd.checked) (os := os) (X := fun w _ => laidMetH Tryd.prog Rows.statsOfRow.laid w) false (laidWorld os) #[.slice none 0 0, .int .i64 0, .string ⟨#[]⟩, .int .i64 0, .int .i64 0] 8 rfl (world_shaped os _) (by kernel_rfl) (by kernel_rfl) (by kernel_rfl) (world_met os _))
    fun W base args ds gs before hval hW _ hsh => statsOf_contract W base args ds gs before hval hW hsh

theorem statsOf_holds : Rows.StatsOfSaid :=
  OpenClaim.holds_of_wide 3 Tryd.f3 rfl rfl rfl rfl rfl rfl rfl ⟨rfl, rfl, rfl, rfl, rfl⟩ rfl rfl rfl rfl rfl (by kernel_rfl) Tryd.func3 (by kernel_rfl)
    (of_decide_eq_true (by kernel_rfl)) (by unfold Func.isWrapper; first | (rw [if_pos (by decide +kernel)]; kernel_rfl) | (rw [if_neg (by decide +kernel)]; exact ⟨rfl, rfl⟩))
    (fun os started H enc _ => statsOf_lifted os started H enc)
end Go.Proofs.YticcfbeocepnpaaDoor
