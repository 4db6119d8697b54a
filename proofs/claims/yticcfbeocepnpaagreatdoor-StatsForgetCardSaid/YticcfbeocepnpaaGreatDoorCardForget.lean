/-
  For every list of events and every day, bulletinlaw52.StatsForget returns true and leaves its arguments as they were; the listed tables of math/bits, internal/strconv and unicode/utf8 are tied to the program's text by the given tie.
-/
import Derived.Test.YticcfbeocepnpaaGreatDoorRowC
import Derived.Test.YticcfbeocepnpaaGreatDoorStatsForget
import Derived.Test.YticcfbeocepnpaaGreatDoorTie
import Derived.Test.YticcfbeocepnpaaGreatDoorCards
import Derived.SevenTiedAt
set_option maxRecDepth 100000
namespace Go.Proofs.YticcfbeocepnpaaGreatDoor
open Go.ChangeShapes Go.WideShapes Go.ChangeAt Go.RowKit

set_option maxHeartbeats 400000 in
theorem statsForget_contract {H : Type} {enc : TypeId × Value → H} (W : World) (base : Nat) (args : Array Value) (ds gs : List (DataW H)) (before : List MemPlace)
    (hval : ∀ (j : Nat) t v, Tryz.f4.params[j]? = some t → args[j]? = some v → Value.okWide Tryz.prog W .any base t v)
    (hW : DataW.Whole enc Tryz.prog Tryz.f4.params.toList Rows.statsForgetSpec.vars false W args.toList ds gs before) (hx : laidMetH Tryz.prog Rows.statsForgetRow.laid W.memory) (hsh : W.ShapedOpen Tryz.prog) :
    Calls Tryz.prog 4 args W fun e W' => ∃ v, e = .returned v ∧ Rows.statsForgetSpec.post enc Tryz.prog Tryz.f4 false true false false W args v W' := by
  have hW' := hW
  obtain ⟨p, q, hA, hV, rfl, hfz, hnd⟩ := hW
  rw [show Tryz.f4.params.toList = [22, 3] from rfl] at hA
  rw [show Tryz.f4.params = #[22, 3] from rfl] at hval
  obtain ⟨v0, r0, d0, e0, p0, q0, hargs, rfl, rfl, h0, hA1⟩ := trodAll_cons hA
  obtain ⟨v1, r1, d1, e1, p1, q1, rfl, rfl, rfl, h1, hA2⟩ := trodAll_cons hA1
  obtain ⟨rfl, rfl, rfl⟩ := trodAll_nil hA2
  obtain rfl : args = #[v0, v1] := by cases args; simp_all
  obtain ⟨xa, xn, xc, rfl⟩ := okWide_slice Tryz.underlying22 (hval 0 _ _ rfl rfl)
  obtain ⟨before0, rfl⟩ := okWide_int Tryz.underlying3 (hval 1 _ _ rfl rfl)
  obtain ⟨fuel, hf⟩ := h0
  obtain ⟨fuel1, hf1⟩ := h1
  obtain ⟨sa, sn, sc, l, hv, hevs⟩ := evs_open (show DataW.trod enc Tryz.prog W 0 (fun _ => true) true fuel 22 [.slice xa xn xc] = _ from hf)
  obtain ⟨rfl, rfl, rfl⟩ : xa = sa ∧ xn = sn ∧ xc = sc := by cases hv; exact ⟨rfl, rfl, rfl⟩
  exact (statsForget_any xa xn xc l before0 W hevs (mlen_of_shape hsh) (tab_of_laid hx)).mono fun e W' ⟨he, hb⟩ =>
    ⟨_, he, post_true row_laidOut (by kernel_rfl) rfl hW' hb rfl Tryz.underlying4 rfl⟩

set_option maxHeartbeats 400000 in
theorem statsForget_lifted (os : Os) (started : os.Started) (H : Type) (enc : TypeId × Value → H) :
    ReturnsInHanded {} Tryz.checked os 4 .any (fun w args => (Rows.statsForgetSpec.pre enc Tryz.prog Tryz.f4 [] false w args ∧ laidMetH Tryz.prog Rows.statsForgetRow.laid w) ∧ sizedMet enc Tryz.prog Tryz.f4 (OpenSpec.ofChange Rows.statsForgetSpec) false w args)
      (Rows.statsForgetSpec.post enc Tryz.prog Tryz.f4 false true false false) :=
  returns_and_shaped2 (C := Tryz.checked) (X := fun w => laidMetH Tryz.prog Rows.statsForgetRow.laid w) row_own started (by kernel_rfl) Tryz.func4
    (ChangeSpec.witness_shaped (enc := enc) (C := Tryz.checked) (os := os) (X := fun w _ => laidMetH Tryz.prog Rows.statsForgetRow.laid w) false (laidWorld os) #[.slice none 0 0, .int .i64 0] 8 rfl (world_shaped os _) (by kernel_rfl) (by kernel_rfl) (by kernel_rfl) (world_met os _))
    fun W base args ds gs before hval hW hx hsh => statsForget_contract W base args ds gs before hval hW hx hsh

theorem statsForget_holds : Rows.StatsForgetSaid :=
  OpenClaim.holds_of_wide 4 Tryz.f4 rfl rfl rfl rfl rfl rfl rfl ⟨rfl, rfl, rfl, rfl, rfl⟩ rfl rfl rfl rfl rfl (by kernel_rfl) Tryz.func4 (by kernel_rfl)
    (of_decide_eq_true (by kernel_rfl)) (by unfold Func.isWrapper; first | (rw [if_pos (by decide +kernel)]; kernel_rfl) | (rw [if_neg (by decide +kernel)]; exact ⟨rfl, rfl⟩))
    (fun os started H enc _ => statsForget_lifted os started H enc)
end Go.Proofs.YticcfbeocepnpaaGreatDoor
set_option maxRecDepth 100000
namespace Go.Proofs.YticcfbeocepnpaaGreatDoor
open Go

theorem statsForget_card : Rows.StatsForgetCardSaid :=
  Claim7.holds_tied_plain_at .later [] [.data, .data, .data, .data, .pinned] true (true, "2b61511dbc1443444d27901aed96fe35361df261b0181c07380dd05f3a061435") true
    statsForget_holds (fun _ h => by cases h) (by kernel_rfl) (fun _ h => by cases h) statsForget_row_tie rfl ⟨rfl, rfl⟩ (by kernel_rfl) rfl
    (fun f fn hf hfn => by
      obtain rfl : f = 4 := Option.some.inj ((show Tryz.prog.funcNamed Rows.statsForgetRow.func = some 4 by kernel_rfl).symm.trans hf) |>.symm
      obtain rfl : fn = Tryz.f4 := (Option.some.inj (Tryz.func4.symm.trans hfn)).symm
      exact ⟨by kernel_rfl, fun j t ht => by
        have hm : t ∈ Tryz.f4.params := Array.mem_of_getElem? ht
        have hall : (Tryz.f4.params.all fun u => !Tryz.prog.wantsStandIn u) = true := by kernel_rfl
        have := (Array.all_eq_true_iff_forall_mem.1 hall) t hm
        exact (show Tryz.prog.wantsStandIn t = false by simpa using this)⟩)
    (by kernel_rfl)
#print axioms statsForget_card
end Go.Proofs.YticcfbeocepnpaaGreatDoor
