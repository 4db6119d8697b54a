/-
  For every list of events and every turn, bulletinlaw52.StatsOrder returns true and leaves its arguments as they were; the listed tables of math/bits, internal/strconv and unicode/utf8 are tied to the program's text by the given tie.
-/
import Derived.Test.YticcfbeocepnpaaGreatDoorRowC
import Derived.Test.YticcfbeocepnpaaGreatDoorStatsOrder
import Derived.Test.YticcfbeocepnpaaGreatDoorTie
import Derived.Test.YticcfbeocepnpaaGreatDoorCards
import Derived.SevenTiedAt
set_option maxRecDepth 100000
namespace Go.Proofs.YticcfbeocepnpaaGreatDoor
open Go.ChangeShapes Go.WideShapes Go.ChangeAt Go.RowKit

set_option maxHeartbeats 400000 in
theorem statsOrder_contract {H : Type} {enc : TypeId × Value → H} (W : World) (base : Nat) (args : Array Value) (ds gs : List (DataW H)) (before : List MemPlace)
    (hval : ∀ (j : Nat) t v, Tryz.f5.params[j]? = some t → args[j]? = some v → Value.okWide Tryz.prog W .any base t v)
    (hW : DataW.Whole enc Tryz.prog Tryz.f5.params.toList Rows.statsOrderSpec.vars false W args.toList ds gs before) (hx : laidMetH Tryz.prog Rows.statsOrderRow.laid W.memory) (hsh : W.ShapedOpen Tryz.prog) :
    Calls Tryz.prog 5 args W fun e W' => ∃ v, e = .returned v ∧ Rows.statsOrderSpec.post enc Tryz.prog Tryz.f5 false true false false W args v W' := by
  have hW' := hW
  obtain ⟨p, q, hA, hV, rfl, hfz, hnd⟩ := hW
  rw [show Tryz.f5.params.toList = [22, 5] from rfl] at hA
  rw [show Tryz.f5.params = #[22, 5] from rfl] at hval
  obtain ⟨v0, r0, d0, e0, p0, q0, hargs, rfl, rfl, h0, hA1⟩ := trodAll_cons hA
  obtain ⟨v1, r1, d1, e1, p1, q1, rfl, rfl, rfl, h1, hA2⟩ := trodAll_cons hA1
  obtain ⟨rfl, rfl, rfl⟩ := trodAll_nil hA2
  obtain rfl : args = #[v0, v1] := by cases args; simp_all
  obtain ⟨xa, xn, xc, rfl⟩ := okWide_slice Tryz.underlying22 (hval 0 _ _ rfl rfl)
  obtain ⟨tn, rfl, _, _, wt⟩ := open_int Tryz.underlying5 (hval 1 _ _ rfl rfl) h1
  have ht : 0 ≤ tn ∧ tn < 256 := by
    have := wt
    have e1 : IntKind.u8.min = 0 := by decide
    have e2 : IntKind.u8.max = 255 := by decide
    simp [Lit.wf] at this
    omega
  obtain ⟨tn, rfl⟩ : ∃ m : Nat, tn = m := ⟨tn.toNat, by omega⟩
  obtain ⟨fuel, hf⟩ := h0
  obtain ⟨fuel1, hf1⟩ := h1
  obtain ⟨sa, sn, sc, l, hv, hevs⟩ := evs_open (show DataW.trod enc Tryz.prog W 0 (fun _ => true) true fuel 22 [.slice xa xn xc] = _ from hf)
  obtain ⟨rfl, rfl, rfl⟩ : xa = sa ∧ xn = sn ∧ xc = sc := by cases hv; exact ⟨rfl, rfl, rfl⟩
  exact (statsOrder_any xa xn xc l tn (by omega) W hevs (mlen_of_shape hsh) (tab_of_laid hx)).mono fun e W' ⟨he, hb⟩ =>
    ⟨_, he, post_true row_laidOut (by kernel_rfl) rfl hW' hb rfl Tryz.underlying4 rfl⟩

set_option maxHeartbeats 400000 in
theorem statsOrder_lifted (os : Os) (started : os.Started) (H : Type) (enc : TypeId × Value → H) :
    ReturnsInHanded {} Tryz.checked os 5 .any (fun w args => (Rows.statsOrderSpec.pre enc Tryz.prog Tryz.f5 [] false w args ∧ laidMetH Tryz.prog Rows.statsOrderRow.laid w) ∧ sizedMet enc Tryz.prog Tryz.f5 (OpenSpec.ofChange Rows.statsOrderSpec) false w args)
      (Rows.statsOrderSpec.post enc Tryz.prog Tryz.f5 false true false false) :=
  returns_and_shaped2 (C := Tryz.checked) (X := fun w => laidMetH Tryz.prog Rows.statsOrderRow.laid w) row_own started (by kernel_rfl) Tryz.func5
    (ChangeSpec.witness_shaped (enc := enc) (C := Tryz.checked) (os := os) (X := fun w _ => laidMetH Tryz.prog Rows.statsOrderRow.laid w) false (laidWorld os) #[.slice none 0 0, .int .u8 0] 8 rfl (world_shaped os _) (by kernel_rfl) (by kernel_rfl) (by kernel_rfl) (world_met os _))
    fun W base args ds gs before hval hW hx hsh => statsOrder_contract W base args ds gs before hval hW hx hsh

theorem statsOrder_holds : Rows.StatsOrderSaid :=
  OpenClaim.holds_of_wide 5 Tryz.f5 rfl rfl rfl rfl rfl rfl rfl ⟨rfl, rfl, rfl, rfl, rfl⟩ rfl rfl rfl rfl rfl (by kernel_rfl) Tryz.func5 (by kernel_rfl)
    (of_decide_eq_true (by kernel_rfl)) (by unfold Func.isWrapper; first | (rw [if_pos (by decide +kernel)]; kernel_rfl) | (rw [if_neg (by decide +kernel)]; exact ⟨rfl, rfl⟩))
    (fun os started H enc _ => statsOrder_lifted os started H enc)
end Go.Proofs.YticcfbeocepnpaaGreatDoor
set_option maxRecDepth 100000
namespace Go.Proofs.YticcfbeocepnpaaGreatDoor
open Go

theorem statsOrder_card : Rows.StatsOrderCardSaid :=
  Claim7.holds_tied_plain_at .later [] [.data, .data, .data, .data, .pinned] true (true, "2b61511dbc1443444d27901aed96fe35361df261b0181c07380dd05f3a061435") true
    statsOrder_holds (fun _ h => by cases h) (by kernel_rfl) (fun _ h => by cases h) statsOrder_row_tie rfl ⟨rfl, rfl⟩ (by kernel_rfl) rfl
    (fun f fn hf hfn => by
      obtain rfl : f = 5 := Option.some.inj ((show Tryz.prog.funcNamed Rows.statsOrderRow.func = some 5 by kernel_rfl).symm.trans hf) |>.symm
      obtain rfl : fn = Tryz.f5 := (Option.some.inj (Tryz.func5.symm.trans hfn)).symm
      exact ⟨by kernel_rfl, fun j t ht => by
        have hm : t ∈ Tryz.f5.params := Array.mem_of_getElem? ht
        have hall : (Tryz.f5.params.all fun u => !Tryz.prog.wantsStandIn u) = true := by kernel_rfl
        have := (Array.all_eq_true_iff_forall_mem.1 hall) t hm
        exact (show Tryz.prog.wantsStandIn t = false by simpa using this)⟩)
    (by kernel_rfl)
#print axioms statsOrder_card
end Go.Proofs.YticcfbeocepnpaaGreatDoor
