/-
  For every list of events and every event, bulletinlaw52.StatsAdd returns true and leaves its arguments as they were; the listed tables of unicode/utf8 are tied to the program's text by the given tie.
-/
import Derived.Test.YticcfbeocepnpaaGreatDoorRowAdd
import Derived.Test.YticcfbeocepnpaaGreatDoorTie
import Derived.Test.YticcfbeocepnpaaGreatDoorCards
import Derived.SevenTiedAt
set_option maxRecDepth 100000
namespace Go.Proofs.YticcfbeocepnpaaGreatDoor
open Go

theorem statsAdd_card : Rows.StatsAddCardSaid :=
  Claim7.holds_tied_plain_at .later [] [.data, .pinned] true (true, "2b61511dbc1443444d27901aed96fe35361df261b0181c07380dd05f3a061435") true
    statsAdd_holds (fun _ h => by cases h) (by kernel_rfl) (fun _ h => by cases h) statsAdd_row_tie rfl ⟨rfl, rfl⟩ (by kernel_rfl) rfl
    (fun f fn hf hfn => by
      obtain rfl : f = 3 := Option.some.inj ((show Tryz.prog.funcNamed Rows.statsAddRow.func = some 3 by kernel_rfl).symm.trans hf) |>.symm
      obtain rfl : fn = Tryz.f3 := (Option.some.inj (Tryz.func3.symm.trans hfn)).symm
      exact ⟨by kernel_rfl, fun j t ht => by
        have hm : t ∈ Tryz.f3.params := Array.mem_of_getElem? ht
        have hall : (Tryz.f3.params.all fun u => !Tryz.prog.wantsStandIn u) = true := by kernel_rfl
        have := (Array.all_eq_true_iff_forall_mem.1 hall) t hm
        exact (show Tryz.prog.wantsStandIn t = false by simpa using this)⟩)
    (by kernel_rfl)
#print axioms statsAdd_card
end Go.Proofs.YticcfbeocepnpaaGreatDoor
