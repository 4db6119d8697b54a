/-
  For every list of events, any kind, name, first and last day, bulletinlaw52.StatsOf returns true and leaves its arguments as they were; the listed tables of unicode/utf8 are tied to the program's text by the given tie.
-/
import Derived.Test.YticcfbeocepnpaaDoorRow
import Derived.Test.YticcfbeocepnpaaDoorTie
import Derived.Test.YticcfbeocepnpaaDoorCards
import Derived.SevenTiedAt
set_option maxRecDepth 100000
namespace Go.Proofs.YticcfbeocepnpaaDoor
open Go

theorem statsOf_card : Rows.StatsOfCardSaid :=
  Claim7.holds_tied_plain_at .later [] [.data, .pinned] true (true, "79c06fba528197703aa445405f9d1123bb349d4821d534aed1f89389d747871e") false
    statsOf_holds (fun _ h => by cases h) (by kernel_rfl) (fun _ h => by cases h) statsOf_row_tie rfl ⟨rfl, rfl⟩ (by kernel_rfl) rfl
    (fun f fn hf hfn => by
      obtain rfl : f = 3 := Option.some.inj ((show Tryd.prog.funcNamed Rows.statsOfRow.func = some 3 by kernel_rfl).symm.trans hf) |>.symm
      obtain rfl : fn = Tryd.f3 := (Option.some.inj (Tryd.func3.symm.trans hfn)).symm
      exact ⟨by kernel_rfl, fun j t ht => by
        have hm : t ∈ Tryd.f3.params := Array.mem_of_getElem? ht
        have hall : (Tryd.f3.params.all fun u => !Tryd.prog.wantsStandIn u) = true := by kernel_rfl
        have := (Array.all_eq_true_iff_forall_mem.1 hall) t hm
        exact (show Tryd.prog.wantsStandIn t = false by simpa using this)⟩)
    (by kernel_rfl)
#print axioms statsOf_card
end Go.Proofs.YticcfbeocepnpaaDoor
