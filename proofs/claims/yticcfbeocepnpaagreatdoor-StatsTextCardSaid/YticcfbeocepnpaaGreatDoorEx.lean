/-
  The example of the document: what it comes to.
-/
import Derived.Test.YticcfbeocepnpaaGreatDoorProg
import Derived.Test.YticcfbeocepnpaaGreatDoorLaw
import Derived.Deep.RegionHeld3
set_option linter.unusedSimpArgs false
set_option maxRecDepth 100000
namespace Go.Proofs.YticcfbeocepnpaaGreatDoor
open Go.RowKit Pl

def sa_ : ByteArray := ⟨#[97]⟩
def sb_ : ByteArray := ⟨#[98]⟩
def sx_ : ByteArray := ⟨#[120]⟩
def sy_ : ByteArray := ⟨#[121]⟩
def ev0 : Ev := ⟨0, [0, 0, 0, 0, 0, 0, 0, 0, 0, 0, 0, 0, 0, 0, 0, 1], [sa_, sb_], [sx_, sy_], 300⟩
def cs0 (g s : Nat) : Array Value := #[.int .i64 0, .int .u8 0, .int .u8 0, .int .u8 0, .int .u8 0, .int .u8 0, .int .u8 0, .int .u8 0, .int .u8 0, .int .u8 0, .int .u8 0, .int .u8 0, .int .u8 0, .int .u8 0, .int .u8 0, .int .u8 0, .int .u8 1,
  .slice (some ⟨g, 0, none⟩) 2 2, .slice (some ⟨s, 0, none⟩) 2 2, .int .i64 300]
theorem ev0_err : ev0.err = 0 := by decide
theorem f0_total : sumM isTotal (addEv [] ev0) = (1, 300) := by decide
theorem f0_b : sumM (ofB 1 sb_ 0 0) (addEv [] ev0) = (1, 300) := by decide
theorem f0_x : sumM (ofB 2 sx_ 0 0) (addEv [] ev0) = (1, 300) := by decide
theorem f0_a : sumM (ofB 3 ev0.auth 0 0) (addEv [] ev0) = (1, 300) := by decide
theorem z0_9 : zAdd (List.replicate 18 0) 300 = [0, 0, 0, 0, 0, 0, 0, 0, 0, 1, 0, 0, 0, 0, 0, 0, 0, 0] := by decide
theorem strs_two (w : World) (g : Nat) (x y : ByteArray) (h : w.heap[g]? = some (.cells #[.string x, .string y] 9 (0, 0))) (hx : x.size ≤ maxLen) (hy : y.size ≤ maxLen) : StrsAt w (some ⟨g, 0, none⟩) 2 2 [x, y] :=
  ⟨rfl, by omega, by omega, fun _ => ⟨g, 0, rfl, fun k v hv => by
    match k, hv with
    | 0, hv => cases hv; exact two0 h
    | 1, hv => cases hv; exact two1 h⟩, fun v hv => by simp at hv; rcases hv with rfl | rfl <;> assumption⟩

theorem au0 (g s : Nat) : BytesIn (cs0 g s) 1 ev0.au := by
  intro j x hx
  match j, hx with
  | 0, h | 1, h | 2, h | 3, h | 4, h | 5, h | 6, h | 7, h | 8, h | 9, h | 10, h | 11, h | 12, h | 13, h | 14, h | 15, h => cases h; rfl

end Go.Proofs.YticcfbeocepnpaaGreatDoor
