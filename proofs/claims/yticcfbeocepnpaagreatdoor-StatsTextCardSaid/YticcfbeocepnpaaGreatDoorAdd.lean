/-
  Add: one key counted; an event counted.
-/
import Derived.Test.YticcfbeocepnpaaGreatDoorProg
import Derived.Test.YticcfbeocepnpaaGreatDoorKey
import Derived.Test.YticcfbeocepnpaaGreatDoorAuthor
import Derived.Test.YticcfbeocepnpaaGreatDoorShelf
import Derived.Deep.RegionHeld3
set_option linter.unusedSimpArgs false
set_option maxRecDepth 100000
namespace Go.Proofs.YticcfbeocepnpaaGreatDoor
open Go.RowKit Pl

/-- The world behind 'm[k] = v'. -/
noncomputable def updW (w : World) (mb : Nat) (k v : Value) : World :=
  match (Instr.mapUpdate 70 (.map (some mb)) k v).run Tryz.prog w with
  | .ok _ w' => w'
  | _ => w
theorem updW_run {w : World} {mb : Nat} {f : List (Ky × Ct)} (h : CMap w mb f) {k : Ky} (hk : keyOk k) (c : Ct) :
    (Instr.mapUpdate 70 (.map (some mb)) (keyV k) (cntV c)).run Tryz.prog w = .ok () (updW w mb (keyV k) (cntV c)) ∧ CMap (updW w mb (keyV k) (cntV c)) mb (Mp.putM f k c) ∧ w.grownBy (updW w mb (keyV k) (cntV c)) (some mb) := by
  obtain ⟨w', h1, h2, h3⟩ := Mp.IsMap.update h key_enc Tryz.underlying70 hk c
  have e : updW w mb (keyV k) (cntV c) = w' := by unfold updW; rw [h1]
  rw [e]
  exact ⟨h1, h2, h3⟩
theorem count_zero (w : World) : (zeroValue 34).run Tryz.prog w = .ok (cntV (0, 0)) w := by kernel_rfl
/-- What is counted so far. -/
def cntAt (f : List (Ky × Ct)) (k : Ky) : Ct := (Mp.getM f k).getD (0, 0)
theorem lookup_cnt {w : World} {mb : Nat} {f : List (Ky × Ct)} (h : CMap w mb f) {k : Ky} (hk : keyOk k) :
    (Instr.lookup 70 (.map (some mb)) (keyV k) false).run Tryz.prog w = .ok (cntV (cntAt f k)) w := by
  rw [Mp.IsMap.lookup h key_enc Tryz.underlying70 (count_zero w) hk]
  unfold cntAt
  cases Mp.getM f k <;> rfl
/-- One more article at a key. -/
def addK (f : List (Ky × Ct)) (k : Ky) (by_ : Int) : List (Ky × Ct) := Mp.putM f k ((cntAt f k).1 + 1, (cntAt f k).2 + by_)

theorem not_map_block {w : World} {mb : Nat} {f : List (Ky × Ct)} (h : CMap w mb f) {b o : Nat} {v : Value} (hc : w.cell? ⟨b, o, none⟩ = some v) : b ≠ mb := by
  rintro rfl
  obtain ⟨es, clock, hb, _⟩ := h
  simp [World.cell?, hb] at hc
theorem SAt.ne {w : World} {sb mb : Nat} {f : List (Ky × Ct)} {z : List Int} (h : SAt w sb mb f z) : sb ≠ mb := not_map_block h.map h.c0
theorem cell_grown {w w' : World} {row : Option Nat} (h : w.grownBy w' row) {p : Addr} (hp : p.block < w.heap.size) (hr : some p.block ≠ row) : w'.cell? p = w.cell? p := World.cell?_of_block (w := w) (h.block p.block hp hr)

set_option maxHeartbeats 2000000 in
theorem add1_any (d kind by_ : Int) (name : ByteArray) (db pb eb sb mb : Nat) (f : List (Ky × Ct)) (z : List Int) (w : World)
    (hd : w.cell? ⟨db, 0, none⟩ = some (.int .i64 d)) (hp : w.cell? ⟨pb, 0, none⟩ = some (.pointer (some ⟨sb, 0, none⟩))) (he : w.cell? ⟨eb, 19, none⟩ = some (.int .i64 by_))
    (hs : SAt w sb mb f z) (hk : keyOk (d, kind, name)) (c1 c2 : Int) (hc : cntAt f (d, kind, name) = (c1, c2)) (h1 : 0 ≤ c1) (h2 : c1 ≤ 4611686018427387904) (h3 : 0 ≤ c2) (h4 : c2 ≤ 4611686018427387904) (h5 : 0 ≤ by_) (h6 : by_ ≤ 65536) :
    Calls Tryz.prog 49 #[.int .i64 kind, .string name, .pointer (some ⟨db, 0, none⟩), .pointer (some ⟨pb, 0, none⟩), .pointer (some ⟨eb, 0, none⟩)] w fun e w' =>
      e = .returned (.tuple #[]) ∧ SAt w' sb mb (addK f (d, kind, name) by_) z ∧ w.grownBy w' (some mb) := by
  obtain ⟨W, hW⟩ : ∃ W, W = w.alloc (.cells #[.int .i64 d, .int .i64 kind, .string name] 64) := ⟨_, rfl⟩
  have HW : Hid (Below w.heap.size w W) := hide (by rw [hW]; (repeat (first | exact Below.refl _ _ | with_reducible assumption | (refine Below.setCell ?_ (by simp <;> omega) _) | (refine Below.alloc ?_ (by simp <;> omega) _))))
  have HS := hide (hs.below HW.out)
  have k1 : W.cell? ⟨w.heap.size, 0, none⟩ = some (.int .i64 d) := by rw [hW]; simp [go_sem]
  have k2 : W.cell? ⟨w.heap.size, 1, none⟩ = some (.int .i64 kind) := by rw [hW]; simp [go_sem]
  have k3 : W.cell? ⟨w.heap.size, 2, none⟩ = some (.string name) := by rw [hW]; simp [go_sem]
  have p1 : W.cell? ⟨pb, 0, none⟩ = some (.pointer (some ⟨sb, 0, none⟩)) := (HW.out.cell (block_lt_of_cell hp)).trans hp
  have p2 : W.cell? ⟨eb, 19, none⟩ = some (.int .i64 by_) := (HW.out.cell (block_lt_of_cell he)).trans he
  have p3 : W.cell? ⟨sb, 0, none⟩ = some (.map (some mb)) := HS.out.c0
  have HL : Hid ((Instr.lookup 70 (.map (some mb)) (.agg #[.int .i64 d, .int .i64 kind, .string name]) false).run Tryz.prog W.drew = .ok (.agg #[.int .i64 c1, .int .i64 c2]) W.drew) := hide (by
    have := lookup_cnt (w := W.drew) (Mp.IsMap.below HS.out.map ⟨rfl, rfl, rfl, Nat.le_refl _, fun _ _ => rfl⟩) hk
    rw [hc] at this; exact this)
  have HP : Hid (Calls Tryz.prog 47 #[.agg #[.int .i64 c1, .int .i64 c2], .agg #[.int .i64 1, .int .i64 by_]] W.drew fun e w' => e = .returned (.agg #[.int .i64 (c1 + 1), .int .i64 (c2 + by_)]) ∧ Below W.drew.heap.size W.drew w') :=
    hide (plus_any c1 c2 1 by_ W.drew (by omega) (by omega) (by omega) (by omega))
  have hz : W.heap.size = w.heap.size + 1 := by rw [hW]; simp
  have HU : Hid (∀ w3, Below W.drew.heap.size W.drew w3 → (Instr.mapUpdate 70 (.map (some mb)) (.agg #[.int .i64 d, .int .i64 kind, .string name]) (.agg #[.int .i64 (c1 + 1), .int .i64 (c2 + by_)])).run Tryz.prog w3 = .ok () (updW w3 mb (keyV (d, kind, name)) (cntV (c1 + 1, c2 + by_)))
      ∧ CMap (updW w3 mb (keyV (d, kind, name)) (cntV (c1 + 1, c2 + by_))) mb (addK f (d, kind, name) by_) ∧ w3.grownBy (updW w3 mb (keyV (d, kind, name)) (cntV (c1 + 1, c2 + by_))) (some mb)) := hide fun w3 hb => by
    have h := updW_run (Mp.IsMap.below HS.out.map ((Below.refl _ _).drew.trans hb)) hk (c1 + 1, c2 + by_)
    unfold addK
    rw [hc]
    exact h
  have HSf : Hid (∀ w3, Below W.drew.heap.size W.drew w3 → w3.cell? ⟨w.heap.size, 0, none⟩ = some (.int .i64 d) ∧ w3.cell? ⟨w.heap.size, 1, none⟩ = some (.int .i64 kind) ∧ w3.cell? ⟨w.heap.size, 2, none⟩ = some (.string name) ∧
      w3.cell? ⟨pb, 0, none⟩ = some (.pointer (some ⟨sb, 0, none⟩)) ∧ w3.cell? ⟨eb, 19, none⟩ = some (.int .i64 by_) ∧ w3.cell? ⟨sb, 0, none⟩ = some (.map (some mb))) := hide fun w3 hb =>
    ⟨(hb.cell (block_lt_of_cell k1)).trans k1, (hb.cell (block_lt_of_cell k2)).trans k2, (hb.cell (block_lt_of_cell k3)).trans k3, (hb.cell (block_lt_of_cell p1)).trans p1, (hb.cell (block_lt_of_cell p2)).trans p2, (hb.cell (block_lt_of_cell p3)).trans p3⟩
  have HSg : Hid (∀ w3, Below W.drew.heap.size W.drew w3 → (updW w3 mb (keyV (d, kind, name)) (cntV (c1 + 1, c2 + by_))).cell? ⟨w.heap.size, 0, none⟩ = some (.int .i64 d) ∧ (updW w3 mb (keyV (d, kind, name)) (cntV (c1 + 1, c2 + by_))).cell? ⟨w.heap.size, 1, none⟩ = some (.int .i64 kind) ∧ (updW w3 mb (keyV (d, kind, name)) (cntV (c1 + 1, c2 + by_))).cell? ⟨w.heap.size, 2, none⟩ = some (.string name) ∧
      (updW w3 mb (keyV (d, kind, name)) (cntV (c1 + 1, c2 + by_))).cell? ⟨pb, 0, none⟩ = some (.pointer (some ⟨sb, 0, none⟩)) ∧ (updW w3 mb (keyV (d, kind, name)) (cntV (c1 + 1, c2 + by_))).cell? ⟨eb, 19, none⟩ = some (.int .i64 by_) ∧ (updW w3 mb (keyV (d, kind, name)) (cntV (c1 + 1, c2 + by_))).cell? ⟨sb, 0, none⟩ = some (.map (some mb))) := hide fun w3 hb => by
    obtain ⟨q1, q2, q3, q4, q5, q6⟩ := HSf.out w3 hb
    have hg := (HU.out w3 hb).2.2
    have hm3 : CMap w3 mb f := Mp.IsMap.below HS.out.map ((Below.refl _ _).drew.trans hb)
    have go : ∀ {b o v}, w3.cell? ⟨b, o, none⟩ = some v → (updW w3 mb (keyV (d, kind, name)) (cntV (c1 + 1, c2 + by_))).cell? ⟨b, o, none⟩ = some v := fun {b o v} h =>
      (cell_grown hg (block_lt_of_cell h) (by have := not_map_block hm3 h; simpa using this)).trans h
    exact ⟨go q1, go q2, go q3, go q4, go q5, go q6⟩
  have HWW := hide hW
  clear hW hs hc
  go_enter Tryz.func49, Tryz.ntmps49
  go_upto_region 1 with fail
  rw [← HWW.out]
  have hl := HL.out
  go_region_held3 (fun w' => w'.cell? ⟨w.heap.size, 0, none⟩ = some (.int .i64 d) ∧ w'.cell? ⟨w.heap.size, 1, none⟩ = some (.int .i64 kind) ∧ w'.cell? ⟨w.heap.size, 2, none⟩ = some (.string name) ∧
      w'.cell? ⟨pb, 0, none⟩ = some (.pointer (some ⟨sb, 0, none⟩)) ∧ w'.cell? ⟨eb, 19, none⟩ = some (.int .i64 by_) ∧ w'.cell? ⟨sb, 0, none⟩ = some (.map (some mb)))
    (first | exact ⟨k1, k2, k3, p1, p2, p3⟩ | exact HSf.out _ (by assumption) | exact HSg.out _ (by assumption) | exact HSf.out _ (Below.refl _ _))
    ((first | (go_at_call 47; refine HP.out.mono ?_; rintro e w3 ⟨rfl, hb3⟩; have hmu := (HU.out w3 hb3).1)))
  have hu := HU.out w3 hb3
  have hbW : Below W.heap.size W w3 := (Below.refl _ _).drew.trans hb3
  have hall : w.grownBy (updW w3 mb (keyV (d, kind, name)) (cntV (c1 + 1, c2 + by_))) (some mb) := by
    have hw3 : Below w.heap.size w w3 := HW.out.trans (hbW.mono HW.out.size)
    exact (⟨hw3.os, hw3.tape, hw3.output, hw3.size, fun i hi _ => hw3.block i hi⟩ : w.grownBy w3 (some mb)).trans hu.2.2
  have hmm := hu.2.1
  have HSB : Hid (SAt (updW w3 mb (keyV (d, kind, name)) (cntV (c1 + 1, c2 + by_))) sb mb (addK f (d, kind, name) by_) z) :=
    hide ⟨(hu.2.2.block sb (HS.out.below hbW).lt (by have := HS.out.ne; simpa using this)).trans (HS.out.below hbW).blk, hmm, HS.out.len⟩
  have HG := hide hall
  clear hu hmu hbW hall hmm hl hb3
  go_wp2_with fail
  go_end0
  exact ⟨rfl, HSB.out, HG.out⟩
end Go.Proofs.YticcfbeocepnpaaGreatDoor
