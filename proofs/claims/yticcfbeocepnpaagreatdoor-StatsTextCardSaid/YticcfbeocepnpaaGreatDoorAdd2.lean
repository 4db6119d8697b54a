/-
  Add: an event counted.
-/
import Derived.Test.YticcfbeocepnpaaGreatDoorProg
import Derived.Test.YticcfbeocepnpaaGreatDoorSum
import Derived.Deep.RegionWith
set_option linter.unusedSimpArgs false
set_option maxRecDepth 100000
namespace Go.Proofs.YticcfbeocepnpaaGreatDoor
open Go.RowKit Pl

/-- Nothing but the blocks a and b has turned. -/
structure But2 (w w' : World) (a b : Nat) : Prop where
  os : w'.os = w.os
  tape : w'.tape = w.tape
  output : w'.output = w.output
  size : w.heap.size ≤ w'.heap.size
  block : ∀ i, i < w.heap.size → i ≠ a → i ≠ b → w'.heap[i]? = w.heap[i]?
theorem But2.refl (w : World) (a b : Nat) : But2 w w a b := ⟨rfl, rfl, rfl, Nat.le_refl _, fun _ _ _ _ => rfl⟩
theorem But2.trans {x y z : World} {a b : Nat} (h : But2 x y a b) (k : But2 y z a b) : But2 x z a b :=
  ⟨k.os.trans h.os, k.tape.trans h.tape, k.output.trans h.output, Nat.le_trans h.size k.size, fun i hi ha hb => (k.block i (Nat.lt_of_lt_of_le hi h.size) ha hb).trans (h.block i hi ha hb)⟩
theorem But2.of_below {x y : World} {a b : Nat} (h : Below x.heap.size x y) : But2 x y a b := ⟨h.os, h.tape, h.output, h.size, fun i hi _ _ => h.block i hi⟩
theorem But2.below {x y z : World} {a b B : Nat} (h : But2 x y a b) (k : Below B y z) (hB : x.heap.size ≤ B) : But2 x z a b :=
  ⟨k.os.trans h.os, k.tape.trans h.tape, k.output.trans h.output, Nat.le_trans h.size k.size, fun i hi ha hb => (k.block i (Nat.lt_of_lt_of_le hi hB)).trans (h.block i hi ha hb)⟩
theorem But2.grown {x y z : World} {a b : Nat} (h : But2 x y a b) (k : y.grownBy z (some b)) : But2 x z a b :=
  h.trans ⟨k.os, k.tape, k.output, k.size, fun i hi _ hb => k.block i hi (by simpa using hb)⟩
theorem But2.setCell {x y : World} {a b : Nat} (h : But2 x y a b) (i : Nat) (v : Value) : But2 x (y.setCell ⟨a, i, none⟩ v) a b :=
  ⟨h.os, h.tape, h.output, by simpa using h.size, fun j hj ha hb => by rw [heap_setCell_other _ _ _ _ ha]; exact h.block j hj ha hb⟩

theorem map_block_ne {w : World} {mb : Nat} {f : List (Ky × Ct)} (h : CMap w mb f) {b : Nat} {cs : Array Value} {t : TypeId} {fr : Nat × Nat} (hc : w.heap[b]? = some (.cells cs t fr)) : b ≠ mb := by
  rintro rfl
  obtain ⟨es, clock, hb, _⟩ := h
  rw [hb] at hc
  cases hc
theorem StrsAt.grown {w w' : World} {mb : Nat} {f : List (Ky × Ct)} (hm : CMap w mb f) {a : Option Addr} {n c : Nat} {ss : List ByteArray} (h : StrsAt w a n c ss) (hg : w.grownBy w' (some mb)) : StrsAt w' a n c ss :=
  ⟨h.len, h.room, h.capm, fun hn => let ⟨b, o, ha, hc⟩ := h.cells hn; ⟨b, o, ha, fun j x hx => (cell_grown hg (block_lt_of_cell (hc j x hx)) (by have := not_map_block hm (hc j x hx); simpa using this)).trans (hc j x hx)⟩, h.size⟩
theorem StrsAt.setCell {w : World} {sb i : Nat} {u : Value} {a : Option Addr} {n c : Nat} {ss : List ByteArray} (hs : ∀ j x, w.cell? ⟨sb, j, none⟩ ≠ some (.string x)) (h : StrsAt w a n c ss) : StrsAt (w.setCell ⟨sb, i, none⟩ u) a n c ss :=
  ⟨h.len, h.room, h.capm, fun hn => let ⟨b, o, ha, hc⟩ := h.cells hn; ⟨b, o, ha, fun j x hx => by
    have hne : b ≠ sb := by rintro rfl; exact hs _ _ (hc j x hx)
    rw [World.cell?_of_block (w := w) (heap_setCell_other _ _ _ _ hne)]; exact hc j x hx⟩, h.size⟩

/-- An event in the call's own box, with the counts. -/
structure AddAt (w0 w : World) (pb eb db sb mb : Nat) (cs : Array Value) (d : Int) (ga : Option Addr) (gn gc : Nat) (gs : List ByteArray) (sa : Option Addr) (sn sc : Nat) (ss : List ByteArray) (f : List (Ky × Ct)) (z : List Int) : Prop where
  s : SAt w sb mb f z
  p : w.cell? ⟨pb, 0, none⟩ = some (.pointer (some ⟨sb, 0, none⟩))
  e : w.heap[eb]? = some (.cells cs 27 (0, 0))
  d : w.cell? ⟨db, 0, none⟩ = some (.int .i64 d)
  gs : StrsAt w ga gn gc gs
  ss : StrsAt w sa sn sc ss
  old : But2 w0 w sb mb
theorem AddAt.below {w0 w w' : World} {pb eb db sb mb : Nat} {cs : Array Value} {d : Int} {ga : Option Addr} {gn gc : Nat} {gs : List ByteArray} {sa : Option Addr} {sn sc : Nat} {ss : List ByteArray} {f : List (Ky × Ct)} {z : List Int}
    (h : AddAt w0 w pb eb db sb mb cs d ga gn gc gs sa sn sc ss f z) (hb : Below w.heap.size w w') : AddAt w0 w' pb eb db sb mb cs d ga gn gc gs sa sn sc ss f z :=
  ⟨h.s.below hb, (hb.cell (block_lt_of_cell h.p)).trans h.p, (hb.block eb (Array.getElem?_eq_some_iff.1 h.e).1).trans h.e, (hb.cell (block_lt_of_cell h.d)).trans h.d, h.gs.below hb, h.ss.below hb, h.old.below hb h.old.size⟩
theorem AddAt.step {w0 w w' : World} {pb eb db sb mb : Nat} {cs : Array Value} {d : Int} {ga : Option Addr} {gn gc : Nat} {gs : List ByteArray} {sa : Option Addr} {sn sc : Nat} {ss : List ByteArray} {f f' : List (Ky × Ct)} {z z' : List Int}
    (h : AddAt w0 w pb eb db sb mb cs d ga gn gc gs sa sn sc ss f z) (hg : w.grownBy w' (some mb)) (hs : SAt w' sb mb f' z') : AddAt w0 w' pb eb db sb mb cs d ga gn gc gs sa sn sc ss f' z' :=
  ⟨hs, (cell_grown hg (block_lt_of_cell h.p) (by have := not_map_block h.s.map h.p; simpa using this)).trans h.p,
    (hg.block eb (Array.getElem?_eq_some_iff.1 h.e).1 (by have := map_block_ne h.s.map h.e; simpa using this)).trans h.e,
    (cell_grown hg (block_lt_of_cell h.d) (by have := not_map_block h.s.map h.d; simpa using this)).trans h.d, h.gs.grown h.s.map hg, h.ss.grown h.s.map hg, h.old.grown hg⟩
theorem AddAt.ev {w0 w : World} {pb eb db sb mb : Nat} {cs : Array Value} {d : Int} {ga : Option Addr} {gn gc : Nat} {gs : List ByteArray} {sa : Option Addr} {sn sc : Nat} {ss : List ByteArray} {f : List (Ky × Ct)} {z : List Int}
    (h : AddAt w0 w pb eb db sb mb cs d ga gn gc gs sa sn sc ss f z) {j : Nat} {v : Value} (hv : cs[j]? = some v) : w.cell? ⟨eb, j, none⟩ = some v := (cell_of_row w eb j _ _ _ h.e).trans hv

theorem addAt_key {w0 w : World} {pb eb db sb mb : Nat} {cs : Array Value} {d : Int} {ga : Option Addr} {gn gc : Nat} {gs : List ByteArray} {sa : Option Addr} {sn sc : Nat} {ss : List ByteArray} {f : List (Ky × Ct)} {z : List Int} {n : Nat} {by_ : Int}
    (h : AddAt w0 w pb eb db sb mb cs d ga gn gc gs sa sn sc ss f z) (hc : cs[19]? = some (.int .i64 by_)) (h5 : 0 ≤ by_) (h6 : by_ ≤ 65536) (hf : Fits f n) (hn : n ≤ 17592186044416) (kind : Int) (name : ByteArray) (hk : keyOk (d, kind, name)) :
    Calls Tryz.prog 49 #[.int .i64 kind, .string name, .pointer (some ⟨db, 0, none⟩), .pointer (some ⟨pb, 0, none⟩), .pointer (some ⟨eb, 0, none⟩)] w fun e w' =>
      e = .returned (.tuple #[]) ∧ AddAt w0 w' pb eb db sb mb cs d ga gn gc gs sa sn sc ss (addK f (d, kind, name) by_) z := by
  obtain ⟨a1, a2, a3, a4⟩ := hf.cnt (d, kind, name)
  refine (add1_any d kind by_ name db pb eb sb mb f z w h.d h.p (h.ev hc) h.s hk (cntAt f (d, kind, name)).1 (cntAt f (d, kind, name)).2 rfl a1 (by omega) a3 (by omega) h5 h6).mono ?_
  rintro e w' ⟨rfl, h1, h2⟩
  exact ⟨rfl, h.step h2 h1⟩

/-- One more of a size. -/
def zAdd (z : List Int) (by_ : Int) : List Int := z.set (Lib.bitLen by_.toNat) (z.getD (Lib.bitLen by_.toNat) 0 + 1)
theorem bitLen_le : ∀ (n k x : Nat), x < 2 ^ k → Lib.bitLenAux n x ≤ k
  | 0, _, _, _ => Nat.zero_le _
  | n + 1, k, x, h => by
    unfold Lib.bitLenAux
    split
    · exact Nat.zero_le _
    · match k with
      | 0 => omega
      | k + 1 =>
        have := bitLen_le n k (x / 2) (by rw [Nat.pow_succ] at h; omega)
        omega
theorem bitLen_17 {b : Int} (h : b ≤ 65536) : Lib.bitLen b.toNat ≤ 17 := bitLen_le 64 17 _ (by omega)
end Go.Proofs.YticcfbeocepnpaaGreatDoor
