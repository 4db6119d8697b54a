/-
  What a slice of events reads as: down to the cells.
-/
import Derived.Test.YticcfbeocepnpaaGreatDoorKnown
import Derived.Deep.Slices
import Derived.Deep.Strs
import Derived.Deep.Fields
import Derived.ChangeSame
namespace Go.Proofs.YticcfbeocepnpaaGreatDoor
open Go.ChangeShapes Go.WideShapes Go.Deep Go.RowKit Pl
variable {H : Type} {enc : TypeId × Value → H} {w : World} {base : Nat} {spare : Nat → Bool} {held : Bool}

theorem spot_none {w : World} {a : Addr} {v : Value} (h : w.cell? a = some v) : a.spot = none := by
  obtain ⟨b, o, s⟩ := a
  unfold World.cell? at h
  cases s with
  | none => rfl
  | some x => simp only at h; split at h <;> simp at h
theorem add_at (b o k : Nat) : (⟨b, o, none⟩ : Addr).add k = ⟨b, o + k, none⟩ := by unfold Addr.add; split <;> simp_all
theorem add_zero' (a : Addr) : a.add 0 = a := by unfold Addr.add; simp
theorem strs_open {fuel : Nat} {v : Value} {x : DataW H × List MemPlace} (h : DataW.trod enc Tryz.prog w base spare held fuel 25 [v] = some x) : ∃ a n c ss, v = .slice a n c ∧ StrsAt w a n c ss := by
  rcases open_strs Tryz.underlying25 Tryz.underlying9 string_cells h with ⟨h0, _⟩ | ⟨a, len, cap, m, Sx, h0, hb, hl, hm, hmm, _, hx⟩
  · cases h0
    exact ⟨none, 0, 0, [], rfl, rfl, Nat.le_refl _, by omega, fun h => by omega, fun x hx => by cases hx⟩
  · cases h0
    have hlm : len ≤ m := by rw [hmm]; split <;> omega
    refine ⟨some a, len, cap, (List.range len).map Sx, rfl, by simp, hl, by simp only [maxLen] at hm; omega, fun hn => ?_, fun s hs => ?_⟩
    · have h00 := (hx 0 (by omega)).1
      rw [add_zero'] at h00
      have hs := spot_none h00
      obtain ⟨b, o, sp⟩ := a
      have hsp : sp = none := hs
      subst hsp
      refine ⟨b, o, rfl, fun k s hk => ?_⟩
      rw [List.getElem?_map] at hk
      have hkl : k < len := by
        cases hr : (List.range len)[k]? with
        | none => rw [hr] at hk; cases hk
        | some q => have := (List.getElem?_eq_some_iff.1 hr).1; simpa using this
      have := (hx k (by omega)).1
      rw [List.getElem?_range hkl] at hk
      cases hk
      rw [add_at] at this; exact this
    · obtain ⟨i, hi, rfl⟩ := List.mem_map.1 hs
      exact (hx i (by have := List.mem_range.1 hi; omega)).2
theorem u8_cells : Tryz.prog.cellsOf 5 = 1 := by kernel_rfl
theorem author_cells : Tryz.prog.cellsOf 24 = 16 := by kernel_rfl
theorem strings_cells : Tryz.prog.cellsOf 25 = 1 := by kernel_rfl
theorem event_cells : Tryz.prog.cellsOf 27 = 20 := by kernel_rfl
theorem take_one {l : List Value} {i : Nat} {v : Value} (h : (l.drop i).take 1 = [v]) : l[i]? = some v := by
  have := congrArg (fun q => q[0]?) h
  simpa [List.getElem?_take, List.getElem?_drop] using this
theorem bytes_open {fuel : Nat} {cs : List Value} {x : DataW H × List MemPlace} (h : DataW.trod enc Tryz.prog w base spare held fuel 24 cs = some x) : ∃ l : List UInt8, l.length = 16 ∧ ∀ (j : Nat) b, l[j]? = some b → cs[j]? = some (.int .u8 (b.toNat : Int)) := by
  obtain ⟨xs, m, _, _, hlen, hxl, hel⟩ := DataW.trod_array Tryz.underlying24 h
  rw [author_cells] at hlen
  have each : ∀ i, i < 16 → ∃ b : UInt8, cs[i]? = some (.int .u8 (b.toNat : Int)) := fun i hi => by
    have h1 := hel i hi
    rw [u8_cells, Nat.mul_one, List.getElem?_eq_getElem (by omega)] at h1
    obtain ⟨n, h2, _, h3⟩ := DataW.trod_int Tryz.underlying5 h1
    have h4 := take_one h2
    have hr : 0 ≤ n ∧ n ≤ 255 := by
      have e1 : IntKind.u8.min = 0 := by decide
      have e2 : IntKind.u8.max = 255 := by decide
      simp [Lit.wf] at h3; omega
    refine ⟨UInt8.ofNat n.toNat, ?_⟩
    rw [h4]
    congr 2
    have : (UInt8.ofNat n.toNat).toNat = n.toNat := by rw [UInt8.toNat_ofNat']; omega
    rw [this]; omega
  obtain ⟨B, hB⟩ := choose_lt each
  refine ⟨(List.range 16).map B, by simp, fun j b hj => ?_⟩
  rw [List.getElem?_map] at hj
  have hjl : j < 16 := by
    cases hr : (List.range 16)[j]? with
    | none => rw [hr] at hj; cases hj
    | some q => have := (List.getElem?_eq_some_iff.1 hr).1; simpa using this
  rw [List.getElem?_range hjl] at hj
  cases hj
  exact hB j hjl
theorem ev_open {fuel : Nat} {cs : List Value} {x : DataW H × List MemPlace} (h : DataW.trod enc Tryz.prog w base spare held fuel 27 cs = some x) :
    ∃ e : EvC, e.cs = cs.toArray ∧ EvIs w e.cs e.ev e.ga e.gn e.gc e.sa e.sn e.sc := by
  obtain ⟨xs, n, _, _, hlen, hxl, hf⟩ := DataW.trod_struct Tryz.underlying27 h
  rw [event_cells] at hlen
  have hs : xs.length = 5 := hxl
  have g0 : DataW.trod enc Tryz.prog w base spare held n 3 ((cs.drop 0).take (Tryz.prog.cellsOf 3)) = xs[0]? := hf 0 _ rfl
  have g1 : DataW.trod enc Tryz.prog w base spare held n 24 ((cs.drop 1).take (Tryz.prog.cellsOf 24)) = xs[1]? := hf 1 _ rfl
  have g2 : DataW.trod enc Tryz.prog w base spare held n 25 ((cs.drop 17).take (Tryz.prog.cellsOf 25)) = xs[2]? := hf 2 _ rfl
  have g3 : DataW.trod enc Tryz.prog w base spare held n 25 ((cs.drop 18).take (Tryz.prog.cellsOf 25)) = xs[3]? := hf 3 _ rfl
  have g4 : DataW.trod enc Tryz.prog w base spare held n 3 ((cs.drop 19).take (Tryz.prog.cellsOf 3)) = xs[4]? := hf 4 _ rfl
  rw [List.getElem?_eq_getElem (by omega)] at g0 g1 g2 g3 g4
  rw [int_cells] at g0 g4
  rw [strings_cells] at g2 g3
  rw [author_cells] at g1
  obtain ⟨m, e0, _, _⟩ := DataW.trod_int Tryz.underlying3 g0
  obtain ⟨by_, e4, _, _⟩ := DataW.trod_int Tryz.underlying3 g4
  obtain ⟨au, a1, a2⟩ := bytes_open g1
  have one : ∀ i, i < 20 → ∃ v, (cs.drop i).take 1 = [v] := fun i hi => ⟨cs[i]'(by omega), by rw [List.drop_eq_getElem_cons (by omega)]; rfl⟩
  obtain ⟨v2, e2⟩ := one 17 (by omega)
  obtain ⟨v3, e3⟩ := one 18 (by omega)
  rw [e2] at g2
  rw [e3] at g3
  obtain ⟨ga, gn, gc, gs, rfl, hgs⟩ := strs_open g2
  obtain ⟨sa, sn, sc, ss, rfl, hss⟩ := strs_open g3
  refine ⟨⟨cs.toArray, ⟨m, au, gs, ss, by_⟩, ga, gn, gc, sa, sn, sc⟩, rfl, ⟨⟨?_, ?_, ?_, ?_, hgs, hss⟩, ?_, a1, by simp [hlen]⟩⟩
  · rw [List.getElem?_toArray]; exact take_one e0
  · rw [List.getElem?_toArray]; exact take_one e2
  · rw [List.getElem?_toArray]; exact take_one e3
  · rw [List.getElem?_toArray]; exact take_one e4
  · intro j b hj
    have := a2 j b hj
    rw [List.getElem?_toArray]
    have hj16 : j < 16 := by rw [← a1]; exact (List.getElem?_eq_some_iff.1 hj).1
    rw [List.getElem?_take, if_pos hj16, List.getElem?_drop] at this
    exact this
theorem evs_open {fuel : Nat} {v : Value} {x : DataW H × List MemPlace} (h : DataW.trod enc Tryz.prog w base spare held fuel 22 [v] = some x) : ∃ a n c l, v = .slice a n c ∧ EvsAt w a n c l := by
  rcases open_slice Tryz.underlying22 h with ⟨h0, _⟩ | ⟨a, len, cap, m, q, D, Pl, h0, hb, hl, hm, hmm, _, hx⟩
  · cases h0
    exact ⟨none, 0, 0, [], rfl, rfl, Nat.le_refl _, by omega, fun h => by omega, fun x hx => by cases hx⟩
  · cases h0
    have hlm : len ≤ m := by rw [hmm]; split <;> omega
    rw [event_cells] at hx
    have each : ∀ i, i < len → ∃ e : EvC, (∀ (j : Nat) u, e.cs[j]? = some u → w.cell? ((a.add (i * 20)).add j) = some u) ∧ EvIs w e.cs e.ev e.ga e.gn e.gc e.sa e.sn e.sc := fun i hi => by
      obtain ⟨cs', hc, ht⟩ := hx i (by omega)
      obtain ⟨e, he, hev⟩ := ev_open ht
      obtain ⟨_, hcl, hat⟩ := World.cells?_some hc
      refine ⟨e, fun j u hu => ?_, hev⟩
      rw [he, List.getElem?_toArray] at hu
      have hj : j < 20 := by rw [← hcl]; exact (List.getElem?_eq_some_iff.1 hu).1
      rw [hat j hj]; exact hu
    have hex : (∃ E : Nat → EvC, ∀ i, i < len → (∀ (j : Nat) u, (E i).cs[j]? = some u → w.cell? ((a.add (i * 20)).add j) = some u) ∧ EvIs w (E i).cs (E i).ev (E i).ga (E i).gn (E i).gc (E i).sa (E i).sn (E i).sc) := by
      refine ⟨fun i => if h : i < len then Classical.choose (each i h) else ⟨#[], ⟨0, [], [], [], 0⟩, none, 0, 0, none, 0, 0⟩, fun i hi => ?_⟩
      simp only [dif_pos hi]
      exact Classical.choose_spec (each i hi)
    obtain ⟨E, hE⟩ := hex
    have mem : ∀ i e, ((List.range len).map E)[i]? = some e → i < len ∧ e = E i := fun i e hk => by
      rw [List.getElem?_map] at hk
      have hkl : i < len := by
        cases hr : (List.range len)[i]? with
        | none => rw [hr] at hk; cases hk
        | some q => have := (List.getElem?_eq_some_iff.1 hr).1; simpa using this
      rw [List.getElem?_range hkl] at hk
      cases hk
      exact ⟨hkl, rfl⟩
    refine ⟨some a, len, cap, (List.range len).map E, rfl, by simp, hl, by simp only [maxLen] at hm; omega, fun hn => ?_, fun e he => ?_⟩
    · have h00 := (hE 0 hn).1 0 _ (hE 0 hn).2.at_.c0
      rw [Nat.zero_mul, add_zero', add_zero'] at h00
      have hs := spot_none h00
      obtain ⟨b, o, sp⟩ := a
      have hsp : sp = none := hs
      subst hsp
      refine ⟨b, o, rfl, fun i e hk j u hu => ?_⟩
      obtain ⟨hi, rfl⟩ := mem i e hk
      have := (hE i hi).1 j u hu
      rw [add_at, add_at] at this; exact this
    · obtain ⟨i, hi, rfl⟩ := List.mem_map.1 he
      exact (hE i (List.mem_range.1 hi)).2
end Go.Proofs.YticcfbeocepnpaaGreatDoor
