/-
  What the rows of several statements share.
-/
import Derived.ProofKit
import Derived.LaidMore
import Derived.OpenShut
import Derived.Stop.Joined
import Derived.HandedShaped
import Derived.Carry
import Derived.ChangeSame
import Derived.Below
import Derived.KernelRfl
import Derived.Test.YticcfbeocepnpaaGreatDoorKnown
import Derived.Deep.Slices
import Derived.Deep.Strs
import Derived.Deep.Fields
import Derived.Test.YticcfbeocepnpaaGreatDoorRows
import Derived.Test.YticcfbeocepnpaaGreatDoorText
import Derived.Lib.LaidTab
import Derived.Stop.LaidErr
set_option maxRecDepth 100000
namespace Go.Proofs.YticcfbeocepnpaaGreatDoor
open Go.ChangeShapes Go.WideShapes Go.ChangeAt Go.RowKit

/-- A condition on the world beside the reading, and the world's shape. -/
theorem returns_and_shaped {H : Type} {enc : TypeId × Value → H} {a : Assume} {C : Checked} {os : Os} {f : FuncId} {fn : Func} {s : ChangeSpec} {conds : List PathCond} {apart fresh handsOn again : Bool} {X : World → Array Value → Prop}
    (own : ownKnob C.prog.godebug = none) (started : os.Started) (noInit : C.prog.inits.idxOf? f = none) (hfn : C.prog.funcs[f]? = some fn)
    (witness : ∃ (w : World) (tape : Tape) (i : Input), w.os = os ∧ (w.forCall tape i).Shaped C.prog ∧ i.vars = [] ∧ Input.okWide C.prog (w.forCall tape i) .any w.heap.size f i ∧
      ((s.pre enc C.prog fn conds apart (w.forCall tape i).memory i.args ∧ X (w.forCall tape i).memory i.args) ∧ sizedMet enc C.prog fn (OpenSpec.ofChange s) apart (w.forCall tape i).memory i.args) ∧ a.holds C.prog (lone (Frame.enter C.prog f i.args .normal) [] (w.forCall tape i)))
    (contract : ∀ (W : World) (base : Nat) (args : Array Value) (ds gs : List (DataW H)) (before : List MemPlace),
      (∀ (j : Nat) t v, fn.params[j]? = some t → args[j]? = some v → Value.okWide C.prog W .any base t v) →
      DataW.Whole enc C.prog fn.params.toList s.vars apart W args.toList ds gs before →
      (DataW.weightsEach C.prog (fn.params.toList ++ s.plain.varTypes C.prog) (ds ++ gs)).all (· ≤ reachBytes) = true →
      W.ShapedOpen C.prog →
      Calls C.prog f args W fun e W' => ∃ v, e = .returned v ∧ s.post enc C.prog fn apart fresh handsOn again W args v W') :
    ReturnsInHanded a C os f .any (fun w args => (s.pre enc C.prog fn conds apart w args ∧ X w args) ∧ sizedMet enc C.prog fn (OpenSpec.ofChange s) apart w args) (s.post enc C.prog fn apart fresh handsOn again) := by
  refine returnsInHanded_of_calls own started noInit witness ?_
  intro w tape i _ hsh _ hok hpre _
  obtain ⟨_, _, _, fn', hfn', _, _, _, _, hval⟩ := hok
  obtain rfl : fn' = fn := Option.some.inj (hfn'.symm.trans hfn)
  obtain ⟨⟨⟨ds, gs, before, hw, _⟩, _⟩, hz⟩ := hpre
  refine (contract (w.forCall tape i) w.heap.size i.args ds gs before hval (DataW.Whole.of_heap (w' := w.forCall tape i) (by rfl) hw) (hz.weights hw) hsh).mono fun e W' ⟨v, he, hp⟩ => ?_
  subst he
  exact ChangeSpec.post_blind hp

variable {H : Type} {enc : TypeId × Value → H} {P : Program}
theorem trodAll_stays (hl : laidOutB P = true) {W W' : World} {sp' : Nat → Bool} : ∀ (ts : List TypeId) (vs : List Value) (ds : List (DataW H)) (ps : List MemPlace), (ts.all fun t => P.readableRec t && decide (t < P.types.size)) = true →
    DataW.TrodAll enc P W 0 (fun _ => true) true ts vs ds ps → (∀ p ∈ ps, W.sameAt W' p) → (∀ p ∈ ps, sp' p.block = true) → DataW.TrodAll enc P W' 0 sp' true ts vs ds ps
  | [], [], [], ps, _, h, _, _ => h
  | t :: ts, v :: vs, d :: ds, ps, hr, h, hs, hp => by
    obtain ⟨p, q, h1, h2, rfl⟩ := h
    simp only [List.all_cons, Bool.and_eq_true, decide_eq_true_eq] at hr
    exact ⟨p, q, WideElems.Trod_stays hl hr.1.1 hr.1.2 h1 (fun x hx => hs x (by simp [hx])) (fun x hx => hp x (by simp [hx])),
      trodAll_stays hl ts vs ds q hr.2 h2 (fun x hx => hs x (by simp [hx])) (fun x hx => hp x (by simp [hx])), rfl⟩
  | [], _ :: _, _, _, _, h, _, _ => by cases h
  | [], [], _ :: _, _, _, h, _, _ => by cases h
  | _ :: _, [], _, _, _, h, _, _ => by cases h
  | _ :: _, _ :: _, [], _, _, h, _, _ => by cases h

/-- The law's end. -/
theorem post_true {f : Func} {s : ChangeSpec} {W W' : World} {args : Array Value} {ds gs : List (DataW H)} {before : List MemPlace} {t : TypeId}
    (hl : laidOutB P = true) (hr : (f.params.toList.all fun t => P.readableRec t && decide (t < P.types.size)) = true) (hvs : s.vars = [])
    (hW : DataW.Whole enc P f.params.toList s.vars false W args.toList ds gs before) (hb : Below W.heap.size W W') (hres : f.resultTypes = #[t]) (ht : P.underlying t = some .bool)
    (hfn : s.fn H ds = { results := [.lit (.bool true)], args := ds }) : s.post enc P f false true false false W args (.bool true) W' := by
  have hW0 := hW
  obtain ⟨p, q, hA, hV, rfl, hfz, hnd⟩ := hW
  rw [hvs] at hV
  obtain ⟨rfl, rfl⟩ := trodVars_none hV
  have hlt : ∀ x ∈ p, x.block < W.heap.size := fun x hx => hW0.lt x (by simp [hx])
  have hA' : ∀ sp : Nat → Bool, (∀ x ∈ p, sp x.block = true) → DataW.TrodAll enc P W' 0 sp true f.params.toList args.toList ds p := fun sp hsp =>
    trodAll_stays hl _ _ _ _ hr hA (fun x hx => hb.same (hlt x hx)) hsp
  have hf : s.fn H (ds ++ []) = { results := [.lit (.bool true)], args := ds } := by rw [List.append_nil]; exact hfn
  have hold : ∀ x ∈ p, (fun b => decide (b < W.heap.size)) x.block = true := fun x hx => by simpa using hlt x hx
  have hresv : ∀ (b : Nat) (sp : Nat → Bool) (hd : Bool), DataW.TrodAll enc P W' b sp hd f.resultTypes.toList ((Value.bool true).resultList f.resultTypes.size) [.lit (.bool true)] [] := fun b sp hd => by
    rw [hres]; exact trodAll_mk1 (shut_bool ht true)
  refine ⟨ds, [], p ++ [], [], p, [], hW0, by rw [hf]; exact hresv _ _ _, by rw [hf]; exact hA' _ hold, by rw [hf, hvs]; rfl, World.keptBut_mono (fun x hx => ⟨hx, ?_⟩) (hb.frame (· ∈ p ++ [])), fun h => by cases h⟩
  simp only [List.append_nil] at hx
  exact Or.inr (by simpa using hx)
end Go.Proofs.YticcfbeocepnpaaGreatDoor
namespace Go.Proofs.YticcfbeocepnpaaGreatDoor
open Go.ChangeShapes Go.WideShapes Go.Deep Go.RowKit Pl
variable {H : Type} {enc : TypeId × Value → H} {w : World} {base : Nat} {spare : Nat → Bool} {held : Bool}

theorem spot_none {w : World} {a : Addr} {v : Value} (h : w.cell? a = some v) : a.spot = none := by
  obtain ⟨b, o, s⟩ := a
  unfold World.cell? at h
  cases s with
  | none => rfl
  | some x => simp only at h; split at h <;> simp at h
theorem add_at (b o k : Nat) : (⟨b, o, none⟩ : Addr).add k = ⟨b, o + k, none⟩ := by unfold Addr.add; split <;> simp_all
theorem add_zero' (a : Addr) : a.add 0 = a := by unfold Addr.add; simp
theorem strs_open {fuel : Nat} {v : Value} {x : DataW H × List MemPlace} (h : DataW.trod enc Tryz.prog w base spare held fuel 25 [v] = some x) : ∃ a n c ss, v = .slice a n c ∧ StrsAt w a n c ss := by
  rcases open_strs Tryz.underlying25 Tryz.underlying9 string_cells h with ⟨h0, _⟩ | ⟨a, len, cap, m, Sx, h0, hb, hl, hm, hmm, _, hx⟩
  · cases h0
    exact ⟨none, 0, 0, [], rfl, rfl, Nat.le_refl _, by omega, fun h => by omega, fun x hx => by cases hx⟩
  · cases h0
    have hlm : len ≤ m := by rw [hmm]; split <;> omega
    refine ⟨some a, len, cap, (List.range len).map Sx, rfl, by simp, hl, by simp only [maxLen] at hm; omega, fun hn => ?_, fun s hs => ?_⟩
    · have h00 := (hx 0 (by omega)).1
      rw [add_zero'] at h00
      have hs := spot_none h00
      obtain ⟨b, o, sp⟩ := a
      have hsp : sp = none := hs
      subst hsp
      refine ⟨b, o, rfl, fun k s hk => ?_⟩
      rw [List.getElem?_map] at hk
      have hkl : k < len := by
        cases hr : (List.range len)[k]? with
        | none => rw [hr] at hk; cases hk
        | some q => have := (List.getElem?_eq_some_iff.1 hr).1; simpa using this
      have := (hx k (by omega)).1
      rw [List.getElem?_range hkl] at hk
      cases hk
      rw [add_at] at this; exact this
    · obtain ⟨i, hi, rfl⟩ := List.mem_map.1 hs
      exact (hx i (by have := List.mem_range.1 hi; omega)).2
theorem u8_cells : Tryz.prog.cellsOf 5 = 1 := by kernel_rfl
theorem author_cells : Tryz.prog.cellsOf 24 = 16 := by kernel_rfl
theorem strings_cells : Tryz.prog.cellsOf 25 = 1 := by kernel_rfl
theorem event_cells : Tryz.prog.cellsOf 27 = 20 := by kernel_rfl
theorem take_one {l : List Value} {i : Nat} {v : Value} (h : (l.drop i).take 1 = [v]) : l[i]? = some v := by
  have := congrArg (fun q => q[0]?) h
  simpa [List.getElem?_take, List.getElem?_drop] using this
theorem bytes_open {fuel : Nat} {cs : List Value} {x : DataW H × List MemPlace} (h : DataW.trod enc Tryz.prog w base spare held fuel 24 cs = some x) : ∃ l : List UInt8, l.length = 16 ∧ ∀ (j : Nat) b, l[j]? = some b → cs[j]? = some (.int .u8 (b.toNat : Int)) := by
  obtain ⟨xs, m, _, _, hlen, hxl, hel⟩ := DataW.trod_array Tryz.underlying24 h
  rw [author_cells] at hlen
  have each : ∀ i, i < 16 → ∃ b : UInt8, cs[i]? = some (.int .u8 (b.toNat : Int)) := fun i hi => by
    have h1 := hel i hi
    rw [u8_cells, Nat.mul_one, List.getElem?_eq_getElem (by omega)] at h1
    obtain ⟨n, h2, _, h3⟩ := DataW.trod_int Tryz.underlying5 h1
    have h4 := take_one h2
    have hr : 0 ≤ n ∧ n ≤ 255 := by
      have e1 : IntKind.u8.min = 0 := by decide
      have e2 : IntKind.u8.max = 255 := by decide
      simp [Lit.wf] at h3; omega
    refine ⟨UInt8.ofNat n.toNat, ?_⟩
    rw [h4]
    congr 2
    have : (UInt8.ofNat n.toNat).toNat = n.toNat := by rw [UInt8.toNat_ofNat']; omega
    rw [this]; omega
  obtain ⟨B, hB⟩ := choose_lt each
  refine ⟨(List.range 16).map B, by simp, fun j b hj => ?_⟩
  rw [List.getElem?_map] at hj
  have hjl : j < 16 := by
    cases hr : (List.range 16)[j]? with
    | none => rw [hr] at hj; cases hj
    | some q => have := (List.getElem?_eq_some_iff.1 hr).1; simpa using this
  rw [List.getElem?_range hjl] at hj
  cases hj
  exact hB j hjl
theorem ev_open {fuel : Nat} {cs : List Value} {x : DataW H × List MemPlace} (h : DataW.trod enc Tryz.prog w base spare held fuel 27 cs = some x) :
    ∃ e : EvC, e.cs = cs.toArray ∧ EvIs w e.cs e.ev e.ga e.gn e.gc e.sa e.sn e.sc := by
  obtain ⟨xs, n, _, _, hlen, hxl, hf⟩ := DataW.trod_struct Tryz.underlying27 h
  rw [event_cells] at hlen
  have hs : xs.length = 5 := hxl
  have g0 : DataW.trod enc Tryz.prog w base spare held n 3 ((cs.drop 0).take (Tryz.prog.cellsOf 3)) = xs[0]? := hf 0 _ rfl
  have g1 : DataW.trod enc Tryz.prog w base spare held n 24 ((cs.drop 1).take (Tryz.prog.cellsOf 24)) = xs[1]? := hf 1 _ rfl
  have g2 : DataW.trod enc Tryz.prog w base spare held n 25 ((cs.drop 17).take (Tryz.prog.cellsOf 25)) = xs[2]? := hf 2 _ rfl
  have g3 : DataW.trod enc Tryz.prog w base spare held n 25 ((cs.drop 18).take (Tryz.prog.cellsOf 25)) = xs[3]? := hf 3 _ rfl
  have g4 : DataW.trod enc Tryz.prog w base spare held n 3 ((cs.drop 19).take (Tryz.prog.cellsOf 3)) = xs[4]? := hf 4 _ rfl
  rw [List.getElem?_eq_getElem (by omega)] at g0 g1 g2 g3 g4
  rw [int_cells] at g0 g4
  rw [strings_cells] at g2 g3
  rw [author_cells] at g1
  obtain ⟨m, e0, _, _⟩ := DataW.trod_int Tryz.underlying3 g0
  obtain ⟨by_, e4, _, _⟩ := DataW.trod_int Tryz.underlying3 g4
  obtain ⟨au, a1, a2⟩ := bytes_open g1
  have one : ∀ i, i < 20 → ∃ v, (cs.drop i).take 1 = [v] := fun i hi => ⟨cs[i]'(by omega), by rw [List.drop_eq_getElem_cons (by omega)]; rfl⟩
  obtain ⟨v2, e2⟩ := one 17 (by omega)
  obtain ⟨v3, e3⟩ := one 18 (by omega)
  rw [e2] at g2
  rw [e3] at g3
  obtain ⟨ga, gn, gc, gs, rfl, hgs⟩ := strs_open g2
  obtain ⟨sa, sn, sc, ss, rfl, hss⟩ := strs_open g3
  refine ⟨⟨cs.toArray, ⟨m, au, gs, ss, by_⟩, ga, gn, gc, sa, sn, sc⟩, rfl, ⟨⟨?_, ?_, ?_, ?_, hgs, hss⟩, ?_, a1, by simp [hlen]⟩⟩
  · rw [List.getElem?_toArray]; exact take_one e0
  · rw [List.getElem?_toArray]; exact take_one e2
  · rw [List.getElem?_toArray]; exact take_one e3
  · rw [List.getElem?_toArray]; exact take_one e4
  · intro j b hj
    have := a2 j b hj
    rw [List.getElem?_toArray]
    have hj16 : j < 16 := by rw [← a1]; exact (List.getElem?_eq_some_iff.1 hj).1
    rw [List.getElem?_take, if_pos hj16, List.getElem?_drop] at this
    exact this
theorem evs_open {fuel : Nat} {v : Value} {x : DataW H × List MemPlace} (h : DataW.trod enc Tryz.prog w base spare held fuel 22 [v] = some x) : ∃ a n c l, v = .slice a n c ∧ EvsAt w a n c l := by
  rcases open_slice Tryz.underlying22 h with ⟨h0, _⟩ | ⟨a, len, cap, m, q, D, Pl, h0, hb, hl, hm, hmm, _, hx⟩
  · cases h0
    exact ⟨none, 0, 0, [], rfl, rfl, Nat.le_refl _, by omega, fun h => by omega, fun x hx => by cases hx⟩
  · cases h0
    have hlm : len ≤ m := by rw [hmm]; split <;> omega
    rw [event_cells] at hx
    have each : ∀ i, i < len → ∃ e : EvC, (∀ (j : Nat) u, e.cs[j]? = some u → w.cell? ((a.add (i * 20)).add j) = some u) ∧ EvIs w e.cs e.ev e.ga e.gn e.gc e.sa e.sn e.sc := fun i hi => by
      obtain ⟨cs', hc, ht⟩ := hx i (by omega)
      obtain ⟨e, he, hev⟩ := ev_open ht
      obtain ⟨_, hcl, hat⟩ := World.cells?_some hc
      refine ⟨e, fun j u hu => ?_, hev⟩
      rw [he, List.getElem?_toArray] at hu
      have hj : j < 20 := by rw [← hcl]; exact (List.getElem?_eq_some_iff.1 hu).1
      rw [hat j hj]; exact hu
    have hex : (∃ E : Nat → EvC, ∀ i, i < len → (∀ (j : Nat) u, (E i).cs[j]? = some u → w.cell? ((a.add (i * 20)).add j) = some u) ∧ EvIs w (E i).cs (E i).ev (E i).ga (E i).gn (E i).gc (E i).sa (E i).sn (E i).sc) := by
      refine ⟨fun i => if h : i < len then Classical.choose (each i h) else ⟨#[], ⟨0, [], [], [], 0⟩, none, 0, 0, none, 0, 0⟩, fun i hi => ?_⟩
      simp only [dif_pos hi]
      exact Classical.choose_spec (each i hi)
    obtain ⟨E, hE⟩ := hex
    have mem : ∀ i e, ((List.range len).map E)[i]? = some e → i < len ∧ e = E i := fun i e hk => by
      rw [List.getElem?_map] at hk
      have hkl : i < len := by
        cases hr : (List.range len)[i]? with
        | none => rw [hr] at hk; cases hk
        | some q => have := (List.getElem?_eq_some_iff.1 hr).1; simpa using this
      rw [List.getElem?_range hkl] at hk
      cases hk
      exact ⟨hkl, rfl⟩
    refine ⟨some a, len, cap, (List.range len).map E, rfl, by simp, hl, by simp only [maxLen] at hm; omega, fun hn => ?_, fun e he => ?_⟩
    · have h00 := (hE 0 hn).1 0 _ (hE 0 hn).2.at_.c0
      rw [Nat.zero_mul, add_zero', add_zero'] at h00
      have hs := spot_none h00
      obtain ⟨b, o, sp⟩ := a
      have hsp : sp = none := hs
      subst hsp
      refine ⟨b, o, rfl, fun i e hk j u hu => ?_⟩
      obtain ⟨hi, rfl⟩ := mem i e hk
      have := (hE i hi).1 j u hu
      rw [add_at, add_at] at this; exact this
    · obtain ⟨i, hi, rfl⟩ := List.mem_map.1 he
      exact (hE i (List.mem_range.1 hi)).2
end Go.Proofs.YticcfbeocepnpaaGreatDoor
set_option maxRecDepth 100000
namespace Go.Proofs.YticcfbeocepnpaaGreatDoor
open Go.ChangeShapes Go.WideShapes Go.ChangeAt Go.RowKit

theorem row_own : ownKnob Tryz.prog.godebug = none := by kernel_rfl
theorem mlen_of_shape {w : World} (h : w.ShapedOpen Tryz.prog) : MLen w :=
  Go.Proofs.cell_of_shapedOpen_int (zero := #[.int .i64 0]) (t := 3) h (of_decide_eq_true (by kernel_rfl)) (by kernel_rfl) rfl (by kernel_rfl) (by kernel_rfl) Tryz.underlying3
/-- A world that meets the condition: the door's own, Go's table laid. -/
noncomputable def laidWorld (os : Os) : World :=
  let w0 := World.doorLaid Tryz.prog 400 os
  { w0 with heap := w0.heap.modify 4 fun
      | .cells _ t frozen => .cells (Go.Pinned.utf8FirstZ.map fun (n : Nat) => Value.int .u8 (n : Int)).toArray t frozen
      | o => o }
theorem world_shaped (os : Os) (args : Array Value) : ((laidWorld os).forCall (fun _ _ => 0) ⟨#[], args, []⟩).Shaped Tryz.prog := World.shaped_of_RefB (by kernel_rfl) (by kernel_rfl)
/-- The list of three of the rows. -/
theorem world_met (os : Os) (args : Array Value) : laidMetH Tryz.prog Rows.statsForgetRow.laid ((laidWorld os).forCall (fun _ _ => 0) ⟨#[], args, []⟩).memory :=
  laidMetH_of_parts3 (fuel := 8) (laidMet_of_run' 8 (by kernel_rfl) (by kernel_rfl)) (by kernel_rfl) (by kernel_rfl)
theorem tab_of_laid {w : World} (h : laidMetH Tryz.prog Rows.statsForgetRow.laid w.memory) : Tab10 w := by
  have h1 : laidMet Tryz.prog Rows.statsForgetRow.laid w.memory := by
    unfold laidMetH at h
    rw [show (Rows.statsForgetRow.laid.filter fun x => x.2.handleName?.isSome) = [] by kernel_rfl] at h
    exact h
  have h2 : laidMet Tryz.prog (("internal/strconv.uint64pow10", Lib.tabData .u64 Lib.pow10Tab) :: Rows.statsForgetRow.laid.drop 3) w.memory := laidMet.tail (laidMet.tail h1)
  have h3 : Lib.TabIs Tryz.prog w.memory "internal/strconv.uint64pow10" .u64 Lib.pow10Tab := Lib.tabIs_of_head (g := 1) (t := 173) (e := 125) (n := 20) tab10_global (by kernel_rfl) Tryz.underlying173 Tryz.underlying125 (by kernel_rfl) (by kernel_rfl) h2
  exact h3
theorem row_laidOut : laidOutB Tryz.prog = true := by kernel_rfl

/-- A condition on the world beside the reading, handed on, and the world's shape. -/
theorem returns_and_shaped2 {H : Type} {enc : TypeId × Value → H} {a : Assume} {C : Checked} {os : Os} {f : FuncId} {fn : Func} {s : ChangeSpec} {conds : List PathCond} {apart fresh handsOn again : Bool} {X : World → Prop}
    (own : ownKnob C.prog.godebug = none) (started : os.Started) (noInit : C.prog.inits.idxOf? f = none) (hfn : C.prog.funcs[f]? = some fn)
    (witness : ∃ (w : World) (tape : Tape) (i : Input), w.os = os ∧ (w.forCall tape i).Shaped C.prog ∧ i.vars = [] ∧ Input.okWide C.prog (w.forCall tape i) .any w.heap.size f i ∧
      ((s.pre enc C.prog fn conds apart (w.forCall tape i).memory i.args ∧ X (w.forCall tape i).memory) ∧ sizedMet enc C.prog fn (OpenSpec.ofChange s) apart (w.forCall tape i).memory i.args) ∧ a.holds C.prog (lone (Frame.enter C.prog f i.args .normal) [] (w.forCall tape i)))
    (contract : ∀ (W : World) (base : Nat) (args : Array Value) (ds gs : List (DataW H)) (before : List MemPlace),
      (∀ (j : Nat) t v, fn.params[j]? = some t → args[j]? = some v → Value.okWide C.prog W .any base t v) →
      DataW.Whole enc C.prog fn.params.toList s.vars apart W args.toList ds gs before →
      X W.memory →
      W.ShapedOpen C.prog →
      Calls C.prog f args W fun e W' => ∃ v, e = .returned v ∧ s.post enc C.prog fn apart fresh handsOn again W args v W') :
    ReturnsInHanded a C os f .any (fun w args => (s.pre enc C.prog fn conds apart w args ∧ X w) ∧ sizedMet enc C.prog fn (OpenSpec.ofChange s) apart w args) (s.post enc C.prog fn apart fresh handsOn again) := by
  refine returnsInHanded_of_calls own started noInit witness ?_
  intro w tape i _ hsh _ hok hpre _
  obtain ⟨_, _, _, fn', hfn', _, _, _, _, hval⟩ := hok
  obtain rfl : fn' = fn := Option.some.inj (hfn'.symm.trans hfn)
  obtain ⟨⟨⟨ds, gs, before, hw, _⟩, hx⟩, hz⟩ := hpre
  refine (contract (w.forCall tape i) w.heap.size i.args ds gs before hval (DataW.Whole.of_heap (w' := w.forCall tape i) (by rfl) hw) hx hsh).mono fun e W' ⟨v, he, hp⟩ => ?_
  subst he
  exact ChangeSpec.post_blind hp
end Go.Proofs.YticcfbeocepnpaaGreatDoor
