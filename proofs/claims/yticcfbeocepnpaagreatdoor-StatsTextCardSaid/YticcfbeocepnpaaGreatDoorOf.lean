/-
  The model's `of`.
-/
import Derived.Test.YticcfbeocepnpaaGreatDoorProg
import Derived.Test.YticcfbeocepnpaaGreatDoorHas
set_option linter.unusedSimpArgs false
set_option maxRecDepth 100000
namespace Go.Proofs.YticcfbeocepnpaaGreatDoor
open Go.RowKit Pl

/-- Cells of a block, read whole. -/
theorem run_loadVar_cells {P : Program} (w : World) (g off : Nat) (ty : TypeId) (d : TypeDesc) (xs : Array Value)
    (hx : ∀ (j : Nat) v, xs[j]? = some v → w.cell? ⟨g, off + j, none⟩ = some v)
    (hu : P.underlying ty = some d) (hd : (match d with | .struct _ | .array _ _ => true | _ => false) = true) (hi : (P.info? ty).map (·.size) = some xs.size) :
    (loadVar ty ⟨g, off, none⟩).run P w = .ok (.agg xs) w := by
  have hl : (loadCells ⟨g, off, none⟩ xs.toList.length).run P w = .ok xs.toList.toArray w :=
    run_loadCells_list (P := P) w ⟨g, off, none⟩ xs.toList (fun j v hv => by
      have hadd : (⟨g, off, none⟩ : Addr).add j = ⟨g, off + j, none⟩ := by unfold Addr.add; split <;> simp_all
      rw [hadd]
      exact hx j v (by simpa using hv))
  cases hq : P.info? ty with
  | none => simp [hq] at hi
  | some i =>
    have hs : i.size = xs.size := by simpa [hq] using hi
    have hagg : (isAgg ty).run P w = .ok true w := by
      unfold isAgg
      rw [Sem.run_bind, run_underlying hu w]
      cases d <;> simp_all
    simp only [Array.length_toList, Array.toArray_toList] at hl
    simp [loadVar, Sem.run_bind, hagg, sizeOf, typeInfo, hq, hs, hl]
theorem wp_load_cells {P : Program} {o : Oper} {a : Act} {w : World} {K : Act → World → Prop} {Q : Exit → Act → World → Prop} (ty : TypeId) (x : Operand) (ho : o.op = .load ty x)
    (g off : Nat) (hx : a.eval x = .pointer (some ⟨g, off, none⟩)) (d : TypeDesc) (xs : Array Value)
    (hxs : ∀ (j : Nat) v, xs[j]? = some v → w.cell? ⟨g, off + j, none⟩ = some v)
    (hu : P.underlying ty = some d) (hd : (match d with | .struct _ | .array _ _ => true | _ => false) = true) (hi : (P.info? ty).map (·.size) = some xs.size)
    (h : K (a.put o.dst (.agg xs)) w) : o.wp P a w K Q := by
  unfold Oper.wp execOp
  simp only [ho, hx, Instr.loadAt, Instr.sureAddr, Sem.run_bind, Sem.run_pure, Result.andThen_ok, run_loadVar_cells w g off ty d xs hxs hu hd hi]
  exact h
theorem wpList_load_cells {P : Program} {ops : Array Oper} {rest : List Oper} {o : Oper} {a : Act} {w : World} {Q : Exit → Act → World → Prop} (hgd : o.guard = none) (ty : TypeId) (x : Operand) (ho : o.op = .load ty x)
    (g off : Nat) (hx : a.eval x = .pointer (some ⟨g, off, none⟩)) (d : TypeDesc) (xs : Array Value)
    (hxs : ∀ (j : Nat) v, xs[j]? = some v → w.cell? ⟨g, off + j, none⟩ = some v)
    (hu : P.underlying ty = some d) (hd : (match d with | .struct _ | .array _ _ => true | _ => false) = true) (hi : (P.info? ty).map (·.size) = some xs.size)
    (h : wpList P ops Q rest (a.put o.dst (.agg xs)) w) : wpList P ops Q (o :: rest) a w :=
  wpList_plain hgd fun _ hK => wp_load_cells ty x ho g off hx d xs hxs hu hd hi (hK _ _ h)

theorem wpList_load_cells_g {P : Program} {ops : Array Oper} {rest : List Oper} {o : Oper} {a : Act} {w : World} {Q : Exit → Act → World → Prop} {j dj : Nat} {oj : Oper} {s : Bool} (hg : o.guard = some (j, s)) (ty : TypeId) (x : Operand) (ho : o.op = .load ty x)
    (hoj : ops[j]? = some oj) (hdj : oj.dst = some dj) (hv : a.tmps[dj]? = some (.bool s))
    (g off : Nat) (hx : a.eval x = .pointer (some ⟨g, off, none⟩)) (d : TypeDesc) (xs : Array Value)
    (hxs : ∀ (j : Nat) v, xs[j]? = some v → w.cell? ⟨g, off + j, none⟩ = some v)
    (hu : P.underlying ty = some d) (hd : (match d with | .struct _ | .array _ _ => true | _ => false) = true) (hi : (P.info? ty).map (·.size) = some xs.size)
    (h : wpList P ops Q rest (a.put o.dst (.agg xs)) w) : wpList P ops Q (o :: rest) a w := by
  have hy : yielded ops a.tmps j = some s := by simp [yielded, hoj, hdj, hv]
  exact mg_step (by cases s <;> simp [Region.wanted, hg, hy]) (by unfold execOp; simp only [ho, hx, Instr.loadAt, Instr.sureAddr, Sem.run_bind, Sem.run_pure, Result.andThen_ok, run_loadVar_cells w g off ty d xs hxs hu hd hi]) h

/-- Does an event count? -/
def ofOne (kind : Int) (name : ByteArray) (fro til : Int) (ev : Ev) : Bool := (decide (fro ≤ ev.day) && decide (ev.day ≤ til)) && (decide (name = ⟨#[]⟩) || hasB ev kind name)
def ofL (kind : Int) (name : ByteArray) (fro til : Int) : List Ev → Ct
  | [] => (0, 0)
  | e :: r => if ofOne kind name fro til e = true then (1 + (ofL kind name fro til r).1, e.by_ + (ofL kind name fro til r).2) else ofL kind name fro til r
theorem ofL_snoc (kind : Int) (name : ByteArray) (fro til : Int) (e : Ev) : ∀ (l : List Ev), ofL kind name fro til (l ++ [e]) = if ofOne kind name fro til e = true then ((ofL kind name fro til l).1 + 1, (ofL kind name fro til l).2 + e.by_) else ofL kind name fro til l
  | [] => by simp only [List.nil_append, ofL]; split <;> simp
  | x :: r => by
    simp only [List.cons_append, ofL, ofL_snoc kind name fro til e r]
    split <;> split <;> simp <;> omega
theorem ofL_range (kind : Int) (name : ByteArray) (fro til : Int) : ∀ (l : List Ev), (∀ e ∈ l, 0 ≤ e.by_ ∧ e.by_ ≤ 65536) → 0 ≤ (ofL kind name fro til l).1 ∧ (ofL kind name fro til l).1 ≤ l.length ∧ 0 ≤ (ofL kind name fro til l).2 ∧ (ofL kind name fro til l).2 ≤ 65536 * l.length
  | [], _ => by simp [ofL]
  | x :: r, h => by
    have h1 := ofL_range kind name fro til r (fun e he => h e (by simp [he]))
    have h2 := h x (by simp)
    simp only [ofL, List.length_cons]
    split <;> simp <;> omega

set_option maxHeartbeats 4000000 in
theorem of52_any (kind : Int) (name : ByteArray) (fro til : Int) (a : Option Addr) (n c : Nat) (l : List EvC) (w : World) (h : EvsAt w a n c l) (hok : ∀ e ∈ l, e.ev.err = 0) (hn : n ≤ 1000) :
    Calls Tryz.prog 12 #[.slice a n c, .int .i64 kind, .string name, .int .i64 fro, .int .i64 til] w fun e w' => e = .returned (cntV (ofL kind name fro til (l.map (·.ev)))) ∧ Below w.heap.size w w' := by
  have HE := hide h
  have HOK := hide hok
  have hr := h.room
  have hc := h.capm
  have hl := h.len
  clear h hok
  go_enter Tryz.func12, Tryz.ntmps12
  go_wp2_with fail
  go_loopw [12] (fun i wr => ∃ k : Nat, k ≤ n ∧ i = .int .i64 k ∧ Below w.heap.size w wr ∧ wr.heap[w.heap.size]? = some (.cells #[.int .i64 0, .int .i64 0] 34 (0, 0)) ∧
    wr.heap[w.heap.size + 1]? = some (.cells #[.int .i64 (ofL kind name fro til ((l.take k).map (·.ev))).1, .int .i64 (ofL kind name fro til ((l.take k).map (·.ev))).2] 34 (0, 0))) (fun i _ => n - (intOf i).toNat)
  case atStart => exact ⟨0, by omega, rfl, by (repeat (first | exact Below.refl _ _ | with_reducible assumption | (refine Below.setCell ?_ (by simp <;> omega) _) | (refine Below.alloc ?_ (by simp <;> omega) _))), heap_alloc2_old _ _ _, heap_alloc2_new _ _ _⟩
  case round =>
    obtain ⟨k, hk, rfl, hb, hr0, hr1⟩ := hrel
    have HB := hide hb
    have HR0 := hide hr0
    have HR1 := hide hr1
    have hz := (Array.getElem?_eq_some_iff.1 hr1).1
    clear hb hr0 hr1
    by_cases hlt : k < n
    · obtain ⟨b, o, ⟨cs, ev, ga, gn, gc, sa, sn, sc⟩, ha, he, hev, hcells⟩ := HE.out.at hlt
      simp only at hev hcells
      have hbw := block_lt_of_cell (hcells 19 _ hev.at_.c19)
      simp only at hbw
      have hev := EvAt.ofBelow hev HB.out
      have hcells : ∀ (j : Nat) v, cs[j]? = some v → wr.cell? ⟨b, o + k * 20 + j, none⟩ = some v := fun j v hv => (HB.out.cell (block_lt_of_cell (hcells j v hv))).trans (hcells j v hv)
      subst ha
      have hm := HOK.out _ (List.mem_of_getElem? he)
      simp only at hm
      obtain ⟨hm1, hm2⟩ := evErr_range hm
      have hby := evErr_bytes hm
      have HEV := hide hev
      have HGET := hide he
      have HC : Hid (∀ w', Below wr.heap.size wr w' → ∀ (j : Nat) v, cs[j]? = some v → w'.cell? ⟨b, o + k * 20 + j, none⟩ = some v) := hide fun w' hb j v hv => (hb.cell (block_lt_of_cell (hcells j v hv))).trans (hcells j v hv)
      have HI : Hid ((Tryz.prog.info? 27).map (·.size) = some cs.size) := hide (by rw [hev.len]; rfl)
      have hm0 := hev.at_.c0
      have c19 := hev.at_.c19
      have HEVB : Hid (∀ w', Below wr.heap.size wr w' → EvIs w' cs ev ga gn gc sa sn sc) := hide fun w' hb => EvAt.ofBelow HEV.out hb
      obtain ⟨v, hv⟩ : ∃ v, hasB ev kind name = v := ⟨_, rfl⟩
      have HH : Hid (∀ w', Below wr.heap.size wr w' → Calls Tryz.prog 35 #[.agg cs, .int .i64 kind, .string name] w' fun e w'' => e = .returned (.bool v) ∧ Below w'.heap.size w' w'') := hide fun w' hb => by
        have := has_any cs ev ga gn gc sa sn sc kind name w' (HEVB.out w' hb)
        rw [hv] at this; exact this
      have HD : Hid (∀ w', Below wr.heap.size wr w' → Calls Tryz.prog 34 #[.agg cs] w' fun e w'' => e = .returned (.int .i64 (ev.m / 1440)) ∧ Below w'.heap.size w' w'') := hide fun w' _ =>
        (day_any cs ev.m w' hm0 hm1 hm2).mono (by rintro e w'' ⟨rfl, rfl⟩; exact ⟨rfl, (Below.refl _ _).alloc (Nat.le_refl _) _⟩)
      have HV := hide hv
      have HTK : Hid ((l.take (k + 1)).map (·.ev) = (l.take k).map (·.ev) ++ [ev]) := hide (by rw [List.take_add_one, HGET.out]; simp)
      obtain ⟨A, hA⟩ : ∃ A, (ofL kind name fro til ((l.take k).map (·.ev))).1 = A := ⟨_, rfl⟩
      obtain ⟨B, hB⟩ : ∃ B, (ofL kind name fro til ((l.take k).map (·.ev))).2 = B := ⟨_, rfl⟩
      have hAB := ofL_range kind name fro til ((l.take k).map (·.ev)) (by
        intro x hx
        obtain ⟨y, hy, rfl⟩ := List.mem_map.1 hx
        exact evErr_bytes (HOK.out y (List.mem_of_mem_take hy)))
      rw [hA, hB] at HR1 hAB
      have hlen : (((l.take k).map (·.ev)).length : Int) ≤ 1000 := by simp; omega
      obtain ⟨hA1, hA2, hB1, hB2⟩ := hAB
      have hA3 : A ≤ 1000 := by omega
      have hB3 : B ≤ 65536000 := by omega
      have HA := hide hA
      have HBB := hide hB
      clear hA hB hA2 hB2 hlen hv
      obtain ⟨hby1, hby2⟩ := hby
      clear hcells hev he hm
      go_wp2_with (first
        | (refine wpList_load_cells rfl 27 _ rfl b (o + k * 20) rfl _ cs (HC.out _ (Below.refl _ _)) Tryz.underlying27 rfl HI.out ?_)
        | (refine wpList_load_cells_g rfl 27 _ rfl rfl rfl rfl b (o + k * 20) rfl _ cs (HC.out _ (Below.refl _ _)) Tryz.underlying27 rfl HI.out ?_))
      refine (HD.out wr (Below.refl _ _)).mono ?_
      rintro e w4 ⟨rfl, hb4⟩
      have HB4 := hide hb4
      clear hb4
      by_cases hf : fro ≤ ev.m / 1440
      · go_wp2_with (first
          | (refine wpList_load_cells rfl 27 _ rfl b (o + k * 20) rfl _ cs (HC.out _ HB4.out) Tryz.underlying27 rfl HI.out ?_)
          | (refine wpList_load_cells_g rfl 27 _ rfl rfl rfl rfl b (o + k * 20) rfl _ cs (HC.out _ HB4.out) Tryz.underlying27 rfl HI.out ?_))
        refine (HD.out w4 HB4.out).mono ?_
        rintro e w5 ⟨rfl, hb5⟩
        have HB5 := hide (HB4.out.trans (hb5.mono HB4.out.size))
        clear hb5
        by_cases ht : ev.m / 1440 ≤ til
        · have HFT : Hid ((decide (fro ≤ ev.day) && decide (ev.day ≤ til)) = true) := hide (by simp [Ev.day, hf, ht])
          by_cases hname : name.size = 0
          · have he := empty_of_size hname
            have HONE : Hid (ofOne kind name fro til ev = true) := hide (by simp [ofOne, HFT.out, he])
            have hne : name.toList.isEmpty = true := by rw [he, ByteArray.toList_eq]; rfl
            clear he hname
            have ho6 := (HB5.out.block (w.heap.size + 1) hz).trans HR1.out
            have c1 := two0 ho6
            have c2 := two1 ho6
            obtain ⟨c3, c4⟩ := two_frozen ho6
            have c5 := HC.out _ HB5.out 19 _ c19
            have HO6 := hide ho6
            have hz6 := HB5.out.size
            clear ho6
            have hwB : IntKind.i64.wrap (B + ev.by_) = B + ev.by_ := IntWalk.i64_in _ (by omega)
            go_wp2_with fail
            go_region
            all_goals
              go_wp2_with fail
              go_roundw
              case rel =>
                refine ⟨k + 1, by omega, by go_num, ?_, ?_, ?_⟩
                · have hq : Below w.heap.size w w5 := HB.out.trans (HB5.out.mono HB.out.size)
                  exact (Below.setCell (p := ⟨w.heap.size + 1, 1, none⟩) (Below.setCell (p := ⟨w.heap.size + 1, 0, none⟩) hq (by simp) _) (by simp) _).drew
                · have e1 := (HB5.out.block w.heap.size (by omega)).trans HR0.out
                  rw [← e1]
                  exact (heap_setCell_other _ _ _ _ (by simp)).trans (heap_setCell_other _ _ _ _ (by simp))
                · refine (set_two HO6.out).trans ?_
                  rw [HTK.out, ofL_snoc, if_pos HONE.out, HA.out, HBB.out]
              case measure => simp [intOf]; omega
          · have HNE : Hid (decide (name = ⟨#[]⟩) = false) := hide (by simp; rintro rfl; exact hname rfl)
            have hne := eql_empty hname
            clear hname
            go_wp2_with (first
              | (refine wpList_load_cells rfl 27 _ rfl b (o + k * 20) rfl _ cs (HC.out _ HB5.out) Tryz.underlying27 rfl HI.out ?_)
              | (refine wpList_load_cells_g rfl 27 _ rfl rfl rfl rfl b (o + k * 20) rfl _ cs (HC.out _ HB5.out) Tryz.underlying27 rfl HI.out ?_))
            refine (HH.out w5 HB5.out).mono ?_
            rintro e w7 ⟨rfl, hb7⟩
            have HB7 := hide (HB5.out.trans (hb7.mono HB5.out.size))
            clear hb7
            cases v
            · have HONE : Hid (¬ ofOne kind name fro til ev = true) := hide (by simp [ofOne, HFT.out, HNE.out, HV.out])
              go_wp2_with fail
              go_roundw
              case rel =>
                refine ⟨k + 1, by omega, by go_num, HB.out.trans (HB7.out.mono HB.out.size), (HB7.out.block w.heap.size (by omega)).trans HR0.out, (HB7.out.block (w.heap.size + 1) hz).trans ?_⟩
                rw [HR1.out, HTK.out, ofL_snoc, if_neg HONE.out, HA.out, HBB.out]
              case measure => simp [intOf]; omega
            · have HONE : Hid (ofOne kind name fro til ev = true) := hide (by simp [ofOne, HFT.out, HNE.out, HV.out])
              have ho6 := (HB7.out.block (w.heap.size + 1) hz).trans HR1.out
              have c1 := two0 ho6
              have c2 := two1 ho6
              obtain ⟨c3, c4⟩ := two_frozen ho6
              have c5 := HC.out _ HB7.out 19 _ c19
              have HO6 := hide ho6
              have hz6 := HB7.out.size
              clear ho6
              have hwB : IntKind.i64.wrap (B + ev.by_) = B + ev.by_ := IntWalk.i64_in _ (by omega)
              go_wp2_with fail
              go_region
              all_goals
                go_wp2_with fail
                go_roundw
                case rel =>
                  refine ⟨k + 1, by omega, by go_num, ?_, ?_, ?_⟩
                  · have hq : Below w.heap.size w w7 := HB.out.trans (HB7.out.mono HB.out.size)
                    exact (Below.setCell (p := ⟨w.heap.size + 1, 1, none⟩) (Below.setCell (p := ⟨w.heap.size + 1, 0, none⟩) hq (by simp) _) (by simp) _).drew
                  · have e1 := (HB7.out.block w.heap.size (by omega)).trans HR0.out
                    rw [← e1]
                    exact (heap_setCell_other _ _ _ _ (by simp)).trans (heap_setCell_other _ _ _ _ (by simp))
                  · refine (set_two HO6.out).trans ?_
                    rw [HTK.out, ofL_snoc, if_pos HONE.out, HA.out, HBB.out]
                case measure => simp [intOf]; omega
        · have HONE : Hid (¬ ofOne kind name fro til ev = true) := hide (by simp [ofOne, Ev.day, ht])
          go_wp2_with fail
          go_roundw
          case rel =>
            refine ⟨k + 1, by omega, by go_num, HB.out.trans (HB5.out.mono HB.out.size), (HB5.out.block w.heap.size (by omega)).trans HR0.out, (HB5.out.block (w.heap.size + 1) hz).trans ?_⟩
            rw [HR1.out, HTK.out, ofL_snoc, if_neg HONE.out, HA.out, HBB.out]
          case measure => simp [intOf]; omega
      · have HONE : Hid (¬ ofOne kind name fro til ev = true) := hide (by simp [ofOne, Ev.day, hf])
        go_wp2_with fail
        go_roundw
        case rel =>
          refine ⟨k + 1, by omega, by go_num, HB.out.trans (HB4.out.mono HB.out.size), (HB4.out.block w.heap.size (by omega)).trans HR0.out, (HB4.out.block (w.heap.size + 1) hz).trans ?_⟩
          rw [HR1.out, HTK.out, ofL_snoc, if_neg HONE.out, HA.out, HBB.out]
        case measure => simp [intOf]; omega
    · obtain rfl : k = n := by omega
      have hgt : l.take k = l := List.take_of_length_le (by omega)
      rw [hgt] at HR1
      have c1 := two0 HR1.out
      have c2 := two1 HR1.out
      have d1 := two0 HR0.out
      have d2 := two1 HR0.out
      obtain ⟨d3, d4⟩ := two_frozen HR0.out
      clear hgt
      go_wp2_with fail
      (try simp only [Exit.inBlock, Exit.then])
      refine bodyPost_ret (results_cell_row rfl _ _ w.heap.size 34 _ (0, 0) _ rfl (set_two HR0.out) Tryz.underlying34 rfl rfl) rfl ?_
      refine ⟨rfl, ?_⟩
      have HB2 := HB.out
      (repeat (first | exact Below.refl _ _ | with_reducible assumption | (refine Below.setCell ?_ (by simp <;> omega) _) | (refine Below.alloc ?_ (by simp <;> omega) _)))
end Go.Proofs.YticcfbeocepnpaaGreatDoor
