/-
  StatsAdd: the walk.
-/
import Derived.Test.YticcfbeocepnpaaGreatDoorArr
import Derived.Test.YticcfbeocepnpaaGreatDoorLawAdd
import Derived.Deep.RegionHeld3
import Derived.Deep.DeepCutAuto
import Derived.Deep.CutRange
set_option linter.unusedSimpArgs false
set_option maxRecDepth 100000
namespace Go.Proofs.YticcfbeocepnpaaGreatDoor
open Go.RowKit Go.Shelf Pl

theorem cellsOf_inv : ∀ {l : List EvC}, (∀ e ∈ l, e.cs.size = 20) → ∀ {j : Nat} {u : Value}, (cellsOf l)[j]? = some u → ∃ e, l[j / 20]? = some e ∧ e.cs[j % 20]? = some u
  | [], _, j, u, h => by simp [cellsOf] at h
  | x :: r, hl, j, u, h => by
    have hx := hl x (by simp)
    unfold cellsOf at h
    rw [List.flatMap_cons, List.getElem?_append, Array.length_toList, hx] at h
    by_cases hj : j < 20
    · rw [if_pos hj, Array.getElem?_toList] at h
      rw [Nat.div_eq_of_lt hj, Nat.mod_eq_of_lt hj]
      exact ⟨x, rfl, h⟩
    · rw [if_neg hj] at h
      obtain ⟨e, h1, h2⟩ := cellsOf_inv (fun e he => hl e (by simp [he])) (show (cellsOf r)[j - 20]? = some u from h)
      refine ⟨e, ?_, ?_⟩
      · rw [show j / 20 = (j - 20) / 20 + 1 by omega, List.getElem?_cons_succ]; exact h1
      · rw [show j % 20 = (j - 20) % 20 by omega]; exact h2
theorem cellsOf_length : ∀ {l : List EvC}, (∀ e ∈ l, e.cs.size = 20) → (cellsOf l).length = l.length * 20
  | [], _ => rfl
  | x :: r, hl => by
    have := cellsOf_length (fun e he => hl e (by simp [he]) : ∀ e ∈ r, e.cs.size = 20)
    unfold cellsOf at this ⊢
    rw [List.flatMap_cons, List.length_append, this, Array.length_toList, hl x (by simp), List.length_cons]; omega
theorem srcIs_evs {w : World} {a : Option Addr} {n c : Nat} {l : List EvC} (h : EvsAt w a n c l) : SrcIs w 20 a n (cellsOf l) := by
  have h20 : ∀ e ∈ l, e.cs.size = 20 := fun e he => (h.evs e he).len
  refine ⟨by rw [cellsOf_length h20, h.len], fun hn => ?_⟩
  obtain ⟨b, o, ha, hc⟩ := h.cells hn
  refine ⟨_, ha, fun j u hu => ?_⟩
  obtain ⟨e, h1, h2⟩ := cellsOf_inv h20 hu
  have := hc _ e h1 _ u h2
  rw [Addr.add_lit, show o + j = o + j / 20 * 20 + j % 20 by omega]
  exact this
theorem cellsOf_one {w : World} {l : List EvC} (h : ∀ e ∈ l, EvIs w e.cs e.ev e.ga e.gn e.gc e.sa e.sn e.sc) : ∀ u ∈ cellsOf l, u.oneCell' = true := by
  intro u hu
  obtain ⟨e, he, hu⟩ := List.mem_flatMap.1 hu
  exact (h e he).one u hu
theorem srcIs_blk (w : World) (cs : Array Value) (t : TypeId) (h : cs.size = 20) : SrcIs (w.alloc (.cells cs t)) 20 (some ⟨w.heap.size, 0, none⟩) 1 cs.toList :=
  ⟨by rw [Array.length_toList, h], fun _ => ⟨_, rfl, cells_new w cs t⟩⟩
/-- A slice of the one event. -/
theorem evsAt_one {w : World} {g : Nat} {e : EvC} (h : EvIs w e.cs e.ev e.ga e.gn e.gc e.sa e.sn e.sc) (hb : w.heap[g]? = some (.cells e.cs 27 (0, 0))) : EvsAt w (some ⟨g, 0, none⟩) 1 1 [e] := by
  refine ⟨rfl, Nat.le_refl _, by omega, fun _ => ⟨g, 0, rfl, fun i x hx j v hv => ?_⟩, fun x hx => by rw [List.mem_singleton.1 hx]; exact h⟩
  have hi : i = 0 := by
    have := (List.getElem?_eq_some_iff.1 hx).1
    simp at this; exact this
  subst hi
  simp at hx
  subst hx
  rw [show 0 + 0 * 20 + j = j by omega]
  exact (cell_of_row w g j _ _ _ hb).trans hv

theorem mg_stepW {P : Program} {ops : Array Oper} {rest : List Oper} {o : Oper} {a : Act} {w w' : World} {Q : Exit → Act → World → Prop} {v : Value} (hw : Region.wanted o (yielded ops a.tmps) = true) (hr : (execOp a.eval o).run P w = .ok (.value v) w')
    (h : wpList P ops Q rest (a.put o.dst v) w') : wpList P ops Q (o :: rest) a w := by
  unfold wpList
  rw [if_pos hw]
  left
  unfold Oper.wp
  rw [hr]
  exact h
theorem wpList_buildSlice_g {P : Program} {ops : Array Oper} {rest : List Oper} {o : Oper} {a : Act} {w : World} {Q : Exit → Act → World → Prop} {j dj : Nat} {oj : Oper} {s : Bool} (hg : o.guard = some (j, s)) (t e : TypeId) (len : Nat) (parts : Array (Nat × Operand)) (ho : o.op = .buildSlice t len parts)
    (hoj : ops[j]? = some oj) (hdj : oj.dst = some dj) (hv : a.tmps[dj]? = some (.bool s))
    (cells : Array Value) (ie : TypeInfo) (z : Value)
    (hu : P.underlying t = some (.slice e)) (hie : P.info? e = some ie) (hz : ie.zero = some z) (hsmall : ¬ len * ie.size > 2 ^ 24) (hpos : ¬ len * ie.size = 0)
    (hf : Instr.fill (fun i => some (i * ie.size, ie.size)) ((Array.range (len * ie.size)).map (z.cells[· % z.cells.size]!)) (parts.map fun (i, x) => (i, a.eval x)).toList = some cells)
    (h : wpList P ops Q rest (a.put o.dst (.slice (some ⟨w.heap.size, 0, none⟩) len len)) (w.alloc (.cells cells e))) : wpList P ops Q (o :: rest) a w := by
  have hy : yielded ops a.tmps j = some s := by simp [yielded, hoj, hdj, hv]
  exact mg_stepW (by cases s <;> simp [Region.wanted, hg, hy]) (by unfold execOp; simp only [ho, Sem.run_bind, run_buildSlice w t e len _ cells ie z hu hie hz hsmall hpos hf, Result.andThen_ok, Sem.run_pure]) h

theorem field_articles (v1 v2 : Int) (w : World) : (Instr.field 34 (.agg #[.int .i64 v1, .int .i64 v2]) 0).run Tryz.prog w = .ok (.int .i64 v1) w := by kernel_rfl
theorem exec_load_cells {P : Program} {o : Oper} {ρ : Operand → Value} {w : World} (ty : TypeId) (x : Operand) (ho : o.op = .load ty x)
    (g off : Nat) (hx : ρ x = .pointer (some ⟨g, off, none⟩)) (d : TypeDesc) (xs : Array Value)
    (hxs : ∀ (j : Nat) v, xs[j]? = some v → w.cell? ⟨g, off + j, none⟩ = some v)
    (hu : P.underlying ty = some d) (hd : (match d with | .struct _ | .array _ _ => true | _ => false) = true) (hi : (P.info? ty).map (·.size) = some xs.size) :
    (execOp ρ o).run P w = .ok (.value (.agg xs)) w := by
  unfold execOp
  simp only [ho, hx, Instr.loadAt, Instr.sureAddr, Sem.run_bind, Sem.run_pure, Result.andThen_ok, run_loadVar_cells w g off ty d xs hxs hu hd hi]
theorem run_buildSlice0 {P : Program} (w : World) (t e : TypeId) (ie : TypeInfo) (hu : P.underlying t = some (.slice e)) (hie : P.info? e = some ie) :
    (Instr.buildSlice t 0 #[]).run P w = .ok (.slice (some ⟨w.heap.size, 0, none⟩) 0 0) (w.alloc (.cells #[] e)) := by
  have h0 : Array.range 0 = #[] := by simp [Array.range]
  simp [Instr.buildSlice, run_underlying hu, sizeOf, typeInfo, hie, newRow, Instr.fill, h0]
theorem step_call1 {P : Program} {ops : Array Oper} {o : Oper} {a : Act} {w : World} {K : Act → World → Prop} {Q : Exit → Act → World → Prop} {E : Prop} (hgd : o.guard = none) (f : FuncId) (x : Operand) (ts : Array TypeId)
    (ho : o.op = .call { callee := .value (.func f), args := #[x], argTypes := ts }) (v : Value) (hx : a.eval x = v) (hf : ∀ args w, (callFunc f args).run P w = .ok (.enter f args) w)
    {R : Ending → World → Prop} (hc : Calls P f #[v] w R) (h : ∀ e w', R e w' → ∃ u, e = .returned u ∧ K (a.put o.dst u) w') : if Region.wanted o (yielded ops a.tmps) = true then Oper.wp P o a w K Q else E := by
  have hw : Region.wanted o (yielded ops a.tmps) = true := by simp [Region.wanted, hgd]
  rw [if_pos hw]
  have hrun : (execOp a.eval o).run P w = .ok (.enter f #[v]) w := by
    unfold execOp
    subst hx
    simp [ho, resolve, invoke, hf, go_sem]
  unfold Oper.wp
  rw [hrun, Oper.upon_enter]
  refine hc.mono fun e w' hr => ?_
  obtain ⟨u, rfl, hk⟩ := h e w' hr
  exact hk
theorem step_buildSlice0 {P : Program} {ops : Array Oper} {o : Oper} {a : Act} {w : World} {K : Act → World → Prop} {Q : Exit → Act → World → Prop} {E : Prop} (hgd : o.guard = none) (t e : TypeId) (ho : o.op = .buildSlice t 0 #[])
    (ie : TypeInfo) (hu : P.underlying t = some (.slice e)) (hie : P.info? e = some ie)
    (h : K (a.put o.dst (.slice (some ⟨w.heap.size, 0, none⟩) 0 0)) (w.alloc (.cells #[] e))) : if Region.wanted o (yielded ops a.tmps) = true then Oper.wp P o a w K Q else E := by
  have hw : Region.wanted o (yielded ops a.tmps) = true := by simp [Region.wanted, hgd]
  rw [if_pos hw]
  unfold Oper.wp execOp
  simp only [ho, Sem.run_bind, Array.map_empty, run_buildSlice0 w t e ie hu hie, Result.andThen_ok]
  exact h

/-- What stands behind build. -/
structure AddCut (w wx : World) (L : List EvC) (sb mb : Nat) (z : List Int) (oa : Option Addr) (on oc : Nat) : Prop where
  s : SAt wx sb mb (addEvs (evsOf L)) z
  fits : Fits (addEvs (evsOf L)) 11200
  evs : EvsAt wx oa on oc L
  below : Below w.heap.size w wx
  zq : z = zOf (evsOf L)

set_option maxHeartbeats 8000000 in
theorem statsAdd_any (a : Option Addr) (n c : Nat) (l : List EvC) (e : EvC) (w : World) (h : EvsAt w a n c l) (he : EvIs w e.cs e.ev e.ga e.gn e.gc e.sa e.sn e.sc) (hml : MLen w) :
    Calls Tryz.prog 3 #[.slice a n c, .agg e.cs] w fun en w' => en = .returned (.bool true) ∧ Below w.heap.size w w' := by
  obtain ⟨i0, hi0, iz0, iz1, iz2⟩ := info_parts Tryz.infoEv
  obtain ⟨cs, hcs⟩ : ∃ cs, e.cs = cs := ⟨_, rfl⟩
  rw [hcs] at he ⊢
  have HCS := hide hcs
  clear hcs
  have HSZ : Hid (cs.size = 20) := hide he.len
  have hb1 : Below w.heap.size w (w.alloc (.cells cs 27)) := (Below.refl _ _).alloc (Nat.le_refl _) _
  have hbx := heap_alloc_new w (.cells cs 27)
  obtain ⟨W, hW⟩ : ∃ W, w.alloc (.cells cs 27) = W := ⟨_, rfl⟩
  rw [hW] at hb1 hbx
  have HB1 := hide hb1
  have hszW : W.heap.size = w.heap.size + 1 := by rw [← hW]; simp
  have HSZW := hide hszW
  have HBX := hide hbx
  have HW := hide hW
  have HE := hide (h.below hb1)
  have HEV := hide (EvAt.ofBelow he hb1)
  have HML := hide (hml.below hb1)
  clear h he hml hb1 hbx hW hszW
  have HKN := hide (known_any W HML.out)
  go_enter Tryz.func3, Tryz.ntmps3
  go_wp2_with fail
  rw [HW.out]
  refine HKN.out.mono ?_
  rintro en w1 ⟨rfl, hb1⟩
  have HB2 := hide hb1
  have hsz2 := hb1.size
  clear hb1
  have HFW := hide (few_any a n c l w1 (HE.out.below HB2.out))
  have HKN1 := hide (known_any w1 (HML.out.below HB2.out))
  go_wp2_with fail
  refine HFW.out.mono ?_
  rintro en w1' ⟨b, rfl, hfew, rfl⟩
  have HFEW : Hid (b = true → fewOk l) := hide fun h => hfew (by first | exact h | trivial)
  clear hfew
  cases b
  · go_wp2_with fail
    refine HKN1.out.mono ?_
    rintro en w2 ⟨rfl, hb2⟩
    have HB3 := hide (HB1.out.trans ((HB2.out.trans (hb2.mono hsz2)).mono HB1.out.size))
    clear hb2
    go_wp2_with fail
    go_ret
    exact ⟨rfl, HB3.out⟩
  · have HFL : Hid (fewOk l) := hide (HFEW.out (by first | rfl | trivial))
    clear HFEW
    have hbx1 := (HB2.out.block w.heap.size (Array.getElem?_eq_some_iff.1 HBX.out).1).trans HBX.out
    have hcb : ∀ (j : Nat) v, cs[j]? = some v → w1.cell? ⟨w.heap.size, 0 + j, none⟩ = some v := fun j v hv => by
      rw [Nat.zero_add]; exact (cell_of_row w1 _ j _ _ _ hbx1).trans hv
    have HCB := hide hcb
    have HI : Hid ((Tryz.prog.info? 27).map (·.size) = some cs.size) := hide (by rw [HSZ.out]; rfl)
    have hb2 : Below w1.heap.size w1 (w1.alloc (.cells cs 27)) := (Below.refl _ _).alloc (Nat.le_refl _) _
    have hbk := heap_alloc_new w1 (.cells cs 27)
    obtain ⟨W2, hW2⟩ : ∃ W2, w1.alloc (.cells cs 27) = W2 := ⟨_, rfl⟩
    rw [hW2] at hb2 hbk
    have HB3 := hide (HB2.out.trans (hb2.mono hsz2))
    have hev1 : EvIs W2 e.cs e.ev e.ga e.gn e.gc e.sa e.sn e.sc := EvAt.ofBelow (by rw [HCS.out]; exact HEV.out) HB3.out
    have hev2 : EvsAt W2 (some ⟨w1.heap.size, 0, none⟩) 1 1 [e] := evsAt_one hev1 (by rw [HCS.out]; exact hbk)
    have HFW2 := hide (few_any _ 1 1 [e] W2 hev2)
    have HKN2 := hide (known_any W2 (HML.out.below HB3.out))
    have HW2 := hide hW2
    clear hbx1 hcb hb2 hbk hW2 hev1 hev2
    go_wp2_with (first
      | (refine wpList_load_cells_g rfl 27 _ rfl rfl rfl rfl w.heap.size 0 rfl _ cs HCB.out Tryz.underlying27 rfl HI.out ?_)
      | (refine wpList_buildSlice_g rfl 22 27 1 _ rfl rfl rfl rfl cs i0 zeroEv Tryz.underlying22 hi0 iz0 ?_ ?_ ?_ ?_; (· (rw [iz1]; decide)); (· (rw [iz1]; decide)); (· (rw [iz1, Array.toList_map]; exact fill_one (by simp) HSZ.out))))
    rw [HW2.out]
    refine HFW2.out.mono ?_
    rintro en w1' ⟨b, rfl, hfew, rfl⟩
    have HFEW : Hid (b = true → fewOk [e]) := hide fun h => hfew (by first | exact h | trivial)
    clear hfew
    cases b
    · go_wp2_with fail
      refine HKN2.out.mono ?_
      rintro en w2 ⟨rfl, hb2⟩
      have HB4 := hide (HB1.out.trans ((HB3.out.trans (hb2.mono HB3.out.size)).mono HB1.out.size))
      clear hb2
      go_wp2_with fail
      go_ret
      exact ⟨rfl, HB4.out⟩
    · have HFE : Hid (fewOk [e]) := hide (HFEW.out (by first | rfl | trivial))
      clear HFEW
      have hcl : ∃ x0 x1 x2 x3 x4 x5 x6 x7 x8 x9 x10 x11 x12 x13 x14 x15 x16 x17 x18 x19, cs = #[x0, x1, x2, x3, x4, x5, x6, x7, x8, x9, x10, x11, x12, x13, x14, x15, x16, x17, x18, x19] := by
        obtain ⟨q⟩ := cs
        have hq : q.length = 20 := HSZ.out
        match q, hq with
        | [x0, x1, x2, x3, x4, x5, x6, x7, x8, x9, x10, x11, x12, x13, x14, x15, x16, x17, x18, x19], _ => exact ⟨x0, x1, x2, x3, x4, x5, x6, x7, x8, x9, x10, x11, x12, x13, x14, x15, x16, x17, x18, x19, rfl⟩
      obtain ⟨x0, x1, x2, x3, x4, x5, x6, x7, x8, x9, x10, x11, x12, x13, x14, x15, x16, x17, x18, x19, rfl⟩ := hcl
      have HCELL : Hid (∀ w', Below W2.heap.size W2 w' → w'.cell? ⟨w.heap.size, 0, none⟩ = some x0 ∧ w'.cell? ⟨w.heap.size, 1, none⟩ = some x1 ∧ w'.cell? ⟨w.heap.size, 2, none⟩ = some x2 ∧ w'.cell? ⟨w.heap.size, 3, none⟩ = some x3 ∧ w'.cell? ⟨w.heap.size, 4, none⟩ = some x4 ∧ w'.cell? ⟨w.heap.size, 5, none⟩ = some x5 ∧ w'.cell? ⟨w.heap.size, 6, none⟩ = some x6 ∧ w'.cell? ⟨w.heap.size, 7, none⟩ = some x7 ∧ w'.cell? ⟨w.heap.size, 8, none⟩ = some x8 ∧ w'.cell? ⟨w.heap.size, 9, none⟩ = some x9 ∧ w'.cell? ⟨w.heap.size, 10, none⟩ = some x10 ∧ w'.cell? ⟨w.heap.size, 11, none⟩ = some x11 ∧ w'.cell? ⟨w.heap.size, 12, none⟩ = some x12 ∧ w'.cell? ⟨w.heap.size, 13, none⟩ = some x13 ∧ w'.cell? ⟨w.heap.size, 14, none⟩ = some x14 ∧ w'.cell? ⟨w.heap.size, 15, none⟩ = some x15 ∧ w'.cell? ⟨w.heap.size, 16, none⟩ = some x16 ∧ w'.cell? ⟨w.heap.size, 17, none⟩ = some x17 ∧ w'.cell? ⟨w.heap.size, 18, none⟩ = some x18 ∧ w'.cell? ⟨w.heap.size, 19, none⟩ = some x19) := hide fun w' hb => by
        have hbb := HB3.out.trans (hb.mono HB3.out.size)
        have hq := fun j => (cell_of_row w' w.heap.size j _ _ _ ((hbb.block w.heap.size (Array.getElem?_eq_some_iff.1 HBX.out).1).trans HBX.out))
        exact ⟨hq 0, hq 1, hq 2, hq 3, hq 4, hq 5, hq 6, hq 7, hq 8, hq 9, hq 10, hq 11, hq 12, hq 13, hq 14, hq 15, hq 16, hq 17, hq 18, hq 19⟩
      have HKEEP : Hid (∀ w', Below W2.heap.size W2 w' → w'.cell? ⟨w.heap.size, 0, none⟩ = some x0 ∧ w'.cell? ⟨w.heap.size, 1, none⟩ = some x1 ∧ w'.cell? ⟨w.heap.size, 2, none⟩ = some x2 ∧ w'.cell? ⟨w.heap.size, 3, none⟩ = some x3 ∧ w'.cell? ⟨w.heap.size, 4, none⟩ = some x4 ∧ w'.cell? ⟨w.heap.size, 5, none⟩ = some x5 ∧ w'.cell? ⟨w.heap.size, 6, none⟩ = some x6 ∧ w'.cell? ⟨w.heap.size, 7, none⟩ = some x7 ∧ w'.cell? ⟨w.heap.size, 8, none⟩ = some x8 ∧ w'.cell? ⟨w.heap.size, 9, none⟩ = some x9 ∧ w'.cell? ⟨w.heap.size, 10, none⟩ = some x10 ∧ w'.cell? ⟨w.heap.size, 11, none⟩ = some x11 ∧ w'.cell? ⟨w.heap.size, 12, none⟩ = some x12 ∧ w'.cell? ⟨w.heap.size, 13, none⟩ = some x13 ∧ w'.cell? ⟨w.heap.size, 14, none⟩ = some x14 ∧ w'.cell? ⟨w.heap.size, 15, none⟩ = some x15 ∧ w'.cell? ⟨w.heap.size, 16, none⟩ = some x16 ∧ w'.cell? ⟨w.heap.size, 17, none⟩ = some x17 ∧ w'.cell? ⟨w.heap.size, 18, none⟩ = some x18 ∧ w'.cell? ⟨w.heap.size, 19, none⟩ = some x19 ∧ Below W2.heap.size W2 w') := hide fun w' hb => by
        obtain ⟨k0, k1, k2, k3, k4, k5, k6, k7, k8, k9, k10, k11, k12, k13, k14, k15, k16, k17, k18, k19⟩ := HCELL.out w' hb
        exact ⟨k0, k1, k2, k3, k4, k5, k6, k7, k8, k9, k10, k11, k12, k13, k14, k15, k16, k17, k18, k19, hb⟩
      have hbxlt : w.heap.size < W2.heap.size := by have h1 := HB3.out.size; have h2 := HSZW.out; omega
      have hsl := HE.out.len
      have hn20 : n ≤ 20 := by have := HFL.out.1; omega
      have HS1 := hide (srcIs_evs (HE.out.below HB3.out))
      have HONEL := hide (cellsOf_one (HE.out.below HB3.out).evs)
      have HONEC : Hid (∀ u ∈ [x0, x1, x2, x3, x4, x5, x6, x7, x8, x9, x10, x11, x12, x13, x14, x15, x16, x17, x18, x19], u.oneCell' = true) := hide HEV.out.one
      have HA0 := hide (ownsRow_built0 W2 W2.heap.size 27 20 (Nat.le_refl _))
      have HDA0 : Hid (((W2.alloc (.cells #[x0, x1, x2, x3, x4, x5, x6, x7, x8, x9, x10, x11, x12, x13, x14, x15, x16, x17, x18, x19] 27)).alloc (.cells #[] 27)).ownsRow W2.heap.size 27 20 (.slice (some ⟨W2.heap.size + 1, 0, none⟩) 0 0) 0 []) := hide (by
        have := ownsRow_built0 (W2.alloc (.cells #[x0, x1, x2, x3, x4, x5, x6, x7, x8, x9, x10, x11, x12, x13, x14, x15, x16, x17, x18, x19] 27)) W2.heap.size 27 20 (by simp)
        simpa using this)
      have HD1 := hide (srcIs_blk W2 #[x0, x1, x2, x3, x4, x5, x6, x7, x8, x9, x10, x11, x12, x13, x14, x15, x16, x17, x18, x19] 27 HSZ.out)
      have HD2 : Hid (SrcIs ((W2.alloc (.cells #[] 27)).alloc (.cells #[x0, x1, x2, x3, x4, x5, x6, x7, x8, x9, x10, x11, x12, x13, x14, x15, x16, x17, x18, x19] 27)) 20 (some ⟨W2.heap.size + 1, 0, none⟩) 1 [x0, x1, x2, x3, x4, x5, x6, x7, x8, x9, x10, x11, x12, x13, x14, x15, x16, x17, x18, x19]) := hide (by
        have := srcIs_blk (W2.alloc (.cells #[] 27)) #[x0, x1, x2, x3, x4, x5, x6, x7, x8, x9, x10, x11, x12, x13, x14, x15, x16, x17, x18, x19] 27 HSZ.out
        simpa using this)
      have HBA : Hid (Below W2.heap.size W2 (W2.alloc (.cells #[] 27))) := hide ((Below.refl _ _).alloc (Nat.le_refl _) _)
      have HCBW : Hid (∀ w', Below W2.heap.size W2 w' → ∀ (j : Nat) v, #[x0, x1, x2, x3, x4, x5, x6, x7, x8, x9, x10, x11, x12, x13, x14, x15, x16, x17, x18, x19][j]? = some v → w'.cell? ⟨w.heap.size, 0 + j, none⟩ = some v) := hide fun w' hb j v hv => by
        have hbb := HB3.out.trans (hb.mono HB3.out.size)
        have := (hbb.block w.heap.size (Array.getElem?_eq_some_iff.1 HBX.out).1).trans HBX.out
        rw [Nat.zero_add]; exact (cell_of_row w' _ j _ _ _ this).trans hv
      have HBD : Hid (Below W2.heap.size W2 (W2.alloc (.cells #[x0, x1, x2, x3, x4, x5, x6, x7, x8, x9, x10, x11, x12, x13, x14, x15, x16, x17, x18, x19] 27))) := hide ((Below.refl _ _).alloc (Nat.le_refl _) _)
      have HBAD : Hid (Below W2.heap.size W2 ((W2.alloc (.cells #[] 27)).alloc (.cells #[x0, x1, x2, x3, x4, x5, x6, x7, x8, x9, x10, x11, x12, x13, x14, x15, x16, x17, x18, x19] 27))) := hide (((Below.refl _ _).alloc (Nat.le_refl _) _).alloc (by simp) _)
      have HBDA : Hid (Below W2.heap.size W2 ((W2.alloc (.cells #[x0, x1, x2, x3, x4, x5, x6, x7, x8, x9, x10, x11, x12, x13, x14, x15, x16, x17, x18, x19] 27)).alloc (.cells #[] 27))) := hide (((Below.refl _ _).alloc (Nat.le_refl _) _).alloc (by simp) _)
      have HEVS : Hid (∀ v5 w5, w5.ownsRow W2.heap.size 27 20 v5 (0 + n + 1) (([] ++ cellsOf l) ++ [x0, x1, x2, x3, x4, x5, x6, x7, x8, x9, x10, x11, x12, x13, x14, x15, x16, x17, x18, x19]) → Below W2.heap.size W2 w5 → ∃ g5 cc, v5 = .slice (some ⟨g5, 0, none⟩) (0 + n + 1) cc ∧ EvsAt w5 (some ⟨g5, 0, none⟩) (0 + n + 1) cc (l ++ [e])) := hide fun v5 w5 hown hb => by
        obtain ⟨g5, cc, rfl⟩ := ownsRow_succ hown
        refine ⟨g5, cc, rfl, evsAt_own (base := W2.heap.size) ?_ (by simp; omega) ?_⟩
        · have : cellsOf (l ++ [e]) = ([] ++ cellsOf l) ++ [x0, x1, x2, x3, x4, x5, x6, x7, x8, x9, x10, x11, x12, x13, x14, x15, x16, x17, x18, x19] := by simp [cellsOf, HCS.out]
          rw [this]; exact hown
        · intro x hx
          have hbb := HB3.out.trans (hb.mono HB3.out.size)
          rcases List.mem_append.1 hx with hx | hx
          · exact EvAt.ofBelow (HE.out.evs x hx) hbb
          · rw [List.mem_singleton.1 hx]
            exact EvAt.ofBelow (by rw [HCS.out]; exact HEV.out) hbb
      have HF2 : Hid (fewOk2 (l ++ [e])) := hide ⟨by simp; omega, fun x hx => by
        rcases List.mem_append.1 hx with hx | hx
        · exact HFL.out.2 x hx
        · exact HFE.out.2 x hx⟩
      go_upto_region 3 with fail
      go_cut [5, 6, 7] (fun s5 s6 s7 wx => ∃ sb mb z oa on oc, s5 = .pointer (some ⟨sb, 0, none⟩) ∧ s6 = .slice oa on oc ∧ s7 = .bool true ∧ AddCut w wx (okC (l ++ [e])) sb mb z oa on oc)
      case first =>
        refine wp_region_held_drew (S := fun w' => Below W2.heap.size W2 w') (by kernel_rfl) (Below.refl _ _).drew (fun hS0 => ?_)
        refine wpAnyH_take (i := 1) (v := .slice a n c) rfl (by kernel_rfl) (by kernel_rfl) (by kernel_rfl) (fun _ _ _ h => h) (Or.inl ⟨by rfl, fun w' _ => by go_simp⟩) hS0 ?_
        simp only [Act.put, List.getElem_toArray, List.getElem_cons_succ, List.getElem_cons_zero, List.setIfInBounds_toArray, List.set_cons_zero, List.set_cons_succ, World.size_alloc]
        refine wpAnyH_take (i := 3) (v := .agg #[x0, x1, x2, x3, x4, x5, x6, x7, x8, x9, x10, x11, x12, x13, x14, x15, x16, x17, x18, x19]) rfl (by kernel_rfl) (by kernel_rfl) (by kernel_rfl) (fun _ _ _ h => h) (Or.inl ⟨by rfl, fun w' hb => exec_load_cells 27 (.tmp 3) rfl w.heap.size 0 rfl _ #[x0, x1, x2, x3, x4, x5, x6, x7, x8, x9, x10, x11, x12, x13, x14, x15, x16, x17, x18, x19] (HCBW.out w' hb) Tryz.underlying27 rfl HI.out⟩) hS0 ?_
        simp only [Act.put, List.getElem_toArray, List.getElem_cons_succ, List.getElem_cons_zero, List.setIfInBounds_toArray, List.set_cons_zero, List.set_cons_succ, World.size_alloc]
        refine wpAnyH_ready (rs := [0, 4]) (by kernel_rfl) (by simp) ?_
        refine AllReadyH.cons rfl (fun K hK => ?_) ?_
        · refine step_buildSlice0 rfl 22 27 rfl i0 Tryz.underlying22 hi0 ?_
          refine hK.out _ _ HBA.out.drew (fun hS => ?_)
          clear hK K
          simp only [Act.put, List.getElem_toArray, List.getElem_cons_succ, List.getElem_cons_zero, List.setIfInBounds_toArray, List.set_cons_zero, List.set_cons_succ, World.size_alloc]
          refine wpAnyH_ready (rs := [2, 4]) (by kernel_rfl) (by simp) ?_
          refine AllReadyH.cons rfl (fun K hK => ?_) ?_
          · refine step_append_src _ rfl (.tmp 26) (.tmp 27) 22 rfl W2.heap.size 27 i0 zeroEv 20 80 Tryz.underlying22 hi0 iz0 iz1 iz2 rfl (by decide) (.slice (some ⟨W2.heap.size, 0, none⟩) 0 0) 0 [] rfl HA0.out a n c (cellsOf l) rfl (HS1.out.alloc _) HONEL.out (by unfold maxLen; omega) (by omega) (by simp <;> omega) ?_
            intro v3 w3 hown3 hgr3
            have hb3 : Below W2.heap.size W2 w3 := HBA.out.drew.grown hgr3 (by simp <;> omega) (by intro q e; cases e; simp)
            have hsz3 := hb3.size
            refine hK.out _ _ hb3 (fun hS => ?_)
            clear hK K
            simp only [Act.put, List.getElem_toArray, List.getElem_cons_succ, List.getElem_cons_zero, List.setIfInBounds_toArray, List.set_cons_zero, List.set_cons_succ, World.size_alloc]
            refine wpAnyH_ready (rs := [4]) (by kernel_rfl) (by simp) ?_
            refine AllReadyH.cons rfl (fun K hK => ?_) AllReadyH.nil
            refine step_buildSlice rfl 22 27 1 _ rfl #[x0, x1, x2, x3, x4, x5, x6, x7, x8, x9, x10, x11, x12, x13, x14, x15, x16, x17, x18, x19] i0 zeroEv Tryz.underlying22 hi0 iz0 (by rw [iz1]; decide) (by rw [iz1]; decide) (by rw [iz1, Array.toList_map]; exact fill_one (by simp) HSZ.out) ?_
            refine hK.out _ _ (hb3.alloc hsz3 _) (fun hS => ?_)
            clear hK K
            simp only [Act.put, List.getElem_toArray, List.getElem_cons_succ, List.getElem_cons_zero, List.setIfInBounds_toArray, List.set_cons_zero, List.set_cons_succ, World.size_alloc]
            refine wpAnyH_ready (rs := [5]) (by kernel_rfl) (by simp) ?_
            refine AllReadyH.cons rfl (fun K hK => ?_) AllReadyH.nil
            refine step_append_src _ rfl (.tmp 28) (.tmp 30) 22 rfl W2.heap.size 27 i0 zeroEv 20 80 Tryz.underlying22 hi0 iz0 iz1 iz2 rfl (by decide) v3 (0 + n) ([] ++ cellsOf l) rfl (hown3.alloc _) (some ⟨w3.heap.size, 0, none⟩) 1 1 [x0, x1, x2, x3, x4, x5, x6, x7, x8, x9, x10, x11, x12, x13, x14, x15, x16, x17, x18, x19] rfl (srcIs_blk w3 _ _ HSZ.out) HONEC.out (by unfold maxLen; omega) (by omega) (hb3.alloc hsz3 _).size ?_
            intro v5 w5 hown5 hgr5
            have hb5 : Below W2.heap.size W2 w5 := (hb3.alloc hsz3 _).grown hgr5 (hb3.alloc hsz3 _).size (fun q e => (hown3.lt q e).1)
            have hEV5 := HEVS.out v5 w5 hown5 hb5
            obtain ⟨g5, cc, rfl, hEV5⟩ := hEV5
            refine hK.out _ _ hb5 (fun hS => ?_)
            clear hK K
            simp only [Act.put, List.getElem_toArray, List.getElem_cons_succ, List.getElem_cons_zero, List.setIfInBounds_toArray, List.set_cons_zero, List.set_cons_succ, World.size_alloc]
            have HEV5 := hide hEV5
            have HBB5 := hide hb5
            have hsz5 := hb5.size
            clear hEV5 hb5 hown5 hgr5 hown3 hgr3 hb3 hS
            refine wpAnyH_ready (rs := [6]) (by kernel_rfl) (by simp) ?_
            refine AllReadyH.cons rfl (fun K hK => ?_) AllReadyH.nil
            refine step_call1 rfl 10 (.tmp 31) _ rfl _ rfl (fun args w' => Tryz.call10 args w') (build_any _ _ _ _ _ HEV5.out HF2.out (HML.out.below (HB3.out.trans (HBB5.out.mono HB3.out.size)))) ?_
            rintro en w6 ⟨sb, mb, z, oa, on, oc, rfl, q1, q2, q3, q4, q5, q6⟩
            have hb6 := HBB5.out.trans (q4.mono hsz5)
            have HCUT : Hid (AddCut w w6 (okC (l ++ [e])) sb mb z oa on oc) := hide ⟨q1, q2, q3, HB1.out.trans ((HB3.out.trans (hb6.mono HB3.out.size)).mono HB1.out.size), q6⟩
            clear q1 q2 q3 q4 q5 q6
            refine ⟨_, rfl, hK.out _ _ hb6 (fun hS => ?_)⟩
            clear hK K
            simp only [Act.put, List.getElem_toArray, List.getElem_cons_succ, List.getElem_cons_zero, List.setIfInBounds_toArray, List.set_cons_zero, List.set_cons_succ, World.size_alloc]
            refine wpAnyH_take (i := 7) (v := .tuple #[.pointer (some ⟨sb, 0, none⟩), .slice oa on oc, .bool true]) rfl (by kernel_rfl) (by kernel_rfl) (by kernel_rfl) (fun _ _ _ h => h) (Or.inl ⟨by rfl, fun w' _ => by first | rfl | go_simp⟩) hb6 ?_
            simp only [Act.put, List.getElem_toArray, List.getElem_cons_succ, List.getElem_cons_zero, List.setIfInBounds_toArray, List.set_cons_zero, List.set_cons_succ, World.size_alloc]
            refine wpAnyH_take (i := 8) (v := .pointer (some ⟨sb, 0, none⟩)) rfl (by kernel_rfl) (by kernel_rfl) (by kernel_rfl) (fun _ _ _ h => h) (Or.inl ⟨by rfl, fun w' _ => by first | rfl | go_simp⟩) hb6 ?_
            simp only [Act.put, List.getElem_toArray, List.getElem_cons_succ, List.getElem_cons_zero, List.setIfInBounds_toArray, List.set_cons_zero, List.set_cons_succ, World.size_alloc]
            refine wpAnyH_take (i := 9) (v := .slice oa on oc) rfl (by kernel_rfl) (by kernel_rfl) (by kernel_rfl) (fun _ _ _ h => h) (Or.inl ⟨by rfl, fun w' _ => by first | rfl | go_simp⟩) hb6 ?_
            simp only [Act.put, List.getElem_toArray, List.getElem_cons_succ, List.getElem_cons_zero, List.setIfInBounds_toArray, List.set_cons_zero, List.set_cons_succ, World.size_alloc]
            refine wpAnyH_take (i := 10) (v := .bool true) rfl (by kernel_rfl) (by kernel_rfl) (by kernel_rfl) (fun _ _ _ h => h) (Or.inl ⟨by rfl, fun w' _ => by first | rfl | go_simp⟩) hb6 ?_
            simp only [Act.put, List.getElem_toArray, List.getElem_cons_succ, List.getElem_cons_zero, List.setIfInBounds_toArray, List.set_cons_zero, List.set_cons_succ, World.size_alloc]
            refine wpAnyH_take (i := 11) (v := .pointer (some ⟨sb, 0, none⟩)) rfl (by kernel_rfl) (by kernel_rfl) (by kernel_rfl) (fun _ _ _ h => h) (Or.inl ⟨by rfl, fun w' _ => by first | rfl | go_simp⟩) hb6 ?_
            simp only [Act.put, List.getElem_toArray, List.getElem_cons_succ, List.getElem_cons_zero, List.setIfInBounds_toArray, List.set_cons_zero, List.set_cons_succ, World.size_alloc]
            refine wpAnyH_take (i := 12) (v := .slice oa on oc) rfl (by kernel_rfl) (by kernel_rfl) (by kernel_rfl) (fun _ _ _ h => h) (Or.inl ⟨by rfl, fun w' _ => by first | rfl | go_simp⟩) hb6 ?_
            simp only [Act.put, List.getElem_toArray, List.getElem_cons_succ, List.getElem_cons_zero, List.setIfInBounds_toArray, List.set_cons_zero, List.set_cons_succ, World.size_alloc]
            refine wpAnyH_take (i := 13) (v := .bool true) rfl (by kernel_rfl) (by kernel_rfl) (by kernel_rfl) (fun _ _ _ h => h) (Or.inl ⟨by rfl, fun w' _ => by first | rfl | go_simp⟩) hb6 ?_
            simp only [Act.put, List.getElem_toArray, List.getElem_cons_succ, List.getElem_cons_zero, List.setIfInBounds_toArray, List.set_cons_zero, List.set_cons_succ, World.size_alloc]
            refine wpAnyH_done (by kernel_rfl) ?_ _
            go_wp2_with fail
            go_meet
            exact ⟨sb, mb, z, oa, on, oc, rfl, rfl, rfl, HCUT.out⟩
          · refine AllReadyH.cons rfl (fun K hK => ?_) AllReadyH.nil
            refine step_buildSlice rfl 22 27 1 _ rfl #[x0, x1, x2, x3, x4, x5, x6, x7, x8, x9, x10, x11, x12, x13, x14, x15, x16, x17, x18, x19] i0 zeroEv Tryz.underlying22 hi0 iz0 (by rw [iz1]; decide) (by rw [iz1]; decide) (by rw [iz1, Array.toList_map]; exact fill_one (by simp) HSZ.out) ?_
            refine hK.out _ _ HBAD.out.drew (fun hS => ?_)
            clear hK K
            simp only [Act.put, List.getElem_toArray, List.getElem_cons_succ, List.getElem_cons_zero, List.setIfInBounds_toArray, List.set_cons_zero, List.set_cons_succ, World.size_alloc]
            refine wpAnyH_ready (rs := [2]) (by kernel_rfl) (by simp) ?_
            refine AllReadyH.cons rfl (fun K hK => ?_) AllReadyH.nil
            refine step_append_src _ rfl (.tmp 26) (.tmp 27) 22 rfl W2.heap.size 27 i0 zeroEv 20 80 Tryz.underlying22 hi0 iz0 iz1 iz2 rfl (by decide) (.slice (some ⟨W2.heap.size, 0, none⟩) 0 0) 0 [] rfl (HA0.out.alloc _) a n c (cellsOf l) rfl ((HS1.out.alloc _).alloc _) HONEL.out (by unfold maxLen; omega) (by omega) (by simp <;> omega) ?_
            intro v3 w3 hown3 hgr3
            have hb3 : Below W2.heap.size W2 w3 := HBAD.out.drew.grown hgr3 (by simp <;> omega) (by intro q e; cases e; simp)
            have hsz3 := hb3.size
            refine hK.out _ _ hb3 (fun hS => ?_)
            clear hK K
            simp only [Act.put, List.getElem_toArray, List.getElem_cons_succ, List.getElem_cons_zero, List.setIfInBounds_toArray, List.set_cons_zero, List.set_cons_succ, World.size_alloc]
            refine wpAnyH_ready (rs := [5]) (by kernel_rfl) (by simp) ?_
            refine AllReadyH.cons rfl (fun K hK => ?_) AllReadyH.nil
            refine step_append_src _ rfl (.tmp 28) (.tmp 30) 22 rfl W2.heap.size 27 i0 zeroEv 20 80 Tryz.underlying22 hi0 iz0 iz1 iz2 rfl (by decide) v3 (0 + n) ([] ++ cellsOf l) rfl hown3 (some ⟨W2.heap.size + 1, 0, none⟩) 1 1 [x0, x1, x2, x3, x4, x5, x6, x7, x8, x9, x10, x11, x12, x13, x14, x15, x16, x17, x18, x19] rfl (HD2.out.drew_.grown hgr3 (by intro ad e; cases e; simp [Value.ownBlock])) HONEC.out (by unfold maxLen; omega) (by omega) hb3.size ?_
            intro v5 w5 hown5 hgr5
            have hb5 : Below W2.heap.size W2 w5 := hb3.grown hgr5 hb3.size (fun q e => (hown3.lt q e).1)
            have hEV5 := HEVS.out v5 w5 hown5 hb5
            obtain ⟨g5, cc, rfl, hEV5⟩ := hEV5
            refine hK.out _ _ hb5 (fun hS => ?_)
            clear hK K
            simp only [Act.put, List.getElem_toArray, List.getElem_cons_succ, List.getElem_cons_zero, List.setIfInBounds_toArray, List.set_cons_zero, List.set_cons_succ, World.size_alloc]
            have HEV5 := hide hEV5
            have HBB5 := hide hb5
            have hsz5 := hb5.size
            clear hEV5 hb5 hown5 hgr5 hown3 hgr3 hb3 hS
            refine wpAnyH_ready (rs := [6]) (by kernel_rfl) (by simp) ?_
            refine AllReadyH.cons rfl (fun K hK => ?_) AllReadyH.nil
            refine step_call1 rfl 10 (.tmp 31) _ rfl _ rfl (fun args w' => Tryz.call10 args w') (build_any _ _ _ _ _ HEV5.out HF2.out (HML.out.below (HB3.out.trans (HBB5.out.mono HB3.out.size)))) ?_
            rintro en w6 ⟨sb, mb, z, oa, on, oc, rfl, q1, q2, q3, q4, q5, q6⟩
            have hb6 := HBB5.out.trans (q4.mono hsz5)
            have HCUT : Hid (AddCut w w6 (okC (l ++ [e])) sb mb z oa on oc) := hide ⟨q1, q2, q3, HB1.out.trans ((HB3.out.trans (hb6.mono HB3.out.size)).mono HB1.out.size), q6⟩
            clear q1 q2 q3 q4 q5 q6
            refine ⟨_, rfl, hK.out _ _ hb6 (fun hS => ?_)⟩
            clear hK K
            simp only [Act.put, List.getElem_toArray, List.getElem_cons_succ, List.getElem_cons_zero, List.setIfInBounds_toArray, List.set_cons_zero, List.set_cons_succ, World.size_alloc]
            refine wpAnyH_take (i := 7) (v := .tuple #[.pointer (some ⟨sb, 0, none⟩), .slice oa on oc, .bool true]) rfl (by kernel_rfl) (by kernel_rfl) (by kernel_rfl) (fun _ _ _ h => h) (Or.inl ⟨by rfl, fun w' _ => by first | rfl | go_simp⟩) hb6 ?_
            simp only [Act.put, List.getElem_toArray, List.getElem_cons_succ, List.getElem_cons_zero, List.setIfInBounds_toArray, List.set_cons_zero, List.set_cons_succ, World.size_alloc]
            refine wpAnyH_take (i := 8) (v := .pointer (some ⟨sb, 0, none⟩)) rfl (by kernel_rfl) (by kernel_rfl) (by kernel_rfl) (fun _ _ _ h => h) (Or.inl ⟨by rfl, fun w' _ => by first | rfl | go_simp⟩) hb6 ?_
            simp only [Act.put, List.getElem_toArray, List.getElem_cons_succ, List.getElem_cons_zero, List.setIfInBounds_toArray, List.set_cons_zero, List.set_cons_succ, World.size_alloc]
            refine wpAnyH_take (i := 9) (v := .slice oa on oc) rfl (by kernel_rfl) (by kernel_rfl) (by kernel_rfl) (fun _ _ _ h => h) (Or.inl ⟨by rfl, fun w' _ => by first | rfl | go_simp⟩) hb6 ?_
            simp only [Act.put, List.getElem_toArray, List.getElem_cons_succ, List.getElem_cons_zero, List.setIfInBounds_toArray, List.set_cons_zero, List.set_cons_succ, World.size_alloc]
            refine wpAnyH_take (i := 10) (v := .bool true) rfl (by kernel_rfl) (by kernel_rfl) (by kernel_rfl) (fun _ _ _ h => h) (Or.inl ⟨by rfl, fun w' _ => by first | rfl | go_simp⟩) hb6 ?_
            simp only [Act.put, List.getElem_toArray, List.getElem_cons_succ, List.getElem_cons_zero, List.setIfInBounds_toArray, List.set_cons_zero, List.set_cons_succ, World.size_alloc]
            refine wpAnyH_take (i := 11) (v := .pointer (some ⟨sb, 0, none⟩)) rfl (by kernel_rfl) (by kernel_rfl) (by kernel_rfl) (fun _ _ _ h => h) (Or.inl ⟨by rfl, fun w' _ => by first | rfl | go_simp⟩) hb6 ?_
            simp only [Act.put, List.getElem_toArray, List.getElem_cons_succ, List.getElem_cons_zero, List.setIfInBounds_toArray, List.set_cons_zero, List.set_cons_succ, World.size_alloc]
            refine wpAnyH_take (i := 12) (v := .slice oa on oc) rfl (by kernel_rfl) (by kernel_rfl) (by kernel_rfl) (fun _ _ _ h => h) (Or.inl ⟨by rfl, fun w' _ => by first | rfl | go_simp⟩) hb6 ?_
            simp only [Act.put, List.getElem_toArray, List.getElem_cons_succ, List.getElem_cons_zero, List.setIfInBounds_toArray, List.set_cons_zero, List.set_cons_succ, World.size_alloc]
            refine wpAnyH_take (i := 13) (v := .bool true) rfl (by kernel_rfl) (by kernel_rfl) (by kernel_rfl) (fun _ _ _ h => h) (Or.inl ⟨by rfl, fun w' _ => by first | rfl | go_simp⟩) hb6 ?_
            simp only [Act.put, List.getElem_toArray, List.getElem_cons_succ, List.getElem_cons_zero, List.setIfInBounds_toArray, List.set_cons_zero, List.set_cons_succ, World.size_alloc]
            refine wpAnyH_done (by kernel_rfl) ?_ _
            go_wp2_with fail
            go_meet
            exact ⟨sb, mb, z, oa, on, oc, rfl, rfl, rfl, HCUT.out⟩
        · refine AllReadyH.cons rfl (fun K hK => ?_) AllReadyH.nil
          refine step_buildSlice rfl 22 27 1 _ rfl #[x0, x1, x2, x3, x4, x5, x6, x7, x8, x9, x10, x11, x12, x13, x14, x15, x16, x17, x18, x19] i0 zeroEv Tryz.underlying22 hi0 iz0 (by rw [iz1]; decide) (by rw [iz1]; decide) (by rw [iz1, Array.toList_map]; exact fill_one (by simp) HSZ.out) ?_
          refine hK.out _ _ HBD.out.drew (fun hS => ?_)
          clear hK K
          simp only [Act.put, List.getElem_toArray, List.getElem_cons_succ, List.getElem_cons_zero, List.setIfInBounds_toArray, List.set_cons_zero, List.set_cons_succ, World.size_alloc]
          refine wpAnyH_ready (rs := [0]) (by kernel_rfl) (by simp) ?_
          refine AllReadyH.cons rfl (fun K hK => ?_) AllReadyH.nil
          refine step_buildSlice0 rfl 22 27 rfl i0 Tryz.underlying22 hi0 ?_
          refine hK.out _ _ HBDA.out.drew (fun hS => ?_)
          clear hK K
          simp only [Act.put, List.getElem_toArray, List.getElem_cons_succ, List.getElem_cons_zero, List.setIfInBounds_toArray, List.set_cons_zero, List.set_cons_succ, World.size_alloc]
          refine wpAnyH_ready (rs := [2]) (by kernel_rfl) (by simp) ?_
          refine AllReadyH.cons rfl (fun K hK => ?_) AllReadyH.nil
          refine step_append_src _ rfl (.tmp 26) (.tmp 27) 22 rfl W2.heap.size 27 i0 zeroEv 20 80 Tryz.underlying22 hi0 iz0 iz1 iz2 rfl (by decide) (.slice (some ⟨W2.heap.size + 1, 0, none⟩) 0 0) 0 [] rfl HDA0.out a n c (cellsOf l) rfl ((HS1.out.alloc _).alloc _) HONEL.out (by unfold maxLen; omega) (by omega) (by simp <;> omega) ?_
          intro v3 w3 hown3 hgr3
          have hb3 : Below W2.heap.size W2 w3 := HBDA.out.drew.grown hgr3 (by simp <;> omega) (by intro q e; cases e; simp)
          have hsz3 := hb3.size
          refine hK.out _ _ hb3 (fun hS => ?_)
          clear hK K
          simp only [Act.put, List.getElem_toArray, List.getElem_cons_succ, List.getElem_cons_zero, List.setIfInBounds_toArray, List.set_cons_zero, List.set_cons_succ, World.size_alloc]
          refine wpAnyH_ready (rs := [5]) (by kernel_rfl) (by simp) ?_
          refine AllReadyH.cons rfl (fun K hK => ?_) AllReadyH.nil
          refine step_append_src _ rfl (.tmp 28) (.tmp 30) 22 rfl W2.heap.size 27 i0 zeroEv 20 80 Tryz.underlying22 hi0 iz0 iz1 iz2 rfl (by decide) v3 (0 + n) ([] ++ cellsOf l) rfl hown3 (some ⟨W2.heap.size, 0, none⟩) 1 1 [x0, x1, x2, x3, x4, x5, x6, x7, x8, x9, x10, x11, x12, x13, x14, x15, x16, x17, x18, x19] rfl ((HD1.out.alloc (.cells #[] 27)).drew_.grown hgr3 (by intro ad e; cases e; simp [Value.ownBlock])) HONEC.out (by unfold maxLen; omega) (by omega) hb3.size ?_
          intro v5 w5 hown5 hgr5
          have hb5 : Below W2.heap.size W2 w5 := hb3.grown hgr5 hb3.size (fun q e => (hown3.lt q e).1)
          have hEV5 := HEVS.out v5 w5 hown5 hb5
          obtain ⟨g5, cc, rfl, hEV5⟩ := hEV5
          refine hK.out _ _ hb5 (fun hS => ?_)
          clear hK K
          simp only [Act.put, List.getElem_toArray, List.getElem_cons_succ, List.getElem_cons_zero, List.setIfInBounds_toArray, List.set_cons_zero, List.set_cons_succ, World.size_alloc]
          have HEV5 := hide hEV5
          have HBB5 := hide hb5
          have hsz5 := hb5.size
          clear hEV5 hb5 hown5 hgr5 hown3 hgr3 hb3 hS
          refine wpAnyH_ready (rs := [6]) (by kernel_rfl) (by simp) ?_
          refine AllReadyH.cons rfl (fun K hK => ?_) AllReadyH.nil
          refine step_call1 rfl 10 (.tmp 31) _ rfl _ rfl (fun args w' => Tryz.call10 args w') (build_any _ _ _ _ _ HEV5.out HF2.out (HML.out.below (HB3.out.trans (HBB5.out.mono HB3.out.size)))) ?_
          rintro en w6 ⟨sb, mb, z, oa, on, oc, rfl, q1, q2, q3, q4, q5, q6⟩
          have hb6 := HBB5.out.trans (q4.mono hsz5)
          have HCUT : Hid (AddCut w w6 (okC (l ++ [e])) sb mb z oa on oc) := hide ⟨q1, q2, q3, HB1.out.trans ((HB3.out.trans (hb6.mono HB3.out.size)).mono HB1.out.size), q6⟩
          clear q1 q2 q3 q4 q5 q6
          refine ⟨_, rfl, hK.out _ _ hb6 (fun hS => ?_)⟩
          clear hK K
          simp only [Act.put, List.getElem_toArray, List.getElem_cons_succ, List.getElem_cons_zero, List.setIfInBounds_toArray, List.set_cons_zero, List.set_cons_succ, World.size_alloc]
          refine wpAnyH_take (i := 7) (v := .tuple #[.pointer (some ⟨sb, 0, none⟩), .slice oa on oc, .bool true]) rfl (by kernel_rfl) (by kernel_rfl) (by kernel_rfl) (fun _ _ _ h => h) (Or.inl ⟨by rfl, fun w' _ => by first | rfl | go_simp⟩) hb6 ?_
          simp only [Act.put, List.getElem_toArray, List.getElem_cons_succ, List.getElem_cons_zero, List.setIfInBounds_toArray, List.set_cons_zero, List.set_cons_succ, World.size_alloc]
          refine wpAnyH_take (i := 8) (v := .pointer (some ⟨sb, 0, none⟩)) rfl (by kernel_rfl) (by kernel_rfl) (by kernel_rfl) (fun _ _ _ h => h) (Or.inl ⟨by rfl, fun w' _ => by first | rfl | go_simp⟩) hb6 ?_
          simp only [Act.put, List.getElem_toArray, List.getElem_cons_succ, List.getElem_cons_zero, List.setIfInBounds_toArray, List.set_cons_zero, List.set_cons_succ, World.size_alloc]
          refine wpAnyH_take (i := 9) (v := .slice oa on oc) rfl (by kernel_rfl) (by kernel_rfl) (by kernel_rfl) (fun _ _ _ h => h) (Or.inl ⟨by rfl, fun w' _ => by first | rfl | go_simp⟩) hb6 ?_
          simp only [Act.put, List.getElem_toArray, List.getElem_cons_succ, List.getElem_cons_zero, List.setIfInBounds_toArray, List.set_cons_zero, List.set_cons_succ, World.size_alloc]
          refine wpAnyH_take (i := 10) (v := .bool true) rfl (by kernel_rfl) (by kernel_rfl) (by kernel_rfl) (fun _ _ _ h => h) (Or.inl ⟨by rfl, fun w' _ => by first | rfl | go_simp⟩) hb6 ?_
          simp only [Act.put, List.getElem_toArray, List.getElem_cons_succ, List.getElem_cons_zero, List.setIfInBounds_toArray, List.set_cons_zero, List.set_cons_succ, World.size_alloc]
          refine wpAnyH_take (i := 11) (v := .pointer (some ⟨sb, 0, none⟩)) rfl (by kernel_rfl) (by kernel_rfl) (by kernel_rfl) (fun _ _ _ h => h) (Or.inl ⟨by rfl, fun w' _ => by first | rfl | go_simp⟩) hb6 ?_
          simp only [Act.put, List.getElem_toArray, List.getElem_cons_succ, List.getElem_cons_zero, List.setIfInBounds_toArray, List.set_cons_zero, List.set_cons_succ, World.size_alloc]
          refine wpAnyH_take (i := 12) (v := .slice oa on oc) rfl (by kernel_rfl) (by kernel_rfl) (by kernel_rfl) (fun _ _ _ h => h) (Or.inl ⟨by rfl, fun w' _ => by first | rfl | go_simp⟩) hb6 ?_
          simp only [Act.put, List.getElem_toArray, List.getElem_cons_succ, List.getElem_cons_zero, List.setIfInBounds_toArray, List.set_cons_zero, List.set_cons_succ, World.size_alloc]
          refine wpAnyH_take (i := 13) (v := .bool true) rfl (by kernel_rfl) (by kernel_rfl) (by kernel_rfl) (fun _ _ _ h => h) (Or.inl ⟨by rfl, fun w' _ => by first | rfl | go_simp⟩) hb6 ?_
          simp only [Act.put, List.getElem_toArray, List.getElem_cons_succ, List.getElem_cons_zero, List.setIfInBounds_toArray, List.set_cons_zero, List.set_cons_succ, World.size_alloc]
          refine wpAnyH_done (by kernel_rfl) ?_ _
          go_wp2_with fail
          go_meet
          exact ⟨sb, mb, z, oa, on, oc, rfl, rfl, rfl, HCUT.out⟩
      case rest =>
        obtain ⟨sb, mb, z, oa, on, oc, rfl, rfl, rfl, hcut⟩ := hcut
        have HC := hide hcut
        clear hcut
        obtain ⟨L, hL⟩ : ∃ L, okC (l ++ [e]) = L := ⟨_, rfl⟩
        have hokL : ∀ x ∈ L, x.ev.err = 0 := fun x hx => by
          rw [← hL] at hx
          simpa using (List.mem_filter.1 hx).2
        have hcut := HC.out
        have hlaw := law_total (evsOf L) (fun x hx => by obtain ⟨y, hy, rfl⟩ := List.mem_map.1 hx; exact hokL y hy)
        have hcnt := ofL_count (evsOf L) (fun x hx => by obtain ⟨y, hy, rfl⟩ := List.mem_map.1 hx; exact hokL y hy)
        have hzsum := zOf_sum (evsOf L) (fun x hx => by obtain ⟨y, hy, rfl⟩ := List.mem_map.1 hx; exact hokL y hy)
        have hdays := law_days (evsOf L)
        have hlL : L.length ≤ 100 := by
          have h1 := List.length_filter_le (fun e : EvC => decide (e.ev.err = 0)) (l ++ [e])
          have h2 := HF2.out.1
          rw [← hL]; unfold okC; omega
        have hfl : (addEvs (evsOf L)).length ≤ 1000000 := by
          have h1 := addEvs_length 110 (evsOf L) [] (fun x hx => by
            obtain ⟨y, hy, rfl⟩ := List.mem_map.1 hx
            rw [← hL] at hy
            have hm := (List.mem_filter.1 hy).1
            have hf := HF2.out.2 y hm
            have hev : EvIs W y.cs y.ev y.ga y.gn y.gc y.sa y.sn y.sc := by
              rcases List.mem_append.1 hm with hm | hm
              · exact HE.out.evs y hm
              · rw [List.mem_singleton.1 hm, HCS.out]; exact HEV.out
            have h1 := hev.at_.gs.len
            have h2 := hev.at_.ss.len
            omega)
          unfold addEvs
          have h2 : (evsOf L).length = L.length := by simp [evsOf]
          rw [h2] at h1
          simp at h1 ⊢; omega
        have hon : on ≤ 1000 := by have := hcut.evs.len; rw [hL] at this; omega
        rw [hL] at hcut
        have HC := hide hcut
        obtain ⟨z18, hz18⟩ : ∃ z18, zOf (evsOf L) = z18 := ⟨_, rfl⟩
        have hz : z = z18 := by rw [hcut.zq, hz18]
        have hzl : z.length = 18 := by rw [hz, ← hz18]; exact zOf_length _
        have hzr : ∀ x ∈ z, 0 ≤ x ∧ x ≤ 100 := fun x hx => by
          rw [hz, ← hz18] at hx
          have h1 := zOf_range _ x hx
          have h2 : (evsOf L).length = L.length := by simp [evsOf]
          rw [h2] at h1; omega
        obtain ⟨v1, v2, hv⟩ : ∃ v1 v2, ofL 0 ⟨#[]⟩ 0 80000 (evsOf L) = (v1, v2) := ⟨_, _, rfl⟩
        rw [hz18, ← hz] at hzsum
        rw [hv] at hcnt hlaw
        have HSUM : Hid (sumI z = v1) := hide (by rw [hzsum]; exact hcnt.symm)
        have HTOT : Hid (∀ w', Below wc.heap.size wc w' → Calls Tryz.prog 11 #[.pointer (some ⟨sb, 0, none⟩)] w' fun en w'' => en = .returned (.agg #[.int .i64 v1, .int .i64 v2]) ∧ Below w'.heap.size w' w'') := hide fun w' hb => by
          have := total_any sb mb _ z w' (hcut.s.below hb) (hcut.fits.small (by decide))
          rw [hlaw, cntV_mk] at this
          exact this
        have HOF : Hid (∀ w', Below wc.heap.size wc w' → Calls Tryz.prog 12 #[.slice oa on oc, .int .i64 0, .string ⟨#[]⟩, .int .i64 0, .int .i64 80000] w' fun en w'' => en = .returned (.agg #[.int .i64 v1, .int .i64 v2]) ∧ Below w'.heap.size w' w'') := hide fun w' hb => by
          have := of52_any 0 ⟨#[]⟩ 0 80000 oa on oc L w' (hcut.evs.below hb) hokL hon
          rw [show L.map (·.ev) = evsOf L from rfl, hv, cntV_mk] at this
          exact this
        have HDS : Hid (∀ w', Below wc.heap.size wc w' → Calls Tryz.prog 14 #[.pointer (some ⟨sb, 0, none⟩)] w' fun en w'' => ∃ (v : Value) (ds : List Int), ds = daysM ((evsOf L).map (·.day)) ∧ en = .returned v ∧ w''.ownsRow w'.heap.size 3 1 v ds.length (intsC ds) ∧ Below w'.heap.size w' w'') := hide fun w' hb => by
          have := days_any sb mb _ z w' (hcut.s.below hb) hfl
          rw [hdays] at this
          exact this
        have HDM : Hid (∀ w', Below wc.heap.size wc w' → Calls Tryz.prog 15 #[.slice oa on oc] w' fun en w'' => ∃ (v : Value) (ds : List Int), ds = daysM ((evsOf L).map (·.day)) ∧ en = .returned v ∧ w''.ownsRow w'.heap.size 3 1 v ds.length (intsC ds) ∧ Below w'.heap.size w' w'') := hide fun w' hb => by
          have := daysM_any oa on oc L w' (hcut.evs.below hb) hokL hon
          have e1 : L.map (fun e => e.ev.m / 1440) = (evsOf L).map (·.day) := by simp [evsOf, Ev.day]
          rw [e1] at this
          exact this
        have HSS : Hid (∀ w', Below wc.heap.size wc w' → Calls Tryz.prog 16 #[.pointer (some ⟨sb, 0, none⟩)] w' fun en w'' => en = .returned (.agg (intsV z)) ∧ Below w'.heap.size w' w'') := hide fun w' hb => ssizes_any sb mb _ z w' (hcut.s.below hb)
        have HSM : Hid (∀ w', Below wc.heap.size wc w' → Calls Tryz.prog 17 #[.slice oa on oc] w' fun en w'' => en = .returned (.agg (intsV z)) ∧ Below w'.heap.size w' w'') := hide fun w' hb => by
          have := sizesM_any oa on oc L w' (hcut.evs.below hb) hokL hon
          rw [show L.map (·.ev) = evsOf L from rfl, hz18, ← hz] at this
          exact this
        have HEQ : Hid (∀ w', (Op.equalIn 10000 41 (.agg (intsV z)) (.agg (intsV z))).run Tryz.prog w' = .ok true w') := hide fun w' => by
          have := sizes_equal z z hzl hzl (fun x hx => by have := hzr x hx; omega) (fun x hx => by have := hzr x hx; omega) w'
          simpa using this
        have HIX : Hid (∀ (k : Nat), k < 18 → ∀ w', (Instr.index 41 (.agg (intsV z)) (.int .i64 (k : Int))).run Tryz.prog w' = .ok (.int .i64 (z.getD k 0)) w') := hide fun k hk w' => run_index_i64 w' z k hk hzl
        have hsb : 0 ≤ sumI z ∧ sumI z ≤ 1800 := by have := sumI_bound z 100 (fun x hx => hzr x hx); rw [hzl] at this; omega
        have HZR := hide hzr
        have HZL := hide hzl
        obtain ⟨zs, hzs⟩ : ∃ zs, intsV z = zs := ⟨_, rfl⟩
        rw [hzs] at HSS HSM HEQ HIX
        have HHSB := hide hsb
        clear hL hokL hcut hlaw hcnt hzsum hdays hlL hfl hon hz18 hz hzl hzr hv hzs hsb
        go_wp2_with fail
        refine (HTOT.out wc (Below.refl _ _)).mono ?_
        rintro en w3 ⟨rfl, hb3⟩
        have HB6 := hide hb3
        clear hb3
        go_wp2_with fail
        refine (HOF.out w3 HB6.out).mono ?_
        rintro en w4 ⟨rfl, hb4⟩
        have HB7 := hide (HB6.out.trans (hb4.mono HB6.out.size))
        clear hb4
        go_wp2_with fail
        refine (HDS.out w4 HB7.out).mono ?_
        rintro en w5 ⟨vd, ds, hds, rfl, hod, hb5⟩
        obtain ⟨A1, c1, rfl, hat1⟩ := intsAt_own hod
        have HDS1 := hide hds
        have HAT1 := hide hat1
        have HB8 := hide (HB7.out.trans (hb5.mono HB7.out.size))
        clear hds hat1 hb5 hod
        go_wp2_with fail
        refine (HDM.out w5 HB8.out).mono ?_
        rintro en w6 ⟨vd, dm, hdm, rfl, hod, hb6⟩
        obtain ⟨A2, c2, rfl, hat2⟩ := intsAt_own hod
        have HNUM : Hid (Calls Tryz.prog 13 #[.slice A1 ds.length c1, .slice A2 dm.length c2] w6 fun en w' => en = .returned (.bool true) ∧ Below w6.heap.size w6 w') := hide (by
          have := numbers_any A1 A2 ds.length c1 dm.length c2 ds dm w6 (HAT1.out.below hb6) hat2
          rw [show decide (ds = dm) = true by rw [hdm, HDS1.out]; simp] at this
          exact this)
        have HB9 := hide (HB8.out.trans (hb6.mono HB8.out.size))
        clear hdm hat2 hb6 hod
        go_wp2_with fail
        refine HNUM.out.mono ?_
        rintro en w7 ⟨rfl, hb7⟩
        have HB10 := hide (HB9.out.trans (hb7.mono HB9.out.size))
        clear hb7
        go_wp2_with fail
        refine (HSS.out w7 HB10.out).mono ?_
        rintro en w8 ⟨rfl, hb8⟩
        have HB11 := hide (HB10.out.trans (hb8.mono HB10.out.size))
        clear hb8
        go_wp2_with fail
        refine (HSM.out w8 HB11.out).mono ?_
        rintro en w9 ⟨rfl, hb9⟩
        have HB12 := hide (HB11.out.trans (hb9.mono HB11.out.size))
        clear hb9
        have heq := HEQ.out
        go_wp2_with fail
        clear heq
        refine (HSS.out w9 HB12.out).mono ?_
        rintro en w10 ⟨rfl, hb10⟩
        have HB13 := hide (HB12.out.trans (hb10.mono HB12.out.size))
        clear hb10
        go_wp2_with fail
        go_loopw [8, 62] (fun s i wr => ∃ k : Nat, k ≤ 18 ∧ i = .int .i64 k ∧ s = .int .i64 (sumI (z.take k)) ∧ w10 = wr) (fun _ i _ => 18 - (intOf i).toNat)
        case atStart => exact ⟨0, by omega, rfl, rfl, rfl⟩
        case round =>
          obtain ⟨k, hk, rfl, rfl, rfl⟩ := hrel
          by_cases hlt : k < 18
          · have hix := HIX.out k hlt
            have HTK := hide (sumI_take_succ z k (by rw [HZL.out]; exact hlt))
            have hb1 := sumI_bound (z.take k) 100 (fun x hx => HZR.out x (List.mem_of_mem_take hx))
            have hb2 : 0 ≤ z.getD k 0 ∧ z.getD k 0 ≤ 100 := by
              rw [List.getD_eq_getElem?_getD, List.getElem?_eq_getElem (by rw [HZL.out]; exact hlt)]
              exact HZR.out _ (List.getElem_mem _)
            have hb3 : sumI (z.take k) ≤ 1800 := by
              have : ((z.take k).length : Int) * 100 ≤ 1800 := by
                have h1 : (z.take k).length ≤ 18 := by rw [List.length_take]; omega
                omega
              omega
            have hb4 := hb1.1
            obtain ⟨y, hy⟩ : ∃ y, z.getD k 0 = y := ⟨_, rfl⟩
            obtain ⟨s, hs⟩ : ∃ s, sumI (z.take k) = s := ⟨_, rfl⟩
            rw [hy] at hix hb2 HTK
            rw [hs] at HTK hb3 hb4 ⊢
            obtain ⟨hb5, hb6⟩ := hb2
            clear hb1 hy hs
            go_wp2_with fail
            go_roundw
            case rel => exact ⟨k + 1, by omega, by go_num, by rw [HTK.out], (by first | rfl | trivial)⟩
            case measure => simp [intOf]; omega
          · obtain rfl : k = 18 := by omega
            have htk : z.take 18 = z := List.take_of_length_le (by rw [HZL.out]; exact Nat.le_refl _)
            rw [htk, HSUM.out]
            clear htk
            go_wp2_with fail
            refine (HTOT.out w10 HB13.out).mono ?_
            rintro en w11 ⟨rfl, hb11⟩
            have HB14 := hide (HC.out.below.trans ((HB13.out.trans (hb11.mono HB13.out.size)).mono HC.out.below.size))
            clear hb11
            have hfld := fun w' => field_articles v1 v2 w'
            go_wp2_with fail
            go_ret
            exact ⟨ret_bool (by simp), HB14.out⟩
end Go.Proofs.YticcfbeocepnpaaGreatDoor
