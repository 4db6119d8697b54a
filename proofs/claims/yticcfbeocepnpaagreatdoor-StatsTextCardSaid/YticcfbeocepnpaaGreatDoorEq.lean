/-
  Equal: two sets of counts that are the same.
-/
import Derived.Test.YticcfbeocepnpaaGreatDoorArr
import Derived.Test.YticcfbeocepnpaaGreatDoorForget
import Derived.Deep.MidRow
set_option linter.unusedSimpArgs false
set_option maxRecDepth 100000
namespace Go.Proofs.YticcfbeocepnpaaGreatDoor
open Go.RowKit Go.Shelf Pl

theorem cmap_nodup {w : World} {mb : Nat} {f : List (Ky × Ct)} (h : CMap w mb f) : (f.map (·.1)).Nodup := by
  obtain ⟨es, clock, _, hm, hs, _⟩ := h
  exact Mp.nodup_keys hs hm
theorem cmap_len {w : World} {mb : Nat} {f : List (Ky × Ct)} (h : CMap w mb f) (ty : TypeId) : (Builtin.len_ #[70] ty #[.map (some mb)]).run Tryz.prog w = .ok (.int .i64 (f.length : Nat)) w := by
  obtain ⟨es, clock, hb, hm, _⟩ := h
  have hl : es.size = f.length := by
    have := congrArg List.length hm
    simpa using this
  rw [run_len_map w 70 ty mb es clock (by kernel_rfl) hb, hl]; rfl
theorem lookup_ok_cnt {w : World} {mb : Nat} {f : List (Ky × Ct)} (h : CMap w mb f) {p : Ky × Ct} (hp : p ∈ f) :
    (Instr.lookup 70 (.map (some mb)) (keyV p.1) true).run Tryz.prog w = .ok (.tuple #[cntV p.2, .bool true]) w := by
  rw [Mp.IsMap.lookup_ok h key_enc Tryz.underlying70 (count_zero w) (keyOk_of h p hp), Mp.getM_some (cmap_nodup h) hp]
  rfl
set_option maxHeartbeats 2000000 in
theorem mapsEqual_any (m1 m2 : Nat) (f1 f2 : List (Ky × Ct)) (w : World) (h1 : CMap w m1 f1) (h2 : CMap w m2 f2) (hp : f1.Perm f2) :
    Calls Tryz.prog 45 #[.map (some m1), .map (some m2)] w fun e w' => e = .returned (.bool true) ∧ Below w.heap.size w w' := by
  have l1 := fun ty => cmap_len h1 ty
  have l2 := fun ty => cmap_len h2 ty
  obtain ⟨n, hn⟩ : ∃ n, f1.length = n := ⟨_, rfl⟩
  rw [← hp.length_eq] at l2
  rw [hn] at l1 l2
  have hlt := h1.lt
  have HP := hide hp
  have H2 := hide h2
  have H1 := hide h1
  clear hn h1 h2 hp
  go_enter Tryz.func45, Tryz.ntmps45
  go_wp2_with (first | (at_range; refine Mp.wpList_range_is rfl _ _ rfl _ _ Tryz.underlying70 rfl H1.out ?_; intro w0 hit hg hsz))
  have HW0 : Hid (Below w.heap.size w w0) := hide ((Below.refl _ _).grown hg (Nat.le_refl _) (by simp))
  have HIT0 := hide hit
  have hsz0 : w0.heap.size = w.heap.size + 1 := hsz
  clear hit hg hsz l1 l2
  go_frame
  go_loopw [] (fun wr => ∃ left, Hid (CIter wr m1 w.heap.size f1 left) ∧ Hid (Below w.heap.size w wr)) (fun wr => wr.rangeLeft m1 w.heap.size)
  case atStart => exact ⟨f1, HIT0, HW0⟩
  case round =>
    obtain ⟨left, HIT, HB⟩ := hrel
    have hsz := HIT.out.lt.2.1
    rcases HIT.out.next (P := Tryz.prog) 0 with ⟨hl0, hrun⟩ | ⟨p, left', w1, hperm, hrun, hit1, hpf, hg1, hsz1, hen⟩
    · subst hl0
      go_wp2_with fail
      go_ret
      exact ⟨rfl, HB.out⟩
    · have HB1 : Hid (Below w.heap.size w w1) := hide (HB.out.grown hg1 HB.out.size (by intro k e; cases e; exact Nat.le_refl _))
      have HPERM := hide hperm
      have HIT1 := hide hit1
      have hlk := lookup_ok_cnt ((Mp.IsMap.below H2.out HB1.out).below (show Below w1.heap.size w1 ((w1.alloc (.cells (keyV p.1).cells 64)).alloc (.cells (cntV p.2).cells 34)) by (repeat (first | exact Below.refl _ _ | with_reducible assumption | (refine Below.setCell ?_ (by simp <;> omega) _) | (refine Below.alloc ?_ (by simp <;> omega) _))))) (HP.out.subset hpf)
      obtain ⟨⟨d, k, x⟩, a, b⟩ := p
      rw [keyV_mk, cntV_mk] at hen hrun
      rw [keyV_mk, cntV_mk] at hlk
      simp only [Value.cells] at hlk
      clear hperm hit1 hg1 hpf
      go_wp2_with fail
      have HW3 : Hid (Below w1.heap.size w1 (((w1.alloc (.cells #[.int .i64 d, .int .i64 k, .string x] 64)).alloc (.cells #[.int .i64 a, .int .i64 b] 34)).alloc (.cells #[.int .i64 a, .int .i64 b] 34))) := hide (by (repeat (first | exact Below.refl _ _ | with_reducible assumption | (refine Below.setCell ?_ (by simp <;> omega) _) | (refine Below.alloc ?_ (by simp <;> omega) _))))
      have HIT3 := hide (HIT1.out.below HW3.out)
      go_roundw
      case rel => exact ⟨left', HIT3, HB1.out.trans (HW3.out.mono HB1.out.size)⟩
      case measure => rw [HIT3.out.left_eq, HIT.out.left_eq, HPERM.out.length_eq]; simp

theorem step_call2 {P : Program} {ops : Array Oper} {o : Oper} {a : Act} {w : World} {K : Act → World → Prop} {Q : Exit → Act → World → Prop} {E : Prop} (hw : Region.wanted o (yielded ops a.tmps) = true) (f : FuncId) (x y : Operand) (ts : Array TypeId)
    (ho : o.op = .call { callee := .value (.func f), args := #[x, y], argTypes := ts }) (v u : Value) (hx : a.eval x = v) (hy : a.eval y = u) (hf : ∀ args w, (callFunc f args).run P w = .ok (.enter f args) w)
    {R : Ending → World → Prop} (hc : Calls P f #[v, u] w R) (h : ∀ e w', R e w' → ∃ u, e = .returned u ∧ K (a.put o.dst u) w') : if Region.wanted o (yielded ops a.tmps) = true then Oper.wp P o a w K Q else E := by
  rw [if_pos hw]
  have hrun : (execOp a.eval o).run P w = .ok (.enter f #[v, u]) w := by
    unfold execOp
    subst hx
    subst hy
    simp [ho, resolve, invoke, hf, go_sem]
  unfold Oper.wp
  rw [hrun, Oper.upon_enter]
  refine hc.mono fun e w' hr => ?_
  obtain ⟨u, rfl, hk⟩ := h e w' hr
  exact hk

set_option maxHeartbeats 2000000 in
/-- 'Equal'. -/
theorem sequal_any (s1 m1 s2 m2 : Nat) (f1 f2 : List (Ky × Ct)) (z : List Int) (w : World) (h1 : SAt w s1 m1 f1 z) (h2 : SAt w s2 m2 f2 z) (hp : f1.Perm f2) (hz : ∀ x ∈ z, 0 ≤ x ∧ x ≤ 4611686018427387904) :
    Calls Tryz.prog 22 #[.pointer (some ⟨s1, 0, none⟩), .pointer (some ⟨s2, 0, none⟩)] w fun e w' => e = .returned (.bool true) ∧ Below w.heap.size w w' := by
  have heq : ∀ w' : World, (Op.equalIn 10000 41 (.agg (z.map (Value.int .i64)).toArray) (.agg (z.map (Value.int .i64)).toArray)).run Tryz.prog w' = .ok true w' := fun w' => by
    have := sizes_equal z z h1.len h1.len (fun x hx => by have := hz x hx; omega) (fun x hx => by have := hz x hx; omega) w'
    simpa [intsV] using this
  have hi : (Tryz.prog.info? 41).map (·.size) = some (z.map (Value.int .i64)).length := by rw [List.length_map, h1.len]; rfl
  have hu : Tryz.prog.underlying 41 = some (.array 18 3) := Tryz.underlying41
  have hr : ∀ (w' : World) (s m : Nat) (f : List (Ky × Ct)), SAt w' s m f z → w'.rangeAt s 1 (z.map (Value.int .i64)) := fun w' s m f hs j v hv => by
    rw [cell_of_row w' s (1 + j) _ _ _ hs.blk, List.getElem?_toArray, Nat.add_comm, List.getElem?_cons_succ]; exact hv
  have HK : Hid (∀ w', Below w.heap.size w w' → w'.rangeAt s1 1 (z.map (Value.int .i64)) ∧ w'.rangeAt s2 1 (z.map (Value.int .i64)) ∧ w'.cell? ⟨s1, 0, none⟩ = some (.map (some m1)) ∧ w'.cell? ⟨s2, 0, none⟩ = some (.map (some m2))) := hide fun w' hb =>
    ⟨hr w' s1 m1 f1 (h1.below hb), hr w' s2 m2 f2 (h2.below hb), (h1.below hb).c0, (h2.below hb).c0⟩
  have HME : Hid (∀ w', Below w.heap.size w w' → Calls Tryz.prog 45 #[.map (some m1), .map (some m2)] w' fun e w'' => e = .returned (.bool true) ∧ Below w.heap.size w w'') := hide fun w' hb =>
    (mapsEqual_any m1 m2 f1 f2 w' (h1.below hb).map (h2.below hb).map hp).mono (by rintro e w'' ⟨rfl, hq⟩; exact ⟨rfl, hb.trans (hq.mono hb.size)⟩)
  obtain ⟨zs, hzs⟩ : ∃ zs, z.map (Value.int .i64) = zs := ⟨_, rfl⟩
  rw [hzs] at heq hi HK
  clear h1 h2 hp hz hr hzs
  go_enter Tryz.func22, Tryz.ntmps22
  go_upto_region 3 with fail
  refine wp_region_held_drew (S := (fun w' => w'.rangeAt s1 1 zs ∧ w'.rangeAt s2 1 zs ∧ w'.cell? ⟨s1, 0, none⟩ = some (.map (some m1)) ∧ w'.cell? ⟨s2, 0, none⟩ = some (.map (some m2)))) (by kernel_rfl) (HK.out _ (Below.refl _ _).drew) (fun hS0 => ?_)
  refine wpAnyH_take (i := 0) (v := .pointer (some ⟨s1, 0, none⟩)) rfl (by kernel_rfl) (by kernel_rfl) (by kernel_rfl) (fun _ _ _ h => h) (Or.inl ⟨by rfl, fun w' _ => by first | rfl | go_simp⟩) hS0 ?_
  simp only [Act.put, List.getElem_toArray, List.getElem_cons_succ, List.getElem_cons_zero, List.setIfInBounds_toArray, List.set_cons_zero, List.set_cons_succ]
  refine wpAnyH_take (i := 1) (v := .pointer (some ⟨s1, 0, none⟩)) rfl (by kernel_rfl) (by kernel_rfl) (by kernel_rfl) (fun _ _ _ h => h) (Or.inl ⟨by rfl, fun w' _ => by first | rfl | go_simp⟩) hS0 ?_
  simp only [Act.put, List.getElem_toArray, List.getElem_cons_succ, List.getElem_cons_zero, List.setIfInBounds_toArray, List.set_cons_zero, List.set_cons_succ]
  refine wpAnyH_take (i := 2) (v := .pointer (some ⟨s1, 1, none⟩)) rfl (by kernel_rfl) (by kernel_rfl) (by kernel_rfl) (fun _ _ _ h => h) (Or.inl ⟨by rfl, fun w' _ => by first | rfl | go_simp⟩) hS0 ?_
  simp only [Act.put, List.getElem_toArray, List.getElem_cons_succ, List.getElem_cons_zero, List.setIfInBounds_toArray, List.set_cons_zero, List.set_cons_succ]
  refine wpAnyH_take (i := 3) (v := .agg zs.toArray) rfl (by kernel_rfl) (by kernel_rfl) (by kernel_rfl) (fun _ _ _ h => h) (yieldsIf_load_mid (by rfl) _ _ rfl s1 1 rfl zs _ (fun w' h => h.1) hu rfl hi) hS0 ?_
  simp only [Act.put, List.getElem_toArray, List.getElem_cons_succ, List.getElem_cons_zero, List.setIfInBounds_toArray, List.set_cons_zero, List.set_cons_succ]
  refine wpAnyH_take (i := 4) (v := .pointer (some ⟨s2, 0, none⟩)) rfl (by kernel_rfl) (by kernel_rfl) (by kernel_rfl) (fun _ _ _ h => h) (Or.inl ⟨by rfl, fun w' _ => by first | rfl | go_simp⟩) hS0 ?_
  simp only [Act.put, List.getElem_toArray, List.getElem_cons_succ, List.getElem_cons_zero, List.setIfInBounds_toArray, List.set_cons_zero, List.set_cons_succ]
  refine wpAnyH_take (i := 5) (v := .pointer (some ⟨s2, 0, none⟩)) rfl (by kernel_rfl) (by kernel_rfl) (by kernel_rfl) (fun _ _ _ h => h) (Or.inl ⟨by rfl, fun w' _ => by first | rfl | go_simp⟩) hS0 ?_
  simp only [Act.put, List.getElem_toArray, List.getElem_cons_succ, List.getElem_cons_zero, List.setIfInBounds_toArray, List.set_cons_zero, List.set_cons_succ]
  refine wpAnyH_take (i := 6) (v := .pointer (some ⟨s2, 1, none⟩)) rfl (by kernel_rfl) (by kernel_rfl) (by kernel_rfl) (fun _ _ _ h => h) (Or.inl ⟨by rfl, fun w' _ => by first | rfl | go_simp⟩) hS0 ?_
  simp only [Act.put, List.getElem_toArray, List.getElem_cons_succ, List.getElem_cons_zero, List.setIfInBounds_toArray, List.set_cons_zero, List.set_cons_succ]
  refine wpAnyH_take (i := 7) (v := .agg zs.toArray) rfl (by kernel_rfl) (by kernel_rfl) (by kernel_rfl) (fun _ _ _ h => h) (yieldsIf_load_mid (by rfl) _ _ rfl s2 1 rfl zs _ (fun w' h => h.2.1) hu rfl hi) hS0 ?_
  simp only [Act.put, List.getElem_toArray, List.getElem_cons_succ, List.getElem_cons_zero, List.setIfInBounds_toArray, List.set_cons_zero, List.set_cons_succ]
  refine wpAnyH_take (i := 8) (v := .bool true) rfl (by kernel_rfl) (by kernel_rfl) (by kernel_rfl) (fun _ _ _ h => h) (Or.inl ⟨by rfl, fun w' _ => by first | rfl | go_simp⟩) hS0 ?_
  simp only [Act.put, List.getElem_toArray, List.getElem_cons_succ, List.getElem_cons_zero, List.setIfInBounds_toArray, List.set_cons_zero, List.set_cons_succ]
  refine wpAnyH_take (i := 9) (v := .bool true) rfl (by kernel_rfl) (by kernel_rfl) (by kernel_rfl) (fun _ _ _ h => h) (Or.inl ⟨by rfl, fun w' _ => by first | rfl | go_simp⟩) hS0 ?_
  simp only [Act.put, List.getElem_toArray, List.getElem_cons_succ, List.getElem_cons_zero, List.setIfInBounds_toArray, List.set_cons_zero, List.set_cons_succ]
  refine wpAnyH_take (i := 10) (v := .pointer (some ⟨s1, 0, none⟩)) rfl (by kernel_rfl) (by kernel_rfl) (by kernel_rfl) (fun _ _ _ h => h) (Or.inl ⟨by rfl, fun w' _ => by first | rfl | go_simp⟩) hS0 ?_
  simp only [Act.put, List.getElem_toArray, List.getElem_cons_succ, List.getElem_cons_zero, List.setIfInBounds_toArray, List.set_cons_zero, List.set_cons_succ]
  refine wpAnyH_take (i := 11) (v := .pointer (some ⟨s1, 0, none⟩)) rfl (by kernel_rfl) (by kernel_rfl) (by kernel_rfl) (fun _ _ _ h => h) (Or.inl ⟨by rfl, fun w' _ => by first | rfl | go_simp⟩) hS0 ?_
  simp only [Act.put, List.getElem_toArray, List.getElem_cons_succ, List.getElem_cons_zero, List.setIfInBounds_toArray, List.set_cons_zero, List.set_cons_succ]
  refine wpAnyH_take (i := 12) (v := .pointer (some ⟨s1, 0, none⟩)) rfl (by kernel_rfl) (by kernel_rfl) (by kernel_rfl) (fun _ _ _ h => h) (Or.inl ⟨by rfl, fun w' _ => by first | rfl | go_simp⟩) hS0 ?_
  simp only [Act.put, List.getElem_toArray, List.getElem_cons_succ, List.getElem_cons_zero, List.setIfInBounds_toArray, List.set_cons_zero, List.set_cons_succ]
  refine wpAnyH_take (i := 13) (v := .map (some m1)) rfl (by kernel_rfl) (by kernel_rfl) (by kernel_rfl) (fun _ _ _ h => h) (Or.inl ⟨by rfl, fun w' h => by have hc := h.2.2.1; go_simp⟩) hS0 ?_
  simp only [Act.put, List.getElem_toArray, List.getElem_cons_succ, List.getElem_cons_zero, List.setIfInBounds_toArray, List.set_cons_zero, List.set_cons_succ]
  refine wpAnyH_take (i := 14) (v := .pointer (some ⟨s2, 0, none⟩)) rfl (by kernel_rfl) (by kernel_rfl) (by kernel_rfl) (fun _ _ _ h => h) (Or.inl ⟨by rfl, fun w' _ => by first | rfl | go_simp⟩) hS0 ?_
  simp only [Act.put, List.getElem_toArray, List.getElem_cons_succ, List.getElem_cons_zero, List.setIfInBounds_toArray, List.set_cons_zero, List.set_cons_succ]
  refine wpAnyH_take (i := 15) (v := .pointer (some ⟨s2, 0, none⟩)) rfl (by kernel_rfl) (by kernel_rfl) (by kernel_rfl) (fun _ _ _ h => h) (Or.inl ⟨by rfl, fun w' _ => by first | rfl | go_simp⟩) hS0 ?_
  simp only [Act.put, List.getElem_toArray, List.getElem_cons_succ, List.getElem_cons_zero, List.setIfInBounds_toArray, List.set_cons_zero, List.set_cons_succ]
  refine wpAnyH_take (i := 16) (v := .pointer (some ⟨s2, 0, none⟩)) rfl (by kernel_rfl) (by kernel_rfl) (by kernel_rfl) (fun _ _ _ h => h) (Or.inl ⟨by rfl, fun w' _ => by first | rfl | go_simp⟩) hS0 ?_
  simp only [Act.put, List.getElem_toArray, List.getElem_cons_succ, List.getElem_cons_zero, List.setIfInBounds_toArray, List.set_cons_zero, List.set_cons_succ]
  refine wpAnyH_take (i := 17) (v := .map (some m2)) rfl (by kernel_rfl) (by kernel_rfl) (by kernel_rfl) (fun _ _ _ h => h) (Or.inl ⟨by rfl, fun w' h => by have hc := h.2.2.2; go_simp⟩) hS0 ?_
  simp only [Act.put, List.getElem_toArray, List.getElem_cons_succ, List.getElem_cons_zero, List.setIfInBounds_toArray, List.set_cons_zero, List.set_cons_succ]
  refine wpAnyH_ready (rs := [18]) (by kernel_rfl) (by simp) ?_
  refine AllReadyH.cons rfl (fun K hK => ?_) AllReadyH.nil
  refine step_call2 (by rfl) 45 (.tmp 30) (.tmp 34) _ rfl _ _ rfl rfl (fun args w' => Tryz.call45 args w') (HME.out _ (Below.refl _ _).drew) ?_
  rintro en w6 ⟨rfl, hb6⟩
  have HB6 := hide hb6
  refine ⟨_, rfl, hK.out _ _ (HK.out _ hb6) (fun hS => ?_)⟩
  clear hK K hb6
  simp only [Act.put, List.getElem_toArray, List.getElem_cons_succ, List.getElem_cons_zero, List.setIfInBounds_toArray, List.set_cons_zero, List.set_cons_succ]
  refine wpAnyH_take (i := 19) (v := .bool true) rfl (by kernel_rfl) (by kernel_rfl) (by kernel_rfl) (fun _ _ _ h => h) (Or.inl ⟨by rfl, fun w' _ => by first | rfl | go_simp⟩) hS ?_
  simp only [Act.put, List.getElem_toArray, List.getElem_cons_succ, List.getElem_cons_zero, List.setIfInBounds_toArray, List.set_cons_zero, List.set_cons_succ]
  refine wpAnyH_take (i := 20) (v := .bool true) rfl (by kernel_rfl) (by kernel_rfl) (by kernel_rfl) (fun _ _ _ h => h) (Or.inl ⟨by rfl, fun w' _ => by first | rfl | go_simp⟩) hS ?_
  simp only [Act.put, List.getElem_toArray, List.getElem_cons_succ, List.getElem_cons_zero, List.setIfInBounds_toArray, List.set_cons_zero, List.set_cons_succ]
  refine wpAnyH_done (by kernel_rfl) ?_ _
  go_wp2_with fail
  go_ret
  exact ⟨rfl, HB6.out⟩
end Go.Proofs.YticcfbeocepnpaaGreatDoor
