/-
  maps.Keys over a map of counts, and slices.Collect of it: the keys, each once, in some order.
-/
import Derived.Test.YticcfbeocepnpaaGreatDoorKey
import Derived.RangeFuncNested
import Derived.RangeFuncBound
import Derived.RangeFuncCalls
import Derived.RangeFuncLeaves
import Derived.RangeFuncStops
import Derived.Sort.MapsRangeIn
import Derived.Shelf.Abstract
import Derived.Shelf.RegionOpen
import Derived.WalkKit
import Derived.OwnWalkIn
import Derived.TacticsInMore
import Derived.LoopNIn
import Derived.LoopIn
set_option linter.unusedSimpArgs false
set_option linter.unusedSectionVars false
set_option maxRecDepth 100000
namespace Go.Proofs.YticcfbeocepnpaaGreatDoor
open Go.RowKit Go.Shelf Pl
attribute [local go_sem] Oper.semAt_some

namespace Mp
section
variable {κ γ : Type} [DecidableEq κ] {P : Program} {eK : κ → Value} {eV : γ → Value} {ok : κ → Prop} {w : World} {b : Nat} {f : List (κ × γ)}
variable {F : Fence} {n : Nat} {ops : Array Oper} {rest : List Oper} {o : Oper} {a : Act} {Q : Exit → Act → World → Prop}
theorem wpListIn_range_is (hg : o.guard = none) (m : Operand) (t : TypeId) (hop : o.op = Op.range t m) (k' e : TypeId) (ht : P.underlying t = some (.map k' e))
    (hm : a.eval m = .map (some b)) (h : IsMap eK eV ok w b f)
    (hK : ∀ w', IterAt eK eV ok w' b w.heap.size f f → w.grownBy w' none → w'.heap.size = w.heap.size + 1 → wpListIn F n P ops Q rest (a.put o.dst (.pointer (some ⟨w.heap.size, 0, none⟩))) w') :
    wpListIn F n P ops Q (o :: rest) a w := by
  refine wpListIn_plain hg fun K' hK' => ?_
  obtain ⟨w', hrun, r1, r2, r3⟩ := h.range (P := P) ht
  unfold Oper.wpIn
  refine ⟨by simp [Oper.about, hop], ?_⟩
  rw [Oper.semAt_plain F _ _ (by rw [hop]; intro c hc'; cases hc')]
  simp [execOp, hop, hm, hrun, Result.andThen]
  exact hK' _ _ (hK w' r1 r2 r3)
theorem wpListIn_next_is (hg : o.guard = none) (it : Operand) (hop : o.op = Op.next it false) {r : Nat} {left : List (κ × γ)} (hit : a.eval it = .pointer (some ⟨r, 0, none⟩)) (h : IterAt eK eV ok w b r f left)
    (hDone : left = [] → wpListIn F n P ops Q rest (a.put o.dst (.tuple #[.bool false])) w)
    (hMore : ∀ p left' w', left.Perm (p :: left') → IterAt eK eV ok w' b r f left' → p ∈ f → w.grownBy w' (some r) → w'.heap.size = w.heap.size →
      (Instr.entry (.pointer (some ⟨r, 0, none⟩))).run P w' = .ok (.tuple #[eK p.1, eV p.2]) w' → wpListIn F n P ops Q rest (a.put o.dst (.tuple #[.bool true, eK p.1, eV p.2])) w') :
    wpListIn F n P ops Q (o :: rest) a w := by
  refine wpListIn_plain hg fun K' hK' => ?_
  unfold Oper.wpIn
  refine ⟨by simp [Oper.about, hop], ?_⟩
  rw [Oper.semAt_plain F _ _ (by rw [hop]; intro c hc'; cases hc')]
  rcases h.next (P := P) o.type with ⟨h0, hrun⟩ | ⟨p, left', w', h1, hrun, h2, h3, h4, h5, h6⟩
  · simp [execOp, hop, hit, hrun, Result.andThen]
    exact hK' _ _ (hDone h0)
  · simp [execOp, hop, hit, hrun, Result.andThen]
    exact hK' _ _ (hMore p left' w' h1 h2 h3 h4 h5 h6)
theorem IterAt.of_walks {w' : World} {r : Nat} {left : List (κ × γ)} (h : IterAt eK eV ok w b r f left) (hk : KeepsWalks w w') : IterAt eK eV ok w' b r f left := by
  obtain ⟨⟨es, clock, since, seen, c0, h1, h2, h3, h4, h5, h6⟩, hs⟩ := h
  exact ⟨⟨es, clock, since, seen, c0, hk.same b _ h1 rfl, h2, h3, h4, hk.same r _ h5 rfl, h6⟩, hs⟩
theorem IterAt.walk {r : Nat} {left : List (κ × γ)} (h : IterAt eK eV ok w b r f left) : ∃ o : Obj, w.heap[r]? = some o ∧ o.isWalk = true := by
  obtain ⟨⟨es, clock, since, seen, c0, h1, h2, h3, h4, h5, h6⟩, hs⟩ := h
  exact ⟨_, h5, rfl⟩
end
end Mp

set_option maxHeartbeats 2000000 in
theorem keys1_in (F : Fence) (n : Nat) (hf : F.fn 84) (hro : F.round = none) (hn : 1 ≤ n) (l Bm b : Nat) (f : List (Ky × Ct)) (J Jx : List Ky → World → Prop)
    (hY : ∀ pre x W, J pre W → pre.length < f.length → YieldAt F (n - 1) Tryz.prog l #[keyV x] W fun e W' =>
      (e = .returned (.bool true) ∧ J (pre ++ [x]) W' ∧ KeepsWalks W W') ∨ (e = .returned (.bool false) ∧ Jx (pre ++ [x]) W'))
    (W : World) (hJ : AbidesFrom W.heap.size J) (hm : W.cell? ⟨Bm, 0, none⟩ = some (.map (some b))) (hown : CMap W b f) (h0 : J [] W) :
    CallsIn F n Tryz.prog 84 #[.func (.yield l) #[] #[], .pointer (some ⟨Bm, 0, none⟩)] W fun e W' => (∃ v, e = .returned v) ∧
      ((∃ ss : List Ky, ss.Perm (f.map (·.1)) ∧ J ss W') ∨ (∃ pre : List Ky, True ∧ Jx pre W')) := by
  refine callsIn_of_wp Tryz.func84 rfl hf ?_ hro
  simp only [Tryz.ntmps84, List.size_toArray, List.length_cons, List.length_nil, Nat.reduceAdd, Nat.reduceSub, Array.replicate_succ, Array.replicate_zero, List.push_toArray, List.append_toArray, List.nil_append, List.cons_append]
  have HJ := hide hJ
  have HY := hide hY
  have H0 := hide h0
  clear hJ hY h0
  gi_wp2_with (first
    | (gi_at_range; refine Mp.wpListIn_range_is rfl _ 70 rfl _ _ Tryz.underlying70 rfl hown ?_; intro w0 hit0 hg0 hs0)
    | gi_in)
  have HIT := hide hit0
  have HG := hide hg0
  clear hit0 hg0 hs0 hown
  go_frame
  gi_loopw [3] (fun _ wr => ∃ (left : List (Ky × Ct)) (ss : List Ky), CIter wr b W.heap.size f left ∧ Hid ((f.map (·.1)).Perm (ss ++ left.map (·.1))) ∧ J ss wr)
    (fun _ wr => wr.rangeLeft b W.heap.size)
  case atStart =>
    exact ⟨f, [], HIT.out, hide (List.Perm.refl _), HJ.out [] W w0 none H0.out HG.out (fun r e => by cases e)⟩
  case round =>
    obtain ⟨left, ss, hit, HP, hJs⟩ := hrel
    have HIT2 := hide hit
    have HJS := hide hJs
    clear hJs
    gi_wp2_with (first
      | (gi_at_next; refine Mp.wpListIn_next_is rfl _ rfl rfl hit ?_ ?_)
      | gi_in)
    · intro hl
      subst hl
      gi_wp2
      go_end0
      exact ⟨⟨_, rfl⟩, .inl ⟨ss, by have := HP.out; simp at this; exact this.symm, HJS.out⟩⟩
    · intro k1 k2 k3 c1 c2 left' w2 hperm hit2 hmem hg2 hs2 hen
      simp only [keyV_mk, cntV_mk] at hen ⊢
      have HIT3 := hide hit2
      have HPM := hide hperm
      have HG2 := hide hg2
      have HS2 := hide hs2
      have HW := hide hit.walk
      clear hit2 hperm hg2 hs2 hmem hit
      have HJ2 : Hid (J ss (w2.alloc (.cells #[.int .i64 k1, .int .i64 k2, .string k3] 64))) := hide (by
        have h2 := HJ.out ss wr w2 (some W.heap.size) HJS.out HG2.out (fun r e => by cases e; exact ⟨Nat.le_refl _, HW.out⟩)
        exact HJ.out ss w2 _ none h2 (World.grownBy_alloc w2 _ none) (fun r e => by cases e))
      have HLEN : Hid (ss.length < f.length) := hide (by
        have h1 := HP.out.length_eq
        have h2 := HPM.out.length_eq
        simp at h1 h2; omega)
      obtain ⟨fn, tmps, assign, body, hy, hR⟩ := HY.out ss (k1, k2, k3) _ HJ2.out HLEN.out
      simp only [keyV_mk] at hy hR
      have HR := hide hR
      clear hR
      gi_wp2
      refine HR.out.mono ?_
      rintro e W3 (⟨rfl, hJ3, hk3⟩ | ⟨rfl, hJx3⟩)
      · have HK3 := hide ((KeepsWalks.alloc w2 (.cells #[.int .i64 k1, .int .i64 k2, .string k3] 64)).trans hk3)
        have HJ3 := hide hJ3
        clear hk3 hJ3 hy hen
        gi_wp2
        have hit4 := HIT3.out.of_walks HK3.out
        go_roundw
        case rel =>
          refine ⟨left', ss ++ [(k1, k2, k3)], hit4, hide ?_, HJ3.out⟩
          refine HP.out.trans ?_
          rw [List.append_assoc]
          exact List.Perm.append_left ss (HPM.out.map (·.1))
        case measure =>
          rw [hit4.left_eq, HIT2.out.left_eq, HPM.out.length_eq]; simp
      · have HJX3 := hide hJx3
        clear hJx3 hy hen
        gi_wp2
        refine bodyPost_ret (results_none rfl _ _ _) rfl ?_
        exact ⟨⟨_, rfl⟩, .inr ⟨ss ++ [(k1, k2, k3)], trivial, HJX3.out⟩⟩

set_option maxHeartbeats 1000000 in
/-- 'maps.Keys(m)': the map is boxed; the function value captures the box. -/
theorem keys_any (mb : Option Nat) (w : World) :
    Calls Tryz.prog 62 #[.map mb] w fun e w' => e = .returned (.func (.func 84) #[] #[.pointer (some ⟨w.heap.size, 0, none⟩)]) ∧ w.alloc (.cells #[.map mb] 70) = w' := by
  go_enter Tryz.func62, Tryz.ntmps62
  go_wp2_with fail
  go_ret
  exact ⟨rfl, rfl⟩

theorem keys_stops (F : Fence) (n : Nat) (hf : F.fn 84) (hro : F.round = none) (hn : 1 ≤ n) (Bm b : Nat) (f : List (Ky × Ct)) (w : World) (hBm : Bm < w.heap.size)
    (hm : w.cell? ⟨Bm, 0, none⟩ = some (.map (some b))) (hown : CMap w b f) :
    SeqStopsK F n Tryz.prog 84 #[.pointer (some ⟨Bm, 0, none⟩)] (fun x : Ky => #[keyV x]) KeepsWalks (fun ss => ss.Perm (f.map (·.1))) (fun _ => True) f.length w := fun l J Jx W hW hJ _ hY h0 =>
  keys1_in F n hf hro hn l Bm b f J Jx hY W hJ ((hW.cell (p := ⟨Bm, 0, none⟩) hBm).trans hm) (Mp.IsMap.below hown hW) h0

theorem key_info : (Tryz.prog.info? 64).map (fun i => (i.zero, i.size, i.bytes)) = some (some (.agg #[.int .i64 0, .int .i64 0, .string ⟨#[]⟩]), 3, 32) := by kernel_rfl
theorem cells_three (W : World) (x y z : Value) (t : TypeId) : ∀ (j : Nat) (u : Value), [x, y, z][j]? = some u → (W.alloc (.cells #[x, y, z] t)).cell? ((⟨W.heap.size, 0, none⟩ : Addr).add j) = some u := by
  intro j u h
  have hj : j < 3 := (List.getElem?_eq_some_iff.1 h).1
  have hadd : (⟨W.heap.size, 0, none⟩ : Addr).add j = ⟨W.heap.size, 0 + j, none⟩ := by unfold Addr.add; split <;> simp_all
  rw [hadd]
  have hb := World.alloc_heap_new W (.cells #[x, y, z] t)
  simp only [World.cell?, hb]
  rcases j with _ | _ | _ | j <;> simp at h ⊢ <;> first | exact h | omega
def keyC (k : Ky) : List Value := [.int .i64 k.1, .int .i64 k.2.1, .string k.2.2]
theorem keyC_mk (a b : Int) (c : ByteArray) : keyC (a, b, c) = [.int .i64 a, .int .i64 b, .string c] := rfl

set_option maxHeartbeats 4000000 in
/-- 'slices.AppendSeq(nil, seq)'. -/
theorem appendSeq_in (F : Fence) (n : Nat) (hf : F.fn 102) (hro : F.round = none) (hn : 2 ≤ n) (g : Nat) (lb : Array Value) (hFg : F.fn g) (eg : ∀ args w, (callFunc g args).run Tryz.prog w = .ok (.enter g args) w)
    (S Sp : List Ky → Prop) (N : Nat) (hN : N ≤ 1000000) (w : World) (hseq : SeqStopsK F (n - 1) Tryz.prog g lb (fun x : Ky => #[keyV x]) KeepsWalks S Sp N w) :
    CallsIn F n Tryz.prog 102 #[.slice none 0 0, .func (.func g) #[] lb] w fun e w' => ∃ (v : Value) (ss : List Ky), e = .returned v ∧ S ss ∧ w'.ownsRow w.heap.size 64 3 v ss.length (ss.flatMap keyC) ∧ (v = .slice none 0 0 ↔ ss = []) ∧ Below w.heap.size w w' := by
  have h1 : 1 ≤ n := by omega
  refine callsIn_of_wp_marks Tryz.func102 rfl hf ?_ hro
  simp only [Tryz.ntmps102, List.size_toArray, List.length_cons, List.length_nil, Nat.reduceAdd, Nat.reduceSub, Array.replicate_succ, Array.replicate_zero, List.push_toArray, List.append_toArray, List.nil_append, List.cons_append]
  gi_wp2
  have bS := Boxed.new w 68 (.slice none 0 0)
  have hB0 : Below w.heap.size w (w.alloc (.cells #[.slice none 0 0] 68)) := (Below.refl _ w).alloc (Nat.le_refl _) _
  have hsz : (w.alloc (.cells #[.slice none 0 0] 68)).heap.size = w.heap.size + 1 := by simp
  obtain ⟨W0, hW0⟩ : ∃ W0, w.alloc (.cells #[.slice none 0 0] 68) = W0 := ⟨_, rfl⟩
  rw [hW0] at bS hB0 hsz ⊢
  clear hW0
  have hi0 : (Tryz.prog.info? 64).map (fun i => (i.zero, i.size, i.bytes)) = some (some (.agg #[.int .i64 0, .int .i64 0, .string ⟨#[]⟩]), 3, 32) := key_info
  obtain ⟨i0, hi, hz0, hz1, hz2⟩ := info_parts hi0
  clear hi0
  refine wpIn_rangeFunc_ownH hro h1 (gf := g) (lb := lb) rfl hFg eg (w0 := w) hseq walksK_t walksK_b hB0 (fun _ => rfl)
    (fun pre W => (∃ v, Boxed W w.heap.size 68 v ∧ W.ownsRow w.heap.size 64 3 v pre.length (pre.flatMap keyC) ∧ (v = .slice none 0 0 ↔ pre = [])) ∧ Below w.heap.size w W)
    (fun _ _ _ => False)
    (OwnFrom.and (Own.from (holdsRow_own w.heap.size w.heap.size 68 64 3 (fun pre : List Ky => pre.length) (fun pre => pre.flatMap keyC) (fun pre v => (v = .slice none 0 0 ↔ pre = []))) _) (ownFrom_below (Nat.le_refl _) (by omega)))
    (fun _ _ _ _ _ hs _ _ => hs)
    ⟨⟨_, bS, World.ownsRow_nil _ _ _ _, by simp⟩, hB0⟩
    (fun x a' W => ∃ Bx, w.heap.size < Bx ∧ W.heap[Bx]? = some (.cells #[.int .i64 x.1, .int .i64 x.2.1, .string x.2.2] 64 (0, 0)) ∧ a' = { tmps := #[.slice none 0 0, .func (.func g) #[] lb, .pointer (some ⟨w.heap.size, 0, none⟩), undef, .slice none 0 0, .pointer (some ⟨Bx, 0, none⟩), .func (.func g) #[] lb, keyV x, undef, undef, undef, undef, undef], defers := [] })
    (fun x a' _ X Y row hs hg hr => by
      obtain ⟨Bx, h1, h2, h3⟩ := hs
      refine ⟨Bx, h1, (hg.block Bx (Array.getElem?_eq_some_iff.1 h2).1 (fun e => ?_)).trans h2, h3⟩
      obtain ⟨_, o, ho, hc⟩ := hr Bx e.symm
      rw [h2] at ho; cases ho; cases hc)
    ?assign ?body ?done ?stop
  case assign =>
    rintro l pre ⟨x1, x2, x3⟩ W K ⟨⟨v, hv, hrow, hnil⟩, hB1⟩ hK
    dsimp only
    rw [keyV_mk]
    have HK := hide hK
    have HNIL := hide hnil
    clear hK hnil
    gi_wp2
    refine HK.out _ _ ((KeepsOthers.alloc _ _).from _) (KeepsWalks.alloc _ _) ⟨⟨v, hv.alloc _, hrow.alloc _, HNIL.out⟩, hB1.alloc hB1.size _⟩ ⟨W.heap.size, hv.lt, World.alloc_heap_new W _, rfl⟩
  case body =>
    rintro l pre ⟨x1, x2, x3⟩ a' W hl ⟨r, hr⟩ ⟨⟨v, hv, hrow, hnil⟩, hB1⟩ ⟨Bx, hBx, hbx, rfl⟩ hlt
    have hcv := hv.cell
    have hx0 := (cell_of_row W Bx 0 _ _ _ hbx).trans (show _ = some (Value.int .i64 x1) from rfl)
    have hx1 := (cell_of_row W Bx 1 _ _ _ hbx).trans (show _ = some (Value.int .i64 x2) from rfl)
    have hx2 := (cell_of_row W Bx 2 _ _ _ hbx).trans (show _ = some (Value.string x3) from rfl)
    have HNIL := hide hnil
    have HBX := hide hbx
    have HV := hide hv
    have HROW := hide hrow
    have HB1 := hide hB1
    have hsz1 := hB1.size
    clear hnil hbx hv hr hrow hB1
    gi_wp2_with (first
      | (gi_at_builtin; refine wpListIn_append_own _ rfl _ _ 68 rfl w.heap.size 64 i0 _ 3 32 Tryz.underlying68 hi hz0 hz1 hz2 rfl (by decide) _ _ _ rfl (HROW.out.alloc _) ⟨W.heap.size, 0, none⟩ 1 1 [.int .i64 x1, .int .i64 x2, .string x3] rfl rfl (cells_three W _ _ _ _) (by simp [Value.oneCell']) (by unfold maxLen; omega) (by omega) (by simp; omega) ?_; intro v' w1 hown' hgrow _; obtain ⟨g', cap', rfl⟩ := ownsRow_succ hown'; obtain ⟨hv1, hv2, hr2, hk2, hb2⟩ := HV.out.appended (by decide) HROW.out hsz1 (Nat.le_refl _) hown' hgrow; have hc1 := hv1.cell; have hf1 := hv1.frozen; have HV1 := hide hv1; have HV2 := hide hv2; have HR2 := hide hr2; have HK2 := hide hk2; have HB2 := hide hb2; clear hv1 hv2 hr2 hk2 hb2 hown' hgrow)
      | gi_in)
    exact ⟨HK2.out.from _, HK2.out.walks, ⟨_, HV2.out, by rw [List.length_append, List.flatMap_append]; simpa [keyC] using HR2.out, by simp⟩, HB1.out.trans HB2.out⟩
  case done =>
    rintro D zs W hD hS ⟨⟨v, hv, hrow, hnil⟩, hB1⟩ hK
    have cS := hv.cell
    have HNIL := hide hnil
    have HV := hide hv
    have HROW := hide hrow
    have HB1 := hide hB1
    have HKK := hide hK
    clear hnil hv hrow hB1 hK
    gi_wp2
    refine ⟨by simp, .inl ⟨_, _, rfl, run_takeDeferred HKK.out, ?_⟩⟩
    exact ⟨_, results_tmp rfl _ _ _, v, zs, rfl, hS, ownsRow_putObj HROW.out _ HKK.out rfl, HNIL.out, HB1.out.trans (belowK_b (w := w) (Nat.le_refl _) W D _ _ (by omega) HKK.out rfl rfl)⟩
  case stop =>
    rintro D c pre W _ _ h _
    exact h.elim
set_option maxHeartbeats 1000000 in
/-- 'slices.Collect(maps.Keys(m))'. -/
theorem collect_any (Bm b : Nat) (f : List (Ky × Ct)) (w : World) (hBm : Bm < w.heap.size) (hm : w.cell? ⟨Bm, 0, none⟩ = some (.map (some b))) (hown : CMap w b f) (hN : f.length ≤ 1000000) :
    Calls Tryz.prog 82 #[.func (.func 84) #[] #[.pointer (some ⟨Bm, 0, none⟩)]] w fun e w' => ∃ (v : Value) (ss : List Ky), e = .returned v ∧ ss.Perm (f.map (·.1)) ∧ w'.ownsRow w.heap.size 64 3 v ss.length (ss.flatMap keyC) ∧ (v = .slice none 0 0 ↔ ss = []) ∧ Below w.heap.size w w' := by
  have h := callsIn_wide.1 (appendSeq_in Fence.wide 6 trivial rfl (by omega) 84 #[.pointer (some ⟨Bm, 0, none⟩)] trivial (enters_of Tryz.func84 (by kernel_rfl) rfl)
    (fun ss => ss.Perm (f.map (·.1))) (fun _ => True) f.length hN w (keys_stops Fence.wide 5 trivial rfl (by omega) Bm b f w hBm hm hown))
  have H := hide h
  clear h hm hown
  go_enter Tryz.func82, Tryz.ntmps82
  go_wp2_with fail
  refine H.out.mono ?_
  rintro e w' ⟨v, ss, rfl, h1, h2, h3, h4⟩
  have H1 := hide h1
  have H2 := hide h2
  have H3 := hide h3
  have H4 := hide h4
  clear h1 h2 h3 h4
  go_wp2_with fail
  go_ret
  exact ⟨v, ss, rfl, H1.out, H2.out, H3.out, H4.out⟩
end Go.Proofs.YticcfbeocepnpaaGreatDoor
