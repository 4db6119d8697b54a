/-
  The model's days.
-/
import Derived.Test.YticcfbeocepnpaaGreatDoorNums
import Derived.Test.YticcfbeocepnpaaGreatDoorOf
import Derived.Deep.RegionLaw
set_option linter.unusedSimpArgs false
set_option maxRecDepth 100000
namespace Go.Proofs.YticcfbeocepnpaaGreatDoor
open Go.RowKit Go.Shelf Pl

/-- Behind the last element below d. -/
def atR (d : Int) : List Int → Nat
  | [] => 0
  | x :: r => if x < d then r.length + 1 else atR d r
def atOf (l : List Int) (d : Int) : Nat := atR d l.reverse
theorem atOf_snoc (l : List Int) (x d : Int) : atOf (l ++ [x]) d = if x < d then l.length + 1 else atOf l d := by
  unfold atOf
  rw [List.reverse_append]
  simp [atR]
theorem atR_le (d : Int) : ∀ l : List Int, atR d l ≤ l.length
  | [] => by simp [atR]
  | x :: r => by
    have := atR_le d r
    simp only [atR, List.length_cons]
    split <;> omega
theorem atOf_le (l : List Int) (d : Int) : atOf l d ≤ l.length := by
  have := atR_le d l.reverse
  rw [List.length_reverse] at this
  exact this
def insD (out : List Int) (d : Int) : List Int := if d ∈ out then out else out.take (atOf out d) ++ [d] ++ out.drop (atOf out d)
def daysM (l : List Int) : List Int := l.foldl insD []
theorem daysM_snoc (l : List Int) (d : Int) : daysM (l ++ [d]) = insD (daysM l) d := by simp [daysM]
theorem insD_length (out : List Int) (d : Int) : (insD out d).length ≤ out.length + 1 := by
  have := atOf_le out d
  unfold insD
  split
  · omega
  · simp; omega
theorem foldl_length : ∀ (l acc : List Int), (l.foldl insD acc).length ≤ acc.length + l.length
  | [], acc => by simp
  | x :: r, acc => by
    have h1 := insD_length acc x
    have h2 := foldl_length r (insD acc x)
    simp only [List.foldl_cons, List.length_cons]
    omega
theorem daysM_length (l : List Int) : (daysM l).length ≤ l.length := by
  have := foldl_length l []
  simpa [daysM] using this

set_option maxHeartbeats 4000000 in
theorem daysM_any (a : Option Addr) (n c : Nat) (l : List EvC) (w : World) (h : EvsAt w a n c l) (hok : ∀ e ∈ l, e.ev.err = 0) (hn : n ≤ 1000) :
    Calls Tryz.prog 15 #[.slice a n c] w fun e w' => ∃ (v : Value) (ds : List Int), ds = daysM (l.map fun e => e.ev.m / 1440) ∧ e = .returned v ∧ w'.ownsRow w.heap.size 3 1 v ds.length (intsC ds) ∧ Below w.heap.size w w' := by
  have HE := hide h
  have HOK := hide hok
  have hr := h.room
  have hc := h.capm
  have hl := h.len
  clear h hok
  obtain ⟨i0, hi, hz0, hz1, hz2⟩ := info_parts int_info
  obtain ⟨dl, hdl⟩ : ∃ dl, l.map (fun e => e.ev.m / 1440) = dl := ⟨_, rfl⟩
  have HDL := hide hdl
  rw [hdl]
  clear hdl
  go_enter Tryz.func15, Tryz.ntmps15
  go_wp2_with fail
  go_loopw [3, 4] (fun vo i wr => ∃ (k : Nat) (A : Option Addr) (no co : Nat), k ≤ n ∧ i = .int .i64 k ∧ vo = .slice A no co ∧ wr.ownsRow w.heap.size 3 1 (.slice A no co) no (intsC (daysM (dl.take k))) ∧ Below w.heap.size w wr) (fun _ i _ => n - (intOf i).toNat)
  case atStart => exact ⟨0, none, 0, 0, by omega, rfl, rfl, World.ownsRow_nil _ _ _ _, Below.refl _ _⟩
  case round =>
    obtain ⟨k, A, no, co, hk, rfl, rfl, hown, hbw⟩ := hrel
    have HO := hide hown
    have HB := hide hbw
    have hsz := hbw.size
    have hnl : (daysM (dl.take k)).length = no := by have := hown.1; simp [intsC] at this; exact this
    have hno : no ≤ k := by rw [← hnl]; exact Nat.le_trans (daysM_length _) (List.length_take_le _ _)
    obtain ⟨out, hout⟩ : ∃ out, daysM (dl.take k) = out := ⟨_, rfl⟩
    rw [hout] at HO hnl
    have HOUT := hide hout
    have HNL := hide hnl
    obtain ⟨A', co', hv, hat⟩ := intsAt_own HO.out
    obtain ⟨rfl, rfl⟩ : A = A' ∧ co = co' := by cases hv; exact ⟨rfl, rfl⟩
    have HAT := hide hat
    have hco : no ≤ co ∧ co ≤ 9223372036854775807 := by
      rcases HO.out.2 with ⟨h, rfl⟩ | ⟨g, cap, cur, h, _, _, h2, h3, _⟩
      · cases h; omega
      · cases h; unfold maxLen at h3; omega
    obtain ⟨hco1, hco2⟩ := hco
    clear hown hbw hout hnl hv hat
    by_cases hlt : k < n
    · obtain ⟨b, o, ⟨cs, ev, ga, gn, gc, sa, sn, sc⟩, ha, he, hev, hcells⟩ := HE.out.at hlt
      simp only at hev hcells
      have hev := EvAt.ofBelow hev HB.out
      have hcells : ∀ (j : Nat) v, cs[j]? = some v → wr.cell? ⟨b, o + k * 20 + j, none⟩ = some v := fun j v hv => (HB.out.cell (block_lt_of_cell (hcells j v hv))).trans (hcells j v hv)
      subst ha
      have hm := HOK.out _ (List.mem_of_getElem? he)
      simp only at hm
      obtain ⟨hm1, hm2⟩ := evErr_range hm
      have HI : Hid ((Tryz.prog.info? 27).map (·.size) = some cs.size) := hide (by rw [hev.len]; rfl)
      have hm0 := hev.at_.c0
      have HC := hide hcells
      obtain ⟨d, hd⟩ : ∃ d, ev.m / 1440 = d := ⟨_, rfl⟩
      have HD : Hid (Calls Tryz.prog 34 #[.agg cs] wr fun e w'' => e = .returned (.int .i64 d) ∧ Below wr.heap.size wr w'') := hide (by
        rw [← hd]
        exact (day_any cs ev.m wr hm0 hm1 hm2).mono (by rintro e w'' ⟨rfl, rfl⟩; exact ⟨rfl, (Below.refl _ _).alloc (Nat.le_refl _) _⟩))
      have HTK : Hid (daysM (dl.take (k + 1)) = insD out d) := hide (by
        rw [← HOUT.out, ← daysM_snoc]
        congr 1
        rw [List.take_add_one, ← HDL.out, List.getElem?_map, he]
        simp [hd])
      have hdr : -9223372036854775808 ≤ d ∧ d ≤ 9223372036854775807 := by omega
      obtain ⟨hd1, hd2⟩ := hdr
      clear hcells hev he hm hm0 hd hm1 hm2
      go_wp2_with (first
        | (refine wpList_load_cells rfl 27 _ rfl b (o + k * 20) rfl _ cs HC.out Tryz.underlying27 rfl HI.out ?_))
      refine HD.out.mono ?_
      rintro e w1 ⟨rfl, hb1⟩
      have HB1 := hide (HB.out.trans (hb1.mono hsz))
      have hsz1 := HB1.out.size
      have HAT1 := hide (HAT.out.below hb1)
      have HO1 := hide (ownsRow_below HO.out hb1)
      clear hb1
      go_wp2_with fail
      go_loopw [6, 7, 8] (fun at_ kn i wi => ∃ (j p : Nat) (q : Bool), j ≤ no ∧ i = .int .i64 j ∧ at_ = .int .i64 p ∧ kn = .bool q ∧ Hid (p = atOf (out.take j) d) ∧ Hid (q = decide (d ∈ out.take j)) ∧ p ≤ j ∧ w1 = wi) (fun _ _ i _ => no - (intOf i).toNat)
      case atStart => exact ⟨0, 0, false, by omega, rfl, rfl, rfl, rfl, by simp [Hid], by omega, rfl⟩
      case round =>
        obtain ⟨j, p, q, hj, rfl, rfl, rfl, HP, HQ, hpj, rfl⟩ := hrel
        by_cases hlj : j < no
        · obtain ⟨g, rfl, hcs⟩ := HAT1.out.cells (by omega)
          obtain ⟨x, hx⟩ : ∃ x, out[j]? = some x := ⟨_, List.getElem?_eq_getElem (by rw [HNL.out]; exact hlj)⟩
          have cx := hcs j x hx
          have HP2 : Hid (atOf (out.take (j + 1)) d = if x < d then j + 1 else p) := hide (by
            rw [List.take_add_one, hx]
            show atOf (out.take j ++ [x]) d = _
            rw [atOf_snoc, HP.out, List.length_take, Nat.min_eq_left (by rw [HNL.out]; omega)])
          have HQ2 : Hid (decide (d ∈ out.take (j + 1)) = (q || decide (x = d))) := hide (by
            rw [List.take_add_one, hx, HQ.out]
            simp [List.mem_append, eq_comm])
          clear hcs hx
          have hxd : (x = d ∧ ¬ x < d) ∨ (¬ x = d ∧ x < d) ∨ (¬ x = d ∧ ¬ x < d) := by omega
          cases q
          · rcases hxd with ⟨h1, h2⟩ | ⟨h1, h2⟩ | ⟨h1, h2⟩
            · subst h1
              have H1 : Hid (atOf (out.take (j + 1)) x = p) := hide (by rw [HP2.out, if_neg h2])
              clear h2
              go_wp2_with fail
              go_roundw
              case rel => exact ⟨j + 1, p, true, by omega, by go_num, rfl, rfl, H1.out.symm, by rw [Hid, HQ2.out]; simp, by omega, (by first | rfl | trivial)⟩
              case measure => simp [intOf]; omega
            · have H1 : Hid (atOf (out.take (j + 1)) d = j + 1) := hide (by rw [HP2.out, if_pos h2])
              have hb1 : (x == d) = false := by simpa using h1
              have HH1 := hide h1
              clear h1
              go_wp2_with fail
              go_roundw
              case rel => exact ⟨j + 1, j + 1, false, by omega, by go_num, by go_num, rfl, H1.out.symm, by rw [Hid, HQ2.out]; simp [HH1.out], by omega, (by first | rfl | trivial)⟩
              case measure => simp [intOf]; omega
            · have H1 : Hid (atOf (out.take (j + 1)) d = p) := hide (by rw [HP2.out, if_neg h2])
              have hb1 : (x == d) = false := by simpa using h1
              have HH1 := hide h1
              clear h1
              go_wp2_with fail
              go_roundw
              case rel => exact ⟨j + 1, p, false, by omega, by go_num, rfl, rfl, H1.out.symm, by rw [Hid, HQ2.out]; simp [HH1.out], by omega, (by first | rfl | trivial)⟩
              case measure => simp [intOf]; omega
          · by_cases h2 : x < d
            · have H1 : Hid (atOf (out.take (j + 1)) d = j + 1) := hide (by rw [HP2.out, if_pos h2])
              clear hxd
              go_wp2_with fail
              go_roundw
              case rel => exact ⟨j + 1, j + 1, true, by omega, by go_num, by go_num, rfl, H1.out.symm, by rw [Hid, HQ2.out]; simp, by omega, (by first | rfl | trivial)⟩
              case measure => simp [intOf]; omega
            · have H1 : Hid (atOf (out.take (j + 1)) d = p) := hide (by rw [HP2.out, if_neg h2])
              clear hxd
              go_wp2_with fail
              go_roundw
              case rel => exact ⟨j + 1, p, true, by omega, by go_num, rfl, rfl, H1.out.symm, by rw [Hid, HQ2.out]; simp, by omega, (by first | rfl | trivial)⟩
              case measure => simp [intOf]; omega
        · obtain rfl : j = no := by omega
          have htk : out.take j = out := List.take_of_length_le (by rw [HNL.out]; exact Nat.le_refl _)
          have HP2 : Hid (p = atOf out d) := hide (by have := HP.out; rwa [htk] at this)
          have HQ2 : Hid (q = decide (d ∈ out)) := hide (by have := HQ.out; rwa [htk] at this)
          clear htk
          cases q
          · have HINS : Hid (daysM (dl.take (k + 1)) = out.take p ++ [d] ++ out.drop p) := hide (by
              rw [HTK.out, insD, if_neg (by have := HQ2.out; simpa using this), HP2.out])
            have hsh : (A = none ∧ j = 0 ∧ co = 0) ∨ ∃ g, A = some ⟨g, 0, none⟩ ∧ g < w1.heap.size := by
              rcases HO1.out.2 with ⟨h, h0⟩ | ⟨g, cap, cur, h, _, h2, _⟩
              · cases h; exact .inl ⟨rfl, rfl, rfl⟩
              · cases h; exact .inr ⟨g, rfl, (Array.getElem?_eq_some_iff.1 h2).1⟩
            have HS1 := hide ((SrcIs.of_own HO1.out).take hpj)
            have HD1 := hide (srcIs_one w1 3 (.int .i64 d))
            have HD2 : Hid (SrcIs ((w1.alloc (.cells #[] 3)).alloc (.cells #[.int .i64 d] 3)) 1 (some ⟨w1.heap.size + 1, 0, none⟩) 1 [.int .i64 d]) := hide (by
              have := srcIs_one (w1.alloc (.cells #[] 3)) 3 (.int .i64 d)
              simpa using this)
            have HDA0 : Hid (((w1.alloc (.cells #[.int .i64 d] 3)).alloc (.cells #[] 3)).ownsRow w1.heap.size 3 1 (.slice (some ⟨w1.heap.size + 1, 0, none⟩) 0 0) 0 []) := hide (by
              have := ownsRow_built0 (w1.alloc (.cells #[.int .i64 d] 3)) w1.heap.size 3 1 (by simp)
              simpa using this)
            have HBA : Hid (Below w1.heap.size w1 (w1.alloc (.cells #[] 3))) := hide ((Below.refl _ _).alloc (Nat.le_refl _) _)
            have HBAD : Hid (Below w1.heap.size w1 ((w1.alloc (.cells #[] 3)).alloc (.cells #[.int .i64 d] 3))) := hide (((Below.refl _ _).alloc (Nat.le_refl _) _).alloc (by simp) _)
            have HBDA : Hid (Below w1.heap.size w1 ((w1.alloc (.cells #[.int .i64 d] 3)).alloc (.cells #[] 3))) := hide (((Below.refl _ _).alloc (Nat.le_refl _) _).alloc (by simp) _)
            rcases hsh with ⟨rfl, rfl, rfl⟩ | ⟨g, rfl, hg⟩
            · obtain rfl : p = 0 := by omega
              have HS2 : Hid (SrcIs w1 1 none (0 - 0) ((intsC out).drop (0 * 1))) := hide (by
                have := SrcIs.of_own HO1.out
                simpa using this)
              go_wp2_with fail
              go_region_law (first
                | (refine step_append_src _ rfl (.tmp 45) (.tmp 48) 38 rfl w1.heap.size 3 i0 (.int .i64 0) 1 8 Tryz.underlying38 hi hz0 hz1 hz2 rfl (by decide) _ 0 [] rfl ?_ _ 0 _ ((intsC out).take (0 * 1)) rfl ?_ (fun u hu => intsC_one _ u (List.mem_of_mem_take hu)) (by unfold maxLen; omega) (by omega) ?_ ?_; (· (first | exact ownsRow_built0 w1 _ _ _ (Nat.le_refl _) | exact (ownsRow_built0 w1 _ _ _ (Nat.le_refl _)).alloc _ | exact HDA0.out)); (· (first | exact HS1.out.alloc _ | exact (HS1.out.alloc _).alloc _)); (· (first | (simp; done) | (simp; omega))); intro v3 w3 hown3 hgr3; replace hgr3 := (show World.grownBy _ w3 (some _) from hgr3); have hb3 : Below w1.heap.size w1 w3 := (by first | exact HBA.out.drew.grown hgr3 (by first | (simp; done) | (simp; omega)) (by intro q e; cases e; simp) | exact HBAD.out.drew.grown hgr3 (by first | (simp; done) | (simp; omega)) (by intro q e; cases e; simp) | exact HBDA.out.drew.grown hgr3 (by first | (simp; done) | (simp; omega)) (by intro q e; cases e; simp)); have hsz3 := hb3.size)
                | (refine step_append_src _ rfl (.tmp 49) (.tmp 51) 38 rfl w1.heap.size 3 i0 (.int .i64 0) 1 8 Tryz.underlying38 hi hz0 hz1 hz2 rfl (by decide) _ (0 + 0) ([] ++ (intsC out).take (0 * 1)) rfl ?_ _ 1 _ [.int .i64 d] rfl ?_ (by simp [Value.oneCell']) (by unfold maxLen; omega) (by omega) ?_ ?_; (· (first | exact hown3 | exact hown3.alloc _ | (first | exact ownsRow_built0 w1 _ _ _ (Nat.le_refl _) | exact (ownsRow_built0 w1 _ _ _ (Nat.le_refl _)).alloc _ | exact HDA0.out))); (· (first | exact HD1.out.alloc _ | exact HD2.out | exact (HD1.out.alloc (.cells #[] 3)).drew_.grown hgr3 (by intro ad e; cases e; simp [Value.ownBlock]) | exact HD2.out.drew_.grown hgr3 (by intro ad e; cases e; simp [Value.ownBlock]) | exact srcIs_one _ _ _)); (· (first | exact hsz3 | (simp; done) | (simp; omega))); intro v5 w5 hown5 hgr5; replace hgr5 := (show World.grownBy _ w5 v3.ownBlock from hgr5); have hb5 : Below w1.heap.size w1 w5 := (by first | exact hb3.grown hgr5 hsz3 (fun q e => (hown3.lt q e).1) | exact (hb3.alloc hsz3 _).grown hgr5 (by simp; omega) (fun q e => (hown3.lt q e).1)); have hsz5 := hb5.size)
                | (refine step_append_src _ rfl (.tmp 52) (.tmp 55) 38 rfl w1.heap.size 3 i0 (.int .i64 0) 1 8 Tryz.underlying38 hi hz0 hz1 hz2 rfl (by decide) _ (0 + 0 + 1) (([] ++ (intsC out).take (0 * 1)) ++ [.int .i64 d]) rfl ?_ _ (0 - 0) _ ((intsC out).drop (0 * 1)) rfl ?_ (fun u hu => intsC_one _ u (List.mem_of_mem_drop hu)) (by unfold maxLen; omega) (by omega) ?_ ?_; (· exact hown5); (· exact HS2.out.below hb5); (· exact hsz5); intro v7 w7 hown7 hgr7; replace hgr7 := (show World.grownBy _ w7 v5.ownBlock from hgr7); have hb7 : Below w1.heap.size w1 w7 := hb5.grown hgr7 hsz5 (fun q e => (hown5.lt q e).1); clear hgr3 hgr5 hgr7 hown3 hown5 hb3 hb5 hsz3 hsz5))
              all_goals
                have HO7 : Hid (w7.ownsRow w1.heap.size 3 1 v7 (0 + 0 + 1 + (0 - 0)) (intsC (daysM (dl.take (k + 1))))) := hide (by
                  rw [HINS.out]
                  simpa [intsC] using hown7)
                have HB7 := hide hb7
                clear hown7 hb7
                obtain ⟨A7, c7, rfl, hat7⟩ := intsAt_own HO7.out
                clear hat7
                go_wp2_with fail
                go_roundw
                case rel => exact ⟨k + 1, A7, _, c7, by omega, by go_num, rfl, ownsRow_base HO7.out hsz1, HB1.out.trans (HB7.out.mono hsz1)⟩
                case measure => simp [intOf]; omega
            · have HS3 : Hid (SrcIs w1 1 (some (Addr.add ⟨g, 0, none⟩ (p * 1))) (j - p) ((intsC out).drop (p * 1))) := hide (SrcIs.of_own HO1.out).drop
              rw [Nat.mul_one] at HS3
              have hadd : (Addr.add ⟨g, 0, none⟩ p) = (⟨g, p, none⟩ : Addr) := by unfold Addr.add; split <;> simp_all
              rw [hadd] at HS3
              clear hadd
              have hpc : p ≤ co := by omega
              by_cases hcp : co = p
              · have HS2 : Hid (SrcIs w1 1 (some ⟨g, 0, none⟩) (j - p) ((intsC out).drop (p * 1))) := hide (by
                  have h0 : j - p = 0 := by omega
                  refine ⟨by rw [List.length_drop]; simp only [intsC, List.length_map, HNL.out]; omega, fun h => by omega⟩)
                go_wp2_with fail
                go_region_law (first
                  | (refine step_append_src _ rfl (.tmp 45) (.tmp 48) 38 rfl w1.heap.size 3 i0 (.int .i64 0) 1 8 Tryz.underlying38 hi hz0 hz1 hz2 rfl (by decide) _ 0 [] rfl ?_ _ p _ ((intsC out).take (p * 1)) rfl ?_ (fun u hu => intsC_one _ u (List.mem_of_mem_take hu)) (by unfold maxLen; omega) (by omega) ?_ ?_; (· (first | exact ownsRow_built0 w1 _ _ _ (Nat.le_refl _) | exact (ownsRow_built0 w1 _ _ _ (Nat.le_refl _)).alloc _ | exact HDA0.out)); (· (first | exact HS1.out.alloc _ | exact (HS1.out.alloc _).alloc _)); (· (first | (simp; done) | (simp; omega))); intro v3 w3 hown3 hgr3; replace hgr3 := (show World.grownBy _ w3 (some _) from hgr3); have hb3 : Below w1.heap.size w1 w3 := (by first | exact HBA.out.drew.grown hgr3 (by first | (simp; done) | (simp; omega)) (by intro q e; cases e; simp) | exact HBAD.out.drew.grown hgr3 (by first | (simp; done) | (simp; omega)) (by intro q e; cases e; simp) | exact HBDA.out.drew.grown hgr3 (by first | (simp; done) | (simp; omega)) (by intro q e; cases e; simp)); have hsz3 := hb3.size)
                  | (refine step_append_src _ rfl (.tmp 49) (.tmp 51) 38 rfl w1.heap.size 3 i0 (.int .i64 0) 1 8 Tryz.underlying38 hi hz0 hz1 hz2 rfl (by decide) _ (0 + p) ([] ++ (intsC out).take (p * 1)) rfl ?_ _ 1 _ [.int .i64 d] rfl ?_ (by simp [Value.oneCell']) (by unfold maxLen; omega) (by omega) ?_ ?_; (· (first | exact hown3 | exact hown3.alloc _ | (first | exact ownsRow_built0 w1 _ _ _ (Nat.le_refl _) | exact (ownsRow_built0 w1 _ _ _ (Nat.le_refl _)).alloc _ | exact HDA0.out))); (· (first | exact HD1.out.alloc _ | exact HD2.out | exact (HD1.out.alloc (.cells #[] 3)).drew_.grown hgr3 (by intro ad e; cases e; simp [Value.ownBlock]) | exact HD2.out.drew_.grown hgr3 (by intro ad e; cases e; simp [Value.ownBlock]) | exact srcIs_one _ _ _)); (· (first | exact hsz3 | (simp; done) | (simp; omega))); intro v5 w5 hown5 hgr5; replace hgr5 := (show World.grownBy _ w5 v3.ownBlock from hgr5); have hb5 : Below w1.heap.size w1 w5 := (by first | exact hb3.grown hgr5 hsz3 (fun q e => (hown3.lt q e).1) | exact (hb3.alloc hsz3 _).grown hgr5 (by simp; omega) (fun q e => (hown3.lt q e).1)); have hsz5 := hb5.size)
                  | (refine step_append_src _ rfl (.tmp 52) (.tmp 55) 38 rfl w1.heap.size 3 i0 (.int .i64 0) 1 8 Tryz.underlying38 hi hz0 hz1 hz2 rfl (by decide) _ (0 + p + 1) (([] ++ (intsC out).take (p * 1)) ++ [.int .i64 d]) rfl ?_ _ (j - p) _ ((intsC out).drop (p * 1)) rfl ?_ (fun u hu => intsC_one _ u (List.mem_of_mem_drop hu)) (by unfold maxLen; omega) (by omega) ?_ ?_; (· exact hown5); (· exact HS2.out.below hb5); (· exact hsz5); intro v7 w7 hown7 hgr7; replace hgr7 := (show World.grownBy _ w7 v5.ownBlock from hgr7); have hb7 : Below w1.heap.size w1 w7 := hb5.grown hgr7 hsz5 (fun q e => (hown5.lt q e).1); clear hgr3 hgr5 hgr7 hown3 hown5 hb3 hb5 hsz3 hsz5))
                all_goals
                  have HO7 : Hid (w7.ownsRow w1.heap.size 3 1 v7 (p + 1 + (j - p)) (intsC (daysM (dl.take (k + 1))))) := hide (by
                    rw [HINS.out]
                    simpa [intsC] using hown7)
                  have HB7 := hide hb7
                  clear hown7 hb7
                  obtain ⟨A7, c7, rfl, hat7⟩ := intsAt_own HO7.out
                  clear hat7
                  go_wp2_with fail
                  go_roundw
                  case rel => exact ⟨k + 1, A7, _, c7, by omega, by go_num, rfl, ownsRow_base HO7.out hsz1, HB1.out.trans (HB7.out.mono hsz1)⟩
                  case measure => simp [intOf]; omega
              · have HS2 : Hid (SrcIs w1 1 (some ⟨g, p, none⟩) (j - p) ((intsC out).drop (p * 1))) := hide (by rw [Nat.mul_one]; exact HS3.out)
                go_wp2_with fail
                go_region_law (first
                  | (refine step_append_src _ rfl (.tmp 45) (.tmp 48) 38 rfl w1.heap.size 3 i0 (.int .i64 0) 1 8 Tryz.underlying38 hi hz0 hz1 hz2 rfl (by decide) _ 0 [] rfl ?_ _ p _ ((intsC out).take (p * 1)) rfl ?_ (fun u hu => intsC_one _ u (List.mem_of_mem_take hu)) (by unfold maxLen; omega) (by omega) ?_ ?_; (· (first | exact ownsRow_built0 w1 _ _ _ (Nat.le_refl _) | exact (ownsRow_built0 w1 _ _ _ (Nat.le_refl _)).alloc _ | exact HDA0.out)); (· (first | exact HS1.out.alloc _ | exact (HS1.out.alloc _).alloc _)); (· (first | (simp; done) | (simp; omega))); intro v3 w3 hown3 hgr3; replace hgr3 := (show World.grownBy _ w3 (some _) from hgr3); have hb3 : Below w1.heap.size w1 w3 := (by first | exact HBA.out.drew.grown hgr3 (by first | (simp; done) | (simp; omega)) (by intro q e; cases e; simp) | exact HBAD.out.drew.grown hgr3 (by first | (simp; done) | (simp; omega)) (by intro q e; cases e; simp) | exact HBDA.out.drew.grown hgr3 (by first | (simp; done) | (simp; omega)) (by intro q e; cases e; simp)); have hsz3 := hb3.size)
                  | (refine step_append_src _ rfl (.tmp 49) (.tmp 51) 38 rfl w1.heap.size 3 i0 (.int .i64 0) 1 8 Tryz.underlying38 hi hz0 hz1 hz2 rfl (by decide) _ (0 + p) ([] ++ (intsC out).take (p * 1)) rfl ?_ _ 1 _ [.int .i64 d] rfl ?_ (by simp [Value.oneCell']) (by unfold maxLen; omega) (by omega) ?_ ?_; (· (first | exact hown3 | exact hown3.alloc _ | (first | exact ownsRow_built0 w1 _ _ _ (Nat.le_refl _) | exact (ownsRow_built0 w1 _ _ _ (Nat.le_refl _)).alloc _ | exact HDA0.out))); (· (first | exact HD1.out.alloc _ | exact HD2.out | exact (HD1.out.alloc (.cells #[] 3)).drew_.grown hgr3 (by intro ad e; cases e; simp [Value.ownBlock]) | exact HD2.out.drew_.grown hgr3 (by intro ad e; cases e; simp [Value.ownBlock]) | exact srcIs_one _ _ _)); (· (first | exact hsz3 | (simp; done) | (simp; omega))); intro v5 w5 hown5 hgr5; replace hgr5 := (show World.grownBy _ w5 v3.ownBlock from hgr5); have hb5 : Below w1.heap.size w1 w5 := (by first | exact hb3.grown hgr5 hsz3 (fun q e => (hown3.lt q e).1) | exact (hb3.alloc hsz3 _).grown hgr5 (by simp; omega) (fun q e => (hown3.lt q e).1)); have hsz5 := hb5.size)
                  | (refine step_append_src _ rfl (.tmp 52) (.tmp 55) 38 rfl w1.heap.size 3 i0 (.int .i64 0) 1 8 Tryz.underlying38 hi hz0 hz1 hz2 rfl (by decide) _ (0 + p + 1) (([] ++ (intsC out).take (p * 1)) ++ [.int .i64 d]) rfl ?_ _ (j - p) _ ((intsC out).drop (p * 1)) rfl ?_ (fun u hu => intsC_one _ u (List.mem_of_mem_drop hu)) (by unfold maxLen; omega) (by omega) ?_ ?_; (· exact hown5); (· exact HS2.out.below hb5); (· exact hsz5); intro v7 w7 hown7 hgr7; replace hgr7 := (show World.grownBy _ w7 v5.ownBlock from hgr7); have hb7 : Below w1.heap.size w1 w7 := hb5.grown hgr7 hsz5 (fun q e => (hown5.lt q e).1); clear hgr3 hgr5 hgr7 hown3 hown5 hb3 hb5 hsz3 hsz5))
                all_goals
                  have HO7 : Hid (w7.ownsRow w1.heap.size 3 1 v7 (p + 1 + (j - p)) (intsC (daysM (dl.take (k + 1))))) := hide (by
                    rw [HINS.out]
                    simpa [intsC] using hown7)
                  have HB7 := hide hb7
                  clear hown7 hb7
                  obtain ⟨A7, c7, rfl, hat7⟩ := intsAt_own HO7.out
                  clear hat7
                  go_wp2_with fail
                  go_roundw
                  case rel => exact ⟨k + 1, A7, _, c7, by omega, by go_num, rfl, ownsRow_base HO7.out hsz1, HB1.out.trans (HB7.out.mono hsz1)⟩
                  case measure => simp [intOf]; omega
          · have HINS : Hid (daysM (dl.take (k + 1)) = out) := hide (by
              rw [HTK.out, insD, if_pos (by have := HQ2.out; simpa using this)])
            go_wp2_with fail
            go_roundw
            case rel => exact ⟨k + 1, A, j, co, by omega, by go_num, rfl, by rw [HINS.out]; exact HO1.out, HB1.out⟩
            case measure => simp [intOf]; omega
    · obtain rfl : k = n := by omega
      go_wp2_with fail
      go_ret
      refine ⟨_, out, ?_, rfl, ?_, HB.out⟩
      · rw [← HOUT.out, List.take_of_length_le (by rw [← HDL.out, List.length_map, hl]; exact Nat.le_refl _)]
      · rw [HNL.out]; exact HO.out
end Go.Proofs.YticcfbeocepnpaaGreatDoor
