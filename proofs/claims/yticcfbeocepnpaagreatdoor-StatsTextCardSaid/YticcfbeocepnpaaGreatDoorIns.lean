/-
  insert: a string into a sorted list of strings.
-/
import Derived.Test.YticcfbeocepnpaaGreatDoorDaysM
import Derived.Test.YticcfbeocepnpaaGreatDoorLine
set_option linter.unusedSimpArgs false
set_option maxRecDepth 100000
namespace Go.Proofs.YticcfbeocepnpaaGreatDoor
open Go.RowKit Go.Shelf Pl

def strsC (l : List ByteArray) : List Value := l.map Value.string
theorem strsC_one (l : List ByteArray) : ∀ u ∈ strsC l, u.oneCell' = true := by
  intro u hu
  obtain ⟨x, _, rfl⟩ := List.mem_map.1 hu
  rfl
theorem string_info : (Tryz.prog.info? 9).map (fun i => (i.zero, i.size, i.bytes)) = some (some (.string ⟨#[]⟩), 1, 16) := by kernel_rfl
theorem own_form {w : World} {base : Nat} {e : TypeId} {size : Nat} {v : Value} {n : Nat} {xs : List Value} (h : w.ownsRow base e size v n xs) : ∃ A c, v = .slice A n c := by
  rcases h.2 with ⟨rfl, rfl⟩ | ⟨g, cap, cur, rfl, _⟩
  · exact ⟨none, 0, rfl⟩
  · exact ⟨_, cap, rfl⟩
def ltS (x s : ByteArray) : Bool := Op.bytesLess x.toList s.toList
/-- Behind the elements below s. -/
def atS (s : ByteArray) : List ByteArray → Nat
  | [] => 0
  | x :: r => if ltS x s = true then atS s r + 1 else 0
def insS (l : List ByteArray) (s : ByteArray) : List ByteArray := if l[atS s l]? = some s then l else l.take (atS s l) ++ [s] ++ l.drop (atS s l)
theorem atS_le (s : ByteArray) : ∀ l, atS s l ≤ l.length
  | [] => by simp [atS]
  | x :: r => by
    have := atS_le s r
    simp only [atS, List.length_cons]
    split <;> omega
theorem atS_eq (s : ByteArray) : ∀ (l : List ByteArray) (p : Nat), p ≤ l.length → (∀ (j : Nat) x, j < p → l[j]? = some x → ltS x s = true) → (∀ x, l[p]? = some x → ltS x s = false) → atS s l = p
  | [], p, h, _, _ => by simp at h; simp [atS, h]
  | x :: r, 0, _, _, h => by simp [atS, h x (by simp)]
  | x :: r, p + 1, hp, h1, h2 => by
    have := atS_eq s r p (by simpa using hp) (fun j y hj hy => h1 (j + 1) y (by omega) (by simpa using hy)) (fun y hy => h2 y (by simpa using hy))
    simp [atS, h1 0 x (by omega) (by simp), this]
theorem insS_length (l : List ByteArray) (s : ByteArray) : (insS l s).length ≤ l.length + 1 := by
  have := atS_le s l
  unfold insS
  split
  · omega
  · simp; omega

set_option maxHeartbeats 4000000 in
theorem insert_any (l : List ByteArray) (s : ByteArray) (base : Nat) (A : Option Addr) (n c : Nat) (w : World) (h : w.ownsRow base 9 1 (.slice A n c) n (strsC l)) (hbase : base ≤ w.heap.size) (hn : n ≤ 1000000) :
    Calls Tryz.prog 37 #[.slice A n c, .string s] w fun e w' => ∃ (A' : Option Addr) (n' c' : Nat), e = .returned (.slice A' n' c') ∧ n' = (insS l s).length ∧ w'.ownsRow base 9 1 (.slice A' n' c') n' (strsC (insS l s)) ∧ Below w.heap.size w w' := by
  have HO := hide h
  have hnl : l.length = n := by have := h.1; simp [strsC] at this; exact this
  have HNL := hide hnl
  have hco : n ≤ c ∧ c ≤ 9223372036854775807 := by
    rcases HO.out.2 with ⟨h, rfl⟩ | ⟨g, cap, cur, h, _, _, h2, h3, _⟩
    · cases h; omega
    · cases h; unfold maxLen at h3; omega
  obtain ⟨hco1, hco2⟩ := hco
  have hsh : (A = none ∧ n = 0 ∧ c = 0) ∨ ∃ g, A = some ⟨g, 0, none⟩ ∧ g < w.heap.size := by
    rcases HO.out.2 with ⟨h, h0⟩ | ⟨g, cap, cur, h, _, h2, _⟩
    · cases h; exact .inl ⟨rfl, rfl, rfl⟩
    · cases h; exact .inr ⟨g, rfl, (Array.getElem?_eq_some_iff.1 h2).1⟩
  clear h hnl
  obtain ⟨i0, hi, hz0, hz1, hz2⟩ := info_parts string_info
  have HD1 := hide (srcIs_one w 9 (.string s))
  have HD2 : Hid (SrcIs ((w.alloc (.cells #[] 9)).alloc (.cells #[.string s] 9)) 1 (some ⟨w.heap.size + 1, 0, none⟩) 1 [.string s]) := hide (by
    have := srcIs_one (w.alloc (.cells #[] 9)) 9 (.string s)
    simpa using this)
  have HDA0 : Hid (((w.alloc (.cells #[.string s] 9)).alloc (.cells #[] 9)).ownsRow w.heap.size 9 1 (.slice (some ⟨w.heap.size + 1, 0, none⟩) 0 0) 0 []) := hide (by
    have := ownsRow_built0 (w.alloc (.cells #[.string s] 9)) w.heap.size 9 1 (by simp)
    simpa using this)
  have HBA : Hid (Below w.heap.size w (w.alloc (.cells #[] 9))) := hide ((Below.refl _ _).alloc (Nat.le_refl _) _)
  have HBAD : Hid (Below w.heap.size w ((w.alloc (.cells #[] 9)).alloc (.cells #[.string s] 9))) := hide (((Below.refl _ _).alloc (Nat.le_refl _) _).alloc (by simp) _)
  have HBDA : Hid (Below w.heap.size w ((w.alloc (.cells #[.string s] 9)).alloc (.cells #[] 9))) := hide (((Below.refl _ _).alloc (Nat.le_refl _) _).alloc (by simp) _)
  rcases hsh with ⟨rfl, rfl, rfl⟩ | ⟨g, rfl, hg⟩
  · have hl0 : l = [] := List.eq_nil_of_length_eq_zero HNL.out
    subst hl0
    obtain ⟨l, hl⟩ : ∃ l : List ByteArray, l = [] := ⟨_, rfl⟩
    obtain ⟨p, hp⟩ : ∃ p : Nat, p = 0 := ⟨_, rfl⟩
    have HS1 : Hid (SrcIs w 1 none 0 ((strsC l).take (0 * 1))) := hide (by rw [hl]; exact ⟨rfl, fun h => by omega⟩)
    have HS2 : Hid (SrcIs w 1 none (0 - 0) ((strsC l).drop (0 * 1))) := hide (by rw [hl]; exact ⟨rfl, fun h => by omega⟩)
    have HINS : Hid (insS [] s = l.take 0 ++ [s] ++ l.drop 0) := hide (by rw [hl]; simp [insS, atS])
    have HL := hide hl
    clear hl hp
    go_enter Tryz.func37, Tryz.ntmps37
    go_wp2_with fail
    go_loopw [5] (fun i wr => i = .int .i64 0 ∧ w = wr) (fun _ _ => 0)
    case atStart => exact ⟨rfl, rfl⟩
    case round =>
      obtain ⟨rfl, rfl⟩ := hrel
      go_wp2_with fail
      go_region_law (first
        | (refine step_append_src _ rfl (.tmp 33) (.tmp 36) 25 rfl w.heap.size 9 i0 (.string ⟨#[]⟩) 1 16 Tryz.underlying25 hi hz0 hz1 hz2 rfl (by decide) _ 0 [] rfl ?_ _ 0 _ ((strsC l).take (0 * 1)) rfl ?_ (fun u hu => strsC_one _ u (List.mem_of_mem_take hu)) (by unfold maxLen; omega) (by omega) ?_ ?_; (· (first | exact ownsRow_built0 w _ _ _ (Nat.le_refl _) | exact (ownsRow_built0 w _ _ _ (Nat.le_refl _)).alloc _ | exact HDA0.out)); (· (first | exact HS1.out.alloc _ | exact (HS1.out.alloc _).alloc _)); (· (first | (simp; done) | (simp; omega))); intro v3 w3 hown3 hgr3; replace hgr3 := (show World.grownBy _ w3 (some _) from hgr3); have hb3 : Below w.heap.size w w3 := (by first | exact HBA.out.drew.grown hgr3 (by first | (simp; done) | (simp; omega)) (by intro q e; cases e; simp) | exact HBAD.out.drew.grown hgr3 (by first | (simp; done) | (simp; omega)) (by intro q e; cases e; simp) | exact HBDA.out.drew.grown hgr3 (by first | (simp; done) | (simp; omega)) (by intro q e; cases e; simp)); have hsz3 := hb3.size)
        | (refine step_append_src _ rfl (.tmp 37) (.tmp 39) 25 rfl w.heap.size 9 i0 (.string ⟨#[]⟩) 1 16 Tryz.underlying25 hi hz0 hz1 hz2 rfl (by decide) _ (0 + 0) ([] ++ (strsC l).take (0 * 1)) rfl ?_ _ 1 _ [.string s] rfl ?_ (by simp [Value.oneCell']) (by unfold maxLen; omega) (by omega) ?_ ?_; (· (first | exact hown3 | exact hown3.alloc _ | (first | exact ownsRow_built0 w _ _ _ (Nat.le_refl _) | exact (ownsRow_built0 w _ _ _ (Nat.le_refl _)).alloc _ | exact HDA0.out))); (· (first | exact HD1.out.alloc _ | exact HD2.out | exact (HD1.out.alloc (.cells #[] 9)).drew_.grown hgr3 (by intro ad e; cases e; simp [Value.ownBlock]) | exact HD2.out.drew_.grown hgr3 (by intro ad e; cases e; simp [Value.ownBlock]) | exact srcIs_one _ _ _)); (· (first | exact hsz3 | (simp; done) | (simp; omega))); intro v5 w5 hown5 hgr5; replace hgr5 := (show World.grownBy _ w5 v3.ownBlock from hgr5); have hb5 : Below w.heap.size w w5 := (by first | exact hb3.grown hgr5 hsz3 (fun q e => (hown3.lt q e).1) | exact (hb3.alloc hsz3 _).grown hgr5 (by simp; omega) (fun q e => (hown3.lt q e).1)); have hsz5 := hb5.size)
        | (refine step_append_src _ rfl (.tmp 40) (.tmp 43) 25 rfl w.heap.size 9 i0 (.string ⟨#[]⟩) 1 16 Tryz.underlying25 hi hz0 hz1 hz2 rfl (by decide) _ (0 + 0 + 1) (([] ++ (strsC l).take (0 * 1)) ++ [.string s]) rfl ?_ _ (0 - 0) _ ((strsC l).drop (0 * 1)) rfl ?_ (fun u hu => strsC_one _ u (List.mem_of_mem_drop hu)) (by unfold maxLen; omega) (by omega) ?_ ?_; (· exact hown5); (· exact HS2.out.below hb5); (· exact hsz5); intro v7 w7 hown7 hgr7; replace hgr7 := (show World.grownBy _ w7 v5.ownBlock from hgr7); have hb7 : Below w.heap.size w w7 := hb5.grown hgr7 hsz5 (fun q e => (hown5.lt q e).1); clear hgr3 hgr5 hgr7 hown3 hown5 hb3 hb5 hsz3 hsz5))
      all_goals
        have HO7 : Hid (w7.ownsRow w.heap.size 9 1 v7 (0 + 0 + 1 + (0 - 0)) (strsC (insS [] s))) := hide (by
          rw [HINS.out]
          simpa [strsC] using hown7)
        have HB7 := hide hb7
        clear hown7 hb7
        obtain ⟨A7, c7, rfl⟩ := own_form HO7.out
        go_wp2_with fail
        go_ret
        exact ⟨A7, _, c7, rfl, by have := HO7.out.1; simp [strsC] at this; omega, ownsRow_base HO7.out hbase, HB7.out⟩
  · have HCELL : Hid (∀ (j : Nat) x, l[j]? = some x → w.cell? ⟨g, j, none⟩ = some (.string x)) := hide fun j x hx => by
      rw [HO.out.cellAt j (by rw [← HNL.out]; have := (List.getElem?_eq_some_iff.1 hx).1; omega), strsC, List.getElem?_map, hx]; rfl
    go_enter Tryz.func37, Tryz.ntmps37
    go_wp2_with fail
    go_loopw [5] (fun i wr => ∃ p : Nat, p ≤ n ∧ i = .int .i64 p ∧ w = wr ∧ Hid (∀ (j : Nat) x, j < p → l[j]? = some x → ltS x s = true)) (fun i _ => n - (intOf i).toNat)
    case atStart => exact ⟨0, by omega, rfl, rfl, fun j x hj => by omega⟩
    case round =>
      obtain ⟨p, hp, rfl, rfl, HLT⟩ := hrel
      by_cases hlt : p < n
      · obtain ⟨x, hx⟩ : ∃ x, l[p]? = some x := ⟨_, List.getElem?_eq_getElem (by rw [HNL.out]; exact hlt)⟩
        have c1 := HCELL.out p x hx
        have HX := hide hx
        clear hx
        cases hxs : ltS x s with
        | true =>
          have hb : Op.bytesLess x.toList s.toList = true := hxs
          have HXS := hide hxs
          clear hxs
          go_wp2_with fail
          go_roundw
          case rel =>
            refine ⟨p + 1, by omega, by go_num, (by first | rfl | trivial), fun j y hj hy => ?_⟩
            rcases Nat.lt_succ_iff_lt_or_eq.1 hj with hj | rfl
            · exact HLT.out j y hj hy
            · rw [HX.out] at hy; cases hy; exact HXS.out
          case measure => simp [intOf]; omega
        | false =>
          have hb : Op.bytesLess x.toList s.toList = false := hxs
          have HAT : Hid (atS s l = p) := hide (atS_eq s l p (by rw [HNL.out]; exact hp) HLT.out (fun y hy => by rw [HX.out] at hy; cases hy; exact hxs))
          clear hxs
          by_cases hxy : x = s
          · have he : (x.toList == s.toList) = true := by rw [toList_beq]; simp [hxy]
            have HINS : Hid (insS l s = l) := hide (by unfold insS; rw [HAT.out, HX.out, hxy, if_pos rfl])
            clear hxy
            go_wp2_with fail
            go_ret
            exact ⟨_, _, _, rfl, by rw [HINS.out, HNL.out], by rw [HINS.out]; exact HO.out, Below.refl _ _⟩
          · have he : (x.toList == s.toList) = false := by rw [toList_beq]; simp [hxy]
            have HINS : Hid (insS l s = l.take p ++ [s] ++ l.drop p) := hide (by unfold insS; rw [HAT.out, HX.out, if_neg (by simpa using hxy)])
            clear hxy
            have HS1 := hide ((SrcIs.of_own HO.out).take hp)
            have HS3 : Hid (SrcIs w 1 (some (Addr.add ⟨g, 0, none⟩ (p * 1))) (n - p) ((strsC l).drop (p * 1))) := hide (SrcIs.of_own HO.out).drop
            rw [Nat.mul_one] at HS3
            have hadd : (Addr.add ⟨g, 0, none⟩ p) = (⟨g, p, none⟩ : Addr) := by unfold Addr.add; split <;> simp_all
            rw [hadd] at HS3
            clear hadd
            have hpc : p ≤ c := by omega
            have hpn : p ≤ n := by omega
            have hcp : ¬ c = p := by omega
            have HS2 : Hid (SrcIs w 1 (some ⟨g, p, none⟩) (n - p) ((strsC l).drop (p * 1))) := hide (by rw [Nat.mul_one]; exact HS3.out)
            go_wp2_with fail
            go_region_law (first
              | (refine step_append_src _ rfl (.tmp 33) (.tmp 36) 25 rfl w.heap.size 9 i0 (.string ⟨#[]⟩) 1 16 Tryz.underlying25 hi hz0 hz1 hz2 rfl (by decide) _ 0 [] rfl ?_ _ p _ ((strsC l).take (p * 1)) rfl ?_ (fun u hu => strsC_one _ u (List.mem_of_mem_take hu)) (by unfold maxLen; omega) (by omega) ?_ ?_; (· (first | exact ownsRow_built0 w _ _ _ (Nat.le_refl _) | exact (ownsRow_built0 w _ _ _ (Nat.le_refl _)).alloc _ | exact HDA0.out)); (· (first | exact HS1.out.alloc _ | exact (HS1.out.alloc _).alloc _)); (· (first | (simp; done) | (simp; omega))); intro v3 w3 hown3 hgr3; replace hgr3 := (show World.grownBy _ w3 (some _) from hgr3); have hb3 : Below w.heap.size w w3 := (by first | exact HBA.out.drew.grown hgr3 (by first | (simp; done) | (simp; omega)) (by intro q e; cases e; simp) | exact HBAD.out.drew.grown hgr3 (by first | (simp; done) | (simp; omega)) (by intro q e; cases e; simp) | exact HBDA.out.drew.grown hgr3 (by first | (simp; done) | (simp; omega)) (by intro q e; cases e; simp)); have hsz3 := hb3.size)
              | (refine step_append_src _ rfl (.tmp 37) (.tmp 39) 25 rfl w.heap.size 9 i0 (.string ⟨#[]⟩) 1 16 Tryz.underlying25 hi hz0 hz1 hz2 rfl (by decide) _ (0 + p) ([] ++ (strsC l).take (p * 1)) rfl ?_ _ 1 _ [.string s] rfl ?_ (by simp [Value.oneCell']) (by unfold maxLen; omega) (by omega) ?_ ?_; (· (first | exact hown3 | exact hown3.alloc _ | (first | exact ownsRow_built0 w _ _ _ (Nat.le_refl _) | exact (ownsRow_built0 w _ _ _ (Nat.le_refl _)).alloc _ | exact HDA0.out))); (· (first | exact HD1.out.alloc _ | exact HD2.out | exact (HD1.out.alloc (.cells #[] 9)).drew_.grown hgr3 (by intro ad e; cases e; simp [Value.ownBlock]) | exact HD2.out.drew_.grown hgr3 (by intro ad e; cases e; simp [Value.ownBlock]) | exact srcIs_one _ _ _)); (· (first | exact hsz3 | (simp; done) | (simp; omega))); intro v5 w5 hown5 hgr5; replace hgr5 := (show World.grownBy _ w5 v3.ownBlock from hgr5); have hb5 : Below w.heap.size w w5 := (by first | exact hb3.grown hgr5 hsz3 (fun q e => (hown3.lt q e).1) | exact (hb3.alloc hsz3 _).grown hgr5 (by simp; omega) (fun q e => (hown3.lt q e).1)); have hsz5 := hb5.size)
              | (refine step_append_src _ rfl (.tmp 40) (.tmp 43) 25 rfl w.heap.size 9 i0 (.string ⟨#[]⟩) 1 16 Tryz.underlying25 hi hz0 hz1 hz2 rfl (by decide) _ (0 + p + 1) (([] ++ (strsC l).take (p * 1)) ++ [.string s]) rfl ?_ _ (n - p) _ ((strsC l).drop (p * 1)) rfl ?_ (fun u hu => strsC_one _ u (List.mem_of_mem_drop hu)) (by unfold maxLen; omega) (by omega) ?_ ?_; (· exact hown5); (· exact HS2.out.below hb5); (· exact hsz5); intro v7 w7 hown7 hgr7; replace hgr7 := (show World.grownBy _ w7 v5.ownBlock from hgr7); have hb7 : Below w.heap.size w w7 := hb5.grown hgr7 hsz5 (fun q e => (hown5.lt q e).1); clear hgr3 hgr5 hgr7 hown3 hown5 hb3 hb5 hsz3 hsz5))
            all_goals
              have HO7 : Hid (w7.ownsRow w.heap.size 9 1 v7 (0 + p + 1 + (n - p)) (strsC (insS l s))) := hide (by
                rw [HINS.out]
                simpa [strsC] using hown7)
              have HB7 := hide hb7
              clear hown7 hb7
              obtain ⟨A7, c7, rfl⟩ := own_form HO7.out
              go_wp2_with fail
              go_ret
              exact ⟨A7, _, c7, rfl, by have := HO7.out.1; simp [strsC] at this; omega, ownsRow_base HO7.out hbase, HB7.out⟩
      · obtain rfl : p = n := by omega
        have HAT : Hid (atS s l = p) := hide (atS_eq s l p (by rw [HNL.out]; exact Nat.le_refl _) HLT.out (fun y hy => by rw [List.getElem?_eq_none (by rw [HNL.out]; exact Nat.le_refl _)] at hy; cases hy))
        have HINS : Hid (insS l s = l.take p ++ [s] ++ l.drop p) := hide (by unfold insS; rw [HAT.out, List.getElem?_eq_none (by rw [HNL.out]; exact Nat.le_refl _), if_neg (by simp)])
        have HS1 := hide ((SrcIs.of_own HO.out).take hp)
        have HS3 : Hid (SrcIs w 1 (some (Addr.add ⟨g, 0, none⟩ (p * 1))) (p - p) ((strsC l).drop (p * 1))) := hide (SrcIs.of_own HO.out).drop
        rw [Nat.mul_one] at HS3
        have hadd : (Addr.add ⟨g, 0, none⟩ p) = (⟨g, p, none⟩ : Addr) := by unfold Addr.add; split <;> simp_all
        rw [hadd] at HS3
        clear hadd
        by_cases hcp : c = p
        · have HS2 : Hid (SrcIs w 1 (some ⟨g, 0, none⟩) 0 ((strsC l).drop (p * 1))) := hide (by
            refine ⟨by rw [List.length_drop]; simp only [strsC, List.length_map, HNL.out]; omega, fun h => by omega⟩)
          go_wp2_with fail
          go_region_law (first
            | (refine step_append_src _ rfl (.tmp 33) (.tmp 36) 25 rfl w.heap.size 9 i0 (.string ⟨#[]⟩) 1 16 Tryz.underlying25 hi hz0 hz1 hz2 rfl (by decide) _ 0 [] rfl ?_ _ p _ ((strsC l).take (p * 1)) rfl ?_ (fun u hu => strsC_one _ u (List.mem_of_mem_take hu)) (by unfold maxLen; omega) (by omega) ?_ ?_; (· (first | exact ownsRow_built0 w _ _ _ (Nat.le_refl _) | exact (ownsRow_built0 w _ _ _ (Nat.le_refl _)).alloc _ | exact HDA0.out)); (· (first | exact HS1.out.alloc _ | exact (HS1.out.alloc _).alloc _)); (· (first | (simp; done) | (simp; omega))); intro v3 w3 hown3 hgr3; replace hgr3 := (show World.grownBy _ w3 (some _) from hgr3); have hb3 : Below w.heap.size w w3 := (by first | exact HBA.out.drew.grown hgr3 (by first | (simp; done) | (simp; omega)) (by intro q e; cases e; simp) | exact HBAD.out.drew.grown hgr3 (by first | (simp; done) | (simp; omega)) (by intro q e; cases e; simp) | exact HBDA.out.drew.grown hgr3 (by first | (simp; done) | (simp; omega)) (by intro q e; cases e; simp)); have hsz3 := hb3.size)
            | (refine step_append_src _ rfl (.tmp 37) (.tmp 39) 25 rfl w.heap.size 9 i0 (.string ⟨#[]⟩) 1 16 Tryz.underlying25 hi hz0 hz1 hz2 rfl (by decide) _ (0 + p) ([] ++ (strsC l).take (p * 1)) rfl ?_ _ 1 _ [.string s] rfl ?_ (by simp [Value.oneCell']) (by unfold maxLen; omega) (by omega) ?_ ?_; (· (first | exact hown3 | exact hown3.alloc _ | (first | exact ownsRow_built0 w _ _ _ (Nat.le_refl _) | exact (ownsRow_built0 w _ _ _ (Nat.le_refl _)).alloc _ | exact HDA0.out))); (· (first | exact HD1.out.alloc _ | exact HD2.out | exact (HD1.out.alloc (.cells #[] 9)).drew_.grown hgr3 (by intro ad e; cases e; simp [Value.ownBlock]) | exact HD2.out.drew_.grown hgr3 (by intro ad e; cases e; simp [Value.ownBlock]) | exact srcIs_one _ _ _)); (· (first | exact hsz3 | (simp; done) | (simp; omega))); intro v5 w5 hown5 hgr5; replace hgr5 := (show World.grownBy _ w5 v3.ownBlock from hgr5); have hb5 : Below w.heap.size w w5 := (by first | exact hb3.grown hgr5 hsz3 (fun q e => (hown3.lt q e).1) | exact (hb3.alloc hsz3 _).grown hgr5 (by simp; omega) (fun q e => (hown3.lt q e).1)); have hsz5 := hb5.size)
            | (refine step_append_src _ rfl (.tmp 40) (.tmp 43) 25 rfl w.heap.size 9 i0 (.string ⟨#[]⟩) 1 16 Tryz.underlying25 hi hz0 hz1 hz2 rfl (by decide) _ (0 + p + 1) (([] ++ (strsC l).take (p * 1)) ++ [.string s]) rfl ?_ _ 0 _ ((strsC l).drop (p * 1)) rfl ?_ (fun u hu => strsC_one _ u (List.mem_of_mem_drop hu)) (by unfold maxLen; omega) (by omega) ?_ ?_; (· exact hown5); (· exact HS2.out.below hb5); (· exact hsz5); intro v7 w7 hown7 hgr7; replace hgr7 := (show World.grownBy _ w7 v5.ownBlock from hgr7); have hb7 : Below w.heap.size w w7 := hb5.grown hgr7 hsz5 (fun q e => (hown5.lt q e).1); clear hgr3 hgr5 hgr7 hown3 hown5 hb3 hb5 hsz3 hsz5))
          all_goals
            have HO7 : Hid (w7.ownsRow w.heap.size 9 1 v7 (0 + p + 1 + 0) (strsC (insS l s))) := hide (by
              rw [HINS.out]
              simpa [strsC] using hown7)
            have HB7 := hide hb7
            clear hown7 hb7
            obtain ⟨A7, c7, rfl⟩ := own_form HO7.out
            go_wp2_with fail
            go_ret
            exact ⟨A7, _, c7, rfl, by have := HO7.out.1; simp [strsC] at this; omega, ownsRow_base HO7.out hbase, HB7.out⟩
        · have HS2 : Hid (SrcIs w 1 (some ⟨g, p, none⟩) 0 ((strsC l).drop (p * 1))) := hide (by have := HS3.out; rw [Nat.sub_self] at this; rw [Nat.mul_one]; exact this)
          go_wp2_with fail
          go_region_law (first
            | (refine step_append_src _ rfl (.tmp 33) (.tmp 36) 25 rfl w.heap.size 9 i0 (.string ⟨#[]⟩) 1 16 Tryz.underlying25 hi hz0 hz1 hz2 rfl (by decide) _ 0 [] rfl ?_ _ p _ ((strsC l).take (p * 1)) rfl ?_ (fun u hu => strsC_one _ u (List.mem_of_mem_take hu)) (by unfold maxLen; omega) (by omega) ?_ ?_; (· (first | exact ownsRow_built0 w _ _ _ (Nat.le_refl _) | exact (ownsRow_built0 w _ _ _ (Nat.le_refl _)).alloc _ | exact HDA0.out)); (· (first | exact HS1.out.alloc _ | exact (HS1.out.alloc _).alloc _)); (· (first | (simp; done) | (simp; omega))); intro v3 w3 hown3 hgr3; replace hgr3 := (show World.grownBy _ w3 (some _) from hgr3); have hb3 : Below w.heap.size w w3 := (by first | exact HBA.out.drew.grown hgr3 (by first | (simp; done) | (simp; omega)) (by intro q e; cases e; simp) | exact HBAD.out.drew.grown hgr3 (by first | (simp; done) | (simp; omega)) (by intro q e; cases e; simp) | exact HBDA.out.drew.grown hgr3 (by first | (simp; done) | (simp; omega)) (by intro q e; cases e; simp)); have hsz3 := hb3.size)
            | (refine step_append_src _ rfl (.tmp 37) (.tmp 39) 25 rfl w.heap.size 9 i0 (.string ⟨#[]⟩) 1 16 Tryz.underlying25 hi hz0 hz1 hz2 rfl (by decide) _ (0 + p) ([] ++ (strsC l).take (p * 1)) rfl ?_ _ 1 _ [.string s] rfl ?_ (by simp [Value.oneCell']) (by unfold maxLen; omega) (by omega) ?_ ?_; (· (first | exact hown3 | exact hown3.alloc _ | (first | exact ownsRow_built0 w _ _ _ (Nat.le_refl _) | exact (ownsRow_built0 w _ _ _ (Nat.le_refl _)).alloc _ | exact HDA0.out))); (· (first | exact HD1.out.alloc _ | exact HD2.out | exact (HD1.out.alloc (.cells #[] 9)).drew_.grown hgr3 (by intro ad e; cases e; simp [Value.ownBlock]) | exact HD2.out.drew_.grown hgr3 (by intro ad e; cases e; simp [Value.ownBlock]) | exact srcIs_one _ _ _)); (· (first | exact hsz3 | (simp; done) | (simp; omega))); intro v5 w5 hown5 hgr5; replace hgr5 := (show World.grownBy _ w5 v3.ownBlock from hgr5); have hb5 : Below w.heap.size w w5 := (by first | exact hb3.grown hgr5 hsz3 (fun q e => (hown3.lt q e).1) | exact (hb3.alloc hsz3 _).grown hgr5 (by simp; omega) (fun q e => (hown3.lt q e).1)); have hsz5 := hb5.size)
            | (refine step_append_src _ rfl (.tmp 40) (.tmp 43) 25 rfl w.heap.size 9 i0 (.string ⟨#[]⟩) 1 16 Tryz.underlying25 hi hz0 hz1 hz2 rfl (by decide) _ (0 + p + 1) (([] ++ (strsC l).take (p * 1)) ++ [.string s]) rfl ?_ _ 0 _ ((strsC l).drop (p * 1)) rfl ?_ (fun u hu => strsC_one _ u (List.mem_of_mem_drop hu)) (by unfold maxLen; omega) (by omega) ?_ ?_; (· exact hown5); (· exact HS2.out.below hb5); (· exact hsz5); intro v7 w7 hown7 hgr7; replace hgr7 := (show World.grownBy _ w7 v5.ownBlock from hgr7); have hb7 : Below w.heap.size w w7 := hb5.grown hgr7 hsz5 (fun q e => (hown5.lt q e).1); clear hgr3 hgr5 hgr7 hown3 hown5 hb3 hb5 hsz3 hsz5))
          all_goals
            have HO7 : Hid (w7.ownsRow w.heap.size 9 1 v7 (0 + p + 1 + 0) (strsC (insS l s))) := hide (by
              rw [HINS.out]
              simpa [strsC] using hown7)
            have HB7 := hide hb7
            clear hown7 hb7
            obtain ⟨A7, c7, rfl⟩ := own_form HO7.out
            go_wp2_with fail
            go_ret
            exact ⟨A7, _, c7, rfl, by have := HO7.out.1; simp [strsC] at this; omega, ownsRow_base HO7.out hbase, HB7.out⟩
end Go.Proofs.YticcfbeocepnpaaGreatDoor
