/-
  Days: the days with articles.
-/
import Derived.Test.YticcfbeocepnpaaGreatDoorSort
import Derived.Test.YticcfbeocepnpaaGreatDoorApp
set_option linter.unusedSimpArgs false
set_option maxRecDepth 100000
namespace Go.Proofs.YticcfbeocepnpaaGreatDoor
open Go.RowKit Go.Shelf Pl

def daysOf (ks : List Ky) : List Int := (ks.filter fun k => k.2.1 == 0).map (·.1)
theorem daysOf_snoc (l : List Ky) (x : Ky) : daysOf (l ++ [x]) = if x.2.1 = 0 then daysOf l ++ [x.1] else daysOf l := by
  unfold daysOf
  rw [List.filter_append]
  by_cases h : x.2.1 = 0
  · rw [if_pos h]; simp [h]
  · rw [if_neg h]; simp [h]
theorem daysOf_length (l : List Ky) : (daysOf l).length ≤ l.length := by unfold daysOf; rw [List.length_map]; exact List.length_filter_le _ _
theorem int_info : (Tryz.prog.info? 3).map (fun i => (i.zero, i.size, i.bytes)) = some (some (.int .i64 0), 1, 8) := by kernel_rfl
def intsC (l : List Int) : List Value := l.map (Value.int .i64)
theorem intsC_one (l : List Int) : ∀ u ∈ intsC l, u.oneCell' = true := by
  intro u hu
  obtain ⟨x, _, rfl⟩ := List.mem_map.1 hu
  rfl

/-- Keys in a row: the cells of key k. -/
theorem keys_at {w : World} {base g n c : Nat} {ks : List Ky} (h : w.ownsRow base 64 3 (.slice (some ⟨g, 0, none⟩) n c) n (ks.flatMap keyC)) {k : Nat} {x : Ky} (hx : ks[k]? = some x) :
    w.cell? ⟨g, k * 3, none⟩ = some (.int .i64 x.1) ∧ w.cell? ⟨g, k * 3 + 1, none⟩ = some (.int .i64 x.2.1) ∧ w.cell? ⟨g, k * 3 + 2, none⟩ = some (.string x.2.2) := by
  have hl := flat_length keyC 3 keyC_len ks
  have h1 := h.1
  have hk : k < ks.length := (List.getElem?_eq_some_iff.1 hx).1
  have hn : ks.length = n := by omega
  have hg := fun j => flat_get keyC 3 keyC_len (by omega) ks j
  refine ⟨?_, ?_, ?_⟩
  · rw [h.cellAt _ (by omega), hg, Nat.mul_div_cancel _ (by omega), hx, Nat.mul_mod_left]; rfl
  · rw [h.cellAt _ (by omega), hg, show (k * 3 + 1) / 3 = k by omega, hx, show (k * 3 + 1) % 3 = 1 by omega]; rfl
  · rw [h.cellAt _ (by omega), hg, show (k * 3 + 2) / 3 = k by omega, hx, show (k * 3 + 2) % 3 = 2 by omega]; rfl

set_option maxHeartbeats 2000000 in
theorem days_any (sb mb : Nat) (f : List (Ky × Ct)) (z : List Int) (w : World) (hs : SAt w sb mb f z) (hN : f.length ≤ 1000000) :
    Calls Tryz.prog 14 #[.pointer (some ⟨sb, 0, none⟩)] w fun e w' => ∃ (v : Value) (ds : List Int), ds = daysOf (skeys (f.map (·.1))) ∧ e = .returned v ∧ w'.ownsRow w.heap.size 3 1 v ds.length (intsC ds) ∧ Below w.heap.size w w' := by
  have HS := hide (sorted_any sb mb f z w hs hN)
  clear hs
  have hlen : (skeys (f.map (·.1))).length = f.length := by rw [skeys_length, List.length_map]
  obtain ⟨ks, hks⟩ : ∃ ks, skeys (f.map (·.1)) = ks := ⟨_, rfl⟩
  rw [hks] at HS hlen ⊢
  clear hks
  obtain ⟨n, hn⟩ : ∃ n, f.length = n := ⟨_, rfl⟩
  rw [hn] at HS hlen hN
  have HLEN := hide hlen
  clear hn hlen
  obtain ⟨i0, hi, hz0, hz1, hz2⟩ := info_parts int_info
  go_enter Tryz.func14, Tryz.ntmps14
  go_wp2_with fail
  refine HS.out.mono ?_
  rintro e w1 ⟨v, rfl, hrow, hb⟩
  have HROW := hide hrow
  have HB := hide hb
  have hsz1 := hb.size
  clear hb
  have hsh : (v = .slice none 0 0 ∧ n = 0) ∨ ∃ g cap, v = .slice (some ⟨g, 0, none⟩) n cap ∧ g < w1.heap.size := by
    rcases hrow.2 with h | ⟨g, cap, cur, h, _, h2, _⟩
    · exact .inl h
    · exact .inr ⟨g, cap, h, (Array.getElem?_eq_some_iff.1 h2).1⟩
  clear hrow
  rcases hsh with ⟨rfl, rfl⟩ | ⟨g, cap, rfl, hg⟩
  · go_wp2_with fail
    go_loopw [3, 9] (fun vo i wr => vo = .slice none 0 0 ∧ i = .int .i64 0 ∧ w1 = wr) (fun _ _ _ => 0)
    case atStart => exact ⟨rfl, rfl, rfl⟩
    case round =>
      obtain ⟨rfl, rfl, rfl⟩ := hrel
      go_wp2_with fail
      go_ret
      have hk0 : ks = [] := List.eq_nil_of_length_eq_zero HLEN.out
      refine ⟨_, _, rfl, rfl, ?_, HB.out⟩
      rw [hk0]
      exact World.ownsRow_nil _ _ _ _
  · go_wp2_with fail
    go_loopw [3, 9] (fun vo i wr => ∃ k : Nat, k ≤ n ∧ i = .int .i64 k ∧ wr.ownsRow w1.heap.size 3 1 vo (daysOf (ks.take k)).length (intsC (daysOf (ks.take k))) ∧ Below w1.heap.size w1 wr) (fun _ i _ => n - (intOf i).toNat)
    case atStart => exact ⟨0, by omega, rfl, World.ownsRow_nil _ _ _ _, Below.refl _ _⟩
    case round =>
      obtain ⟨k, hk, rfl, hown, hbw⟩ := hrel
      have HO := hide hown
      have HBW := hide hbw
      have hsz2 := hbw.size
      clear hown hbw
      by_cases hlt : k < n
      · obtain ⟨x, hx⟩ : ∃ x, ks[k]? = some x := ⟨_, List.getElem?_eq_getElem (by rw [HLEN.out]; exact hlt)⟩
        obtain ⟨c0, c1, c2⟩ := keys_at HROW.out hx
        have c0 := (HBW.out.cell (p := ⟨g, k * 3, none⟩) hg).trans c0
        have c1 := (HBW.out.cell (p := ⟨g, k * 3 + 1, none⟩) hg).trans c1
        have c2 := (HBW.out.cell (p := ⟨g, k * 3 + 2, none⟩) hg).trans c2
        obtain ⟨x1, x2, x3⟩ := x
        dsimp only at c0 c1 c2
        have HTK : Hid (daysOf (ks.take (k + 1)) = if x2 = 0 then daysOf (ks.take k) ++ [x1] else daysOf (ks.take k)) := hide (by
          rw [List.take_add_one, hx]; exact daysOf_snoc _ _)
        clear hx
        have hdl : (daysOf (ks.take k)).length ≤ k := Nat.le_trans (daysOf_length _) (List.length_take_le _ _)
        by_cases hx2 : x2 = 0
        · subst hx2
          have HT2 : Hid (daysOf (ks.take (k + 1)) = daysOf (ks.take k) ++ [x1]) := hide (by rw [HTK.out, if_pos rfl])
          clear HTK
          have HSRC : Hid (SrcIs ((wr.alloc (.cells #[.int .i64 x1, .int .i64 0, .string x3] 64)).alloc (.cells #[.int .i64 x1] 3)) 1 (some ⟨wr.heap.size + 1, 0, none⟩) 1 [.int .i64 x1]) := hide (by
            have := srcIs_one (wr.alloc (.cells #[.int .i64 x1, .int .i64 0, .string x3] 64)) 3 (.int .i64 x1)
            simpa using this)
          have HO2 := hide ((HO.out.alloc (.cells #[.int .i64 x1, .int .i64 0, .string x3] 64)).alloc (.cells #[.int .i64 x1] 3))
          go_wp2_with (first
            | (at_builtin; refine wpList_append_src _ rfl _ _ 38 rfl w1.heap.size 3 i0 (.int .i64 0) 1 8 Tryz.underlying38 hi hz0 hz1 hz2 rfl (by decide) _ _ _ rfl HO2.out (some ⟨wr.heap.size + 1, 0, none⟩) 1 1 [.int .i64 x1] rfl HSRC.out (by simp [Value.oneCell']) (by unfold maxLen; omega) (by omega) (by simp; omega) ?_; intro v' w3 hown3 hgr3))
          have HO3 := hide hown3
          have HGR := hide hgr3
          clear hown3 hgr3
          go_roundw
          case rel =>
            refine ⟨k + 1, by omega, by go_num, ?_, ?_⟩
            · rw [HT2.out, List.length_append]
              have := HO3.out
              simpa [intsC] using this
            · exact ((HBW.out.alloc hsz2 _).alloc (by simp; omega) _).grown HGR.out (by simp; omega) (fun q hq => (HO2.out.lt q hq).1)
          case measure => simp [intOf]; omega
        · have HT2 : Hid (daysOf (ks.take (k + 1)) = daysOf (ks.take k)) := hide (by rw [HTK.out, if_neg hx2])
          have hb0 : (x2 == 0) = false := by simpa using hx2
          clear HTK
          go_wp2_with fail
          go_roundw
          case rel => exact ⟨k + 1, by omega, by go_num, by rw [HT2.out]; exact HO.out.alloc _, HBW.out.alloc hsz2 _⟩
          case measure => simp [intOf]; omega
      · obtain rfl : k = n := by omega
        go_wp2_with fail
        go_ret
        refine ⟨_, _, rfl, rfl, ?_, HB.out.trans (HBW.out.mono hsz1)⟩
        have := HO.out
        rw [List.take_of_length_le (by rw [HLEN.out]; exact Nat.le_refl _)] at this
        exact ownsRow_base this hsz1
end Go.Proofs.YticcfbeocepnpaaGreatDoor
