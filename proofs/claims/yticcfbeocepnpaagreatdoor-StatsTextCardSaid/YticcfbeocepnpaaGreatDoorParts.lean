/-
  The walks of the reference of layer 12: Parts, Check, CheckList.
-/
import Derived.Test.YticcfbeocepnpaaGreatDoorProg
import Derived.Test.YticcfbeocepnpaaGreatDoorGroup
import Derived.Test.YticcfbeocepnpaaGreatDoorShelf
import Derived.Outline
import Derived.WalkSpells
import Derived.Maps.AppendAt
import Derived.Deep.Light
import Derived.Deep.DeepCutAuto
import Derived.Deep.QuietTactic
import Derived.BigQuiet
set_option linter.unusedSimpArgs false
set_option maxRecDepth 100000
namespace Go.Proofs.YticcfbeocepnpaaGreatDoor
open Go.RowKit Pl


theorem Tryz.infoS : (Tryz.prog.info? 9).map (fun i => (i.zero, i.size, i.bytes)) = some (some (.string ByteArray.empty), 1, 16) := by kernel_rfl

theorem drop_at (s : ByteArray) (k : Nat) (h : k < s.size) : s.data.toList.drop k = s[k] :: s.data.toList.drop (k + 1) := by
  rw [List.drop_eq_getElem_cons (by exact h)]; rfl
theorem data_append (a b : ByteArray) : (a ++ b).data.toList = a.data.toList ++ b.data.toList := by
  simp [ByteArray.data_append]
theorem extract_one (s : ByteArray) (k : Nat) (h : k < s.size) : (s.extract k (k + 1)).data.toList = [s[k]] := by
  rw [Lib.extract_data]
  rw [drop_at s k h]
  simp
theorem size_append_one (pt s : ByteArray) (k : Nat) (h : k < s.size) : (pt ++ s.extract k (k + 1)).size = pt.size + 1 := by
  rw [← len_data, data_append, extract_one s k h, ← len_data pt]; simp

set_option maxHeartbeats 1000000 in
theorem parts12_any (s : ByteArray) (c : UInt8) (cn : Int) (hcn : cn = (c.toNat : Int)) (w : World) (hs : s.size ≤ 4294967280) :
    Calls Tryz.prog 97 #[.string s, .int .u8 cn] w fun e w' => ∃ ps : List ByteArray, ps.map (·.data.toList) = partsL c s.data.toList ∧ Below w.heap.size w w' ∧
      ∃ v, e = .returned v ∧ w'.ownsRow w.heap.size 9 1 v ps.length (ps.map Value.string) := by
  obtain ⟨i0, hi, hz0, hz1, hz2⟩ := info_parts Tryz.infoS
  have HC := hide hcn
  clear hcn
  obtain ⟨B, hB⟩ : ∃ B, w.heap.size = B := ⟨_, rfl⟩
  rw [hB]
  have HB := hide hB
  clear hB
  go_enter Tryz.func97, Tryz.ntmps97
  go_wp2_with fail
  go_loopw [5, 6, 7] (fun v p i wr => ∃ (k : Nat) (os : List ByteArray) (pt : ByteArray), k ≤ s.size ∧ i = .int .i64 k ∧ p = .string pt ∧
      wr.ownsRow B 9 1 v os.length (os.map Value.string) ∧ Below B w wr ∧ partsL c s.data.toList = os.map (·.data.toList) ++ joinHead pt.data.toList (partsL c (s.data.toList.drop k)) ∧ os.length ≤ k ∧ pt.size ≤ k)
    (fun _ _ i _ => s.size - (intOf i).toNat)
  case atStart => exact ⟨0, [], ByteArray.empty, by omega, rfl, rfl, World.ownsRow_nil _ _ _ _, Below.refl _ _, (by simp; exact (joinHead_nil_parts c _).symm), by simp, by simp⟩
  case round =>
    obtain ⟨k, os, pt, hk, rfl, rfl, hown, hbel, hp, hol, hpt⟩ := hrel
    have HO := hide hown
    have HBel := hide hbel
    have HP := hide hp
    clear hown hbel hp
    by_cases hlt : k < s.size
    · by_cases hx : s[k] = c
      · have hb : ((s[k].toNat : Int) == cn) = true := by rw [HC.out, hx]; simp
        have HX := hide hx
        clear hx
        have hbs : B ≤ wr.heap.size := by rw [← HB.out]; exact HBel.out.size
        go_wp2_with (at_builtin; refine wpList_append_own _ rfl _ _ 25 rfl B 9 i0 (.string ByteArray.empty) 1 16 Tryz.underlying25 hi hz0 hz1 hz2 rfl (by decide) _ _ _ rfl (HO.out.alloc _) ⟨wr.heap.size, 0, none⟩ 1 1 [.string pt] rfl rfl ?c1 ?c2 ?c3 ?c4 ?c5 ?_)
        case c1 => exact cell_one_new _ _ _
        case c2 => intro u hu; simp at hu; subst hu; rfl
        case c3 => simp only [maxLen]; omega
        case c4 => omega
        case c5 => simp; omega
        intro v' w1 hown1 hgr1 _
        go_wp2_with fail
        go_roundw
        case rel =>
          refine ⟨k + 1, os ++ [pt], ByteArray.empty, by omega, by go_num, rfl, by simpa using hown1, (HBel.out.alloc hbs _).grown hgr1 (by simp; omega) ?_, ?_, by simp; omega, by simp⟩
          · intro q hq
            exact ((HO.out.alloc (.cells #[Value.string pt] 9)).lt q hq).1
          · rw [HP.out, drop_at s k hlt, HX.out, joinHead_hit]
            simp
        case measure => simp [intOf]; omega
      · have hb : ((s[k].toNat : Int) == cn) = false := by
          rw [HC.out]; simp; intro h; exact hx (UInt8.toNat_inj.1 (by omega))
        have HX := hide hx
        clear hx
        go_wp2_with fail
        go_roundw
        case rel =>
          refine ⟨k + 1, os, pt ++ s.extract k (k + 1), by omega, by go_num, rfl, HO.out, HBel.out, ?_, by omega, by rw [size_append_one pt s k hlt]; omega⟩
          rw [HP.out, drop_at s k hlt, joinHead_step _ _ _ _ HX.out, data_append, extract_one s k hlt]
        case measure => simp [intOf]; omega
    · obtain rfl : k = s.size := by omega
      have hbs : B ≤ wr.heap.size := by rw [← HB.out]; exact HBel.out.size
      go_wp2_with (at_builtin; refine wpList_append_own _ rfl _ _ 25 rfl B 9 i0 (.string ByteArray.empty) 1 16 Tryz.underlying25 hi hz0 hz1 hz2 rfl (by decide) _ _ _ rfl (HO.out.alloc _) ⟨wr.heap.size, 0, none⟩ 1 1 [.string pt] rfl rfl ?d1 ?d2 ?d3 ?d4 ?d5 ?_)
      case d1 => exact cell_one_new _ _ _
      case d2 => intro u hu; simp at hu; subst hu; rfl
      case d3 => simp only [maxLen]; omega
      case d4 => omega
      case d5 => simp; omega
      intro v' w1 hown1 hgr1 _
      go_wp2_with fail
      go_ret
      refine ⟨os ++ [pt], ?_, (HBel.out.alloc hbs _).grown hgr1 (by simp; omega) ?_, _, rfl, by simpa using hown1⟩
      · rw [HP.out, List.drop_of_length_le (by rw [len_data]; omega), joinHead_end]; simp
      · intro q hq
        exact ((HO.out.alloc (.cells #[Value.string pt] 9)).lt q hq).1

/-- Strings that the call itself has laid: read at their cells. -/
theorem ownsRow_strs {w : World} {base T : Nat} {v : Value} {n : Nat} {ps : List ByteArray} (h : w.ownsRow base T 1 v n (ps.map Value.string)) (hn : 0 < n) :
    ∃ g cap, v = .slice (some ⟨g, 0, none⟩) n cap ∧ CellsS w g 0 ps ∧ n ≤ cap ∧ cap ≤ maxLen ∧ base ≤ g ∧ ps.length = n := by
  have h' := h
  obtain ⟨h1, h2⟩ := h
  rcases h2 with ⟨_, h0⟩ | ⟨g, cap, cur, rfl, hg, hh, h3, h4, h5, h6⟩
  · omega
  · refine ⟨g, cap, rfl, ?_, h3, h4, hg, by simpa using h1⟩
    intro j x hj
    have := h'.cells (g := g) rfl j (.string x) (by simp [hj])
    rw [Addr.add_lit] at this
    simpa using this

/-- bulletinref12.Parts: the parts, in new memory. -/
structure PartsAt (s : ByteArray) (c : UInt8) (w : World) (ps : List ByteArray) (g cap : Nat) (w' : World) : Prop where
  cells : CellsS w' g 0 ps
  parts : ps.map (·.data.toList) = partsL c s.data.toList
  below : Below w.heap.size w w'
  new : w.heap.size ≤ g
  room : ps.length ≤ cap
  capm : cap ≤ maxLen
theorem PartsAt.le {s : ByteArray} {c : UInt8} {w w' : World} {ps : List ByteArray} {g cap : Nat} (h : PartsAt s c w ps g cap w') : ∀ x ∈ ps, x.size ≤ s.size := fun x hx =>
  mem_partsL c s.data.toList x.data.toList (by rw [← h.parts]; exact List.mem_map.2 ⟨x, hx, rfl⟩)
theorem PartsAt.length {s : ByteArray} {c : UInt8} {w w' : World} {ps : List ByteArray} {g cap : Nat} (h : PartsAt s c w ps g cap w') : ps.length = (partsL c s.data.toList).length := by
  rw [← h.parts]; simp
theorem parts12_at (s : ByteArray) (c : UInt8) (cn : Int) (hcn : cn = (c.toNat : Int)) (w : World) (hs : s.size ≤ 4294967280) :
    Calls Tryz.prog 97 #[.string s, .int .u8 cn] w fun e w' => ∃ (ps : List ByteArray) (g cap : Nat), PartsAt s c w ps g cap w' ∧ e = .returned (.slice (some ⟨g, 0, none⟩) ps.length cap) := by
  refine (parts12_any s c cn hcn w hs).mono ?_
  rintro e w' ⟨ps, hp, hb, v, rfl, hown⟩
  have hne : 0 < ps.length := by
    have : (ps.map (·.data.toList)).length = (partsL c s.data.toList).length := by rw [hp]
    have h2 := partsL_ne c s.data.toList
    have h3 := List.length_pos_iff.2 h2
    simp at this; omega
  obtain ⟨g, cap, rfl, hc, h1, h2, h3, _⟩ := ownsRow_strs hown hne
  exact ⟨ps, g, cap, ⟨hc, hp, hb, h3, h1, h2⟩, rfl⟩

theorem check12_any (s : ByteArray) (w : World) (hs : s.size ≤ maxLen) :
    Calls Tryz.prog 78 #[.string s] w fun e w' => e = .returned (.int .i64 (chkL s.data.toList)) ∧ Below w.heap.size w w' := by
  unfold maxLen at hs
  by_cases h0 : 80 < s.size
  · have hf : chkL s.data.toList = 5 := by unfold chkL; rw [if_pos (by rw [len_data]; exact h0)]
    rw [hf]
    clear hf
    go_enter Tryz.func78, Tryz.ntmps78
    go_wp2_with fail
    go_ret
    exact ⟨rfl, Below.refl _ _⟩
  have h1 : s.size ≤ 80 := by omega
  clear h0
  have HC := hide (parts12_at s 46 46 rfl w (by omega))
  go_enter Tryz.func78, Tryz.ntmps78
  go_wp2_with fail
  refine HC.out.mono ?_
  rintro e w1 ⟨ps, g, cap, hsp, rfl⟩
  have HS := hide hsp
  have hl := HS.out.length
  have hl2 := length_partsL 46 s.data.toList
  rw [len_data] at hl2
  have hle : ps.length ≤ 81 := by omega
  have HL := hide hl
  have HCL := hide hsp.cells
  have HLE := hide hsp.le
  have hch : chkL s.data.toList = if (ps.map (·.data.toList)).all compL then (if 10 < ps.length then 9 else 0) else 12 := by
    unfold chkL; rw [if_neg (by rw [len_data]; omega), ← hl, hsp.parts]
  have HCH := hide hch
  obtain ⟨n, hn⟩ : ∃ n, ps.length = n := ⟨_, rfl⟩
  rw [hn] at hle HCH ⊢
  have HN := hide hn
  clear hl hl2 hsp hch hn
  go_wp2_with fail
  go_loop [4] (fun i => ∃ k : Nat, k ≤ n ∧ i = .int .i64 k ∧ ∀ (j : Nat) x, j < k → ps[j]? = some x → compL x.data.toList = true) (fun i => n - (intOf i).toNat)
  case atStart => exact ⟨0, by omega, rfl, fun j x hj => by omega⟩
  case round =>
    obtain ⟨k, hk, rfl, hal⟩ := hrel
    have HA := hide hal
    clear hal
    by_cases hlt : k < n
    · obtain ⟨x, hx⟩ : ∃ x, ps[k]? = some x := ⟨_, List.getElem?_eq_getElem (by rw [HN.out]; exact hlt)⟩
      have hcell : w1.cell? ⟨g, k, none⟩ = some (.string x) := by have := HCL.out k x hx; simpa using this
      have hCk := comp12_any x w1 (by have := HLE.out x (List.mem_of_getElem? hx); unfold maxLen; omega)
      obtain ⟨v, hv⟩ : ∃ v, compL x.data.toList = v := ⟨_, rfl⟩
      rw [hv] at hCk
      have HCk := hide hCk
      have HX := hide hx
      clear hCk hx
      cases v
      · have HF := hide (any_bad_some HX.out hv)
        clear hv
        go_wp2_with (go_at_call 98; refine HCk.out.mono ?_; rintro e w' ⟨rfl, rfl⟩)
        go_ret
        exact ⟨ret_int (by rw [HCH.out, HF.out]; rfl), HS.out.below⟩
      · have HV := hide hv
        clear hv
        go_wp2_with (go_at_call 98; refine HCk.out.mono ?_; rintro e w' ⟨rfl, rfl⟩)
        go_round
        case rel =>
          refine ⟨k + 1, by omega, by go_num, fun j y hj hy => ?_⟩
          rcases Nat.lt_succ_iff_lt_or_eq.1 hj with h | rfl
          · exact HA.out j y h hy
          · rw [HX.out] at hy; cases hy; exact HV.out
        case measure => simp [intOf]; omega
    · have HF := hide (all_good (ss := ps) (fun j x hj => HA.out j x (by have := (List.getElem?_eq_some_iff.1 hj).1; rw [HN.out] at this; omega) hj))
      clear HA
      by_cases h10 : 10 < n
      all_goals
        go_wp2_with fail
        go_ret
        exact ⟨ret_int (by rw [HCH.out, HF.out]; simp [h10]), HS.out.below⟩
end Go.Proofs.YticcfbeocepnpaaGreatDoor
