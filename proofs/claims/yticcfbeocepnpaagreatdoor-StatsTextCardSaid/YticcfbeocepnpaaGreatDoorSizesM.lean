/-
  The model's sizes.
-/
import Derived.Test.YticcfbeocepnpaaGreatDoorDaysM
import Derived.Lib.BitFns
set_option linter.unusedSimpArgs false
set_option maxRecDepth 100000
namespace Go.Proofs.YticcfbeocepnpaaGreatDoor
open Go.RowKit Go.Shelf Pl

theorem bitLen_zero : Lib.bitLen 0 = 0 := by decide
theorem bitLen_pos {x : Nat} (h : 0 < x) (hx : x < 2 ^ 64) : Lib.bitLen x = 1 + Lib.bitLen (x / 2) := Lib.bitLen_half x (by omega) hx
theorem lt_bitLen : ∀ (j x : Nat), x < 2 ^ 64 → (0 < x / 2 ^ j ↔ j < Lib.bitLen x)
  | 0, x, hx => by
    rw [Nat.pow_zero, Nat.div_one]
    by_cases h : 0 < x
    · rw [bitLen_pos h hx]; omega
    · have : x = 0 := by omega
      subst this
      rw [bitLen_zero]
  | j + 1, x, hx => by
    have ih := lt_bitLen j (x / 2) (by omega)
    rw [Nat.pow_succ, Nat.mul_comm, ← Nat.div_div_eq_div_mul, ih]
    by_cases h : 0 < x
    · rw [bitLen_pos h hx]; omega
    · have : x = 0 := by omega
      subst this
      rw [Nat.zero_div, bitLen_zero]; omega
theorem shr_pos (b : Int) (j : Nat) (h0 : 0 ≤ b) (h1 : b ≤ 65536) : (0 < b / 2 ^ j) ↔ j < Lib.bitLen b.toNat := by
  rw [← lt_bitLen j b.toNat (by omega)]
  obtain ⟨n, rfl⟩ : ∃ n : Nat, b = n := ⟨b.toNat, by omega⟩
  have : ((n : Int) / 2 ^ j) = ((n / 2 ^ j : Nat) : Int) := by push_cast; rfl
  rw [this, Int.toNat_natCast]
  omega
theorem bitLen_le17 (b : Int) (h0 : 0 ≤ b) (h1 : b ≤ 65536) : Lib.bitLen b.toNat ≤ 17 := by
  apply Nat.le_of_not_lt
  intro h
  have := (shr_pos b 17 h0 h1).2 h
  omega
theorem zOf_length : ∀ l : List Ev, (zOf l).length = 18 := by
  intro l
  unfold zOf
  suffices ∀ (l : List Ev) (z : List Int), (l.foldl (fun z e => zAdd z e.by_) z).length = z.length by rw [this]; simp
  intro l
  induction l with
  | nil => intro z; rfl
  | cons x r ih => intro z; rw [List.foldl_cons, ih]; simp [zAdd]
theorem zOf_range : ∀ (l : List Ev), ∀ x ∈ zOf l, 0 ≤ x ∧ x ≤ l.length := by
  intro l
  unfold zOf
  suffices ∀ (l : List Ev) (z : List Int) (k : Nat), (∀ x ∈ z, 0 ≤ x ∧ x ≤ k) → ∀ x ∈ l.foldl (fun z e => zAdd z e.by_) z, 0 ≤ x ∧ x ≤ (k + l.length : Nat) by
    have := this l (List.replicate 18 0) 0 (by intro x hx; rw [(List.mem_replicate.1 hx).2]; omega)
    simpa using this
  intro l
  induction l with
  | nil => intro z k h; simpa using h
  | cons x r ih =>
    intro z k h y hy
    have := ih _ (k + 1) (zAdd_range h) y hy
    simp only [List.length_cons]; omega

def intsV (z : List Int) : Array Value := (z.map (Value.int .i64)).toArray
theorem intsV_set (z : List Int) (k : Nat) (x : Int) : (intsV z).setIfInBounds k (.int .i64 x) = intsV (z.set k x) := by
  simp [intsV, List.map_set]
theorem intsV_get (z : List Int) (k : Nat) (h : k < z.length) : (intsV z)[k]? = some (.int .i64 (z.getD k 0)) := by
  simp [intsV, h]
theorem intsV_size (z : List Int) : (intsV z).size = z.length := by simp [intsV]

set_option maxHeartbeats 4000000 in
theorem sizesM_any (a : Option Addr) (n c : Nat) (l : List EvC) (w : World) (h : EvsAt w a n c l) (hok : ∀ e ∈ l, e.ev.err = 0) (hn : n ≤ 1000) :
    Calls Tryz.prog 17 #[.slice a n c] w fun e w' => e = .returned (.agg (intsV (zOf (l.map (·.ev))))) ∧ Below w.heap.size w w' := by
  have HE := hide h
  have HOK := hide hok
  have hr := h.room
  have hc := h.capm
  have hl := h.len
  clear h hok
  have HBLW : Hid (Below w.heap.size w ((w.alloc (.cells (List.replicate 18 (.int .i64 0)).toArray 41)).alloc (.cells (List.replicate 18 (.int .i64 0)).toArray 41))) := hide (by (repeat (first | exact Below.refl _ _ | with_reducible assumption | (refine Below.setCell ?_ (by simp <;> omega) _) | (refine Below.alloc ?_ (by simp <;> omega) _))))
  have hA1 := heap_alloc2_new w (.cells (List.replicate 18 (Value.int .i64 0)).toArray 41) (.cells (List.replicate 18 (.int .i64 0)).toArray 41)
  have hA0 := heap_alloc2_old w (.cells (List.replicate 18 (Value.int .i64 0)).toArray 41) (.cells (List.replicate 18 (.int .i64 0)).toArray 41)
  have HA1 := hide hA1
  have HA0 := hide hA0
  clear hA1 hA0
  go_enter Tryz.func17, Tryz.ntmps17
  go_wp2_with fail
  go_loopw [4] (fun i wr => ∃ (k : Nat), k ≤ n ∧ i = .int .i64 k ∧ Below w.heap.size w wr ∧ wr.heap[w.heap.size]? = some (.cells (List.replicate 18 (Value.int .i64 0)).toArray 41 (0, 0)) ∧ wr.heap[w.heap.size + 1]? = some (.cells (intsV (zOf ((l.take k).map (·.ev)))) 41 (0, 0))) (fun i _ => n - (intOf i).toNat)
  case atStart => exact ⟨0, by omega, rfl, HBLW.out, HA0.out, HA1.out⟩
  case round =>
    obtain ⟨k, hk, rfl, hbw, hr0, hr1⟩ := hrel
    have HB := hide hbw
    have hsz := hbw.size
    have HR0 := hide hr0
    have HR1 := hide hr1
    have hz1 := (Array.getElem?_eq_some_iff.1 hr1).1
    clear hbw hr0 hr1
    by_cases hlt : k < n
    · obtain ⟨b, o, ⟨cs, ev, ga, gn, gc, sa, sn, sc⟩, ha, he, hev, hcells⟩ := HE.out.at hlt
      simp only at hev hcells
      subst ha
      have hm := HOK.out _ (List.mem_of_getElem? he)
      simp only at hm
      obtain ⟨hb1, hb2⟩ := evErr_bytes hm
      have c19 := hcells 19 _ hev.at_.c19
      have c19 := (HB.out.cell (block_lt_of_cell c19)).trans c19
      obtain ⟨z, hz⟩ : ∃ z, zOf ((l.take k).map (·.ev)) = z := ⟨_, rfl⟩
      rw [hz] at HR1
      have hzl : z.length = 18 := by rw [← hz]; exact zOf_length _
      have hzr : ∀ x ∈ z, 0 ≤ x ∧ x ≤ 1000 := fun x hx => by
        rw [← hz] at hx
        have := zOf_range _ x hx
        simp at this; omega
      have HZ : Hid (zOf ((l.take (k + 1)).map (·.ev)) = zAdd z ev.by_) := hide (by
        rw [← hz, ← zOf_snoc]
        congr 1
        rw [List.take_add_one, he]
        simp)
      obtain ⟨by_, hby⟩ : ∃ q, ev.by_ = q := ⟨_, rfl⟩
      rw [hby] at hb1 hb2 c19 HZ
      have h17 := bitLen_le17 by_ hb1 hb2
      obtain ⟨L, hL⟩ : ∃ L, Lib.bitLen by_.toNat = L := ⟨_, rfl⟩
      have HLL := hide hL
      have HSHR : Hid (∀ j : Nat, (0 < by_ / 2 ^ j) ↔ j < L) := hide fun j => by rw [← hL]; exact shr_pos by_ j hb1 hb2
      rw [hL] at h17
      have HZL := hide hzl
      have HZR := hide hzr
      clear hm he hev hcells hz hzl hzr hby hL
      go_wp2_with fail
      go_loopw [5] (fun i wi => ∃ (j : Nat), j ≤ L ∧ i = .int .i64 j ∧ wr = wi) (fun i _ => L - (intOf i).toNat)
      case atStart => exact ⟨0, by omega, rfl, rfl⟩
      case round =>
        obtain ⟨j, hj, rfl, rfl⟩ := hrel
        by_cases hlj : j < L
        · have hs := (HSHR.out j).2 hlj
          go_wp2_with fail
          go_roundw
          case rel => exact ⟨j + 1, by omega, by go_num, (by first | rfl | trivial)⟩
          case measure => simp [intOf]; omega
        · obtain rfl : j = L := by omega
          have hs : ¬ (0 < by_ / 2 ^ j) := fun h => by have := (HSHR.out j).1 h; omega
          have hs2 : by_ / 2 ^ j ≤ 0 := by omega
          have hd : decide (0 < by_ / 2 ^ j) = false := by simpa using hs2
          have cz := (cell_of_row wr (w.heap.size + 1) j _ _ _ HR1.out).trans (intsV_get z j (by rw [HZL.out]; omega))
          have cf := frozen_of_row wr (w.heap.size + 1) j _ _ HR1.out
          obtain ⟨y, hy⟩ : ∃ y, z.getD j 0 = y := ⟨_, rfl⟩
          have hyr : 0 ≤ y ∧ y ≤ 1000 := by
            rw [← hy, List.getD_eq_getElem?_getD, List.getElem?_eq_getElem (by rw [HZL.out]; omega)]
            exact HZR.out _ (List.getElem_mem _)
          rw [hy] at cz
          have HY := hide hy
          obtain ⟨hy1, hy2⟩ := hyr
          clear hy hs
          go_wp2_with fail
          go_roundw
          case rel =>
            refine ⟨k + 1, by omega, by go_num, HB.out.setCell (by simp) _, (heap_setCell_other _ _ _ _ (by simp)).trans HR0.out, ?_⟩
            rw [heap_setCell_same _ _ _ _ _ _ HR1.out, intsV_set, HZ.out, zAdd, HLL.out, HY.out]
          case measure => simp [intOf]; omega
    · obtain rfl : k = n := by omega
      have htk : l.take k = l := List.take_of_length_le (by omega)
      rw [htk] at HR1
      have HTK := hide htk
      clear htk
      have HI2 : Hid ((Tryz.prog.info? 41).map (·.size) = some (intsV (zOf (l.map (·.ev)))).size) := hide (by rw [intsV_size, zOf_length]; rfl)
      have HL : Hid ((List.replicate 18 (Value.int .i64 0)).toArray.size = (intsV (zOf (l.map (·.ev)))).size) := hide (by rw [intsV_size, zOf_length]; rfl)
      have H1 : Hid ((intsV (zOf (l.map (·.ev)))).all (·.oneCell') = true) := hide (by simp [intsV, Value.oneCell'])
      obtain ⟨cs, hcs⟩ : ∃ cs, intsV (zOf (l.map (·.ev))) = cs := ⟨_, rfl⟩
      rw [hcs] at HI2 HL H1 HR1
      have HCS := hide hcs
      clear hcs
      go_wp2_with (first | (refine wpList_load_row rfl 41 _ rfl (w.heap.size + 1) rfl _ _ _ _ HR1.out Tryz.underlying41 rfl HI2.out ?_) | (refine wpList_store_row rfl 41 _ _ rfl w.heap.size _ rfl rfl _ _ HR0.out HI2.out HL.out H1.out ?_))
      (try simp only [Exit.inBlock, Exit.then])
      refine bodyPost_ret (results_cell_row rfl _ _ w.heap.size 41 _ (0, 0) _ rfl (setRow_heap _ _ _ _ _ _ HR0.out) Tryz.underlying41 rfl HI2.out) rfl ?_
      exact ⟨by rw [HCS.out], below_setRow HB.out (Nat.le_refl _) _⟩
end Go.Proofs.YticcfbeocepnpaaGreatDoor
