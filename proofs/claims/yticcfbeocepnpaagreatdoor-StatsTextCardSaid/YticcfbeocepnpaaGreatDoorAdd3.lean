/-
  Add: the walk.
-/
import Derived.Test.YticcfbeocepnpaaGreatDoorProg
import Derived.Test.YticcfbeocepnpaaGreatDoorAdd2
set_option linter.unusedSimpArgs false
set_option maxRecDepth 100000
namespace Go.Proofs.YticcfbeocepnpaaGreatDoor
open Go.RowKit Pl

/-- The event in the cells cs of w. -/
structure EvIs (w : World) (cs : Array Value) (ev : Ev) (ga : Option Addr) (gn gc : Nat) (sa : Option Addr) (sn sc : Nat) : Prop where
  at_ : EvAt w cs ev.m ga gn gc ev.gs sa sn sc ev.ss ev.by_
  au : BytesIn cs 1 ev.au
  aul : ev.au.length = 16
  len : cs.size = 20

/-- What Add leaves. -/
def AddPost (w : World) (sb mb : Nat) (f : List (Ky × Ct)) (z : List Int) (ev : Ev) (e : Ending) (w' : World) : Prop :=
  e = .returned (.int .i64 ev.err) ∧ But2 w w' sb mb ∧ SAt w' sb mb (if ev.err = 0 then addEv f ev else f) (if ev.err = 0 then zAdd z ev.by_ else z)
theorem AddPost.err {w w' : World} {sb mb : Nat} {f : List (Ky × Ct)} {z : List Int} {ev : Ev} {v : Nat} (hv : ev.err = v) (h0 : v ≠ 0) (hb : Below w.heap.size w w') (hs : SAt w sb mb f z) :
    AddPost w sb mb f z ev (.returned (.int .i64 v)) w' := by
  have h1 : ev.err ≠ 0 := by rw [hv]; exact h0
  exact ⟨by rw [hv], But2.of_below hb, by rw [if_neg h1, if_neg h1]; exact hs.below hb⟩

theorem addPost_ok {w w8 w' : World} {pb eb db sb mb : Nat} {cs : Array Value} {ev : Ev} {ga : Option Addr} {gn gc : Nat} {gs : List ByteArray} {sa : Option Addr} {sn sc : Nat} {ss : List ByteArray} {f f' : List (Ky × Ct)} {z : List Int}
    (h : AddAt w w8 pb eb db sb mb cs ev.day ga gn gc gs sa sn sc ss f' z) (hv : ev.err = 0) (hf : f' = addEv f ev) (_hL : Lib.bitLen ev.by_.toNat ≤ 17)
    (hw : w'.os = w8.os ∧ w'.tape = w8.tape ∧ w'.output = w8.output ∧ w'.heap = (w8.setCell ⟨sb, 1 + Lib.bitLen ev.by_.toNat, none⟩ (.int .i64 (z.getD (Lib.bitLen ev.by_.toNat) 0 + 1))).heap) :
    AddPost w sb mb f z ev (.returned (.int .i64 0)) w' := by
  obtain ⟨h1, h2, h3, h4⟩ := hw
  have hs := heap_setCell_same w8 sb (1 + Lib.bitLen ev.by_.toNat) _ 72 (.int .i64 (z.getD (Lib.bitLen ev.by_.toNat) 0 + 1)) h.s.blk
  refine ⟨by rw [hv]; rfl, ?_, ?_⟩
  · have hb := h.old.setCell (1 + Lib.bitLen ev.by_.toNat) (.int .i64 (z.getD (Lib.bitLen ev.by_.toNat) 0 + 1))
    exact ⟨h1.trans hb.os, h2.trans hb.tape, h3.trans hb.output, by rw [h4]; exact hb.size, fun i hi ha hm => by rw [h4]; exact hb.block i hi ha hm⟩
  · rw [if_pos hv, if_pos hv, ← hf]
    refine ⟨?_, ?_, by simp [zAdd, h.s.len]⟩
    · rw [h4, hs]
      congr 2
      apply Array.toList_inj.1
      rw [Array.toList_setIfInBounds]
      show List.set (Value.map (some mb) :: z.map (Value.int .i64)) (1 + Lib.bitLen ev.by_.toNat) _ = _
      rw [Nat.add_comm, List.set_cons_succ]
      simp [zAdd, List.map_set]
    · exact Mp.IsMap.of_block h.s.map (by rw [h4]; exact heap_setCell_other _ _ _ _ (fun e => h.s.ne e.symm))

theorem evErr_range {m : Int} {gs ss : List ByteArray} {b : Int} (h : evErr m gs ss b = 0) : 0 ≤ m ∧ m ≤ 105190559 := by
  by_cases hm : m < 0 ∨ 105190559 < m
  · unfold evErr at h; rw [if_pos hm] at h; cases h
  · omega
theorem evErr_bytes {m : Int} {gs ss : List ByteArray} {b : Int} (h : evErr m gs ss b = 0) : 0 ≤ b ∧ b ≤ 65536 := by
  unfold evErr at h
  repeat' split at h
  all_goals first | omega | (exact absurd h (by assumption))

set_option maxHeartbeats 4000000 in
theorem sadd_any (sb mb : Nat) (f : List (Ky × Ct)) (z : List Int) (n : Nat) (cs : Array Value) (ev : Ev) (ga : Option Addr) (gn gc : Nat) (sa : Option Addr) (sn sc : Nat) (w : World)
    (hE : EvIs w cs ev ga gn gc sa sn sc) (hs : SAt w sb mb f z) (hf : Fits f n) (hn : n + gn + sn + 2 ≤ 999999) (hz : ∀ x ∈ z, 0 ≤ x ∧ x ≤ 999999) (hml : MLen w) :
    Calls Tryz.prog 26 #[.pointer (some ⟨sb, 0, none⟩), .agg cs] w (AddPost w sb mb f z ev) := by
  have HE := hide hE
  have HS := hide hs
  have HF := hide hf
  have HZ := hide hz
  obtain ⟨W0, hW0⟩ : ∃ W0, W0 = (w.alloc (.cells #[.pointer (some ⟨sb, 0, none⟩)] 30)).alloc (.cells cs 27) := ⟨_, rfl⟩
  have HW0 : Hid (Below w.heap.size w W0) := hide (by rw [hW0]; (repeat (first | exact Below.refl _ _ | with_reducible assumption | (refine Below.setCell ?_ (by simp <;> omega) _) | (refine Below.alloc ?_ (by simp <;> omega) _))))
  have HC := hide (evCheck_any cs _ _ _ _ _ _ _ _ _ _ W0 (hE.at_.below HW0.out) (hml.below HW0.out))
  have hp0 : W0.cell? ⟨w.heap.size, 0, none⟩ = some (.pointer (some ⟨sb, 0, none⟩)) := by rw [hW0]; simp [go_sem]
  have he0 : W0.heap[w.heap.size + 1]? = some (.cells cs 27 (0, 0)) := by rw [hW0, heap_alloc2_new]
  have hz0 : W0.heap.size = w.heap.size + 1 + 1 := by rw [hW0]; simp
  have HI : Hid ((Tryz.prog.info? 27).map (·.size) = some cs.size) := hide (by rw [hE.len]; rfl)
  have HE0 := hide he0
  have HP0 := hide hp0
  have HWW := hide hW0
  clear hE hs hf hz hml hW0 he0
  obtain ⟨v, hv⟩ : ∃ v, evErr ev.m ev.gs ev.ss ev.by_ = v := ⟨_, rfl⟩
  rw [hv] at HC
  have HV : Hid (ev.err = v) := hide hv
  clear hv
  by_cases hv0 : v = 0
  · subst hv0
    have hm1 : 0 ≤ ev.m ∧ ev.m ≤ 105190559 := evErr_range HV.out
    have hby : 0 ≤ ev.by_ ∧ ev.by_ ≤ 65536 := evErr_bytes HV.out
    obtain ⟨hm1, hm2⟩ := hm1
    obtain ⟨hb1, hb2⟩ := hby
    go_enter Tryz.func26, Tryz.ntmps26
    go_upto_region 1 with fail
    rw [← HWW.out]
    go_wp2_with (first | (refine wpList_load_row rfl 27 _ rfl (w.heap.size + 1) rfl _ _ _ _ HE0.out Tryz.underlying27 rfl HI.out ?_))
    refine HC.out.mono ?_
    rintro e w2 ⟨rfl, hb⟩
    have c1 := (hb.cell (block_lt_of_cell HP0.out)).trans HP0.out
    have HE2 := hide ((hb.block (w.heap.size + 1) (by omega)).trans HE0.out)
    have HS2 := hide (HS.out.below (HW0.out.trans (hb.mono HW0.out.size)))
    have HT := hide (total_any sb mb f z w2 HS2.out (HF.out.small (by omega)))
    obtain ⟨t1, t2, ht⟩ : ∃ t1 t2, sumM isTotal f = (t1, t2) := ⟨_, _, rfl⟩
    have ht1 : t1 < 1000000 := by
      have h1 := sumA_range (g := Prod.fst) (q := isTotal) (f := f) (fun p hp => (HF.out.pos p hp).1)
      have h2 := HF.out.le1
      have h3 : sumA Prod.fst isTotal f = t1 := congrArg Prod.fst ht
      omega
    rw [ht, cntV_mk] at HT
    have hfd : ∀ w : World, (Instr.field 34 (.agg #[.int .i64 t1, .int .i64 t2]) 0).run Tryz.prog w = .ok (.int .i64 t1) w := fun _ => by kernel_rfl
    have HB2 := hide (HW0.out.trans (hb.mono HW0.out.size))
    have hz2 : w.heap.size + 1 + 1 ≤ w2.heap.size := by have := hb.size; omega
    clear hb ht
    go_wp2_with fail
    refine HT.out.mono ?_
    rintro e w3 ⟨rfl, hb⟩
    have c2 : w3.cell? ⟨w.heap.size + 1, 0, none⟩ = some (.int .i64 ev.m) := (cell_of_row w3 (w.heap.size + 1) 0 _ _ _ ((hb.block _ (by omega)).trans HE2.out)).trans HE.out.at_.c0
    have HE3 := hide ((hb.block (w.heap.size + 1) (by omega)).trans HE2.out)
    have HS3 := hide (HS2.out.below hb)
    have HB3 := hide (HB2.out.trans (hb.mono HB2.out.size))
    have hz3 : w.heap.size + 1 + 1 ≤ w3.heap.size := by have := hb.size; omega
    have HP3 : Hid (w3.cell? ⟨w.heap.size, 0, none⟩ = some (.pointer (some ⟨sb, 0, none⟩))) := hide ((hb.cell (block_lt_of_cell c1)).trans c1)
    clear hb c1
    go_wp2_with (go_at_call 48; refine (dday_any _ _ hm1 hm2).mono ?_; rintro e w' ⟨rfl, rfl⟩)
    have HA4 : Hid (AddAt w (w3.alloc (.cells #[.int .i64 (ev.m / 1440)] 3)) w.heap.size (w.heap.size + 1) w3.heap.size sb mb cs ev.day ga gn gc ev.gs sa sn sc ev.ss f z) := by
      have hb4 : Below w3.heap.size w3 (w3.alloc (.cells #[.int .i64 (ev.m / 1440)] 3)) := (Below.refl _ _).alloc (Nat.le_refl _) _
      have hw4 := HB3.out.trans (hb4.mono HB3.out.size)
      exact hide ⟨HS3.out.below hb4, (hb4.cell (block_lt_of_cell HP3.out)).trans HP3.out, (hb4.block _ (by omega)).trans HE3.out, by rw [World.cell?_alloc_new]; rfl, HE.out.at_.gs.below hw4, HE.out.at_.ss.below hw4, But2.of_below hw4⟩
    have hd1 : 0 ≤ ev.day ∧ ev.day ≤ 105190559 := by unfold Ev.day; omega
    obtain ⟨hd1, hd2⟩ := hd1
    obtain ⟨db, hdb⟩ : ∃ db, db = w3.heap.size := ⟨_, rfl⟩
    have HKO : Hid (∀ (k : Int) (x : ByteArray), 0 ≤ k → k ≤ 3 → x.size ≤ maxLen → keyOk (ev.day, k, x)) := hide fun k x h1 h2 h3 => ⟨by simp only; omega, by simp only; omega, by simp only; omega, by simp only; omega, h3⟩
    rw [← hdb] at HA4
    rw [← hdb]
    have HDB := hide hdb
    clear hdb
    refine (addAt_key HA4.out HE.out.at_.c19 hb1 hb2 HF.out (by omega) 0 ⟨#[]⟩ (HKO.out _ _ (by omega) (by omega) (by decide))).mono ?_
    rintro e w5 ⟨rfl, hA5⟩
    have HA5 := hide hA5
    have c3 := hA5.ev HE.out.at_.c17
    clear hA5 c2
    go_wp2_with fail
    go_loopw [36] (fun i wr => ∃ k : Nat, k ≤ gn ∧ i = .int .i64 k ∧ AddAt w wr w.heap.size (w.heap.size + 1) db sb mb cs ev.day ga gn gc ev.gs sa sn sc ev.ss (addKs f ((ev.day, 0, ⟨#[]⟩) :: (ev.gs.take k).map (fun g => (ev.day, 1, g))) ev.by_) z) (fun i _ => gn - (intOf i).toNat)
    case atStart => exact ⟨0, by omega, rfl, HA5.out⟩
    case round =>
      obtain ⟨k, hk, rfl, hA⟩ := hrel
      have HA := hide hA
      clear hA
      have hgc := HE.out.at_.gs.room
      have hgm := HE.out.at_.gs.capm
      have hgl := HE.out.at_.gs.len
      by_cases hlt : k < gn
      · obtain ⟨b, o, x, hga, hx, hxs, hcell, hcs⟩ := HA.out.gs.at hlt
        subst hga
        have HX := hide hx
        clear hx hcs
        go_wp2_with fail
        refine (addAt_key HA.out HE.out.at_.c19 hb1 hb2 (HF.out.addKs hb1 hb2 _) (by simp; omega) 1 x (HKO.out _ _ (by omega) (by omega) hxs)).mono ?_
        rintro e w6 ⟨rfl, hA6⟩
        have HA6 := hide hA6
        clear hA6 hcell
        go_wp2_with fail
        go_roundw
        case rel =>
          refine ⟨k + 1, by omega, by go_num, ?_⟩
          have e : (ev.gs.take (k + 1)).map (fun g => (ev.day, (1 : Int), g)) = (ev.gs.take k).map (fun g => (ev.day, 1, g)) ++ [(ev.day, 1, x)] := by rw [List.take_add_one, HX.out]; simp
          rw [e, ← List.cons_append, addKs_snoc]
          exact HA6.out
        case measure => simp [intOf]; omega
      · obtain rfl : k = gn := by omega
        have hgt : ev.gs.take k = ev.gs := List.take_of_length_le (by omega)
        rw [hgt] at HA
        have HG := hide hgt
        have c4 := HA.out.ev HE.out.at_.c18
        clear hgt c3 hgc hgm hgl hlt hk
        obtain ⟨fg, hfg⟩ : ∃ fg, fg = addKs f ((ev.day, 0, ⟨#[]⟩) :: ev.gs.map (fun g => (ev.day, 1, g))) ev.by_ := ⟨_, rfl⟩
        rw [← hfg] at HA
        have HFG : Hid (Fits fg (n + 1 + k)) := hide (by rw [hfg]; have := HF.out.addKs hb1 hb2 ((ev.day, 0, ⟨#[]⟩) :: ev.gs.map (fun g => (ev.day, 1, g))); simpa [HE.out.at_.gs.len, Nat.add_assoc, Nat.add_comm 1] using this)
        have HFE := hide hfg
        clear hfg
        go_wp2_with fail
        obtain ⟨wo, rfl⟩ : ∃ wo : World, wo = wr := ⟨_, rfl⟩
        go_loopw [47] (fun i wr => ∃ q : Nat, q ≤ sn ∧ i = .int .i64 q ∧ AddAt w wr w.heap.size (w.heap.size + 1) db sb mb cs ev.day ga k gc ev.gs sa sn sc ev.ss (addKs fg ((ev.ss.take q).map (fun g => (ev.day, 2, g))) ev.by_) z) (fun i _ => sn - (intOf i).toNat)
        case atStart => exact ⟨0, by omega, rfl, HA.out⟩
        case round =>
          obtain ⟨q, hq, rfl, hA⟩ := hrel
          have HB := hide hA
          clear hA
          have hgc := HE.out.at_.ss.room
          have hgm := HE.out.at_.ss.capm
          have hgl := HE.out.at_.ss.len
          by_cases hlt : q < sn
          · obtain ⟨b, o, x, hga, hx, hxs, hcell, hcs⟩ := HB.out.ss.at hlt
            subst hga
            have HX := hide hx
            clear hx hcs
            go_wp2_with fail
            refine (addAt_key HB.out HE.out.at_.c19 hb1 hb2 (HFG.out.addKs hb1 hb2 _) (by simp; omega) 2 x (HKO.out _ _ (by omega) (by omega) hxs)).mono ?_
            rintro e w6 ⟨rfl, hA6⟩
            have HA6 := hide hA6
            clear hA6 hcell
            go_wp2_with fail
            go_roundw
            case rel =>
              refine ⟨q + 1, by omega, by go_num, ?_⟩
              have e : (ev.ss.take (q + 1)).map (fun g => (ev.day, (2 : Int), g)) = (ev.ss.take q).map (fun g => (ev.day, 2, g)) ++ [(ev.day, 2, x)] := by rw [List.take_add_one, HX.out]; simp
              rw [e, addKs_snoc]
              exact HA6.out
            case measure => simp [intOf]; omega
          · obtain rfl : q = sn := by omega
            have hgt : ev.ss.take q = ev.ss := List.take_of_length_le (by omega)
            rw [hgt] at HB
            clear hgt c4 hgc hgm hgl hlt hq
            obtain ⟨fs, hfs⟩ : ∃ fs, fs = addKs fg (ev.ss.map (fun g => (ev.day, 2, g))) ev.by_ := ⟨_, rfl⟩
            rw [← hfs] at HB
            have HFS : Hid (Fits fs (n + 1 + k + q)) := hide (by rw [hfs]; have := HFG.out.addKs hb1 hb2 (ev.ss.map (fun g => (ev.day, (2 : Int), g))); simpa [HE.out.at_.ss.len] using this)
            have HFSE := hide hfs
            clear hfs
            have HXS : Hid (∀ (j : Nat) (v : Value), (ev.au.map (fun b => Value.int .u8 (b.toNat : Int)))[j]? = some v → cs[1 + j]? = some v) := hide (by
              intro j v hv
              rw [List.getElem?_map] at hv
              cases hj : ev.au[j]? with
              | none => rw [hj] at hv; cases hv
              | some b => rw [hj] at hv; cases hv; exact HE.out.au j b hj)
            have HIA : Hid ((Tryz.prog.info? 24).map (·.size) = some (ev.au.map (fun b => Value.int .u8 (b.toNat : Int))).length) := hide (by rw [List.length_map, HE.out.aul]; rfl)
            have HAT := hide (authorText_any (ev.au.map (fun b => Value.int .u8 (b.toNat : Int))).toArray ev.au wr HE.out.aul (by simp [HE.out.aul]) (by
              intro j b hj
              rw [Nat.zero_add, List.getElem?_toArray, List.getElem?_map, hj]; rfl))
            go_wp2_with (first | (refine wpList_load_off rfl 24 _ rfl (w.heap.size + 1) 1 rfl _ _ _ _ _ HB.out.e HXS.out Tryz.underlying24 rfl HIA.out ?_))
            refine HAT.out.mono ?_
            rintro e w7 ⟨rfl, hb7⟩
            have HB7 := hide (HB.out.below hb7)
            clear hb7
            have hxs : (⟨(hexL ev.au).toArray⟩ : ByteArray).size ≤ maxLen := by show (hexL ev.au).toArray.size ≤ _; rw [List.size_toArray, hexL_length, HE.out.aul]; decide
            go_wp2_with fail
            refine (addAt_key HB7.out HE.out.at_.c19 hb1 hb2 HFS.out (by omega) 3 ⟨(hexL ev.au).toArray⟩ (HKO.out _ _ (by omega) (by omega) hxs)).mono ?_
            rintro e w8 ⟨rfl, hA8⟩
            have HA8 := hide hA8
            clear hA8
            have hL := bitLen_17 hb2
            have HBL : Hid (∀ w, Calls Tryz.prog 51 #[.int .u64 ev.by_] w fun e w' => e = .returned (.int .i64 (Lib.bitLen ev.by_.toNat)) ∧ w' = w) := hide fun w => Tryz.bits_Len ev.by_ w hb1 (by omega)
            have HOK : Hid (∀ w', w'.os = w8.os ∧ w'.tape = w8.tape ∧ w'.output = w8.output ∧ w'.heap = (w8.setCell ⟨sb, 1 + Lib.bitLen ev.by_.toNat, none⟩ (.int .i64 (z.getD (Lib.bitLen ev.by_.toNat) 0 + 1))).heap → AddPost w sb mb f z ev (.returned (.int .i64 0)) w') := hide fun w' hw =>
              addPost_ok HA8.out HV.out (by rw [HFSE.out, HFE.out]; simp [addEv, Ev.keys, addKs_append, addKs, Ev.auth]) hL hw
            obtain ⟨L, hLL⟩ : ∃ L, Lib.bitLen ev.by_.toNat = L := ⟨_, rfl⟩
            rw [hLL] at HBL HOK hL
            have hzl : L < z.length := by rw [HS.out.len]; omega
            obtain ⟨y, hy⟩ : ∃ y, z.getD L 0 = y := ⟨_, rfl⟩
            have hy2 : z[L]? = some y := by rw [← hy, List.getD_eq_getElem?_getD, List.getElem?_eq_getElem hzl]; rfl
            rw [hy] at HOK
            have c5 := HA8.out.p
            have c6 := HA8.out.ev HE.out.at_.c19
            have c7 : w8.cell? ⟨sb, 1 + L, none⟩ = some (.int .i64 y) := (cell_of_row w8 sb (1 + L) _ _ _ HA8.out.s.blk).trans (by rw [List.getElem?_toArray, Nat.add_comm, List.getElem?_cons_succ, List.getElem?_map, hy2]; rfl)
            have c8 : w8.frozen? ⟨sb, 1 + L, none⟩ = false := frozen_of_row w8 sb (1 + L) _ _ HA8.out.s.blk
            obtain ⟨hy3, hy4⟩ := HZ.out y (List.mem_of_getElem? hy2)
            clear hLL hzl hy hy2 hxs ht1
            go_upto_region 22 with fail
            have hwu : IntKind.u64.wrap ev.by_ = ev.by_ := IntWalk.u64_in _ (by omega)
            have hwr : IntKind.i64.wrap (y + 1) = y + 1 := IntWalk.i64_in _ (by omega)
            go_region_with ((go_at_call 51; refine (HBL.out _).mono ?_; rintro e w' ⟨rfl, rfl⟩))
            all_goals
              go_wp2_with fail
              go_ret
              exact HOK.out _ ⟨rfl, rfl, rfl, rfl⟩
  · have hvb : ((v : Int) != 0) = true := by simp; omega
    have HV0 := hide hv0
    clear hv0
    go_enter Tryz.func26, Tryz.ntmps26
    go_upto_region 1 with fail
    rw [← HWW.out]
    go_wp2_with (first | (refine wpList_load_row rfl 27 _ rfl (w.heap.size + 1) rfl _ _ _ _ HE0.out Tryz.underlying27 rfl HI.out ?_))
    refine HC.out.mono ?_
    rintro e w2 ⟨rfl, hb⟩
    have HB := hide hb
    clear hb
    go_wp2_with fail
    go_ret
    exact AddPost.err HV.out HV0.out (HW0.out.trans (HB.out.mono HW0.out.size)) HS.out
end Go.Proofs.YticcfbeocepnpaaGreatDoor
