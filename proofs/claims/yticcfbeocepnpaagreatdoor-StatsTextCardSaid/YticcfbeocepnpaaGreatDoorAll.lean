/-
  The model's `all`: the names of a kind, in order.
-/
import Derived.Test.YticcfbeocepnpaaGreatDoorIns
set_option linter.unusedSimpArgs false
set_option maxRecDepth 100000
namespace Go.Proofs.YticcfbeocepnpaaGreatDoor
open Go.RowKit Go.Shelf Pl

def inDays (fro til : Int) (e : Ev) : Bool := decide (fro ≤ e.day) && decide (e.day ≤ til)
def allStep (kind fro til : Int) (out : List ByteArray) (e : Ev) : List ByteArray := if inDays fro til e = true then (namesOf e kind).foldl insS out else out
def allL (kind fro til : Int) (l : List Ev) : List ByteArray := l.foldl (allStep kind fro til) []
theorem allL_snoc (kind fro til : Int) (l : List Ev) (e : Ev) : allL kind fro til (l ++ [e]) = allStep kind fro til (allL kind fro til l) e := by simp [allL]
theorem err_lens {e : Ev} (h : e.err = 0) : e.gs.length ≤ 20 ∧ e.ss.length ≤ 50 := by
  unfold Ev.err evErr at h
  repeat' split at h
  all_goals first | (exact absurd h (by decide)) | (exact absurd h (by assumption)) | skip
  rename_i hl hs50 hs _
  simp only [ne_eq, Decidable.not_not] at hl
  unfold listE at hl
  split at hl
  · cases hl
  · omega
theorem names_50 {e : Ev} (h : e.err = 0) (kind : Int) : (namesOf e kind).length ≤ 50 := by
  have := err_lens h
  unfold namesOf
  split
  · simp
  · split <;> omega

set_option maxHeartbeats 4000000 in
theorem all_any (kind fro til : Int) (a : Option Addr) (n c : Nat) (l : List EvC) (w : World) (h : EvsAt w a n c l) (hok : ∀ e ∈ l, e.ev.err = 0) (hn : n ≤ 1000) :
    Calls Tryz.prog 18 #[.slice a n c, .int .i64 kind, .int .i64 fro, .int .i64 til] w fun e w' => ∃ (A : Option Addr) (no co : Nat) (L : List ByteArray), L = allL kind fro til (l.map (·.ev)) ∧ e = .returned (.slice A no co) ∧ no = L.length ∧ w'.ownsRow w.heap.size 9 1 (.slice A no co) no (strsC L) ∧ Below w.heap.size w w' := by
  have HE := hide h
  have HOK := hide hok
  have hr := h.room
  have hc := h.capm
  have hl := h.len
  clear h hok
  go_enter Tryz.func18, Tryz.ntmps18
  go_wp2_with fail
  go_loopw [9, 10] (fun vo i wr => ∃ (k : Nat) (A : Option Addr) (no co : Nat), k ≤ n ∧ i = .int .i64 k ∧ vo = .slice A no co ∧ wr.ownsRow w.heap.size 9 1 (.slice A no co) no (strsC (allL kind fro til ((l.take k).map (·.ev)))) ∧ Below w.heap.size w wr ∧ no ≤ 50 * k) (fun _ i _ => n - (intOf i).toNat)
  case atStart => exact ⟨0, none, 0, 0, by omega, rfl, rfl, World.ownsRow_nil _ _ _ _, Below.refl _ _, by omega⟩
  case round =>
    obtain ⟨k, A, no, co, hk, rfl, rfl, hown, hbw, hno⟩ := hrel
    have HO := hide hown
    have HB := hide hbw
    have hsz := hbw.size
    obtain ⟨out, hout⟩ : ∃ out, allL kind fro til ((l.take k).map (·.ev)) = out := ⟨_, rfl⟩
    rw [hout] at HO
    have HOUT := hide hout
    clear hown hbw hout
    by_cases hlt : k < n
    · obtain ⟨b, o, ⟨cs, ev, ga, gn, gc, sa, sn, sc⟩, ha, he, hev, hcells⟩ := HE.out.at hlt
      simp only at hev hcells
      subst ha
      have hm := HOK.out _ (List.mem_of_getElem? he)
      simp only at hm
      obtain ⟨hm1, hm2⟩ := evErr_range hm
      have HM := hide hm
      have HI : Hid ((Tryz.prog.info? 27).map (·.size) = some cs.size) := hide (by rw [hev.len]; rfl)
      have hm0 := hev.at_.c0
      have HEV : Hid (∀ w', Below w.heap.size w w' → EvIs w' cs ev ga gn gc sa sn sc) := hide fun w' hb => EvAt.ofBelow hev hb
      have HC : Hid (∀ w', Below w.heap.size w w' → ∀ (j : Nat) v, cs[j]? = some v → w'.cell? ⟨b, o + k * 20 + j, none⟩ = some v) := hide fun w' hb j v hv => (hb.cell (block_lt_of_cell (hcells j v hv))).trans (hcells j v hv)
      obtain ⟨d, hd⟩ : ∃ d, ev.m / 1440 = d := ⟨_, rfl⟩
      have HD : Hid (∀ w', Calls Tryz.prog 34 #[.agg cs] w' fun e w'' => e = .returned (.int .i64 d) ∧ Below w'.heap.size w' w'') := hide fun w' => by
        rw [← hd]
        exact (day_any cs ev.m w' hm0 hm1 hm2).mono (by rintro e w'' ⟨rfl, rfl⟩; exact ⟨rfl, (Below.refl _ _).alloc (Nat.le_refl _) _⟩)
      have HDD : Hid (ev.day = d) := hide hd
      have HTK : Hid (allL kind fro til ((l.take (k + 1)).map (·.ev)) = allStep kind fro til out ev) := hide (by
        rw [List.take_add_one, he, ← HOUT.out]
        simp [allL_snoc])
      have hdr : -9223372036854775808 ≤ d ∧ d ≤ 9223372036854775807 := by omega
      obtain ⟨hd1, hd2⟩ := hdr
      clear hcells hev he hm hm0 hd hm1 hm2
      go_wp2_with (first
        | (refine wpList_load_cells rfl 27 _ rfl b (o + k * 20) rfl _ cs (HC.out _ HB.out) Tryz.underlying27 rfl HI.out ?_))
      refine (HD.out wr).mono ?_
      rintro e w4 ⟨rfl, hb4⟩
      have HB4 := hide (HB.out.trans (hb4.mono hsz))
      have HO4 := hide (ownsRow_below HO.out hb4)
      clear hb4
      by_cases hf : d < fro
      · have HT2 : Hid (allL kind fro til ((l.take (k + 1)).map (·.ev)) = out) := hide (by
          rw [HTK.out, allStep, if_neg]; unfold inDays; rw [HDD.out]; simp; omega)
        go_wp2_with fail
        go_roundw
        case rel => exact ⟨k + 1, A, no, co, by omega, by go_num, rfl, by rw [HT2.out]; exact HO4.out, HB4.out, by omega⟩
        case measure => simp [intOf]; omega
      · have hfb : decide (d < fro) = false := by simpa using hf
        go_wp2_with (first
          | (refine wpList_load_cells rfl 27 _ rfl b (o + k * 20) rfl _ cs (HC.out _ HB4.out) Tryz.underlying27 rfl HI.out ?_)
          | (refine wpList_load_cells_g rfl 27 _ rfl rfl rfl rfl b (o + k * 20) rfl _ cs (HC.out _ HB4.out) Tryz.underlying27 rfl HI.out ?_))
        refine (HD.out w4).mono ?_
        rintro e w5 ⟨rfl, hb5⟩
        have HB5 := hide (HB4.out.trans (hb5.mono HB4.out.size))
        have HO5 := hide (ownsRow_below HO4.out hb5)
        clear hb5
        by_cases ht : til < d
        · have HT2 : Hid (allL kind fro til ((l.take (k + 1)).map (·.ev)) = out) := hide (by
            rw [HTK.out, allStep, if_neg]; unfold inDays; rw [HDD.out]; simp; omega)
          go_wp2_with fail
          go_roundw
          case rel => exact ⟨k + 1, A, no, co, by omega, by go_num, rfl, by rw [HT2.out]; exact HO5.out, HB5.out, by omega⟩
          case measure => simp [intOf]; omega
        · have HT2 : Hid (allL kind fro til ((l.take (k + 1)).map (·.ev)) = (namesOf ev kind).foldl insS out) := hide (by
            rw [HTK.out, allStep, if_pos]; unfold inDays; rw [HDD.out]; simp; omega)
          have c17 := HC.out w5 HB5.out 17 _ (HEV.out w5 HB5.out).at_.c17
          have c18 := HC.out w5 HB5.out 18 _ (HEV.out w5 HB5.out).at_.c18
          have htb : decide (til < d) = false := by simpa using ht
          clear HTK
          by_cases h3 : kind = 3
          · subst h3
            have HNM : Hid (namesOf ev 3 = [ev.auth]) := hide (by rw [namesOf, if_pos rfl])
            have hau : ev.auth.size ≤ maxLen := by show (hexL ev.au).toArray.size ≤ _; rw [List.size_toArray, hexL_length, (HEV.out w (Below.refl _ _)).aul]; decide
            have HXS : Hid (∀ (j : Nat) (v : Value), (ev.au.map (fun b => Value.int .u8 (b.toNat : Int))).toArray[j]? = some v → w5.cell? ⟨b, o + k * 20 + 1 + j, none⟩ = some v) := hide (by
              intro j v hv
              rw [List.getElem?_toArray, List.getElem?_map] at hv
              cases hj : ev.au[j]? with
              | none => rw [hj] at hv; cases hv
              | some x =>
                rw [hj] at hv; cases hv
                rw [Nat.add_assoc]
                exact HC.out w5 HB5.out (1 + j) _ ((HEV.out w5 HB5.out).au j x hj))
            have HIA : Hid ((Tryz.prog.info? 24).map (·.size) = some (ev.au.map (fun b => Value.int .u8 (b.toNat : Int))).toArray.size) := hide (by rw [List.size_toArray, List.length_map, (HEV.out w (Below.refl _ _)).aul]; rfl)
            have HAT := hide (author17_any (ev.au.map (fun b => Value.int .u8 (b.toNat : Int))).toArray ev.au w5 (HEV.out w (Below.refl _ _)).aul (by
              intro j b hj
              rw [Nat.zero_add, List.getElem?_toArray, List.getElem?_map, hj]; rfl))
            go_wp2_with (first | (refine wpList_load_cells rfl 24 _ rfl b (o + k * 20 + 1) rfl _ _ HXS.out Tryz.underlying24 rfl HIA.out ?_))
            refine HAT.out.mono ?_
            rintro e w7 ⟨rfl, hb7⟩
            have HB7 := hide (HB5.out.trans (hb7.mono HB5.out.size))
            have HO7 := hide (ownsRow_below HO5.out hb7)
            clear hb7
            obtain ⟨w9, hw9⟩ : ∃ w9, w9 = w7.alloc (.cells #[.string ev.auth] 9) := ⟨_, rfl⟩
            have HST : Hid (StrsAt w9 (some ⟨w7.heap.size, 0, none⟩) 1 1 [ev.auth]) := hide (by rw [hw9]; exact strs_one w7 ev.auth hau)
            have HB9 : Hid (Below w.heap.size w w9) := hide (by rw [hw9]; exact HB7.out.alloc HB7.out.size _)
            have HO9 : Hid (w9.ownsRow w.heap.size 9 1 (.slice A no co) no (strsC out)) := hide (by rw [hw9]; exact HO7.out.alloc _)
            have HWQ := hide hw9
            clear hw9 c17 c18
            go_wp2_with fail
            rw [show (⟨(hexL ev.au).toArray⟩ : ByteArray) = ev.auth from rfl, ← HWQ.out]
            go_loopw [9, 12] (fun vo i wi => ∃ (q : Nat) (A' : Option Addr) (no' co' : Nat), q ≤ 1 ∧ i = .int .i64 q ∧ vo = .slice A' no' co' ∧ wi.ownsRow w.heap.size 9 1 (.slice A' no' co') no' (strsC (([ev.auth].take q).foldl insS out)) ∧ Below w.heap.size w wi ∧ Below w9.heap.size w9 wi ∧ no' ≤ no + q) (fun _ i _ => 1 - (intOf i).toNat)
            case atStart => exact ⟨0, A, no, co, by omega, rfl, rfl, HO9.out, HB9.out, Below.refl _ _, by omega⟩
            case round =>
              obtain ⟨q, A', no', co', hq, rfl, rfl, hown', hbw', hbi', hno'⟩ := hrel
              have HOI := hide hown'
              have HBI := hide hbw'
              have HBJ := hide hbi'
              clear hown' hbw' hbi'
              by_cases hlq : q < 1
              · obtain ⟨bs, os, x, hA, hx, hxs, hcell, _⟩ := (HST.out.below HBJ.out).at hlq
                cases hA
                try simp only [Nat.zero_add] at hcell
                have HQ2 : Hid (([ev.auth].take (q + 1)).foldl insS out = insS (([ev.auth].take q).foldl insS out) x) := hide (by
                  rw [List.take_add_one, hx]; simp)
                clear hx hxs
                go_wp2_with fail
                refine (insert_any _ x w.heap.size A' no' co' _ HOI.out HBI.out.size (by omega)).mono ?_
                rintro e w8 ⟨A8, n8, c8, rfl, hn8, ho8, hb8⟩
                have HO8 := hide ho8
                have HB8 := hide hb8
                have hl8 := insS_length (([ev.auth].take q).foldl insS out) x
                have hl7 : (([ev.auth].take q).foldl insS out).length = no' := by have := HOI.out.1; simp [strsC] at this; exact this
                have h9 : n8 ≤ no + (q + 1) := by omega
                clear ho8 hb8 hcell hn8 hl8 hl7
                go_wp2_with fail
                go_roundw
                case rel => exact ⟨q + 1, A8, n8, c8, by omega, by go_num, rfl, by rw [HQ2.out]; exact HO8.out, HBI.out.trans (HB8.out.mono HBI.out.size), HBJ.out.trans (HB8.out.mono HBJ.out.size), h9⟩
                case measure => simp [intOf]; omega
              · obtain rfl : q = 1 := by omega
                have htk : [ev.auth].take 1 = [ev.auth] := List.take_of_length_le (by rw [HST.out.len]; exact Nat.le_refl _)
                rw [htk] at HOI
                clear htk
                go_wp2_with fail
                go_roundw
                case rel => exact ⟨k + 1, A', no', co', by omega, by go_num, rfl, by rw [HT2.out, HNM.out]; exact HOI.out, HBI.out, by omega⟩
                case measure => simp [intOf]; omega
          · have h3b : (kind == 3) = false := by simp [h3]
            have H3 := hide h3
            clear h3
            have hm50 := err_lens (e := ev) HM.out
            by_cases h2 : kind = 2
            · subst h2
              have HNM : Hid (namesOf ev 2 = ev.ss) := hide (by rw [namesOf, if_neg (by decide), if_pos rfl])
              have HST := hide (HEV.out w5 HB5.out).at_.ss
              have hnr := HST.out.room
              have hnm := HST.out.capm
              have hnl := HST.out.len
              go_wp2_with fail
              go_loopw [9, 12] (fun vo i wi => ∃ (q : Nat) (A' : Option Addr) (no' co' : Nat), q ≤ sn ∧ i = .int .i64 q ∧ vo = .slice A' no' co' ∧ wi.ownsRow w.heap.size 9 1 (.slice A' no' co') no' (strsC ((ev.ss.take q).foldl insS out)) ∧ Below w.heap.size w wi ∧ Below w5.heap.size w5 wi ∧ no' ≤ no + q) (fun _ i _ => sn - (intOf i).toNat)
              case atStart => exact ⟨0, A, no, co, by omega, rfl, rfl, HO5.out, HB5.out, Below.refl _ _, by omega⟩
              case round =>
                obtain ⟨q, A', no', co', hq, rfl, rfl, hown', hbw', hbi', hno'⟩ := hrel
                have HOI := hide hown'
                have HBI := hide hbw'
                have HBJ := hide hbi'
                clear hown' hbw' hbi'
                by_cases hlq : q < sn
                · obtain ⟨bs, os, x, hA, hx, hxs, hcell, _⟩ := (HST.out.below HBJ.out).at hlq
                  subst hA
                  have HQ2 : Hid ((ev.ss.take (q + 1)).foldl insS out = insS ((ev.ss.take q).foldl insS out) x) := hide (by
                    rw [List.take_add_one, hx]; simp)
                  clear hx hxs
                  go_wp2_with fail
                  refine (insert_any _ x w.heap.size A' no' co' _ HOI.out HBI.out.size (by omega)).mono ?_
                  rintro e w8 ⟨A8, n8, c8, rfl, hn8, ho8, hb8⟩
                  have HO8 := hide ho8
                  have HB8 := hide hb8
                  have hl8 := insS_length ((ev.ss.take q).foldl insS out) x
                  have hl7 : ((ev.ss.take q).foldl insS out).length = no' := by have := HOI.out.1; simp [strsC] at this; exact this
                  have h9 : n8 ≤ no + (q + 1) := by omega
                  clear ho8 hb8 hcell hn8 hl8 hl7
                  go_wp2_with fail
                  go_roundw
                  case rel => exact ⟨q + 1, A8, n8, c8, by omega, by go_num, rfl, by rw [HQ2.out]; exact HO8.out, HBI.out.trans (HB8.out.mono HBI.out.size), HBJ.out.trans (HB8.out.mono HBJ.out.size), h9⟩
                  case measure => simp [intOf]; omega
                · obtain rfl : q = sn := by omega
                  have htk : ev.ss.take q = ev.ss := List.take_of_length_le (by rw [HST.out.len]; exact Nat.le_refl _)
                  rw [htk] at HOI
                  clear htk
                  go_wp2_with fail
                  go_roundw
                  case rel => exact ⟨k + 1, A', no', co', by omega, by go_num, rfl, by rw [HT2.out, HNM.out]; exact HOI.out, HBI.out, by omega⟩
                  case measure => simp [intOf]; omega
            · have h2b : (kind == 2) = false := by simp [h2]
              have HNM : Hid (namesOf ev kind = ev.gs) := hide (by rw [namesOf, if_neg H3.out, if_neg h2])
              have HST := hide (HEV.out w5 HB5.out).at_.gs
              have hnr := HST.out.room
              have hnm := HST.out.capm
              have hnl := HST.out.len
              clear h2
              go_wp2_with fail
              go_loopw [9, 12] (fun vo i wi => ∃ (q : Nat) (A' : Option Addr) (no' co' : Nat), q ≤ gn ∧ i = .int .i64 q ∧ vo = .slice A' no' co' ∧ wi.ownsRow w.heap.size 9 1 (.slice A' no' co') no' (strsC ((ev.gs.take q).foldl insS out)) ∧ Below w.heap.size w wi ∧ Below w5.heap.size w5 wi ∧ no' ≤ no + q) (fun _ i _ => gn - (intOf i).toNat)
              case atStart => exact ⟨0, A, no, co, by omega, rfl, rfl, HO5.out, HB5.out, Below.refl _ _, by omega⟩
              case round =>
                obtain ⟨q, A', no', co', hq, rfl, rfl, hown', hbw', hbi', hno'⟩ := hrel
                have HOI := hide hown'
                have HBI := hide hbw'
                have HBJ := hide hbi'
                clear hown' hbw' hbi'
                by_cases hlq : q < gn
                · obtain ⟨bs, os, x, hA, hx, hxs, hcell, _⟩ := (HST.out.below HBJ.out).at hlq
                  subst hA
                  have HQ2 : Hid ((ev.gs.take (q + 1)).foldl insS out = insS ((ev.gs.take q).foldl insS out) x) := hide (by
                    rw [List.take_add_one, hx]; simp)
                  clear hx hxs
                  go_wp2_with fail
                  refine (insert_any _ x w.heap.size A' no' co' _ HOI.out HBI.out.size (by omega)).mono ?_
                  rintro e w8 ⟨A8, n8, c8, rfl, hn8, ho8, hb8⟩
                  have HO8 := hide ho8
                  have HB8 := hide hb8
                  have hl8 := insS_length ((ev.gs.take q).foldl insS out) x
                  have hl7 : ((ev.gs.take q).foldl insS out).length = no' := by have := HOI.out.1; simp [strsC] at this; exact this
                  have h9 : n8 ≤ no + (q + 1) := by omega
                  clear ho8 hb8 hcell hn8 hl8 hl7
                  go_wp2_with fail
                  go_roundw
                  case rel => exact ⟨q + 1, A8, n8, c8, by omega, by go_num, rfl, by rw [HQ2.out]; exact HO8.out, HBI.out.trans (HB8.out.mono HBI.out.size), HBJ.out.trans (HB8.out.mono HBJ.out.size), h9⟩
                  case measure => simp [intOf]; omega
                · obtain rfl : q = gn := by omega
                  have htk : ev.gs.take q = ev.gs := List.take_of_length_le (by rw [HST.out.len]; exact Nat.le_refl _)
                  rw [htk] at HOI
                  clear htk
                  go_wp2_with fail
                  go_roundw
                  case rel => exact ⟨k + 1, A', no', co', by omega, by go_num, rfl, by rw [HT2.out, HNM.out]; exact HOI.out, HBI.out, by omega⟩
                  case measure => simp [intOf]; omega
    · obtain rfl : k = n := by omega
      have hgt : l.take k = l := List.take_of_length_le (by omega)
      go_wp2_with fail
      go_ret
      refine ⟨_, _, _, out, ?_, rfl, ?_, HO.out, HB.out⟩
      · rw [← HOUT.out, hgt]
      · have := HO.out.1; simp [strsC] at this; exact this.symm
end Go.Proofs.YticcfbeocepnpaaGreatDoor
