/-
  The model's text.
-/
import Derived.Test.YticcfbeocepnpaaGreatDoorLawForget
set_option linter.unusedSimpArgs false
set_option maxRecDepth 100000
namespace Go.Proofs.YticcfbeocepnpaaGreatDoor
open Go.RowKit Go.Shelf Pl

/-- A row of strings. -/
structure StrR (w : World) (A : Option Addr) (n : Nat) (l : List ByteArray) : Prop where
  len : l.length = n
  cells : 0 < n → ∃ g, A = some ⟨g, 0, none⟩ ∧ ∀ (j : Nat) x, l[j]? = some x → w.cell? ⟨g, j, none⟩ = some (.string x)
theorem strR_own {w : World} {base : Nat} {A : Option Addr} {n c : Nat} {l : List ByteArray} (h : w.ownsRow base 9 1 (.slice A n c) n (strsC l)) : StrR w A n l := by
  have hl : l.length = n := by have := h.1; simp [strsC] at this; exact this
  refine ⟨hl, fun hn => ?_⟩
  rcases h.2 with ⟨_, h0⟩ | ⟨g, cap, cur, hv, hb, hg, h1, h2, _⟩
  · omega
  · cases hv
    refine ⟨g, rfl, fun j x hx => ?_⟩
    rw [h.cellAt j (by have := (List.getElem?_eq_some_iff.1 hx).1; omega), strsC, List.getElem?_map, hx]; rfl
theorem StrR.below {w w' : World} {A : Option Addr} {n : Nat} {l : List ByteArray} (h : StrR w A n l) (hb : Below w.heap.size w w') : StrR w' A n l :=
  ⟨h.len, fun hn => let ⟨g, ha, hc⟩ := h.cells hn; ⟨g, ha, fun j x hx => (hb.cell (block_lt_of_cell (hc j x hx))).trans (hc j x hx)⟩⟩
theorem wordK {kd : Nat} (h1 : 1 ≤ kd) (h3 : kd ≤ 3) : ∀ (w : World) (b : Nat), w.heap[b]? = some (.cells #[.string ⟨#[]⟩, .string ⟨#[103, 114, 111, 117, 112, 32]⟩, .string ⟨#[115, 105, 116, 101, 32]⟩, .string ⟨#[97, 117, 116, 104, 111, 114, 32]⟩] 9 (0, 0)) →
    w.cell? ⟨b, kd, none⟩ = some (.string (wordB kd ++ ⟨#[32]⟩)) := by
  intro w b hb
  rw [cell_of_row w b kd _ _ _ hb]
  obtain rfl | rfl | rfl : kd = 1 ∨ kd = 2 ∨ kd = 3 := by omega
  · rfl
  · rfl
  · rfl
theorem ofL_nat (kind : Int) (name : ByteArray) (fro til : Int) {l : List Ev} (h : ∀ e ∈ l, e.err = 0) (hl : l.length ≤ 1000) : ∃ x y : Nat, ofL kind name fro til l = ((x : Int), (y : Int)) ∧ x < 10000000000 ∧ y < 10000000000 := by
  have := ofL_range kind name fro til l (fun e he => evErr_bytes (h e he))
  refine ⟨(ofL kind name fro til l).1.toNat, (ofL kind name fro til l).2.toNat, ?_, by omega, by omega⟩
  apply Prod.ext
  · show _ = ((Int.toNat _ : Nat) : Int); omega
  · show _ = ((Int.toNat _ : Nat) : Int); omega

set_option maxHeartbeats 8000000 in
/-- 'text'. -/
theorem text_any (before : Int) (a : Option Addr) (n c : Nat) (l : List EvC) (w : World) (h : EvsAt w a n c l) (hok : ∀ e ∈ l, e.ev.err = 0) (hn : n ≤ 1000) :
    Calls Tryz.prog 21 #[.slice a n c, .int .i64 before] w fun e w' => e = .returned (.string (textL before (evsOf l))) ∧ Below w.heap.size w w' := by
  have HE := hide h
  have HOK := hide hok
  have hl := h.len
  have HEA : Hid (∀ e ∈ evsOf l, e.err = 0 ∧ e.au.length = 16) := hide (by
    intro e he
    obtain ⟨y, hy, rfl⟩ := List.mem_map.1 he
    exact ⟨hok y hy, (HE.out.evs y hy).aul⟩)
  have hL : (evsOf l).length ≤ 1000 := by simp [evsOf]; omega
  clear h hok
  have HDY := hide (daysM_any a n c l w HE.out HOK.out hn)
  have e1 : l.map (fun e => e.ev.m / 1440) = (evsOf l).map (·.day) := by simp [evsOf, Ev.day]
  rw [e1] at HDY
  clear e1
  obtain ⟨L, hLL⟩ : ∃ L, evsOf l = L := ⟨_, rfl⟩
  have HLQ := hide hLL
  rw [hLL] at HEA hL HDY
  rw [hLL]
  clear hLL
  go_enter Tryz.func21, Tryz.ntmps21
  go_wp2_with fail
  refine HDY.out.mono ?_
  rintro e w1 ⟨v, ds, hds, rfl, hod, hb1⟩
  obtain ⟨A1, c1, rfl, hat1⟩ := intsAt_own hod
  have HDS := hide hds
  have hdl : ds.length ≤ 1000 := by
    rw [hds]
    have := daysM_length (L.map (·.day))
    rw [List.length_map] at this
    omega
  have HDR : Hid (∀ d ∈ ds, 0 ≤ d ∧ d ≤ 73048) := hide (by
    intro d hd
    rw [hds] at hd
    obtain ⟨e, he, rfl⟩ := List.mem_map.1 (daysM_mem hd)
    exact ev_day (HEA.out e he).1)
  obtain ⟨W2, hW2⟩ : ∃ W2, W2 = w1.alloc (.cells #[.string ⟨#[]⟩, .string ⟨#[103, 114, 111, 117, 112, 32]⟩, .string ⟨#[115, 105, 116, 101, 32]⟩, .string ⟨#[97, 117, 116, 104, 111, 114, 32]⟩] 9) := ⟨_, rfl⟩
  have hb2 : Below w1.heap.size w1 W2 := by rw [hW2]; (repeat (first | exact Below.refl _ _ | with_reducible assumption | (refine Below.setCell ?_ (by simp <;> omega) _) | (refine Below.alloc ?_ (by simp <;> omega) _)))
  have HAT := hide (hat1.below hb2)
  have HB2 : Hid (Below w.heap.size w W2) := hide (hb1.trans (hb2.mono hb1.size))
  have HWB : Hid (W2.heap[w1.heap.size]? = some (.cells #[.string ⟨#[]⟩, .string ⟨#[103, 114, 111, 117, 112, 32]⟩, .string ⟨#[115, 105, 116, 101, 32]⟩, .string ⟨#[97, 117, 116, 104, 111, 114, 32]⟩] 9 (0, 0))) := hide (by rw [hW2, heap_alloc_new])
  have hwl : w1.heap.size < W2.heap.size := by rw [hW2]; simp
  have HEV2 := hide (HE.out.below HB2.out)
  have HWW := hide hW2
  clear hds hod hat1 hb1 hb2 hW2
  go_wp2_with fail
  rw [← HWW.out]
  go_loopw [5, 8] (fun so i wr => ∃ (k : Nat) (s : ByteArray), k ≤ ds.length ∧ i = .int .i64 k ∧ so = .string s ∧ Hid (s = catB (((ds.take k).flatMap (dayKeys before L)).map (lineOf L))) ∧ s.size ≤ k * 200000000 ∧ Below W2.heap.size W2 wr) (fun _ i _ => ds.length - (intOf i).toNat)
  case atStart => exact ⟨0, ⟨#[]⟩, by omega, rfl, rfl, rfl, by decide, Below.refl _ _⟩
  case round =>
    obtain ⟨k, s, hk, rfl, rfl, HS, hsz, hbw⟩ := hrel
    have HB := hide hbw
    have hszw := hbw.size
    clear hbw
    by_cases hlt : k < ds.length
    · obtain ⟨g1, rfl, hc1⟩ := HAT.out.cells (by omega)
      obtain ⟨d, hd⟩ : ∃ d, ds[k]? = some d := ⟨_, List.getElem?_eq_getElem hlt⟩
      have hdr := HDR.out d (List.mem_of_getElem? hd)
      obtain ⟨dn, rfl⟩ : ∃ dn : Nat, d = dn := ⟨d.toNat, by omega⟩
      have HCD : Hid (∀ w', Below W2.heap.size W2 w' → w'.cell? ⟨g1, k, none⟩ = some (.int .i64 (dn : Int))) := hide fun w' hb => (hb.cell (block_lt_of_cell (hc1 k _ hd))).trans (hc1 k _ hd)
      have HTD : Hid ((ds.take (k + 1)).flatMap (dayKeys before L) = (ds.take k).flatMap (dayKeys before L) ++ dayKeys before L dn) := hide (by
        rw [List.take_add_one, hd]; simp)
      have hdn : dn ≤ 73048 := by omega
      clear hc1 hd hdr
      obtain ⟨x, y, hxy, hx, hy⟩ := ofL_nat 0 ⟨#[]⟩ dn dn (fun e he => (HEA.out e he).1) hL
      have HXY := hide hxy
      obtain ⟨sd, hsd⟩ : ∃ sd, (⟨#[100, 97, 121, 32]⟩ : ByteArray) ++ decB dn = sd := ⟨_, rfl⟩
      have hsd1 : sd.size ≤ 14 := by
        have := decB_20 (n := dn) (by omega)
        rw [← hsd, ByteArray.size_append, show (⟨#[100, 97, 121, 32]⟩ : ByteArray).size = 4 from rfl]; omega
      have hln := lineB_size sd hx hy
      have ha1 : Op.stringOp .add ⟨#[100, 97, 121, 32]⟩ (decB dn) = pure (.string sd) := by
        rw [add_str _ _ (by have := decB_20 (n := dn) (by omega); rw [show (⟨#[100, 97, 121, 32]⟩ : ByteArray).size = 4 from rfl]; omega), hsd]
      have HLN : Hid (lineB sd x y = lineOf L (dn, 0, ⟨#[]⟩)) := hide (by
        unfold lineOf keyLine cntL
        rw [hxy, ← hsd]
        rfl)
      obtain ⟨ln, hlnn⟩ : ∃ ln, lineB sd x y = ln := ⟨_, rfl⟩
      have ha2 : Op.stringOp .add s ln = pure (.string (s ++ ln)) := by
        rw [← hlnn]; exact add_str _ _ (by omega)
      have HNU : Hid (∀ w', Below wr.heap.size wr w' → Calls Tryz.prog 44 #[.int .i64 (dn : Int)] w' fun e w'' => e = .returned (.string (decB dn)) ∧ Below wr.heap.size wr w'') := hide fun w' hb => (number_any dn w' (by omega)).mono (by rintro e w'' ⟨rfl, hq⟩; exact ⟨rfl, hb.trans (hq.mono hb.size)⟩)
      have HOF : Hid (∀ w', Below wr.heap.size wr w' → Calls Tryz.prog 12 #[.slice a n c, .int .i64 0, .string ⟨#[]⟩, .int .i64 (dn : Int), .int .i64 (dn : Int)] w' fun e w'' => e = .returned (.agg #[.int .i64 (x : Int), .int .i64 (y : Int)]) ∧ Below wr.heap.size wr w'') := hide fun w' hb => by
        have := of52_any 0 ⟨#[]⟩ dn dn a n c l w' ((HEV2.out.below HB.out).below hb) HOK.out hn
        rw [show l.map (·.ev) = L from HLQ.out, HXY.out, cntV_mk] at this
        exact this.mono (by rintro e w'' ⟨rfl, hq⟩; exact ⟨rfl, hb.trans (hq.mono hb.size)⟩)
      have HLI : Hid (∀ w', Below wr.heap.size wr w' → Calls Tryz.prog 43 #[.string sd, .agg #[.int .i64 (x : Int), .int .i64 (y : Int)]] w' fun e w'' => e = .returned (.string ln) ∧ Below wr.heap.size wr w'') := hide fun w' hb => by
        have := line_any sd x y w' (by omega) hx hy
        rw [hlnn] at this
        exact this.mono (by rintro e w'' ⟨rfl, hq⟩; exact ⟨rfl, hb.trans (hq.mono hb.size)⟩)
      have HK : Hid (∀ w', Below wr.heap.size wr w' → w'.cell? ⟨g1, k, none⟩ = some (.int .i64 (dn : Int)) ∧ Below wr.heap.size wr w') := hide fun w' hb => ⟨HCD.out _ (HB.out.trans (hb.mono HB.out.size)), hb⟩
      have hlns : ln.size ≤ 40 := by rw [← hlnn]; omega
      rw [hlnn] at HLN
      have hkk : (k : Int) < (ds.length : Int) := by omega
      have hk0 : (0 : Int) ≤ (k : Int) := by omega
      clear hln hlnn hsd hsd1 hxy
      go_upto_region 7 with fail
      go_region_held3 (fun w' => w'.cell? ⟨g1, k, none⟩ = some (.int .i64 (dn : Int)) ∧ Below wr.heap.size wr w')
        (first | exact HK.out _ (by assumption) | exact HK.out _ (Below.refl _ _).drew | exact HK.out _ (Below.refl _ _))
        ((first
          | (go_at_call 44; refine (HNU.out _ ?_).mono ?_; (· (first | assumption | exact (Below.refl _ _).drew | (go_split_ands; assumption))); rintro e w6 ⟨rfl, hb6⟩)
          | (go_at_call 12; refine (HOF.out _ ?_).mono ?_; (· (first | assumption | exact (Below.refl _ _).drew | (go_split_ands; assumption))); rintro e w6 ⟨rfl, hb6⟩)
          | (go_at_call 43; refine (HLI.out _ ?_).mono ?_; (· (first | assumption | exact (Below.refl _ _).drew | (go_split_ands; assumption))); rintro e w6 ⟨rfl, hb6⟩)))
      have hb7 : Below wr.heap.size wr w6 := by assumption
      have HB7 := hide (HB.out.trans (hb7.mono HB.out.size))
      clear hb6 hb7 ha1 ha2 hkk hk0
      have HS1 : Hid (s ++ ln = catB ((((ds.take k).flatMap (dayKeys before L)) ++ [(((dn : Int), 0, (⟨#[]⟩ : ByteArray)) : Ky)] ++ midKeys L dn 1).map (lineOf L))) := hide (by
        rw [HS.out, HLN.out, ← catB_snoc]
        simp [midKeys])
      have hs1 : (s ++ ln).size ≤ k * 200000000 + 1000000 := by rw [ByteArray.size_append]; omega
      obtain ⟨s1, hss1⟩ : ∃ s1, s ++ ln = s1 := ⟨_, rfl⟩
      rw [hss1] at HS1 hs1 ⊢
      clear hss1 HNU HOF HLI HK HXY HLN hlns
      obtain ⟨pre, hpre⟩ : ∃ pre, ((ds.take k).flatMap (dayKeys before L)) ++ [(((dn : Int), 0, (⟨#[]⟩ : ByteArray)) : Ky)] = pre := ⟨_, rfl⟩
      rw [hpre] at HS1
      have HPRE := hide hpre
      clear hpre
      go_wp2_with fail
      by_cases hbd : before ≤ (dn : Int)
      · go_loopw [5, 9] (fun so i wi => ∃ (kd : Nat) (s : ByteArray), 1 ≤ kd ∧ kd ≤ 4 ∧ i = .int .i64 kd ∧ so = .string s ∧ Hid (s = catB ((pre ++ midKeys L dn kd).map (lineOf L))) ∧ s.size ≤ k * 200000000 + kd * 50000000 ∧ Below W2.heap.size W2 wi) (fun _ i _ => 4 - (intOf i).toNat)
        case atStart =>
          have hq : s1.size ≤ k * 200000000 + 1 * 50000000 := Nat.le_trans hs1 (Nat.add_le_add_left (by decide) _)
          exact ⟨1, s1, Nat.le_refl _, by decide, rfl, rfl, HS1.out, hq, HB7.out⟩
        case round =>
          obtain ⟨kd, s3, hkd1, hkd4, rfl, rfl, HS3, hs3, hbw3⟩ := hrel
          have HB3 := hide hbw3
          clear hbw3
          have cd := HCD.out _ HB3.out
          have hdk : (k : Int) < (ds.length : Int) := by omega
          by_cases hlk : kd ≤ 3
          · have HALL : Hid (∀ w', Below wr.heap.size wr w' → Calls Tryz.prog 18 #[.slice a n c, .int .i64 (kd : Int), .int .i64 (dn : Int), .int .i64 (dn : Int)] w' fun e w'' => ∃ (A : Option Addr) (no co : Nat) (Ln : List ByteArray), Ln = allL kd dn dn L ∧ e = .returned (.slice A no co) ∧ StrR w'' A no Ln ∧ Below wr.heap.size wr w'') := hide fun w' hb => by
              have := all_any kd dn dn a n c l w' ((HEV2.out.below HB3.out).below hb) HOK.out hn
              rw [show l.map (·.ev) = L from HLQ.out] at this
              exact this.mono (by rintro e w'' ⟨A, no, co, Ln, h1, rfl, h3, h4, h5⟩; exact ⟨A, no, co, Ln, h1, rfl, strR_own h4, hb.trans (h5.mono hb.size)⟩)
            have HK3 : Hid (∀ w', Below wr.heap.size wr w' → w'.cell? ⟨g1, k, none⟩ = some (.int .i64 (dn : Int)) ∧ Below wr.heap.size wr w') := hide fun w' hb => ⟨HCD.out _ (HB3.out.trans (hb.mono HB3.out.size)), hb⟩
            go_upto_region 11 with fail
            go_region_held3 (fun w' => w'.cell? ⟨g1, k, none⟩ = some (.int .i64 (dn : Int)) ∧ Below wr.heap.size wr w')
              (first | exact HK3.out _ (by assumption) | exact HK3.out _ (Below.refl _ _).drew | exact HK3.out _ (Below.refl _ _))
              ((first
                | (go_at_call 18; refine (HALL.out _ ?_).mono ?_; (· (first | assumption | exact (Below.refl _ _).drew | (go_split_ands; assumption))); rintro e w7 ⟨AN, no, co, Ln, hLn, rfl, hstr, hb7⟩)))
            have hb8 : Below wr.heap.size wr w7 := by assumption
            have HB8 : Hid (Below W2.heap.size W2 w7) := hide (HB3.out.trans (hb8.mono HB3.out.size))
            have hnl := hstr.len
            have hno : no ≤ 50000 := by
              rw [← hnl, hLn]
              have := allL_length (kind := kd) (fro := dn) (til := dn) L [] (fun e he => (HEA.out e he).1)
              simp only [List.length_nil] at this
              unfold allL; omega
            have HSZ : Hid (∀ x ∈ Ln, x.size ≤ 80) := hide (by rw [hLn]; exact allL_size HEA.out)
            have HKN : Hid (midKeys L dn (kd + 1) = midKeys L dn kd ++ Ln.map fun nm => (((dn : Int), (kd : Int), nm) : Ky)) := hide (by rw [midKeys_succ L dn hkd1, kindKeys, hLn])
            have HSTR := hide hstr
            clear hstr hLn hb7 hb8 HALL HK3
            go_wp2_with fail
            go_loopw [5, 11] (fun so j wj => ∃ (q : Nat) (s : ByteArray), q ≤ no ∧ j = .int .i64 q ∧ so = .string s ∧ Hid (s = catB ((pre ++ midKeys L dn kd ++ (Ln.take q).map fun nm => (((dn : Int), (kd : Int), nm) : Ky)).map (lineOf L))) ∧ s.size ≤ k * 200000000 + kd * 50000000 + q * 200 ∧ Below w7.heap.size w7 wj) (fun _ j _ => no - (intOf j).toNat)
            case atStart =>
              have hq : s3.size ≤ k * 200000000 + kd * 50000000 + 0 * 200 := Nat.le_trans hs3 (Nat.le_add_right _ _)
              have hh : Hid (s3 = catB ((pre ++ midKeys L dn kd ++ (Ln.take 0).map fun nm => (((dn : Int), (kd : Int), nm) : Ky)).map (lineOf L))) := hide (by rw [HS3.out]; simp)
              exact ⟨0, s3, Nat.zero_le _, rfl, rfl, hh, hq, Below.refl _ _⟩
            case round =>
              obtain ⟨q, s4, hq, rfl, rfl, HS4, hs4, hbw4⟩ := hrel
              have HB4 := hide hbw4
              clear hbw4
              have HBJ : Hid (Below W2.heap.size W2 wr) := hide (HB8.out.trans (HB4.out.mono HB8.out.size))
              by_cases hlq : q < no
              · obtain ⟨gN, rfl, hcN⟩ := HSTR.out.cells (by omega)
                obtain ⟨nm, hnm⟩ : ∃ nm, Ln[q]? = some nm := ⟨_, List.getElem?_eq_getElem (by omega)⟩
                have hnm80 := HSZ.out nm (List.mem_of_getElem? hnm)
                have HC1 : Hid (wr.cell? ⟨gN, q, none⟩ = some (.string nm)) := hide ((HB4.out.cell (block_lt_of_cell (hcN q nm hnm))).trans (hcN q nm hnm))
                have HC2 : Hid (wr.cell? ⟨w1.heap.size, kd, none⟩ = some (.string (wordB kd ++ ⟨#[32]⟩))) := hide ((HBJ.out.cell hwl).trans (wordK hkd1 hlk W2 _ HWB.out))
                have HTQ : Hid (((Ln.take (q + 1)).map fun nm => (((dn : Int), (kd : Int), nm) : Ky)) = ((Ln.take q).map fun nm => (((dn : Int), (kd : Int), nm) : Ky)) ++ [(((dn : Int), (kd : Int), nm) : Ky)]) := hide (by rw [List.take_add_one, hnm]; simp)
                clear hcN hnm
                obtain ⟨x2, y2, hxy2, hx2, hy2⟩ := ofL_nat kd nm dn dn (fun e he => (HEA.out e he).1) hL
                have HXY2 := hide hxy2
                obtain ⟨wd, hwd⟩ : ∃ wd, wordB kd ++ (⟨#[32]⟩ : ByteArray) = wd := ⟨_, rfl⟩
                have hwds : wd.size ≤ 7 := by
                  have := wordB_size kd
                  rw [← hwd, ByteArray.size_append, show (⟨#[32]⟩ : ByteArray).size = 1 from rfl]; omega
                rw [hwd] at HC2
                obtain ⟨sd, hsd⟩ : ∃ sd, wd ++ nm = sd := ⟨_, rfl⟩
                have hsd1 : sd.size ≤ 87 := by rw [← hsd, ByteArray.size_append]; omega
                have hln2 := lineB_size sd hx2 hy2
                have hb1 : Op.stringOp .add wd nm = pure (.string sd) := by
                  rw [add_str _ _ (by omega), hsd]
                have HLN2 : Hid (lineB sd x2 y2 = lineOf L ((dn : Int), (kd : Int), nm)) := hide (by
                  unfold lineOf keyLine cntL nameB
                  simp only
                  rw [hxy2, if_neg (by omega), hwd, hsd]
                  rfl)
                obtain ⟨ln2, hlnn2⟩ : ∃ ln, lineB sd x2 y2 = ln := ⟨_, rfl⟩
                have hlns2 : ln2.size ≤ 110 := by rw [← hlnn2]; omega
                have hb2 : Op.stringOp .add s4 ln2 = pure (.string (s4 ++ ln2)) := add_str _ _ (by omega)
                have HOF2 : Hid (∀ w', Below wr.heap.size wr w' → Calls Tryz.prog 12 #[.slice a n c, .int .i64 (kd : Int), .string nm, .int .i64 (dn : Int), .int .i64 (dn : Int)] w' fun e w'' => e = .returned (.agg #[.int .i64 (x2 : Int), .int .i64 (y2 : Int)]) ∧ Below wr.heap.size wr w'') := hide fun w' hb => by
                  have := of52_any kd nm dn dn a n c l w' ((HEV2.out.below HBJ.out).below hb) HOK.out hn
                  rw [show l.map (·.ev) = L from HLQ.out, HXY2.out, cntV_mk] at this
                  exact this.mono (by rintro e w'' ⟨rfl, hq⟩; exact ⟨rfl, hb.trans (hq.mono hb.size)⟩)
                have HLI2 : Hid (∀ w', Below wr.heap.size wr w' → Calls Tryz.prog 43 #[.string sd, .agg #[.int .i64 (x2 : Int), .int .i64 (y2 : Int)]] w' fun e w'' => e = .returned (.string ln2) ∧ Below wr.heap.size wr w'') := hide fun w' hb => by
                  have := line_any sd x2 y2 w' (by omega) hx2 hy2
                  rw [hlnn2] at this
                  exact this.mono (by rintro e w'' ⟨rfl, hq⟩; exact ⟨rfl, hb.trans (hq.mono hb.size)⟩)
                have HK4 : Hid (∀ w', Below wr.heap.size wr w' → w'.cell? ⟨g1, k, none⟩ = some (.int .i64 (dn : Int)) ∧ w'.cell? ⟨gN, q, none⟩ = some (.string nm) ∧ w'.cell? ⟨w1.heap.size, kd, none⟩ = some (.string wd) ∧ Below wr.heap.size wr w') := hide fun w' hb =>
                  ⟨HCD.out _ (HBJ.out.trans (hb.mono HBJ.out.size)), (hb.cell (block_lt_of_cell HC1.out)).trans HC1.out, (hb.cell (block_lt_of_cell HC2.out)).trans HC2.out, hb⟩
                rw [hlnn2] at HLN2
                have hqq : (q : Int) < (no : Int) := by omega
                have hq0 : (0 : Int) ≤ (q : Int) := by omega
                have hkk4 : (kd : Int) < 4 := by omega
                have hkk1 : (0 : Int) ≤ (kd : Int) := by omega
                clear hln2 hlnn2 hsd hsd1 hxy2 hwd hwds
                go_upto_region 15 with fail
                go_region_held3 (fun w' => w'.cell? ⟨g1, k, none⟩ = some (.int .i64 (dn : Int)) ∧ w'.cell? ⟨gN, q, none⟩ = some (.string nm) ∧ w'.cell? ⟨w1.heap.size, kd, none⟩ = some (.string wd) ∧ Below wr.heap.size wr w')
                  (first | exact HK4.out _ (by assumption) | exact HK4.out _ (Below.refl _ _).drew | exact HK4.out _ (Below.refl _ _))
                  ((first
                    | (go_at_call 12; refine (HOF2.out _ ?_).mono ?_; (· (first | assumption | exact (Below.refl _ _).drew | (go_split_ands; assumption))); rintro e w8 ⟨rfl, hb8⟩)
                    | (go_at_call 43; refine (HLI2.out _ ?_).mono ?_; (· (first | assumption | exact (Below.refl _ _).drew | (go_split_ands; assumption))); rintro e w8 ⟨rfl, hb8⟩)))
                have hb9 : Below wr.heap.size wr w8 := by assumption
                have HB9 : Hid (Below w7.heap.size w7 w8) := hide (HB4.out.trans (hb9.mono HB4.out.size))
                clear hb8 hb9
                have HS5 : Hid (s4 ++ ln2 = catB ((pre ++ midKeys L dn kd ++ (Ln.take (q + 1)).map fun nm => (((dn : Int), (kd : Int), nm) : Ky)).map (lineOf L))) := hide (by
                  rw [HS4.out, HLN2.out, HTQ.out, ← catB_snoc]
                  simp)
                have hs5 : (s4 ++ ln2).size ≤ k * 200000000 + kd * 50000000 + (q + 1) * 200 := by
                  rw [ByteArray.size_append, Nat.succ_mul, ← Nat.add_assoc]
                  exact Nat.add_le_add hs4 (Nat.le_trans hlns2 (by decide))
                go_wp2_with fail
                go_roundw
                case rel => exact ⟨q + 1, s4 ++ ln2, by omega, by go_num, rfl, HS5, hs5, HB9.out⟩
                case measure => simp [intOf]; omega
              · obtain rfl : q = no := by omega
                have HS6 : Hid (s4 = catB ((pre ++ midKeys L dn (kd + 1)).map (lineOf L))) := hide (by
                  rw [HS4.out, HKN.out, List.take_of_length_le (by omega), List.append_assoc])
                have hs6 : s4.size ≤ k * 200000000 + (kd + 1) * 50000000 := by
                  rw [Nat.succ_mul, ← Nat.add_assoc]
                  exact Nat.le_trans hs4 (Nat.add_le_add_left (Nat.le_trans (Nat.mul_le_mul_right 200 hno) (by decide)) _)
                go_wp2_with fail
                go_roundw
                case rel => exact ⟨kd + 1, s4, by omega, by omega, by go_num, rfl, HS6, hs6, HBJ.out⟩
                case measure => simp [intOf]; omega
          · obtain rfl : kd = 4 := by omega
            have HTD2 : Hid ((ds.take (k + 1)).flatMap (dayKeys before L) = pre ++ midKeys L dn 4) := hide (by
              rw [HTD.out, ← HPRE.out, dayKeys, if_pos hbd]; simp)
            go_wp2_with fail
            go_roundw
            case rel => exact ⟨k + 1, s3, by omega, by go_num, rfl, by rw [Hid, HTD2.out]; exact HS3.out, by omega, HB3.out⟩
            case measure => simp [intOf]; omega
      · have HTD2 : Hid ((ds.take (k + 1)).flatMap (dayKeys before L) = pre ++ midKeys L dn 1) := hide (by
          rw [HTD.out, ← HPRE.out, dayKeys, if_neg hbd]; simp [midKeys])
        have cd := HCD.out _ HB7.out
        have hbf : decide (before ≤ (dn : Int)) = false := by simpa using hbd
        go_loopw [5, 9] (fun so i wi => so = .string s1 ∧ i = .int .i64 1 ∧ w6 = wi) (fun _ _ _ => 0)
        case atStart => exact ⟨rfl, rfl, rfl⟩
        case round =>
          obtain ⟨rfl, rfl, rfl⟩ := hrel
          go_wp2_with fail
          go_roundw
          case rel => exact ⟨k + 1, s1, by omega, by go_num, rfl, by rw [Hid, HTD2.out]; exact HS1.out, by omega, HB7.out⟩
          case measure => simp [intOf]; omega
    · obtain rfl : k = ds.length := by omega
      have HSK : Hid (s = catB ((keysM before L).map (lineOf L))) := hide (by
        rw [HS.out, List.take_length, keysM, ← HDS.out])
      have hsk : s.size ≤ 200000000000 := Nat.le_trans hsz (Nat.le_trans (Nat.mul_le_mul_right _ hdl) (by decide))
      have HSM : Hid (Calls Tryz.prog 17 #[.slice a n c] wr fun e w' => e = .returned (.agg (intsV (zOf L))) ∧ Below wr.heap.size wr w') := hide (by
        have := sizesM_any a n c l wr (HEV2.out.below HB.out) HOK.out hn
        rw [show l.map (·.ev) = L from HLQ.out] at this
        exact this)
      have hzl : (zOf L).length = 18 := zOf_length L
      have HZR : Hid (∀ x ∈ zOf L, 0 ≤ x ∧ x ≤ 1000) := hide (fun x hx => by have := zOf_range L x hx; omega)
      have HT : Hid (textL before L = catB ((keysM before L).map (lineOf L) ++ sizeLines (zOf L) 18)) := hide rfl
      obtain ⟨z, hz⟩ : ∃ z, zOf L = z := ⟨_, rfl⟩
      obtain ⟨tx, htx⟩ : ∃ tx, textL before L = tx := ⟨_, rfl⟩
      rw [hz] at HSM hzl HZR HT
      rw [htx] at HT
      have HTX := hide htx
      obtain ⟨pre, hpre⟩ : ∃ pre, (keysM before L).map (lineOf L) = pre := ⟨_, rfl⟩
      rw [hpre] at HSK HT
      have HI2 : Hid ((Tryz.prog.info? 41).map (·.size) = some (intsV z).size) := hide (by rw [intsV_size, hzl]; rfl)
      have HL : Hid (18 = (intsV z).size) := hide (by rw [intsV_size, hzl])
      have H1 : Hid ((intsV z).all (·.oneCell') = true) := hide (by simp [intsV, Value.oneCell'])
      have HZC : Hid (∀ (w' : World) (b : Nat), w'.heap[b]? = some (.cells (intsV z) 41 (0, 0)) → ∀ q, q < 18 → w'.cell? ⟨b, q, none⟩ = some (.int .i64 (z.getD q 0))) := hide (fun w' b hb q hq => by
        rw [cell_of_row w' b q _ _ _ hb]
        simp [intsV, List.getElem?_eq_getElem (show q < z.length by omega)])
      have HZL := hide hzl
      obtain ⟨cs, hcs⟩ : ∃ cs, intsV z = cs := ⟨_, rfl⟩
      rw [hcs] at HSM HI2 HL H1 HZC
      clear hz htx hpre hcs hzl hsz HDR HDS HS
      have HWL := hwl
      go_wp2_with fail
      refine HSM.out.mono ?_
      rintro e w7 ⟨rfl, hb7⟩
      have HB7 : Hid (Below w.heap.size w w7) := hide ((HB2.out.trans (HB.out.mono HB2.out.size)).trans (hb7.mono (HB2.out.trans (HB.out.mono HB2.out.size)).size))
      clear hb7
      go_wp2_with (first | (refine wpList_store_row rfl 41 _ _ rfl w7.heap.size _ rfl rfl _ _ (heap_alloc_new _ _) HI2.out HL.out H1.out ?_))
      obtain ⟨W8, hW8⟩ : ∃ W8, W8 = ((w7.alloc (.cells #[.int .i64 0, .int .i64 0, .int .i64 0, .int .i64 0, .int .i64 0, .int .i64 0, .int .i64 0, .int .i64 0, .int .i64 0, .int .i64 0, .int .i64 0, .int .i64 0, .int .i64 0, .int .i64 0, .int .i64 0, .int .i64 0, .int .i64 0, .int .i64 0] 41)).setRow w7.heap.size cs) := ⟨_, rfl⟩
      rw [← hW8]
      have HW8 : Hid (W8.heap[w7.heap.size]? = some (.cells cs 41 (0, 0))) := hide (by rw [hW8]; exact setRow_heap _ _ _ _ _ _ (heap_alloc_new _ _))
      have HB8 : Hid (Below w.heap.size w W8) := hide (by rw [hW8]; exact below_setRow (HB7.out.alloc HB7.out.size _) HB7.out.size _)
      have hw78 : w7.heap.size < W8.heap.size := (Array.getElem?_eq_some_iff.1 HW8.out).1
      clear hW8
      go_wp2_with fail
      go_loopw [5, 13] (fun so i wl => ∃ (q : Nat) (s : ByteArray), q ≤ 18 ∧ i = .int .i64 q ∧ so = .string s ∧ Hid (s = catB (pre ++ sizeLines z q)) ∧ s.size ≤ 200000000000 + q * 60 ∧ Hid (Below W8.heap.size W8 wl)) (fun _ i _ => 18 - (intOf i).toNat)
      case atStart =>
        have hq : s.size ≤ 200000000000 + 0 * 60 := hsk
        have hh : Hid (s = catB (pre ++ sizeLines z 0)) := hide (by rw [HSK.out]; simp [sizeLines])
        exact ⟨0, s, Nat.zero_le _, rfl, rfl, hh, hq, Below.refl _ _⟩
      case round =>
        obtain ⟨q, s4, hq, rfl, rfl, HS4, hs4, HBL⟩ := hrel
        by_cases hlq : q < 18
        · obtain ⟨m, hm, hm1⟩ : ∃ m : Nat, z.getD q 0 = m ∧ m ≤ 1000 := by
            have hx : z.getD q 0 ∈ z := by
              rw [List.getD_eq_getElem?_getD, List.getElem?_eq_getElem (by rw [HZL.out]; exact hlq)]
              exact List.getElem_mem _
            have := HZR.out _ hx
            exact ⟨(z.getD q 0).toNat, by omega, by omega⟩
          have HCQ : Hid (wr.cell? ⟨w7.heap.size, q, none⟩ = some (.int .i64 (m : Int))) := hide (by
            rw [HBL.out.cell (p := ⟨w7.heap.size, q, none⟩) hw78, HZC.out _ _ HW8.out q hlq, hm])
          have HZQ : Hid (sizeLines z (q + 1) = if 0 < (m : Int) then sizeLines z q ++ [sizeLine q (m : Int)] else sizeLines z q) := hide (by rw [sizeLines, hm])
          clear hm
          have hq0 : (0 : Int) ≤ (q : Int) := by omega
          have hq18 : (q : Int) < 18 := by omega
          have hcq := HCQ.out
          by_cases hmp : 0 < (m : Int)
          · have hdq := decB_20 (n := q) (by omega)
            have hdm := decB_20 (n := m) (by omega)
            have z5 : (⟨#[115, 105, 122, 101, 32]⟩ : ByteArray).size = 5 := rfl
            have z1 : (⟨#[32]⟩ : ByteArray).size = 1 := rfl
            have z2 : (⟨#[10]⟩ : ByteArray).size = 1 := rfl
            have hs4' : s4.size ≤ 200000002000 := Nat.le_trans hs4 (by omega)
            have a1 : Op.stringOp .add s4 ⟨#[115, 105, 122, 101, 32]⟩ = pure (.string (s4 ++ ⟨#[115, 105, 122, 101, 32]⟩)) := add_str _ _ (by omega)
            have a2 : Op.stringOp .add (s4 ++ ⟨#[115, 105, 122, 101, 32]⟩) (decB q) = pure (.string (s4 ++ ⟨#[115, 105, 122, 101, 32]⟩ ++ decB q)) := add_str _ _ (by simp only [ByteArray.size_append]; omega)
            have a3 : Op.stringOp .add (s4 ++ ⟨#[115, 105, 122, 101, 32]⟩ ++ decB q) ⟨#[32]⟩ = pure (.string (s4 ++ ⟨#[115, 105, 122, 101, 32]⟩ ++ decB q ++ ⟨#[32]⟩)) := add_str _ _ (by simp only [ByteArray.size_append]; omega)
            have a4 : Op.stringOp .add (s4 ++ ⟨#[115, 105, 122, 101, 32]⟩ ++ decB q ++ ⟨#[32]⟩) (decB m) = pure (.string (s4 ++ ⟨#[115, 105, 122, 101, 32]⟩ ++ decB q ++ ⟨#[32]⟩ ++ decB m)) := add_str _ _ (by simp only [ByteArray.size_append]; omega)
            have a5 : Op.stringOp .add (s4 ++ ⟨#[115, 105, 122, 101, 32]⟩ ++ decB q ++ ⟨#[32]⟩ ++ decB m) ⟨#[10]⟩ = pure (.string (s4 ++ sizeLine q (m : Int))) := by
              rw [add_str _ _ (by simp only [ByteArray.size_append]; omega)]
              congr 2
              unfold sizeLine
              simp only [ByteArray.append_assoc, Int.toNat_natCast]
              rw [← ByteArray.append_assoc (a := ⟨#[115, 105, 122, 101]⟩) (b := ⟨#[32]⟩)]
              rfl
            have hsl : (sizeLine q (m : Int)).size ≤ 60 := by
              unfold sizeLine
              simp only [ByteArray.size_append, Int.toNat_natCast]
              have z4 : (⟨#[115, 105, 122, 101]⟩ : ByteArray).size = 4 := rfl
              omega
            have HNU : Hid (∀ (v : Nat) w', (v = q ∨ v = m) → Below wr.heap.size wr w' → Calls Tryz.prog 44 #[.int .i64 (v : Int)] w' fun e w'' => e = .returned (.string (decB v)) ∧ Below wr.heap.size wr w'') := hide fun v w' hv hb => (number_any v w' (by omega)).mono (by rintro e w'' ⟨rfl, hq⟩; exact ⟨rfl, hb.trans (hq.mono hb.size)⟩)
            have HK : Hid (∀ w', Below wr.heap.size wr w' → w'.cell? ⟨w7.heap.size, q, none⟩ = some (.int .i64 (m : Int)) ∧ Below wr.heap.size wr w') := hide fun w' hb => ⟨(hb.cell (block_lt_of_cell HCQ.out)).trans HCQ.out, hb⟩
            clear z5 z1 z2 hdq hdm
            go_upto_region 21 with fail
            go_region_held3 (fun w' => w'.cell? ⟨w7.heap.size, q, none⟩ = some (.int .i64 (m : Int)) ∧ Below wr.heap.size wr w')
              (first | exact HK.out _ (by assumption) | exact HK.out _ (Below.refl _ _).drew | exact HK.out _ (Below.refl _ _))
              ((first
                | (go_at_call 44; refine (HNU.out _ _ ?_ ?_).mono ?_; (· first | exact Or.inl rfl | exact Or.inr rfl); (· (first | assumption | exact (Below.refl _ _).drew | (go_split_ands; assumption))); rintro e w9 ⟨rfl, hb9⟩)))
            have hb10 : Below wr.heap.size wr w9 := by assumption
            have HB10 : Hid (Below W8.heap.size W8 w9) := hide (HBL.out.trans (hb10.mono HBL.out.size))
            have HS5 : Hid (s4 ++ sizeLine q (m : Int) = catB (pre ++ sizeLines z (q + 1))) := hide (by
              rw [HZQ.out, if_pos hmp, ← List.append_assoc, catB_snoc, HS4.out])
            have hs5 : (s4 ++ sizeLine q (m : Int)).size ≤ 200000000000 + (q + 1) * 60 := by
              rw [ByteArray.size_append, Nat.succ_mul, ← Nat.add_assoc]
              exact Nat.add_le_add hs4 hsl
            clear hb9 hb10 a1 a2 a3 a4 a5
            go_wp2_with fail
            go_roundw
            case rel => exact ⟨q + 1, _, by omega, by go_num, rfl, HS5, hs5, HB10.out⟩
            case measure => simp [intOf]; omega
          · have HS5 : Hid (s4 = catB (pre ++ sizeLines z (q + 1))) := hide (by rw [HZQ.out, if_neg hmp, HS4.out])
            have hs5 : s4.size ≤ 200000000000 + (q + 1) * 60 := Nat.le_trans hs4 (by omega)
            go_wp2_with fail
            go_roundw
            case rel => exact ⟨q + 1, s4, by omega, by go_num, rfl, HS5, hs5, HBL.out⟩
            case measure => simp [intOf]; omega
        · obtain rfl : q = 18 := by omega
          go_wp2_with fail
          go_ret
          have hfin : s4 = textL before L := HS4.out.trans (HT.out.symm.trans HTX.out.symm)
          exact ⟨by rw [← hfin]; rfl, HB8.out.trans (HBL.out.mono HB8.out.size)⟩
end Go.Proofs.YticcfbeocepnpaaGreatDoor
