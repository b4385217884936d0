/- Contract of the reference's Event, good arguments. -/
import Derived.Test.YtfndgiinniibfaaL7
import Derived.Deep.RegionHeld3
namespace Go.Proofs.Ytfndgiinniibfaa.Ind
open Go.Shelf Go.RowKit Go.Lib

set_option linter.unusedSimpArgs false in
set_option maxRecDepth 100000 in
set_option maxHeartbeats 4000000 in
theorem eventR_good {F G : List Nat} (w : World) (m : RM) (sv va : Value) (n v : Int) (a : RA) (h : StatesAt w F sv m.states) (ha : NotAt w G va a) (hv : validM m = true) (hc : 1 ≤ n ∧ n ≤ 12) (hvn : 0 ≤ v ∧ v < n) :
    Calls Try.prog 21 #[machV m sv, .int .i64 n, arcV va a, .int .i64 v] w fun e w' => e = .returned (.int .i64 (eventB m n a v)) ∧ Frm [] w w' := by
  obtain ⟨sa, sc, rfl, l1⟩ := statesShape h
  obtain ⟨na, nc, rfl⟩ := RowV.shape ha
  have HVL : Hid (∀ W, Frm [] w W → Calls Try.prog 34 #[machV m (.slice sa m.states.length sc)] W fun e w' => e = .returned (.bool (validM m)) ∧ Frm [] W w') := Lib.hid fun W hf => validMachine_any W m _ (h.nil hf)
  have hb1 := (RowAt.made w 28 (mboxC m (.slice sa m.states.length sc)) #[.int .i64 m.regs, .int .i64 m.data, .int .i64 m.plain, .slice sa m.states.length sc] rfl).alloc (.cells #[.int .i64 a.kind, .int .i64 a.ch, .int .i64 a.reg, .int .i64 a.frm, .slice na a.not.length nc, .int .i64 a.to] 24)
  have hb2 := row_made1 w (.cells #[.int .i64 m.regs, .int .i64 m.data, .int .i64 m.plain, .slice sa m.states.length sc] 28) 24 [.int .i64 a.kind, .int .i64 a.ch, .int .i64 a.reg, .int .i64 a.frm, .slice na a.not.length nc, .int .i64 a.to] #[.int .i64 a.kind, .int .i64 a.ch, .int .i64 a.reg, .int .i64 a.frm, .slice na a.not.length nc, .int .i64 a.to] rfl
  have f0 : Frm [] w ((w.alloc (.cells #[.int .i64 m.regs, .int .i64 m.data, .int .i64 m.plain, .slice sa m.states.length sc] 28)).alloc (.cells #[.int .i64 a.kind, .int .i64 a.ch, .int .i64 a.reg, .int .i64 a.frm, .slice na a.not.length nc, .int .i64 a.to] 24)) := ((Frm.refl [] w).alloc _).alloc _
  have HB1 := Lib.hid hb1
  have HB2 := Lib.hid hb2
  have F0 := Lib.hid f0
  have H := Lib.hid h
  have HA := Lib.hid ha
  clear hb1 hb2 f0 h ha
  unfold machV at HVL
  unfold machV arcV
  rw [hv] at HVL
  have j1 : ¬ n < 1 := by omega
  have j2 : ¬ 12 < n := by omega
  have j3 : ¬ v < 0 := by omega
  have j4 : ¬ n ≤ v := by omega
  have HVN := Lib.hid hvn
  have HC := Lib.hid hc
  have HV := Lib.hid hv
  clear hv hc hvn
  go_enter Try.func21, Try.ntmps21
  go_wp2_with fail
  refine (HVL.out _ F0.out).mono ?_
  rintro e1 w1 ⟨rfl, hf1⟩
  have F1 := Lib.hid (F0.out.trans hf1 (by simp))
  have B1 := Lib.hid (HB1.out.frm hf1 (by simp))
  have B2 := Lib.hid (HB2.out.frm hf1 (by simp))
  clear hf1
  go_wp2_with fail
  go_loopg [9] m.states.length (fun q i wr => ∃ (k : Nat), q = m.states.length - k ∧ k ≤ m.states.length ∧ i = .int .i64 k ∧ (m.states.take k).any (fun r => r.any fun y => sameB y a) = false ∧ Frm [] w1 wr)
  case atStart => exact ⟨0, rfl, Nat.zero_le _, rfl, rfl, Frm.refl _ _⟩
  case round =>
    obtain ⟨k, hq, hk, rfl, hd, hF⟩ := hrel
    have HQ := Lib.hid hq
    have HF := Lib.hid hF
    have HD := Lib.hid hd
    have i4 : (0 : Int) ≤ (k : Int) := by omega
    have C1 := Lib.hid (B1.out.frm hF (by simp))
    have C2 := Lib.hid (B2.out.frm hF (by simp))
    have c3 := C1.out.cell (i := 3) rfl
    clear hF hq hd
    by_cases hlt : k < m.states.length
    · have i5 : (k : Int) < (m.states.length : Int) := by omega
      obtain ⟨r, hr⟩ : ∃ r, m.states[k]? = some r := ⟨_, List.getElem?_eq_getElem hlt⟩
      obtain ⟨b8, o8, c8, ra, rn, rc, e8, _, _, _, hcell, rfl, harcs⟩ := H.out.at_ hr
      cases e8
      have FW := Lib.hid (F1.out.trans HF.out (by simp))
      have D8 := Lib.hid (FW.out.cell hcell (by simp))
      have HAR := Lib.hid harcs
      have HRR := Lib.hid hr
      have HRV : Hid (∀ y ∈ r, arcB m y = true) := Lib.hid fun y hy => validM_arc HV.out (List.mem_of_getElem? hr) hy
      have hrl := validM_row HV.out (List.mem_of_getElem? hr)
      have i6 : (r.length : Int) ≤ 16 := by omega
      clear hcell harcs hr hrl
      go_wp2_with fail
      clear c3
      obtain ⟨wx, hwx⟩ : ∃ x, x = wr := ⟨wr, rfl⟩
      subst hwx
      go_loopg [10] r.length (fun q i wi => ∃ (j : Nat), q = r.length - j ∧ j ≤ r.length ∧ i = .int .i64 j ∧ (r.take j).any (fun y => sameB y a) = false ∧ Frm [] wx wi)
      case atStart => exact ⟨0, rfl, Nat.zero_le _, rfl, rfl, Frm.refl _ _⟩
      case round =>
        obtain ⟨j, hq, hj, rfl, hd, hF⟩ := hrel
        have HQJ := Lib.hid hq
        have HFJ := Lib.hid hF
        have HDJ := Lib.hid hd
        have i7 : (0 : Int) ≤ (j : Int) := by omega
        have E1 := Lib.hid (C1.out.frm hF (by simp))
        have E2 := Lib.hid (C2.out.frm hF (by simp))
        have D9 := Lib.hid (hF.cell D8.out (by simp))
        have c3 := E1.out.cell (i := 3) rfl
        have d9 := D9.out
        have FWJ := Lib.hid (FW.out.trans hF (by simp))
        clear hF hq hd
        by_cases hjl : j < r.length
        · have i8 : (j : Int) < (r.length : Int) := by omega
          obtain ⟨y, hy⟩ : ∃ y, r[j]? = some y := ⟨_, List.getElem?_eq_getElem hjl⟩
          obtain ⟨rb, ro, ya, yc, rfl, _, _, k0, k1, k2, k3, k4, k5, hnot⟩ := HAR.out.at_ hy
          have KC : Hid (w.cell? ⟨rb, ro + j * 6, none⟩ = some (.int .i64 y.kind) ∧ w.cell? ⟨rb, ro + j * 6 + 1, none⟩ = some (.int .i64 y.ch) ∧ w.cell? ⟨rb, ro + j * 6 + 2, none⟩ = some (.int .i64 y.reg) ∧ w.cell? ⟨rb, ro + j * 6 + 3, none⟩ = some (.int .i64 y.frm) ∧ w.cell? ⟨rb, ro + j * 6 + 4, none⟩ = some (.slice ya y.not.length yc) ∧ w.cell? ⟨rb, ro + j * 6 + 5, none⟩ = some (.int .i64 y.to)) := Lib.hid ⟨k0, k1, k2, k3, k4, k5⟩
          have KEEP : Hid (∀ w', Frm [] wr w' → w'.cell? ⟨w.heap.size, 0, none⟩ = some (.int .i64 m.regs) ∧ w'.cell? ⟨w.heap.size, 1, none⟩ = some (.int .i64 m.data) ∧ w'.cell? ⟨w.heap.size, 2, none⟩ = some (.int .i64 m.plain) ∧ w'.cell? ⟨w.heap.size, 3, none⟩ = some (.slice (some ⟨b8, o8, none⟩) m.states.length sc) ∧ w'.cell? ⟨b8, o8 + k, none⟩ = some (.slice (some ⟨rb, ro, none⟩) r.length rc) ∧ w'.cell? ⟨rb, ro + j * 6, none⟩ = some (.int .i64 y.kind) ∧ w'.cell? ⟨rb, ro + j * 6 + 1, none⟩ = some (.int .i64 y.ch) ∧ w'.cell? ⟨rb, ro + j * 6 + 2, none⟩ = some (.int .i64 y.reg) ∧ w'.cell? ⟨rb, ro + j * 6 + 3, none⟩ = some (.int .i64 y.frm) ∧ w'.cell? ⟨rb, ro + j * 6 + 4, none⟩ = some (.slice ya y.not.length yc) ∧ w'.cell? ⟨rb, ro + j * 6 + 5, none⟩ = some (.int .i64 y.to) ∧ w'.cell? ⟨w.heap.size + 1, 0, none⟩ = some (.int .i64 a.kind) ∧ w'.cell? ⟨w.heap.size + 1, 1, none⟩ = some (.int .i64 a.ch) ∧ w'.cell? ⟨w.heap.size + 1, 2, none⟩ = some (.int .i64 a.reg) ∧ w'.cell? ⟨w.heap.size + 1, 3, none⟩ = some (.int .i64 a.frm) ∧ w'.cell? ⟨w.heap.size + 1, 4, none⟩ = some (.slice na a.not.length nc) ∧ w'.cell? ⟨w.heap.size + 1, 5, none⟩ = some (.int .i64 a.to)) := Lib.hid fun w' hf => by
            have h1 := E1.out.frm hf (by simp)
            have h2 := E2.out.frm hf (by simp)
            obtain ⟨k0, k1, k2, k3, k4, k5⟩ := KC.out
            have hh := FWJ.out.trans hf (by simp)
            exact ⟨h1.cell (i := 0) rfl, h1.cell (i := 1) rfl, h1.cell (i := 2) rfl, h1.cell (i := 3) rfl, hf.cell D9.out (by simp), hh.cell k0 (by simp), hh.cell k1 (by simp), hh.cell k2 (by simp), hh.cell k3 (by simp), hh.cell k4 (by simp), hh.cell k5 (by simp), h2.cell (i := 0) rfl, h2.cell (i := 1) rfl, h2.cell (i := 2) rfl, h2.cell (i := 3) rfl, h2.cell (i := 4) rfl, h2.cell (i := 5) rfl⟩
          have HSM : Hid (∀ W, Frm [] w W → Calls Try.prog 39 #[.agg #[.int .i64 y.kind, .int .i64 y.ch, .int .i64 y.reg, .int .i64 y.frm, .slice ya y.not.length yc, .int .i64 y.to], .agg #[.int .i64 a.kind, .int .i64 a.ch, .int .i64 a.reg, .int .i64 a.frm, .slice na a.not.length nc, .int .i64 a.to]] W fun e w' => e = .returned (.bool (sameB y a)) ∧ Frm [] W w') := Lib.hid fun W hf => sameArc_any W _ _ y a (RowV.nil hnot hf) (RowV.nil HA.out hf)
          have HYY := Lib.hid hy
          clear k0 k1 k2 k3 k4 k5 hnot hy
          go_wp2_with fail
          clear c3 d9
          cases hs : sameB y a with
          | false =>
            rw [hs] at HSM
            have HT : Hid ((r.take (j + 1)).any (fun y => sameB y a) = false) := Lib.hid (by rw [List.take_add_one, HYY.out, List.any_append, HDJ.out]; simpa using hs)
            clear hs
            go_region_held3 (fun w' => w'.cell? ⟨w.heap.size, 0, none⟩ = some (.int .i64 m.regs) ∧ w'.cell? ⟨w.heap.size, 1, none⟩ = some (.int .i64 m.data) ∧ w'.cell? ⟨w.heap.size, 2, none⟩ = some (.int .i64 m.plain) ∧ w'.cell? ⟨w.heap.size, 3, none⟩ = some (.slice (some ⟨b8, o8, none⟩) m.states.length sc) ∧ w'.cell? ⟨b8, o8 + k, none⟩ = some (.slice (some ⟨rb, ro, none⟩) r.length rc) ∧ w'.cell? ⟨rb, ro + j * 6, none⟩ = some (.int .i64 y.kind) ∧ w'.cell? ⟨rb, ro + j * 6 + 1, none⟩ = some (.int .i64 y.ch) ∧ w'.cell? ⟨rb, ro + j * 6 + 2, none⟩ = some (.int .i64 y.reg) ∧ w'.cell? ⟨rb, ro + j * 6 + 3, none⟩ = some (.int .i64 y.frm) ∧ w'.cell? ⟨rb, ro + j * 6 + 4, none⟩ = some (.slice ya y.not.length yc) ∧ w'.cell? ⟨rb, ro + j * 6 + 5, none⟩ = some (.int .i64 y.to) ∧ w'.cell? ⟨w.heap.size + 1, 0, none⟩ = some (.int .i64 a.kind) ∧ w'.cell? ⟨w.heap.size + 1, 1, none⟩ = some (.int .i64 a.ch) ∧ w'.cell? ⟨w.heap.size + 1, 2, none⟩ = some (.int .i64 a.reg) ∧ w'.cell? ⟨w.heap.size + 1, 3, none⟩ = some (.int .i64 a.frm) ∧ w'.cell? ⟨w.heap.size + 1, 4, none⟩ = some (.slice na a.not.length nc) ∧ w'.cell? ⟨w.heap.size + 1, 5, none⟩ = some (.int .i64 a.to))
            (first | exact KEEP.out _ (Frm.refl [] wr).drew | exact KEEP.out _ hy5)
            (first | (go_at_call 39; refine (HSM.out _ (FWJ.out.trans (Frm.refl [] wr).drew (by simp))).mono ?_; rintro e5 w5 ⟨rfl, hf5⟩; have hy5 := (Frm.refl [] wr).drew.trans hf5 (by simp)))
            go_wp2_with fail
            go_roundg (r.length - (j + 1))
            case rel => exact ⟨j + 1, rfl, by omega, by go_num, HT.out, HFJ.out.trans hy5 (by simp)⟩
            case measure => have := HQJ.out; omega
          | true =>
            rw [hs] at HSM
            have hany : m.states.any (fun r => r.any fun y => sameB y a) = true := List.any_eq_true.2 ⟨r, List.mem_of_getElem? HRR.out, List.any_eq_true.2 ⟨y, List.mem_of_getElem? HYY.out, hs⟩⟩
            have HR : Hid (eventB m n a v = evB m n a v) := Lib.hid (by rw [eventB, if_pos ⟨HV.out, HC.out.1, HC.out.2, HVN.out.1, HVN.out.2, hany⟩])
            have hya := sameB_iff.1 hs
            have hok := arc_ok (validM_ok HV.out) (HRV.out y (List.mem_of_getElem? HYY.out))
            rw [hya] at hok
            have hm := validM_ok HV.out
            have HEV : Hid (∀ W, Calls Try.prog 40 #[.agg #[.int .i64 m.regs, .int .i64 m.data, .int .i64 m.plain, .slice (some ⟨b8, o8, none⟩) m.states.length sc], .int .i64 n, .agg #[.int .i64 a.kind, .int .i64 a.ch, .int .i64 a.reg, .int .i64 a.frm, .slice na a.not.length nc, .int .i64 a.to], .int .i64 v] W fun e w' => e = .returned (.int .i64 (evB m n a v)) ∧ Frm [] W w') := Lib.hid fun W => refEvent_any W m _ _ _ n v na _ nc a hm.d0 hm.d1 (by omega) (by omega) hok.ch.1 hok.ch.2 HVN.out.1 (by have := HVN.out.2; omega)
            clear hs hany hya hok hm
            go_region_held3 (fun w' => w'.cell? ⟨w.heap.size, 0, none⟩ = some (.int .i64 m.regs) ∧ w'.cell? ⟨w.heap.size, 1, none⟩ = some (.int .i64 m.data) ∧ w'.cell? ⟨w.heap.size, 2, none⟩ = some (.int .i64 m.plain) ∧ w'.cell? ⟨w.heap.size, 3, none⟩ = some (.slice (some ⟨b8, o8, none⟩) m.states.length sc) ∧ w'.cell? ⟨b8, o8 + k, none⟩ = some (.slice (some ⟨rb, ro, none⟩) r.length rc) ∧ w'.cell? ⟨rb, ro + j * 6, none⟩ = some (.int .i64 y.kind) ∧ w'.cell? ⟨rb, ro + j * 6 + 1, none⟩ = some (.int .i64 y.ch) ∧ w'.cell? ⟨rb, ro + j * 6 + 2, none⟩ = some (.int .i64 y.reg) ∧ w'.cell? ⟨rb, ro + j * 6 + 3, none⟩ = some (.int .i64 y.frm) ∧ w'.cell? ⟨rb, ro + j * 6 + 4, none⟩ = some (.slice ya y.not.length yc) ∧ w'.cell? ⟨rb, ro + j * 6 + 5, none⟩ = some (.int .i64 y.to) ∧ w'.cell? ⟨w.heap.size + 1, 0, none⟩ = some (.int .i64 a.kind) ∧ w'.cell? ⟨w.heap.size + 1, 1, none⟩ = some (.int .i64 a.ch) ∧ w'.cell? ⟨w.heap.size + 1, 2, none⟩ = some (.int .i64 a.reg) ∧ w'.cell? ⟨w.heap.size + 1, 3, none⟩ = some (.int .i64 a.frm) ∧ w'.cell? ⟨w.heap.size + 1, 4, none⟩ = some (.slice na a.not.length nc) ∧ w'.cell? ⟨w.heap.size + 1, 5, none⟩ = some (.int .i64 a.to))
            (first | exact KEEP.out _ (Frm.refl [] wr).drew | exact KEEP.out _ hy5)
            (first | (go_at_call 39; refine (HSM.out _ (FWJ.out.trans (Frm.refl [] wr).drew (by simp))).mono ?_; rintro e5 w5 ⟨rfl, hf5⟩; have hy5 := (Frm.refl [] wr).drew.trans hf5 (by simp)))
            obtain ⟨y0, y1, y2, y3, -, -, -, -, -, -, -, z0, z1, z2, z3, z4, z5⟩ := KEEP.out _ hy5
            go_wp2_with fail
            refine (HEV.out _).mono ?_
            rintro e6 w6 ⟨rfl, hf6⟩
            go_wp2_with fail
            go_ret
            exact ⟨by rw [HR.out]; rfl, (FWJ.out.trans hy5 (by simp)).trans hf6 (by simp)⟩
        · have i8 : ¬ (j : Int) < (r.length : Int) := by omega
          have HT : Hid ((m.states.take (k + 1)).any (fun r => r.any fun y => sameB y a) = false) := Lib.hid (by
            have hd := HDJ.out
            rw [List.take_of_length_le (by omega)] at hd
            rw [List.take_add_one, HRR.out, List.any_append, HD.out]
            simpa using hd)
          go_wp2_with fail
          go_roundg (m.states.length - (k + 1))
          case rel => exact ⟨k + 1, rfl, by omega, by go_num, HT.out, HF.out.trans HFJ.out (by simp)⟩
          case measure => have := HQ.out; omega
    · have i5 : ¬ (k : Int) < (m.states.length : Int) := by omega
      have HR : Hid (eventB m n a v = -1) := Lib.hid (by
        have hd := HD.out
        rw [List.take_of_length_le (by omega)] at hd
        rw [eventB, if_neg (fun h9 => by rw [hd] at h9; exact absurd h9.2.2.2.2.2 (by decide))])
      go_wp2_with fail
      go_ret
      exact ⟨by rw [HR.out]; rfl, F1.out.trans HF.out (by simp)⟩

end Go.Proofs.Ytfndgiinniibfaa.Ind
