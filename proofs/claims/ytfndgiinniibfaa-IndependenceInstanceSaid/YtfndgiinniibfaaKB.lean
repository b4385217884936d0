/- Contract of the reference's Norm. -/
import Derived.Test.YtfndgiinniibfaaKA
namespace Go.Proofs.Ytfndgiinniibfaa.Ind
open Go.Shelf
open Go.RowKit

theorem normP_pre {r : List RA} {k : Nat} (h : NormP r) : NormP (r.take k) :=
  ⟨fun a ha => h.1 a (List.mem_of_mem_take ha), h.2.sublist (List.take_sublist _ _)⟩
/-- What still must hold when a state's arcs are being looked at. -/
def LeftB (m : RM) (s : Nat) : Bool := decide (∀ row ∈ m.states.drop s, NormP row)
theorem leftB_cons {m : RM} {s : Nat} {r : List RA} (h : m.states[s]? = some r) : LeftB m s = (decide (NormP r) && LeftB m (s + 1)) := by
  rw [Bool.eq_iff_iff]
  simp [LeftB, drop_cons h]
theorem leftB_end {m : RM} {s : Nat} (h : m.states.length ≤ s) : LeftB m s = true := by
  simp [LeftB, List.drop_eq_nil_of_le h]

set_option maxRecDepth 100000 in
set_option maxHeartbeats 8000000 in
set_option linter.unusedSimpArgs false in
theorem refNorm_any {F : List Nat} (w : World) (m : RM) (sv : Value) (h : StatesAt w F sv m.states) :
    Calls Try.prog 33 #[machV m sv] w fun e w' => e = .returned (.bool (decide (NormM m))) ∧ Frm [] w w' := by
  have hval := fun W (hf : Frm [] w W) => validMachine_any W m sv (h.nil hf)
  obtain ⟨sa, sc, rfl, l1⟩ := statesShape h
  have H := Lib.hid h
  obtain ⟨V, hV⟩ : ∃ V, decide (NormM m) = V := ⟨_, rfl⟩
  rw [hV]
  have HV := Lib.hid hV
  have HM : Hid (RowAt (w.alloc (.cells #[.int .i64 m.regs, .int .i64 m.data, .int .i64 m.plain, .slice sa m.states.length sc] 28)) w.heap.size 28 (mboxC m (.slice sa m.states.length sc))) := Lib.hid (RowAt.made w _ _ _ rfl)
  clear h hV
  have f0 : Frm [] w (w.alloc (.cells #[.int .i64 m.regs, .int .i64 m.data, .int .i64 m.plain, .slice sa m.states.length sc] 28)) := (Frm.refl [] w).alloc _
  unfold machV at hval ⊢
  unfold mboxC at HM
  generalize hregs : m.regs = regs at *
  generalize hdata : m.data = data at *
  generalize hplain : m.plain = plain at *
  clear hregs hdata hplain
  cases hvm : validM m with
  | false =>
    rw [hvm] at hval
    have HC := Lib.hid hval
    have HX : Hid (V = false) := Lib.hid (by rw [← HV.out]; exact decide_eq_false fun h9 => by have := h9.1; rw [hvm] at this; cases this)
    clear hval hvm
    go_enter Try.func33, Try.ntmps33
    go_wp2_with fail
    refine (HC.out _ f0).mono ?_
    rintro e1 w1 ⟨rfl, hf1⟩
    go_wp2_with fail
    go_ret
    exact ⟨by rw [HX.out]; rfl, f0.trans hf1 (by simp)⟩
  | true =>
    rw [hvm] at hval
    have HC := Lib.hid hval
    have HVV : Hid (LeftB m 0 = V) := Lib.hid (by
      rw [← HV.out, Bool.eq_iff_iff]
      simp [LeftB, NormM, hvm])
    have HTK : Hid (∀ (r : List RA), r ∈ m.states → ∀ a ∈ r, TickOk a) := Lib.hid fun r hr a ha => tick_of_arc (validM_arc hvm hr ha)
    clear hval hvm HV
    go_enter Try.func33, Try.ntmps33
    go_wp2_with fail
    refine (HC.out _ f0).mono ?_
    rintro e1 w1 ⟨rfl, hf1⟩
    have HF0 := Lib.hid (f0.trans hf1 (by simp))
    have HM1 := Lib.hid (HM.out.frm hf1 (by simp))
    have q3 := HM1.out.cell (i := 3) rfl
    clear f0 hf1 HM HC
    generalize hx0 : w.heap.size = x0 at *
    clear hx0
    go_wp2_with fail
    clear q3
    go_loopg [3] m.states.length (fun q i wr => ∃ (k : Nat), q = m.states.length - k ∧ k ≤ m.states.length ∧ i = .int .i64 k ∧ LeftB m k = V ∧ Frm [] w1 wr)
    case atStart => exact ⟨0, rfl, Nat.zero_le _, rfl, HVV.out, Frm.refl _ _⟩
    case round =>
      obtain ⟨k, rfl, hk, rfl, hd, hF⟩ := hrel
      have HF := Lib.hid hF
      have i4 : (0 : Int) ≤ (k : Int) := by omega
      have q3 := (HM1.out.frm hF (by simp)).cell (i := 3) rfl
      clear hF HVV
      by_cases hlt : k < m.states.length
      · have i5 : (k : Int) < (m.states.length : Int) := by omega
        obtain ⟨r, hr⟩ : ∃ r, m.states[k]? = some r := ⟨_, List.getElem?_eq_getElem hlt⟩
        rw [leftB_cons hr] at hd
        have HW := Lib.hid (HF0.out.trans HF.out (by simp))
        obtain ⟨b, o, c, a, n, cc, e1, _, _, _, hcell, rfl, harcs⟩ := H.out.at_ hr
        cases e1
        have d1 := HW.out.cell hcell (by simp)
        have HA := Lib.hid harcs
        have hrl : (r.length : Int) ≤ 9223372036854775807 := by
          obtain ⟨_, _, _, h9⟩ := harcs.shape
          exact h9
        have HT := Lib.hid (HTK.out r (List.mem_of_getElem? hr))
        have HD := Lib.hid hd
        clear hcell harcs hr hd
        go_wp2_with fail
        go_loopg [5] r.length (fun q i wr => ∃ (j : Nat), q = r.length - j ∧ j ≤ r.length ∧ i = .int .i64 j ∧ NormP (r.take j) ∧ Frm [] w1 wr)
        case atStart => exact ⟨0, rfl, Nat.zero_le _, rfl, ⟨by simp, by simp⟩, HF.out⟩
        case round =>
          clear q3 d1 HW HF
          obtain ⟨j, rfl, hj, rfl, hn2, hF2⟩ := hrel
          have HF := Lib.hid hF2
          have i7 : (0 : Int) ≤ (j : Int) := by omega
          have HW := Lib.hid (HF0.out.trans hF2 (by simp))
          have HN2 := Lib.hid hn2
          clear hF2 hn2
          by_cases hjl : j < r.length
          · have i8 : (j : Int) < (r.length : Int) := by omega
            obtain ⟨y, hy⟩ : ∃ y, r[j]? = some y := ⟨_, List.getElem?_eq_getElem hjl⟩
            obtain ⟨b9, o9, na, nc, rfl, _, _, g0, g1, g2, g3, g4, g5, hn⟩ := HA.out.at_ hy
            have p0 := HW.out.cell g0 (by simp)
            have G0 := Lib.hid g0
            have G1 := Lib.hid g1
            have G2 := Lib.hid g2
            have G3 := Lib.hid g3
            have G4 := Lib.hid g4
            have G5 := Lib.hid g5
            have HNY := Lib.hid hn
            have HTS := Lib.hid (take_snoc hy)
            have HTY := Lib.hid (HT.out y (List.mem_of_getElem? hy))
            have hbad : ¬ NormP (r.take (j + 1)) → Hid (V = false) := fun h9 => Lib.hid (by
              rw [← HD.out, decide_eq_false (fun hp => h9 (normP_pre hp))]; rfl)
            have HBAD := Lib.hid hbad
            clear g0 g1 g2 g3 g4 g5 hn hy hbad
            by_cases hkind : KindOk y
            · have j1 : (y.kind == 1) = false := by simpa using hkind.1
              have j6 : (y.kind == 6) = false := by simpa using hkind.2.1
              have j7 : (y.kind == 7) = false := by simpa using hkind.2.2
              have HKO := Lib.hid hkind
              clear hkind
              go_wp2_with fail
              clear p0
              go_loopg [6] j (fun q i wr => ∃ (l : Nat), q = j - l ∧ l ≤ j ∧ i = .int .i64 l ∧ (∀ z ∈ r.take l, PairP z y) ∧ Frm [] w1 wr)
              case atStart => exact ⟨0, rfl, Nat.zero_le _, rfl, by simp, HF.out⟩
              case round =>
                clear HW HF
                obtain ⟨l, rfl, hl, rfl, hpp, hF3⟩ := hrel
                have HF := Lib.hid hF3
                have i9 : (0 : Int) ≤ (l : Int) := by omega
                have HW := Lib.hid (HF0.out.trans hF3 (by simp))
                have HPP := Lib.hid hpp
                clear hF3 hpp
                by_cases hll : l < j
                · have i10 : (l : Int) < (j : Int) := by omega
                  have i11 : (l : Int) < (r.length : Int) := by omega
                  obtain ⟨z, hz⟩ : ∃ z, r[l]? = some z := ⟨_, List.getElem?_eq_getElem (by omega)⟩
                  obtain ⟨b8, o8, za, zc, e8, _, _, z0, z1, z2, z3, z4, z5, hnz⟩ := HA.out.at_ hz
                  cases e8
                  have P0 := Lib.hid (HW.out.cell G0.out (by simp))
                  have P1 := Lib.hid (HW.out.cell G1.out (by simp))
                  have P2 := Lib.hid (HW.out.cell G2.out (by simp))
                  have P3 := Lib.hid (HW.out.cell G3.out (by simp))
                  have P4 := Lib.hid (HW.out.cell G4.out (by simp))
                  have P5 := Lib.hid (HW.out.cell G5.out (by simp))
                  have Z0 := Lib.hid (HW.out.cell z0 (by simp))
                  have Z1 := Lib.hid (HW.out.cell z1 (by simp))
                  have Z2 := Lib.hid (HW.out.cell z2 (by simp))
                  have Z3 := Lib.hid (HW.out.cell z3 (by simp))
                  have Z4 := Lib.hid (HW.out.cell z4 (by simp))
                  have Z5 := Lib.hid (HW.out.cell z5 (by simp))
                  have hcall := normArcs_any (wr.drew) _ _ z y ((hnz.nil HW.out).nil (Frm.refl [] wr).drew) ((HNY.out.nil HW.out).nil (Frm.refl [] wr).drew)
                  have hpi := pair2_iff (HT.out z (List.mem_of_getElem? hz)) HTY.out
                  have HTL := Lib.hid (take_snoc hz)
                  have hzm : z ∈ r.take j := by
                    rw [List.mem_iff_getElem?]
                    exact ⟨l, by rw [List.getElem?_take, if_pos hll]; exact hz⟩
                  have HZM := Lib.hid hzm
                  unfold arcV at hcall
                  clear z0 z1 z2 z3 z4 z5 hnz hz hzm
                  cases hok : pair2 z y with
                  | true =>
                    rw [hok] at hcall
                    have HP := Lib.hid (hpi.1 hok)
                    have HC := Lib.hid hcall
                    clear hcall hpi hok
                    go_wp2_with fail
                    go_region_held3 (fun w' => w'.cell? ⟨b9, o9 + j * 6, none⟩ = some (.int .i64 y.kind) ∧ w'.cell? ⟨b9, o9 + j * 6 + 1, none⟩ = some (.int .i64 y.ch) ∧ w'.cell? ⟨b9, o9 + j * 6 + 2, none⟩ = some (.int .i64 y.reg) ∧ w'.cell? ⟨b9, o9 + j * 6 + 3, none⟩ = some (.int .i64 y.frm) ∧ w'.cell? ⟨b9, o9 + j * 6 + 4, none⟩ = some (.slice na y.not.length nc) ∧ w'.cell? ⟨b9, o9 + j * 6 + 5, none⟩ = some (.int .i64 y.to) ∧ w'.cell? ⟨b9, o9 + l * 6, none⟩ = some (.int .i64 z.kind) ∧ w'.cell? ⟨b9, o9 + l * 6 + 1, none⟩ = some (.int .i64 z.ch) ∧ w'.cell? ⟨b9, o9 + l * 6 + 2, none⟩ = some (.int .i64 z.reg) ∧ w'.cell? ⟨b9, o9 + l * 6 + 3, none⟩ = some (.int .i64 z.frm) ∧ w'.cell? ⟨b9, o9 + l * 6 + 4, none⟩ = some (.slice za z.not.length zc) ∧ w'.cell? ⟨b9, o9 + l * 6 + 5, none⟩ = some (.int .i64 z.to))
                      (first | exact ⟨P0.out, P1.out, P2.out, P3.out, P4.out, P5.out, Z0.out, Z1.out, Z2.out, Z3.out, Z4.out, Z5.out⟩ | exact ⟨hf5.cell P0.out (by simp), hf5.cell P1.out (by simp), hf5.cell P2.out (by simp), hf5.cell P3.out (by simp), hf5.cell P4.out (by simp), hf5.cell P5.out (by simp), hf5.cell Z0.out (by simp), hf5.cell Z1.out (by simp), hf5.cell Z2.out (by simp), hf5.cell Z3.out (by simp), hf5.cell Z4.out (by simp), hf5.cell Z5.out (by simp)⟩)
                      (first | (go_at_call 55; refine HC.out.mono ?_; rintro e5 w5 ⟨rfl, hf5⟩))
                    go_wp2_with fail
                    go_roundg (j - (l + 1))
                    case rel =>
                      refine ⟨l + 1, rfl, by omega, by go_num, fun x hx => ?_, HF.out.drew.trans hf5 (by simp)⟩
                      rw [HTL.out] at hx
                      rcases List.mem_append.1 hx with hx | hx
                      · exact HPP.out x hx
                      · rw [List.mem_singleton.1 hx]; exact HP.out
                    case measure => omega
                  | false =>
                    rw [hok] at hcall
                    have HX := HBAD.out (fun h9 => by
                      rw [HTS.out, norm_snoc] at h9
                      have := hpi.2 (h9.2.2 z HZM.out)
                      rw [hok] at this
                      cases this)
                    have HC := Lib.hid hcall
                    clear hcall hpi hok
                    go_wp2_with fail
                    go_region_held3 (fun w' => w'.cell? ⟨b9, o9 + j * 6, none⟩ = some (.int .i64 y.kind) ∧ w'.cell? ⟨b9, o9 + j * 6 + 1, none⟩ = some (.int .i64 y.ch) ∧ w'.cell? ⟨b9, o9 + j * 6 + 2, none⟩ = some (.int .i64 y.reg) ∧ w'.cell? ⟨b9, o9 + j * 6 + 3, none⟩ = some (.int .i64 y.frm) ∧ w'.cell? ⟨b9, o9 + j * 6 + 4, none⟩ = some (.slice na y.not.length nc) ∧ w'.cell? ⟨b9, o9 + j * 6 + 5, none⟩ = some (.int .i64 y.to) ∧ w'.cell? ⟨b9, o9 + l * 6, none⟩ = some (.int .i64 z.kind) ∧ w'.cell? ⟨b9, o9 + l * 6 + 1, none⟩ = some (.int .i64 z.ch) ∧ w'.cell? ⟨b9, o9 + l * 6 + 2, none⟩ = some (.int .i64 z.reg) ∧ w'.cell? ⟨b9, o9 + l * 6 + 3, none⟩ = some (.int .i64 z.frm) ∧ w'.cell? ⟨b9, o9 + l * 6 + 4, none⟩ = some (.slice za z.not.length zc) ∧ w'.cell? ⟨b9, o9 + l * 6 + 5, none⟩ = some (.int .i64 z.to))
                      (first | exact ⟨P0.out, P1.out, P2.out, P3.out, P4.out, P5.out, Z0.out, Z1.out, Z2.out, Z3.out, Z4.out, Z5.out⟩ | exact ⟨hf5.cell P0.out (by simp), hf5.cell P1.out (by simp), hf5.cell P2.out (by simp), hf5.cell P3.out (by simp), hf5.cell P4.out (by simp), hf5.cell P5.out (by simp), hf5.cell Z0.out (by simp), hf5.cell Z1.out (by simp), hf5.cell Z2.out (by simp), hf5.cell Z3.out (by simp), hf5.cell Z4.out (by simp), hf5.cell Z5.out (by simp)⟩)
                      (first | (go_at_call 55; refine HC.out.mono ?_; rintro e5 w5 ⟨rfl, hf5⟩))
                    go_wp2_with fail
                    go_ret
                    exact ⟨by rw [HX.out]; rfl, HF0.out.trans (HF.out.drew.trans hf5 (by simp)) (by simp)⟩
                · have i10 : ¬ (l : Int) < (j : Int) := by omega
                  have hlj : l = j := by omega
                  subst hlj
                  go_wp2_with fail
                  go_roundg (r.length - (l + 1))
                  case rel => exact ⟨l + 1, rfl, by omega, by go_num, by rw [HTS.out, norm_snoc]; exact ⟨HN2.out, HKO.out, HPP.out⟩, HF.out⟩
                  case measure => omega
            · have HX := HBAD.out (fun h9 => hkind (by
                rw [HTS.out, norm_snoc] at h9
                exact h9.2.1))
              have hk3 : y.kind = 1 ∨ y.kind = 6 ∨ y.kind = 7 := by unfold KindOk at hkind; omega
              clear hkind
              generalize y.kind = K at *
              rcases hk3 with rfl | rfl | rfl
              all_goals
                go_wp2_with fail
                go_ret
                exact ⟨by rw [HX.out]; rfl, HW.out⟩
          · have i8 : ¬ (j : Int) < (r.length : Int) := by omega
            have HD2 : Hid (LeftB m (k + 1) = V) := Lib.hid (by
              have h9 := HN2.out
              rw [List.take_of_length_le (by omega)] at h9
              rw [← HD.out, decide_eq_true h9]; rfl)
            go_wp2_with fail
            go_roundg (m.states.length - (k + 1))
            case rel => exact ⟨k + 1, rfl, by omega, by go_num, HD2.out, HF.out⟩
            case measure => omega
      · have i5 : ¬ (k : Int) < (m.states.length : Int) := by omega
        have HT : Hid (V = true) := Lib.hid (by rw [← hd]; exact leftB_end (by omega))
        clear hd
        go_wp2_with fail
        go_ret
        exact ⟨by rw [HT.out]; rfl, HF0.out.trans HF.out (by simp)⟩

end Go.Proofs.Ytfndgiinniibfaa.Ind
