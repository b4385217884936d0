/- Contract of the program's Event. -/
import Derived.Test.YtfndgiinniibfaaL6
namespace Go.Proofs.Ytfndgiinniibfaa.Ind
open Go.Shelf Go.RowKit Go.Lib

theorem eventB_no {m : RM} {n : Int} {a : RA} {v : Int} (h : ¬ (validM m = true ∧ 1 ≤ n ∧ n ≤ 12 ∧ 0 ≤ v ∧ v < n)) : eventB m n a v = -1 := by
  rw [eventB, if_neg]
  exact fun h9 => h ⟨h9.1, h9.2.1, h9.2.2.1, h9.2.2.2.1, h9.2.2.2.2.1⟩
set_option linter.unusedSimpArgs false in
set_option maxRecDepth 100000 in
set_option maxHeartbeats 4000000 in
theorem eventP_any {F G : List Nat} (w : World) (m : RM) (sv va : Value) (n v : Int) (a : RA) (h : StatesAt w F sv m.states) (ha : NotAt w G va a) :
    Calls Try.prog 20 #[machV m sv, .int .i64 n, arcV va a, .int .i64 v] w fun e w' => e = .returned (.int .i64 (eventB m n a v)) ∧ Frm [] w w' := by
  obtain ⟨sa, sc, rfl, l1⟩ := statesShape h
  obtain ⟨na, nc, rfl⟩ := RowV.shape ha
  have HVL : Hid (∀ W, Frm [] w W → Calls Try.prog 8 #[machV m (.slice sa m.states.length sc)] W fun e w' => e = .returned (.bool (validM m)) ∧ Frm [] W w') := Lib.hid fun W hf => valid_any W m _ (h.nil hf)
  have hb1 := (RowAt.made w 28 (mboxC m (.slice sa m.states.length sc)) #[.int .i64 m.regs, .int .i64 m.data, .int .i64 m.plain, .slice sa m.states.length sc] rfl).alloc (.cells #[.int .i64 a.kind, .int .i64 a.ch, .int .i64 a.reg, .int .i64 a.frm, .slice na a.not.length nc, .int .i64 a.to] 24)
  have hb2 := row_made1 w (.cells #[.int .i64 m.regs, .int .i64 m.data, .int .i64 m.plain, .slice sa m.states.length sc] 28) 24 [.int .i64 a.kind, .int .i64 a.ch, .int .i64 a.reg, .int .i64 a.frm, .slice na a.not.length nc, .int .i64 a.to] #[.int .i64 a.kind, .int .i64 a.ch, .int .i64 a.reg, .int .i64 a.frm, .slice na a.not.length nc, .int .i64 a.to] rfl
  have f0 : Frm [] w ((w.alloc (.cells #[.int .i64 m.regs, .int .i64 m.data, .int .i64 m.plain, .slice sa m.states.length sc] 28)).alloc (.cells #[.int .i64 a.kind, .int .i64 a.ch, .int .i64 a.reg, .int .i64 a.frm, .slice na a.not.length nc, .int .i64 a.to] 24)) := ((Frm.refl [] w).alloc _).alloc _
  have HB1 := Lib.hid hb1
  have HB2 := Lib.hid hb2
  have F0 := Lib.hid f0
  have H := Lib.hid h
  have HA := Lib.hid ha
  clear hb1 hb2 f0 h ha
  unfold machV at HVL
  unfold machV arcV
  cases hv : validM m with
  | false =>
    rw [hv] at HVL
    have HR := Lib.hid (eventB_no (m := m) (n := n) (a := a) (v := v) (fun h9 => by rw [hv] at h9; cases h9.1))
    clear hv
    go_enter Try.func20, Try.ntmps20
    go_wp2_with fail
    refine (HVL.out _ F0.out).mono ?_
    rintro e1 w1 ⟨rfl, hf1⟩
    go_wp2_with fail
    go_ret
    exact ⟨by rw [HR.out]; rfl, F0.out.trans hf1 (by simp)⟩
  | true =>
    rw [hv] at HVL
    by_cases hc : 1 ≤ n ∧ n ≤ 12
    · have j1 : ¬ n < 1 := by omega
      have j2 : ¬ 12 < n := by omega
      cases hb : belowB v n with
      | false =>
        have HR := Lib.hid (eventB_no (m := m) (n := n) (a := a) (v := v) (fun h9 => by rw [below_iff.2 ⟨h9.2.2.2.1, h9.2.2.2.2⟩] at hb; cases hb))
        have HBL := Lib.hid hb
        clear hv hc hb
        go_enter Try.func20, Try.ntmps20
        go_wp2_with fail
        refine (HVL.out _ F0.out).mono ?_
        rintro e1 w1 ⟨rfl, hf1⟩
        go_wp2_with fail
        refine (below_any v n _).mono ?_
        rintro e2 w2 ⟨rfl, rfl⟩
        rw [HBL.out]
        go_wp2_with fail
        go_ret
        exact ⟨by rw [HR.out]; rfl, F0.out.trans hf1 (by simp)⟩
      | true =>
        have HBL := Lib.hid hb
        have hvn := below_iff.1 hb
        have HVN := Lib.hid hvn
        have HC := Lib.hid hc
        have HV := Lib.hid hv
        have eg : ∀ args w, (callFunc 36 args).run Try.prog w = .ok (.enter 36 args) w := enters_of Try.func36 (by kernel_rfl) rfl
        have HCON : Hid (∀ (W : World) (u : Value) (r : List RA) (x : Nat), Frm [] w W → RowAt W x 24 [.int .i64 a.kind, .int .i64 a.ch, .int .i64 a.reg, .int .i64 a.frm, .slice na a.not.length nc, .int .i64 a.to] → ArcsAt W F u r → Calls Try.prog 24 #[u, .func (.func 36) #[] #[.pointer (some ⟨x, 0, none⟩)]] W fun e w' => e = .returned (.bool (r.any fun y => sameB y a)) ∧ Frm [] W w') := Lib.hid fun W u r x hf hx hr =>
          containsA_any (F := F) 36 (.pointer (some ⟨x, 0, none⟩)) (fun y => sameB y a) eg u r W (fun W2 u' y hf2 hn => evSame_any W2 x u' y a na nc (hx.frm hf2 (by simp)) hn (RowV.nil (RowV.nil HA.out hf) hf2)) hr
        clear hv hc hb hvn eg
        go_enter Try.func20, Try.ntmps20
        go_wp2_with fail
        refine (HVL.out _ F0.out).mono ?_
        rintro e1 w1 ⟨rfl, hf1⟩
        have F1 := Lib.hid (F0.out.trans hf1 (by simp))
        have B1 := Lib.hid (HB1.out.frm hf1 (by simp))
        have B2 := Lib.hid (HB2.out.frm hf1 (by simp))
        have c3 := B1.out.cell (i := 3) rfl
        clear hf1
        go_wp2_with fail
        refine (below_any v n _).mono ?_
        rintro e2 w2 ⟨rfl, rfl⟩
        rw [HBL.out]
        go_wp2_with fail
        clear c3
        go_loopg [31] m.states.length (fun q i wr => ∃ (k : Nat), q = m.states.length - k ∧ k ≤ m.states.length ∧ i = .int .i64 k ∧ (m.states.take k).any (fun r => r.any fun y => sameB y a) = false ∧ Frm [] w2 wr)
        case atStart => exact ⟨0, rfl, Nat.zero_le _, rfl, rfl, Frm.refl _ _⟩
        case round =>
          obtain ⟨k, hq, hk, rfl, hd, hF⟩ := hrel
          have HQ := Lib.hid hq
          have HF := Lib.hid hF
          have HD := Lib.hid hd
          have i4 : (0 : Int) ≤ (k : Int) := by omega
          clear hF hq hd
          by_cases hlt : k < m.states.length
          · have i5 : (k : Int) < (m.states.length : Int) := by omega
            obtain ⟨r, hr⟩ : ∃ r, m.states[k]? = some r := ⟨_, List.getElem?_eq_getElem hlt⟩
            obtain ⟨b8, o8, c8, ra, rn, rc, e8, _, _, _, hcell, rfl, harcs⟩ := H.out.at_ hr
            cases e8
            have FW := Lib.hid (F1.out.trans HF.out (by simp))
            have d8 := FW.out.cell hcell (by simp)
            have hcon := HCON.out wr _ r _ FW.out (B2.out.frm HF.out (by simp)) (harcs.nil FW.out)
            cases hp : r.any (fun y => sameB y a) with
            | false =>
              rw [hp] at hcon
              have HN := Lib.hid hcon
              have HT : Hid ((m.states.take (k + 1)).any (fun r => r.any fun y => sameB y a) = false) := Lib.hid (by rw [List.take_add_one, hr, List.any_append, HD.out]; simpa using hp)
              clear hcon hp hcell hr harcs
              go_wp2_with fail
              refine HN.out.mono ?_
              rintro e5 w5 ⟨rfl, hf5⟩
              go_wp2_with fail
              go_roundg (m.states.length - (k + 1))
              case rel => exact ⟨k + 1, rfl, by omega, by go_num, HT.out, HF.out.trans hf5 (by simp)⟩
              case measure => have := HQ.out; omega
            | true =>
              rw [hp] at hcon
              have HN := Lib.hid hcon
              have hany : m.states.any (fun r => r.any fun y => sameB y a) = true := List.any_eq_true.2 ⟨r, List.mem_of_getElem? hr, hp⟩
              have HR : Hid (eventB m n a v = evB m n a v) := Lib.hid (by rw [eventB, if_pos ⟨HV.out, HC.out.1, HC.out.2, HVN.out.1, HVN.out.2, hany⟩])
              obtain ⟨y, hy, hs⟩ := List.any_eq_true.1 hp
              have hya := sameB_iff.1 hs
              subst hya
              have hok := arc_ok (validM_ok HV.out) (validM_arc HV.out (List.mem_of_getElem? hr) hy)
              have hm := validM_ok HV.out
              have HEV : Hid (∀ W, Calls Try.prog 38 #[.agg #[.int .i64 m.regs, .int .i64 m.data, .int .i64 m.plain, .slice (some ⟨b8, o8, none⟩) m.states.length sc], .int .i64 n, .agg #[.int .i64 y.kind, .int .i64 y.ch, .int .i64 y.reg, .int .i64 y.frm, .slice na y.not.length nc, .int .i64 y.to], .int .i64 v] W fun e w' => e = .returned (.int .i64 (evB m n y v)) ∧ Frm [] W w') := Lib.hid fun W => event_any W m _ _ _ n v na _ nc y hm.d0 hm.d1 (by omega) (by omega) hok.ch.1 hok.ch.2 HVN.out.1 (by have := HVN.out.2; omega)
              clear hcon hp hcell hr harcs hany hy hs hok hm
              go_wp2_with fail
              refine HN.out.mono ?_
              rintro e5 w5 ⟨rfl, hf5⟩
              have x1 := (B1.out.frm HF.out (by simp)).frm hf5 (by simp)
              have x2 := (B2.out.frm HF.out (by simp)).frm hf5 (by simp)
              have y0 := x1.cell (i := 0) rfl
              have y1 := x1.cell (i := 1) rfl
              have y2 := x1.cell (i := 2) rfl
              have y3 := x1.cell (i := 3) rfl
              have z0 := x2.cell (i := 0) rfl
              have z1 := x2.cell (i := 1) rfl
              have z2 := x2.cell (i := 2) rfl
              have z3 := x2.cell (i := 3) rfl
              have z4 := x2.cell (i := 4) rfl
              have z5 := x2.cell (i := 5) rfl
              go_wp2_with fail
              refine (HEV.out _).mono ?_
              rintro e6 w6 ⟨rfl, hf6⟩
              go_wp2_with fail
              go_ret
              exact ⟨by rw [HR.out]; rfl, (FW.out.trans hf5 (by simp)).trans hf6 (by simp)⟩
          · have i5 : ¬ (k : Int) < (m.states.length : Int) := by omega
            have HR : Hid (eventB m n a v = -1) := Lib.hid (by
              have hd := HD.out
              rw [List.take_of_length_le (by omega)] at hd
              rw [eventB, if_neg (fun h9 => by rw [hd] at h9; exact absurd h9.2.2.2.2.2 (by decide))])
            go_wp2_with fail
            go_ret
            exact ⟨by rw [HR.out]; rfl, F1.out.trans HF.out (by simp)⟩
    · have HR := Lib.hid (eventB_no (m := m) (n := n) (a := a) (v := v) (fun h9 => hc ⟨h9.2.1, h9.2.2.1⟩))
      rcases (show n < 1 ∨ (¬ n < 1 ∧ 12 < n) by omega) with j1 | ⟨j1, j2⟩
      all_goals
        clear hv hc
        go_enter Try.func20, Try.ntmps20
        go_wp2_with fail
        refine (HVL.out _ F0.out).mono ?_
        rintro e1 w1 ⟨rfl, hf1⟩
        go_wp2_with fail
        go_ret
        exact ⟨by rw [HR.out]; rfl, F0.out.trans hf1 (by simp)⟩

end Go.Proofs.Ytfndgiinniibfaa.Ind
/- Contract of the reference's Event. -/
namespace Go.Proofs.Ytfndgiinniibfaa.Ind
open Go.Shelf Go.RowKit Go.Lib

set_option linter.unusedSimpArgs false in
set_option maxRecDepth 100000 in
set_option maxHeartbeats 4000000 in
theorem eventR_bad {F G : List Nat} (w : World) (m : RM) (sv va : Value) (n v : Int) (a : RA) (h : StatesAt w F sv m.states) (ha : NotAt w G va a) (hno : ¬ (validM m = true ∧ 1 ≤ n ∧ n ≤ 12 ∧ 0 ≤ v ∧ v < n)) :
    Calls Try.prog 21 #[machV m sv, .int .i64 n, arcV va a, .int .i64 v] w fun e w' => e = .returned (.int .i64 (eventB m n a v)) ∧ Frm [] w w' := by
  obtain ⟨sa, sc, rfl, l1⟩ := statesShape h
  obtain ⟨na, nc, rfl⟩ := RowV.shape ha
  have HVL : Hid (∀ W, Frm [] w W → Calls Try.prog 34 #[machV m (.slice sa m.states.length sc)] W fun e w' => e = .returned (.bool (validM m)) ∧ Frm [] W w') := Lib.hid fun W hf => validMachine_any W m _ (h.nil hf)
  have F0 := Lib.hid (show Frm [] w ((w.alloc (.cells #[.int .i64 m.regs, .int .i64 m.data, .int .i64 m.plain, .slice sa m.states.length sc] 28)).alloc (.cells #[.int .i64 a.kind, .int .i64 a.ch, .int .i64 a.reg, .int .i64 a.frm, .slice na a.not.length nc, .int .i64 a.to] 24)) from ((Frm.refl [] w).alloc _).alloc _)
  have HR := Lib.hid (eventB_no (a := a) hno)
  clear h ha
  unfold machV at HVL
  unfold machV arcV
  have hcase : validM m = false ∨ (validM m = true ∧ n < 1) ∨ (validM m = true ∧ ¬ n < 1 ∧ 12 < n) ∨ (validM m = true ∧ ¬ n < 1 ∧ ¬ 12 < n ∧ v < 0) ∨ (validM m = true ∧ ¬ n < 1 ∧ ¬ 12 < n ∧ ¬ v < 0 ∧ n ≤ v) := by
    cases hv : validM m with
    | false => exact .inl rfl
    | true =>
      have : ¬ (1 ≤ n ∧ n ≤ 12 ∧ 0 ≤ v ∧ v < n) := fun h9 => hno ⟨hv, h9⟩
      refine .inr ?_
      simp only [true_and]
      omega
  clear hno
  rcases hcase with j | ⟨j, j1⟩ | ⟨j, j1, j2⟩ | ⟨j, j1, j2, j3⟩ | ⟨j, j1, j2, j3, j4⟩
  all_goals
    rw [j] at HVL
    clear j
    go_enter Try.func21, Try.ntmps21
    go_wp2_with fail
    refine (HVL.out _ F0.out).mono ?_
    rintro e1 w1 ⟨rfl, hf1⟩
    go_wp2_with fail
    go_ret
    exact ⟨by rw [HR.out]; rfl, F0.out.trans hf1 (by simp)⟩

end Go.Proofs.Ytfndgiinniibfaa.Ind
