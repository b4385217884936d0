/- Texts KZ, L0. -/
import Derived.Test.YtdknbgejhhoaiaaGreatQ31
/- Contracts of decidable and Threshold. -/
namespace Go.Proofs.YtdknbgejhhoaiaaGreat.Ind
open Go.Shelf Go.RowKit Go.Lib

def decB (m1 m2 : RM) : Bool := decide (NormM m1) && (validM m2 && ((m1.data == m2.data) && (m1.plain == m2.plain)))
set_option linter.unusedSimpArgs false in
set_option maxRecDepth 100000 in
set_option maxHeartbeats 4000000 in
theorem decid_any {F G : List Nat} (w : World) (m1 m2 : RM) (s1 s2 : Value) (h1 : StatesAt w F s1 m1.states) (h2 : StatesAt w G s2 m2.states) :
    Calls Tryz.prog 55 #[machV m1 s1, machV m2 s2] w fun e w' => e = .returned (.bool (decB m1 m2)) ∧ Frm [] w w' := by
  obtain ⟨a1, c1, rfl, _⟩ := statesShape h1
  obtain ⟨a2, c2, rfl, _⟩ := statesShape h2
  have HN : Hid (∀ W, Frm [] w W → Calls Tryz.prog 73 #[machV m1 (.slice a1 m1.states.length c1)] W fun e w' => e = .returned (.bool (decide (NormM m1))) ∧ Frm [] W w') := Lib.hid fun W hf => norm_any W m1 _ (h1.nil hf)
  have HV : Hid (∀ W, Frm [] w W → Calls Tryz.prog 20 #[machV m2 (.slice a2 m2.states.length c2)] W fun e w' => e = .returned (.bool (validM m2)) ∧ Frm [] W w') := Lib.hid fun W hf => valid_any W m2 _ (h2.nil hf)
  have hb1 := (RowAt.made w 30 (mboxC m1 (.slice a1 m1.states.length c1)) #[.int .i64 m1.regs, .int .i64 m1.data, .int .i64 m1.plain, .slice a1 m1.states.length c1] rfl).alloc (.cells #[.int .i64 m2.regs, .int .i64 m2.data, .int .i64 m2.plain, .slice a2 m2.states.length c2] 30)
  have hb2 := row_made1 w (.cells #[.int .i64 m1.regs, .int .i64 m1.data, .int .i64 m1.plain, .slice a1 m1.states.length c1] 30) 30 (mboxC m2 (.slice a2 m2.states.length c2)) #[.int .i64 m2.regs, .int .i64 m2.data, .int .i64 m2.plain, .slice a2 m2.states.length c2] rfl
  have f0 : Frm [] w ((w.alloc (.cells #[.int .i64 m1.regs, .int .i64 m1.data, .int .i64 m1.plain, .slice a1 m1.states.length c1] 30)).alloc (.cells #[.int .i64 m2.regs, .int .i64 m2.data, .int .i64 m2.plain, .slice a2 m2.states.length c2] 30)) := ((Frm.refl [] w).alloc _).alloc _
  have HB1 := Lib.hid hb1
  have HB2 := Lib.hid hb2
  have F0 := Lib.hid f0
  clear h1 h2 hb1 hb2 f0
  unfold machV at HN HV
  unfold machV
  cases hn : decide (NormM m1) with
  | false =>
    rw [hn] at HN
    have HR : Hid (decB m1 m2 = false) := Lib.hid (by simp only [decB, hn, Bool.false_and])
    clear hn
    go_enter Tryz.func55, Tryz.ntmps55
    go_wp2_with fail
    refine (HN.out _ F0.out).mono ?_
    rintro e1 w1 ⟨rfl, hf1⟩
    go_wp2_with fail
    go_ret
    exact ⟨by rw [HR.out]; rfl, F0.out.trans hf1 (by simp)⟩
  | true =>
    rw [hn] at HN
    cases hv : validM m2 with
    | false =>
      rw [hv] at HV
      have HR : Hid (decB m1 m2 = false) := Lib.hid (by simp only [decB, hv, Bool.false_and, Bool.and_false])
      clear hn hv
      go_enter Tryz.func55, Tryz.ntmps55
      go_wp2_with fail
      refine (HN.out _ F0.out).mono ?_
      rintro e1 w1 ⟨rfl, hf1⟩
      have c0 := (HB2.out.frm hf1 (by simp)).cell (i := 0) rfl
      have c1 := (HB2.out.frm hf1 (by simp)).cell (i := 1) rfl
      have c2 := (HB2.out.frm hf1 (by simp)).cell (i := 2) rfl
      have c3 := (HB2.out.frm hf1 (by simp)).cell (i := 3) rfl
      go_wp2_with fail
      refine (HV.out _ (F0.out.trans hf1 (by simp))).mono ?_
      rintro e2 w2 ⟨rfl, hf2⟩
      go_wp2_with fail
      go_ret
      exact ⟨by rw [HR.out]; rfl, (F0.out.trans hf1 (by simp)).trans hf2 (by simp)⟩
    | true =>
      rw [hv] at HV
      have hr : decB m1 m2 = ((m1.data == m2.data) && (m1.plain == m2.plain)) := by simp only [decB, hn, hv, Bool.true_and]
      clear hn hv
      go_enter Tryz.func55, Tryz.ntmps55
      go_wp2_with fail
      refine (HN.out _ F0.out).mono ?_
      rintro e1 w1 ⟨rfl, hf1⟩
      have B1 := Lib.hid (HB1.out.frm hf1 (by simp))
      have B2 := Lib.hid (HB2.out.frm hf1 (by simp))
      have c0 := B2.out.cell (i := 0) rfl
      have c1 := B2.out.cell (i := 1) rfl
      have c2 := B2.out.cell (i := 2) rfl
      have c3 := B2.out.cell (i := 3) rfl
      go_wp2_with fail
      refine (HV.out _ (F0.out.trans hf1 (by simp))).mono ?_
      rintro e2 w2 ⟨rfl, hf2⟩
      have d1 := (B1.out.frm hf2 (by simp)).cell (i := 1) rfl
      have d2 := (B1.out.frm hf2 (by simp)).cell (i := 2) rfl
      have d3 := (B2.out.frm hf2 (by simp)).cell (i := 1) rfl
      have d4 := (B2.out.frm hf2 (by simp)).cell (i := 2) rfl
      have FE := Lib.hid ((F0.out.trans hf1 (by simp)).trans hf2 (by simp))
      clear c0 c1 c2 c3
      cases j1 : m1.data == m2.data with
      | false =>
        rw [j1, Bool.false_and] at hr
        have HR := Lib.hid hr
        clear hr
        go_wp2_with fail
        go_ret
        exact ⟨by rw [HR.out]; rfl, FE.out⟩
      | true =>
        rw [j1, Bool.true_and] at hr
        cases j2 : m1.plain == m2.plain with
        | false =>
          rw [j2] at hr
          have HR := Lib.hid hr
          clear hr
          go_wp2_with fail
          go_ret
          exact ⟨by rw [HR.out]; rfl, FE.out⟩
        | true =>
          rw [j2] at hr
          have HR := Lib.hid hr
          clear hr
          go_wp2_with fail
          go_ret
          exact ⟨by rw [HR.out]; rfl, FE.out⟩

set_option linter.unusedSimpArgs false in
set_option maxRecDepth 100000 in
set_option maxHeartbeats 4000000 in
theorem thr_any {F G : List Nat} (w : World) (m1 m2 : RM) (s1 s2 : Value) (h1 : StatesAt w F s1 m1.states) (h2 : StatesAt w G s2 m2.states) :
    Calls Tryz.prog 30 #[machV m1 s1, machV m2 s2] w fun e w' => e = .returned (.tuple #[.int .i64 (if decB m1 m2 = true then m1.regs + m2.regs + 1 else 0), .int .i64 (if decB m1 m2 = true then 0 else 1)]) ∧ Frm [] w w' := by
  obtain ⟨a1, c1, rfl, _⟩ := statesShape h1
  obtain ⟨a2, c2, rfl, _⟩ := statesShape h2
  have HD : Hid (∀ W, Frm [] w W → Calls Tryz.prog 55 #[machV m1 (.slice a1 m1.states.length c1), machV m2 (.slice a2 m2.states.length c2)] W fun e w' => e = .returned (.bool (decB m1 m2)) ∧ Frm [] W w') := Lib.hid fun W hf => decid_any W m1 m2 _ _ (h1.nil hf) (h2.nil hf)
  have hb1 := (RowAt.made w 30 (mboxC m1 (.slice a1 m1.states.length c1)) #[.int .i64 m1.regs, .int .i64 m1.data, .int .i64 m1.plain, .slice a1 m1.states.length c1] rfl).alloc (.cells #[.int .i64 m2.regs, .int .i64 m2.data, .int .i64 m2.plain, .slice a2 m2.states.length c2] 30)
  have hb2 := row_made1 w (.cells #[.int .i64 m1.regs, .int .i64 m1.data, .int .i64 m1.plain, .slice a1 m1.states.length c1] 30) 30 (mboxC m2 (.slice a2 m2.states.length c2)) #[.int .i64 m2.regs, .int .i64 m2.data, .int .i64 m2.plain, .slice a2 m2.states.length c2] rfl
  have f0 : Frm [] w ((w.alloc (.cells #[.int .i64 m1.regs, .int .i64 m1.data, .int .i64 m1.plain, .slice a1 m1.states.length c1] 30)).alloc (.cells #[.int .i64 m2.regs, .int .i64 m2.data, .int .i64 m2.plain, .slice a2 m2.states.length c2] 30)) := ((Frm.refl [] w).alloc _).alloc _
  have HB1 := Lib.hid hb1
  have HB2 := Lib.hid hb2
  have F0 := Lib.hid f0
  clear h1 h2 hb1 hb2 f0
  unfold machV at HD
  unfold machV
  cases hd : decB m1 m2 with
  | false =>
    rw [hd] at HD
    clear hd
    go_enter Tryz.func30, Tryz.ntmps30
    go_wp2_with fail
    refine (HD.out _ F0.out).mono ?_
    rintro e1 w1 ⟨rfl, hf1⟩
    go_wp2_with fail
    refine bodyPost_ret (v := .tuple #[.int .i64 0, .int .i64 1]) (by simp [results, Tryz.results30, go_sem]) rfl ?_
    exact ⟨rfl, F0.out.trans hf1 (by simp)⟩
  | true =>
    rw [hd] at HD
    have hd2 := hd
    simp only [decB, Bool.and_eq_true, decide_eq_true_eq] at hd2
    have o1 := validM_ok hd2.1.1
    have o2 := validM_ok hd2.2.1
    have i1 := o1.r0
    have i2 := o1.r1
    have i3 := o2.r0
    have i4 := o2.r1
    clear hd hd2 o1 o2
    go_enter Tryz.func30, Tryz.ntmps30
    go_wp2_with fail
    refine (HD.out _ F0.out).mono ?_
    rintro e1 w1 ⟨rfl, hf1⟩
    have d1 := (HB1.out.frm hf1 (by simp)).cell (i := 0) rfl
    have d2 := (HB2.out.frm hf1 (by simp)).cell (i := 0) rfl
    have w1' : IntKind.i64.wrap (m1.regs + m2.regs) = m1.regs + m2.regs := IntWalk.i64_in _ (by omega)
    have w2' : IntKind.i64.wrap (m1.regs + m2.regs + 1) = m1.regs + m2.regs + 1 := IntWalk.i64_in _ (by omega)
    go_wp2_with fail
    refine bodyPost_ret (v := .tuple #[.int .i64 (m1.regs + m2.regs + 1), .int .i64 0]) (by simp [results, Tryz.results30, go_sem]) rfl ?_
    exact ⟨rfl, F0.out.trans hf1 (by simp)⟩

end Go.Proofs.YtdknbgejhhoaiaaGreat.Ind

/- Contracts of buffer and sane. -/
namespace Go.Proofs.YtdknbgejhhoaiaaGreat.Ind
open Go.Shelf Go.RowKit Go.Lib

/-- The machine of the chapter's first example. -/
def bufM : RM := ⟨1, 1, 0, [[⟨4, 0, 0, 0, [], 1⟩], [⟨5, 0, 0, 0, [], 0⟩]]⟩
def wantR : List (List Ar) := [[(2, 1), (3, 2)], [(2, 0)], [(3, 3)], [(2, 1), (3, 2)]]
theorem buf_valid : validM bufM = true := by decide +kernel
theorem buf_inst : instR bufM 2 = some wantR := by decide +kernel
theorem buf_dec : decB bufM bufM = true := by decide +kernel
theorem arcs_one {W : World} {x : Nat} {kind ch reg frm tgt : Int} (h : RowAt W x 47 [.int .i64 kind, .int .i64 ch, .int .i64 reg, .int .i64 frm, .slice none 0 0, .int .i64 tgt]) : ArcsAt W [] (.slice (some ⟨x, 0, none⟩) 1 1) [⟨kind, ch, reg, frm, [], tgt⟩] :=
  ⟨[(.slice none 0 0, ⟨kind, ch, reg, frm, [], tgt⟩)], rfl, rowV_cells (size := 6) h rfl (Nat.le_refl _) (by decide) (by simp), fun p hp => by rw [List.mem_singleton] at hp; subst hp; exact RowV.nil0 _ _ _⟩
theorem lts_one {W : World} {x : Nat} {rows : List (List Ar)} {xs : List Nat} (ho : RowAt W x 51 ((xs.zip rows).map fun p => .slice (some ⟨p.1, 0, none⟩) p.2.length p.2.length)) (hl : xs.length = rows.length) (hs : rows.length ≤ maxLen) (hr : ∀ (i : Nat) (x' : Nat) (r : List Ar), xs[i]? = some x' → rows[i]? = some r → r.length ≤ maxLen ∧ RowAt W x' 55 (r.flatMap arE)) :
    LtsAt W [] (.slice (some ⟨x, 0, none⟩) rows.length rows.length) rows := by
  refine ⟨_, rowV_cells (size := 1) ho (by simp [hl]) (Nat.le_refl _) hs (by simp), fun i r hi => ?_⟩
  have hlt := (List.getElem?_eq_some_iff.1 hi).1
  obtain ⟨x', hx⟩ : ∃ x', xs[i]? = some x' := ⟨_, List.getElem?_eq_getElem (by omega)⟩
  obtain ⟨h1, h2⟩ := hr i x' r hx hi
  refine ⟨.slice (some ⟨x', 0, none⟩) r.length r.length, ?_, rowV_cells (size := 2) h2 (by rw [flatMap_len (enc := arE) (k := 2) (fun _ => rfl)]) (Nat.le_refl _) h1 (by simp)⟩
  rw [List.getElem?_map, show (xs.zip rows)[i]? = some (x', r) from List.getElem?_zip_eq_some.2 ⟨hx, hi⟩]
  rfl

theorem want_made (w : World) : ∃ W, W = (((((w.alloc (.cells #[.int .i64 2, .int .i64 1, .int .i64 3, .int .i64 2] 55)).alloc (.cells #[.int .i64 2, .int .i64 0] 55)).alloc (.cells #[.int .i64 3, .int .i64 3] 55)).alloc (.cells #[.int .i64 2, .int .i64 1, .int .i64 3, .int .i64 2] 55)).alloc (.cells #[.slice (some ⟨w.heap.size, 0, none⟩) 2 2, .slice (some ⟨w.heap.size + 1, 0, none⟩) 1 1, .slice (some ⟨w.heap.size + 1 + 1, 0, none⟩) 1 1, .slice (some ⟨w.heap.size + 1 + 1 + 1, 0, none⟩) 2 2] 51)).alloc (.cells #[.slice (some ⟨w.heap.size + 1 + 1 + 1 + 1, 0, none⟩) 4 4] 25) ∧ Frm [] w W ∧ LtsAt W [] (.slice (some ⟨w.heap.size + 1 + 1 + 1 + 1, 0, none⟩) 4 4) wantR := by
  obtain ⟨W0, hW0⟩ : ∃ W, W = w.alloc (.cells #[.int .i64 2, .int .i64 1, .int .i64 3, .int .i64 2] 55) := ⟨_, rfl⟩
  have e0 : W0.heap.size = w.heap.size + 1 := by rw [hW0]; simp
  have F0 : Frm [] w W0 := by rw [hW0]; exact (Frm.refl [] w).alloc _
  have r0 : RowAt W0 (w.heap.size) 55 [.int .i64 2, .int .i64 1, .int .i64 3, .int .i64 2] := by rw [hW0]; exact RowAt.made w _ _ _ rfl
  obtain ⟨W1, hW1⟩ : ∃ W, W = W0.alloc (.cells #[.int .i64 2, .int .i64 0] 55) := ⟨_, rfl⟩
  have e1 : W1.heap.size = w.heap.size + 1 + 1 := by rw [hW1]; simp [e0]
  have F1 : Frm [] W0 W1 := by rw [hW1]; exact (Frm.refl [] W0).alloc _
  have r1 : RowAt W1 (w.heap.size + 1) 55 [.int .i64 2, .int .i64 0] := by rw [← e0] ; rw [hW1]; exact RowAt.made W0 _ _ _ rfl
  obtain ⟨W2, hW2⟩ : ∃ W, W = W1.alloc (.cells #[.int .i64 3, .int .i64 3] 55) := ⟨_, rfl⟩
  have e2 : W2.heap.size = w.heap.size + 1 + 1 + 1 := by rw [hW2]; simp [e1]
  have F2 : Frm [] W1 W2 := by rw [hW2]; exact (Frm.refl [] W1).alloc _
  have r2 : RowAt W2 (w.heap.size + 1 + 1) 55 [.int .i64 3, .int .i64 3] := by rw [← e1] ; rw [hW2]; exact RowAt.made W1 _ _ _ rfl
  obtain ⟨W3, hW3⟩ : ∃ W, W = W2.alloc (.cells #[.int .i64 2, .int .i64 1, .int .i64 3, .int .i64 2] 55) := ⟨_, rfl⟩
  have e3 : W3.heap.size = w.heap.size + 1 + 1 + 1 + 1 := by rw [hW3]; simp [e2]
  have F3 : Frm [] W2 W3 := by rw [hW3]; exact (Frm.refl [] W2).alloc _
  have r3 : RowAt W3 (w.heap.size + 1 + 1 + 1) 55 [.int .i64 2, .int .i64 1, .int .i64 3, .int .i64 2] := by rw [← e2] ; rw [hW3]; exact RowAt.made W2 _ _ _ rfl
  obtain ⟨W4, hW4⟩ : ∃ W, W = W3.alloc (.cells #[.slice (some ⟨w.heap.size, 0, none⟩) 2 2, .slice (some ⟨w.heap.size + 1, 0, none⟩) 1 1, .slice (some ⟨w.heap.size + 1 + 1, 0, none⟩) 1 1, .slice (some ⟨w.heap.size + 1 + 1 + 1, 0, none⟩) 2 2] 51) := ⟨_, rfl⟩
  have e4 : W4.heap.size = w.heap.size + 1 + 1 + 1 + 1 + 1 := by rw [hW4]; simp [e3]
  have F4 : Frm [] W3 W4 := by rw [hW4]; exact (Frm.refl [] W3).alloc _
  have r4 : RowAt W4 (w.heap.size + 1 + 1 + 1 + 1) 51 [.slice (some ⟨w.heap.size, 0, none⟩) 2 2, .slice (some ⟨w.heap.size + 1, 0, none⟩) 1 1, .slice (some ⟨w.heap.size + 1 + 1, 0, none⟩) 1 1, .slice (some ⟨w.heap.size + 1 + 1 + 1, 0, none⟩) 2 2] := by rw [← e3] ; rw [hW4]; exact RowAt.made W3 _ _ _ rfl
  have F5 : Frm [] W4 (W4.alloc (.cells #[.slice (some ⟨w.heap.size + 1 + 1 + 1 + 1, 0, none⟩) 4 4] 25)) := (Frm.refl [] W4).alloc _
  refine ⟨_, rfl, ?_, ?_⟩
  · rw [← hW0, ← hW1, ← hW2, ← hW3, ← hW4]
    exact ((((F0.trans F1 (by simp)).trans F2 (by simp)).trans F3 (by simp)).trans F4 (by simp)).trans F5 (by simp)
  · rw [← hW0, ← hW1, ← hW2, ← hW3, ← hW4]
    refine lts_one (xs := [w.heap.size, w.heap.size + 1, w.heap.size + 1 + 1, w.heap.size + 1 + 1 + 1]) (r4.frm F5 (by simp)) rfl (by decide) (fun i x' r h1 h2 => ?_)
    match i with
    | 0 => cases h1; cases h2; exact ⟨by decide, ((((r0.frm F1 (by simp)).frm F2 (by simp)).frm F3 (by simp)).frm F4 (by simp)).frm F5 (by simp)⟩
    | 1 => cases h1; cases h2; exact ⟨by decide, (((r1.frm F2 (by simp)).frm F3 (by simp)).frm F4 (by simp)).frm F5 (by simp)⟩
    | 2 => cases h1; cases h2; exact ⟨by decide, ((r2.frm F3 (by simp)).frm F4 (by simp)).frm F5 (by simp)⟩
    | 3 => cases h1; cases h2; exact ⟨by decide, (r3.frm F4 (by simp)).frm F5 (by simp)⟩
    | _ + 4 => cases h1

set_option linter.unusedSimpArgs false in
set_option maxRecDepth 100000 in
set_option maxHeartbeats 4000000 in
theorem buffer_any (w : World) : Calls Tryz.prog 29 #[] w fun e w' => (∃ sv, e = .returned (machV bufM sv) ∧ StatesAt w' [] sv bufM.states) ∧ Frm [] w w' := by
  go_enter Tryz.func29, Tryz.ntmps29
  go_wp2_with fail
  obtain ⟨W1, hW1⟩ : ∃ W, W = w.alloc (.cells #[.int .i64 1, .int .i64 1, .int .i64 0, .slice (some ⟨w.heap.size + 1 + 1 + 1, 0, none⟩) 2 2] 30) := ⟨_, rfl⟩
  rw [← hW1]
  have e1 : W1.heap.size = w.heap.size + 1 := by rw [hW1]; simp
  have F1 : Frm [] w W1 := by rw [hW1]; exact (Frm.refl [] w).alloc _
  have r0 : RowAt W1 w.heap.size 30 [.int .i64 1, .int .i64 1, .int .i64 0, .slice (some ⟨w.heap.size + 1 + 1 + 1, 0, none⟩) 2 2] := by rw [hW1]; exact RowAt.made w _ _ _ rfl
  obtain ⟨W2, hW2⟩ : ∃ W, W = W1.alloc (.cells #[.int .i64 4, .int .i64 0, .int .i64 0, .int .i64 0, .slice none 0 0, .int .i64 1] 47) := ⟨_, rfl⟩
  rw [← hW2]
  have e2 : W2.heap.size = w.heap.size + 1 + 1 := by rw [hW2]; simp [e1]
  have F2 : Frm [] W1 W2 := by rw [hW2]; exact (Frm.refl [] W1).alloc _
  have r1 : RowAt W2 (w.heap.size + 1) 47 [.int .i64 4, .int .i64 0, .int .i64 0, .int .i64 0, .slice none 0 0, .int .i64 1] := by rw [← e1, hW2]; exact RowAt.made W1 _ _ _ rfl
  obtain ⟨W3, hW3⟩ : ∃ W, W = W2.alloc (.cells #[.int .i64 5, .int .i64 0, .int .i64 0, .int .i64 0, .slice none 0 0, .int .i64 0] 47) := ⟨_, rfl⟩
  rw [← hW3]
  have e3 : W3.heap.size = w.heap.size + 1 + 1 + 1 := by rw [hW3]; simp [e2]
  have F3 : Frm [] W2 W3 := by rw [hW3]; exact (Frm.refl [] W2).alloc _
  have r2 : RowAt W3 (w.heap.size + 1 + 1) 47 [.int .i64 5, .int .i64 0, .int .i64 0, .int .i64 0, .slice none 0 0, .int .i64 0] := by rw [← e2, hW3]; exact RowAt.made W2 _ _ _ rfl
  obtain ⟨W4, hW4⟩ : ∃ W, W = W3.alloc (.cells #[.slice (some ⟨w.heap.size + 1, 0, none⟩) 1 1, .slice (some ⟨w.heap.size + 1 + 1, 0, none⟩) 1 1] 49) := ⟨_, rfl⟩
  rw [← hW4]
  have F4 : Frm [] W3 W4 := by rw [hW4]; exact (Frm.refl [] W3).alloc _
  have r3 : RowAt W4 (w.heap.size + 1 + 1 + 1) 49 [.slice (some ⟨w.heap.size + 1, 0, none⟩) 1 1, .slice (some ⟨w.heap.size + 1 + 1, 0, none⟩) 1 1] := by rw [← e3, hW4]; exact RowAt.made W3 _ _ _ rfl
  have q0 := ((r0.frm F2 (by simp)).frm F3 (by simp)).frm F4 (by simp)
  have q1 := (r1.frm F3 (by simp)).frm F4 (by simp)
  have q2 := r2.frm F4 (by simp)
  have HS : Hid (StatesAt W4 [] (.slice (some ⟨w.heap.size + 1 + 1 + 1, 0, none⟩) 2 2) bufM.states) := Lib.hid ⟨[(.slice (some ⟨w.heap.size + 1, 0, none⟩) 1 1, [⟨4, 0, 0, 0, [], 1⟩]), (.slice (some ⟨w.heap.size + 1 + 1, 0, none⟩) 1 1, [⟨5, 0, 0, 0, [], 0⟩])], rfl, rowV_cells (size := 1) r3 rfl (Nat.le_refl _) (by decide) (by simp), fun p hp => by
    rcases List.mem_cons.1 hp with hp | hp
    · subst hp; exact arcs_one q1
    · rw [List.mem_singleton] at hp; subst hp; exact arcs_one q2⟩
  have FE := Lib.hid (((F1.trans F2 (by simp)).trans F3 (by simp)).trans F4 (by simp))
  have c0 := q0.cell (i := 0) rfl
  have c1 := q0.cell (i := 1) rfl
  have c2 := q0.cell (i := 2) rfl
  have c3 := q0.cell (i := 3) rfl
  clear q0 q1 q2 r0 r1 r2 r3 F1 F2 F3 F4 e1 e2 e3 hW1 hW2 hW3 hW4
  refine bodyPost_ret (v := .agg #[.int .i64 1, .int .i64 1, .int .i64 0, .slice (some ⟨w.heap.size + 1 + 1 + 1, 0, none⟩) 2 2]) (by simp [results, Tryz.results29, go_sem, c0, c1, c2, c3]) rfl ?_
  exact ⟨⟨_, rfl, HS.out⟩, FE.out⟩

set_option linter.unusedSimpArgs false in
set_option maxRecDepth 100000 in
set_option maxHeartbeats 4000000 in
theorem sane_any (w : World) : Calls Tryz.prog 13 #[] w fun e w' => e = .returned (.bool true) ∧ Frm [] w w' := by
  have hthr : Hid (∀ (W : World) (s1 s2 : Value), StatesAt W [] s1 bufM.states → StatesAt W [] s2 bufM.states → Calls Tryz.prog 30 #[machV bufM s1, machV bufM s2] W fun e w' => e = .returned (.tuple #[.int .i64 3, .int .i64 0]) ∧ Frm [] W w') := Lib.hid fun W s1 s2 h1 h2 => by
    have h := thr_any W bufM bufM s1 s2 h1 h2
    rw [if_pos buf_dec, if_pos buf_dec] at h
    exact h
  have hins : Hid (∀ (W : World) (s1 : Value), StatesAt W [] s1 bufM.states → Calls Tryz.prog 14 #[machV bufM s1, .int .i64 2] W fun e w' => (∃ ov, e = .returned (.tuple #[.agg #[ov], .int .i64 0]) ∧ LtsAt w' [] ov wantR) ∧ Frm [] W w') := Lib.hid fun W s1 h1 => (instance_any W bufM s1 2 h1).mono fun e w' h => by
    unfold InstEnd at h
    rw [if_pos ⟨buf_valid, by decide, by decide⟩, show (2 : Int).toNat = 2 from rfl, buf_inst] at h
    exact h
  go_enter Tryz.func13, Tryz.ntmps13
  go_wp2_with fail
  refine (buffer_any _).mono ?_
  rintro e1 w1 ⟨⟨sv1, rfl, hs1⟩, hf1⟩
  go_wp2_with fail
  refine (hins.out w1 sv1 hs1).mono ?_
  rintro e2 w2 ⟨⟨ov, rfl, hl2⟩, hf2⟩
  obtain ⟨oa, oc, rfl, _⟩ := ltsShape hl2
  have F2 := Lib.hid (hf1.trans hf2 (by simp))
  have HL2 := Lib.hid hl2
  clear hs1 hf1 hf2 hl2
  have bx := RowAt.made w2 25 [.slice oa wantR.length oc] #[.slice oa wantR.length oc] rfl
  have FB : Frm [] w2 (w2.alloc (.cells #[.slice oa wantR.length oc] 25)) := (Frm.refl [] w2).alloc _
  have BX := Lib.hid bx
  have HFB := Lib.hid FB
  clear bx FB
  go_wp2_with fail
  refine (buffer_any _).mono ?_
  rintro e3 w3 ⟨⟨sv3, rfl, hs3⟩, hf3⟩
  go_wp2_with fail
  refine (buffer_any _).mono ?_
  rintro e4 w4 ⟨⟨sv4, rfl, hs4⟩, hf4⟩
  go_wp2_with fail
  refine (hthr.out w4 sv3 sv4 (hs3.nil hf4) hs4).mono ?_
  rintro e5 w5 ⟨rfl, hf5⟩
  have F5 := Lib.hid ((HFB.out.trans hf3 (by simp)).trans (hf4.trans hf5 (by simp)) (by simp))
  have BX5 := Lib.hid (((BX.out.frm hf3 (by simp)).frm hf4 (by simp)).frm hf5 (by simp))
  have cb := BX5.out.cell (i := 0) rfl
  have hlt := BX5.out.lt
  have hl1 : w2.heap.size < w5.heap.size + 1 := by omega
  have hl2 : w2.heap.size < w5.heap.size + 1 + 1 := by omega
  have hl3 : w2.heap.size < w5.heap.size + 1 + 1 + 1 := by omega
  have hl4 : w2.heap.size < w5.heap.size + 1 + 1 + 1 + 1 := by omega
  have hl5 : w2.heap.size < w5.heap.size + 1 + 1 + 1 + 1 + 1 := by omega
  clear hs3 hs4 hf3 hf4 hf5
  go_wp2_with fail
  obtain ⟨WW, hWW, FW, HW⟩ := want_made w5
  rw [← hWW]
  have hcall := sameLts_any WW _ _ wantR wantR (HL2.out.nil (F5.out.trans FW (by simp))) HW
  rw [decide_eq_true rfl] at hcall
  have FE := Lib.hid ((F2.out.trans F5.out (by simp)).trans FW (by simp))
  refine hcall.mono ?_
  rintro e6 w6 ⟨rfl, hf6⟩
  clear hWW HW hcall
  go_wp2_with fail
  go_ret
  exact ⟨rfl, FE.out.trans hf6 (by simp)⟩

end Go.Proofs.YtdknbgejhhoaiaaGreat.Ind
