/- The reference's disk: Append to a new file. -/
import Derived.Test.YtkebdgbjgbcneaaEF
namespace Go.Proofs.Ytkebdgbjgbcneaa
open Go.RowKit Go.Maps Go.Shelf

section
variable {w : World} {F : List Nat} {d N : Nat} {m : DM} {fv dv sv ov : Value} {l : List (Value × FM)}
set_option linter.unusedSimpArgs false in
set_option maxRecDepth 100000 in
set_option maxHeartbeats 4000000 in
theorem rappend_none (h : RDv w F d m fv dv sv ov l) (ho : DOk N m) (hN : N ≤ 90000) {s : Nm} (hs : s.length ≤ maxLen) {b : List UInt8} {v : Value} (hb : RowV w F v b.length 1 (byt b)) (hoff : m.off = false) (hg : goodN s = true) (hfull : fullM m s b = false) (hfd : findD m.dir s = none) :
    Calls Try.prog 40 #[.pointer (some ⟨d, 0, none⟩), str s, v] w fun e w' => RPost F d (putM (writeM m) s b) (if (writeM m).off = true then 25 else 0) w' e ∧ Frm [d] w w' := by
  obtain ⟨da, dc, rfl⟩ := h.dir.shape
  obtain ⟨ba, bc, rfl⟩ := hb.shape
  have hgd := rgood_any s w hs
  rw [hg] at hgd
  have hfi := rfind_eq h.dir s
  have hus := ho.used
  have hcap := ho.cap
  have hfew := ho.dirOk.few
  have hcf : ¬ m.cap < usedD m.files m.dir + b.length := fun h9 => by
    rw [fullM] at hfull
    simp [h9] at hfull
  have c0 := h.hd.cell (i := 0) rfl
  have c2 := h.hd.cell (i := 2) rfl
  have c6 := h.hd.cell (i := 6) rfl
  rw [hoff] at c6
  obtain ⟨U, hU⟩ : ∃ U, U = usedD m.files m.dir := ⟨_, rfl⟩
  have HUU := Lib.hid hU
  rw [← hU] at hus hcf
  obtain ⟨nb, hnb⟩ : ∃ nb, nb = b.length := ⟨_, rfl⟩
  rw [← hnb] at hb hcf ⊢
  have iw : IntKind.i64.wrap ((U : Int) + (nb : Int)) = ((U + nb : Nat) : Int) := by rw [IntWalk.i64_in _ (by omega)]; omega
  have i1 : ¬ ((m.cap : Int) < ((U + nb : Nat) : Int)) := by omega
  have i1b : (((U + nb : Nat) : Int)) ≤ (m.cap : Int) := by omega
  have hwr := fun W (hr : RowAt W d 77 (rhdC m fv (.slice da m.dir.length dc) sv ov)) => rwrite_any hr ho.armed
  have HB0 := Lib.hid hb
  obtain ⟨_, _, _, ebb, hbc, hbm, _, _⟩ := hb
  cases ebb
  obtain ⟨k2, hk2⟩ : ∃ k, k = nb / 2 := ⟨_, rfl⟩
  have iq : (nb : Int).tdiv 2 = (k2 : Int) := by rw [hk2]; exact (Int.ofNat_tdiv nb 2).symm
  have i2 : (nb : Int) ≤ (bc : Int) := by omega
  have i3 : (bc : Int) ≤ 9223372036854775807 := by unfold maxLen at hbm; omega
  have i4 : (k2 : Int) ≤ (bc : Int) := by omega
  have i5 : (0 : Int) ≤ (k2 : Int) := by omega
  have i4b : k2 ≤ bc := by omega
  have HKN : Hid (k2 ≤ nb) := Lib.hid (by omega)
  have HK2 : Hid (k2 = b.length / 2) := Lib.hid (by rw [hk2, hnb])
  have HNB := Lib.hid hnb
  have HNBL : Hid (nb ≤ 4194304) := Lib.hid (by omega)
  have HW := Lib.hid hwr
  have HH := Lib.hid h
  have HO := Lib.hid ho
  have HN0 := Lib.hid hN
  · rw [findI, hfd] at hfi
    have hfi' : Calls Try.prog 56 #[.slice da m.dir.length dc, str s] w fun e w' => e = .returned (.int .i64 (-1)) ∧ w' = w := hfi
    have hd64 : m.dir.length < 64 := by
      rw [fullM] at hfull
      simp [hfd] at hfull
      omega
    have j1 : ¬ (64 : Int) ≤ (m.dir.length : Int) := by omega
    have jd : decide ((-1 : Int) < 0) = true := by decide
    have j1d : decide ((64 : Int) ≤ (m.dir.length : Int)) = false := decide_eq_false j1
    have HPUT : Hid (putM (writeM m) s b = addM (newM (writeM m) s) (writeM m).files.length (cutB (writeM m).off b)) := Lib.hid (by rw [putM, writeM_dir, hfd])
    rw [HPUT.out]
    have HNFW : Hid ((writeM m).files.length ≤ 90000) := Lib.hid (by rw [writeM_files]; have := ho.few1; omega)
    have HD64 := Lib.hid hd64
    obtain ⟨off, hoff'⟩ : ∃ off, off = (writeM m).off := ⟨_, rfl⟩
    rw [← hoff'] at HW ⊢
    clear h ho hN hg hoff hfull hs hfd hcf hus hcap hU hwr hbc hbm hk2 hnb hoff' hfi hd64 hfew
    cases off with
    | false =>
      rw [if_neg (by simp)]
      go_enter Try.func40, Try.ntmps40
      go_wp2_with fail
      refine hfi'.mono ?_
      rintro e0 w0 ⟨rfl, rfl⟩
      clear hfi'
      go_wp2_with fail
      refine hgd.mono ?_
      rintro e1 w1 ⟨rfl, rfl⟩
      clear hgd
      go_wp2_with fail
      refine wp_region_held_drew (S := fun w' => w'.cell? ⟨d, 0, none⟩ = some (.int .i64 (m.cap : Int)) ∧ w'.cell? ⟨d, 2, none⟩ = some (.slice da m.dir.length dc)) (by kernel_rfl) (⟨c0, c2⟩) ?_
      intro hHeld
      refine wpAnyH_take (i := 0) (v := ?_) rfl (by kernel_rfl) (by kernel_rfl) (by kernel_rfl) (fun _ _ _ h => h) (Or.inl ⟨by rfl, ?_⟩) (by assumption) ?_
      rotate_left
      · intro w9 hS9
        try dsimp only at hS9
        go_split_ands
        go_simp
        try with_reducible rfl
      try simp only [Act.put, List.getElem_toArray, List.getElem_cons_succ, List.getElem_cons_zero, List.setIfInBounds_toArray, List.set_cons_zero, List.set_cons_succ]
      refine wpAnyH_take (i := 1) (v := ?_) rfl (by kernel_rfl) (by kernel_rfl) (by kernel_rfl) (fun _ _ _ h => h) (Or.inl ⟨by rfl, ?_⟩) (by assumption) ?_
      rotate_left
      · intro w9 hS9
        try dsimp only at hS9
        go_split_ands
        go_simp
        try with_reducible rfl
      try simp only [Act.put, List.getElem_toArray, List.getElem_cons_succ, List.getElem_cons_zero, List.setIfInBounds_toArray, List.set_cons_zero, List.set_cons_succ]
      try simp only [jd]
      refine wpAnyH_take (i := 2) (v := ?_) rfl (by kernel_rfl) (by kernel_rfl) (by kernel_rfl) (fun _ _ _ h => h) (Or.inl ⟨by rfl, ?_⟩) (by assumption) ?_
      rotate_left
      · intro w9 hS9
        try dsimp only at hS9
        go_split_ands
        go_simp
        try with_reducible rfl
      try simp only [Act.put, List.getElem_toArray, List.getElem_cons_succ, List.getElem_cons_zero, List.setIfInBounds_toArray, List.set_cons_zero, List.set_cons_succ]
      refine wpAnyH_take (i := 3) (v := ?_) rfl (by kernel_rfl) (by kernel_rfl) (by kernel_rfl) (fun _ _ _ h => h) (Or.inl ⟨by rfl, ?_⟩) (by assumption) ?_
      rotate_left
      · intro w9 hS9
        try dsimp only at hS9
        go_split_ands
        go_simp
        try with_reducible rfl
      try simp only [Act.put, List.getElem_toArray, List.getElem_cons_succ, List.getElem_cons_zero, List.setIfInBounds_toArray, List.set_cons_zero, List.set_cons_succ]
      refine wpAnyH_take (i := 4) (v := ?_) rfl (by kernel_rfl) (by kernel_rfl) (by kernel_rfl) (fun _ _ _ h => h) (Or.inl ⟨by rfl, ?_⟩) (by assumption) ?_
      rotate_left
      · intro w9 hS9
        try dsimp only at hS9
        go_split_ands
        go_simp
        try with_reducible rfl
      try simp only [Act.put, List.getElem_toArray, List.getElem_cons_succ, List.getElem_cons_zero, List.setIfInBounds_toArray, List.set_cons_zero, List.set_cons_succ]
      refine wpAnyH_take (i := 5) (v := ?_) rfl (by kernel_rfl) (by kernel_rfl) (by kernel_rfl) (fun _ _ _ h => h) (Or.inl ⟨by rfl, ?_⟩) (by assumption) ?_
      rotate_left
      · intro w9 hS9
        try dsimp only at hS9
        go_split_ands
        go_simp
        try with_reducible rfl
      try simp only [Act.put, List.getElem_toArray, List.getElem_cons_succ, List.getElem_cons_zero, List.setIfInBounds_toArray, List.set_cons_zero, List.set_cons_succ]
      refine wpAnyH_take (i := 6) (v := ?_) rfl (by kernel_rfl) (by kernel_rfl) (by kernel_rfl) (fun _ _ _ h => h) (Or.inl ⟨by rfl, ?_⟩) (by assumption) ?_
      rotate_left
      · intro w9 hS9
        try dsimp only at hS9
        go_split_ands
        go_simp
        try with_reducible rfl
      try simp only [Act.put, List.getElem_toArray, List.getElem_cons_succ, List.getElem_cons_zero, List.setIfInBounds_toArray, List.set_cons_zero, List.set_cons_succ]
      refine wpAnyH_take (i := 7) (v := ?_) rfl (by kernel_rfl) (by kernel_rfl) (by kernel_rfl) (fun _ _ _ h => h) (Or.inl ⟨by rfl, ?_⟩) (by assumption) ?_
      rotate_left
      · intro w9 hS9
        try dsimp only at hS9
        go_split_ands
        go_simp
        try with_reducible rfl
      try simp only [Act.put, List.getElem_toArray, List.getElem_cons_succ, List.getElem_cons_zero, List.setIfInBounds_toArray, List.set_cons_zero, List.set_cons_succ]
      refine wpAnyH_take (i := 8) (v := ?_) rfl (by kernel_rfl) (by kernel_rfl) (by kernel_rfl) (fun _ _ _ h => h) (Or.inl ⟨by rfl, ?_⟩) (by assumption) ?_
      rotate_left
      · intro w9 hS9
        try dsimp only at hS9
        go_split_ands
        go_simp
        try with_reducible rfl
      try simp only [Act.put, List.getElem_toArray, List.getElem_cons_succ, List.getElem_cons_zero, List.setIfInBounds_toArray, List.set_cons_zero, List.set_cons_succ]
      try simp only [j1d]
      refine wpAnyH_take (i := 9) (v := ?_) rfl (by kernel_rfl) (by kernel_rfl) (by kernel_rfl) (fun _ _ _ h => h) (Or.inl ⟨by rfl, ?_⟩) (by assumption) ?_
      rotate_left
      · intro w9 hS9
        try dsimp only at hS9
        go_split_ands
        go_simp
        try with_reducible rfl
      try simp only [Act.put, List.getElem_toArray, List.getElem_cons_succ, List.getElem_cons_zero, List.setIfInBounds_toArray, List.set_cons_zero, List.set_cons_succ]
      refine wpAnyH_take (i := 10) (v := ?_) rfl (by kernel_rfl) (by kernel_rfl) (by kernel_rfl) (fun _ _ _ h => h) (Or.inl ⟨by rfl, ?_⟩) (by assumption) ?_
      rotate_left
      · intro w9 hS9
        try dsimp only at hS9
        go_split_ands
        go_simp
        try with_reducible rfl
      try simp only [Act.put, List.getElem_toArray, List.getElem_cons_succ, List.getElem_cons_zero, List.setIfInBounds_toArray, List.set_cons_zero, List.set_cons_succ]
      refine wpAnyH_take (i := 11) (v := ?_) rfl (by kernel_rfl) (by kernel_rfl) (by kernel_rfl) (fun _ _ _ h => h) (Or.inl ⟨by rfl, ?_⟩) (by assumption) ?_
      rotate_left
      · intro w9 hS9
        try dsimp only at hS9
        go_split_ands
        go_simp
        try with_reducible rfl
      try simp only [Act.put, List.getElem_toArray, List.getElem_cons_succ, List.getElem_cons_zero, List.setIfInBounds_toArray, List.set_cons_zero, List.set_cons_succ]
      refine wpAnyH_take (i := 13) (v := ?_) rfl (by kernel_rfl) (by kernel_rfl) (by kernel_rfl) (fun _ _ _ h => h) (Or.inl ⟨by rfl, ?_⟩) (by assumption) ?_
      rotate_left
      · intro w9 hS9
        try dsimp only at hS9
        go_split_ands
        go_simp
        try with_reducible rfl
      try simp only [Act.put, List.getElem_toArray, List.getElem_cons_succ, List.getElem_cons_zero, List.setIfInBounds_toArray, List.set_cons_zero, List.set_cons_succ]
      refine wpAnyH_take (i := 14) (v := ?_) rfl (by kernel_rfl) (by kernel_rfl) (by kernel_rfl) (fun _ _ _ h => h) (Or.inl ⟨by rfl, ?_⟩) (by assumption) ?_
      rotate_left
      · intro w9 hS9
        try dsimp only at hS9
        go_split_ands
        go_simp
        try with_reducible rfl
      try simp only [Act.put, List.getElem_toArray, List.getElem_cons_succ, List.getElem_cons_zero, List.setIfInBounds_toArray, List.set_cons_zero, List.set_cons_succ]
      refine wpAnyH_take (i := 16) (v := ?_) rfl (by kernel_rfl) (by kernel_rfl) (by kernel_rfl) (fun _ _ _ h => h) (Or.inl ⟨by rfl, ?_⟩) (by assumption) ?_
      rotate_left
      · intro w9 hS9
        try dsimp only at hS9
        go_split_ands
        go_simp
        try with_reducible rfl
      try simp only [Act.put, List.getElem_toArray, List.getElem_cons_succ, List.getElem_cons_zero, List.setIfInBounds_toArray, List.set_cons_zero, List.set_cons_succ]
      refine wpAnyH_take (i := 17) (v := ?_) rfl (by kernel_rfl) (by kernel_rfl) (by kernel_rfl) (fun _ _ _ h => h) (Or.inl ⟨by rfl, ?_⟩) (by assumption) ?_
      rotate_left
      · intro w9 hS9
        try dsimp only at hS9
        go_split_ands
        go_simp
        try with_reducible rfl
      try simp only [Act.put, List.getElem_toArray, List.getElem_cons_succ, List.getElem_cons_zero, List.setIfInBounds_toArray, List.set_cons_zero, List.set_cons_succ]
      refine wpAnyH_take (i := 18) (v := ?_) rfl (by kernel_rfl) (by kernel_rfl) (by kernel_rfl) (fun _ _ _ h => h) (Or.inl ⟨by rfl, ?_⟩) (by assumption) ?_
      rotate_left
      · intro w9 hS9
        try dsimp only at hS9
        go_split_ands
        go_simp
        try with_reducible rfl
      try simp only [Act.put, List.getElem_toArray, List.getElem_cons_succ, List.getElem_cons_zero, List.setIfInBounds_toArray, List.set_cons_zero, List.set_cons_succ]
      refine wpAnyH_take (i := 19) (v := ?_) rfl (by kernel_rfl) (by kernel_rfl) (by kernel_rfl) (fun _ _ _ h => h) (Or.inl ⟨by rfl, ?_⟩) (by assumption) ?_
      rotate_left
      · intro w9 hS9
        try dsimp only at hS9
        go_split_ands
        go_simp
        try with_reducible rfl
      try simp only [Act.put, List.getElem_toArray, List.getElem_cons_succ, List.getElem_cons_zero, List.setIfInBounds_toArray, List.set_cons_zero, List.set_cons_succ]
      refine wpAnyH_ready (rs := [12]) (by kernel_rfl) (by simp) ?_
      refine AllReadyH.cons rfl (fun K hK => ?_) AllReadyH.nil
      go_simp
      refine (rused_any (HH.out.nil ((Frm.refl [] w1).drew)) HO.out).mono ?_
      rintro e2 w2 ⟨he2, hf20⟩
      rw [← HUU.out] at he2
      subst he2
      have hf2 : Frm [] w1 w2 := Frm.trans ((Frm.refl [] w1).drew) hf20 (by simp)
      refine hK.out _ _ ?_ (fun hHeld => ?_)
      · exact ⟨hf2.cell c0 (by simp), hf2.cell c2 (by simp)⟩
      clear hK K
      try simp only [Act.put, List.getElem_toArray, List.getElem_cons_succ, List.getElem_cons_zero, List.setIfInBounds_toArray, List.set_cons_zero, List.set_cons_succ]
      refine wpAnyH_take (i := 15) (v := ?_) rfl (by kernel_rfl) (by kernel_rfl) (by kernel_rfl) (fun _ _ _ h => h) (Or.inl ⟨by rfl, ?_⟩) (by assumption) ?_
      rotate_left
      · intro w9 hS9
        try dsimp only at hS9
        go_split_ands
        go_simp
        try with_reducible rfl
      try simp only [Act.put, List.getElem_toArray, List.getElem_cons_succ, List.getElem_cons_zero, List.setIfInBounds_toArray, List.set_cons_zero, List.set_cons_succ]
      refine wpAnyH_take (i := 20) (v := ?_) rfl (by kernel_rfl) (by kernel_rfl) (by kernel_rfl) (fun _ _ _ h => h) (Or.inl ⟨by rfl, ?_⟩) (by assumption) ?_
      rotate_left
      · intro w9 hS9
        try dsimp only at hS9
        go_split_ands
        go_simp
        try with_reducible rfl
      try simp only [Act.put, List.getElem_toArray, List.getElem_cons_succ, List.getElem_cons_zero, List.setIfInBounds_toArray, List.set_cons_zero, List.set_cons_succ]
      refine wpAnyH_take (i := 21) (v := ?_) rfl (by kernel_rfl) (by kernel_rfl) (by kernel_rfl) (fun _ _ _ h => h) (Or.inl ⟨by rfl, ?_⟩) (by assumption) ?_
      rotate_left
      · intro w9 hS9
        try dsimp only at hS9
        go_split_ands
        go_simp
        try with_reducible rfl
      try simp only [Act.put, List.getElem_toArray, List.getElem_cons_succ, List.getElem_cons_zero, List.setIfInBounds_toArray, List.set_cons_zero, List.set_cons_succ]
      refine wpAnyH_take (i := 22) (v := ?_) rfl (by kernel_rfl) (by kernel_rfl) (by kernel_rfl) (fun _ _ _ h => h) (Or.inl ⟨by rfl, ?_⟩) (by assumption) ?_
      rotate_left
      · intro w9 hS9
        try dsimp only at hS9
        go_split_ands
        go_simp
        try with_reducible rfl
      try simp only [Act.put, List.getElem_toArray, List.getElem_cons_succ, List.getElem_cons_zero, List.setIfInBounds_toArray, List.set_cons_zero, List.set_cons_succ]
      refine wpAnyH_done (by kernel_rfl) ?_ _

      have HF2 := Lib.hid hf2
      clear hf20 hf2 c0 c2 c6 iw
      go_wp2_with fail
      refine (HW.out _ (HH.out.hd.frm HF2.out (by simp))).mono ?_
      rintro e3 w3 ⟨rfl, hr3, hf3⟩
      have H3 := Lib.hid ((HH.out.nil HF2.out).write hf3 hr3)
      have F3 : Hid (Frm [d] w1 w3) := Lib.hid ((HF2.out.mono (by simp)).trans hf3 (fun x hx => .inl hx))
      clear hr3 hf3
      obtain ⟨nw, hnw⟩ : ∃ nw, nw = (writeM m).files.length := ⟨_, rfl⟩
      have hln : l.length = nw := by rw [H3.out.flen, hnw]
      have hfr3 := H3.out.fr
      rw [hln] at hfr3
      have HLN := Lib.hid hln
      have HNW := Lib.hid hnw
      have HNWL : Hid (nw ≤ 90000) := Lib.hid (by rw [hnw]; exact HNFW.out)
      have q1 := H3.out.hd.cell (i := 1) rfl
      have qf := H3.out.fr
      obtain ⟨fa, fc, hfv⟩ := qf.shape
      subst hfv
      rw [hln] at q1 hfr3
      have HFR3 := Lib.hid (hfr3.nil ((Frm.refl [] w3).alloc (.cells #[] 89)))
      have hd3 := H3.out.hd.lt
      have z1 := H3.out.hd.frozen 1
      clear hnw hln hfr3 qf
      go_wp2_with (first | (at_builtin; refine app_row rfl _ _ 73 89 _ 2 32 rfl Try.underlying73 infoFile rfl (by decide) (by decide) w3.heap.size 0 (.slice (some ⟨w3.heap.size, 0, none⟩) 0 0) [] rfl (owns_made0 w3 _ _) _ nw (fileC l) F rfl HFR3.out (oneCell_fileC _ H3.out.slices) nw (Nat.zero_add _) (by have := HNWL.out; omega) (by simp) ?_; intro a4 c4 w4 own4 hf4 hloc4; have fr4 : Frm [] w3 w4 := ((Frm.refl [] w3).alloc _).trans hf4 (by simp [Value.ownBlock])) | (at_builtin; refine app_row rfl _ _ 73 89 _ 2 32 rfl Try.underlying73 infoFile rfl (by decide) (by decide) w3.heap.size nw (.slice a4 nw c4) _ rfl (own4.alloc _) _ 1 [.slice none 0 0, .int .i64 0] [] rfl (rowV_cells (size := 2) (RowAt.made w4 89 [.slice none 0 0, .int .i64 0] _ rfl) rfl (Nat.le_refl _) (by decide) (by simp)) (by intro u hu; simp at hu; rcases hu with rfl | rfl <;> rfl) (nw + 1) rfl (by have := HNWL.out; omega) (by simp; have := fr4.size; omega) ?_; intro a5' c5' w5 own5 hf5 hloc5; have fr5 : Frm [] w3 w5 := frm_own (fr4.alloc _) (own4.alloc _) (Nat.le_refl _) hf5; have q5 := fr5.cell q1 (by simp); have z5 := fr5.frz q1 z1 (by simp)) | fail)
      obtain ⟨h6, f6⟩ := file_end H3.out fr5 own5 HLN.out
      have hp6 : Calls Try.prog 59 #[.pointer (some ⟨d, 0, none⟩), .agg #[.int .i64 1, str s, str [], .int .i64 (nw : Int)]] (w5.setCell ⟨d, 1, none⟩ (.slice a5' (nw + 1) c5')) fun e w' => (e = .returned (.tuple #[]) ∧ ∃ dv' ov', RDv w' F d (opM { writeM m with files := (writeM m).files ++ [⟨[], 0⟩] } ⟨1, s, [], nw⟩) (.slice a5' (nw + 1) c5') dv' sv ov' (l ++ [(.slice none 0 0, ⟨[], 0⟩)])) ∧ Frm [d] (w5.setCell ⟨d, 1, none⟩ (.slice a5' (nw + 1) c5')) w' := rperf_any h6 ⟨1, s, [], nw⟩ (.inl rfl) (by show (writeM m).dir.length ≤ 900; rw [writeM_dir]; have := HD64.out; omega) (by show (writeM m).ops.length ≤ 100000; rw [writeM_ops]; have := HO.out.few2; have := HN0.out; omega)
      refine hp6.mono ?_
      rintro e6 w6 ⟨⟨rfl, dv6, ov6, h6x⟩, hf6⟩
      have e9x : opM { writeM m with files := (writeM m).files ++ [⟨[], 0⟩] } ⟨1, s, [], nw⟩ = newM (writeM m) s := by rw [HNW.out]; rfl
      rw [e9x] at h6x
      have H6 := Lib.hid h6x
      have F6 : Hid (Frm [d] w1 w6) := Lib.hid ((F3.out.trans f6 (fun x hx => .inl hx)).trans hf6 (fun x hx => .inl hx))
      have HIY : Hid (nw < (newM (writeM m) s).files.length) := Lib.hid (by rw [HNW.out]; simp [newM])
      have HDB : Hid ((fileAt (newM (writeM m) s).files nw).data.length ≤ 4194304) := Lib.hid (by rw [HNW.out]; show (fileAt ((writeM m).files ++ [⟨[], 0⟩]) (writeM m).files.length).data.length ≤ _; rw [fileAt_new]; exact Nat.zero_le _)
      have HNFX : Hid ((newM (writeM m) s).files.length ≤ 100000) := Lib.hid (by have := HNFW.out; simp [newM]; omega)
      clear h6 f6 hp6 h6x hf6 e9x own4 hf4 hloc4 fr4 own5 hf5 hloc5 fr5 q5 z5 q1 z1 hd3
      obtain ⟨nf, hnf⟩ : ∃ nf, nf = (newM (writeM m) s).files.length := ⟨_, rfl⟩
      have hnl : (l ++ [(Value.slice none 0 0, (⟨[], 0⟩ : FM))]).length = nf := by rw [H6.out.flen, hnf]
      obtain ⟨a5, c5, hl5⟩ := H6.out.lget HIY.out
      have hdat := H6.out.fd _ (List.mem_of_getElem? hl5)
      have hnfl : nf ≤ 100000 := by rw [hnf]; exact HNFX.out
      have hif : nw < nf := by rw [hnf]; exact HIY.out
      obtain ⟨dl, hdl⟩ : ∃ dl, dl = (fileAt (newM (writeM m) s).files nw).data.length := ⟨_, rfl⟩
      have hdl9 : dl ≤ 4194304 := by rw [hdl]; exact HDB.out
      have HDATA : Hid (RowV w6 F (.slice a5 dl c5) dl 1 (byt (fileAt (newM (writeM m) s).files nw).data)) := Lib.hid (by rw [hdl]; exact hdat)
      have HL5 : Hid ((l ++ [(Value.slice none 0 0, (⟨[], 0⟩ : FM))])[nw]? = some (.slice a5 dl c5, fileAt (newM (writeM m) s).files nw)) := Lib.hid (by rw [hdl]; exact hl5)
      have e1 := H6.out.hd.cell (i := 1) rfl
      have hfr := H6.out.fr
      rw [hnl] at hfr
      have HFR := Lib.hid (hfr.nil ((Frm.refl [] w6).alloc (.cells #[] 89)))
      have HNL := Lib.hid hnl
      have HNFL := Lib.hid hnfl
      have HDL := Lib.hid hdl
      have HDL9 := Lib.hid hdl9
      have hdlt := H6.out.hd.lt
      have i6 : (nw : Int) < (nf : Int) := by omega
      have i7 : (0 : Int) ≤ (nw : Int) := by omega
      have i8 : (nf : Int) ≤ 9223372036854775807 := by omega
      have HBT : Hid (RowV w6 F (.slice ba nb bc) nb 1 (byt b)) := Lib.hid (HB0.out.frm F6.out HH.out.mine)
      have hpos : 0 < nf := by omega
      have HPOS := Lib.hid hpos
      clear hdat hl5 hfr hnl hnfl hif hdl hdl9 hpos hnf
      go_wp2_with (first | (at_builtin; refine app_row rfl _ _ 73 89 _ 2 32 rfl Try.underlying73 infoFile rfl (by decide) (by decide) w6.heap.size 0 (.slice (some ⟨w6.heap.size, 0, none⟩) 0 0) [] rfl (owns_made0 w6 _ _) _ nf (fileC (l ++ [(Value.slice none 0 0, (⟨[], 0⟩ : FM))])) F rfl HFR.out (oneCell_fileC _ H6.out.slices) nf (Nat.zero_add _) (by have := HNFL.out; omega) (by simp) ?_; intro a9 c9 w9 own9 hf9 hloc9) | fail)
      have fr9 : Frm [] w6 w9 := ((Frm.refl [] w6).alloc _).trans hf9 (by simp [Value.ownBlock])
      obtain ⟨g9, cc9, e9, hg9, hc9, hm9, row9⟩ := ownsB_some own9 HPOS.out
      simp only [Value.slice.injEq] at e9
      obtain ⟨rfl, -, rfl⟩ := e9
      obtain ⟨k0, k1⟩ := fileC_get HL5.out
      have y0 := row9.cell k0
      have D9 := Lib.hid (H6.out.nil fr9)
      have x1 := D9.out.hd.frozen 1
      have e1' := D9.out.hd.cell (i := 1) rfl
      have hdg : d ≠ g9 := by omega
      have FR9 := Lib.hid fr9
      have OW9 := Lib.hid own9
      have HG9 := Lib.hid hg9
      have ROW9 := Lib.hid row9
      have g9l : g9 < w9.heap.size := (own9.lt g9 rfl).2
      clear own9 hf9 hloc9 fr9 k0 k1 row9 e1 hc9 hm9 hdlt hg9
      go_wp2_with (first | (at_builtin; refine app_row rfl _ _ 27 5 _ 1 1 rfl Try.underlying27 infoB rfl (by decide) (by decide) w9.heap.size 0 (.slice (some ⟨w9.heap.size, 0, none⟩) 0 0) [] rfl (owns_made0 w9 _ _) (.slice a5 dl c5) dl (byt (fileAt (newM (writeM m) s).files nw).data) F rfl (HDATA.out.nil (FR9.out.alloc _)) (oneCell_byt _) dl (Nat.zero_add _) (by have := HDL9.out; omega) (by simp) ?_; intro a11 c11 w11 own11 hf11 hloc11; have fr11 : Frm [] w9 w11 := ((Frm.refl [] w9).alloc _).trans hf11 (by simp [Value.ownBlock])) | (at_builtin; refine app_row rfl _ _ 27 5 _ 1 1 rfl Try.underlying27 infoB rfl (by decide) (by decide) w9.heap.size dl (.slice a11 dl c11) _ rfl own11 (.slice ba nb bc) nb (byt b) F rfl (HBT.out.nil (FR9.out.trans fr11 (by simp))) (oneCell_byt _) (dl + nb) rfl (by have := HDL9.out; have := HNBL.out; have := HKN.out; omega) fr11.size ?_; intro a12 c12 w12 own12 hf12 hloc12; have fr12 : Frm [] w9 w12 := frm_own fr11 own11 (Nat.le_refl _) hf12; have z9 := fr12.frz y0 (ROW9.out.frozen _) (by simp); have y9 := fr12.cell y0 (by simp); have x9 := fr12.frz e1' x1 (by simp); have e9 := fr12.cell e1' (by simp)) | fail)
      have HE := Lib.hid (app_end (b := b) H6.out FR9.out OW9.out HG9.out (by rw [← HDL.out]; exact HL5.out) HNL.out fr12 own12 (by rw [← HDL.out]; rw [HNB.out]))
      clear z9 y9 x9 e9 own11 hf11 hloc11 own12 hf12 hloc12
      try go_wp2_with fail
      go_ret
      rw [show cutB false b = b from rfl]
      rw [← HNW.out]
      exact ⟨⟨rfl, HE.out.1⟩, F6.out.trans HE.out.2 (fun x hx => .inl hx)⟩
    | true =>
      rw [if_pos rfl]
      go_enter Try.func40, Try.ntmps40
      go_wp2_with fail
      refine hfi'.mono ?_
      rintro e0 w0 ⟨rfl, rfl⟩
      clear hfi'
      go_wp2_with fail
      refine hgd.mono ?_
      rintro e1 w1 ⟨rfl, rfl⟩
      clear hgd
      go_wp2_with fail
      refine wp_region_held_drew (S := fun w' => w'.cell? ⟨d, 0, none⟩ = some (.int .i64 (m.cap : Int)) ∧ w'.cell? ⟨d, 2, none⟩ = some (.slice da m.dir.length dc)) (by kernel_rfl) (⟨c0, c2⟩) ?_
      intro hHeld
      refine wpAnyH_take (i := 0) (v := ?_) rfl (by kernel_rfl) (by kernel_rfl) (by kernel_rfl) (fun _ _ _ h => h) (Or.inl ⟨by rfl, ?_⟩) (by assumption) ?_
      rotate_left
      · intro w9 hS9
        try dsimp only at hS9
        go_split_ands
        go_simp
        try with_reducible rfl
      try simp only [Act.put, List.getElem_toArray, List.getElem_cons_succ, List.getElem_cons_zero, List.setIfInBounds_toArray, List.set_cons_zero, List.set_cons_succ]
      refine wpAnyH_take (i := 1) (v := ?_) rfl (by kernel_rfl) (by kernel_rfl) (by kernel_rfl) (fun _ _ _ h => h) (Or.inl ⟨by rfl, ?_⟩) (by assumption) ?_
      rotate_left
      · intro w9 hS9
        try dsimp only at hS9
        go_split_ands
        go_simp
        try with_reducible rfl
      try simp only [Act.put, List.getElem_toArray, List.getElem_cons_succ, List.getElem_cons_zero, List.setIfInBounds_toArray, List.set_cons_zero, List.set_cons_succ]
      try simp only [jd]
      refine wpAnyH_take (i := 2) (v := ?_) rfl (by kernel_rfl) (by kernel_rfl) (by kernel_rfl) (fun _ _ _ h => h) (Or.inl ⟨by rfl, ?_⟩) (by assumption) ?_
      rotate_left
      · intro w9 hS9
        try dsimp only at hS9
        go_split_ands
        go_simp
        try with_reducible rfl
      try simp only [Act.put, List.getElem_toArray, List.getElem_cons_succ, List.getElem_cons_zero, List.setIfInBounds_toArray, List.set_cons_zero, List.set_cons_succ]
      refine wpAnyH_take (i := 3) (v := ?_) rfl (by kernel_rfl) (by kernel_rfl) (by kernel_rfl) (fun _ _ _ h => h) (Or.inl ⟨by rfl, ?_⟩) (by assumption) ?_
      rotate_left
      · intro w9 hS9
        try dsimp only at hS9
        go_split_ands
        go_simp
        try with_reducible rfl
      try simp only [Act.put, List.getElem_toArray, List.getElem_cons_succ, List.getElem_cons_zero, List.setIfInBounds_toArray, List.set_cons_zero, List.set_cons_succ]
      refine wpAnyH_take (i := 4) (v := ?_) rfl (by kernel_rfl) (by kernel_rfl) (by kernel_rfl) (fun _ _ _ h => h) (Or.inl ⟨by rfl, ?_⟩) (by assumption) ?_
      rotate_left
      · intro w9 hS9
        try dsimp only at hS9
        go_split_ands
        go_simp
        try with_reducible rfl
      try simp only [Act.put, List.getElem_toArray, List.getElem_cons_succ, List.getElem_cons_zero, List.setIfInBounds_toArray, List.set_cons_zero, List.set_cons_succ]
      refine wpAnyH_take (i := 5) (v := ?_) rfl (by kernel_rfl) (by kernel_rfl) (by kernel_rfl) (fun _ _ _ h => h) (Or.inl ⟨by rfl, ?_⟩) (by assumption) ?_
      rotate_left
      · intro w9 hS9
        try dsimp only at hS9
        go_split_ands
        go_simp
        try with_reducible rfl
      try simp only [Act.put, List.getElem_toArray, List.getElem_cons_succ, List.getElem_cons_zero, List.setIfInBounds_toArray, List.set_cons_zero, List.set_cons_succ]
      refine wpAnyH_take (i := 6) (v := ?_) rfl (by kernel_rfl) (by kernel_rfl) (by kernel_rfl) (fun _ _ _ h => h) (Or.inl ⟨by rfl, ?_⟩) (by assumption) ?_
      rotate_left
      · intro w9 hS9
        try dsimp only at hS9
        go_split_ands
        go_simp
        try with_reducible rfl
      try simp only [Act.put, List.getElem_toArray, List.getElem_cons_succ, List.getElem_cons_zero, List.setIfInBounds_toArray, List.set_cons_zero, List.set_cons_succ]
      refine wpAnyH_take (i := 7) (v := ?_) rfl (by kernel_rfl) (by kernel_rfl) (by kernel_rfl) (fun _ _ _ h => h) (Or.inl ⟨by rfl, ?_⟩) (by assumption) ?_
      rotate_left
      · intro w9 hS9
        try dsimp only at hS9
        go_split_ands
        go_simp
        try with_reducible rfl
      try simp only [Act.put, List.getElem_toArray, List.getElem_cons_succ, List.getElem_cons_zero, List.setIfInBounds_toArray, List.set_cons_zero, List.set_cons_succ]
      refine wpAnyH_take (i := 8) (v := ?_) rfl (by kernel_rfl) (by kernel_rfl) (by kernel_rfl) (fun _ _ _ h => h) (Or.inl ⟨by rfl, ?_⟩) (by assumption) ?_
      rotate_left
      · intro w9 hS9
        try dsimp only at hS9
        go_split_ands
        go_simp
        try with_reducible rfl
      try simp only [Act.put, List.getElem_toArray, List.getElem_cons_succ, List.getElem_cons_zero, List.setIfInBounds_toArray, List.set_cons_zero, List.set_cons_succ]
      try simp only [j1d]
      refine wpAnyH_take (i := 9) (v := ?_) rfl (by kernel_rfl) (by kernel_rfl) (by kernel_rfl) (fun _ _ _ h => h) (Or.inl ⟨by rfl, ?_⟩) (by assumption) ?_
      rotate_left
      · intro w9 hS9
        try dsimp only at hS9
        go_split_ands
        go_simp
        try with_reducible rfl
      try simp only [Act.put, List.getElem_toArray, List.getElem_cons_succ, List.getElem_cons_zero, List.setIfInBounds_toArray, List.set_cons_zero, List.set_cons_succ]
      refine wpAnyH_take (i := 10) (v := ?_) rfl (by kernel_rfl) (by kernel_rfl) (by kernel_rfl) (fun _ _ _ h => h) (Or.inl ⟨by rfl, ?_⟩) (by assumption) ?_
      rotate_left
      · intro w9 hS9
        try dsimp only at hS9
        go_split_ands
        go_simp
        try with_reducible rfl
      try simp only [Act.put, List.getElem_toArray, List.getElem_cons_succ, List.getElem_cons_zero, List.setIfInBounds_toArray, List.set_cons_zero, List.set_cons_succ]
      refine wpAnyH_take (i := 11) (v := ?_) rfl (by kernel_rfl) (by kernel_rfl) (by kernel_rfl) (fun _ _ _ h => h) (Or.inl ⟨by rfl, ?_⟩) (by assumption) ?_
      rotate_left
      · intro w9 hS9
        try dsimp only at hS9
        go_split_ands
        go_simp
        try with_reducible rfl
      try simp only [Act.put, List.getElem_toArray, List.getElem_cons_succ, List.getElem_cons_zero, List.setIfInBounds_toArray, List.set_cons_zero, List.set_cons_succ]
      refine wpAnyH_take (i := 13) (v := ?_) rfl (by kernel_rfl) (by kernel_rfl) (by kernel_rfl) (fun _ _ _ h => h) (Or.inl ⟨by rfl, ?_⟩) (by assumption) ?_
      rotate_left
      · intro w9 hS9
        try dsimp only at hS9
        go_split_ands
        go_simp
        try with_reducible rfl
      try simp only [Act.put, List.getElem_toArray, List.getElem_cons_succ, List.getElem_cons_zero, List.setIfInBounds_toArray, List.set_cons_zero, List.set_cons_succ]
      refine wpAnyH_take (i := 14) (v := ?_) rfl (by kernel_rfl) (by kernel_rfl) (by kernel_rfl) (fun _ _ _ h => h) (Or.inl ⟨by rfl, ?_⟩) (by assumption) ?_
      rotate_left
      · intro w9 hS9
        try dsimp only at hS9
        go_split_ands
        go_simp
        try with_reducible rfl
      try simp only [Act.put, List.getElem_toArray, List.getElem_cons_succ, List.getElem_cons_zero, List.setIfInBounds_toArray, List.set_cons_zero, List.set_cons_succ]
      refine wpAnyH_take (i := 16) (v := ?_) rfl (by kernel_rfl) (by kernel_rfl) (by kernel_rfl) (fun _ _ _ h => h) (Or.inl ⟨by rfl, ?_⟩) (by assumption) ?_
      rotate_left
      · intro w9 hS9
        try dsimp only at hS9
        go_split_ands
        go_simp
        try with_reducible rfl
      try simp only [Act.put, List.getElem_toArray, List.getElem_cons_succ, List.getElem_cons_zero, List.setIfInBounds_toArray, List.set_cons_zero, List.set_cons_succ]
      refine wpAnyH_take (i := 17) (v := ?_) rfl (by kernel_rfl) (by kernel_rfl) (by kernel_rfl) (fun _ _ _ h => h) (Or.inl ⟨by rfl, ?_⟩) (by assumption) ?_
      rotate_left
      · intro w9 hS9
        try dsimp only at hS9
        go_split_ands
        go_simp
        try with_reducible rfl
      try simp only [Act.put, List.getElem_toArray, List.getElem_cons_succ, List.getElem_cons_zero, List.setIfInBounds_toArray, List.set_cons_zero, List.set_cons_succ]
      refine wpAnyH_take (i := 18) (v := ?_) rfl (by kernel_rfl) (by kernel_rfl) (by kernel_rfl) (fun _ _ _ h => h) (Or.inl ⟨by rfl, ?_⟩) (by assumption) ?_
      rotate_left
      · intro w9 hS9
        try dsimp only at hS9
        go_split_ands
        go_simp
        try with_reducible rfl
      try simp only [Act.put, List.getElem_toArray, List.getElem_cons_succ, List.getElem_cons_zero, List.setIfInBounds_toArray, List.set_cons_zero, List.set_cons_succ]
      refine wpAnyH_take (i := 19) (v := ?_) rfl (by kernel_rfl) (by kernel_rfl) (by kernel_rfl) (fun _ _ _ h => h) (Or.inl ⟨by rfl, ?_⟩) (by assumption) ?_
      rotate_left
      · intro w9 hS9
        try dsimp only at hS9
        go_split_ands
        go_simp
        try with_reducible rfl
      try simp only [Act.put, List.getElem_toArray, List.getElem_cons_succ, List.getElem_cons_zero, List.setIfInBounds_toArray, List.set_cons_zero, List.set_cons_succ]
      refine wpAnyH_ready (rs := [12]) (by kernel_rfl) (by simp) ?_
      refine AllReadyH.cons rfl (fun K hK => ?_) AllReadyH.nil
      go_simp
      refine (rused_any (HH.out.nil ((Frm.refl [] w1).drew)) HO.out).mono ?_
      rintro e2 w2 ⟨he2, hf20⟩
      rw [← HUU.out] at he2
      subst he2
      have hf2 : Frm [] w1 w2 := Frm.trans ((Frm.refl [] w1).drew) hf20 (by simp)
      refine hK.out _ _ ?_ (fun hHeld => ?_)
      · exact ⟨hf2.cell c0 (by simp), hf2.cell c2 (by simp)⟩
      clear hK K
      try simp only [Act.put, List.getElem_toArray, List.getElem_cons_succ, List.getElem_cons_zero, List.setIfInBounds_toArray, List.set_cons_zero, List.set_cons_succ]
      refine wpAnyH_take (i := 15) (v := ?_) rfl (by kernel_rfl) (by kernel_rfl) (by kernel_rfl) (fun _ _ _ h => h) (Or.inl ⟨by rfl, ?_⟩) (by assumption) ?_
      rotate_left
      · intro w9 hS9
        try dsimp only at hS9
        go_split_ands
        go_simp
        try with_reducible rfl
      try simp only [Act.put, List.getElem_toArray, List.getElem_cons_succ, List.getElem_cons_zero, List.setIfInBounds_toArray, List.set_cons_zero, List.set_cons_succ]
      refine wpAnyH_take (i := 20) (v := ?_) rfl (by kernel_rfl) (by kernel_rfl) (by kernel_rfl) (fun _ _ _ h => h) (Or.inl ⟨by rfl, ?_⟩) (by assumption) ?_
      rotate_left
      · intro w9 hS9
        try dsimp only at hS9
        go_split_ands
        go_simp
        try with_reducible rfl
      try simp only [Act.put, List.getElem_toArray, List.getElem_cons_succ, List.getElem_cons_zero, List.setIfInBounds_toArray, List.set_cons_zero, List.set_cons_succ]
      refine wpAnyH_take (i := 21) (v := ?_) rfl (by kernel_rfl) (by kernel_rfl) (by kernel_rfl) (fun _ _ _ h => h) (Or.inl ⟨by rfl, ?_⟩) (by assumption) ?_
      rotate_left
      · intro w9 hS9
        try dsimp only at hS9
        go_split_ands
        go_simp
        try with_reducible rfl
      try simp only [Act.put, List.getElem_toArray, List.getElem_cons_succ, List.getElem_cons_zero, List.setIfInBounds_toArray, List.set_cons_zero, List.set_cons_succ]
      refine wpAnyH_take (i := 22) (v := ?_) rfl (by kernel_rfl) (by kernel_rfl) (by kernel_rfl) (fun _ _ _ h => h) (Or.inl ⟨by rfl, ?_⟩) (by assumption) ?_
      rotate_left
      · intro w9 hS9
        try dsimp only at hS9
        go_split_ands
        go_simp
        try with_reducible rfl
      try simp only [Act.put, List.getElem_toArray, List.getElem_cons_succ, List.getElem_cons_zero, List.setIfInBounds_toArray, List.set_cons_zero, List.set_cons_succ]
      refine wpAnyH_done (by kernel_rfl) ?_ _

      have HF2 := Lib.hid hf2
      clear hf20 hf2 c0 c2 c6 iw
      go_wp2_with fail
      refine (HW.out _ (HH.out.hd.frm HF2.out (by simp))).mono ?_
      rintro e3 w3 ⟨rfl, hr3, hf3⟩
      have H3 := Lib.hid ((HH.out.nil HF2.out).write hf3 hr3)
      have F3 : Hid (Frm [d] w1 w3) := Lib.hid ((HF2.out.mono (by simp)).trans hf3 (fun x hx => .inl hx))
      clear hr3 hf3
      obtain ⟨nw, hnw⟩ : ∃ nw, nw = (writeM m).files.length := ⟨_, rfl⟩
      have hln : l.length = nw := by rw [H3.out.flen, hnw]
      have hfr3 := H3.out.fr
      rw [hln] at hfr3
      have HLN := Lib.hid hln
      have HNW := Lib.hid hnw
      have HNWL : Hid (nw ≤ 90000) := Lib.hid (by rw [hnw]; exact HNFW.out)
      have q1 := H3.out.hd.cell (i := 1) rfl
      have qf := H3.out.fr
      obtain ⟨fa, fc, hfv⟩ := qf.shape
      subst hfv
      rw [hln] at q1 hfr3
      have HFR3 := Lib.hid (hfr3.nil ((Frm.refl [] w3).alloc (.cells #[] 89)))
      have hd3 := H3.out.hd.lt
      have z1 := H3.out.hd.frozen 1
      clear hnw hln hfr3 qf
      go_wp2_with (first | (at_builtin; refine app_row rfl _ _ 73 89 _ 2 32 rfl Try.underlying73 infoFile rfl (by decide) (by decide) w3.heap.size 0 (.slice (some ⟨w3.heap.size, 0, none⟩) 0 0) [] rfl (owns_made0 w3 _ _) _ nw (fileC l) F rfl HFR3.out (oneCell_fileC _ H3.out.slices) nw (Nat.zero_add _) (by have := HNWL.out; omega) (by simp) ?_; intro a4 c4 w4 own4 hf4 hloc4; have fr4 : Frm [] w3 w4 := ((Frm.refl [] w3).alloc _).trans hf4 (by simp [Value.ownBlock])) | (at_builtin; refine app_row rfl _ _ 73 89 _ 2 32 rfl Try.underlying73 infoFile rfl (by decide) (by decide) w3.heap.size nw (.slice a4 nw c4) _ rfl (own4.alloc _) _ 1 [.slice none 0 0, .int .i64 0] [] rfl (rowV_cells (size := 2) (RowAt.made w4 89 [.slice none 0 0, .int .i64 0] _ rfl) rfl (Nat.le_refl _) (by decide) (by simp)) (by intro u hu; simp at hu; rcases hu with rfl | rfl <;> rfl) (nw + 1) rfl (by have := HNWL.out; omega) (by simp; have := fr4.size; omega) ?_; intro a5' c5' w5 own5 hf5 hloc5; have fr5 : Frm [] w3 w5 := frm_own (fr4.alloc _) (own4.alloc _) (Nat.le_refl _) hf5; have q5 := fr5.cell q1 (by simp); have z5 := fr5.frz q1 z1 (by simp)) | fail)
      obtain ⟨h6, f6⟩ := file_end H3.out fr5 own5 HLN.out
      have hp6 : Calls Try.prog 59 #[.pointer (some ⟨d, 0, none⟩), .agg #[.int .i64 1, str s, str [], .int .i64 (nw : Int)]] (w5.setCell ⟨d, 1, none⟩ (.slice a5' (nw + 1) c5')) fun e w' => (e = .returned (.tuple #[]) ∧ ∃ dv' ov', RDv w' F d (opM { writeM m with files := (writeM m).files ++ [⟨[], 0⟩] } ⟨1, s, [], nw⟩) (.slice a5' (nw + 1) c5') dv' sv ov' (l ++ [(.slice none 0 0, ⟨[], 0⟩)])) ∧ Frm [d] (w5.setCell ⟨d, 1, none⟩ (.slice a5' (nw + 1) c5')) w' := rperf_any h6 ⟨1, s, [], nw⟩ (.inl rfl) (by show (writeM m).dir.length ≤ 900; rw [writeM_dir]; have := HD64.out; omega) (by show (writeM m).ops.length ≤ 100000; rw [writeM_ops]; have := HO.out.few2; have := HN0.out; omega)
      refine hp6.mono ?_
      rintro e6 w6 ⟨⟨rfl, dv6, ov6, h6x⟩, hf6⟩
      have e9x : opM { writeM m with files := (writeM m).files ++ [⟨[], 0⟩] } ⟨1, s, [], nw⟩ = newM (writeM m) s := by rw [HNW.out]; rfl
      rw [e9x] at h6x
      have H6 := Lib.hid h6x
      have F6 : Hid (Frm [d] w1 w6) := Lib.hid ((F3.out.trans f6 (fun x hx => .inl hx)).trans hf6 (fun x hx => .inl hx))
      have HIY : Hid (nw < (newM (writeM m) s).files.length) := Lib.hid (by rw [HNW.out]; simp [newM])
      have HDB : Hid ((fileAt (newM (writeM m) s).files nw).data.length ≤ 4194304) := Lib.hid (by rw [HNW.out]; show (fileAt ((writeM m).files ++ [⟨[], 0⟩]) (writeM m).files.length).data.length ≤ _; rw [fileAt_new]; exact Nat.zero_le _)
      have HNFX : Hid ((newM (writeM m) s).files.length ≤ 100000) := Lib.hid (by have := HNFW.out; simp [newM]; omega)
      clear h6 f6 hp6 h6x hf6 e9x own4 hf4 hloc4 fr4 own5 hf5 hloc5 fr5 q5 z5 q1 z1 hd3
      obtain ⟨nf, hnf⟩ : ∃ nf, nf = (newM (writeM m) s).files.length := ⟨_, rfl⟩
      have hnl : (l ++ [(Value.slice none 0 0, (⟨[], 0⟩ : FM))]).length = nf := by rw [H6.out.flen, hnf]
      obtain ⟨a5, c5, hl5⟩ := H6.out.lget HIY.out
      have hdat := H6.out.fd _ (List.mem_of_getElem? hl5)
      have hnfl : nf ≤ 100000 := by rw [hnf]; exact HNFX.out
      have hif : nw < nf := by rw [hnf]; exact HIY.out
      obtain ⟨dl, hdl⟩ : ∃ dl, dl = (fileAt (newM (writeM m) s).files nw).data.length := ⟨_, rfl⟩
      have hdl9 : dl ≤ 4194304 := by rw [hdl]; exact HDB.out
      have HDATA : Hid (RowV w6 F (.slice a5 dl c5) dl 1 (byt (fileAt (newM (writeM m) s).files nw).data)) := Lib.hid (by rw [hdl]; exact hdat)
      have HL5 : Hid ((l ++ [(Value.slice none 0 0, (⟨[], 0⟩ : FM))])[nw]? = some (.slice a5 dl c5, fileAt (newM (writeM m) s).files nw)) := Lib.hid (by rw [hdl]; exact hl5)
      have e1 := H6.out.hd.cell (i := 1) rfl
      have hfr := H6.out.fr
      rw [hnl] at hfr
      have HFR := Lib.hid (hfr.nil ((Frm.refl [] w6).alloc (.cells #[] 89)))
      have HNL := Lib.hid hnl
      have HNFL := Lib.hid hnfl
      have HDL := Lib.hid hdl
      have HDL9 := Lib.hid hdl9
      have hdlt := H6.out.hd.lt
      have i6 : (nw : Int) < (nf : Int) := by omega
      have i7 : (0 : Int) ≤ (nw : Int) := by omega
      have i8 : (nf : Int) ≤ 9223372036854775807 := by omega
      have HBT : Hid (RowV w6 F (.slice ba k2 bc) k2 1 (byt (b.take k2))) := Lib.hid (cut_row (HB0.out.frm F6.out HH.out.mine) HKN.out)
      have hpos : 0 < nf := by omega
      have HPOS := Lib.hid hpos
      clear hdat hl5 hfr hnl hnfl hif hdl hdl9 hpos hnf
      go_wp2_with (first | (at_builtin; refine app_row rfl _ _ 73 89 _ 2 32 rfl Try.underlying73 infoFile rfl (by decide) (by decide) w6.heap.size 0 (.slice (some ⟨w6.heap.size, 0, none⟩) 0 0) [] rfl (owns_made0 w6 _ _) _ nf (fileC (l ++ [(Value.slice none 0 0, (⟨[], 0⟩ : FM))])) F rfl HFR.out (oneCell_fileC _ H6.out.slices) nf (Nat.zero_add _) (by have := HNFL.out; omega) (by simp) ?_; intro a9 c9 w9 own9 hf9 hloc9) | fail)
      have fr9 : Frm [] w6 w9 := ((Frm.refl [] w6).alloc _).trans hf9 (by simp [Value.ownBlock])
      obtain ⟨g9, cc9, e9, hg9, hc9, hm9, row9⟩ := ownsB_some own9 HPOS.out
      simp only [Value.slice.injEq] at e9
      obtain ⟨rfl, -, rfl⟩ := e9
      obtain ⟨k0, k1⟩ := fileC_get HL5.out
      have y0 := row9.cell k0
      have D9 := Lib.hid (H6.out.nil fr9)
      have x1 := D9.out.hd.frozen 1
      have e1' := D9.out.hd.cell (i := 1) rfl
      have hdg : d ≠ g9 := by omega
      have FR9 := Lib.hid fr9
      have OW9 := Lib.hid own9
      have HG9 := Lib.hid hg9
      have ROW9 := Lib.hid row9
      have g9l : g9 < w9.heap.size := (own9.lt g9 rfl).2
      clear own9 hf9 hloc9 fr9 k0 k1 row9 e1 hc9 hm9 hdlt hg9
      go_wp2_with (first | (at_builtin; refine app_row rfl _ _ 27 5 _ 1 1 rfl Try.underlying27 infoB rfl (by decide) (by decide) w9.heap.size 0 (.slice (some ⟨w9.heap.size, 0, none⟩) 0 0) [] rfl (owns_made0 w9 _ _) (.slice a5 dl c5) dl (byt (fileAt (newM (writeM m) s).files nw).data) F rfl (HDATA.out.nil (FR9.out.alloc _)) (oneCell_byt _) dl (Nat.zero_add _) (by have := HDL9.out; omega) (by simp) ?_; intro a11 c11 w11 own11 hf11 hloc11; have fr11 : Frm [] w9 w11 := ((Frm.refl [] w9).alloc _).trans hf11 (by simp [Value.ownBlock])) | (at_builtin; refine app_row rfl _ _ 27 5 _ 1 1 rfl Try.underlying27 infoB rfl (by decide) (by decide) w9.heap.size dl (.slice a11 dl c11) _ rfl own11 (.slice ba k2 bc) k2 (byt (b.take k2)) F rfl (HBT.out.nil (FR9.out.trans fr11 (by simp))) (oneCell_byt _) (dl + k2) rfl (by have := HDL9.out; have := HNBL.out; have := HKN.out; omega) fr11.size ?_; intro a12 c12 w12 own12 hf12 hloc12; have fr12 : Frm [] w9 w12 := frm_own fr11 own11 (Nat.le_refl _) hf12; have z9 := fr12.frz y0 (ROW9.out.frozen _) (by simp); have y9 := fr12.cell y0 (by simp); have x9 := fr12.frz e1' x1 (by simp); have e9 := fr12.cell e1' (by simp)) | fail)
      have HE := Lib.hid (app_end (b := (b.take k2)) H6.out FR9.out OW9.out HG9.out (by rw [← HDL.out]; exact HL5.out) HNL.out fr12 own12 (by rw [← HDL.out]; rw [List.length_take, Nat.min_eq_left (by rw [← HNB.out]; exact HKN.out)]))
      clear z9 y9 x9 e9 own11 hf11 hloc11 own12 hf12 hloc12
      try go_wp2_with fail
      go_ret
      rw [show cutB true b = b.take k2 from by rw [HK2.out]; rfl]
      rw [← HNW.out]
      exact ⟨⟨rfl, HE.out.1⟩, F6.out.trans HE.out.2 (fun x hx => .inl hx)⟩
end

end Go.Proofs.Ytkebdgbjgbcneaa
