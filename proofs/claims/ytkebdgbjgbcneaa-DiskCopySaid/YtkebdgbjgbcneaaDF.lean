/- Contract of change of the program's disk. -/
import Derived.Test.YtkebdgbjgbcneaaDE
namespace Go.Proofs.Ytkebdgbjgbcneaa
open Go.RowKit Go.Maps

theorem opC_three (bs : Nat → Nat) (o : OpM) : ∃ c0 c1 c2, opC bs o = [c0, c1, c2] ∧ (∀ u ∈ [c0, c1, c2], u.oneCell' = true) := by
  unfold opC
  split
  · exact ⟨_, _, _, rfl, by simp [Value.oneCell']⟩
  · split
    · exact ⟨_, _, _, rfl, by simp [Value.oneCell']⟩
    · exact ⟨_, _, _, rfl, by simp [Value.oneCell']⟩
theorem infoOp : (Try.prog.info? 65).map (fun i => (i.zero, i.size, i.bytes)) = some (some (.agg #[str [], str [], .pointer none]), 3, 40) := by kernel_rfl

section
variable {w : World} {d b1 b2 N : Nat} {pv : Value} {bs : Nat → Nat} {vs : Nat → Value} {live : List Nat} {m : DM}
theorem DR.pend_ne (h : DR w d b1 b2 pv bs vs live m) : ∀ k, pv.ownBlock = some k → k ≠ d ∧ k ≠ b1 ∧ k ≠ b2 ∧ k ∉ fileB bs vs live := fun k hk => by
  refine ⟨fun e => ?_, fun e => own_map_ne h.pend h.m1 (e ▸ hk), fun e => own_map_ne h.pend h.m2 (e ▸ hk), fun hm => ?_⟩
  · have := own_row_ty h.pend h.hd (e ▸ hk)
    exact absurd this (by decide)
  · rcases mem_fileB.1 hm with ⟨i, hi, e⟩ | ⟨i, hi, e⟩
    · have := own_row_ty h.pend (h.files.at_ i hi) (e ▸ hk)
      exact absurd this (by decide)
    · have := own_buf_ty h.pend (h.files.data i hi) hk e
      exact absurd this (by decide)
theorem DR.d_ne (h : DR w d b1 b2 pv bs vs live m) : b1 ≠ d ∧ b2 ≠ d ∧ d ∉ fileB bs vs live := by
  refine ⟨(h.m1.ne_row h.hd).symm, (h.m2.ne_row h.hd).symm, fun hm => ?_⟩
  rcases mem_fileB.1 hm with ⟨i, hi, e⟩ | ⟨i, hi, e⟩
  · have := row_row_ty h.hd (e ▸ h.files.at_ i hi)
    exact absurd this (by decide)
  · have := buf_row_ty (h.files.data i hi) h.hd e
    exact absurd this (by decide)
theorem DR.map_ne (h : DR w d b1 b2 pv bs vs live m) : b1 ∉ fileB bs vs live ∧ b2 ∉ fileB bs vs live := by
  refine ⟨fun hm => ?_, fun hm => ?_⟩
  · rcases mem_fileB.1 hm with ⟨i, hi, e⟩ | ⟨i, hi, e⟩
    · exact h.m1.ne_row (h.files.at_ i hi) e
    · exact buf_map_ne (h.files.data i hi) h.m1 e
  · rcases mem_fileB.1 hm with ⟨i, hi, e⟩ | ⟨i, hi, e⟩
    · exact h.m2.ne_row (h.files.at_ i hi) e
    · exact buf_map_ne (h.files.data i hi) h.m2 e

set_option linter.unusedSimpArgs false in
set_option maxRecDepth 100000 in
set_option maxHeartbeats 2000000 in
theorem change_any (h : DR w d b1 b2 pv bs vs live m) (hdir : m.dir.length ≤ 1000) (hops : m.ops.length ≤ 1000) {n0 : Nat} (o : OpM) (hok : OpOk n0 o) (hlive : o.kind ≠ 3 → o.file ∈ live) (hlv : ∀ p ∈ doneD m.dir o, p.2 ∈ live) :
    Calls Try.prog 32 #[.pointer (some ⟨d, 0, none⟩), .agg (opC bs o).toArray] w fun e w' => e = .returned (.tuple #[]) ∧ ∃ pv', DR w' d b1 b2 pv' bs vs live (opM m o) ∧
      Frm (d :: b1 :: pv.ownBlock.toList) w w' ∧ (∀ k, pv'.ownBlock = some k → pv.ownBlock = some k ∨ w.heap.size ≤ k) := by
  obtain ⟨c0, c1, c2, hc, hone⟩ := opC_three bs o
  obtain ⟨i0, hi, hz0, hz1, hz2⟩ := info_parts infoOp
  obtain ⟨a, cap, rfl, hl⟩ := owns_shape h.pend
  have hdn := h.d_ne
  have hpn := h.pend_ne
  have hdl := h.hd.lt
  have hb1 := h.m1.lt
  have f0 : Frm [] w (w.alloc (.cells #[c0, c1, c2] 65)) := (Frm.refl [] w).alloc _
  have r0 := RowAt.made w 65 [c0, c1, c2] #[c0, c1, c2] rfl
  have hperf : ∀ W, MapD W b1 bs m.dir → Calls Try.prog 37 #[.agg #[c0, c1, c2], .map (some b1)] W fun e w' => e = .returned (.tuple #[]) ∧ MapD w' b1 bs (doneD m.dir o) ∧ Frm [b1] W w' := fun W hm => by
    have := perform_any hm o hok hdir
    rwa [hc] at this
  rw [hc]
  have HC := Lib.hid hc
  have HONE := Lib.hid hone
  have HP := Lib.hid hperf
  have HH := Lib.hid h
  have HDN := Lib.hid hdn
  have HPN := Lib.hid hpn
  have HLV := Lib.hid hlive
  have HLV2 := Lib.hid hlv
  have F0 := Lib.hid f0
  have R0 := Lib.hid r0
  have M0 := Lib.hid (h.m1.frm f0 (by simp))
  have HD0 := Lib.hid (h.hd.frm f0 (by simp))
  have hne1 : w.heap.size ≠ d := by omega
  have hne2 : w.heap.size ≠ b1 := by omega
  have HN1 := Lib.hid hne1
  have HN2 := Lib.hid hne2
  clear hc hone hperf h hok hlive hlv f0 r0 hdn hpn
  go_enter Try.func32, Try.ntmps32
  go_wp2_with fail
  generalize w.alloc (.cells #[c0, c1, c2] 65) = w1 at *
  obtain ⟨x, hx⟩ : ∃ x, x = w.heap.size := ⟨_, rfl⟩
  have HX := Lib.hid hx
  rw [← hx] at R0 HN1 HN2 ⊢
  have q0 := R0.out.cell (i := 0) rfl
  have q1 := R0.out.cell (i := 1) rfl
  have q2 := R0.out.cell (i := 2) rfl
  have d1 := HD0.out.cell (i := 1) rfl
  clear hx hne1 hne2
  go_region_held3 (fun w' => w'.cell? ⟨x, 0, none⟩ = some c0 ∧ w'.cell? ⟨x, 1, none⟩ = some c1 ∧ w'.cell? ⟨x, 2, none⟩ = some c2 ∧ w'.cell? ⟨d, 1, none⟩ = some (.map (some b1))) (first | exact ⟨q0, q1, q2, d1⟩ | exact ⟨p0, p1, p2, e1⟩) ((go_at_call 37; refine (HP.out _ (M0.out.frm (by first | exact Frm.refl [] w1 | exact (Frm.refl [] w1).drew | exact (Frm.refl [] w1).drewN _) (by simp))).mono ?_; rintro e3 w3 ⟨rfl, hm3, hf3⟩; have fr3 : Frm [b1] w1 w3 := Frm.trans (by first | exact Frm.refl [b1] w1 | exact (Frm.refl [b1] w1).drew | exact (Frm.refl [b1] w1).drewN _) hf3 (fun x hx => .inl hx); have p0 := fr3.cell q0 (by simpa using HN2.out); have p1 := fr3.cell q1 (by simpa using HN2.out); have p2 := fr3.cell q2 (by simpa using HN2.out); have e1 := fr3.cell d1 (by simpa using HDN.out.1.symm)))
  all_goals
    have M3 := Lib.hid hm3
    have F3 : Hid (Frm [b1] w w3) := Lib.hid ((F0.out.mono (by simp)).trans fr3 (fun x hx => .inl hx))
    have R3 := Lib.hid (R0.out.frm fr3 (by simpa using HN2.out))
    clear p0 p1 p2 e1 q0 q1 q2 d1 hf3 hm3
    go_wp2_with fail
    have HD3 := Lib.hid (HD0.out.frm fr3 (by simpa using HDN.out.1.symm))
    have q0 := R3.out.cell (i := 0) rfl
    have q1 := R3.out.cell (i := 1) rfl
    have q2 := R3.out.cell (i := 2) rfl
    have d3 := HD3.out.cell (i := 3) rfl
    have P3 := Lib.hid (owns_frm HH.out.pend F3.out (fun k hk => by simpa using (HPN.out k hk).2.1))
    have hsz3 := F3.out.size
    have hdx : d ≠ w3.heap.size := by have := HD3.out.lt; omega
    have hdl3 := HD3.out.lt
    clear fr3
    go_region_law (refine step_append_lies _ rfl (.tmp 14) (.tmp 16) 56 rfl 0 65 i0 _ 3 40 Try.underlying56 hi hz0 hz1 hz2 rfl (by decide) (.slice a m.ops.length cap) m.ops.length (opsC bs m.ops) rfl (P3.out.drew.alloc _) ⟨w3.heap.size, 0, none⟩ 1 1 [c0, c1, c2] rfl rfl (cells_new w3 _ _) HONE.out (by decide) (by unfold maxLen; omega) (by omega) (Nat.zero_le _) _ rfl ?_; intro g cap' w4 hown4 hgr4 hw4 hlt4; have hd4 := RowAt.of_block (HD3.out.alloc (.cells #[c0, c1, c2] 65)) (hgr4.block d (by simp; omega) (fun e => (HPN.out d e.symm).1 rfl)); have y4 := hd4.cell (i := 3) rfl; have z4 := hd4.frozen 3)
    all_goals
      go_end0
      have fA : Frm (d :: b1 :: (Value.slice a m.ops.length cap).ownBlock.toList) w (w4.setCell ⟨d, 3, none⟩ (.slice (some ⟨g, 0, none⟩) (m.ops.length + 1) cap')) :=
        ((((F3.out.mono (by simp)).alloc _).drew).grown hgr4 (fun k hk => .inl (by simp [hk]))).setCell (p := ⟨d, 3, none⟩) (.inl (by simp)) _
      have fB : Frm (d :: (Value.slice a m.ops.length cap).ownBlock.toList) w3 (w4.setCell ⟨d, 3, none⟩ (.slice (some ⟨g, 0, none⟩) (m.ops.length + 1) cap')) :=
        ((((Frm.refl _ w3).alloc _).drew).grown hgr4 (fun k hk => .inl (by simp [hk]))).setCell (p := ⟨d, 3, none⟩) (.inl (by simp)) _
      have hgd : g ≠ d := by
        rcases hw4 with h9 | h9
        · exact (HPN.out g h9).1
        · intro e
          simp at h9
          omega
      have hcl : opsC bs (m.ops ++ [o]) = opsC bs m.ops ++ [c0, c1, c2] := by rw [opsC_snoc, HC.out]
      refine ⟨rfl, _, ⟨hd4.setCell 3 _, M3.out.frm fB ?_, HH.out.m2.frm fA ?_, HH.out.ne, ?_, HH.out.files.frm fA ?_, ⟨HLV2.out, HH.out.live.safe, ?_⟩⟩, fA, ?_⟩
      · intro hm
        rcases List.mem_cons.1 hm with h9 | h9
        · exact HDN.out.1 h9
        · exact (HPN.out b1 (by simpa using h9)).2.1 rfl
      · intro hm
        rcases List.mem_cons.1 hm with h9 | h9
        · exact HDN.out.2.1 h9
        · rcases List.mem_cons.1 h9 with h8 | h8
          · exact HH.out.ne h8.symm
          · exact (HPN.out b2 (by simpa using h8)).2.2.1 rfl
      · show World.ownsRow _ 0 _ 3 _ (m.ops ++ [o]).length (opsC bs (m.ops ++ [o]))
        rw [hcl, List.length_append, List.length_singleton]
        exact owns_frm hown4 (fp := [d]) ((Frm.refl [d] w4).setCell (p := ⟨d, 3, none⟩) (.inl (by simp)) _) (fun k hk => by
          simp only [Value.ownBlock, Option.some.injEq] at hk
          subst hk
          simpa using hgd)
      · intro k hk hm
        rcases List.mem_cons.1 hm with h9 | h9
        · exact HDN.out.2.2 (h9 ▸ hk)
        · rcases List.mem_cons.1 h9 with h8 | h8
          · exact HH.out.map_ne.1 (h8 ▸ hk)
          · exact (HPN.out k (by simpa using h8)).2.2.2 hk
      · intro o9 ho9 hk9
        rcases List.mem_append.1 ho9 with h9 | h9
        · exact HH.out.live.ops o9 h9 hk9
        · rw [List.mem_singleton] at h9
          subst h9
          exact HLV.out hk9
      · intro k hk
        simp only [Value.ownBlock, Option.some.injEq] at hk
        subst hk
        rcases hw4 with h9 | h9
        · exact .inl h9
        · right
          simp at h9
          omega

end

end Go.Proofs.Ytkebdgbjgbcneaa
