/- Contract of Append of the program's disk: a new file; the errors; all together. -/
import Derived.Test.YtkebdgbjgbcneaaDI
namespace Go.Proofs.Ytkebdgbjgbcneaa
open Go.RowKit Go.Maps
section
variable {w : World} {d b1 b2 N : Nat} {pv : Value} {bs : Nat → Nat} {vs : Nat → Value} {live : List Nat} {m : DM}
set_option linter.unusedSimpArgs false in
set_option maxRecDepth 100000 in
set_option maxHeartbeats 4000000 in
theorem append_none (h : DR w d b1 b2 pv bs vs live m) (ho : DOk N m) (hN : N ≤ 900) {s : Nm} (hg : goodN s = true) (hoff : m.off = false) {b : List UInt8} (hfull : fullM m s b = false) {v : Value} (hb : BytesV w v b) (hsrc : ∀ k, v.ownBlock = some k → k ∉ fpR d b1 b2 pv bs vs live) (hfd : findD m.dir s = none) :
    Calls Try.prog 10 #[.pointer (some ⟨d, 0, none⟩), str s, v] w fun e w' => e = .returned (.int .i64 (if (writeM m).off = true then 25 else 0)) ∧ PDStep w w' d (fpR d b1 b2 pv bs vs live) (putM (writeM m) s b) := by
  obtain ⟨a2, c2, rfl, hlc, hcm⟩ := hb.shape
  have hput : putM (writeM m) s b = addM (newM (writeM m) s) (writeM m).files.length (cutB (writeM m).off b) := by rw [putM, writeM_dir, hfd]
  rw [hput]
  have hlk := h.m1.look (goodN_max hg)
  rw [hfd] at hlk
  have hlk' : (Instr.lookup 55 (.map (some b1)) (str s) false).run Try.prog w = .ok (.pointer none) w := hlk
  have hlen := fun ty => h.m1.len ty
  have hv := valid_any s w (goodN_max hg)
  rw [hg] at hv
  have hub := ho.used
  have hcap := ho.cap
  have hnf : ¬ (m.cap < usedD m.files m.dir + b.length) := by
    intro h9
    rw [fullM] at hfull
    simp [h9] at hfull
  have hd64 : m.dir.length < 64 := by
    rw [fullM] at hfull
    simp [hfd] at hfull
    omega
  have i6 : ¬ (64 : Int) ≤ (m.dir.length : Int) := by omega
  have c0 := h.hd.cell (i := 0) rfl
  have c1 := h.hd.cell (i := 1) rfl
  have c6 := h.hd.cell (i := 6) rfl
  rw [hoff] at c6
  obtain ⟨U, hU⟩ : ∃ U, U = usedD m.files m.dir := ⟨_, rfl⟩
  have HUU := Lib.hid hU
  rw [← hU] at hub hnf
  have iw : IntKind.i64.wrap ((m.cap : Int) - (U : Int)) = (m.cap : Int) - (U : Int) := IntWalk.i64_in _ (by omega)
  have iw2 : RowKit.wrap64 ((m.cap : Int) - (U : Int)) = (m.cap : Int) - (U : Int) := by rw [← IntWalk.i64_left]; exact iw
  have i1 : ¬ ((m.cap : Int) - (U : Int) < (b.length : Int)) := by omega
  have i2 : (b.length : Int) ≤ (c2 : Int) := by omega
  have i3 : (c2 : Int) ≤ 9223372036854775807 := by unfold maxLen at hcm; omega
  have hwr := fun W (hr : RowAt W d 58 (hdC m (.map (some b1)) (.map (some b2)) pv)) => write_any hr ho.armed
  have HW := Lib.hid hwr
  have HH := Lib.hid h
  have HO := Lib.hid ho
  have HOW := Lib.hid ho.write
  have HB := Lib.hid hb
  have HS := Lib.hid hsrc
  have HG := Lib.hid hg
  have HND := Lib.hid hN
  have HD64 := Lib.hid hd64
  obtain ⟨k2, hk2⟩ : ∃ k, k = b.length / 2 := ⟨_, rfl⟩
  have HK2 := Lib.hid hk2
  have iq : (b.length : Int).tdiv 2 = (k2 : Int) := by rw [hk2]; exact (Int.ofNat_tdiv b.length 2).symm
  have i4 : (k2 : Int) ≤ (c2 : Int) := by omega
  have i5 : (0 : Int) ≤ (k2 : Int) := by omega
  have HL2 : Hid (k2 ≤ b.length) := Lib.hid (by omega)
  have HBL : Hid (b.length ≤ 4194304) := Lib.hid (by omega)
  obtain ⟨off, hoff'⟩ : ∃ off, off = (writeM m).off := ⟨_, rfl⟩
  rw [← hoff'] at HW ⊢
  clear h ho hN hg hoff hfull hb hsrc hfd hput hlk hub hcap hnf hU hwr hlc hcm hk2 hoff' hd64
  cases off with
  | false =>
    go_enter Try.func10, Try.ntmps10
    go_wp2_with fail
    refine hv.mono ?_
    rintro e1 w1 ⟨rfl, rfl⟩
    clear hv
    go_wp2_with fail
    go_region_held3 (fun w' => w'.cell? ⟨d, 0, none⟩ = some (.int .i64 (m.cap : Int))) (first | exact c0 | exact hf2.cell c0 (by simp)) ((go_at_call 30; refine (used_any (HH.out.hd.frm (by first | exact Frm.refl [] w1 | exact (Frm.refl [] w1).drew | exact (Frm.refl [] w1).drewN _) (by simp)) (HH.out.m1.frm (by first | exact Frm.refl [] w1 | exact (Frm.refl [] w1).drew | exact (Frm.refl [] w1).drewN _) (by simp)) (HH.out.files.frm (by first | exact Frm.refl [] w1 | exact (Frm.refl [] w1).drew | exact (Frm.refl [] w1).drewN _) (by simp)) HH.out.live.dir HO.out).mono ?_; rintro e2 w2 ⟨he2, hf20⟩; rw [← HUU.out] at he2; subst he2; have hf2 : Frm [] w1 w2 := Frm.trans (by first | exact Frm.refl [] w1 | exact (Frm.refl [] w1).drew | exact (Frm.refl [] w1).drewN _) hf20 (by simp)))
    all_goals
      have HF2 := Lib.hid hf2
      clear hf20 hf2
      go_wp2_with fail
      refine (HW.out _ (HH.out.hd.frm HF2.out (by simp))).mono ?_
      rintro e3 w3 ⟨rfl, hr3, hf3⟩
      have H3 := Lib.hid ((HH.out.frm HF2.out (by simp)).head hr3 hf3 (writeM_files m) (writeM_dir m) (writeM_safe m) (writeM_ops m))
      have F3 : Hid (Frm [d] w1 w3) := Lib.hid ((HF2.out.mono (by simp)).trans hf3 (fun x hx => .inl hx))
      obtain ⟨n, hn⟩ : ∃ n, n = (writeM m).files.length := ⟨_, rfl⟩
      have HN := Lib.hid hn
      have fa : Frm [] w3 (w3.alloc (.cells #[.slice none 0 0, .int .i64 0] 62)) := (Frm.refl [] w3).alloc _
      have hgr := H3.out.grow HOW.out fa (Nat.le_refl _) (RowAt.made w3 62 [.slice none 0 0, .int .i64 0] #[.slice none 0 0, .int .i64 0] rfl)
      rw [← hn] at hgr
      have hch := change_any hgr (by show (writeM m).dir.length ≤ 1000; rw [writeM_dir]; have := HD64.out; omega) (by show (writeM m).ops.length ≤ 1000; rw [writeM_ops]; have := HO.out.few2; have := HND.out; omega) (n0 := n + 1) ⟨1, s, [], n⟩ (.inl ⟨rfl, HG.out, Nat.lt_succ_self _⟩) (fun _ => List.mem_cons_self) (fun p hp => by
        have hp' : p ∈ withD (writeM m).dir s n := hp
        rcases mem_withD.1 hp' with rfl | ⟨hp9, _⟩
        · exact List.mem_cons_self
        · exact List.mem_cons_of_mem _ (H3.out.live.dir p hp9))
      rw [show opC (upd bs n w3.heap.size) ⟨1, s, [], n⟩ = [str [], str s, .pointer (some ⟨w3.heap.size, 0, none⟩)] from by simp [opC, upd_same]] at hch
      have HGR := Lib.hid hgr
      have HCH := Lib.hid hch
      have FA := Lib.hid fa
      have hsz3 := F3.out.size
      clear hr3 hf3 c0 c1 c6 hlk' iw iw2 hlen hgr hch fa hn
      go_wp2_with fail
      refine HCH.out.mono ?_
      rintro e4 w4 ⟨rfl, pv4, h4, hf4, hp4⟩
      obtain ⟨g, hg⟩ : ∃ g, g = w3.heap.size := ⟨_, rfl⟩
      rw [← hg] at h4 hsz3 ⊢
      have hat := h4.files.at_ n List.mem_cons_self
      have hfn : fileAt (opM { writeM m with files := (writeM m).files ++ [⟨[], 0⟩] } ⟨1, s, [], n⟩).files n = ⟨[], 0⟩ := by
        show fileAt ((writeM m).files ++ [⟨[], 0⟩]) n = _
        rw [HN.out, fileAt_new]
      rw [hfn, upd_same, upd_same] at hat
      have g0 := hat.cell (i := 0) rfl
      have z0 := hat.frozen 0
      have H4 := Lib.hid h4
      have HAT := Lib.hid hat
      have HFN := Lib.hid hfn
      have HG3 := Lib.hid hg
      have HP4 := Lib.hid hp4
      have hsz4 : g < w4.heap.size := by have := hat.lt; omega
      have F4 : Hid (Frm (d :: b1 :: pv.ownBlock.toList) w1 w4) := Lib.hid (((F3.out.mono (by simp)).trans FA.out (by simp)).trans hf4 (fun x hx => .inl hx))
      have hB4 := HB.out.frm F4.out (fun k hk hm => HS.out k hk (by
        rcases List.mem_cons.1 hm with rfl | hm
        · exact fpR_d
        · rcases List.mem_cons.1 hm with rfl | hm
          · exact fpR_1
          · exact fpR_p (by simpa using hm)))
      have HB4 := Lib.hid hB4
      have HBC : Hid (b.length = b.length ∧ b.length ≤ b.length) := Lib.hid ⟨rfl, Nat.le_refl _⟩
      clear h4 hf4 hp4 hat hfn hg hB4
      go_wp2_with (first | (at_builtin; refine app_buf rfl _ _ rfl 0 b.length (.slice none 0 0) [] rfl (BufAt.nil _) (.slice a2 b.length c2) b rfl HB4.out (by have := HBC.out.1; omega) (by have := HBL.out; have := HBC.out.2; omega) ?_; intro a9 c9 w9 hown9 hf9 hloc9; have r9 := HAT.out.frm hf9 (by simp [Value.ownBlock]); have y9 := r9.cell (i := 0) rfl; have z9 := r9.frozen 0) | fail)
      go_wp2_with fail
      go_ret
      obtain ⟨R1, R2⟩ := H4.out.addB (i := n) (b := b) (a9 := a9) (n := b.length) (c9 := c9) (w9 := w9) List.mem_cons_self (by rw [HFN.out]; exact hown9) (by rw [upd_same]; exact hf9) (by rw [upd_same]; exact hloc9)
      have e9 : opM { writeM m with files := (writeM m).files ++ [⟨[], 0⟩] } ⟨1, s, [], n⟩ = newM (writeM m) s := by rw [HN.out]; rfl
      rw [upd_same, e9] at R1
      rw [upd_same] at R2
      refine ⟨rfl, ?_⟩
      have hFF : Frm (fpR d b1 b2 pv bs vs live) w1 (w9.setCell ⟨g, 0, none⟩ (.slice a9 b.length c9)) := (F4.out.mono (fun x hx => by
        rcases List.mem_cons.1 hx with rfl | hx
        · exact fpR_d
        · rcases List.mem_cons.1 hx with rfl | hx
          · exact fpR_1
          · exact fpR_p (by simpa using hx))).trans R2 (fun x hx => by
        right
        rcases List.mem_cons.1 hx with rfl | hx
        · exact hsz3
        · rw [upd_same] at hx; simp [Value.ownBlock] at hx)
      rw [show cutB false b = b from rfl, ← HN.out]
      refine PDStep.mk R1 hFF fpR_d fpR_1 (.inl fpR_2) (fun k hk => ?_) (fun j hj => ?_) (fun j hj k hk => ?_)
      · rcases HP4.out k hk with h9 | h9
        · exact .inl (fpR_p h9)
        · exact .inr (by simp at h9; have := F3.out.size; omega)
      · by_cases e : j = n
        · rw [e, upd_same]; exact .inr hsz3
        · rw [upd_other _ _ e]
          rcases List.mem_cons.1 hj with h9 | h9
          · exact absurd h9 e
          · exact .inl (fpR_b h9)
      · by_cases e : j = n
        · rw [e, upd_same] at hk
          rcases hloc9 k hk with h9 | h9
          · simp [Value.ownBlock] at h9
          · exact .inr (by omega)
        · rw [upd_other _ _ e, upd_other _ _ e] at hk
          rcases List.mem_cons.1 hj with h9 | h9
          · exact absurd h9 e
          · exact .inl (fpR_v h9 hk)
  | true =>
    go_enter Try.func10, Try.ntmps10
    go_wp2_with fail
    refine hv.mono ?_
    rintro e1 w1 ⟨rfl, rfl⟩
    clear hv
    go_wp2_with fail
    go_region_held3 (fun w' => w'.cell? ⟨d, 0, none⟩ = some (.int .i64 (m.cap : Int))) (first | exact c0 | exact hf2.cell c0 (by simp)) ((go_at_call 30; refine (used_any (HH.out.hd.frm (by first | exact Frm.refl [] w1 | exact (Frm.refl [] w1).drew | exact (Frm.refl [] w1).drewN _) (by simp)) (HH.out.m1.frm (by first | exact Frm.refl [] w1 | exact (Frm.refl [] w1).drew | exact (Frm.refl [] w1).drewN _) (by simp)) (HH.out.files.frm (by first | exact Frm.refl [] w1 | exact (Frm.refl [] w1).drew | exact (Frm.refl [] w1).drewN _) (by simp)) HH.out.live.dir HO.out).mono ?_; rintro e2 w2 ⟨he2, hf20⟩; rw [← HUU.out] at he2; subst he2; have hf2 : Frm [] w1 w2 := Frm.trans (by first | exact Frm.refl [] w1 | exact (Frm.refl [] w1).drew | exact (Frm.refl [] w1).drewN _) hf20 (by simp)))
    all_goals
      have HF2 := Lib.hid hf2
      clear hf20 hf2
      go_wp2_with fail
      refine (HW.out _ (HH.out.hd.frm HF2.out (by simp))).mono ?_
      rintro e3 w3 ⟨rfl, hr3, hf3⟩
      have H3 := Lib.hid ((HH.out.frm HF2.out (by simp)).head hr3 hf3 (writeM_files m) (writeM_dir m) (writeM_safe m) (writeM_ops m))
      have F3 : Hid (Frm [d] w1 w3) := Lib.hid ((HF2.out.mono (by simp)).trans hf3 (fun x hx => .inl hx))
      obtain ⟨n, hn⟩ : ∃ n, n = (writeM m).files.length := ⟨_, rfl⟩
      have HN := Lib.hid hn
      have fa : Frm [] w3 (w3.alloc (.cells #[.slice none 0 0, .int .i64 0] 62)) := (Frm.refl [] w3).alloc _
      have hgr := H3.out.grow HOW.out fa (Nat.le_refl _) (RowAt.made w3 62 [.slice none 0 0, .int .i64 0] #[.slice none 0 0, .int .i64 0] rfl)
      rw [← hn] at hgr
      have hch := change_any hgr (by show (writeM m).dir.length ≤ 1000; rw [writeM_dir]; have := HD64.out; omega) (by show (writeM m).ops.length ≤ 1000; rw [writeM_ops]; have := HO.out.few2; have := HND.out; omega) (n0 := n + 1) ⟨1, s, [], n⟩ (.inl ⟨rfl, HG.out, Nat.lt_succ_self _⟩) (fun _ => List.mem_cons_self) (fun p hp => by
        have hp' : p ∈ withD (writeM m).dir s n := hp
        rcases mem_withD.1 hp' with rfl | ⟨hp9, _⟩
        · exact List.mem_cons_self
        · exact List.mem_cons_of_mem _ (H3.out.live.dir p hp9))
      rw [show opC (upd bs n w3.heap.size) ⟨1, s, [], n⟩ = [str [], str s, .pointer (some ⟨w3.heap.size, 0, none⟩)] from by simp [opC, upd_same]] at hch
      have HGR := Lib.hid hgr
      have HCH := Lib.hid hch
      have FA := Lib.hid fa
      have hsz3 := F3.out.size
      clear hr3 hf3 c0 c1 c6 hlk' iw iw2 hlen hgr hch fa hn
      go_wp2_with fail
      refine HCH.out.mono ?_
      rintro e4 w4 ⟨rfl, pv4, h4, hf4, hp4⟩
      obtain ⟨g, hg⟩ : ∃ g, g = w3.heap.size := ⟨_, rfl⟩
      rw [← hg] at h4 hsz3 ⊢
      have hat := h4.files.at_ n List.mem_cons_self
      have hfn : fileAt (opM { writeM m with files := (writeM m).files ++ [⟨[], 0⟩] } ⟨1, s, [], n⟩).files n = ⟨[], 0⟩ := by
        show fileAt ((writeM m).files ++ [⟨[], 0⟩]) n = _
        rw [HN.out, fileAt_new]
      rw [hfn, upd_same, upd_same] at hat
      have g0 := hat.cell (i := 0) rfl
      have z0 := hat.frozen 0
      have H4 := Lib.hid h4
      have HAT := Lib.hid hat
      have HFN := Lib.hid hfn
      have HG3 := Lib.hid hg
      have HP4 := Lib.hid hp4
      have hsz4 : g < w4.heap.size := by have := hat.lt; omega
      have F4 : Hid (Frm (d :: b1 :: pv.ownBlock.toList) w1 w4) := Lib.hid (((F3.out.mono (by simp)).trans FA.out (by simp)).trans hf4 (fun x hx => .inl hx))
      have hB4 := HB.out.frm F4.out (fun k hk hm => HS.out k hk (by
        rcases List.mem_cons.1 hm with rfl | hm
        · exact fpR_d
        · rcases List.mem_cons.1 hm with rfl | hm
          · exact fpR_1
          · exact fpR_p (by simpa using hm)))
      have HB4 := Lib.hid (hB4.cut HL2.out)
      have HBC : Hid ((b.take k2).length = k2 ∧ k2 ≤ b.length) := Lib.hid ⟨by rw [List.length_take]; have := HL2.out; omega, HL2.out⟩
      clear h4 hf4 hp4 hat hfn hg hB4
      go_wp2_with (first | (at_builtin; refine app_buf rfl _ _ rfl 0 k2 (.slice none 0 0) [] rfl (BufAt.nil _) (.slice a2 k2 c2) (b.take k2) rfl HB4.out (by have := HBC.out.1; omega) (by have := HBL.out; have := HBC.out.2; omega) ?_; intro a9 c9 w9 hown9 hf9 hloc9; have r9 := HAT.out.frm hf9 (by simp [Value.ownBlock]); have y9 := r9.cell (i := 0) rfl; have z9 := r9.frozen 0) | fail)
      go_wp2_with fail
      go_ret
      obtain ⟨R1, R2⟩ := H4.out.addB (i := n) (b := (b.take k2)) (a9 := a9) (n := k2) (c9 := c9) (w9 := w9) List.mem_cons_self (by rw [HFN.out]; exact hown9) (by rw [upd_same]; exact hf9) (by rw [upd_same]; exact hloc9)
      have e9 : opM { writeM m with files := (writeM m).files ++ [⟨[], 0⟩] } ⟨1, s, [], n⟩ = newM (writeM m) s := by rw [HN.out]; rfl
      rw [upd_same, e9] at R1
      rw [upd_same] at R2
      refine ⟨rfl, ?_⟩
      have hFF : Frm (fpR d b1 b2 pv bs vs live) w1 (w9.setCell ⟨g, 0, none⟩ (.slice a9 k2 c9)) := (F4.out.mono (fun x hx => by
        rcases List.mem_cons.1 hx with rfl | hx
        · exact fpR_d
        · rcases List.mem_cons.1 hx with rfl | hx
          · exact fpR_1
          · exact fpR_p (by simpa using hx))).trans R2 (fun x hx => by
        right
        rcases List.mem_cons.1 hx with rfl | hx
        · exact hsz3
        · rw [upd_same] at hx; simp [Value.ownBlock] at hx)
      rw [show cutB true b = b.take k2 from by rw [cutB, if_pos rfl, HK2.out], ← HN.out]
      refine PDStep.mk R1 hFF fpR_d fpR_1 (.inl fpR_2) (fun k hk => ?_) (fun j hj => ?_) (fun j hj k hk => ?_)
      · rcases HP4.out k hk with h9 | h9
        · exact .inl (fpR_p h9)
        · exact .inr (by simp at h9; have := F3.out.size; omega)
      · by_cases e : j = n
        · rw [e, upd_same]; exact .inr hsz3
        · rw [upd_other _ _ e]
          rcases List.mem_cons.1 hj with h9 | h9
          · exact absurd h9 e
          · exact .inl (fpR_b h9)
      · by_cases e : j = n
        · rw [e, upd_same] at hk
          rcases hloc9 k hk with h9 | h9
          · simp [Value.ownBlock] at h9
          · exact .inr (by omega)
        · rw [upd_other _ _ e, upd_other _ _ e] at hk
          rcases List.mem_cons.1 hj with h9 | h9
          · exact absurd h9 e
          · exact .inl (fpR_v h9 hk)

set_option linter.unusedSimpArgs false in
set_option maxRecDepth 100000 in
set_option maxHeartbeats 4000000 in
theorem append_err (h : DR w d b1 b2 pv bs vs live m) (ho : DOk N m) {s : Nm} (hs : s.length ≤ maxLen) {b : List UInt8} {v : Value} (hb : BytesV w v b) (hbad : m.off = true ∨ goodN s = false ∨ fullM m s b = true) :
    Calls Try.prog 10 #[.pointer (some ⟨d, 0, none⟩), str s, v] w fun e w' => e = .returned (.int .i64 (appendM m s b).1) ∧ (appendM m s b).2 = m ∧ Frm [] w w' := by
  obtain ⟨a2, c2, rfl, hlc, hcm⟩ := hb.shape
  have hlk := h.m1.look hs
  have hlen := fun ty => h.m1.len ty
  have hv := valid_any s w hs
  have c0 := h.hd.cell (i := 0) rfl
  have c1 := h.hd.cell (i := 1) rfl
  have c6 := h.hd.cell (i := 6) rfl
  have hub := ho.used
  have hcap := ho.cap
  have i2 : (b.length : Int) ≤ (c2 : Int) := by omega
  have i3 : (c2 : Int) ≤ 9223372036854775807 := by unfold maxLen at hcm; omega
  have HH := Lib.hid h
  have HO := Lib.hid ho
  have h6 : (m.dir.length : Int) ≤ 64 := by have := ho.dirOk.few; omega
  cases hoff : m.off
  · rw [hoff] at c6
    cases hg : goodN s
    · rw [hg] at hv
      have hE : appendM m s b = (1, m) := by simp [appendM, hoff, hg]
      rw [hE]
      clear h ho hb hbad hoff hE hg hlc hcm
      cases hfd : findD m.dir s <;> rw [hfd] at hlk <;> simp only [ptrO] at hlk <;> clear hfd
      all_goals
        go_enter Try.func10, Try.ntmps10
        go_wp2_with fail
        refine hv.mono ?_
        rintro e1 w1 ⟨rfl, rfl⟩
        go_wp2_with fail
        go_ret
        exact ⟨rfl, by first | rfl | trivial, Frm.refl _ _⟩
    · rw [hg] at hv
      have hfull : fullM m s b = true := by rcases hbad with h9 | h9 | h9 <;> simp_all
      have hE : appendM m s b = (10, m) := by simp [appendM, hoff, hg, hfull]
      rw [hE]
      obtain ⟨U, hU⟩ : ∃ U, U = usedD m.files m.dir := ⟨_, rfl⟩
      have HUU := Lib.hid hU
      rw [fullM, ← hU] at hfull
      rw [← hU] at hub
      have iw : IntKind.i64.wrap ((m.cap : Int) - (U : Int)) = (m.cap : Int) - (U : Int) := IntWalk.i64_in _ (by omega)
      have iw2 : RowKit.wrap64 ((m.cap : Int) - (U : Int)) = (m.cap : Int) - (U : Int) := by rw [← IntWalk.i64_left]; exact iw
      have hcase : (findD m.dir s = none ∧ (64 : Int) ≤ (m.dir.length : Int)) ∨ ((findD m.dir s = none ∧ ¬ (64 : Int) ≤ (m.dir.length : Int)) ∧ ((m.cap : Int) - (U : Int) < (b.length : Int))) ∨ ((∃ i, findD m.dir s = some i) ∧ ((m.cap : Int) - (U : Int) < (b.length : Int))) := by
        have h9 := of_decide_eq_true hfull
        cases hfd : findD m.dir s with
        | none =>
          by_cases h8 : (64 : Int) ≤ (m.dir.length : Int)
          · exact .inl ⟨rfl, h8⟩
          · refine .inr (.inl ⟨⟨rfl, h8⟩, ?_⟩)
            rcases h9 with ⟨_, h9⟩ | h9 <;> omega
        | some i =>
          refine .inr (.inr ⟨⟨i, rfl⟩, ?_⟩)
          rcases h9 with ⟨h9, _⟩ | h9
          · rw [hfd] at h9; cases h9
          · omega
      clear h ho hb hbad hoff hE hg hfull hU hlc hcm
      rcases hcase with ⟨hfd, h8⟩ | ⟨⟨hfd, h8⟩, i1⟩ | ⟨⟨i, hfd⟩, i1⟩
      · rw [hfd] at hlk
        simp only [ptrO] at hlk
        clear hfd c0 hub hcap iw iw2
        go_enter Try.func10, Try.ntmps10
        go_wp2_with fail
        refine hv.mono ?_
        rintro e1 w1 ⟨rfl, rfl⟩
        go_wp2_with fail
        go_ret
        exact ⟨rfl, by first | rfl | trivial, Frm.refl _ _⟩
      all_goals
        rw [hfd] at hlk
        simp only [ptrO] at hlk
        clear hfd
        go_enter Try.func10, Try.ntmps10
        go_wp2_with fail
        refine hv.mono ?_
        rintro e1 w1 ⟨rfl, rfl⟩
        go_wp2_with fail
        go_region_held3 (fun w' => w'.cell? ⟨d, 0, none⟩ = some (.int .i64 (m.cap : Int))) (first | exact c0 | exact hf2.cell c0 (by simp)) ((go_at_call 30; refine (used_any (HH.out.hd.frm (by first | exact Frm.refl [] w1 | exact (Frm.refl [] w1).drew | exact (Frm.refl [] w1).drewN _) (by simp)) (HH.out.m1.frm (by first | exact Frm.refl [] w1 | exact (Frm.refl [] w1).drew | exact (Frm.refl [] w1).drewN _) (by simp)) (HH.out.files.frm (by first | exact Frm.refl [] w1 | exact (Frm.refl [] w1).drew | exact (Frm.refl [] w1).drewN _) (by simp)) HH.out.live.dir HO.out).mono ?_; rintro e2 w2 ⟨he2, hf20⟩; rw [← HUU.out] at he2; subst he2; have hf2 : Frm [] w1 w2 := Frm.trans (by first | exact Frm.refl [] w1 | exact (Frm.refl [] w1).drew | exact (Frm.refl [] w1).drewN _) hf20 (by simp)))
        all_goals
          go_wp2_with fail
          go_ret
          exact ⟨rfl, by first | rfl | trivial, hf2⟩
  · rw [hoff] at c6
    have hE : appendM m s b = (25, m) := by simp [appendM, hoff]
    rw [hE]
    clear h ho hb hbad hoff hE hlc hcm hv
    cases hfd : findD m.dir s <;> rw [hfd] at hlk <;> simp only [ptrO] at hlk <;> clear hfd
    all_goals
      go_enter Try.func10, Try.ntmps10
      go_wp2_with fail
      go_ret
      exact ⟨rfl, by first | rfl | trivial, Frm.refl _ _⟩
end

/-- Append, all together. -/
theorem append_any {w : World} {d N : Nat} {fp : List Nat} {m : DM} (h : PD w d fp m) (ho : DOk N m) (hN : N ≤ 900) {s : Nm} (hs : s.length ≤ maxLen) {b : List UInt8} {v : Value} (hb : BytesV w v b) (hsrc : ∀ k, v.ownBlock = some k → k ∉ fp) :
    Calls Try.prog 10 #[.pointer (some ⟨d, 0, none⟩), str s, v] w fun e w' => e = .returned (.int .i64 (appendM m s b).1) ∧ PDStep w w' d fp (appendM m s b).2 := by
  obtain ⟨b1, b2, pv, bs, vs, live, h, rfl⟩ := h
  by_cases hbad : m.off = true ∨ goodN s = false ∨ fullM m s b = true
  · refine (append_err h ho hs hb hbad).mono ?_
    rintro e w' ⟨he, hm, hf⟩
    refine ⟨he, ?_⟩
    rw [hm]
    exact PDStep.step ⟨b1, b2, pv, bs, vs, live, h, rfl⟩ hf
  · have hoff : m.off = false := by cases hq : m.off with | false => rfl | true => exact absurd (.inl hq) hbad
    have hg : goodN s = true := by cases hq : goodN s with | true => rfl | false => exact absurd (.inr (.inl hq)) hbad
    have hfull : fullM m s b = false := by cases hq : fullM m s b with | false => rfl | true => exact absurd (.inr (.inr hq)) hbad
    have hE : appendM m s b = (if (writeM m).off = true then 25 else 0, putM (writeM m) s b) := by simp [appendM, hoff, hg, hfull]
    rw [hE]
    cases hfd : findD m.dir s with
    | some i => exact append_some h ho hg hoff hfull hb hsrc hfd
    | none => exact append_none h ho hN hg hoff hfull hb hsrc hfd
theorem le_sum_mem : ∀ {l : List Nat} {x : Nat}, x ∈ l → x ≤ l.sum
  | [], _, h => by cases h
  | y :: r, x, h => by
    rw [List.sum_cons]
    rcases List.mem_cons.1 h with rfl | h
    · omega
    · have := le_sum_mem h; omega
theorem appendM_ok {N : Nat} {m : DM} (ho : DOk N m) (s : Nm) (b : List UInt8) : DOk (N + 1) (appendM m s b).2 := by
  rw [appendM]
  split
  · exact ho.mono (Nat.le_succ _)
  · split
    · exact ho.mono (Nat.le_succ _)
    · rename_i hg
      split
      · exact ho.mono (Nat.le_succ _)
      · rename_i hfull
        have hnf : ¬ ((findD m.dir s = none ∧ 64 ≤ m.dir.length) ∨ m.cap < usedD m.files m.dir + b.length) := by simpa [fullM] using hfull
        have hg' : goodN s = true := by simpa using hg
        have hcl := cutB_len (writeM m).off b
        have hcap := ho.cap
        have hw := ho.write
        show DOk (N + 1) (putM (writeM m) s b)
        rw [putM]
        cases hfd : findD (writeM m).dir s with
        | some i =>
          have hi := hw.find hfd
          refine (hw.add hi ?_).mono (Nat.le_succ _)
          have hmem : (s, i) ∈ m.dir := by have := findD_some hfd; rwa [writeM_dir] at this
          have hle : (fileAt m.files i).data.length ≤ usedD m.files m.dir := by
            have h9 : (fileAt m.files i).data.length ∈ m.dir.map fun p => (fileAt m.files p.2).data.length := List.mem_map.2 ⟨_, hmem, rfl⟩
            exact le_sum_mem h9
          rw [writeM_files]
          omega
        | none =>
          have hl : (writeM m).dir.length < 64 := by
            rw [writeM_dir] at hfd ⊢
            have : ¬ (64 ≤ m.dir.length) := fun h9 => hnf (.inl ⟨hfd, h9⟩)
            omega
          have hn := hw.new hg' hl
          refine hn.add (by show (writeM m).files.length < ((writeM m).files ++ [_]).length; simp) ?_
          have : fileAt (newM (writeM m) s).files (writeM m).files.length = ⟨[], 0⟩ := fileAt_new _ _
          rw [this]
          show 0 + _ ≤ _
          omega

end Go.Proofs.Ytkebdgbjgbcneaa
