/- The reference's disk: contracts of Delete, Rename, Read. -/
import Derived.Test.YtkebdgbjgbcneaaEA
import Derived.Test.YtkebdgbjgbcneaaEB
namespace Go.Proofs.Ytkebdgbjgbcneaa
open Go.RowKit Go.Maps Go.Shelf

theorem oneCell_byt (xs : List UInt8) : ∀ u ∈ byt xs, u.oneCell' = true := fun u hu => by
  simp only [byt, List.mem_map] at hu
  obtain ⟨x, _, rfl⟩ := hu
  rfl
def RPost (F : List Nat) (d : Nat) (m : DM) (er : Int) (w' : World) (e : Ending) : Prop := e = .returned (.int .i64 er) ∧ RD w' F d m
section
variable {w : World} {F : List Nat} {d N : Nat} {m : DM} {fv dv sv ov : Value} {l : List (Value × FM)}
theorem RDv.write {w' : World} (h : RDv w F d m fv dv sv ov l) (hf : Frm [d] w w') (hr : RowAt w' d 77 (rhdC (writeM m) fv dv sv ov)) : RDv w' F d (writeM m) fv dv sv ov l :=
  h.turn hf hr (by rw [writeM_files]; exact h.fm) (h.fr.frm hf h.mine) (fun p hp => (h.fd p hp).frm hf h.mine) (by rw [writeM_dir]; exact h.dir.frm hf h.mine) (by rw [writeM_safe]; exact h.safe.frm hf h.mine) (by rw [writeM_ops]; exact h.ops.frm hf h.mine)
set_option linter.unusedSimpArgs false in
set_option maxRecDepth 100000 in
set_option maxHeartbeats 1000000 in
theorem rdelete_any (h : RDv w F d m fv dv sv ov l) (ho : DOk N m) (hN : N ≤ 90000) {s : Nm} (hs : s.length ≤ maxLen) :
    Calls Try.prog 43 #[.pointer (some ⟨d, 0, none⟩), str s] w fun e w' => RPost F d (deleteM m s).2 (deleteM m s).1 w' e ∧ Frm [d] w w' := by
  have hck := rmiss_any h.hd h.dir s hs
  by_cases hz : missM m s = 0
  · obtain ⟨hoff, hg, i, hfd⟩ := missM_zero hz
    rw [hz] at hck
    have hD : deleteM m s = (if (writeM m).off = true then (25, writeM m) else (0, opM (writeM m) ⟨3, s, [], 0⟩)) := by rw [deleteM, if_pos hz]
    rw [hD]
    have hwr := fun W (hr : RowAt W d 77 (rhdC m fv dv sv ov)) => rwrite_any hr ho.armed
    have hpf : ∀ W, RDv W F d (writeM m) fv dv sv ov l → Calls Try.prog 59 #[.pointer (some ⟨d, 0, none⟩), .agg #[.int .i64 3, str s, str [], .int .i64 0]] W fun e w' => (e = .returned (.tuple #[]) ∧ ∃ dv' ov', RDv w' F d (opM (writeM m) ⟨3, s, [], 0⟩) fv dv' sv ov' l) ∧ Frm [d] W w' := fun W hW => rperf_any hW ⟨3, s, [], 0⟩ (.inr (.inr rfl)) (by rw [writeM_dir]; have := ho.dirOk.few; omega) (by rw [writeM_ops]; have := ho.few2; omega)
    obtain ⟨off, hoff'⟩ : ∃ off, off = (writeM m).off := ⟨_, rfl⟩
    rw [← hoff'] at hwr ⊢
    have HW := Lib.hid hwr
    have HP := Lib.hid hpf
    have HH := Lib.hid h
    clear h hz hoff hg hfd hD hwr hoff' ho hN hpf
    cases off
    · rw [if_neg (by simp)]
      go_enter Try.func43, Try.ntmps43
      go_wp2_with fail
      refine hck.mono ?_
      rintro e1 w1 ⟨rfl, hf1⟩
      have HF1 := Lib.hid hf1
      clear hck hf1
      go_wp2_with fail
      refine (HW.out _ (HH.out.hd.frm HF1.out (by simp))).mono ?_
      rintro e2 w2 ⟨rfl, hr2, hf2⟩
      have H2 := Lib.hid ((HH.out.nil HF1.out).write hf2 hr2)
      have F2 : Hid (Frm [d] w w2) := Lib.hid ((HF1.out.mono (by simp)).trans hf2 (fun x hx => .inl hx))
      clear hr2 hf2
      go_wp2_with fail
      refine (HP.out _ H2.out).mono ?_
      rintro e3 w3 ⟨⟨rfl, dv3, ov3, h3⟩, hf3⟩
      have H3 := Lib.hid h3
      have F3 : Hid (Frm [d] w w3) := Lib.hid (F2.out.trans hf3 (fun x hx => .inl hx))
      clear h3 hf3
      go_wp2_with fail
      go_ret
      exact ⟨⟨rfl, _, _, _, _, _, H3.out⟩, F3.out⟩
    · rw [if_pos rfl]
      go_enter Try.func43, Try.ntmps43
      go_wp2_with fail
      refine hck.mono ?_
      rintro e1 w1 ⟨rfl, hf1⟩
      have HF1 := Lib.hid hf1
      clear hck hf1
      go_wp2_with fail
      refine (HW.out _ (HH.out.hd.frm HF1.out (by simp))).mono ?_
      rintro e2 w2 ⟨rfl, hr2, hf2⟩
      have H2 := Lib.hid ((HH.out.nil HF1.out).write hf2 hr2)
      have F2 : Hid (Frm [d] w w2) := Lib.hid ((HF1.out.mono (by simp)).trans hf2 (fun x hx => .inl hx))
      clear hr2 hf2
      go_wp2_with fail
      go_ret
      exact ⟨⟨rfl, _, _, _, _, _, H2.out⟩, F2.out⟩
  · have hD : deleteM m s = (missM m s, m) := by rw [deleteM, if_neg hz]
    rw [hD]
    obtain ⟨e, he⟩ : ∃ e, e = missM m s := ⟨_, rfl⟩
    rw [← he] at hck hz ⊢
    have hb0 : (e != 0) = true := by simp [hz]
    have HH := Lib.hid h
    clear h hz he hD ho hN
    go_enter Try.func43, Try.ntmps43
    go_wp2_with fail
    refine hck.mono ?_
    rintro e1 w1 ⟨rfl, hf1⟩
    have HF1 := Lib.hid hf1
    clear hck hf1
    go_wp2_with fail
    go_ret
    exact ⟨⟨rfl, _, _, _, _, _, HH.out.nil HF1.out⟩, HF1.out.mono (by simp)⟩
set_option linter.unusedSimpArgs false in
set_option maxRecDepth 100000 in
set_option maxHeartbeats 1000000 in
theorem rread_any (h : RDv w F d m fv dv sv ov l) (ho : DOk N m) {s : Nm} (hs : s.length ≤ maxLen) :
    Calls Try.prog 44 #[.pointer (some ⟨d, 0, none⟩), str s] w fun e w' => ReadEnd w (readM m s).1 (readM m s).2 w' e ∧ Frm [] w w' := by
  have hck := rmiss_any h.hd h.dir s hs
  by_cases hz : missM m s = 0
  · obtain ⟨hoff, hg, i, hfd⟩ := missM_zero hz
    rw [hz] at hck
    have hD : readM m s = ((fileAt m.files i).data, 0) := by rw [readM, if_pos hz, hfd]; rfl
    rw [hD]
    have hi := ho.find hfd
    have hfl := (ho.fileAt hi).2
    obtain ⟨fb, fo, fc, a, c', hfv, hf1, hf2, hfb, f0, f1, fr⟩ := h.at_ hi
    have c1 := h.hd.cell (i := 1) rfl
    have c2 := h.hd.cell (i := 2) rfl
    subst hfv
    have hfi : ∀ W, Frm [] w W → Calls Try.prog 56 #[dv, str s] W fun e w' => e = .returned (.int .i64 (i : Int)) ∧ w' = W := fun W hW => by
      have := rfind_eq (h.dir.nil hW) s
      rw [findI, hfd] at this
      exact this
    have HFI := Lib.hid hfi
    have HFR := Lib.hid fr
    obtain ⟨dt, hdt⟩ : ∃ dt, dt = (fileAt m.files i).data := ⟨_, rfl⟩
    rw [← hdt] at f0 HFR hfl ⊢
    obtain ⟨nf, hnf⟩ : ∃ nf, nf = m.files.length := ⟨_, rfl⟩
    rw [← hnf] at c1 hi hf1
    have i6 : (i : Int) < (nf : Int) := by omega
    have i7 : (0 : Int) ≤ (i : Int) := by omega
    have i8 : (nf : Int) ≤ 9223372036854775807 := by unfold maxLen at hf2; omega
    have HL := Lib.hid hfl
    have hdl := h.hd.lt
    clear h ho hz hoff hg hfd hD hs hi hfl fr f1 hf1 hf2 hfb hfi hdt hnf
    go_enter Try.func44, Try.ntmps44
    go_wp2_with fail
    refine hck.mono ?_
    rintro e1 w1 ⟨rfl, hf1⟩
    have d1 := hf1.cell c1 (by simp)
    have d2 := hf1.cell c2 (by simp)
    have g0 := hf1.cell f0 (by simp)
    have hfbl := World.block_lt_of_cell? w1 _ g0
    have hd1 : d < w1.heap.size := Nat.lt_of_lt_of_le hdl hf1.size
    have HF1 := Lib.hid hf1
    have HR1 := Lib.hid (HFR.out.nil hf1)
    clear hck c1 c2 f0 hf1 hdl
    go_wp2_with fail
    have nd0 : d ≠ w1.heap.size := by omega
    have nf0 : fb ≠ w1.heap.size := by have : fb < w1.heap.size := hfbl; omega
    have hfb1 : fb < w1.heap.size := hfbl
    clear hfbl
    go_region_law (first | (refine step_app_row rfl (.tmp 13) (.tmp 26) 27 5 _ 1 1 rfl Try.underlying27 infoB rfl (by decide) (by decide) w1.heap.size 0 (.slice (some ⟨w1.heap.size, 0, none⟩) 0 0) [] rfl (owns_made0 w1 _ _) _ dt.length (byt dt) F rfl (HR1.out.nil (by first | exact Frm.refl [] w1 | exact (Frm.refl [] w1).drew | exact (Frm.refl [] w1).drewN _ | exact ((Frm.refl [] w1).alloc _).drew | exact ((Frm.refl [] w1).alloc _).drewN _)) (oneCell_byt _) dt.length (Nat.zero_add _) (by have := HL.out; omega) (by (try simp) <;> omega) ?_; intro a9 c9 w9 own9 hf9; have fr9 : Frm [] w1 w9 := Frm.trans (by first | exact Frm.refl [] w1 | exact (Frm.refl [] w1).drew | exact (Frm.refl [] w1).drewN _ | exact ((Frm.refl [] w1).alloc _).drew | exact ((Frm.refl [] w1).alloc _).drewN _) hf9 (by simp [Value.ownBlock])) | ((try go_simp); refine (HFI.out _ (HF1.out.trans (by first | exact Frm.refl [] w1 | exact (Frm.refl [] w1).drew | exact (Frm.refl [] w1).drewN _ | exact ((Frm.refl [] w1).alloc _).drew | exact ((Frm.refl [] w1).alloc _).drewN _) (by simp))).mono ?_; rintro e2 w2 ⟨rfl, rfl⟩))
    all_goals
      have FE : Hid (Frm [] w w9) := Lib.hid (HF1.out.trans fr9 (by simp))
      have OE := Lib.hid (ownsB_mono own9 HF1.out.size)
      clear own9 hf9 fr9 d1 d2 g0 nd0 nf0
      go_wp2_with fail
      go_ret2
      exact ⟨⟨a9, c9, rfl, OE.out⟩, FE.out⟩
  · have hD : readM m s = ([], missM m s) := by rw [readM, if_neg hz]
    rw [hD]
    obtain ⟨e, he⟩ : ∃ e, e = missM m s := ⟨_, rfl⟩
    rw [← he] at hck hz ⊢
    have hb0 : (e != 0) = true := by simp [hz]
    clear h hz he hD
    go_enter Try.func44, Try.ntmps44
    go_wp2_with fail
    refine hck.mono ?_
    rintro e1 w1 ⟨rfl, hf1⟩
    go_wp2_with fail
    go_ret2
    exact ⟨⟨none, 0, rfl, World.ownsRow_nil _ _ _ _⟩, hf1⟩
end

end Go.Proofs.Ytkebdgbjgbcneaa
