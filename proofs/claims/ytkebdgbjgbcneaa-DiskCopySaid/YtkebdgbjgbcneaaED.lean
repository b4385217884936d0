/- The reference's disk: contract of Rename. -/
import Derived.Test.YtkebdgbjgbcneaaEC
namespace Go.Proofs.Ytkebdgbjgbcneaa
open Go.RowKit Go.Maps Go.Shelf

section
variable {w : World} {F : List Nat} {d N : Nat} {m : DM} {fv dv sv ov : Value} {l : List (Value × FM)}
theorem missRM_eq (m : DM) (s t : Nm) : missRM m s t = if m.off = false ∧ goodN t = false then 1 else missM m s := by
  unfold missRM missM
  cases m.off <;> cases goodN s <;> cases goodN t <;> simp
set_option linter.unusedSimpArgs false in
set_option maxRecDepth 100000 in
set_option maxHeartbeats 1000000 in
theorem rrename_any (h : RDv w F d m fv dv sv ov l) (ho : DOk N m) (hN : N ≤ 90000) {s t : Nm} (hs : s.length ≤ maxLen) (ht : t.length ≤ maxLen) :
    Calls Try.prog 42 #[.pointer (some ⟨d, 0, none⟩), str s, str t] w fun e w' => RPost F d (renameM m s t).2 (renameM m s t).1 w' e ∧ Frm [d] w w' := by
  have hck := rmiss_any h.hd h.dir s hs
  have hgt := rgood_any t w ht
  have c6 := h.hd.cell (i := 6) rfl
  by_cases hb : m.off = false ∧ goodN t = false
  · obtain ⟨h1, h2⟩ := hb
    have hmr : missRM m s t = 1 := by rw [missRM_eq, if_pos ⟨h1, h2⟩]
    have hD : renameM m s t = (1, m) := by rw [renameM, hmr, if_neg (by decide)]
    clear hmr
    rw [hD]
    rw [h1] at c6
    rw [h2] at hgt
    have HH := Lib.hid h
    clear h ho hs ht hck h1 h2 hD hN
    go_enter Try.func42, Try.ntmps42
    go_wp2_with fail
    refine hgt.mono ?_
    rintro e1 w1 ⟨rfl, rfl⟩
    go_wp2_with fail
    go_ret
    exact ⟨⟨rfl, _, _, _, _, _, HH.out⟩, Frm.refl _ _⟩
  · have hmr : missRM m s t = missM m s := by rw [missRM_eq, if_neg hb]
    by_cases hz : missM m s = 0
    · obtain ⟨hoff, hg, i, hfd⟩ := missM_zero hz
      have h2 : goodN t = true := by
        cases hq : goodN t
        · exact absurd ⟨hoff, hq⟩ hb
        · rfl
      rw [hoff] at c6
      rw [h2] at hgt
      rw [hz] at hck
      have hD : renameM m s t = (if (writeM m).off = true then (25, writeM m) else (0, opM (writeM m) ⟨2, s, t, i⟩)) := by rw [renameM, hmr, if_pos hz, hfd]; rfl
      rw [hD]
      have hwr := fun W (hr : RowAt W d 77 (rhdC m fv dv sv ov)) => rwrite_any hr ho.armed
      have hpf : ∀ W, RDv W F d (writeM m) fv dv sv ov l → Calls Try.prog 59 #[.pointer (some ⟨d, 0, none⟩), .agg #[.int .i64 2, str s, str t, .int .i64 (i : Int)]] W fun e w' => (e = .returned (.tuple #[]) ∧ ∃ dv' ov', RDv w' F d (opM (writeM m) ⟨2, s, t, i⟩) fv dv' sv ov' l) ∧ Frm [d] W w' := fun W hW => rperf_any hW ⟨2, s, t, i⟩ (.inr (.inl rfl)) (by rw [writeM_dir]; have := ho.dirOk.few; omega) (by rw [writeM_ops]; have := ho.few2; omega)
      have hfi : ∀ W, RDv W F d (writeM m) fv dv sv ov l → Calls Try.prog 56 #[dv, str s] W fun e w' => e = .returned (.int .i64 (i : Int)) ∧ w' = W := fun W hW => by
        have hdd := hW.dir
        rw [writeM_dir] at hdd
        have := rfind_eq hdd s
        rw [findI, hfd] at this
        exact this
      obtain ⟨off, hoff'⟩ : ∃ off, off = (writeM m).off := ⟨_, rfl⟩
      rw [← hoff'] at hwr ⊢
      have HW := Lib.hid hwr
      have HP := Lib.hid hpf
      have HFI := Lib.hid hfi
      have HH := Lib.hid h
      clear h hz hoff hg hfd hD hwr hoff' ho hN hpf hb h2 hs ht hfi hmr
      cases off
      · rw [if_neg (by simp)]
        go_enter Try.func42, Try.ntmps42
        go_wp2_with fail
        refine hgt.mono ?_
        rintro e0 w0 ⟨rfl, rfl⟩
        go_wp2_with fail
        refine hck.mono ?_
        rintro e1 w1 ⟨rfl, hf1⟩
        have HF1 := Lib.hid hf1
        clear hck hf1
        go_wp2_with fail
        refine (HW.out _ (HH.out.hd.frm HF1.out (by simp))).mono ?_
        rintro e2 w2 ⟨rfl, hr2, hf2⟩
        have H2 := Lib.hid ((HH.out.nil HF1.out).write hf2 hr2)
        have F2 : Hid (Frm [d] w0 w2) := Lib.hid ((HF1.out.mono (by simp)).trans hf2 (fun x hx => .inl hx))
        have d2 := H2.out.hd.cell (i := 2) rfl
        clear hr2 hf2
        go_wp2_with fail
        refine (HFI.out _ H2.out).mono ?_
        rintro e4 w4 ⟨rfl, rfl⟩
        go_wp2_with fail
        refine (HP.out _ H2.out).mono ?_
        rintro e3 w3 ⟨⟨rfl, dv3, ov3, h3⟩, hf3⟩
        have H3 := Lib.hid h3
        have F3 : Hid (Frm [d] w0 w3) := Lib.hid (F2.out.trans hf3 (fun x hx => .inl hx))
        clear h3 hf3
        go_wp2_with fail
        go_ret
        exact ⟨⟨rfl, _, _, _, _, _, H3.out⟩, F3.out⟩
      · rw [if_pos rfl]
        go_enter Try.func42, Try.ntmps42
        go_wp2_with fail
        refine hgt.mono ?_
        rintro e0 w0 ⟨rfl, rfl⟩
        go_wp2_with fail
        refine hck.mono ?_
        rintro e1 w1 ⟨rfl, hf1⟩
        have HF1 := Lib.hid hf1
        clear hck hf1
        go_wp2_with fail
        refine (HW.out _ (HH.out.hd.frm HF1.out (by simp))).mono ?_
        rintro e2 w2 ⟨rfl, hr2, hf2⟩
        have H2 := Lib.hid ((HH.out.nil HF1.out).write hf2 hr2)
        have F2 : Hid (Frm [d] w0 w2) := Lib.hid ((HF1.out.mono (by simp)).trans hf2 (fun x hx => .inl hx))
        clear hr2 hf2
        go_wp2_with fail
        go_ret
        exact ⟨⟨rfl, _, _, _, _, _, H2.out⟩, F2.out⟩
    · have hD : renameM m s t = (missM m s, m) := by rw [renameM, hmr, if_neg hz]
      rw [hD]
      obtain ⟨e, he⟩ : ∃ e, e = missM m s := ⟨_, rfl⟩
      rw [← he] at hck hz ⊢
      have hb0 : (e != 0) = true := by simp [hz]
      have HH := Lib.hid h
      cases hoff : m.off
      · have h2 : goodN t = true := by
          cases hq : goodN t
          · exact absurd ⟨hoff, hq⟩ hb
          · rfl
        rw [hoff] at c6
        rw [h2] at hgt
        clear h hz he hD ho hN hb hmr hoff h2 hs ht
        go_enter Try.func42, Try.ntmps42
        go_wp2_with fail
        refine hgt.mono ?_
        rintro e0 w0 ⟨rfl, rfl⟩
        go_wp2_with fail
        refine hck.mono ?_
        rintro e1 w1 ⟨rfl, hf1⟩
        have HF1 := Lib.hid hf1
        clear hck hf1
        go_wp2_with fail
        go_ret
        exact ⟨⟨rfl, _, _, _, _, _, HH.out.nil HF1.out⟩, HF1.out.mono (by simp)⟩
      · rw [hoff] at c6
        clear h hz he hD ho hN hb hmr hoff hs ht hgt
        go_enter Try.func42, Try.ntmps42
        go_wp2_with fail
        refine hck.mono ?_
        rintro e1 w1 ⟨rfl, hf1⟩
        have HF1 := Lib.hid hf1
        clear hck hf1
        go_wp2_with fail
        go_ret
        exact ⟨⟨rfl, _, _, _, _, _, HH.out.nil HF1.out⟩, HF1.out.mono (by simp)⟩
end

end Go.Proofs.Ytkebdgbjgbcneaa
