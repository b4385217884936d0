/- Contracts of New, Fail, Down, Writes, Rename, Delete of the program's disk. -/
import Derived.Test.YtkebdgbjgbcneaaDJ
namespace Go.Proofs.Ytkebdgbjgbcneaa
open Go.RowKit Go.Maps

theorem rd_nil (B : Nat) (w : World) : Rd B w none 0 0 1 (strs []) := ⟨rfl, Nat.le_refl _, Nat.zero_le _, fun i u hu => by simp [strs] at hu⟩
theorem missC_nil (m : DM) (s : Nm) : missC m s [] = missM m s := by simp [missC, missM]
theorem missC_one (m : DM) (s t : Nm) : missC m s [t] = missRM m s t := by simp [missC, missRM, bad]
theorem missM_zero {m : DM} {s : Nm} (h : missM m s = 0) : m.off = false ∧ goodN s = true ∧ ∃ i, findD m.dir s = some i := by
  unfold missM at h
  split at h
  · cases h
  · rename_i h1
    split at h
    · cases h
    · rename_i h2
      split at h
      · cases h
      · rename_i h3
        refine ⟨by simpa using h1, by simpa using h2, ?_⟩
        cases hf : findD m.dir s with
        | none => exact absurd hf h3
        | some i => exact ⟨i, rfl⟩
theorem missRM_zero {m : DM} {s t : Nm} (h : missRM m s t = 0) : m.off = false ∧ goodN s = true ∧ goodN t = true ∧ ∃ i, findD m.dir s = some i := by
  unfold missRM at h
  split at h
  · cases h
  · rename_i h1
    split at h
    · cases h
    · rename_i h2
      split at h
      · cases h
      · rename_i h3
        refine ⟨by simpa using h1, ?_, ?_, ?_⟩
        · cases hq : goodN s with | true => rfl | false => exact absurd (.inl hq) h2
        · cases hq : goodN t with | true => rfl | false => exact absurd (.inr hq) h2
        · cases hf : findD m.dir s with
          | none => exact absurd hf h3
          | some i => exact ⟨i, rfl⟩

def NewEnd (w : World) (cap : Nat) (w' : World) (e : Ending) : Prop := ∃ d fp, e = .returned (.tuple #[.pointer (some ⟨d, 0, none⟩), .int .i64 0]) ∧ PD w' d fp (emptyM cap) ∧ Frm [] w w' ∧ ∀ x ∈ fp, w.heap.size ≤ x
set_option linter.unusedSimpArgs false in
set_option maxRecDepth 100000 in
theorem new_any (cap : Nat) (w : World) (hc : cap ≤ 4194304) :
    Calls Try.prog 9 #[.int .i64 (cap : Int)] w fun e w' => NewEnd w cap w' e := by
  have i1 : ¬ (cap : Int) < 0 := by omega
  have i2 : ¬ (4194304 : Int) < (cap : Int) := by omega
  have m1 := MapD.made w id
  have f1 : Frm [] w (w.alloc (.map #[] 0)) := (Frm.refl [] w).alloc _
  have m2 := MapD.made (w.alloc (.map #[] 0)) id
  have f2 : Frm [] (w.alloc (.map #[] 0)) ((w.alloc (.map #[] 0)).alloc (.map #[] 0)) := (Frm.refl [] _).alloc _
  have M1 := Lib.hid (m1.frm f2 (by simp))
  have M2 := Lib.hid m2
  have F2 := Lib.hid (f1.trans f2 (by simp))
  clear m1 m2 f1 f2 hc
  have hmm := @run_makeMap Try.prog
  go_enter Try.func9, Try.ntmps9
  go_wp2_with fail
  go_ret2
  have f3 : Frm [] ((w.alloc (.map #[] 0)).alloc (.map #[] 0)) (((w.alloc (.map #[] 0)).alloc (.map #[] 0)).alloc (.cells #[.int .i64 (cap : Int), .map (some w.heap.size), .map (some (w.heap.size + 1)), .slice none 0 0, .int .i64 0, .int .i64 0, .bool false] 58)) := (Frm.refl [] _).alloc _
  have r3 := RowAt.made ((w.alloc (.map #[] 0)).alloc (.map #[] 0)) 58 (hdC (emptyM cap) (.map (some w.heap.size)) (.map (some (w.heap.size + 1))) (.slice none 0 0)) #[.int .i64 (cap : Int), .map (some w.heap.size), .map (some (w.heap.size + 1)), .slice none 0 0, .int .i64 0, .int .i64 0, .bool false] rfl
  have hs1 : (w.alloc (.map #[] 0)).heap.size = w.heap.size + 1 := by simp
  have hs2 : ((w.alloc (.map #[] 0)).alloc (.map #[] 0)).heap.size = w.heap.size + 1 + 1 := by simp
  rw [hs1] at M2
  rw [hs2] at r3
  have hR : DR _ _ w.heap.size (w.heap.size + 1) (.slice none 0 0) id (fun _ => .slice none 0 0) [] (emptyM cap) :=
    ⟨r3, M1.out.frm f3 (by simp), M2.out.frm f3 (by simp), by omega, World.ownsRow_nil _ _ _ _, ⟨by simp, by simp, by simp, by simp, by simp⟩, ⟨by simp [emptyM], by simp [emptyM], by simp [emptyM]⟩⟩
  refine ⟨w.heap.size + 1 + 1, _, rfl, ⟨_, _, _, _, _, _, hR, rfl⟩, F2.out.trans f3 (by simp), fun x hx => ?_⟩
  simp [fpR, fileB, Value.ownBlock] at hx
  omega
theorem new_bad (cap : Int) (w : World) (hc : cap < 0 ∨ 4194304 < cap) :
    Calls Try.prog 9 #[.int .i64 cap] w fun e w' => e = .returned (.tuple #[.pointer none, .int .i64 1]) ∧ w' = w := by
  by_cases h : cap < 0
  · clear hc
    go_enter Try.func9, Try.ntmps9
    go_wp2_with fail
    go_ret2
    exact ⟨rfl, rfl⟩
  · have i2 : (4194304 : Int) < cap := by omega
    clear hc
    go_enter Try.func9, Try.ntmps9
    go_wp2_with fail
    go_ret2
    exact ⟨rfl, rfl⟩

section
variable {w : World} {d b1 b2 N : Nat} {pv : Value} {bs : Nat → Nat} {vs : Nat → Value} {live : List Nat} {m : DM} {fp : List Nat}
theorem down_any (h : PD w d fp m) : Calls Try.prog 22 #[.pointer (some ⟨d, 0, none⟩)] w fun e w' => e = .returned (.bool m.off) ∧ w' = w := by
  obtain ⟨b1, b2, pv, bs, vs, live, h, rfl⟩ := h
  have c6 := h.hd.cell (i := 6) rfl
  clear h
  go_enter Try.func22, Try.ntmps22
  go_wp2_with fail
  go_ret
  exact ⟨rfl, rfl⟩
theorem writes_any (h : PD w d fp m) : Calls Try.prog 26 #[.pointer (some ⟨d, 0, none⟩)] w fun e w' => e = .returned (.int .i64 m.count) ∧ w' = w := by
  obtain ⟨b1, b2, pv, bs, vs, live, h, rfl⟩ := h
  have c4 := h.hd.cell (i := 4) rfl
  clear h
  go_enter Try.func26, Try.ntmps26
  go_wp2_with fail
  go_ret
  exact ⟨rfl, rfl⟩
theorem PDStep.head (h : DR w d b1 b2 pv bs vs live m) {w' : World} {m' : DM} (hr : RowAt w' d 58 (hdC m' (.map (some b1)) (.map (some b2)) pv)) (hf : Frm [d] w w') (e1 : m'.files = m.files) (e2 : m'.dir = m.dir) (e3 : m'.safe = m.safe) (e4 : m'.ops = m.ops) : PDStep w w' d (fpR d b1 b2 pv bs vs live) m' :=
  ⟨_, ⟨b1, b2, pv, bs, vs, live, h.head hr hf e1 e2 e3 e4, rfl⟩, hf.mono (fun x hx => by rw [List.mem_singleton] at hx; rw [hx]; exact fpR_d), fun _ hx => .inl hx⟩
set_option linter.unusedSimpArgs false in
theorem fail_any (h : PD w d fp m) (n : Int) : Calls Try.prog 17 #[.pointer (some ⟨d, 0, none⟩), .int .i64 n] w fun e w' => e = .returned (.tuple #[]) ∧ PDStep w w' d fp (failM m n) := by
  obtain ⟨b1, b2, pv, bs, vs, live, h, rfl⟩ := h
  have c6 := h.hd.cell (i := 6) rfl
  have c5 := h.hd.cell (i := 5) rfl
  have z5 := h.hd.frozen 5
  have HH := Lib.hid h
  cases hoff : m.off
  · rw [hoff] at c6
    have hm : failM m n = { m with armed := n.toNat } := by rw [failM, if_neg (by simp [hoff])]
    rw [hm]
    have HO := Lib.hid hoff
    have hmax : max n 0 = (n.toNat : Int) := by omega
    clear h hm hoff
    go_enter Try.func17, Try.ntmps17
    go_wp2_with fail
    all_goals
      go_end0
      refine ⟨rfl, ?_⟩
      first
        | (have e : (n.toNat : Int) = 0 := by omega
           have hR := HH.out.hd.setCell 5 (.int .i64 0)
           exact PDStep.head HH.out (by rw [hdC, e]; exact hR) ((Frm.refl [d] w).setCell (p := ⟨d, 5, none⟩) (.inl (by simp)) _) rfl rfl rfl rfl)
        | (have e : (n.toNat : Int) = n := by omega
           have hR := HH.out.hd.setCell 5 (.int .i64 n)
           exact PDStep.head HH.out (by rw [hdC, e]; exact hR) ((Frm.refl [d] w).setCell (p := ⟨d, 5, none⟩) (.inl (by simp)) _) rfl rfl rfl rfl)
  · rw [hoff] at c6
    have hm : failM m n = m := by rw [failM, if_pos hoff]
    rw [hm]
    clear h hm hoff
    go_enter Try.func17, Try.ntmps17
    go_wp2_with fail
    go_end0
    exact ⟨rfl, PDStep.step ⟨b1, b2, pv, bs, vs, live, HH.out, rfl⟩ (Frm.refl _ _)⟩

theorem PDStep.write (h : DR w d b1 b2 pv bs vs live m) {w' : World} (hr : RowAt w' d 58 (hdC (writeM m) (.map (some b1)) (.map (some b2)) pv)) (hf : Frm [d] w w') : PDStep w w' d (fpR d b1 b2 pv bs vs live) (writeM m) :=
  PDStep.head h hr hf (writeM_files m) (writeM_dir m) (writeM_safe m) (writeM_ops m)
set_option linter.unusedSimpArgs false in
set_option maxRecDepth 100000 in
set_option maxHeartbeats 1000000 in
theorem delete_any (h : PD w d fp m) (ho : DOk N m) (hN : N ≤ 900) {s : Nm} (hs : s.length ≤ maxLen) :
    Calls Try.prog 11 #[.pointer (some ⟨d, 0, none⟩), str s] w fun e w' => e = .returned (.int .i64 (deleteM m s).1) ∧ PDStep w w' d fp (deleteM m s).2 := by
  obtain ⟨b1, b2, pv, bs, vs, live, h, rfl⟩ := h
  have hck := check_any h.hd h.m1 s hs none 0 [] (by simp) (rd_nil 0 w)
  rw [missC_nil] at hck
  have HH := Lib.hid h
  by_cases hz : missM m s = 0
  · obtain ⟨hoff, hg, i, hfd⟩ := missM_zero hz
    rw [hz] at hck
    have hD : deleteM m s = (if (writeM m).off = true then (25, writeM m) else (0, opM (writeM m) ⟨3, s, [], 0⟩)) := by rw [deleteM, if_pos hz]
    rw [hD]
    have hwr := fun W (hr : RowAt W d 58 (hdC m (.map (some b1)) (.map (some b2)) pv)) => write_any hr ho.armed
    obtain ⟨off, hoff'⟩ : ∃ off, off = (writeM m).off := ⟨_, rfl⟩
    rw [← hoff'] at hwr ⊢
    have HW := Lib.hid hwr
    have HG := Lib.hid hg
    have HO := Lib.hid ho
    have HN := Lib.hid hN
    clear h hz hoff hg hfd hD hwr hoff' ho hN
    cases off
    · rw [if_neg (by simp)]
      go_enter Try.func11, Try.ntmps11
      go_wp2_with fail
      refine hck.mono ?_
      rintro e1 w1 ⟨rfl, hf1⟩
      clear hck
      go_wp2_with fail
      refine (HW.out _ (HH.out.hd.frm hf1 (by simp))).mono ?_
      rintro e3 w3 ⟨rfl, hr3, hf3⟩
      have h3 := (HH.out.frm hf1 (by simp)).head hr3 hf3 (writeM_files m) (writeM_dir m) (writeM_safe m) (writeM_ops m)
      have hch := change_any h3 (by rw [writeM_dir]; have := HO.out.dirOk.few; omega) (by rw [writeM_ops]; have := HO.out.few2; have := HN.out; omega) (n0 := 0) ⟨3, s, [], 0⟩ (.inr (.inr ⟨rfl, HG.out⟩)) (fun h9 => absurd rfl h9) (fun p hp => h3.live.dir p (mem_withoutD.1 hp).1)
      rw [show opC bs ⟨3, s, [], 0⟩ = [str [], str s, .pointer none] from rfl] at hch
      have HCH := Lib.hid hch
      have F3 : Hid (Frm [d] w w3) := Lib.hid ((hf1.mono (by simp)).trans hf3 (fun x hx => .inl hx))
      clear hch h3 hr3 hf3 hf1
      go_wp2_with fail
      refine HCH.out.mono ?_
      rintro e4 w4 ⟨rfl, pv4, h4, hf4, hp4⟩
      go_wp2_with fail
      go_ret
      refine ⟨rfl, PDStep.mk h4 ((F3.out.mono (fun x hx => by rw [List.mem_singleton] at hx; rw [hx]; exact fpR_d)).trans hf4 (fun x hx => .inl (by
        rcases List.mem_cons.1 hx with rfl | hx
        · exact fpR_d
        · rcases List.mem_cons.1 hx with rfl | hx
          · exact fpR_1
          · exact fpR_p (by simpa using hx)))) fpR_d fpR_1 (.inl fpR_2) (fun k hk => ?_) (fun j hj => .inl (fpR_b hj)) (fun j hj k hk => .inl (fpR_v hj hk))⟩
      rcases hp4 k hk with h9 | h9
      · exact .inl (fpR_p h9)
      · have := F3.out.size
        exact .inr (by omega)
    · rw [if_pos rfl]
      go_enter Try.func11, Try.ntmps11
      go_wp2_with fail
      refine hck.mono ?_
      rintro e1 w1 ⟨rfl, hf1⟩
      clear hck
      go_wp2_with fail
      refine (HW.out _ (HH.out.hd.frm hf1 (by simp))).mono ?_
      rintro e3 w3 ⟨rfl, hr3, hf3⟩
      go_wp2_with fail
      go_ret
      exact ⟨rfl, PDStep.write HH.out hr3 ((hf1.mono (by simp)).trans hf3 (fun x hx => .inl hx))⟩
  · have hD : deleteM m s = (missM m s, m) := by rw [deleteM, if_neg hz]
    rw [hD]
    obtain ⟨e, he⟩ : ∃ e, e = missM m s := ⟨_, rfl⟩
    rw [← he] at hck hz ⊢
    have hb0 : (e != 0) = true := by simp [hz]
    clear h hz he hD
    go_enter Try.func11, Try.ntmps11
    go_wp2_with fail
    refine hck.mono ?_
    rintro e1 w1 ⟨rfl, hf1⟩
    go_wp2_with fail
    go_ret
    exact ⟨rfl, PDStep.step ⟨b1, b2, pv, bs, vs, live, HH.out, rfl⟩ hf1⟩
end

end Go.Proofs.Ytkebdgbjgbcneaa
