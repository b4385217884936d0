/- Contracts of Rename, Sync, Read of the program's disk. -/
import Derived.Test.YtkebdgbjgbcneaaDK
import Derived.Test.YtkebdgbjgbcneaaDH
namespace Go.Proofs.Ytkebdgbjgbcneaa
open Go.RowKit Go.Maps

theorem rd_one (w : World) (t : Nm) : Rd (w.heap.size + 1) (w.alloc (.cells #[str t] 9)) (some ⟨w.heap.size, 0, none⟩) [t].length 1 1 (strs [t]) :=
  ⟨rfl, Nat.le_refl _, by unfold maxLen; decide, fun i u hu => by
    cases i with
    | zero =>
      simp only [strs, List.map_cons, List.getElem?_cons_zero, Option.some.injEq] at hu
      subst hu
      exact ⟨w.heap.size, 0, rfl, Nat.lt_succ_self _, (RowAt.made w 9 [str t] #[str t] rfl).cell (i := 0) rfl⟩
    | succ i => simp [strs] at hu⟩
section
variable {w : World} {d b1 b2 N : Nat} {pv : Value} {bs : Nat → Nat} {vs : Nat → Value} {live : List Nat} {m : DM} {fp : List Nat}
set_option linter.unusedSimpArgs false in
set_option maxRecDepth 100000 in
set_option maxHeartbeats 1000000 in
theorem rename_any (h : PD w d fp m) (ho : DOk N m) (hN : N ≤ 900) {s t : Nm} (hs : s.length ≤ maxLen) (ht : t.length ≤ maxLen) :
    Calls Try.prog 19 #[.pointer (some ⟨d, 0, none⟩), str s, str t] w fun e w' => e = .returned (.int .i64 (renameM m s t).1) ∧ PDStep w w' d fp (renameM m s t).2 := by
  obtain ⟨b1, b2, pv, bs, vs, live, h, rfl⟩ := h
  have fs : Frm [] w (w.alloc (.cells #[str t] 9)) := (Frm.refl [] w).alloc _
  have hst := h.frm fs (by simp)
  have hck := check_any hst.hd hst.m1 s hs (some ⟨w.heap.size, 0, none⟩) 1 [t] (by simpa using ht) (rd_one w t)
  rw [missC_one] at hck
  have FS := Lib.hid fs
  clear fs hst
  have HH := Lib.hid h
  by_cases hz : missRM m s t = 0
  · obtain ⟨hoff, hg, hgt, i, hfd⟩ := missRM_zero hz
    have HFD := Lib.hid hfd
    have HGT := Lib.hid hgt
    rw [hz] at hck
    have hD : renameM m s t = (if (writeM m).off = true then (25, writeM m) else (0, opM (writeM m) ⟨2, s, t, i⟩)) := by rw [renameM, if_pos hz, hfd]; rfl
    rw [hD]
    have hwr := fun W (hr : RowAt W d 58 (hdC m (.map (some b1)) (.map (some b2)) pv)) => write_any hr ho.armed
    obtain ⟨off, hoff'⟩ : ∃ off, off = (writeM m).off := ⟨_, rfl⟩
    rw [← hoff'] at hwr ⊢
    have HW := Lib.hid hwr
    have HG := Lib.hid hg
    have HO := Lib.hid ho
    have HN := Lib.hid hN
    clear h hz hoff hg hgt hfd hD hwr hoff' ho hN
    cases off
    · rw [if_neg (by simp)]
      go_enter Try.func19, Try.ntmps19
      go_wp2_with fail
      refine hck.mono ?_
      rintro e1 w1 ⟨rfl, hf10⟩
      have hf1 : Frm [] w w1 := FS.out.trans hf10 (by simp)
      clear hf10
      clear hck
      go_wp2_with fail
      refine (HW.out _ (HH.out.hd.frm hf1 (by simp))).mono ?_
      rintro e3 w3 ⟨rfl, hr3, hf3⟩
      have h3 := (HH.out.frm hf1 (by simp)).head hr3 hf3 (writeM_files m) (writeM_dir m) (writeM_safe m) (writeM_ops m)
      have hil : i ∈ live := HH.out.live.dir _ (findD_some HFD.out)
      have hlk := h3.m1.look (goodN_max HG.out)
      rw [writeM_dir, HFD.out] at hlk
      simp only [ptrO] at hlk
      have hch := change_any h3 (by rw [writeM_dir]; have := HO.out.dirOk.few; omega) (by rw [writeM_ops]; have := HO.out.few2; have := HN.out; omega) (n0 := i + 1) ⟨2, s, t, i⟩ (.inr (.inl ⟨rfl, HG.out, HGT.out, Nat.lt_succ_self _⟩)) (fun _ => hil) (fun p hp => by
        have hp' : p ∈ withD (withoutD (writeM m).dir s) t i := hp
        rcases mem_withD.1 hp' with rfl | ⟨hp9, _⟩
        · exact hil
        · exact h3.live.dir p (mem_withoutD.1 hp9).1)
      rw [show opC bs ⟨2, s, t, i⟩ = [str s, str t, .pointer (some ⟨bs i, 0, none⟩)] from rfl] at hch
      have HCH := Lib.hid hch
      have d1 := h3.hd.cell (i := 1) rfl
      have F3 : Hid (Frm [d] w w3) := Lib.hid ((hf1.mono (by simp)).trans hf3 (fun x hx => .inl hx))
      clear hch h3 hr3 hf3 hf1
      go_wp2_with fail
      refine HCH.out.mono ?_
      rintro e4 w4 ⟨rfl, pv4, h4, hf4, hp4⟩
      go_wp2_with fail
      go_ret
      refine ⟨rfl, PDStep.mk h4 ((F3.out.mono (fun x hx => by rw [List.mem_singleton] at hx; rw [hx]; exact fpR_d)).trans hf4 (fun x hx => .inl (by
        rcases List.mem_cons.1 hx with rfl | hx
        · exact fpR_d
        · rcases List.mem_cons.1 hx with rfl | hx
          · exact fpR_1
          · exact fpR_p (by simpa using hx)))) fpR_d fpR_1 (.inl fpR_2) (fun k hk => ?_) (fun j hj => .inl (fpR_b hj)) (fun j hj k hk => .inl (fpR_v hj hk))⟩
      rcases hp4 k hk with h9 | h9
      · exact .inl (fpR_p h9)
      · have := F3.out.size
        exact .inr (by omega)
    · rw [if_pos rfl]
      go_enter Try.func19, Try.ntmps19
      go_wp2_with fail
      refine hck.mono ?_
      rintro e1 w1 ⟨rfl, hf10⟩
      have hf1 : Frm [] w w1 := FS.out.trans hf10 (by simp)
      clear hf10
      clear hck
      go_wp2_with fail
      refine (HW.out _ (HH.out.hd.frm hf1 (by simp))).mono ?_
      rintro e3 w3 ⟨rfl, hr3, hf3⟩
      go_wp2_with fail
      go_ret
      exact ⟨rfl, PDStep.write HH.out hr3 ((hf1.mono (by simp)).trans hf3 (fun x hx => .inl hx))⟩
  · have hD : renameM m s t = (missRM m s t, m) := by rw [renameM, if_neg hz]
    rw [hD]
    obtain ⟨e, he⟩ : ∃ e, e = missRM m s t := ⟨_, rfl⟩
    rw [← he] at hck hz ⊢
    have hb0 : (e != 0) = true := by simp [hz]
    clear h hz he hD
    go_enter Try.func19, Try.ntmps19
    go_wp2_with fail
    refine hck.mono ?_
    rintro e1 w1 ⟨rfl, hf10⟩
    have hf1 : Frm [] w w1 := FS.out.trans hf10 (by simp)
    clear hf10
    go_wp2_with fail
    go_ret
    exact ⟨rfl, PDStep.step ⟨b1, b2, pv, bs, vs, live, HH.out, rfl⟩ hf1⟩

theorem DR.seal {w' : World} {b3 : Nat} (h : DR w d b1 b2 pv bs vs live m) (hr : RowAt w' d 58 (hdC m (.map (some b1)) (.map (some b3)) (.slice none 0 0))) (hm : MapD w' b3 bs m.dir) (hne : b1 ≠ b3) (hf : Frm [d] w w') : DR w' d b1 b3 (.slice none 0 0) bs vs live { m with safe := m.dir, ops := [] } := by
  have hd := h.d_ne
  exact ⟨hr, h.m1.frm hf (by simpa using hd.1), hm, hne, World.ownsRow_nil _ _ _ _, h.files.frm hf (fun k hk hm => hd.2.2 (by rw [List.mem_singleton] at hm; rw [← hm]; exact hk)), ⟨h.live.dir, h.live.dir, fun o ho => by cases ho⟩⟩
theorem clone_map (h : MapD w b1 bs m.dir) : Calls Try.prog 35 #[.map (some b1)] w fun e w' => e = .returned (.map (some w.heap.size)) ∧ MapD w' w.heap.size bs m.dir ∧ Frm [] w w' :=
  (Try.maps_Clone_owns 9 rdP b1 m.dir.length (dirDat bs m.dir) w h).mono fun _ _ ⟨he, h1, _, h3⟩ => ⟨he, h1, Frm.of_below h3⟩
theorem clone_bytes (v : Value) (xs : List UInt8) (h : BytesV w v xs) (hl : xs.length ≤ 1000000000) : Calls Try.prog 38 #[v] w fun e w' => ∃ a c, e = .returned (.slice a xs.length c) ∧ w'.ownsRow w.heap.size 5 1 (.slice a xs.length c) xs.length (byt xs) ∧ Frm [] w w' := by
  rcases h with ⟨rfl, rfl⟩ | ⟨b, o, cap, rfl, h1, h2, h3, h4⟩
  · refine (Try.bytes_Clone_nil 0 0 w).mono ?_
    rintro e w' ⟨rfl, rfl⟩
    exact ⟨none, 0, rfl, World.ownsRow_nil _ _ _ _, Frm.refl _ _⟩
  · refine (Try.bytes_Clone_at ⟨b, o, none⟩ xs.length cap (xs.map fun x => (x.toNat : Int)) w (by simp) (by omega) (fun i hi => ?_)).mono ?_
    · rw [Addr.add_lit]
      have hx := List.getElem?_eq_getElem hi
      have := h4 i _ hx
      rw [this, List.getD_eq_getElem?_getD, List.getElem?_map, hx]
      rfl
    · rintro e w' ⟨v', rfl, hown, _, hb⟩
      rw [List.map_map] at hown
      have hown' : w'.ownsRow w.heap.size 5 1 v' xs.length (byt xs) := hown
      obtain ⟨a, c, rfl, _⟩ := owns_shape (ownsB_mono hown' (Nat.zero_le _))
      exact ⟨a, c, rfl, hown', Frm.of_below hb⟩

set_option linter.unusedSimpArgs false in
set_option maxRecDepth 100000 in
set_option maxHeartbeats 1000000 in
theorem sync_any (h : PD w d fp m) (ho : DOk N m) {s : Nm} (hs : s.length ≤ maxLen) :
    Calls Try.prog 16 #[.pointer (some ⟨d, 0, none⟩), str s] w fun e w' => e = .returned (.int .i64 (syncM m s).1) ∧ PDStep w w' d fp (syncM m s).2 := by
  obtain ⟨b1, b2, pv, bs, vs, live, h, rfl⟩ := h
  have hck := check_any h.hd h.m1 s hs none 0 [] (by simp) (rd_nil 0 w)
  rw [missC_nil] at hck
  have HH := Lib.hid h
  by_cases hz : missM m s = 0
  · obtain ⟨hoff, hg, i, hfd⟩ := missM_zero hz
    rw [hz] at hck
    have hD : syncM m s = (if (writeM m).off = true then (25, writeM m) else (0, sealM (writeM m) i)) := by rw [syncM, if_pos hz, hfd]; rfl
    rw [hD]
    have hwr := fun W (hr : RowAt W d 58 (hdC m (.map (some b1)) (.map (some b2)) pv)) => write_any hr ho.armed
    obtain ⟨off, hoff'⟩ : ∃ off, off = (writeM m).off := ⟨_, rfl⟩
    rw [← hoff'] at hwr ⊢
    have HW := Lib.hid hwr
    have HG := Lib.hid hg
    have HO := Lib.hid ho
    have HFD := Lib.hid hfd
    have HSL := Lib.hid hs
    clear h hz hoff hg hfd hD hwr hoff' ho hs
    cases off
    · rw [if_neg (by simp)]
      go_enter Try.func16, Try.ntmps16
      go_wp2_with fail
      refine hck.mono ?_
      rintro e1 w1 ⟨rfl, hf1⟩
      clear hck
      go_wp2_with fail
      refine (HW.out _ (HH.out.hd.frm hf1 (by simp))).mono ?_
      rintro e3 w3 ⟨rfl, hr3, hf3⟩
      have h3 := (HH.out.frm hf1 (by simp)).head hr3 hf3 (writeM_files m) (writeM_dir m) (writeM_safe m) (writeM_ops m)
      have hil : i ∈ live := HH.out.live.dir _ (findD_some HFD.out)
      have hlk := h3.m1.look HSL.out
      rw [writeM_dir, HFD.out] at hlk
      simp only [ptrO] at hlk
      have hat := h3.files.at_ i hil
      have hda := h3.files.data i hil
      obtain ⟨f, hf⟩ : ∃ f, f = fileAt (writeM m).files i := ⟨_, rfl⟩
      rw [← hf] at hat hda
      obtain ⟨va, vc, hvv, hvl⟩ := buf_shape hda
      have g0 := hat.cell (i := 0) rfl
      have g1 := hat.cell (i := 1) rfl
      have z1 := hat.frozen 1
      rw [hvv] at g0
      have d1 := h3.hd.cell (i := 1) rfl
      have d2 := h3.hd.cell (i := 2) rfl
      have d3 := h3.hd.cell (i := 3) rfl
      have y2 := h3.hd.frozen 2
      have y3 := h3.hd.frozen 3
      have hbd : bs i ≠ d := fun e => h3.d_ne.2.2 (mem_fileB.2 (.inl ⟨i, hil, e⟩))
      have hne : ∀ k, (vs i).ownBlock = some k → k ≠ bs i := fun k hk e => by
        have := buf_row_ty hda hat (e ▸ hk)
        exact absurd this (by decide)
      have hput := h3.put (w' := w3.setCell ⟨bs i, 1, none⟩ (.int .i64 (f.data.length : Int))) hil (v := vs i) (f := ⟨f.data, f.data.length⟩) (hat.setCell 1 _) (buf_frm hda (fp := [bs i]) ((Frm.refl [bs i] w3).setCell (p := ⟨bs i, 1, none⟩) (.inl (by simp)) _) (fun k hk hm => hne k hk (by simpa using hm))) ((Frm.refl _ w3).setCell (p := ⟨bs i, 1, none⟩) (.inl List.mem_cons_self) _) (fun k hk => .inl hk)
      have F3 : Hid (Frm [d] w w3) := Lib.hid ((hf1.mono (by simp)).trans hf3 (fun x hx => .inl hx))
      have HP := Lib.hid hput
      have HF := Lib.hid hf
      have HIL := Lib.hid hil
      have hvv2 : upd vs i (vs i) = vs := by
        funext j
        by_cases e : j = i
        · rw [e, upd_same]
        · rw [upd_other _ _ e]
      rw [hvv2] at HP
      clear h3 hr3 hf3 hf1 hat hda hput hvl hne hf hil hvv hvv2
      go_wp2_with fail
      have hcl := clone_map (w := w3.setCell ⟨bs i, 1, none⟩ (.int .i64 (f.data.length : Int))) (m := { writeM m with files := (writeM m).files.set i ⟨f.data, f.data.length⟩ }) HP.out.m1
      refine hcl.mono ?_
      rintro e4 w4 ⟨rfl, hm4, hf4⟩
      have hP4 := HP.out.frm hf4 (by simp)
      have q2 := hP4.hd.cell (i := 2) rfl
      have q3 := hP4.hd.cell (i := 3) rfl
      have y2 := hP4.hd.frozen 2
      have y3 := hP4.hd.frozen 3
      have hnd : (w3.setCell ⟨bs i, 1, none⟩ (.int .i64 (f.data.length : Int))).heap.size ≠ d := by
        have := HP.out.hd.lt
        omega
      have hn1 : b1 ≠ (w3.setCell ⟨bs i, 1, none⟩ (.int .i64 (f.data.length : Int))).heap.size := by
        have := HP.out.m1.lt
        omega
      have HM4 := Lib.hid hm4
      have HP4 := Lib.hid hP4
      have HND := Lib.hid hnd
      have HN1 := Lib.hid hn1
      have F4 : Hid (Frm [d, bs i] w w4) := Lib.hid (((F3.out.mono (by simp)).setCell (p := ⟨bs i, 1, none⟩) (.inl (by simp)) _).trans hf4 (by simp))
      have hsz : w.heap.size ≤ (w3.setCell ⟨bs i, 1, none⟩ (.int .i64 (f.data.length : Int))).heap.size := by
        have := F3.out.size
        rw [World.size_setCell]
        exact this
      have HSZ := Lib.hid hsz
      clear hcl hm4 hf4 hP4 g0 g1 z1 d1 d2 d3 hlk hbd hnd hn1 hsz
      generalize (w3.setCell ⟨bs i, 1, none⟩ (.int .i64 (f.data.length : Int))).heap.size = b3 at *
      go_wp2_with fail
      go_ret
      have fD : Frm [d] w4 ((w4.setCell ⟨d, 2, none⟩ (.map (some b3))).setCell ⟨d, 3, none⟩ (.slice none 0 0)) := ((Frm.refl [d] w4).setCell (p := ⟨d, 2, none⟩) (.inl (by simp)) _).setCell (p := ⟨d, 3, none⟩) (.inl (by simp)) _
      have hS := HP4.out.seal ((HP4.out.hd.setCell 2 (.map (some b3))).setCell 3 (.slice none 0 0)) (HM4.out.frm fD (by simpa using HND.out)) HN1.out fD
      have eS : { { writeM m with files := (writeM m).files.set i ⟨f.data, f.data.length⟩ } with safe := (writeM m).dir, ops := [] } = sealM (writeM m) i := by rw [sealM, HF.out]
      rw [← eS]
      refine ⟨rfl, PDStep.mk hS ((F4.out.mono (fun x hx => ?_)).trans fD (fun x hx => ?_)) fpR_d fpR_1 (.inr HSZ.out) (fun k hk => by simp [Value.ownBlock] at hk) (fun j hj => .inl (fpR_b hj)) (fun j hj k hk => .inl (fpR_v hj hk))⟩
      · rcases List.mem_cons.1 hx with rfl | hx
        · exact fpR_d
        · rw [List.mem_singleton] at hx
          rw [hx]
          exact fpR_b HIL.out
      · rw [List.mem_singleton] at hx
        rw [hx]
        exact .inl fpR_d
    · rw [if_pos rfl]
      go_enter Try.func16, Try.ntmps16
      go_wp2_with fail
      refine hck.mono ?_
      rintro e1 w1 ⟨rfl, hf1⟩
      clear hck
      go_wp2_with fail
      refine (HW.out _ (HH.out.hd.frm hf1 (by simp))).mono ?_
      rintro e3 w3 ⟨rfl, hr3, hf3⟩
      go_wp2_with fail
      go_ret
      exact ⟨rfl, PDStep.write HH.out hr3 ((hf1.mono (by simp)).trans hf3 (fun x hx => .inl hx))⟩
  · have hD : syncM m s = (missM m s, m) := by rw [syncM, if_neg hz]
    rw [hD]
    obtain ⟨e, he⟩ : ∃ e, e = missM m s := ⟨_, rfl⟩
    rw [← he] at hck hz ⊢
    have hb0 : (e != 0) = true := by simp [hz]
    clear h hz he hD
    go_enter Try.func16, Try.ntmps16
    go_wp2_with fail
    refine hck.mono ?_
    rintro e1 w1 ⟨rfl, hf1⟩
    go_wp2_with fail
    go_ret
    exact ⟨rfl, PDStep.step ⟨b1, b2, pv, bs, vs, live, HH.out, rfl⟩ hf1⟩

def ReadEnd (w : World) (xs : List UInt8) (er : Int) (w' : World) (e : Ending) : Prop := ∃ a c, e = .returned (.tuple #[.slice a xs.length c, .int .i64 er]) ∧ w'.ownsRow w.heap.size 5 1 (.slice a xs.length c) xs.length (byt xs)
set_option linter.unusedSimpArgs false in
set_option maxRecDepth 100000 in
set_option maxHeartbeats 1000000 in
theorem read_any (h : PD w d fp m) (ho : DOk N m) {s : Nm} (hs : s.length ≤ maxLen) :
    Calls Try.prog 21 #[.pointer (some ⟨d, 0, none⟩), str s] w fun e w' => ReadEnd w (readM m s).1 (readM m s).2 w' e ∧ Frm [] w w' := by
  obtain ⟨b1, b2, pv, bs, vs, live, h, rfl⟩ := h
  have hck := check_any h.hd h.m1 s hs none 0 [] (by simp) (rd_nil 0 w)
  rw [missC_nil] at hck
  by_cases hz : missM m s = 0
  · obtain ⟨hoff, hg, i, hfd⟩ := missM_zero hz
    rw [hz] at hck
    have hD : readM m s = ((fileAt m.files i).data, 0) := by rw [readM, if_pos hz, hfd]; rfl
    rw [hD]
    have hil : i ∈ live := h.live.dir _ (findD_some hfd)
    have hfl := (ho.fileAt (h.files.lt i hil)).2
    have hat := h.files.at_ i hil
    have hda := h.files.data i hil
    have HM := Lib.hid h.m1
    have c1 := h.hd.cell (i := 1) rfl
    obtain ⟨f, hf⟩ : ∃ f, f = (fileAt m.files i).data := ⟨_, rfl⟩
    rw [← hf] at hda hfl ⊢
    obtain ⟨va, vc, hvv, hvl⟩ := buf_shape hda
    rw [hvv] at hat hda
    have HAT := Lib.hid hat
    have HB := Lib.hid (buf_bytes hda)
    have HL : Hid (f.length ≤ 1000000000) := Lib.hid (by omega)
    have HFD := Lib.hid hfd
    have HSL := Lib.hid hs
    clear h hz hoff hg hfd hD ho hs hil hat hda hf hvv hvl hfl
    go_enter Try.func21, Try.ntmps21
    go_wp2_with fail
    refine hck.mono ?_
    rintro e1 w1 ⟨rfl, hf1⟩
    have hlk := (HM.out.frm hf1 (by simp)).look HSL.out
    rw [HFD.out] at hlk
    simp only [ptrO] at hlk
    have d1 := hf1.cell c1 (by simp)
    have g0 := (HAT.out.frm hf1 (by simp)).cell (i := 0) rfl
    clear hck c1
    go_wp2_with fail
    refine (clone_bytes _ f (HB.out.frm hf1 (by simp)) HL.out).mono ?_
    rintro e2 w2 ⟨a2, c2, rfl, ho2, hf2⟩
    go_wp2_with fail
    go_ret2
    exact ⟨⟨a2, c2, rfl, ownsB_mono ho2 hf1.size⟩, hf1.trans hf2 (by simp)⟩
  · have hD : readM m s = ([], missM m s) := by rw [readM, if_neg hz]
    rw [hD]
    obtain ⟨e, he⟩ : ∃ e, e = missM m s := ⟨_, rfl⟩
    rw [← he] at hck hz ⊢
    have hb0 : (e != 0) = true := by simp [hz]
    clear h hz he hD
    go_enter Try.func21, Try.ntmps21
    go_wp2_with fail
    refine hck.mono ?_
    rintro e1 w1 ⟨rfl, hf1⟩
    go_wp2_with fail
    go_ret2
    exact ⟨⟨none, 0, rfl, World.ownsRow_nil _ _ _ _⟩, hf1⟩
end

end Go.Proofs.Ytkebdgbjgbcneaa
