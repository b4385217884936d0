/- Contract of Append of the program's disk. -/
import Derived.Test.YtkebdgbjgbcneaaDG
namespace Go.Proofs.Ytkebdgbjgbcneaa
open Go.RowKit Go.Maps

theorem PDStep.mk {w w' : World} {d b1 b2 : Nat} {pv' : Value} {bs' : Nat → Nat} {vs' : Nat → Value} {live' : List Nat} {m' : DM} {fp : List Nat} (h : DR w' d b1 b2 pv' bs' vs' live' m') (hf : Frm fp w w') (hd : d ∈ fp) (h1 : b1 ∈ fp) (h2 : b2 ∈ fp ∨ w.heap.size ≤ b2)
    (hp : ∀ k, pv'.ownBlock = some k → k ∈ fp ∨ w.heap.size ≤ k) (hb : ∀ i ∈ live', bs' i ∈ fp ∨ w.heap.size ≤ bs' i) (hv : ∀ i ∈ live', ∀ k, (vs' i).ownBlock = some k → k ∈ fp ∨ w.heap.size ≤ k) : PDStep w w' d fp m' := by
  refine ⟨_, ⟨b1, b2, pv', bs', vs', live', h, rfl⟩, hf, fun x hx => ?_⟩
  simp only [fpR, List.mem_cons, List.mem_append, Option.mem_toList] at hx
  rcases hx with rfl | rfl | rfl | hx | hx
  · exact .inl hd
  · exact .inl h1
  · exact h2
  · exact hp x hx
  · rcases mem_fileB.1 hx with ⟨i, hi, rfl⟩ | ⟨i, hi, e⟩
    · exact hb i hi
    · exact hv i hi x e
theorem fpR_d {d b1 b2 : Nat} {pv : Value} {bs : Nat → Nat} {vs : Nat → Value} {live : List Nat} : d ∈ fpR d b1 b2 pv bs vs live := by simp [fpR]
theorem fpR_1 {d b1 b2 : Nat} {pv : Value} {bs : Nat → Nat} {vs : Nat → Value} {live : List Nat} : b1 ∈ fpR d b1 b2 pv bs vs live := by simp [fpR]
theorem fpR_2 {d b1 b2 : Nat} {pv : Value} {bs : Nat → Nat} {vs : Nat → Value} {live : List Nat} : b2 ∈ fpR d b1 b2 pv bs vs live := by simp [fpR]
theorem fpR_p {d b1 b2 k : Nat} {pv : Value} {bs : Nat → Nat} {vs : Nat → Value} {live : List Nat} (h : pv.ownBlock = some k) : k ∈ fpR d b1 b2 pv bs vs live := by simp [fpR, h]
theorem fpR_b {d b1 b2 i : Nat} {pv : Value} {bs : Nat → Nat} {vs : Nat → Value} {live : List Nat} (h : i ∈ live) : bs i ∈ fpR d b1 b2 pv bs vs live := by
  simp only [fpR, List.mem_cons, List.mem_append]
  exact .inr (.inr (.inr (.inr (mem_fileB.2 (.inl ⟨i, h, rfl⟩)))))
theorem fpR_v {d b1 b2 i k : Nat} {pv : Value} {bs : Nat → Nat} {vs : Nat → Value} {live : List Nat} (h : i ∈ live) (hk : (vs i).ownBlock = some k) : k ∈ fpR d b1 b2 pv bs vs live := by
  simp only [fpR, List.mem_cons, List.mem_append]
  exact .inr (.inr (.inr (.inr (mem_fileB.2 (.inr ⟨i, h, hk⟩)))))
theorem BytesV.cut {w : World} {a : Option Addr} {n c : Nat} {xs : List UInt8} (h : BytesV w (.slice a n c) xs) {k : Nat} (hk : k ≤ xs.length) : BytesV w (.slice a k c) (xs.take k) := by
  rcases h with ⟨e, rfl⟩ | ⟨b, o, cap, e, h1, h2, h3, h4⟩
  · simp only [Value.slice.injEq] at e
    obtain ⟨rfl, rfl, rfl⟩ := e
    obtain rfl : k = 0 := by simpa using hk
    exact .inl ⟨rfl, rfl⟩
  · simp only [Value.slice.injEq] at e
    obtain ⟨rfl, rfl, rfl⟩ := e
    have hl : (xs.take k).length = k := by rw [List.length_take]; omega
    refine .inr ⟨b, o, c, by rw [hl], by omega, h2, h3, fun i x hx => h4 i x ?_⟩
    have hi : i < k := by
      have := (List.getElem?_eq_some_iff.1 hx).1
      omega
    rwa [List.getElem?_take_of_lt hi] at hx

section
variable {w : World} {d b1 b2 N : Nat} {pv : Value} {bs : Nat → Nat} {vs : Nat → Value} {live : List Nat} {m : DM}
theorem DR.addB {w9 : World} {i n : Nat} {a9 : Option Addr} {c9 : Nat} {b : List UInt8} (h : DR w d b1 b2 pv bs vs live m) (hi : i ∈ live) (hown : BufAt w9 (.slice a9 n c9) n ((fileAt m.files i).data ++ b)) (hf : Frm (vs i).ownBlock.toList w w9) (hloc : ∀ k, (Value.slice a9 n c9).ownBlock = some k → (vs i).ownBlock = some k ∨ k = w.heap.size) :
    DR (w9.setCell ⟨bs i, 0, none⟩ (.slice a9 n c9)) d b1 b2 pv bs (upd vs i (.slice a9 n c9)) live (addM m i b) ∧ Frm (bs i :: (vs i).ownBlock.toList) w (w9.setCell ⟨bs i, 0, none⟩ (.slice a9 n c9)) := by
  have hn : ((fileAt m.files i).data ++ b).length = n := hown.1
  have hne : ∀ k, (vs i).ownBlock = some k → k ≠ bs i := fun k hk e => by
    have := buf_row_ty (h.files.data i hi) (h.files.at_ i hi) (e ▸ hk)
    exact absurd this (by decide)
  have hlt := (h.files.at_ i hi).lt
  have r9 := (h.files.at_ i hi).frm hf (fun hm => hne _ (by simpa using hm) rfl)
  have hF : Frm (bs i :: (vs i).ownBlock.toList) w (w9.setCell ⟨bs i, 0, none⟩ (.slice a9 n c9)) := (hf.mono (fun x hx => List.mem_cons_of_mem _ hx)).setCell (p := ⟨bs i, 0, none⟩) (.inl List.mem_cons_self) _
  refine ⟨h.put hi (v := .slice a9 n c9) (f := ⟨(fileAt m.files i).data ++ b, (fileAt m.files i).safe⟩) (r9.setCell 0 _) ?_ hF (fun k hk => ?_), hF⟩
  · show BufAt _ _ ((fileAt m.files i).data ++ b).length _
    rw [hn]
    refine buf_frm hown (fp := [bs i]) ((Frm.refl [bs i] w9).setCell (p := ⟨bs i, 0, none⟩) (.inl (by simp)) _) (fun k hk hm => ?_)
    rw [List.mem_singleton] at hm
    rcases hloc k hk with h9 | h9
    · exact hne k h9 hm
    · omega
  · rcases hloc k hk with h9 | h9
    · exact .inl h9
    · exact .inr (by omega)
set_option linter.unusedSimpArgs false in
set_option maxRecDepth 100000 in
set_option maxHeartbeats 4000000 in
theorem append_some (h : DR w d b1 b2 pv bs vs live m) (ho : DOk N m) {s : Nm} (hg : goodN s = true) (hoff : m.off = false) {b : List UInt8} (hfull : fullM m s b = false) {v : Value} (hb : BytesV w v b) (hsrc : ∀ k, v.ownBlock = some k → k ∉ fpR d b1 b2 pv bs vs live) {i : Nat} (hfd : findD m.dir s = some i) :
    Calls Try.prog 10 #[.pointer (some ⟨d, 0, none⟩), str s, v] w fun e w' => e = .returned (.int .i64 (if (writeM m).off = true then 25 else 0)) ∧ PDStep w w' d (fpR d b1 b2 pv bs vs live) (putM (writeM m) s b) := by
  obtain ⟨a2, c2, rfl, hlc, hcm⟩ := hb.shape
  have hi : i ∈ live := h.live.dir _ (findD_some hfd)
  have hput : putM (writeM m) s b = addM (writeM m) i (cutB (writeM m).off b) := by rw [putM, writeM_dir, hfd]
  rw [hput]
  have hlk := h.m1.look (goodN_max hg)
  rw [hfd] at hlk
  have hlk' : (Instr.lookup 55 (.map (some b1)) (str s) false).run Try.prog w = .ok (.pointer (some ⟨bs i, 0, none⟩)) w := hlk
  have hv := valid_any s w (goodN_max hg)
  rw [hg] at hv
  have hub := ho.used
  have hcap := ho.cap
  have hnf : ¬ (m.cap < usedD m.files m.dir + b.length) := by
    intro h9
    rw [fullM] at hfull
    simp [h9] at hfull
  have c0 := h.hd.cell (i := 0) rfl
  have c1 := h.hd.cell (i := 1) rfl
  have c6 := h.hd.cell (i := 6) rfl
  rw [hoff] at c6
  obtain ⟨U, hU⟩ : ∃ U, U = usedD m.files m.dir := ⟨_, rfl⟩
  have HUU := Lib.hid hU
  rw [← hU] at hub hnf
  have iw : IntKind.i64.wrap ((m.cap : Int) - (U : Int)) = (m.cap : Int) - (U : Int) := IntWalk.i64_in _ (by omega)
  have iw2 : RowKit.wrap64 ((m.cap : Int) - (U : Int)) = (m.cap : Int) - (U : Int) := by rw [← IntWalk.i64_left]; exact iw
  have i1 : ¬ ((m.cap : Int) - (U : Int) < (b.length : Int)) := by omega
  have i2 : (b.length : Int) ≤ (c2 : Int) := by omega
  have i3 : (c2 : Int) ≤ 9223372036854775807 := by unfold maxLen at hcm; omega
  have hwr := fun W (hr : RowAt W d 58 (hdC m (.map (some b1)) (.map (some b2)) pv)) => write_any hr ho.armed
  have HW := Lib.hid hwr
  have HH := Lib.hid h
  have HO := Lib.hid ho
  have HB := Lib.hid hb
  have HS := Lib.hid hsrc
  have HI := Lib.hid hi
  have HLC := Lib.hid hlc
  obtain ⟨k2, hk2⟩ : ∃ k, k = b.length / 2 := ⟨_, rfl⟩
  have HK2 := Lib.hid hk2
  have iq : (b.length : Int).tdiv 2 = (k2 : Int) := by rw [hk2]; exact (Int.ofNat_tdiv b.length 2).symm
  have i4 : (k2 : Int) ≤ (c2 : Int) := by omega
  have i5 : (0 : Int) ≤ (k2 : Int) := by omega
  have HL2 : Hid (k2 ≤ b.length) := Lib.hid (by omega)
  have HBL : Hid (b.length ≤ 4194304) := Lib.hid (by omega)
  have HFB : Hid ((fileAt m.files i).data.length + b.length ≤ 8388608) := Lib.hid (by have := (ho.fileAt (h.files.lt i hi)).2; omega)
  obtain ⟨off, hoff'⟩ : ∃ off, off = (writeM m).off := ⟨_, rfl⟩
  have HOFF := Lib.hid hoff'
  rw [← hoff'] at HW ⊢
  clear h ho hg hoff hfull hb hsrc hfd hi hput hlk hub hcap hnf hU hwr hlc hcm hk2 hoff'
  cases off with
  | false =>
    go_enter Try.func10, Try.ntmps10
    go_wp2_with fail
    refine hv.mono ?_
    rintro e1 w1 ⟨rfl, rfl⟩
    clear hv
    go_wp2_with fail
    go_region_held3 (fun w' => w'.cell? ⟨d, 0, none⟩ = some (.int .i64 (m.cap : Int))) (first | exact c0 | exact hf2.cell c0 (by simp)) ((go_at_call 30; refine (used_any (HH.out.hd.frm (by first | exact Frm.refl [] w1 | exact (Frm.refl [] w1).drew | exact (Frm.refl [] w1).drewN _) (by simp)) (HH.out.m1.frm (by first | exact Frm.refl [] w1 | exact (Frm.refl [] w1).drew | exact (Frm.refl [] w1).drewN _) (by simp)) (HH.out.files.frm (by first | exact Frm.refl [] w1 | exact (Frm.refl [] w1).drew | exact (Frm.refl [] w1).drewN _) (by simp)) HH.out.live.dir HO.out).mono ?_; rintro e2 w2 ⟨he2, hf20⟩; rw [← HUU.out] at he2; subst he2; have hf2 : Frm [] w1 w2 := Frm.trans (by first | exact Frm.refl [] w1 | exact (Frm.refl [] w1).drew | exact (Frm.refl [] w1).drewN _) hf20 (by simp)))
    all_goals
      have HF2 := Lib.hid hf2
      clear hf20 hf2
      go_wp2_with fail
      refine (HW.out _ (HH.out.hd.frm HF2.out (by simp))).mono ?_
      rintro e3 w3 ⟨rfl, hr3, hf3⟩
      have H3 := Lib.hid ((HH.out.frm HF2.out (by simp)).head hr3 hf3 (writeM_files m) (writeM_dir m) (writeM_safe m) (writeM_ops m))
      have F3 : Hid (Frm [d] w1 w3) := Lib.hid ((HF2.out.mono (by simp)).trans hf3 (fun x hx => .inl hx))
      have hat := H3.out.files.at_ i HI.out
      have hda := H3.out.files.data i HI.out
      have hdl : (fileAt (writeM m).files i).data.length + b.length ≤ 8388608 := by rw [writeM_files]; exact HFB.out
      obtain ⟨va, vc, hvv, hvl⟩ := buf_shape hda
      have g0 := hat.cell (i := 0) rfl
      have z0 := hat.frozen 0
      rw [hvv] at g0 hda
      have HAT := Lib.hid hat
      have HDA := Lib.hid hda
      have HVV := Lib.hid hvv
      have hB3 := HB.out.frm F3.out (fun k hk hm => HS.out k hk (by rw [List.mem_singleton] at hm; rw [hm]; exact fpR_d))
      have HB3 := Lib.hid hB3
      have hne0 : ∀ k, (Value.slice va (fileAt (writeM m).files i).data.length vc).ownBlock = some k → k ≠ bs i := fun k hk e => by
        have := buf_row_ty hda hat (e ▸ hk)
        exact absurd this (by decide)
      have HNE := Lib.hid hne0
      clear hr3 hf3 c0 c1 c6 hat hda hvv hvl hlk' iw iw2 hB3 hne0
      obtain ⟨n, hn⟩ : ∃ n, n = (fileAt (writeM m).files i).data.length := ⟨_, rfl⟩
      rw [← hn] at g0 hdl HDA HVV HNE
      have HN := Lib.hid hn
      clear hn
      have HBC : Hid (b.length = b.length ∧ b.length ≤ b.length) := Lib.hid ⟨rfl, Nat.le_refl _⟩
      have HDL := Lib.hid hdl
      go_wp2_with (first | (at_builtin; refine app_buf rfl _ _ rfl n (n + b.length) (.slice va n vc) (fileAt (writeM m).files i).data rfl HDA.out (.slice a2 b.length c2) b rfl HB3.out (by have := HBC.out.1; omega) (by have := HDL.out; have := HBC.out.2; omega) ?_; intro a9 c9 w9 hown9 hf9 hloc9; have r9 := HAT.out.frm hf9 (fun hm => HNE.out _ (by simpa using hm) rfl); have y9 := r9.cell (i := 0) rfl; have z9 := r9.frozen 0) | fail)
      go_wp2_with fail
      go_ret
      rw [← HVV.out] at hf9 hloc9
      obtain ⟨R1, R2⟩ := H3.out.addB HI.out hown9 hf9 hloc9
      refine ⟨rfl, ?_⟩
      have hFF : Frm (fpR d b1 b2 pv bs vs live) w1 (w9.setCell ⟨bs i, 0, none⟩ (.slice a9 (n + b.length) c9)) := (F3.out.mono (fun x hx => by rw [List.mem_singleton] at hx; rw [hx]; exact fpR_d)).trans R2 (fun x hx => by
        rcases List.mem_cons.1 hx with rfl | hx
        · exact .inl (fpR_b HI.out)
        · exact .inl (fpR_v HI.out (by simpa using hx)))
      rw [show cutB false b = b from rfl]
      refine PDStep.mk R1 hFF fpR_d fpR_1 (.inl fpR_2) (fun k hk => .inl (fpR_p hk)) (fun j hj => .inl (fpR_b hj)) (fun j hj k hk => ?_)
      by_cases e : j = i
      · rw [e, upd_same] at hk
        rcases hloc9 k hk with h9 | h9
        · exact .inl (fpR_v HI.out h9)
        · exact .inr (by rw [h9]; exact F3.out.size)
      · rw [upd_other _ _ e] at hk
        exact .inl (fpR_v hj hk)
  | true =>
    go_enter Try.func10, Try.ntmps10
    go_wp2_with fail
    refine hv.mono ?_
    rintro e1 w1 ⟨rfl, rfl⟩
    clear hv
    go_wp2_with fail
    go_region_held3 (fun w' => w'.cell? ⟨d, 0, none⟩ = some (.int .i64 (m.cap : Int))) (first | exact c0 | exact hf2.cell c0 (by simp)) ((go_at_call 30; refine (used_any (HH.out.hd.frm (by first | exact Frm.refl [] w1 | exact (Frm.refl [] w1).drew | exact (Frm.refl [] w1).drewN _) (by simp)) (HH.out.m1.frm (by first | exact Frm.refl [] w1 | exact (Frm.refl [] w1).drew | exact (Frm.refl [] w1).drewN _) (by simp)) (HH.out.files.frm (by first | exact Frm.refl [] w1 | exact (Frm.refl [] w1).drew | exact (Frm.refl [] w1).drewN _) (by simp)) HH.out.live.dir HO.out).mono ?_; rintro e2 w2 ⟨he2, hf20⟩; rw [← HUU.out] at he2; subst he2; have hf2 : Frm [] w1 w2 := Frm.trans (by first | exact Frm.refl [] w1 | exact (Frm.refl [] w1).drew | exact (Frm.refl [] w1).drewN _) hf20 (by simp)))
    all_goals
      have HF2 := Lib.hid hf2
      clear hf20 hf2
      go_wp2_with fail
      refine (HW.out _ (HH.out.hd.frm HF2.out (by simp))).mono ?_
      rintro e3 w3 ⟨rfl, hr3, hf3⟩
      have H3 := Lib.hid ((HH.out.frm HF2.out (by simp)).head hr3 hf3 (writeM_files m) (writeM_dir m) (writeM_safe m) (writeM_ops m))
      have F3 : Hid (Frm [d] w1 w3) := Lib.hid ((HF2.out.mono (by simp)).trans hf3 (fun x hx => .inl hx))
      have hat := H3.out.files.at_ i HI.out
      have hda := H3.out.files.data i HI.out
      have hdl : (fileAt (writeM m).files i).data.length + b.length ≤ 8388608 := by rw [writeM_files]; exact HFB.out
      obtain ⟨va, vc, hvv, hvl⟩ := buf_shape hda
      have g0 := hat.cell (i := 0) rfl
      have z0 := hat.frozen 0
      rw [hvv] at g0 hda
      have HAT := Lib.hid hat
      have HDA := Lib.hid hda
      have HVV := Lib.hid hvv
      have hB3 := HB.out.frm F3.out (fun k hk hm => HS.out k hk (by rw [List.mem_singleton] at hm; rw [hm]; exact fpR_d))
      have HB3 := Lib.hid (hB3.cut HL2.out)
      have hne0 : ∀ k, (Value.slice va (fileAt (writeM m).files i).data.length vc).ownBlock = some k → k ≠ bs i := fun k hk e => by
        have := buf_row_ty hda hat (e ▸ hk)
        exact absurd this (by decide)
      have HNE := Lib.hid hne0
      clear hr3 hf3 c0 c1 c6 hat hda hvv hvl hlk' iw iw2 hB3 hne0
      obtain ⟨n, hn⟩ : ∃ n, n = (fileAt (writeM m).files i).data.length := ⟨_, rfl⟩
      rw [← hn] at g0 hdl HDA HVV HNE
      have HN := Lib.hid hn
      clear hn
      have HBC : Hid ((b.take k2).length = k2 ∧ k2 ≤ b.length) := Lib.hid ⟨by rw [List.length_take]; have := HL2.out; omega, HL2.out⟩
      have HDL := Lib.hid hdl
      go_wp2_with (first | (at_builtin; refine app_buf rfl _ _ rfl n (n + k2) (.slice va n vc) (fileAt (writeM m).files i).data rfl HDA.out (.slice a2 k2 c2) (b.take k2) rfl HB3.out (by have := HBC.out.1; omega) (by have := HDL.out; have := HBC.out.2; omega) ?_; intro a9 c9 w9 hown9 hf9 hloc9; have r9 := HAT.out.frm hf9 (fun hm => HNE.out _ (by simpa using hm) rfl); have y9 := r9.cell (i := 0) rfl; have z9 := r9.frozen 0) | fail)
      go_wp2_with fail
      go_ret
      rw [← HVV.out] at hf9 hloc9
      obtain ⟨R1, R2⟩ := H3.out.addB HI.out hown9 hf9 hloc9
      refine ⟨rfl, ?_⟩
      have hFF : Frm (fpR d b1 b2 pv bs vs live) w1 (w9.setCell ⟨bs i, 0, none⟩ (.slice a9 (n + k2) c9)) := (F3.out.mono (fun x hx => by rw [List.mem_singleton] at hx; rw [hx]; exact fpR_d)).trans R2 (fun x hx => by
        rcases List.mem_cons.1 hx with rfl | hx
        · exact .inl (fpR_b HI.out)
        · exact .inl (fpR_v HI.out (by simpa using hx)))
      rw [show cutB true b = b.take k2 from by rw [cutB, if_pos rfl, HK2.out]]
      refine PDStep.mk R1 hFF fpR_d fpR_1 (.inl fpR_2) (fun k hk => .inl (fpR_p hk)) (fun j hj => .inl (fpR_b hj)) (fun j hj k hk => ?_)
      by_cases e : j = i
      · rw [e, upd_same] at hk
        rcases hloc9 k hk with h9 | h9
        · exact .inl (fpR_v HI.out h9)
        · exact .inr (by rw [h9]; exact F3.out.size)
      · rw [upd_other _ _ e] at hk
        exact .inl (fpR_v hj hk)
end

end Go.Proofs.Ytkebdgbjgbcneaa
