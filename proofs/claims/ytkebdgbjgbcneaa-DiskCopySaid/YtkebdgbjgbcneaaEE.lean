/- The reference's disk: contract of Sync. -/
import Derived.Test.YtkebdgbjgbcneaaED
namespace Go.Proofs.Ytkebdgbjgbcneaa
open Go.RowKit Go.Maps Go.Shelf

theorem fileC_set1 : ∀ {l : List (Value × FM)} {i : Nat} {q : Value × FM} (k : Nat), l[i]? = some q → (fileC l).set (i * 2 + 1) (.int .i64 (k : Int)) = fileC (l.set i (q.1, ⟨q.2.data, k⟩))
  | [], i, q, k, h => by simp at h
  | p :: r, 0, q, k, h => by
    simp only [List.getElem?_cons_zero, Option.some.injEq] at h
    subst h
    rfl
  | p :: r, i + 1, q, k, h => by
    rw [List.getElem?_cons_succ] at h
    have ih := fileC_set1 k h
    rw [show (i + 1) * 2 + 1 = (i * 2 + 1) + 2 from by omega]
    simp only [fileC, List.flatMap_cons, List.set_cons_succ] at ih ⊢
    rw [List.set_append_right _ _ (by simp)]
    simp [ih]
theorem fileC_set0 : ∀ {l : List (Value × FM)} {i : Nat} {q : Value × FM} (v : Value) (b : List UInt8), l[i]? = some q → (fileC l).set (i * 2) v = fileC (l.set i (v, ⟨b, q.2.safe⟩))
  | [], i, q, v, b, h => by simp at h
  | p :: r, 0, q, v, b, h => by
    simp only [List.getElem?_cons_zero, Option.some.injEq] at h
    subst h
    rfl
  | p :: r, i + 1, q, v, b, h => by
    rw [List.getElem?_cons_succ] at h
    have ih := fileC_set0 v b h
    rw [show (i + 1) * 2 = (i * 2) + 2 from by omega]
    simp only [fileC, List.flatMap_cons, List.set_cons_succ] at ih ⊢
    rw [List.set_append_right _ _ (by simp)]
    simp [ih]
theorem ownsB_setCell {w : World} {B e size : Nat} {v : Value} {n : Nat} {xs : List Value} {g : Nat} (h : w.ownsRow B e size v n xs) (hg : v.ownBlock = some g) (i : Nat) (u : Value) :
    (w.setCell ⟨g, i, none⟩ u).ownsRow B e size v n (xs.set i u) := by
  refine ⟨by rw [List.length_set]; exact h.1, ?_⟩
  rcases h.2 with ⟨rfl, _⟩ | ⟨g', cap, cur, rfl, h0, hgg, h1, h2, h3, h4⟩
  · simp [Value.ownBlock] at hg
  · simp [Value.ownBlock] at hg
    subst hg
    refine .inr ⟨g', cap, cur.setIfInBounds i u, rfl, h0, by simp [World.setCell, Array.getElem?_modify, hgg], h1, h2, by simpa using h3, ?_⟩
    rw [Array.toList_setIfInBounds, List.take_set, h4]
theorem oneCell_fileC (l : List (Value × FM)) (hl : ∀ p ∈ l, ∃ a n c, p.1 = .slice a n c) : ∀ u ∈ fileC l, u.oneCell' = true := fun u hu => by
  simp only [fileC, List.mem_flatMap, List.mem_cons, List.not_mem_nil, or_false] at hu
  obtain ⟨p, hp, rfl | rfl⟩ := hu
  · obtain ⟨a, n, c, e⟩ := hl p hp
    rw [e]; rfl
  · rfl
theorem ownsB_some {w : World} {B e size : Nat} {v : Value} {n : Nat} {xs : List Value} (h : w.ownsRow B e size v n xs) (hn : 0 < n) : ∃ g cap, v = .slice (some ⟨g, 0, none⟩) n cap ∧ B ≤ g ∧ n ≤ cap ∧ cap ≤ maxLen ∧ RowAt w g e xs := by
  rcases h.2 with ⟨_, h0⟩ | ⟨g, cap, cur, rfl, h0, hgg, h1, h2, h3, h4⟩
  · omega
  · exact ⟨g, cap, rfl, h0, h1, h2, cur, hgg, by rw [h.1]; exact h4⟩
theorem RowV.shape {w : World} {F : List Nat} {v : Value} {n size : Nat} {xs : List Value} (h : RowV w F v n size xs) : ∃ a c, v = .slice a n c := by
  obtain ⟨_, a, c, e, _⟩ := h
  exact ⟨a, c, e⟩
section
variable {w : World} {F : List Nat} {d N : Nat} {m : DM} {fv dv sv ov : Value} {l : List (Value × FM)}
theorem RDv.slices (h : RDv w F d m fv dv sv ov l) : ∀ p ∈ l, ∃ a n c, p.1 = .slice a n c := fun p hp => by
  obtain ⟨_, a, c, e, _⟩ := h.fd p hp
  exact ⟨a, _, c, e⟩
theorem RDv.lget (h : RDv w F d m fv dv sv ov l) {i : Nat} (hi : i < m.files.length) : ∃ a c', l[i]? = some (.slice a (fileAt m.files i).data.length c', fileAt m.files i) := by
  obtain ⟨v, hv⟩ := h.file hi
  obtain ⟨_, a, c, e, _⟩ : RowV w F v (fileAt m.files i).data.length 1 (byt (fileAt m.files i).data) := h.fd _ (List.mem_of_getElem? hv)
  rw [e] at hv
  exact ⟨a, c, hv⟩
/-- The files behind a change of one of them. -/
theorem RDv.fset {w' : World} {fp : List Nat} (h : RDv w F d m fv dv sv ov l) (hf : Frm fp w w') (hn : ∀ k ∈ fp, k ∈ F ∨ w.heap.size ≤ k) {i : Nat} {v : Value} {f : FM} (hv : RowV w' F v f.data.length 1 (byt f.data)) : ∀ p ∈ l.set i (v, f), RowV w' F p.1 p.2.data.length 1 (byt p.2.data) := fun p hp => by
  rcases List.mem_or_eq_of_mem_set hp with hp | rfl
  · exact (h.fd p hp).frm hf hn
  · exact hv
theorem RDv.fmap (h : RDv w F d m fv dv sv ov l) (i : Nat) (v : Value) (f : FM) : (l.set i (v, f)).map (·.2) = m.files.set i f := by rw [List.map_set, h.fm]
/-- The end of Sync. -/
theorem sync_end {w9 : World} {i g n c n2 : Nat} {da a5 : Option Addr} {c5 dc : Nat} (h : RDv w F d m fv (.slice da n2 dc) sv ov l) (f9 : Frm [] w w9) (own : w9.ownsRow w.heap.size 89 2 (.slice (some ⟨g, 0, none⟩) n c) n ([] ++ fileC l)) (hg : w.heap.size ≤ g) (hl : l[i]? = some (.slice a5 (fileAt m.files i).data.length c5, fileAt m.files i)) (hn : l.length = n) :
    RD ((((w9.setCell ⟨g, i * 2 + 1, none⟩ (.int .i64 ((fileAt m.files i).data.length : Int))).setCell ⟨d, 1, none⟩ (.slice (some ⟨g, 0, none⟩) n c)).setCell ⟨d, 3, none⟩ (.slice da n2 dc)).setCell ⟨d, 4, none⟩ (.slice none 0 0)) F d (sealM m i) ∧ Frm [d] w ((((w9.setCell ⟨g, i * 2 + 1, none⟩ (.int .i64 ((fileAt m.files i).data.length : Int))).setCell ⟨d, 1, none⟩ (.slice (some ⟨g, 0, none⟩) n c)).setCell ⟨d, 3, none⟩ (.slice da n2 dc)).setCell ⟨d, 4, none⟩ (.slice none 0 0)) := by
  have hdl := h.hd.lt
  have hdg : d ≠ g := by omega
  have fA : Frm [] w (w9.setCell ⟨g, i * 2 + 1, none⟩ (.int .i64 ((fileAt m.files i).data.length : Int))) := f9.setCell (p := ⟨g, i * 2 + 1, none⟩) (.inr hg) _
  have oA := ownsB_setCell own rfl (i * 2 + 1) (.int .i64 ((fileAt m.files i).data.length : Int))
  rw [List.nil_append, fileC_set1 _ hl] at oA
  have hA := (h.hd.frm f9 (by simp)).other (p := ⟨g, i * 2 + 1, none⟩) (.int .i64 ((fileAt m.files i).data.length : Int)) hdg
  generalize w9.setCell ⟨g, i * 2 + 1, none⟩ (.int .i64 ((fileAt m.files i).data.length : Int)) = wA at *
  have fz : Frm [d] wA (((wA.setCell ⟨d, 1, none⟩ (.slice (some ⟨g, 0, none⟩) n c)).setCell ⟨d, 3, none⟩ (.slice da n2 dc)).setCell ⟨d, 4, none⟩ (.slice none 0 0)) :=
    (((Frm.refl [d] wA).setCell (p := ⟨d, 1, none⟩) (.inl (by simp)) _).setCell (p := ⟨d, 3, none⟩) (.inl (by simp)) _).setCell (p := ⟨d, 4, none⟩) (.inl (by simp)) _
  have hr := ((hA.setCell 1 (.slice (some ⟨g, 0, none⟩) n c)).setCell 3 (.slice da n2 dc)).setCell 4 (.slice none 0 0)
  have ft := (fA.mono (fq := [d]) (by simp)).trans fz (fun x hx => .inl hx)
  have hrow := (rowV_new oA h.low).frm fz (fun k hk => by rw [List.mem_singleton] at hk; subst hk; exact .inl h.me)
  generalize ((wA.setCell ⟨d, 1, none⟩ (.slice (some ⟨g, 0, none⟩) n c)).setCell ⟨d, 3, none⟩ (.slice da n2 dc)).setCell ⟨d, 4, none⟩ (.slice none 0 0) = wF at *
  refine ⟨⟨_, _, _, _, _, h.turn (m' := sealM m i) (fv' := .slice (some ⟨g, 0, none⟩) n c) (dv' := .slice da n2 dc) (sv' := .slice da n2 dc) (ov' := .slice none 0 0) (l' := l.set i (.slice a5 (fileAt m.files i).data.length c5, ⟨(fileAt m.files i).data, (fileAt m.files i).data.length⟩)) ft hr (h.fmap i _ _) ?_ ?_ (h.dir.frm ft h.mine) (h.dir.frm ft h.mine) (RowV.nil0 _ _ _)⟩, ft⟩
  · rw [List.length_set, hn]
    exact hrow
  · exact h.fset ft h.mine ((h.fd _ (List.mem_of_getElem? hl)).frm ft h.mine)
set_option linter.unusedSimpArgs false in
set_option maxRecDepth 100000 in
set_option maxHeartbeats 2000000 in
theorem rsync_any (h : RDv w F d m fv dv sv ov l) (ho : DOk N m) (hN : N ≤ 90000) {s : Nm} (hs : s.length ≤ maxLen) :
    Calls Try.prog 41 #[.pointer (some ⟨d, 0, none⟩), str s] w fun e w' => RPost F d (syncM m s).2 (syncM m s).1 w' e ∧ Frm [d] w w' := by
  obtain ⟨da, dc, rfl⟩ := h.dir.shape
  have hck := rmiss_any h.hd h.dir s hs
  by_cases hz : missM m s = 0
  · obtain ⟨hoff, hg, i, hfd⟩ := missM_zero hz
    rw [hz] at hck
    have hD : syncM m s = (if (writeM m).off = true then (25, writeM m) else (0, sealM (writeM m) i)) := by rw [syncM, if_pos hz, hfd]; rfl
    rw [hD]
    have hwr := fun W (hr : RowAt W d 77 (rhdC m fv (.slice da m.dir.length dc) sv ov)) => rwrite_any hr ho.armed
    have hfi : ∀ W, RDv W F d (writeM m) fv (.slice da m.dir.length dc) sv ov l → Calls Try.prog 56 #[.slice da m.dir.length dc, str s] W fun e w' => e = .returned (.int .i64 (i : Int)) ∧ w' = W := fun W hW => by
      have hdd := hW.dir
      rw [writeM_dir] at hdd
      have := rfind_eq hdd s
      rw [findI, hfd] at this
      exact this
    have hi := ho.find hfd
    have hi2 : i < (writeM m).files.length := by rw [writeM_files]; exact hi
    have hnf : (writeM m).files.length ≤ 90000 := by rw [writeM_files]; have := ho.few1; omega
    obtain ⟨off, hoff'⟩ : ∃ off, off = (writeM m).off := ⟨_, rfl⟩
    rw [← hoff'] at hwr ⊢
    have HW := Lib.hid hwr
    have HFI := Lib.hid hfi
    have HH := Lib.hid h
    have HI := Lib.hid hi2
    have HNF := Lib.hid hnf
    clear h hz hoff hg hfd hD hwr hoff' ho hN hs hfi hi hi2 hnf
    cases off
    · rw [if_neg (by simp)]
      go_enter Try.func41, Try.ntmps41
      go_wp2_with fail
      refine hck.mono ?_
      rintro e1 w1 ⟨rfl, hf1⟩
      have HF1 := Lib.hid hf1
      clear hck hf1
      go_wp2_with fail
      refine (HW.out _ (HH.out.hd.frm HF1.out (by simp))).mono ?_
      rintro e2 w2 ⟨rfl, hr2, hf2⟩
      have H2 := Lib.hid ((HH.out.nil HF1.out).write hf2 hr2)
      have F2 : Hid (Frm [d] w w2) := Lib.hid ((HF1.out.mono (by simp)).trans hf2 (fun x hx => .inl hx))
      have d2 := H2.out.hd.cell (i := 2) rfl
      clear hr2 hf2
      go_wp2_with fail
      refine (HFI.out _ H2.out).mono ?_
      rintro e4 w4 ⟨rfl, rfl⟩
      obtain ⟨nf, hnf⟩ : ∃ nf, nf = (writeM m).files.length := ⟨_, rfl⟩
      have hnl : l.length = nf := by rw [H2.out.flen, hnf]
      rw [← hnf] at HI HNF
      obtain ⟨a5, c5, hl5⟩ := H2.out.lget (by rw [← hnf]; exact HI.out)
      have d1 := H2.out.hd.cell (i := 1) rfl
      have hfr := H2.out.fr
      rw [hnl] at hfr
      have HFR := Lib.hid (hfr.nil ((Frm.refl [] w4).alloc (.cells #[] 89)))
      have HL5 := Lib.hid hl5
      have HNL := Lib.hid hnl
      have hdl := H2.out.hd.lt
      clear hnf hnl hl5 hfr HW HFI HH HF1
      go_wp2_with (first | (at_builtin; refine app_row rfl _ _ 73 89 _ 2 32 rfl Try.underlying73 infoFile rfl (by decide) (by decide) w4.heap.size 0 (.slice (some ⟨w4.heap.size, 0, none⟩) 0 0) [] rfl (owns_made0 w4 _ _) fv nf (fileC l) F rfl HFR.out (oneCell_fileC l H2.out.slices) nf (Nat.zero_add _) (by have := HNF.out; omega) (by simp) ?_; intro a9 c9 w9 own9 hf9 hloc9) | fail)
      have fr9 : Frm [] w4 w9 := ((Frm.refl [] w4).alloc _).trans hf9 (by simp [Value.ownBlock])
      obtain ⟨g9, cc9, e9, hg9, hc9, hm9, row9⟩ := ownsB_some own9 (by have := HI.out; omega)
      simp only [Value.slice.injEq] at e9
      obtain ⟨rfl, -, rfl⟩ := e9
      obtain ⟨k0, k1⟩ := fileC_get HL5.out
      have y0 := row9.cell k0
      have z1 := row9.frozen (i * 2 + 1)
      have y1 := row9.cell k1
      have i6 : (i : Int) < (nf : Int) := by have := HI.out; omega
      have i7 : (0 : Int) ≤ (i : Int) := by omega
      have i8 : (nf : Int) ≤ 9223372036854775807 := by have := HNF.out; omega
      have hdg : d ≠ g9 := by omega
      have D9 := Lib.hid (H2.out.nil fr9)
      have FR9 := Lib.hid fr9
      have OW9 := Lib.hid own9
      have HG9 := Lib.hid hg9
      clear own9 hf9 hloc9 fr9 k0 k1 row9 d1 d2 hc9 hm9 hdl
      have e0 := D9.out.hd.cell (i := 0) rfl
      have e1 := D9.out.hd.cell (i := 1) rfl
      have e2 := D9.out.hd.cell (i := 2) rfl
      have e3 := D9.out.hd.cell (i := 3) rfl
      have e4 := D9.out.hd.cell (i := 4) rfl
      have x1 := D9.out.hd.frozen 1
      have x3 := D9.out.hd.frozen 3
      have x4 := D9.out.hd.frozen 4
      go_wp2_with fail
      have HE := Lib.hid (sync_end H2.out FR9.out OW9.out HG9.out HL5.out HNL.out)
      go_ret
      exact ⟨⟨rfl, HE.out.1⟩, F2.out.trans HE.out.2 (fun x hx => .inl hx)⟩
    · rw [if_pos rfl]
      go_enter Try.func41, Try.ntmps41
      go_wp2_with fail
      refine hck.mono ?_
      rintro e1 w1 ⟨rfl, hf1⟩
      have HF1 := Lib.hid hf1
      clear hck hf1
      go_wp2_with fail
      refine (HW.out _ (HH.out.hd.frm HF1.out (by simp))).mono ?_
      rintro e2 w2 ⟨rfl, hr2, hf2⟩
      have H2 := Lib.hid ((HH.out.nil HF1.out).write hf2 hr2)
      have F2 : Hid (Frm [d] w w2) := Lib.hid ((HF1.out.mono (by simp)).trans hf2 (fun x hx => .inl hx))
      clear hr2 hf2
      go_wp2_with fail
      go_ret
      exact ⟨⟨rfl, _, _, _, _, _, H2.out⟩, F2.out⟩
  · have hD : syncM m s = (missM m s, m) := by rw [syncM, if_neg hz]
    rw [hD]
    obtain ⟨e, he⟩ : ∃ e, e = missM m s := ⟨_, rfl⟩
    rw [← he] at hck hz ⊢
    have hb0 : (e != 0) = true := by simp [hz]
    have HH := Lib.hid h
    clear h hz he hD ho hN
    go_enter Try.func41, Try.ntmps41
    go_wp2_with fail
    refine hck.mono ?_
    rintro e1 w1 ⟨rfl, hf1⟩
    have HF1 := Lib.hid hf1
    clear hck hf1
    go_wp2_with fail
    go_ret
    exact ⟨⟨rfl, _, _, _, _, _, HH.out.nil HF1.out⟩, HF1.out.mono (by simp)⟩
end

end Go.Proofs.Ytkebdgbjgbcneaa
