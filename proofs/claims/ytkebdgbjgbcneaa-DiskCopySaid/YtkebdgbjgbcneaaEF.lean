/- The reference's disk: contract of Append. -/
import Derived.Test.YtkebdgbjgbcneaaEE
namespace Go.Proofs.Ytkebdgbjgbcneaa
open Go.RowKit Go.Maps Go.Shelf

theorem fileC_app (l k : List (Value × FM)) : fileC (l ++ k) = fileC l ++ fileC k := by simp [fileC]
section
variable {w : World} {F : List Nat} {d N : Nat} {m : DM} {fv dv sv ov : Value} {l : List (Value × FM)}
/-- A new file at the end. -/
theorem file_end {w9 : World} {n c : Nat} {a9 : Option Addr} (h : RDv w F d m fv dv sv ov l) (f9 : Frm [] w w9) (own : w9.ownsRow w.heap.size 89 2 (.slice a9 (n + 1) c) (n + 1) (([] ++ fileC l) ++ [.slice none 0 0, .int .i64 0])) (hn : l.length = n) :
    RDv (w9.setCell ⟨d, 1, none⟩ (.slice a9 (n + 1) c)) F d { m with files := m.files ++ [⟨[], 0⟩] } (.slice a9 (n + 1) c) dv sv ov (l ++ [(.slice none 0 0, ⟨[], 0⟩)]) ∧ Frm [d] w (w9.setCell ⟨d, 1, none⟩ (.slice a9 (n + 1) c)) := by
  have fz : Frm [d] w9 (w9.setCell ⟨d, 1, none⟩ (.slice a9 (n + 1) c)) := (Frm.refl [d] w9).setCell (p := ⟨d, 1, none⟩) (.inl (by simp)) _
  have hr := (h.hd.frm f9 (by simp)).setCell 1 (.slice a9 (n + 1) c)
  have ft := (f9.mono (fq := [d]) (by simp)).trans fz (fun x hx => .inl hx)
  have hrow := (rowV_new own h.low).frm fz (fun k hk => by rw [List.mem_singleton] at hk; subst hk; exact .inl h.me)
  refine ⟨h.turn ft hr (by rw [List.map_append, h.fm]; rfl) ?_ (fun p hp => ?_) (h.dir.frm ft h.mine) (h.safe.frm ft h.mine) (h.ops.frm ft h.mine), ft⟩
  · rw [List.length_append, List.length_singleton, hn, fileC_app]
    exact hrow
  · rcases List.mem_append.1 hp with hp | hp
    · exact (h.fd p hp).frm ft h.mine
    · rw [List.mem_singleton] at hp
      subst hp
      exact RowV.nil0 _ _ _
/-- The end of Append. -/
theorem app_end {w9 w12 : World} {i g n c n12 c12 : Nat} {a5 a12 : Option Addr} {c5 : Nat} {b : List UInt8} (h : RDv w F d m fv dv sv ov l) (f9 : Frm [] w w9) (own : w9.ownsRow w.heap.size 89 2 (.slice (some ⟨g, 0, none⟩) n c) n ([] ++ fileC l)) (hg : w.heap.size ≤ g) (hl : l[i]? = some (.slice a5 (fileAt m.files i).data.length c5, fileAt m.files i)) (hn : l.length = n) (f12 : Frm [] w9 w12) (own12 : w12.ownsRow w9.heap.size 5 1 (.slice a12 n12 c12) n12 (([] ++ byt (fileAt m.files i).data) ++ byt b)) (hn12 : (fileAt m.files i).data.length + b.length = n12) :
    RD ((w12.setCell ⟨g, i * 2, none⟩ (.slice a12 n12 c12)).setCell ⟨d, 1, none⟩ (.slice (some ⟨g, 0, none⟩) n c)) F d (addM m i b) ∧ Frm [d] w ((w12.setCell ⟨g, i * 2, none⟩ (.slice a12 n12 c12)).setCell ⟨d, 1, none⟩ (.slice (some ⟨g, 0, none⟩) n c)) := by
  have hdl := h.hd.lt
  have hdg : d ≠ g := by omega
  have hgl := (own.lt g rfl).2
  have o12 := ownsB_frm own f12 (by simp)
  have fA : Frm [] w (w12.setCell ⟨g, i * 2, none⟩ (.slice a12 n12 c12)) := (f9.trans f12 (by simp)).setCell (p := ⟨g, i * 2, none⟩) (.inr hg) _
  have oA := ownsB_setCell o12 rfl (i * 2) (.slice a12 n12 c12)
  rw [List.nil_append, fileC_set0 (.slice a12 n12 c12) ((fileAt m.files i).data ++ b) hl] at oA
  have oB := ownsB_other own12 (p := ⟨g, i * 2, none⟩) hgl (.slice a12 n12 c12)
  have hA := (h.hd.frm (f9.trans f12 (by simp)) (by simp)).other (p := ⟨g, i * 2, none⟩) (.slice a12 n12 c12) hdg
  have hs9 := f9.size
  generalize w12.setCell ⟨g, i * 2, none⟩ (.slice a12 n12 c12) = wA at *
  have fz : Frm [d] wA (wA.setCell ⟨d, 1, none⟩ (.slice (some ⟨g, 0, none⟩) n c)) := (Frm.refl [d] wA).setCell (p := ⟨d, 1, none⟩) (.inl (by simp)) _
  have hr := hA.setCell 1 (.slice (some ⟨g, 0, none⟩) n c)
  have ft := (fA.mono (fq := [d]) (by simp)).trans fz (fun x hx => .inl hx)
  have hme : ∀ k ∈ [d], k ∈ F ∨ wA.heap.size ≤ k := fun k hk => by rw [List.mem_singleton] at hk; subst hk; exact .inl h.me
  have hrow := (rowV_new oA h.low).frm fz hme
  have hrow2 := (rowV_new oB (fun k hk => Nat.lt_of_lt_of_le (h.low k hk) hs9)).frm fz hme
  generalize wA.setCell ⟨d, 1, none⟩ (.slice (some ⟨g, 0, none⟩) n c) = wF at *
  refine ⟨⟨_, _, _, _, _, h.turn (m' := addM m i b) (fv' := .slice (some ⟨g, 0, none⟩) n c) (l' := l.set i (.slice a12 n12 c12, ⟨(fileAt m.files i).data ++ b, (fileAt m.files i).safe⟩)) ft hr (h.fmap i _ _) ?_ ?_ (h.dir.frm ft h.mine) (h.safe.frm ft h.mine) (h.ops.frm ft h.mine)⟩, ft⟩
  · rw [List.length_set, hn]
    exact hrow
  · refine h.fset ft h.mine ?_
    rw [List.nil_append, ← show byt ((fileAt m.files i).data ++ b) = byt (fileAt m.files i).data ++ byt b from by simp [byt]] at hrow2
    rw [show (FM.data ⟨(fileAt m.files i).data ++ b, (fileAt m.files i).safe⟩).length = n12 from by rw [← hn12, List.length_append]]
    exact hrow2
end
theorem cut_row {w : World} {F : List Nat} {ba : Option Addr} {nb bc k2 : Nat} {b : List UInt8} (h : RowV w F (.slice ba nb bc) nb 1 (byt b)) (hk : k2 ≤ nb) : RowV w F (.slice ba k2 bc) k2 1 (byt (b.take k2)) := by
  cases ba with
  | none =>
    obtain ⟨h1, a, c, e, h2, h3, h4, h5⟩ := h
    cases e
    have := h4 rfl
    subst this
    have h0 : nb = 0 := by omega
    subst h0
    have h0 : k2 = 0 := by omega
    subst h0
    rw [List.take_zero]
    exact RowV.nil0 _ _ _
  | some p =>
    have := h.init hk
    rwa [Nat.mul_one, show (byt b).take k2 = byt (b.take k2) from by simp [byt, List.map_take]] at this
section
variable {w : World} {F : List Nat} {d N : Nat} {m : DM} {fv dv sv ov : Value} {l : List (Value × FM)}
set_option linter.unusedSimpArgs false in
set_option maxRecDepth 100000 in
set_option maxHeartbeats 4000000 in
theorem rappend_found (h : RDv w F d m fv dv sv ov l) (ho : DOk N m) (hN : N ≤ 90000) {s : Nm} (hs : s.length ≤ maxLen) {b : List UInt8} {v : Value} (hb : RowV w F v b.length 1 (byt b)) (hoff : m.off = false) (hg : goodN s = true) (hfull : fullM m s b = false) {i : Nat} (hfd : findD m.dir s = some i) :
    Calls Try.prog 40 #[.pointer (some ⟨d, 0, none⟩), str s, v] w fun e w' => RPost F d (putM (writeM m) s b) (if (writeM m).off = true then 25 else 0) w' e ∧ Frm [d] w w' := by
  obtain ⟨da, dc, rfl⟩ := h.dir.shape
  obtain ⟨ba, bc, rfl⟩ := hb.shape
  have hgd := rgood_any s w hs
  rw [hg] at hgd
  have hfi := rfind_eq h.dir s
  have hus := ho.used
  have hcap := ho.cap
  have hfew := ho.dirOk.few
  have hcf : ¬ m.cap < usedD m.files m.dir + b.length := fun h9 => by
    rw [fullM] at hfull
    simp [h9] at hfull
  have c0 := h.hd.cell (i := 0) rfl
  have c2 := h.hd.cell (i := 2) rfl
  have c6 := h.hd.cell (i := 6) rfl
  rw [hoff] at c6
  obtain ⟨U, hU⟩ : ∃ U, U = usedD m.files m.dir := ⟨_, rfl⟩
  have HUU := Lib.hid hU
  rw [← hU] at hus hcf
  obtain ⟨nb, hnb⟩ : ∃ nb, nb = b.length := ⟨_, rfl⟩
  rw [← hnb] at hb hcf ⊢
  have iw : IntKind.i64.wrap ((U : Int) + (nb : Int)) = ((U + nb : Nat) : Int) := by rw [IntWalk.i64_in _ (by omega)]; omega
  have i1 : ¬ ((m.cap : Int) < ((U + nb : Nat) : Int)) := by omega
  have i1b : (((U + nb : Nat) : Int)) ≤ (m.cap : Int) := by omega
  have hwr := fun W (hr : RowAt W d 77 (rhdC m fv (.slice da m.dir.length dc) sv ov)) => rwrite_any hr ho.armed
  have HB0 := Lib.hid hb
  obtain ⟨_, _, _, ebb, hbc, hbm, _, _⟩ := hb
  cases ebb
  obtain ⟨k2, hk2⟩ : ∃ k, k = nb / 2 := ⟨_, rfl⟩
  have iq : (nb : Int).tdiv 2 = (k2 : Int) := by rw [hk2]; exact (Int.ofNat_tdiv nb 2).symm
  have i2 : (nb : Int) ≤ (bc : Int) := by omega
  have i3 : (bc : Int) ≤ 9223372036854775807 := by unfold maxLen at hbm; omega
  have i4 : (k2 : Int) ≤ (bc : Int) := by omega
  have i5 : (0 : Int) ≤ (k2 : Int) := by omega
  have i4b : k2 ≤ bc := by omega
  have HKN : Hid (k2 ≤ nb) := Lib.hid (by omega)
  have HK2 : Hid (k2 = b.length / 2) := Lib.hid (by rw [hk2, hnb])
  have HNB := Lib.hid hnb
  have HNBL : Hid (nb ≤ 4194304) := Lib.hid (by omega)
  have HW := Lib.hid hwr
  have HH := Lib.hid h
  have HO := Lib.hid ho
  have HN0 := Lib.hid hN
  · rw [findI, hfd] at hfi
    have hfi' : Calls Try.prog 56 #[.slice da m.dir.length dc, str s] w fun e w' => e = .returned (.int .i64 (i : Int)) ∧ w' = w := hfi
    have j0 : (0 : Int) ≤ (i : Int) := by omega
    have j1 : ¬ (i : Int) < 0 := by omega
    have jd : decide ((i : Int) < 0) = false := decide_eq_false j1
    have hi := ho.find hfd
    have HIX : Hid (i < (writeM m).files.length) := Lib.hid (by rw [writeM_files]; exact hi)
    have HDB : Hid ((fileAt (writeM m).files i).data.length ≤ 4194304) := Lib.hid (by rw [writeM_files]; exact (ho.fileAt hi).2)
    have HNFX : Hid ((writeM m).files.length ≤ 100000) := Lib.hid (by rw [writeM_files]; have := ho.few1; omega)
    have HPUT : Hid (putM (writeM m) s b = addM (writeM m) i (cutB (writeM m).off b)) := Lib.hid (by rw [putM, writeM_dir, hfd])
    rw [HPUT.out]
    obtain ⟨off, hoff'⟩ : ∃ off, off = (writeM m).off := ⟨_, rfl⟩
    rw [← hoff'] at HW ⊢
    clear h ho hN hg hoff hfull hs hfd hcf hus hcap hU hwr hbc hbm hk2 hnb hoff' hi hfi hfew
    cases off with
    | false =>
      rw [if_neg (by simp)]
      go_enter Try.func40, Try.ntmps40
      go_wp2_with fail
      refine hfi'.mono ?_
      rintro e0 w0 ⟨rfl, rfl⟩
      clear hfi'
      go_wp2_with fail
      refine hgd.mono ?_
      rintro e1 w1 ⟨rfl, rfl⟩
      clear hgd
      go_wp2_with fail
      refine wp_region_held_drew (S := fun w' => w'.cell? ⟨d, 0, none⟩ = some (.int .i64 (m.cap : Int)) ∧ w'.cell? ⟨d, 2, none⟩ = some (.slice da m.dir.length dc)) (by kernel_rfl) (⟨c0, c2⟩) ?_
      intro hHeld
      refine wpAnyH_take (i := 0) (v := ?_) rfl (by kernel_rfl) (by kernel_rfl) (by kernel_rfl) (fun _ _ _ h => h) (Or.inl ⟨by rfl, ?_⟩) (by assumption) ?_
      rotate_left
      · intro w9 hS9
        try dsimp only at hS9
        go_split_ands
        go_simp
        try with_reducible rfl
      try simp only [Act.put, List.getElem_toArray, List.getElem_cons_succ, List.getElem_cons_zero, List.setIfInBounds_toArray, List.set_cons_zero, List.set_cons_succ]
      refine wpAnyH_take (i := 1) (v := ?_) rfl (by kernel_rfl) (by kernel_rfl) (by kernel_rfl) (fun _ _ _ h => h) (Or.inl ⟨by rfl, ?_⟩) (by assumption) ?_
      rotate_left
      · intro w9 hS9
        try dsimp only at hS9
        go_split_ands
        go_simp
        try with_reducible rfl
      try simp only [Act.put, List.getElem_toArray, List.getElem_cons_succ, List.getElem_cons_zero, List.setIfInBounds_toArray, List.set_cons_zero, List.set_cons_succ]
      try simp only [jd]
      refine wpAnyH_take (i := 2) (v := ?_) rfl (by kernel_rfl) (by kernel_rfl) (by kernel_rfl) (fun _ _ _ h => h) (Or.inl ⟨by rfl, ?_⟩) (by assumption) ?_
      rotate_left
      · intro w9 hS9
        try dsimp only at hS9
        go_split_ands
        go_simp
        try with_reducible rfl
      try simp only [Act.put, List.getElem_toArray, List.getElem_cons_succ, List.getElem_cons_zero, List.setIfInBounds_toArray, List.set_cons_zero, List.set_cons_succ]
      first
        | (refine wpAnyH_take (i := 3) (v := undef) rfl (by kernel_rfl) (by kernel_rfl) (by kernel_rfl) (fun _ _ _ h => h) (Or.inr ⟨by rfl, rfl⟩) (by assumption) ?_)
        | (refine wpAnyH_take (i := 3) (v := ?_) rfl (by kernel_rfl) (by kernel_rfl) (by kernel_rfl) (fun _ _ _ h => h) (Or.inl ⟨by rfl, ?_⟩) (by assumption) ?_; rotate_left; (intro w9 hS9; (try dsimp only at hS9); go_split_ands; go_simp; try with_reducible rfl))
      try simp only [Act.put, List.getElem_toArray, List.getElem_cons_succ, List.getElem_cons_zero, List.setIfInBounds_toArray, List.set_cons_zero, List.set_cons_succ]
      first
        | (refine wpAnyH_take (i := 4) (v := undef) rfl (by kernel_rfl) (by kernel_rfl) (by kernel_rfl) (fun _ _ _ h => h) (Or.inr ⟨by rfl, rfl⟩) (by assumption) ?_)
        | (refine wpAnyH_take (i := 4) (v := ?_) rfl (by kernel_rfl) (by kernel_rfl) (by kernel_rfl) (fun _ _ _ h => h) (Or.inl ⟨by rfl, ?_⟩) (by assumption) ?_; rotate_left; (intro w9 hS9; (try dsimp only at hS9); go_split_ands; go_simp; try with_reducible rfl))
      try simp only [Act.put, List.getElem_toArray, List.getElem_cons_succ, List.getElem_cons_zero, List.setIfInBounds_toArray, List.set_cons_zero, List.set_cons_succ]
      first
        | (refine wpAnyH_take (i := 5) (v := undef) rfl (by kernel_rfl) (by kernel_rfl) (by kernel_rfl) (fun _ _ _ h => h) (Or.inr ⟨by rfl, rfl⟩) (by assumption) ?_)
        | (refine wpAnyH_take (i := 5) (v := ?_) rfl (by kernel_rfl) (by kernel_rfl) (by kernel_rfl) (fun _ _ _ h => h) (Or.inl ⟨by rfl, ?_⟩) (by assumption) ?_; rotate_left; (intro w9 hS9; (try dsimp only at hS9); go_split_ands; go_simp; try with_reducible rfl))
      try simp only [Act.put, List.getElem_toArray, List.getElem_cons_succ, List.getElem_cons_zero, List.setIfInBounds_toArray, List.set_cons_zero, List.set_cons_succ]
      first
        | (refine wpAnyH_take (i := 6) (v := undef) rfl (by kernel_rfl) (by kernel_rfl) (by kernel_rfl) (fun _ _ _ h => h) (Or.inr ⟨by rfl, rfl⟩) (by assumption) ?_)
        | (refine wpAnyH_take (i := 6) (v := ?_) rfl (by kernel_rfl) (by kernel_rfl) (by kernel_rfl) (fun _ _ _ h => h) (Or.inl ⟨by rfl, ?_⟩) (by assumption) ?_; rotate_left; (intro w9 hS9; (try dsimp only at hS9); go_split_ands; go_simp; try with_reducible rfl))
      try simp only [Act.put, List.getElem_toArray, List.getElem_cons_succ, List.getElem_cons_zero, List.setIfInBounds_toArray, List.set_cons_zero, List.set_cons_succ]
      first
        | (refine wpAnyH_take (i := 7) (v := undef) rfl (by kernel_rfl) (by kernel_rfl) (by kernel_rfl) (fun _ _ _ h => h) (Or.inr ⟨by rfl, rfl⟩) (by assumption) ?_)
        | (refine wpAnyH_take (i := 7) (v := ?_) rfl (by kernel_rfl) (by kernel_rfl) (by kernel_rfl) (fun _ _ _ h => h) (Or.inl ⟨by rfl, ?_⟩) (by assumption) ?_; rotate_left; (intro w9 hS9; (try dsimp only at hS9); go_split_ands; go_simp; try with_reducible rfl))
      try simp only [Act.put, List.getElem_toArray, List.getElem_cons_succ, List.getElem_cons_zero, List.setIfInBounds_toArray, List.set_cons_zero, List.set_cons_succ]
      first
        | (refine wpAnyH_take (i := 8) (v := undef) rfl (by kernel_rfl) (by kernel_rfl) (by kernel_rfl) (fun _ _ _ h => h) (Or.inr ⟨by rfl, rfl⟩) (by assumption) ?_)
        | (refine wpAnyH_take (i := 8) (v := ?_) rfl (by kernel_rfl) (by kernel_rfl) (by kernel_rfl) (fun _ _ _ h => h) (Or.inl ⟨by rfl, ?_⟩) (by assumption) ?_; rotate_left; (intro w9 hS9; (try dsimp only at hS9); go_split_ands; go_simp; try with_reducible rfl))
      try simp only [Act.put, List.getElem_toArray, List.getElem_cons_succ, List.getElem_cons_zero, List.setIfInBounds_toArray, List.set_cons_zero, List.set_cons_succ]
      refine wpAnyH_take (i := 9) (v := ?_) rfl (by kernel_rfl) (by kernel_rfl) (by kernel_rfl) (fun _ _ _ h => h) (Or.inl ⟨by rfl, ?_⟩) (by assumption) ?_
      rotate_left
      · intro w9 hS9
        try dsimp only at hS9
        go_split_ands
        go_simp
        try with_reducible rfl
      try simp only [Act.put, List.getElem_toArray, List.getElem_cons_succ, List.getElem_cons_zero, List.setIfInBounds_toArray, List.set_cons_zero, List.set_cons_succ]
      refine wpAnyH_take (i := 10) (v := ?_) rfl (by kernel_rfl) (by kernel_rfl) (by kernel_rfl) (fun _ _ _ h => h) (Or.inl ⟨by rfl, ?_⟩) (by assumption) ?_
      rotate_left
      · intro w9 hS9
        try dsimp only at hS9
        go_split_ands
        go_simp
        try with_reducible rfl
      try simp only [Act.put, List.getElem_toArray, List.getElem_cons_succ, List.getElem_cons_zero, List.setIfInBounds_toArray, List.set_cons_zero, List.set_cons_succ]
      refine wpAnyH_take (i := 11) (v := ?_) rfl (by kernel_rfl) (by kernel_rfl) (by kernel_rfl) (fun _ _ _ h => h) (Or.inl ⟨by rfl, ?_⟩) (by assumption) ?_
      rotate_left
      · intro w9 hS9
        try dsimp only at hS9
        go_split_ands
        go_simp
        try with_reducible rfl
      try simp only [Act.put, List.getElem_toArray, List.getElem_cons_succ, List.getElem_cons_zero, List.setIfInBounds_toArray, List.set_cons_zero, List.set_cons_succ]
      refine wpAnyH_take (i := 13) (v := ?_) rfl (by kernel_rfl) (by kernel_rfl) (by kernel_rfl) (fun _ _ _ h => h) (Or.inl ⟨by rfl, ?_⟩) (by assumption) ?_
      rotate_left
      · intro w9 hS9
        try dsimp only at hS9
        go_split_ands
        go_simp
        try with_reducible rfl
      try simp only [Act.put, List.getElem_toArray, List.getElem_cons_succ, List.getElem_cons_zero, List.setIfInBounds_toArray, List.set_cons_zero, List.set_cons_succ]
      refine wpAnyH_take (i := 14) (v := ?_) rfl (by kernel_rfl) (by kernel_rfl) (by kernel_rfl) (fun _ _ _ h => h) (Or.inl ⟨by rfl, ?_⟩) (by assumption) ?_
      rotate_left
      · intro w9 hS9
        try dsimp only at hS9
        go_split_ands
        go_simp
        try with_reducible rfl
      try simp only [Act.put, List.getElem_toArray, List.getElem_cons_succ, List.getElem_cons_zero, List.setIfInBounds_toArray, List.set_cons_zero, List.set_cons_succ]
      refine wpAnyH_take (i := 16) (v := ?_) rfl (by kernel_rfl) (by kernel_rfl) (by kernel_rfl) (fun _ _ _ h => h) (Or.inl ⟨by rfl, ?_⟩) (by assumption) ?_
      rotate_left
      · intro w9 hS9
        try dsimp only at hS9
        go_split_ands
        go_simp
        try with_reducible rfl
      try simp only [Act.put, List.getElem_toArray, List.getElem_cons_succ, List.getElem_cons_zero, List.setIfInBounds_toArray, List.set_cons_zero, List.set_cons_succ]
      refine wpAnyH_take (i := 17) (v := ?_) rfl (by kernel_rfl) (by kernel_rfl) (by kernel_rfl) (fun _ _ _ h => h) (Or.inl ⟨by rfl, ?_⟩) (by assumption) ?_
      rotate_left
      · intro w9 hS9
        try dsimp only at hS9
        go_split_ands
        go_simp
        try with_reducible rfl
      try simp only [Act.put, List.getElem_toArray, List.getElem_cons_succ, List.getElem_cons_zero, List.setIfInBounds_toArray, List.set_cons_zero, List.set_cons_succ]
      refine wpAnyH_take (i := 18) (v := ?_) rfl (by kernel_rfl) (by kernel_rfl) (by kernel_rfl) (fun _ _ _ h => h) (Or.inl ⟨by rfl, ?_⟩) (by assumption) ?_
      rotate_left
      · intro w9 hS9
        try dsimp only at hS9
        go_split_ands
        go_simp
        try with_reducible rfl
      try simp only [Act.put, List.getElem_toArray, List.getElem_cons_succ, List.getElem_cons_zero, List.setIfInBounds_toArray, List.set_cons_zero, List.set_cons_succ]
      refine wpAnyH_take (i := 19) (v := ?_) rfl (by kernel_rfl) (by kernel_rfl) (by kernel_rfl) (fun _ _ _ h => h) (Or.inl ⟨by rfl, ?_⟩) (by assumption) ?_
      rotate_left
      · intro w9 hS9
        try dsimp only at hS9
        go_split_ands
        go_simp
        try with_reducible rfl
      try simp only [Act.put, List.getElem_toArray, List.getElem_cons_succ, List.getElem_cons_zero, List.setIfInBounds_toArray, List.set_cons_zero, List.set_cons_succ]
      refine wpAnyH_ready (rs := [12]) (by kernel_rfl) (by simp) ?_
      refine AllReadyH.cons rfl (fun K hK => ?_) AllReadyH.nil
      go_simp
      refine (rused_any (HH.out.nil ((Frm.refl [] w1).drew)) HO.out).mono ?_
      rintro e2 w2 ⟨he2, hf20⟩
      rw [← HUU.out] at he2
      subst he2
      have hf2 : Frm [] w1 w2 := Frm.trans ((Frm.refl [] w1).drew) hf20 (by simp)
      refine hK.out _ _ ?_ (fun hHeld => ?_)
      · exact ⟨hf2.cell c0 (by simp), hf2.cell c2 (by simp)⟩
      clear hK K
      try simp only [Act.put, List.getElem_toArray, List.getElem_cons_succ, List.getElem_cons_zero, List.setIfInBounds_toArray, List.set_cons_zero, List.set_cons_succ]
      refine wpAnyH_take (i := 15) (v := ?_) rfl (by kernel_rfl) (by kernel_rfl) (by kernel_rfl) (fun _ _ _ h => h) (Or.inl ⟨by rfl, ?_⟩) (by assumption) ?_
      rotate_left
      · intro w9 hS9
        try dsimp only at hS9
        go_split_ands
        go_simp
        try with_reducible rfl
      try simp only [Act.put, List.getElem_toArray, List.getElem_cons_succ, List.getElem_cons_zero, List.setIfInBounds_toArray, List.set_cons_zero, List.set_cons_succ]
      refine wpAnyH_take (i := 20) (v := ?_) rfl (by kernel_rfl) (by kernel_rfl) (by kernel_rfl) (fun _ _ _ h => h) (Or.inl ⟨by rfl, ?_⟩) (by assumption) ?_
      rotate_left
      · intro w9 hS9
        try dsimp only at hS9
        go_split_ands
        go_simp
        try with_reducible rfl
      try simp only [Act.put, List.getElem_toArray, List.getElem_cons_succ, List.getElem_cons_zero, List.setIfInBounds_toArray, List.set_cons_zero, List.set_cons_succ]
      refine wpAnyH_take (i := 21) (v := ?_) rfl (by kernel_rfl) (by kernel_rfl) (by kernel_rfl) (fun _ _ _ h => h) (Or.inl ⟨by rfl, ?_⟩) (by assumption) ?_
      rotate_left
      · intro w9 hS9
        try dsimp only at hS9
        go_split_ands
        go_simp
        try with_reducible rfl
      try simp only [Act.put, List.getElem_toArray, List.getElem_cons_succ, List.getElem_cons_zero, List.setIfInBounds_toArray, List.set_cons_zero, List.set_cons_succ]
      refine wpAnyH_take (i := 22) (v := ?_) rfl (by kernel_rfl) (by kernel_rfl) (by kernel_rfl) (fun _ _ _ h => h) (Or.inl ⟨by rfl, ?_⟩) (by assumption) ?_
      rotate_left
      · intro w9 hS9
        try dsimp only at hS9
        go_split_ands
        go_simp
        try with_reducible rfl
      try simp only [Act.put, List.getElem_toArray, List.getElem_cons_succ, List.getElem_cons_zero, List.setIfInBounds_toArray, List.set_cons_zero, List.set_cons_succ]
      refine wpAnyH_done (by kernel_rfl) ?_ _

      have HF2 := Lib.hid hf2
      clear hf20 hf2 c0 c2 c6 iw
      go_wp2_with fail
      refine (HW.out _ (HH.out.hd.frm HF2.out (by simp))).mono ?_
      rintro e3 w3 ⟨rfl, hr3, hf3⟩
      have H3 := Lib.hid ((HH.out.nil HF2.out).write hf3 hr3)
      have F3 : Hid (Frm [d] w1 w3) := Lib.hid ((HF2.out.mono (by simp)).trans hf3 (fun x hx => .inl hx))
      clear hr3 hf3
      obtain ⟨nf, hnf⟩ : ∃ nf, nf = (writeM m).files.length := ⟨_, rfl⟩
      have hnl : (l).length = nf := by rw [H3.out.flen, hnf]
      obtain ⟨a5, c5, hl5⟩ := H3.out.lget HIX.out
      have hdat := H3.out.fd _ (List.mem_of_getElem? hl5)
      have hnfl : nf ≤ 100000 := by rw [hnf]; exact HNFX.out
      have hif : i < nf := by rw [hnf]; exact HIX.out
      obtain ⟨dl, hdl⟩ : ∃ dl, dl = (fileAt (writeM m).files i).data.length := ⟨_, rfl⟩
      have hdl9 : dl ≤ 4194304 := by rw [hdl]; exact HDB.out
      have HDATA : Hid (RowV w3 F (.slice a5 dl c5) dl 1 (byt (fileAt (writeM m).files i).data)) := Lib.hid (by rw [hdl]; exact hdat)
      have HL5 : Hid ((l)[i]? = some (.slice a5 dl c5, fileAt (writeM m).files i)) := Lib.hid (by rw [hdl]; exact hl5)
      have e1 := H3.out.hd.cell (i := 1) rfl
      have hfr := H3.out.fr
      rw [hnl] at hfr
      have HFR := Lib.hid (hfr.nil ((Frm.refl [] w3).alloc (.cells #[] 89)))
      have HNL := Lib.hid hnl
      have HNFL := Lib.hid hnfl
      have HDL := Lib.hid hdl
      have HDL9 := Lib.hid hdl9
      have hdlt := H3.out.hd.lt
      have i6 : (i : Int) < (nf : Int) := by omega
      have i7 : (0 : Int) ≤ (i : Int) := by omega
      have i8 : (nf : Int) ≤ 9223372036854775807 := by omega
      have HBT : Hid (RowV w3 F (.slice ba nb bc) nb 1 (byt b)) := Lib.hid (HB0.out.frm F3.out HH.out.mine)
      have hpos : 0 < nf := by omega
      have HPOS := Lib.hid hpos
      clear hdat hl5 hfr hnl hnfl hif hdl hdl9 hpos hnf
      go_wp2_with (first | (at_builtin; refine app_row rfl _ _ 73 89 _ 2 32 rfl Try.underlying73 infoFile rfl (by decide) (by decide) w3.heap.size 0 (.slice (some ⟨w3.heap.size, 0, none⟩) 0 0) [] rfl (owns_made0 w3 _ _) _ nf (fileC (l)) F rfl HFR.out (oneCell_fileC _ H3.out.slices) nf (Nat.zero_add _) (by have := HNFL.out; omega) (by simp) ?_; intro a9 c9 w9 own9 hf9 hloc9) | fail)
      have fr9 : Frm [] w3 w9 := ((Frm.refl [] w3).alloc _).trans hf9 (by simp [Value.ownBlock])
      obtain ⟨g9, cc9, e9, hg9, hc9, hm9, row9⟩ := ownsB_some own9 HPOS.out
      simp only [Value.slice.injEq] at e9
      obtain ⟨rfl, -, rfl⟩ := e9
      obtain ⟨k0, k1⟩ := fileC_get HL5.out
      have y0 := row9.cell k0
      have D9 := Lib.hid (H3.out.nil fr9)
      have x1 := D9.out.hd.frozen 1
      have e1' := D9.out.hd.cell (i := 1) rfl
      have hdg : d ≠ g9 := by omega
      have FR9 := Lib.hid fr9
      have OW9 := Lib.hid own9
      have HG9 := Lib.hid hg9
      have ROW9 := Lib.hid row9
      have g9l : g9 < w9.heap.size := (own9.lt g9 rfl).2
      clear own9 hf9 hloc9 fr9 k0 k1 row9 e1 hc9 hm9 hdlt hg9
      go_wp2_with (first | (at_builtin; refine app_row rfl _ _ 27 5 _ 1 1 rfl Try.underlying27 infoB rfl (by decide) (by decide) w9.heap.size 0 (.slice (some ⟨w9.heap.size, 0, none⟩) 0 0) [] rfl (owns_made0 w9 _ _) (.slice a5 dl c5) dl (byt (fileAt (writeM m).files i).data) F rfl (HDATA.out.nil (FR9.out.alloc _)) (oneCell_byt _) dl (Nat.zero_add _) (by have := HDL9.out; omega) (by simp) ?_; intro a11 c11 w11 own11 hf11 hloc11; have fr11 : Frm [] w9 w11 := ((Frm.refl [] w9).alloc _).trans hf11 (by simp [Value.ownBlock])) | (at_builtin; refine app_row rfl _ _ 27 5 _ 1 1 rfl Try.underlying27 infoB rfl (by decide) (by decide) w9.heap.size dl (.slice a11 dl c11) _ rfl own11 (.slice ba nb bc) nb (byt b) F rfl (HBT.out.nil (FR9.out.trans fr11 (by simp))) (oneCell_byt _) (dl + nb) rfl (by have := HDL9.out; have := HNBL.out; have := HKN.out; omega) fr11.size ?_; intro a12 c12 w12 own12 hf12 hloc12; have fr12 : Frm [] w9 w12 := frm_own fr11 own11 (Nat.le_refl _) hf12; have z9 := fr12.frz y0 (ROW9.out.frozen _) (by simp); have y9 := fr12.cell y0 (by simp); have x9 := fr12.frz e1' x1 (by simp); have e9 := fr12.cell e1' (by simp)) | fail)
      have HE := Lib.hid (app_end (b := b) H3.out FR9.out OW9.out HG9.out (by rw [← HDL.out]; exact HL5.out) HNL.out fr12 own12 (by rw [← HDL.out]; rw [HNB.out]))
      clear z9 y9 x9 e9 own11 hf11 hloc11 own12 hf12 hloc12
      try go_wp2_with fail
      go_ret
      rw [show cutB false b = b from rfl]
      exact ⟨⟨rfl, HE.out.1⟩, F3.out.trans HE.out.2 (fun x hx => .inl hx)⟩
    | true =>
      rw [if_pos rfl]
      go_enter Try.func40, Try.ntmps40
      go_wp2_with fail
      refine hfi'.mono ?_
      rintro e0 w0 ⟨rfl, rfl⟩
      clear hfi'
      go_wp2_with fail
      refine hgd.mono ?_
      rintro e1 w1 ⟨rfl, rfl⟩
      clear hgd
      go_wp2_with fail
      refine wp_region_held_drew (S := fun w' => w'.cell? ⟨d, 0, none⟩ = some (.int .i64 (m.cap : Int)) ∧ w'.cell? ⟨d, 2, none⟩ = some (.slice da m.dir.length dc)) (by kernel_rfl) (⟨c0, c2⟩) ?_
      intro hHeld
      refine wpAnyH_take (i := 0) (v := ?_) rfl (by kernel_rfl) (by kernel_rfl) (by kernel_rfl) (fun _ _ _ h => h) (Or.inl ⟨by rfl, ?_⟩) (by assumption) ?_
      rotate_left
      · intro w9 hS9
        try dsimp only at hS9
        go_split_ands
        go_simp
        try with_reducible rfl
      try simp only [Act.put, List.getElem_toArray, List.getElem_cons_succ, List.getElem_cons_zero, List.setIfInBounds_toArray, List.set_cons_zero, List.set_cons_succ]
      refine wpAnyH_take (i := 1) (v := ?_) rfl (by kernel_rfl) (by kernel_rfl) (by kernel_rfl) (fun _ _ _ h => h) (Or.inl ⟨by rfl, ?_⟩) (by assumption) ?_
      rotate_left
      · intro w9 hS9
        try dsimp only at hS9
        go_split_ands
        go_simp
        try with_reducible rfl
      try simp only [Act.put, List.getElem_toArray, List.getElem_cons_succ, List.getElem_cons_zero, List.setIfInBounds_toArray, List.set_cons_zero, List.set_cons_succ]
      try simp only [jd]
      refine wpAnyH_take (i := 2) (v := ?_) rfl (by kernel_rfl) (by kernel_rfl) (by kernel_rfl) (fun _ _ _ h => h) (Or.inl ⟨by rfl, ?_⟩) (by assumption) ?_
      rotate_left
      · intro w9 hS9
        try dsimp only at hS9
        go_split_ands
        go_simp
        try with_reducible rfl
      try simp only [Act.put, List.getElem_toArray, List.getElem_cons_succ, List.getElem_cons_zero, List.setIfInBounds_toArray, List.set_cons_zero, List.set_cons_succ]
      first
        | (refine wpAnyH_take (i := 3) (v := undef) rfl (by kernel_rfl) (by kernel_rfl) (by kernel_rfl) (fun _ _ _ h => h) (Or.inr ⟨by rfl, rfl⟩) (by assumption) ?_)
        | (refine wpAnyH_take (i := 3) (v := ?_) rfl (by kernel_rfl) (by kernel_rfl) (by kernel_rfl) (fun _ _ _ h => h) (Or.inl ⟨by rfl, ?_⟩) (by assumption) ?_; rotate_left; (intro w9 hS9; (try dsimp only at hS9); go_split_ands; go_simp; try with_reducible rfl))
      try simp only [Act.put, List.getElem_toArray, List.getElem_cons_succ, List.getElem_cons_zero, List.setIfInBounds_toArray, List.set_cons_zero, List.set_cons_succ]
      first
        | (refine wpAnyH_take (i := 4) (v := undef) rfl (by kernel_rfl) (by kernel_rfl) (by kernel_rfl) (fun _ _ _ h => h) (Or.inr ⟨by rfl, rfl⟩) (by assumption) ?_)
        | (refine wpAnyH_take (i := 4) (v := ?_) rfl (by kernel_rfl) (by kernel_rfl) (by kernel_rfl) (fun _ _ _ h => h) (Or.inl ⟨by rfl, ?_⟩) (by assumption) ?_; rotate_left; (intro w9 hS9; (try dsimp only at hS9); go_split_ands; go_simp; try with_reducible rfl))
      try simp only [Act.put, List.getElem_toArray, List.getElem_cons_succ, List.getElem_cons_zero, List.setIfInBounds_toArray, List.set_cons_zero, List.set_cons_succ]
      first
        | (refine wpAnyH_take (i := 5) (v := undef) rfl (by kernel_rfl) (by kernel_rfl) (by kernel_rfl) (fun _ _ _ h => h) (Or.inr ⟨by rfl, rfl⟩) (by assumption) ?_)
        | (refine wpAnyH_take (i := 5) (v := ?_) rfl (by kernel_rfl) (by kernel_rfl) (by kernel_rfl) (fun _ _ _ h => h) (Or.inl ⟨by rfl, ?_⟩) (by assumption) ?_; rotate_left; (intro w9 hS9; (try dsimp only at hS9); go_split_ands; go_simp; try with_reducible rfl))
      try simp only [Act.put, List.getElem_toArray, List.getElem_cons_succ, List.getElem_cons_zero, List.setIfInBounds_toArray, List.set_cons_zero, List.set_cons_succ]
      first
        | (refine wpAnyH_take (i := 6) (v := undef) rfl (by kernel_rfl) (by kernel_rfl) (by kernel_rfl) (fun _ _ _ h => h) (Or.inr ⟨by rfl, rfl⟩) (by assumption) ?_)
        | (refine wpAnyH_take (i := 6) (v := ?_) rfl (by kernel_rfl) (by kernel_rfl) (by kernel_rfl) (fun _ _ _ h => h) (Or.inl ⟨by rfl, ?_⟩) (by assumption) ?_; rotate_left; (intro w9 hS9; (try dsimp only at hS9); go_split_ands; go_simp; try with_reducible rfl))
      try simp only [Act.put, List.getElem_toArray, List.getElem_cons_succ, List.getElem_cons_zero, List.setIfInBounds_toArray, List.set_cons_zero, List.set_cons_succ]
      first
        | (refine wpAnyH_take (i := 7) (v := undef) rfl (by kernel_rfl) (by kernel_rfl) (by kernel_rfl) (fun _ _ _ h => h) (Or.inr ⟨by rfl, rfl⟩) (by assumption) ?_)
        | (refine wpAnyH_take (i := 7) (v := ?_) rfl (by kernel_rfl) (by kernel_rfl) (by kernel_rfl) (fun _ _ _ h => h) (Or.inl ⟨by rfl, ?_⟩) (by assumption) ?_; rotate_left; (intro w9 hS9; (try dsimp only at hS9); go_split_ands; go_simp; try with_reducible rfl))
      try simp only [Act.put, List.getElem_toArray, List.getElem_cons_succ, List.getElem_cons_zero, List.setIfInBounds_toArray, List.set_cons_zero, List.set_cons_succ]
      first
        | (refine wpAnyH_take (i := 8) (v := undef) rfl (by kernel_rfl) (by kernel_rfl) (by kernel_rfl) (fun _ _ _ h => h) (Or.inr ⟨by rfl, rfl⟩) (by assumption) ?_)
        | (refine wpAnyH_take (i := 8) (v := ?_) rfl (by kernel_rfl) (by kernel_rfl) (by kernel_rfl) (fun _ _ _ h => h) (Or.inl ⟨by rfl, ?_⟩) (by assumption) ?_; rotate_left; (intro w9 hS9; (try dsimp only at hS9); go_split_ands; go_simp; try with_reducible rfl))
      try simp only [Act.put, List.getElem_toArray, List.getElem_cons_succ, List.getElem_cons_zero, List.setIfInBounds_toArray, List.set_cons_zero, List.set_cons_succ]
      refine wpAnyH_take (i := 9) (v := ?_) rfl (by kernel_rfl) (by kernel_rfl) (by kernel_rfl) (fun _ _ _ h => h) (Or.inl ⟨by rfl, ?_⟩) (by assumption) ?_
      rotate_left
      · intro w9 hS9
        try dsimp only at hS9
        go_split_ands
        go_simp
        try with_reducible rfl
      try simp only [Act.put, List.getElem_toArray, List.getElem_cons_succ, List.getElem_cons_zero, List.setIfInBounds_toArray, List.set_cons_zero, List.set_cons_succ]
      refine wpAnyH_take (i := 10) (v := ?_) rfl (by kernel_rfl) (by kernel_rfl) (by kernel_rfl) (fun _ _ _ h => h) (Or.inl ⟨by rfl, ?_⟩) (by assumption) ?_
      rotate_left
      · intro w9 hS9
        try dsimp only at hS9
        go_split_ands
        go_simp
        try with_reducible rfl
      try simp only [Act.put, List.getElem_toArray, List.getElem_cons_succ, List.getElem_cons_zero, List.setIfInBounds_toArray, List.set_cons_zero, List.set_cons_succ]
      refine wpAnyH_take (i := 11) (v := ?_) rfl (by kernel_rfl) (by kernel_rfl) (by kernel_rfl) (fun _ _ _ h => h) (Or.inl ⟨by rfl, ?_⟩) (by assumption) ?_
      rotate_left
      · intro w9 hS9
        try dsimp only at hS9
        go_split_ands
        go_simp
        try with_reducible rfl
      try simp only [Act.put, List.getElem_toArray, List.getElem_cons_succ, List.getElem_cons_zero, List.setIfInBounds_toArray, List.set_cons_zero, List.set_cons_succ]
      refine wpAnyH_take (i := 13) (v := ?_) rfl (by kernel_rfl) (by kernel_rfl) (by kernel_rfl) (fun _ _ _ h => h) (Or.inl ⟨by rfl, ?_⟩) (by assumption) ?_
      rotate_left
      · intro w9 hS9
        try dsimp only at hS9
        go_split_ands
        go_simp
        try with_reducible rfl
      try simp only [Act.put, List.getElem_toArray, List.getElem_cons_succ, List.getElem_cons_zero, List.setIfInBounds_toArray, List.set_cons_zero, List.set_cons_succ]
      refine wpAnyH_take (i := 14) (v := ?_) rfl (by kernel_rfl) (by kernel_rfl) (by kernel_rfl) (fun _ _ _ h => h) (Or.inl ⟨by rfl, ?_⟩) (by assumption) ?_
      rotate_left
      · intro w9 hS9
        try dsimp only at hS9
        go_split_ands
        go_simp
        try with_reducible rfl
      try simp only [Act.put, List.getElem_toArray, List.getElem_cons_succ, List.getElem_cons_zero, List.setIfInBounds_toArray, List.set_cons_zero, List.set_cons_succ]
      refine wpAnyH_take (i := 16) (v := ?_) rfl (by kernel_rfl) (by kernel_rfl) (by kernel_rfl) (fun _ _ _ h => h) (Or.inl ⟨by rfl, ?_⟩) (by assumption) ?_
      rotate_left
      · intro w9 hS9
        try dsimp only at hS9
        go_split_ands
        go_simp
        try with_reducible rfl
      try simp only [Act.put, List.getElem_toArray, List.getElem_cons_succ, List.getElem_cons_zero, List.setIfInBounds_toArray, List.set_cons_zero, List.set_cons_succ]
      refine wpAnyH_take (i := 17) (v := ?_) rfl (by kernel_rfl) (by kernel_rfl) (by kernel_rfl) (fun _ _ _ h => h) (Or.inl ⟨by rfl, ?_⟩) (by assumption) ?_
      rotate_left
      · intro w9 hS9
        try dsimp only at hS9
        go_split_ands
        go_simp
        try with_reducible rfl
      try simp only [Act.put, List.getElem_toArray, List.getElem_cons_succ, List.getElem_cons_zero, List.setIfInBounds_toArray, List.set_cons_zero, List.set_cons_succ]
      refine wpAnyH_take (i := 18) (v := ?_) rfl (by kernel_rfl) (by kernel_rfl) (by kernel_rfl) (fun _ _ _ h => h) (Or.inl ⟨by rfl, ?_⟩) (by assumption) ?_
      rotate_left
      · intro w9 hS9
        try dsimp only at hS9
        go_split_ands
        go_simp
        try with_reducible rfl
      try simp only [Act.put, List.getElem_toArray, List.getElem_cons_succ, List.getElem_cons_zero, List.setIfInBounds_toArray, List.set_cons_zero, List.set_cons_succ]
      refine wpAnyH_take (i := 19) (v := ?_) rfl (by kernel_rfl) (by kernel_rfl) (by kernel_rfl) (fun _ _ _ h => h) (Or.inl ⟨by rfl, ?_⟩) (by assumption) ?_
      rotate_left
      · intro w9 hS9
        try dsimp only at hS9
        go_split_ands
        go_simp
        try with_reducible rfl
      try simp only [Act.put, List.getElem_toArray, List.getElem_cons_succ, List.getElem_cons_zero, List.setIfInBounds_toArray, List.set_cons_zero, List.set_cons_succ]
      refine wpAnyH_ready (rs := [12]) (by kernel_rfl) (by simp) ?_
      refine AllReadyH.cons rfl (fun K hK => ?_) AllReadyH.nil
      go_simp
      refine (rused_any (HH.out.nil ((Frm.refl [] w1).drew)) HO.out).mono ?_
      rintro e2 w2 ⟨he2, hf20⟩
      rw [← HUU.out] at he2
      subst he2
      have hf2 : Frm [] w1 w2 := Frm.trans ((Frm.refl [] w1).drew) hf20 (by simp)
      refine hK.out _ _ ?_ (fun hHeld => ?_)
      · exact ⟨hf2.cell c0 (by simp), hf2.cell c2 (by simp)⟩
      clear hK K
      try simp only [Act.put, List.getElem_toArray, List.getElem_cons_succ, List.getElem_cons_zero, List.setIfInBounds_toArray, List.set_cons_zero, List.set_cons_succ]
      refine wpAnyH_take (i := 15) (v := ?_) rfl (by kernel_rfl) (by kernel_rfl) (by kernel_rfl) (fun _ _ _ h => h) (Or.inl ⟨by rfl, ?_⟩) (by assumption) ?_
      rotate_left
      · intro w9 hS9
        try dsimp only at hS9
        go_split_ands
        go_simp
        try with_reducible rfl
      try simp only [Act.put, List.getElem_toArray, List.getElem_cons_succ, List.getElem_cons_zero, List.setIfInBounds_toArray, List.set_cons_zero, List.set_cons_succ]
      refine wpAnyH_take (i := 20) (v := ?_) rfl (by kernel_rfl) (by kernel_rfl) (by kernel_rfl) (fun _ _ _ h => h) (Or.inl ⟨by rfl, ?_⟩) (by assumption) ?_
      rotate_left
      · intro w9 hS9
        try dsimp only at hS9
        go_split_ands
        go_simp
        try with_reducible rfl
      try simp only [Act.put, List.getElem_toArray, List.getElem_cons_succ, List.getElem_cons_zero, List.setIfInBounds_toArray, List.set_cons_zero, List.set_cons_succ]
      refine wpAnyH_take (i := 21) (v := ?_) rfl (by kernel_rfl) (by kernel_rfl) (by kernel_rfl) (fun _ _ _ h => h) (Or.inl ⟨by rfl, ?_⟩) (by assumption) ?_
      rotate_left
      · intro w9 hS9
        try dsimp only at hS9
        go_split_ands
        go_simp
        try with_reducible rfl
      try simp only [Act.put, List.getElem_toArray, List.getElem_cons_succ, List.getElem_cons_zero, List.setIfInBounds_toArray, List.set_cons_zero, List.set_cons_succ]
      refine wpAnyH_take (i := 22) (v := ?_) rfl (by kernel_rfl) (by kernel_rfl) (by kernel_rfl) (fun _ _ _ h => h) (Or.inl ⟨by rfl, ?_⟩) (by assumption) ?_
      rotate_left
      · intro w9 hS9
        try dsimp only at hS9
        go_split_ands
        go_simp
        try with_reducible rfl
      try simp only [Act.put, List.getElem_toArray, List.getElem_cons_succ, List.getElem_cons_zero, List.setIfInBounds_toArray, List.set_cons_zero, List.set_cons_succ]
      refine wpAnyH_done (by kernel_rfl) ?_ _

      have HF2 := Lib.hid hf2
      clear hf20 hf2 c0 c2 c6 iw
      go_wp2_with fail
      refine (HW.out _ (HH.out.hd.frm HF2.out (by simp))).mono ?_
      rintro e3 w3 ⟨rfl, hr3, hf3⟩
      have H3 := Lib.hid ((HH.out.nil HF2.out).write hf3 hr3)
      have F3 : Hid (Frm [d] w1 w3) := Lib.hid ((HF2.out.mono (by simp)).trans hf3 (fun x hx => .inl hx))
      clear hr3 hf3
      obtain ⟨nf, hnf⟩ : ∃ nf, nf = (writeM m).files.length := ⟨_, rfl⟩
      have hnl : (l).length = nf := by rw [H3.out.flen, hnf]
      obtain ⟨a5, c5, hl5⟩ := H3.out.lget HIX.out
      have hdat := H3.out.fd _ (List.mem_of_getElem? hl5)
      have hnfl : nf ≤ 100000 := by rw [hnf]; exact HNFX.out
      have hif : i < nf := by rw [hnf]; exact HIX.out
      obtain ⟨dl, hdl⟩ : ∃ dl, dl = (fileAt (writeM m).files i).data.length := ⟨_, rfl⟩
      have hdl9 : dl ≤ 4194304 := by rw [hdl]; exact HDB.out
      have HDATA : Hid (RowV w3 F (.slice a5 dl c5) dl 1 (byt (fileAt (writeM m).files i).data)) := Lib.hid (by rw [hdl]; exact hdat)
      have HL5 : Hid ((l)[i]? = some (.slice a5 dl c5, fileAt (writeM m).files i)) := Lib.hid (by rw [hdl]; exact hl5)
      have e1 := H3.out.hd.cell (i := 1) rfl
      have hfr := H3.out.fr
      rw [hnl] at hfr
      have HFR := Lib.hid (hfr.nil ((Frm.refl [] w3).alloc (.cells #[] 89)))
      have HNL := Lib.hid hnl
      have HNFL := Lib.hid hnfl
      have HDL := Lib.hid hdl
      have HDL9 := Lib.hid hdl9
      have hdlt := H3.out.hd.lt
      have i6 : (i : Int) < (nf : Int) := by omega
      have i7 : (0 : Int) ≤ (i : Int) := by omega
      have i8 : (nf : Int) ≤ 9223372036854775807 := by omega
      have HBT : Hid (RowV w3 F (.slice ba k2 bc) k2 1 (byt (b.take k2))) := Lib.hid (cut_row (HB0.out.frm F3.out HH.out.mine) HKN.out)
      have hpos : 0 < nf := by omega
      have HPOS := Lib.hid hpos
      clear hdat hl5 hfr hnl hnfl hif hdl hdl9 hpos hnf
      go_wp2_with (first | (at_builtin; refine app_row rfl _ _ 73 89 _ 2 32 rfl Try.underlying73 infoFile rfl (by decide) (by decide) w3.heap.size 0 (.slice (some ⟨w3.heap.size, 0, none⟩) 0 0) [] rfl (owns_made0 w3 _ _) _ nf (fileC (l)) F rfl HFR.out (oneCell_fileC _ H3.out.slices) nf (Nat.zero_add _) (by have := HNFL.out; omega) (by simp) ?_; intro a9 c9 w9 own9 hf9 hloc9) | fail)
      have fr9 : Frm [] w3 w9 := ((Frm.refl [] w3).alloc _).trans hf9 (by simp [Value.ownBlock])
      obtain ⟨g9, cc9, e9, hg9, hc9, hm9, row9⟩ := ownsB_some own9 HPOS.out
      simp only [Value.slice.injEq] at e9
      obtain ⟨rfl, -, rfl⟩ := e9
      obtain ⟨k0, k1⟩ := fileC_get HL5.out
      have y0 := row9.cell k0
      have D9 := Lib.hid (H3.out.nil fr9)
      have x1 := D9.out.hd.frozen 1
      have e1' := D9.out.hd.cell (i := 1) rfl
      have hdg : d ≠ g9 := by omega
      have FR9 := Lib.hid fr9
      have OW9 := Lib.hid own9
      have HG9 := Lib.hid hg9
      have ROW9 := Lib.hid row9
      have g9l : g9 < w9.heap.size := (own9.lt g9 rfl).2
      clear own9 hf9 hloc9 fr9 k0 k1 row9 e1 hc9 hm9 hdlt hg9
      go_wp2_with (first | (at_builtin; refine app_row rfl _ _ 27 5 _ 1 1 rfl Try.underlying27 infoB rfl (by decide) (by decide) w9.heap.size 0 (.slice (some ⟨w9.heap.size, 0, none⟩) 0 0) [] rfl (owns_made0 w9 _ _) (.slice a5 dl c5) dl (byt (fileAt (writeM m).files i).data) F rfl (HDATA.out.nil (FR9.out.alloc _)) (oneCell_byt _) dl (Nat.zero_add _) (by have := HDL9.out; omega) (by simp) ?_; intro a11 c11 w11 own11 hf11 hloc11; have fr11 : Frm [] w9 w11 := ((Frm.refl [] w9).alloc _).trans hf11 (by simp [Value.ownBlock])) | (at_builtin; refine app_row rfl _ _ 27 5 _ 1 1 rfl Try.underlying27 infoB rfl (by decide) (by decide) w9.heap.size dl (.slice a11 dl c11) _ rfl own11 (.slice ba k2 bc) k2 (byt (b.take k2)) F rfl (HBT.out.nil (FR9.out.trans fr11 (by simp))) (oneCell_byt _) (dl + k2) rfl (by have := HDL9.out; have := HNBL.out; have := HKN.out; omega) fr11.size ?_; intro a12 c12 w12 own12 hf12 hloc12; have fr12 : Frm [] w9 w12 := frm_own fr11 own11 (Nat.le_refl _) hf12; have z9 := fr12.frz y0 (ROW9.out.frozen _) (by simp); have y9 := fr12.cell y0 (by simp); have x9 := fr12.frz e1' x1 (by simp); have e9 := fr12.cell e1' (by simp)) | fail)
      have HE := Lib.hid (app_end (b := (b.take k2)) H3.out FR9.out OW9.out HG9.out (by rw [← HDL.out]; exact HL5.out) HNL.out fr12 own12 (by rw [← HDL.out]; rw [List.length_take, Nat.min_eq_left (by rw [← HNB.out]; exact HKN.out)]))
      clear z9 y9 x9 e9 own11 hf11 hloc11 own12 hf12 hloc12
      try go_wp2_with fail
      go_ret
      rw [show cutB true b = b.take k2 from by rw [HK2.out]; rfl]
      exact ⟨⟨rfl, HE.out.1⟩, F3.out.trans HE.out.2 (fun x hx => .inl hx)⟩
end

end Go.Proofs.Ytkebdgbjgbcneaa
