/- GraphDistances of the law answers true. Printed by zbc.py. -/
import Derived.Test.YtknfdpkfomlckaaBB
import Derived.Test.YtknfdpkfomlckaaZ9
import Derived.Test.YtknfdpkfomlckaaZ7
namespace Go.Proofs.Ytknfdpkfomlckaa
open Go.RowKit

theorem rvd_ok (B0 : Nat) (a : Option Addr) (cap : Nat) (l : Lts) (w : World) (h : LAt B0 w a cap l) (hv : validB l = true) :
    Calls Try.prog 33 #[.agg #[.slice a l.length cap]] w fun e w' => (∃ g out, e = .returned (.slice (some ⟨g, 0, none⟩) l.length l.length) ∧ w'.ownsRow w.heap.size 3 1 (.slice (some ⟨g, 0, none⟩) l.length l.length) l.length (ints out) ∧ IsVD (Esel l true) (Vis l) l.length out) ∧ Frm [] w w' := by
  refine (rdist_any B0 a cap l w h).mono ?_
  rintro e w' ⟨h1, hf⟩
  rw [VDEnd, if_pos hv] at h1
  exact ⟨h1, hf⟩

/-- What both functions answer, valid or not. -/
def VDU (l : Lts) (n : Nat) (xs : List Int) : Prop := if validB l = true then n = l.length ∧ IsVD (Esel l true) (Vis l) l.length xs else n = 0 ∧ xs = []
theorem VDU.unique {l : Lts} {n m : Nat} {xs ys : List Int} (h : VDU l n xs) (k : VDU l m ys) : n = m ∧ xs = ys := by
  unfold VDU at h k
  split at h
  · rename_i hv
    rw [if_pos hv] at k
    exact ⟨by omega, h.2.unique k.2⟩
  · rename_i hv
    rw [if_neg hv] at k
    exact ⟨by omega, by rw [h.2, k.2]⟩
def VDX (B : Nat) (l : Lts) (w' : World) (e : Ending) : Prop :=
  ∃ (a : Option Addr) (c n : Nat) (xs : List Int), e = .returned (.slice a n c) ∧ w'.ownsRow B 3 1 (.slice a n c) n (ints xs) ∧ VDU l n xs
theorem VDEnd.x {B : Nat} {l : Lts} {w' : World} {e : Ending} (h : VDEnd B l w' e) : VDX B l w' e := by
  unfold VDEnd at h
  split at h
  · rename_i hv
    obtain ⟨g, out, he, hown, hc⟩ := h
    exact ⟨_, _, _, out, he, hown, by rw [VDU, if_pos hv]; exact ⟨rfl, hc⟩⟩
  · rename_i hv
    exact ⟨none, 0, 0, [], h, World.ownsRow_nil _ _ _ _, by rw [VDU, if_neg hv]; exact ⟨rfl, rfl⟩⟩
theorem vd_x (B0 : Nat) (a : Option Addr) (cap : Nat) (l : Lts) (w : World) (h : LAt B0 w a cap l) :
    Calls Try.prog 32 #[.agg #[.slice a l.length cap]] w fun e w' => VDX w.heap.size l w' e ∧ Frm [] w w' :=
  (dist_any B0 a cap l w h).mono fun _ _ h => ⟨h.1.x, h.2⟩
theorem rvd_x (B0 : Nat) (a : Option Addr) (cap : Nat) (l : Lts) (w : World) (h : LAt B0 w a cap l) :
    Calls Try.prog 33 #[.agg #[.slice a l.length cap]] w fun e w' => VDX w.heap.size l w' e ∧ Frm [] w w' :=
  (rdist_any B0 a cap l w h).mono fun _ _ h => ⟨h.1.x, h.2⟩

set_option linter.unusedSimpArgs false in
set_option maxRecDepth 100000 in
set_option maxHeartbeats 4000000 in
theorem distances_law (ta : Option Addr) (tcap : Nat) (xs : List Int) (a : Option Addr) (cap : Nat) (l : Lts) (w : World) (ht : Rd w.heap.size w ta xs.length tcap 1 (ints xs)) (hx : ∀ x ∈ xs, -9223372036854775808 ≤ x ∧ x ≤ 9223372036854775807) (h : LAt w.heap.size w a cap l) :
    Calls Try.prog 10 #[.slice ta xs.length tcap, .agg #[.slice a l.length cap]] w fun e w' => e = .returned (.bool true) ∧ Frm [] w w' := by
  have f0 : Frm [] w (w.alloc (.cells #[.slice a l.length cap] 25)) := (Frm.refl [] w).alloc _
  have hbox := box1 w (.slice a l.length cap) 25
  have HB := Lib.hid hbox
  have hnew := tape_new w.heap.size ta tcap xs _ (ht.frm f0 (by simp)) hx
  have HL0 := Lib.hid (h.nil f0 rfl)
  clear ht hx h hbox
  go_enter Try.func10, Try.ntmps10
  go_wp2_with fail
  refine hnew.mono ?_
  rintro e1 w1 ⟨rfl, hf1, hT1, hsz1⟩
  have hs0 : (w.alloc (.cells #[.slice a l.length cap] 25)).heap.size = w.heap.size + 1 := by simp only [World.alloc, Array.size_push]
  rw [hs0] at hsz1 hT1 ⊢
  have HF1 := Lib.hid hf1
  have HT1 := Lib.hid hT1
  clear hnew hf1 hT1
  go_wp2_with fail
  go_loopg [6] 5 (fun q i wr => ∃ (j : Nat), q = 5 - j ∧ j ≤ 5 ∧ i = .int .i64 (j : Int) ∧ TapeOk w.heap.size wr (w.heap.size + 1) (3000 * j) ∧ Frm [w.heap.size + 1] w1 wr)
  case atStart => exact ⟨0, rfl, Nat.zero_le _, rfl, HT1.out, Frm.refl _ _⟩
  case round =>
    obtain ⟨j, rfl, hj, rfl, hT, hF⟩ := hrel
    have HT := Lib.hid hT
    have HF := Lib.hid hF
    have hszr := hF.size
    have HFW := Lib.hid (((HF1.out.mono (fq := [w.heap.size + 1]) (by simp)).trans hF (by simp)))
    have i4 : (0 : Int) ≤ (j : Int) := by omega
    clear hT hF
    by_cases hj5 : j < 5
    · have i5 : (j : Int) < 5 := by omega
      go_wp2_with fail
      refine (lts_any w.heap.size (w.heap.size + 1) (3000 * j) 9 wr HT.out (by omega) (by omega) (by omega) (by omega)).mono ?_
      rintro e5 w5 ⟨x, g, rfl, hg, hM, hS, hT5, hf5⟩
      have HVLX := Lib.hid (hS.valid (by omega) (by omega))
      have hfew := hS.few
      have hrows : ∀ row ∈ x, row.length ≤ 140737488355328 := fun row hr => by
        obtain ⟨i, hi⟩ := List.getElem?_of_mem hr
        have := (hS.row i row hi).2.2
        omega
      have hsz5 := hf5.size
      have hf6 : Frm [] w5 (w5.alloc (.cells #[.slice (some ⟨g, 0, none⟩) x.length x.length] 25)) := (Frm.refl [] w5).alloc _
      have HMX := Lib.hid (hM.frm hf6 (by simp))
      have HRX := Lib.hid hrows
      have HT6 : Hid (TapeOk w.heap.size (w5.alloc (.cells #[.slice (some ⟨g, 0, none⟩) x.length x.length] 25)) (w.heap.size + 1) (3000 * j + 1000)) := Lib.hid (hT5.nil hf6)
      have HF6 := Lib.hid ((HF.out.trans hf5 (by simp)).trans hf6 (by simp))
      have C6' := Lib.hid ((box1 w5 (.slice (some ⟨g, 0, none⟩) x.length x.length) 25).cell (i := 0) rfl)
      have i6 : (x.length : Int) ≤ 1000 := by omega
      have hgl := hM.lt
      have hs6 : (w5.alloc (.cells #[.slice (some ⟨g, 0, none⟩) x.length x.length] 25)).heap.size = w5.heap.size + 1 := by simp only [World.alloc, Array.size_push]
      clear hM hS hT5 hf5 hrows hf6
      go_wp2_with fail
      refine (chain_any w.heap.size (w.heap.size + 1) (3000 * j + 1000) 9 (w5.alloc (.cells #[.slice (some ⟨g, 0, none⟩) x.length x.length] 25)) HT6.out (by omega) (by omega) (by omega) (by omega)).mono ?_
      rintro e7 w7 ⟨y, g7, rfl, hg7, hM, hS, hT7, hf7⟩
      have HVLY := Lib.hid (hS.valid (by omega) (by omega))
      have hfew7 := hS.few
      have hrows : ∀ row ∈ y, row.length ≤ 140737488355328 := fun row hr => by
        obtain ⟨i, hi⟩ := List.getElem?_of_mem hr
        have := (hS.row i row hi).2.2
        omega
      have hsz7 := hf7.size
      have hf8 : Frm [] w7 (w7.alloc (.cells #[.slice (some ⟨g7, 0, none⟩) y.length y.length] 25)) := (Frm.refl [] w7).alloc _
      have HLY := Lib.hid ((hM.lat (by omega) hrows).nil hf8 rfl)
      have HLX := Lib.hid (((HMX.out.frm hf7 (by simp; omega)).lat (by omega) HRX.out).nil hf8 rfl)
      have HT8 : Hid (TapeOk w.heap.size (w7.alloc (.cells #[.slice (some ⟨g7, 0, none⟩) y.length y.length] 25)) (w.heap.size + 1) (3000 * j + 3000)) := Lib.hid (hT7.nil hf8)
      have HF8 := Lib.hid ((HF6.out.trans hf7 (by simp)).trans hf8 (by simp))
      have C8 := Lib.hid ((box1 w7 (.slice (some ⟨g7, 0, none⟩) y.length y.length) 25).cell (i := 0) rfl)
      have C6 := Lib.hid (hf8.cell (hf7.cell C6'.out (by simp; omega)) (by simp))
      have i7 : (y.length : Int) ≤ 1000 := by omega
      have nb6 := World.block_lt_of_cell? _ _ (hf7.cell C6'.out (by simp; omega))
      simp only at nb6
      clear hM hS hT7 hf7 hrows hf8
      go_wp2_with fail
      go_region_held3 (fun w' => w'.cell? ⟨w5.heap.size, 0, none⟩ = some (.slice (some ⟨g, 0, none⟩) x.length x.length) ∧ w'.cell? ⟨w7.heap.size, 0, none⟩ = some (.slice (some ⟨g7, 0, none⟩) y.length y.length)) (first | exact ⟨C6.out, C8.out⟩ | exact ⟨hf14.cell C6.out (by simp), hf14.cell C8.out (by simp)⟩ | exact ⟨hf13.cell C6.out (by simp), hf13.cell C8.out (by simp)⟩ | exact ⟨hf12.cell C6.out (by simp), hf12.cell C8.out (by simp)⟩ | exact ⟨hf11.cell C6.out (by simp), hf11.cell C8.out (by simp)⟩ | exact ⟨hf10.cell C6.out (by simp), hf10.cell C8.out (by simp)⟩ | exact ⟨hf9.cell C6.out (by simp), hf9.cell C8.out (by simp)⟩) (first | (go_at_call 15; (with_reducible refine (ints_n w13 w12 (some ⟨g12, 0, none⟩) (some ⟨g13, 0, none⟩) y.length y.length y.length out13 hown12 hown13 hf130).mono ?_); rintro e14 w14 ⟨rfl, hf140⟩; have hf14 := hf13.trans hf140 (by simp)) | (go_at_call 33; (with_reducible refine (rvd_ok w12.heap.size (some ⟨g7, 0, none⟩) y.length y w12 ((HLY.out.nil hf12 rfl).cut) HVLY.out).mono ?_); rintro e13 w13 ⟨⟨g13, out13, rfl, hown13, hic13⟩, hf130⟩; obtain rfl := hic13.unique hic12; have hf13 := hf12.trans hf130 (by simp)) | (go_at_call 32; (with_reducible refine (vd_ok w11.heap.size (some ⟨g7, 0, none⟩) y.length y w11 ((HLY.out.nil hf11 rfl).cut) HVLY.out).mono ?_); rintro e12 w12 ⟨⟨g12, out12, rfl, hown12, hic12⟩, hf120⟩; have hf12 := hf11.trans hf120 (by simp)) | (go_at_call 15; (with_reducible refine (ints_n w10 w9 (some ⟨g9, 0, none⟩) (some ⟨g10, 0, none⟩) x.length x.length x.length out10 hown9 hown10 hf100).mono ?_); rintro e11 w11 ⟨rfl, hf110⟩; have hf11 := hf10.trans hf110 (by simp)) | (go_at_call 33; (with_reducible refine (rvd_ok w9.heap.size (some ⟨g, 0, none⟩) x.length x w9 ((HLX.out.nil hf9 rfl).cut) HVLX.out).mono ?_); rintro e10 w10 ⟨⟨g10, out10, rfl, hown10, hic10⟩, hf100⟩; obtain rfl := hic10.unique hic9; have hf10 := hf9.trans hf100 (by simp)) | (go_at_call 32; (with_reducible refine (vd_ok (w7.alloc (.cells #[.slice (some ⟨g7, 0, none⟩) y.length y.length] 25)).drew.heap.size (some ⟨g, 0, none⟩) x.length x (w7.alloc (.cells #[.slice (some ⟨g7, 0, none⟩) y.length y.length] 25)).drew ((HLX.out.nil ((Frm.refl [] (w7.alloc (.cells #[.slice (some ⟨g7, 0, none⟩) y.length y.length] 25))).drew) rfl).cut) HVLX.out).mono ?_); rintro e9 w9 ⟨⟨g9, out9, rfl, hown9, hic9⟩, hf90⟩; have hf9 := ((Frm.refl [] (w7.alloc (.cells #[.slice (some ⟨g7, 0, none⟩) y.length y.length] 25))).drew).trans hf90 (by simp)))
      have HT15 := Lib.hid (HT8.out.nil hf14)
      have HF15 := Lib.hid (HF8.out.trans hf14 (by simp))
      clear hf14
      go_wp2_with fail
      go_roundg (5 - (j + 1))
      case rel => exact ⟨j + 1, rfl, hj5, by go_num, HT15.out.mono (by omega), HF15.out⟩
      case measure => omega
    · have i5 : ¬ (j : Int) < 5 := by omega
      have cb := (HB.out.frm HFW.out (by simp)).cell (i := 0) rfl
      have HLR := Lib.hid (HL0.out.frm HFW.out (by simp))
      have CB := Lib.hid cb
      have HFIN : Hid (Frm [] w wr) := Lib.hid (f0.trans HFW.out (by simp))
      clear hj5
      cases hh : hugeB l with
      | true =>
        have HH := Lib.hid hh
        clear hh
        go_wp2_with fail
        refine wp_region_held_drew (S := fun w' => w'.cell? ⟨w.heap.size, 0, none⟩ = some (.slice a l.length cap)) (by kernel_rfl) (CB.out) ?_
        intro hHeld
        refine wpAnyH_take (i := 0) (v := ?_) rfl (by kernel_rfl) (by kernel_rfl) (by kernel_rfl) (fun _ _ _ h => h) (Or.inl ⟨by rfl, ?_⟩) (by assumption) ?_
        rotate_left
        · intro w9 hS9
          try dsimp only at hS9
          go_split_ands
          go_simp
          try with_reducible rfl
        try simp only [Act.put, List.getElem_toArray, List.getElem_cons_succ, List.getElem_cons_zero, List.setIfInBounds_toArray, List.set_cons_zero, List.set_cons_succ]
        refine wpAnyH_ready (rs := [1]) (by kernel_rfl) (by simp) ?_
        refine AllReadyH.cons rfl (fun K hK => ?_) AllReadyH.nil
        go_simp
        refine (huge_as wr.heap.size a cap l true HH.out wr.drew (HLR.out.cut.nil ((Frm.refl [] wr).drew) rfl)).mono ?_
        rintro e3 w3 ⟨rfl, hf30⟩
        have hf3 := ((Frm.refl [] wr).drew).trans hf30 (by simp)
        refine hK.out _ _ ?_ (fun hHeld => ?_)
        · exact hf3.cell CB.out (by simp)
        clear hK K
        try simp only [Act.put, List.getElem_toArray, List.getElem_cons_succ, List.getElem_cons_zero, List.setIfInBounds_toArray, List.set_cons_zero, List.set_cons_succ]
        first
          | (refine wpAnyH_take (i := 2) (v := undef) rfl (by kernel_rfl) (by kernel_rfl) (by kernel_rfl) (fun _ _ _ h => h) (Or.inr ⟨by rfl, rfl⟩) (by assumption) ?_)
          | (refine wpAnyH_take (i := 2) (v := ?_) rfl (by kernel_rfl) (by kernel_rfl) (by kernel_rfl) (fun _ _ _ h => h) (Or.inl ⟨by rfl, ?_⟩) (by assumption) ?_; rotate_left; (intro w9 hS9; (try dsimp only at hS9); go_split_ands; go_simp; try with_reducible rfl))
        try simp only [Act.put, List.getElem_toArray, List.getElem_cons_succ, List.getElem_cons_zero, List.setIfInBounds_toArray, List.set_cons_zero, List.set_cons_succ]
        first
          | (refine wpAnyH_take (i := 3) (v := undef) rfl (by kernel_rfl) (by kernel_rfl) (by kernel_rfl) (fun _ _ _ h => h) (Or.inr ⟨by rfl, rfl⟩) (by assumption) ?_)
          | (refine wpAnyH_take (i := 3) (v := ?_) rfl (by kernel_rfl) (by kernel_rfl) (by kernel_rfl) (fun _ _ _ h => h) (Or.inl ⟨by rfl, ?_⟩) (by assumption) ?_; rotate_left; (intro w9 hS9; (try dsimp only at hS9); go_split_ands; go_simp; try with_reducible rfl))
        try simp only [Act.put, List.getElem_toArray, List.getElem_cons_succ, List.getElem_cons_zero, List.setIfInBounds_toArray, List.set_cons_zero, List.set_cons_succ]
        first
          | (refine wpAnyH_take (i := 4) (v := undef) rfl (by kernel_rfl) (by kernel_rfl) (by kernel_rfl) (fun _ _ _ h => h) (Or.inr ⟨by rfl, rfl⟩) (by assumption) ?_)
          | (refine wpAnyH_take (i := 4) (v := ?_) rfl (by kernel_rfl) (by kernel_rfl) (by kernel_rfl) (fun _ _ _ h => h) (Or.inl ⟨by rfl, ?_⟩) (by assumption) ?_; rotate_left; (intro w9 hS9; (try dsimp only at hS9); go_split_ands; go_simp; try with_reducible rfl))
        try simp only [Act.put, List.getElem_toArray, List.getElem_cons_succ, List.getElem_cons_zero, List.setIfInBounds_toArray, List.set_cons_zero, List.set_cons_succ]
        first
          | (refine wpAnyH_take (i := 5) (v := undef) rfl (by kernel_rfl) (by kernel_rfl) (by kernel_rfl) (fun _ _ _ h => h) (Or.inr ⟨by rfl, rfl⟩) (by assumption) ?_)
          | (refine wpAnyH_take (i := 5) (v := ?_) rfl (by kernel_rfl) (by kernel_rfl) (by kernel_rfl) (fun _ _ _ h => h) (Or.inl ⟨by rfl, ?_⟩) (by assumption) ?_; rotate_left; (intro w9 hS9; (try dsimp only at hS9); go_split_ands; go_simp; try with_reducible rfl))
        try simp only [Act.put, List.getElem_toArray, List.getElem_cons_succ, List.getElem_cons_zero, List.setIfInBounds_toArray, List.set_cons_zero, List.set_cons_succ]
        first
          | (refine wpAnyH_take (i := 6) (v := undef) rfl (by kernel_rfl) (by kernel_rfl) (by kernel_rfl) (fun _ _ _ h => h) (Or.inr ⟨by rfl, rfl⟩) (by assumption) ?_)
          | (refine wpAnyH_take (i := 6) (v := ?_) rfl (by kernel_rfl) (by kernel_rfl) (by kernel_rfl) (fun _ _ _ h => h) (Or.inl ⟨by rfl, ?_⟩) (by assumption) ?_; rotate_left; (intro w9 hS9; (try dsimp only at hS9); go_split_ands; go_simp; try with_reducible rfl))
        try simp only [Act.put, List.getElem_toArray, List.getElem_cons_succ, List.getElem_cons_zero, List.setIfInBounds_toArray, List.set_cons_zero, List.set_cons_succ]
        first
          | (refine wpAnyH_take (i := 7) (v := undef) rfl (by kernel_rfl) (by kernel_rfl) (by kernel_rfl) (fun _ _ _ h => h) (Or.inr ⟨by rfl, rfl⟩) (by assumption) ?_)
          | (refine wpAnyH_take (i := 7) (v := ?_) rfl (by kernel_rfl) (by kernel_rfl) (by kernel_rfl) (fun _ _ _ h => h) (Or.inl ⟨by rfl, ?_⟩) (by assumption) ?_; rotate_left; (intro w9 hS9; (try dsimp only at hS9); go_split_ands; go_simp; try with_reducible rfl))
        try simp only [Act.put, List.getElem_toArray, List.getElem_cons_succ, List.getElem_cons_zero, List.setIfInBounds_toArray, List.set_cons_zero, List.set_cons_succ]
        first
          | (refine wpAnyH_take (i := 8) (v := undef) rfl (by kernel_rfl) (by kernel_rfl) (by kernel_rfl) (fun _ _ _ h => h) (Or.inr ⟨by rfl, rfl⟩) (by assumption) ?_)
          | (refine wpAnyH_take (i := 8) (v := ?_) rfl (by kernel_rfl) (by kernel_rfl) (by kernel_rfl) (fun _ _ _ h => h) (Or.inl ⟨by rfl, ?_⟩) (by assumption) ?_; rotate_left; (intro w9 hS9; (try dsimp only at hS9); go_split_ands; go_simp; try with_reducible rfl))
        try simp only [Act.put, List.getElem_toArray, List.getElem_cons_succ, List.getElem_cons_zero, List.setIfInBounds_toArray, List.set_cons_zero, List.set_cons_succ]
        first
          | (refine wpAnyH_take (i := 9) (v := undef) rfl (by kernel_rfl) (by kernel_rfl) (by kernel_rfl) (fun _ _ _ h => h) (Or.inr ⟨by rfl, rfl⟩) (by assumption) ?_)
          | (refine wpAnyH_take (i := 9) (v := ?_) rfl (by kernel_rfl) (by kernel_rfl) (by kernel_rfl) (fun _ _ _ h => h) (Or.inl ⟨by rfl, ?_⟩) (by assumption) ?_; rotate_left; (intro w9 hS9; (try dsimp only at hS9); go_split_ands; go_simp; try with_reducible rfl))
        try simp only [Act.put, List.getElem_toArray, List.getElem_cons_succ, List.getElem_cons_zero, List.setIfInBounds_toArray, List.set_cons_zero, List.set_cons_succ]
        first
          | (refine wpAnyH_take (i := 10) (v := undef) rfl (by kernel_rfl) (by kernel_rfl) (by kernel_rfl) (fun _ _ _ h => h) (Or.inr ⟨by rfl, rfl⟩) (by assumption) ?_)
          | (refine wpAnyH_take (i := 10) (v := ?_) rfl (by kernel_rfl) (by kernel_rfl) (by kernel_rfl) (fun _ _ _ h => h) (Or.inl ⟨by rfl, ?_⟩) (by assumption) ?_; rotate_left; (intro w9 hS9; (try dsimp only at hS9); go_split_ands; go_simp; try with_reducible rfl))
        try simp only [Act.put, List.getElem_toArray, List.getElem_cons_succ, List.getElem_cons_zero, List.setIfInBounds_toArray, List.set_cons_zero, List.set_cons_succ]
        first
          | (refine wpAnyH_take (i := 11) (v := undef) rfl (by kernel_rfl) (by kernel_rfl) (by kernel_rfl) (fun _ _ _ h => h) (Or.inr ⟨by rfl, rfl⟩) (by assumption) ?_)
          | (refine wpAnyH_take (i := 11) (v := ?_) rfl (by kernel_rfl) (by kernel_rfl) (by kernel_rfl) (fun _ _ _ h => h) (Or.inl ⟨by rfl, ?_⟩) (by assumption) ?_; rotate_left; (intro w9 hS9; (try dsimp only at hS9); go_split_ands; go_simp; try with_reducible rfl))
        try simp only [Act.put, List.getElem_toArray, List.getElem_cons_succ, List.getElem_cons_zero, List.setIfInBounds_toArray, List.set_cons_zero, List.set_cons_succ]
        first
          | (refine wpAnyH_take (i := 12) (v := undef) rfl (by kernel_rfl) (by kernel_rfl) (by kernel_rfl) (fun _ _ _ h => h) (Or.inr ⟨by rfl, rfl⟩) (by assumption) ?_)
          | (refine wpAnyH_take (i := 12) (v := ?_) rfl (by kernel_rfl) (by kernel_rfl) (by kernel_rfl) (fun _ _ _ h => h) (Or.inl ⟨by rfl, ?_⟩) (by assumption) ?_; rotate_left; (intro w9 hS9; (try dsimp only at hS9); go_split_ands; go_simp; try with_reducible rfl))
        try simp only [Act.put, List.getElem_toArray, List.getElem_cons_succ, List.getElem_cons_zero, List.setIfInBounds_toArray, List.set_cons_zero, List.set_cons_succ]
        refine wpAnyH_done (by kernel_rfl) ?_ _
        go_wp2_with fail
        go_ret
        exact ⟨rfl, HFIN.out.trans hf3 (by simp)⟩
      | false =>
        have HH := Lib.hid hh
        clear hh
        go_wp2_with fail
        go_region_held3 (fun w' => w'.cell? ⟨w.heap.size, 0, none⟩ = some (.slice a l.length cap)) (first | exact CB.out | exact hf7.cell CB.out (by simp) | exact hf6.cell CB.out (by simp) | exact hf5.cell CB.out (by simp) | exact hf4.cell CB.out (by simp) | exact hf3.cell CB.out (by simp)) (first | (go_at_call 19; (with_reducible refine (sane_any w6).mono ?_); rintro e7 w7 ⟨rfl, hf70⟩; have hf7 := hf6.trans hf70 (by simp)) | (go_at_call 15; (with_reducible refine (ints_n w5 w4 a4 a5 c4 c5 n5 out5 hown4 hown5 hf50).mono ?_); rintro e6 w6 ⟨rfl, hf60⟩; have hf6 := hf5.trans hf60 (by simp)) | (go_at_call 33; (with_reducible refine (rvd_x w4.heap.size a cap l w4 (HLR.out.nil hf4 rfl).cut).mono ?_); rintro e5 w5 ⟨h5, hf50⟩; obtain ⟨a5, c5, n5, out5, rfl, hown5, hic5⟩ := h5; obtain ⟨rfl, rfl⟩ := hic5.unique hic4; have hf5 := hf4.trans hf50 (by simp)) | (go_at_call 32; (with_reducible refine (vd_x w3.heap.size a cap l w3 (HLR.out.nil hf3 rfl).cut).mono ?_); rintro e4 w4 ⟨h4, hf40⟩; obtain ⟨a4, c4, n4, out4, rfl, hown4, hic4⟩ := h4; have hf4 := hf3.trans hf40 (by simp)) | (go_at_call 18; (with_reducible refine (huge_as wr.heap.size a cap l false HH.out wr.drew (HLR.out.cut.nil ((Frm.refl [] wr).drew) rfl)).mono ?_); rintro e3 w3 ⟨rfl, hf30⟩; have hf3 := ((Frm.refl [] wr).drew).trans hf30 (by simp)))
        have HF10 := Lib.hid (HFIN.out.trans hf7 (by simp))
        go_wp2_with fail
        go_ret
        exact ⟨rfl, HF10.out⟩

end Go.Proofs.Ytknfdpkfomlckaa
