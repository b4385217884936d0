/- GraphComponents of the law answers true. Printed by z7.py. -/
import Derived.Test.YtknfdpkfomlckaaAF
import Derived.Test.YtknfdpkfomlckaaZ6
import Derived.Test.YtknfdpkfomlckaaZ4
import Derived.Test.YtknfdpkfomlckaaQ1
namespace Go.Proofs.Ytknfdpkfomlckaa
open Go.RowKit

theorem rcomps_ok (B0 : Nat) (a : Option Addr) (cap : Nat) (l : Lts) (silent : Bool) (w : World) (h : LAt B0 w a cap l) (hv : validB l = true) :
    Calls Try.prog 17 #[.agg #[.slice a l.length cap], .bool silent] w fun e w' => (∃ g out, e = .returned (.slice (some ⟨g, 0, none⟩) l.length l.length) ∧ w'.ownsRow w.heap.size 3 1 (.slice (some ⟨g, 0, none⟩) l.length l.length) l.length (ints out) ∧ Tj.IsComp (Esel l silent) l.length out) ∧ Frm [] w w' := by
  refine (rcomps_any B0 a cap l silent w h).mono ?_
  rintro e w' ⟨h1, hf⟩
  rw [CompEnd, if_pos hv] at h1
  exact ⟨h1, hf⟩

/-- Two rows of the same integers are the same. -/
theorem ints_n (w w0 : World) (a b : Option Addr) (ca cb n : Nat) (xs : List Int) {B B' : Nat} (h1 : w0.ownsRow B 3 1 (.slice a n ca) n (ints xs)) (h2 : w.ownsRow B' 3 1 (.slice b n cb) n (ints xs)) (hf : Frm [] w0 w) :
    Calls Try.prog 15 #[.slice a n ca, .slice b n cb] w fun e w' => e = .returned (.bool true) ∧ Frm [] w w' := by
  have hn : n = xs.length := by have := h1.1; rw [ints_len] at this; omega
  subst hn
  exact ints_eq w.heap.size a b ca cb xs w (rd_of_owns (ownsB_frm h1 hf (by simp)) (Nat.le_refl _)) (rd_of_owns h2 (Nat.le_refl _))

/-- What both functions answer, valid or not. -/
def CompU (l : Lts) (silent : Bool) (n : Nat) (xs : List Int) : Prop := if validB l = true then n = l.length ∧ Tj.IsComp (Esel l silent) l.length xs else n = 0 ∧ xs = []
theorem CompU.unique {l : Lts} {silent : Bool} {n m : Nat} {xs ys : List Int} (h : CompU l silent n xs) (k : CompU l silent m ys) : n = m ∧ xs = ys := by
  unfold CompU at h k
  split at h
  · rename_i hv
    rw [if_pos hv] at k
    exact ⟨by omega, h.2.unique k.2⟩
  · rename_i hv
    rw [if_neg hv] at k
    exact ⟨by omega, by rw [h.2, k.2]⟩
def CompX (B : Nat) (l : Lts) (silent : Bool) (w' : World) (e : Ending) : Prop :=
  ∃ (a : Option Addr) (c n : Nat) (xs : List Int), e = .returned (.slice a n c) ∧ w'.ownsRow B 3 1 (.slice a n c) n (ints xs) ∧ CompU l silent n xs
theorem CompEnd.x {B : Nat} {l : Lts} {silent : Bool} {w' : World} {e : Ending} (h : CompEnd B l silent w' e) : CompX B l silent w' e := by
  unfold CompEnd at h
  split at h
  · rename_i hv
    obtain ⟨g, out, he, hown, hc⟩ := h
    exact ⟨_, _, _, out, he, hown, by rw [CompU, if_pos hv]; exact ⟨rfl, hc⟩⟩
  · rename_i hv
    exact ⟨none, 0, 0, [], h, World.ownsRow_nil _ _ _ _, by rw [CompU, if_neg hv]; exact ⟨rfl, rfl⟩⟩
theorem comps_x (B0 : Nat) (a : Option Addr) (cap : Nat) (l : Lts) (silent : Bool) (w : World) (h : LAt B0 w a cap l) :
    Calls Try.prog 16 #[.agg #[.slice a l.length cap], .bool silent] w fun e w' => CompX w.heap.size l silent w' e ∧ Frm [] w w' :=
  (comps_any B0 a cap l silent w h).mono fun _ _ h => ⟨h.1.x, h.2⟩
theorem rcomps_x (B0 : Nat) (a : Option Addr) (cap : Nat) (l : Lts) (silent : Bool) (w : World) (h : LAt B0 w a cap l) :
    Calls Try.prog 17 #[.agg #[.slice a l.length cap], .bool silent] w fun e w' => CompX w.heap.size l silent w' e ∧ Frm [] w w' :=
  (rcomps_any B0 a cap l silent w h).mono fun _ _ h => ⟨h.1.x, h.2⟩

set_option linter.unusedSimpArgs false in
set_option maxRecDepth 100000 in
set_option maxHeartbeats 4000000 in
theorem components_law (ta : Option Addr) (tcap : Nat) (xs : List Int) (a : Option Addr) (cap : Nat) (l : Lts) (w : World) (ht : Rd w.heap.size w ta xs.length tcap 1 (ints xs)) (hx : ∀ x ∈ xs, -9223372036854775808 ≤ x ∧ x ≤ 9223372036854775807) (h : LAt w.heap.size w a cap l) :
    Calls Try.prog 3 #[.slice ta xs.length tcap, .agg #[.slice a l.length cap]] w fun e w' => e = .returned (.bool true) ∧ Frm [] w w' := by
  have f0 : Frm [] w (w.alloc (.cells #[.slice a l.length cap] 25)) := (Frm.refl [] w).alloc _
  have hbox := box1 w (.slice a l.length cap) 25
  have HB := Lib.hid hbox
  have hnew := tape_new w.heap.size ta tcap xs _ (ht.frm f0 (by simp)) hx
  have HL0 := Lib.hid (h.nil f0 rfl)
  clear ht hx h hbox
  go_enter Try.func3, Try.ntmps3
  go_wp2_with fail
  refine hnew.mono ?_
  rintro e1 w1 ⟨rfl, hf1, hT1, hsz1⟩
  have hs0 : (w.alloc (.cells #[.slice a l.length cap] 25)).heap.size = w.heap.size + 1 := by simp only [World.alloc, Array.size_push]
  rw [hs0] at hsz1 hT1 ⊢
  have HF1 := Lib.hid hf1
  have HT1 := Lib.hid hT1
  clear hnew hf1 hT1
  go_wp2_with fail
  go_loopg [6] 4 (fun q i wr => ∃ (j : Nat), q = 4 - j ∧ j ≤ 4 ∧ i = .int .i64 (j : Int) ∧ TapeOk w.heap.size wr (w.heap.size + 1) (2000 * j) ∧ Frm [w.heap.size + 1] w1 wr)
  case atStart => exact ⟨0, rfl, Nat.zero_le _, rfl, HT1.out, Frm.refl _ _⟩
  case round =>
    obtain ⟨j, rfl, hj, rfl, hT, hF⟩ := hrel
    have HT := Lib.hid hT
    have HF := Lib.hid hF
    have hszr := hF.size
    have HFW := Lib.hid (((HF1.out.mono (fq := [w.heap.size + 1]) (by simp)).trans hF (by simp)))
    have i4 : (0 : Int) ≤ (j : Int) := by omega
    clear hT hF
    by_cases hj5 : j < 4
    · have i5 : (j : Int) < 4 := by omega
      go_wp2_with fail
      refine (lts_any w.heap.size (w.heap.size + 1) (2000 * j) 8 wr HT.out (by omega) (by omega) (by omega) (by omega)).mono ?_
      rintro e5 w5 ⟨x, g, rfl, hg, hM, hS, hT5, hf5⟩
      have HVA := Lib.hid (hS.valid (by omega) (by omega))
      have hfew := hS.few
      have hrows : ∀ row ∈ x, row.length ≤ 140737488355328 := fun row hr => by
        obtain ⟨i, hi⟩ := List.getElem?_of_mem hr
        have := (hS.row i row hi).2.2
        omega
      have HROWS := Lib.hid hrows
      have hsz5 := hf5.size
      have hgl := hM.lt
      have HM := Lib.hid (hM.frm ((Frm.refl [] w5).alloc (.cells #[.slice (some ⟨g, 0, none⟩) x.length x.length] 25)) (by simp))
      have HT6 : Hid (TapeOk w.heap.size (w5.alloc (.cells #[.slice (some ⟨g, 0, none⟩) x.length x.length] 25)) (w.heap.size + 1) (2000 * j + 1000)) := Lib.hid (hT5.nil ((Frm.refl [] w5).alloc _))
      have HF6 := Lib.hid ((HF.out.trans hf5 (by simp)).alloc (.cells #[.slice (some ⟨g, 0, none⟩) x.length x.length] 25))
      have C6 := Lib.hid ((box1 w5 (.slice (some ⟨g, 0, none⟩) x.length x.length) 25).cell (i := 0) rfl)
      have hlen : x.length ≤ 140737488355328 := by omega
      have i6 : (x.length : Int) ≤ 1000 := by omega
      clear hM hS hT5 hf5 hrows
      go_wp2_with fail
      go_region_held3 (fun w' => w'.cell? ⟨w5.heap.size, 0, none⟩ = some (.slice (some ⟨g, 0, none⟩) x.length x.length)) (first | exact C6.out | exact hf12.cell C6.out (by simp) | exact hf11.cell C6.out (by simp) | exact hf10.cell C6.out (by simp) | exact hf9.cell C6.out (by simp) | exact hf8.cell C6.out (by simp) | exact hf7.cell C6.out (by simp)) (first | (go_at_call 15; (with_reducible refine (ints_n w11 w10 (some ⟨g10, 0, none⟩) (some ⟨g11, 0, none⟩) x.length x.length x.length out11 hown10 hown11 hf110).mono ?_); rintro e12 w12 ⟨rfl, hf120⟩; have hf12 := hf11.trans hf120 (by simp)) | (go_at_call 17; (with_reducible refine (rcomps_ok w10.heap.size (some ⟨g, 0, none⟩) x.length x false w10 ((HM.out.frm hf10 (by simp)).lat hlen HROWS.out) HVA.out).mono ?_); rintro e11 w11 ⟨⟨g11, out11, rfl, hown11, hic11⟩, hf110⟩; obtain rfl := hic11.unique hic10; have hf11 := hf10.trans hf110 (by simp)) | (go_at_call 16; (with_reducible refine (comps_ok w9.heap.size (some ⟨g, 0, none⟩) x.length x false w9 ((HM.out.frm hf9 (by simp)).lat hlen HROWS.out) HVA.out).mono ?_); rintro e10 w10 ⟨⟨g10, out10, rfl, hown10, hic10⟩, hf100⟩; have hf10 := hf9.trans hf100 (by simp)) | (go_at_call 15; (with_reducible refine (ints_n w8 w7 (some ⟨g7, 0, none⟩) (some ⟨g8, 0, none⟩) x.length x.length x.length out8 hown7 hown8 hf80).mono ?_); rintro e9 w9 ⟨rfl, hf90⟩; have hf9 := hf8.trans hf90 (by simp)) | (go_at_call 17; (with_reducible refine (rcomps_ok w7.heap.size (some ⟨g, 0, none⟩) x.length x true w7 ((HM.out.frm hf7 (by simp)).lat hlen HROWS.out) HVA.out).mono ?_); rintro e8 w8 ⟨⟨g8, out8, rfl, hown8, hic8⟩, hf80⟩; obtain rfl := hic8.unique hic7; have hf8 := hf7.trans hf80 (by simp)) | (go_at_call 16; (with_reducible refine (comps_ok (w5.alloc (.cells #[.slice (some ⟨g, 0, none⟩) x.length x.length] 25)).drew.heap.size (some ⟨g, 0, none⟩) x.length x true (w5.alloc (.cells #[.slice (some ⟨g, 0, none⟩) x.length x.length] 25)).drew ((HM.out.frm ((Frm.refl [] (w5.alloc (.cells #[.slice (some ⟨g, 0, none⟩) x.length x.length] 25))).drew) (by simp)).lat hlen HROWS.out) HVA.out).mono ?_); rintro e7 w7 ⟨⟨g7, out7, rfl, hown7, hic7⟩, hf70⟩; have hf7 := ((Frm.refl [] (w5.alloc (.cells #[.slice (some ⟨g, 0, none⟩) x.length x.length] 25))).drew).trans hf70 (by simp)))
      have HT13 := Lib.hid (HT6.out.nil hf12)
      have HF13 := Lib.hid (HF6.out.trans hf12 (by simp))
      clear hf12
      go_wp2_with fail
      go_roundg (4 - (j + 1))
      case rel => exact ⟨j + 1, rfl, hj5, by go_num, HT13.out.mono (by omega), HF13.out⟩
      case measure => omega
    · have i5 : ¬ (j : Int) < 4 := by omega
      have cb := (HB.out.frm HFW.out (by simp)).cell (i := 0) rfl
      have HLR := Lib.hid (HL0.out.frm HFW.out (by simp))
      have CB := Lib.hid cb
      have HFIN : Hid (Frm [] w wr) := Lib.hid (f0.trans HFW.out (by simp))
      clear hj5
      cases hh : hugeB l with
      | true =>
        have HH := Lib.hid hh
        clear hh
        go_wp2_with fail
        refine wp_region_held_drew (S := fun w' => w'.cell? ⟨w.heap.size, 0, none⟩ = some (.slice a l.length cap)) (by kernel_rfl) (CB.out) ?_
        intro hHeld
        refine wpAnyH_take (i := 0) (v := ?_) rfl (by kernel_rfl) (by kernel_rfl) (by kernel_rfl) (fun _ _ _ h => h) (Or.inl ⟨by rfl, ?_⟩) (by assumption) ?_
        rotate_left
        · intro w9 hS9
          try dsimp only at hS9
          go_split_ands
          go_simp
          try with_reducible rfl
        try simp only [Act.put, List.getElem_toArray, List.getElem_cons_succ, List.getElem_cons_zero, List.setIfInBounds_toArray, List.set_cons_zero, List.set_cons_succ]
        refine wpAnyH_ready (rs := [1]) (by kernel_rfl) (by simp) ?_
        refine AllReadyH.cons rfl (fun K hK => ?_) AllReadyH.nil
        go_simp
        refine (huge_as wr.heap.size a cap l true HH.out wr.drew (HLR.out.cut.nil ((Frm.refl [] wr).drew) rfl)).mono ?_
        rintro e3 w3 ⟨rfl, hf30⟩
        have hf3 := ((Frm.refl [] wr).drew).trans hf30 (by simp)
        refine hK.out _ _ ?_ (fun hHeld => ?_)
        · exact hf3.cell CB.out (by simp)
        clear hK K
        try simp only [Act.put, List.getElem_toArray, List.getElem_cons_succ, List.getElem_cons_zero, List.setIfInBounds_toArray, List.set_cons_zero, List.set_cons_succ]
        first
          | (refine wpAnyH_take (i := 2) (v := undef) rfl (by kernel_rfl) (by kernel_rfl) (by kernel_rfl) (fun _ _ _ h => h) (Or.inr ⟨by rfl, rfl⟩) (by assumption) ?_)
          | (refine wpAnyH_take (i := 2) (v := ?_) rfl (by kernel_rfl) (by kernel_rfl) (by kernel_rfl) (fun _ _ _ h => h) (Or.inl ⟨by rfl, ?_⟩) (by assumption) ?_; rotate_left; (intro w9 hS9; (try dsimp only at hS9); go_split_ands; go_simp; try with_reducible rfl))
        try simp only [Act.put, List.getElem_toArray, List.getElem_cons_succ, List.getElem_cons_zero, List.setIfInBounds_toArray, List.set_cons_zero, List.set_cons_succ]
        first
          | (refine wpAnyH_take (i := 3) (v := undef) rfl (by kernel_rfl) (by kernel_rfl) (by kernel_rfl) (fun _ _ _ h => h) (Or.inr ⟨by rfl, rfl⟩) (by assumption) ?_)
          | (refine wpAnyH_take (i := 3) (v := ?_) rfl (by kernel_rfl) (by kernel_rfl) (by kernel_rfl) (fun _ _ _ h => h) (Or.inl ⟨by rfl, ?_⟩) (by assumption) ?_; rotate_left; (intro w9 hS9; (try dsimp only at hS9); go_split_ands; go_simp; try with_reducible rfl))
        try simp only [Act.put, List.getElem_toArray, List.getElem_cons_succ, List.getElem_cons_zero, List.setIfInBounds_toArray, List.set_cons_zero, List.set_cons_succ]
        first
          | (refine wpAnyH_take (i := 4) (v := undef) rfl (by kernel_rfl) (by kernel_rfl) (by kernel_rfl) (fun _ _ _ h => h) (Or.inr ⟨by rfl, rfl⟩) (by assumption) ?_)
          | (refine wpAnyH_take (i := 4) (v := ?_) rfl (by kernel_rfl) (by kernel_rfl) (by kernel_rfl) (fun _ _ _ h => h) (Or.inl ⟨by rfl, ?_⟩) (by assumption) ?_; rotate_left; (intro w9 hS9; (try dsimp only at hS9); go_split_ands; go_simp; try with_reducible rfl))
        try simp only [Act.put, List.getElem_toArray, List.getElem_cons_succ, List.getElem_cons_zero, List.setIfInBounds_toArray, List.set_cons_zero, List.set_cons_succ]
        first
          | (refine wpAnyH_take (i := 5) (v := undef) rfl (by kernel_rfl) (by kernel_rfl) (by kernel_rfl) (fun _ _ _ h => h) (Or.inr ⟨by rfl, rfl⟩) (by assumption) ?_)
          | (refine wpAnyH_take (i := 5) (v := ?_) rfl (by kernel_rfl) (by kernel_rfl) (by kernel_rfl) (fun _ _ _ h => h) (Or.inl ⟨by rfl, ?_⟩) (by assumption) ?_; rotate_left; (intro w9 hS9; (try dsimp only at hS9); go_split_ands; go_simp; try with_reducible rfl))
        try simp only [Act.put, List.getElem_toArray, List.getElem_cons_succ, List.getElem_cons_zero, List.setIfInBounds_toArray, List.set_cons_zero, List.set_cons_succ]
        first
          | (refine wpAnyH_take (i := 6) (v := undef) rfl (by kernel_rfl) (by kernel_rfl) (by kernel_rfl) (fun _ _ _ h => h) (Or.inr ⟨by rfl, rfl⟩) (by assumption) ?_)
          | (refine wpAnyH_take (i := 6) (v := ?_) rfl (by kernel_rfl) (by kernel_rfl) (by kernel_rfl) (fun _ _ _ h => h) (Or.inl ⟨by rfl, ?_⟩) (by assumption) ?_; rotate_left; (intro w9 hS9; (try dsimp only at hS9); go_split_ands; go_simp; try with_reducible rfl))
        try simp only [Act.put, List.getElem_toArray, List.getElem_cons_succ, List.getElem_cons_zero, List.setIfInBounds_toArray, List.set_cons_zero, List.set_cons_succ]
        first
          | (refine wpAnyH_take (i := 7) (v := undef) rfl (by kernel_rfl) (by kernel_rfl) (by kernel_rfl) (fun _ _ _ h => h) (Or.inr ⟨by rfl, rfl⟩) (by assumption) ?_)
          | (refine wpAnyH_take (i := 7) (v := ?_) rfl (by kernel_rfl) (by kernel_rfl) (by kernel_rfl) (fun _ _ _ h => h) (Or.inl ⟨by rfl, ?_⟩) (by assumption) ?_; rotate_left; (intro w9 hS9; (try dsimp only at hS9); go_split_ands; go_simp; try with_reducible rfl))
        try simp only [Act.put, List.getElem_toArray, List.getElem_cons_succ, List.getElem_cons_zero, List.setIfInBounds_toArray, List.set_cons_zero, List.set_cons_succ]
        first
          | (refine wpAnyH_take (i := 8) (v := undef) rfl (by kernel_rfl) (by kernel_rfl) (by kernel_rfl) (fun _ _ _ h => h) (Or.inr ⟨by rfl, rfl⟩) (by assumption) ?_)
          | (refine wpAnyH_take (i := 8) (v := ?_) rfl (by kernel_rfl) (by kernel_rfl) (by kernel_rfl) (fun _ _ _ h => h) (Or.inl ⟨by rfl, ?_⟩) (by assumption) ?_; rotate_left; (intro w9 hS9; (try dsimp only at hS9); go_split_ands; go_simp; try with_reducible rfl))
        try simp only [Act.put, List.getElem_toArray, List.getElem_cons_succ, List.getElem_cons_zero, List.setIfInBounds_toArray, List.set_cons_zero, List.set_cons_succ]
        first
          | (refine wpAnyH_take (i := 9) (v := undef) rfl (by kernel_rfl) (by kernel_rfl) (by kernel_rfl) (fun _ _ _ h => h) (Or.inr ⟨by rfl, rfl⟩) (by assumption) ?_)
          | (refine wpAnyH_take (i := 9) (v := ?_) rfl (by kernel_rfl) (by kernel_rfl) (by kernel_rfl) (fun _ _ _ h => h) (Or.inl ⟨by rfl, ?_⟩) (by assumption) ?_; rotate_left; (intro w9 hS9; (try dsimp only at hS9); go_split_ands; go_simp; try with_reducible rfl))
        try simp only [Act.put, List.getElem_toArray, List.getElem_cons_succ, List.getElem_cons_zero, List.setIfInBounds_toArray, List.set_cons_zero, List.set_cons_succ]
        first
          | (refine wpAnyH_take (i := 10) (v := undef) rfl (by kernel_rfl) (by kernel_rfl) (by kernel_rfl) (fun _ _ _ h => h) (Or.inr ⟨by rfl, rfl⟩) (by assumption) ?_)
          | (refine wpAnyH_take (i := 10) (v := ?_) rfl (by kernel_rfl) (by kernel_rfl) (by kernel_rfl) (fun _ _ _ h => h) (Or.inl ⟨by rfl, ?_⟩) (by assumption) ?_; rotate_left; (intro w9 hS9; (try dsimp only at hS9); go_split_ands; go_simp; try with_reducible rfl))
        try simp only [Act.put, List.getElem_toArray, List.getElem_cons_succ, List.getElem_cons_zero, List.setIfInBounds_toArray, List.set_cons_zero, List.set_cons_succ]
        first
          | (refine wpAnyH_take (i := 11) (v := undef) rfl (by kernel_rfl) (by kernel_rfl) (by kernel_rfl) (fun _ _ _ h => h) (Or.inr ⟨by rfl, rfl⟩) (by assumption) ?_)
          | (refine wpAnyH_take (i := 11) (v := ?_) rfl (by kernel_rfl) (by kernel_rfl) (by kernel_rfl) (fun _ _ _ h => h) (Or.inl ⟨by rfl, ?_⟩) (by assumption) ?_; rotate_left; (intro w9 hS9; (try dsimp only at hS9); go_split_ands; go_simp; try with_reducible rfl))
        try simp only [Act.put, List.getElem_toArray, List.getElem_cons_succ, List.getElem_cons_zero, List.setIfInBounds_toArray, List.set_cons_zero, List.set_cons_succ]
        first
          | (refine wpAnyH_take (i := 12) (v := undef) rfl (by kernel_rfl) (by kernel_rfl) (by kernel_rfl) (fun _ _ _ h => h) (Or.inr ⟨by rfl, rfl⟩) (by assumption) ?_)
          | (refine wpAnyH_take (i := 12) (v := ?_) rfl (by kernel_rfl) (by kernel_rfl) (by kernel_rfl) (fun _ _ _ h => h) (Or.inl ⟨by rfl, ?_⟩) (by assumption) ?_; rotate_left; (intro w9 hS9; (try dsimp only at hS9); go_split_ands; go_simp; try with_reducible rfl))
        try simp only [Act.put, List.getElem_toArray, List.getElem_cons_succ, List.getElem_cons_zero, List.setIfInBounds_toArray, List.set_cons_zero, List.set_cons_succ]
        first
          | (refine wpAnyH_take (i := 13) (v := undef) rfl (by kernel_rfl) (by kernel_rfl) (by kernel_rfl) (fun _ _ _ h => h) (Or.inr ⟨by rfl, rfl⟩) (by assumption) ?_)
          | (refine wpAnyH_take (i := 13) (v := ?_) rfl (by kernel_rfl) (by kernel_rfl) (by kernel_rfl) (fun _ _ _ h => h) (Or.inl ⟨by rfl, ?_⟩) (by assumption) ?_; rotate_left; (intro w9 hS9; (try dsimp only at hS9); go_split_ands; go_simp; try with_reducible rfl))
        try simp only [Act.put, List.getElem_toArray, List.getElem_cons_succ, List.getElem_cons_zero, List.setIfInBounds_toArray, List.set_cons_zero, List.set_cons_succ]
        first
          | (refine wpAnyH_take (i := 14) (v := undef) rfl (by kernel_rfl) (by kernel_rfl) (by kernel_rfl) (fun _ _ _ h => h) (Or.inr ⟨by rfl, rfl⟩) (by assumption) ?_)
          | (refine wpAnyH_take (i := 14) (v := ?_) rfl (by kernel_rfl) (by kernel_rfl) (by kernel_rfl) (fun _ _ _ h => h) (Or.inl ⟨by rfl, ?_⟩) (by assumption) ?_; rotate_left; (intro w9 hS9; (try dsimp only at hS9); go_split_ands; go_simp; try with_reducible rfl))
        try simp only [Act.put, List.getElem_toArray, List.getElem_cons_succ, List.getElem_cons_zero, List.setIfInBounds_toArray, List.set_cons_zero, List.set_cons_succ]
        first
          | (refine wpAnyH_take (i := 15) (v := undef) rfl (by kernel_rfl) (by kernel_rfl) (by kernel_rfl) (fun _ _ _ h => h) (Or.inr ⟨by rfl, rfl⟩) (by assumption) ?_)
          | (refine wpAnyH_take (i := 15) (v := ?_) rfl (by kernel_rfl) (by kernel_rfl) (by kernel_rfl) (fun _ _ _ h => h) (Or.inl ⟨by rfl, ?_⟩) (by assumption) ?_; rotate_left; (intro w9 hS9; (try dsimp only at hS9); go_split_ands; go_simp; try with_reducible rfl))
        try simp only [Act.put, List.getElem_toArray, List.getElem_cons_succ, List.getElem_cons_zero, List.setIfInBounds_toArray, List.set_cons_zero, List.set_cons_succ]
        first
          | (refine wpAnyH_take (i := 16) (v := undef) rfl (by kernel_rfl) (by kernel_rfl) (by kernel_rfl) (fun _ _ _ h => h) (Or.inr ⟨by rfl, rfl⟩) (by assumption) ?_)
          | (refine wpAnyH_take (i := 16) (v := ?_) rfl (by kernel_rfl) (by kernel_rfl) (by kernel_rfl) (fun _ _ _ h => h) (Or.inl ⟨by rfl, ?_⟩) (by assumption) ?_; rotate_left; (intro w9 hS9; (try dsimp only at hS9); go_split_ands; go_simp; try with_reducible rfl))
        try simp only [Act.put, List.getElem_toArray, List.getElem_cons_succ, List.getElem_cons_zero, List.setIfInBounds_toArray, List.set_cons_zero, List.set_cons_succ]
        first
          | (refine wpAnyH_take (i := 17) (v := undef) rfl (by kernel_rfl) (by kernel_rfl) (by kernel_rfl) (fun _ _ _ h => h) (Or.inr ⟨by rfl, rfl⟩) (by assumption) ?_)
          | (refine wpAnyH_take (i := 17) (v := ?_) rfl (by kernel_rfl) (by kernel_rfl) (by kernel_rfl) (fun _ _ _ h => h) (Or.inl ⟨by rfl, ?_⟩) (by assumption) ?_; rotate_left; (intro w9 hS9; (try dsimp only at hS9); go_split_ands; go_simp; try with_reducible rfl))
        try simp only [Act.put, List.getElem_toArray, List.getElem_cons_succ, List.getElem_cons_zero, List.setIfInBounds_toArray, List.set_cons_zero, List.set_cons_succ]
        first
          | (refine wpAnyH_take (i := 18) (v := undef) rfl (by kernel_rfl) (by kernel_rfl) (by kernel_rfl) (fun _ _ _ h => h) (Or.inr ⟨by rfl, rfl⟩) (by assumption) ?_)
          | (refine wpAnyH_take (i := 18) (v := ?_) rfl (by kernel_rfl) (by kernel_rfl) (by kernel_rfl) (fun _ _ _ h => h) (Or.inl ⟨by rfl, ?_⟩) (by assumption) ?_; rotate_left; (intro w9 hS9; (try dsimp only at hS9); go_split_ands; go_simp; try with_reducible rfl))
        try simp only [Act.put, List.getElem_toArray, List.getElem_cons_succ, List.getElem_cons_zero, List.setIfInBounds_toArray, List.set_cons_zero, List.set_cons_succ]
        first
          | (refine wpAnyH_take (i := 19) (v := undef) rfl (by kernel_rfl) (by kernel_rfl) (by kernel_rfl) (fun _ _ _ h => h) (Or.inr ⟨by rfl, rfl⟩) (by assumption) ?_)
          | (refine wpAnyH_take (i := 19) (v := ?_) rfl (by kernel_rfl) (by kernel_rfl) (by kernel_rfl) (fun _ _ _ h => h) (Or.inl ⟨by rfl, ?_⟩) (by assumption) ?_; rotate_left; (intro w9 hS9; (try dsimp only at hS9); go_split_ands; go_simp; try with_reducible rfl))
        try simp only [Act.put, List.getElem_toArray, List.getElem_cons_succ, List.getElem_cons_zero, List.setIfInBounds_toArray, List.set_cons_zero, List.set_cons_succ]
        refine wpAnyH_done (by kernel_rfl) ?_ _
        go_wp2_with fail
        go_ret
        exact ⟨rfl, HFIN.out.trans hf3 (by simp)⟩
      | false =>
        have HH := Lib.hid hh
        clear hh
        go_wp2_with fail
        go_region_held3 (fun w' => w'.cell? ⟨w.heap.size, 0, none⟩ = some (.slice a l.length cap)) (first | exact CB.out | exact hf10.cell CB.out (by simp) | exact hf9.cell CB.out (by simp) | exact hf8.cell CB.out (by simp) | exact hf7.cell CB.out (by simp) | exact hf6.cell CB.out (by simp) | exact hf5.cell CB.out (by simp) | exact hf4.cell CB.out (by simp) | exact hf3.cell CB.out (by simp)) (first | (go_at_call 19; (with_reducible refine (sane_any w9).mono ?_); rintro e10 w10 ⟨rfl, hf100⟩; have hf10 := hf9.trans hf100 (by simp)) | (go_at_call 15; (with_reducible refine (ints_n w8 w7 a7 a8 c7 c8 n8 out8 hown7 hown8 hf80).mono ?_); rintro e9 w9 ⟨rfl, hf90⟩; have hf9 := hf8.trans hf90 (by simp)) | (go_at_call 17; (with_reducible refine (rcomps_x w7.heap.size a cap l false w7 (HLR.out.nil hf7 rfl).cut).mono ?_); rintro e8 w8 ⟨h8, hf80⟩; obtain ⟨a8, c8, n8, out8, rfl, hown8, hic8⟩ := h8; obtain ⟨rfl, rfl⟩ := hic8.unique hic7; have hf8 := hf7.trans hf80 (by simp)) | (go_at_call 16; (with_reducible refine (comps_x w6.heap.size a cap l false w6 (HLR.out.nil hf6 rfl).cut).mono ?_); rintro e7 w7 ⟨h7, hf70⟩; obtain ⟨a7, c7, n7, out7, rfl, hown7, hic7⟩ := h7; have hf7 := hf6.trans hf70 (by simp)) | (go_at_call 15; (with_reducible refine (ints_n w5 w4 a4 a5 c4 c5 n5 out5 hown4 hown5 hf50).mono ?_); rintro e6 w6 ⟨rfl, hf60⟩; have hf6 := hf5.trans hf60 (by simp)) | (go_at_call 17; (with_reducible refine (rcomps_x w4.heap.size a cap l true w4 (HLR.out.nil hf4 rfl).cut).mono ?_); rintro e5 w5 ⟨h5, hf50⟩; obtain ⟨a5, c5, n5, out5, rfl, hown5, hic5⟩ := h5; obtain ⟨rfl, rfl⟩ := hic5.unique hic4; have hf5 := hf4.trans hf50 (by simp)) | (go_at_call 16; (with_reducible refine (comps_x w3.heap.size a cap l true w3 (HLR.out.nil hf3 rfl).cut).mono ?_); rintro e4 w4 ⟨h4, hf40⟩; obtain ⟨a4, c4, n4, out4, rfl, hown4, hic4⟩ := h4; have hf4 := hf3.trans hf40 (by simp)) | (go_at_call 18; (with_reducible refine (huge_as wr.heap.size a cap l false HH.out wr.drew (HLR.out.cut.nil ((Frm.refl [] wr).drew) rfl)).mono ?_); rintro e3 w3 ⟨rfl, hf30⟩; have hf3 := ((Frm.refl [] wr).drew).trans hf30 (by simp)))
        have HF10 := Lib.hid (HFIN.out.trans hf10 (by simp))
        go_wp2_with fail
        go_ret
        exact ⟨rfl, HF10.out⟩

end Go.Proofs.Ytknfdpkfomlckaa
