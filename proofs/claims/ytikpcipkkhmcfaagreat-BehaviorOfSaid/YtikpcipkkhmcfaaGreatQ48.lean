/- BehaviorOf of the law answers true. -/
import Derived.Test.YtikpcipkkhmcfaaGreatQ45
import Derived.Test.YtikpcipkkhmcfaaGreatQ46
import Derived.Test.YtikpcipkkhmcfaaGreatQ47
namespace Go.Proofs.YtikpcipkkhmcfaaGreat.Beh
open Go.Shelf Go.RowKit Go.Lib Go.Sort Go.Maps Go.Proofs.YtikpcipkkhmcfaaGreat Go.Proofs.YtikpcipkkhmcfaaGreat.Ind

set_option linter.unusedSimpArgs false in
set_option maxRecDepth 100000 in
set_option maxHeartbeats 4000000 in
theorem of_walk (ta : Option Addr) (tcap : Nat) (xs : List Int) (a : Option Addr) (cap : Nat) (l : Lts) (n : Int) (w : World) (ht : Rd w.heap.size w ta xs.length tcap 1 (ints xs)) (hx : ∀ x ∈ xs, -9223372036854775808 ≤ x ∧ x ≤ 9223372036854775807) (h : LAt w.heap.size w a cap l) :
    Calls Tryz.prog 3 #[.slice ta xs.length tcap, .agg #[.slice a l.length cap], .int .i64 n] w fun e w' => e = .returned (.bool true) ∧ Frm [] w w' := by
  have f0 : Frm [] w (w.alloc (.cells #[.slice a l.length cap] 25)) := (Frm.refl [] w).alloc _
  have HB := Lib.hid (box1 w (.slice a l.length cap) 25)
  have hnew := tape_new w.heap.size ta tcap xs _ (ht.frm f0 (by simp)) hx
  have HL0 := Lib.hid (h.nil f0 rfl)
  have hll := h.lt
  clear ht hx h
  go_enter Tryz.func3, Tryz.ntmps3
  go_wp2_with fail
  refine hnew.mono ?_
  rintro e1 w1 ⟨rfl, hf1, hT1, hsz1⟩
  have hs0 : (w.alloc (.cells #[.slice a l.length cap] 25)).heap.size = w.heap.size + 1 := by simp only [World.alloc, Array.size_push]
  rw [hs0] at hsz1 hT1 ⊢
  have HF1 := Lib.hid hf1
  have HT1 := Lib.hid hT1
  clear hnew hf1 hT1
  go_wp2_with fail
  go_loopg [8] 3 (fun q i wr => ∃ (j : Nat), q = 3 - j ∧ j ≤ 3 ∧ i = .int .i64 (j : Int) ∧ TapeOk w.heap.size wr (w.heap.size + 1) (5000 * j) ∧ Frm [w.heap.size + 1] w1 wr)
  case atStart => exact ⟨0, rfl, Nat.zero_le _, rfl, HT1.out, Frm.refl _ _⟩
  case round =>
    obtain ⟨j, rfl, hj, rfl, hT, hF⟩ := hrel
    have HT := Lib.hid hT
    have HF := Lib.hid hF
    have hszr := hF.size
    have HFW := Lib.hid (((HF1.out.mono (fq := [w.heap.size + 1]) (by simp)).trans hF (by simp)))
    have i4 : (0 : Int) ≤ (j : Int) := by omega
    clear hT hF
    by_cases hj5 : j < 3
    · have i5 : (j : Int) < 3 := by omega
      go_wp2_with fail
      refine (chain_any w.heap.size (w.heap.size + 1) (5000 * j) 5 wr HT.out (by omega) (by omega) (by omega) (by omega)).mono ?_
      rintro e5 w5 ⟨x, g, rfl, hg, hM, hS, hT5, hf5⟩
      have hpos := hS.pos
      have hfew := hS.few
      have hrows : ∀ row ∈ x, row.length ≤ 1000 := fun row hr => by
        obtain ⟨i, hi⟩ := List.getElem?_of_mem hr
        have := (hS.row i row hi).2.2
        omega
      have HROWS := Lib.hid hrows
      have HROWS2 : Hid (∀ row ∈ x, row.length ≤ 140737488355328) := Lib.hid (fun row hr => by have := hrows row hr; omega)
      have hsz5 := hf5.size
      have hgl := hM.lt
      have HM := Lib.hid (hM.frm ((Frm.refl [] w5).alloc (.cells #[.slice (some ⟨g, 0, none⟩) x.length x.length] 25)) (by simp))
      have HT6 : Hid (TapeOk w.heap.size (w5.alloc (.cells #[.slice (some ⟨g, 0, none⟩) x.length x.length] 25)) (w.heap.size + 1) (5000 * j + 2000)) := Lib.hid (hT5.nil ((Frm.refl [] w5).alloc _))
      have HF6 := Lib.hid ((HF.out.trans hf5 (by simp)).alloc (.cells #[.slice (some ⟨g, 0, none⟩) x.length x.length] 25))
      have HB6 := Lib.hid (box1 w5 (.slice (some ⟨g, 0, none⟩) x.length x.length) 25)
      have hlen : x.length ≤ 140737488355328 := by omega
      have i6 : (x.length : Int) ≤ 1000 := by omega
      clear hM hS hT5 hf5 hrows
      go_wp2_with fail
      generalize hw6 : w5.alloc (.cells #[.slice (some ⟨g, 0, none⟩) x.length x.length] 25) = w6 at *
      have hz6 : w5.heap.size < w6.heap.size := by rw [← hw6]; simp
      clear hw6
      have HLX : Hid (∀ W, Frm [w.heap.size + 1] w6 W → LAt W.heap.size W (some ⟨g, 0, none⟩) x.length x) := Lib.hid fun W hf => (HM.out.frm hf (by simp; omega)).lat hlen HROWS2.out
      have KEEP : Hid (∀ W, Frm [w.heap.size + 1] w6 W → W.cell? ⟨w5.heap.size, 0, none⟩ = some (.slice (some ⟨g, 0, none⟩) x.length x.length)) := Lib.hid fun W hf => (HB6.out.frm hf (by simp; omega)).cell (i := 0) rfl
      refine wp_region_held_drew (S := fun w' => w'.cell? ⟨w5.heap.size, 0, none⟩ = some (.slice (some ⟨g, 0, none⟩) x.length x.length)) (by kernel_rfl) (KEEP.out _ (Frm.refl _ w6).drew) ?_
      intro hHeld
      refine wpAnyH_take (i := 0) (v := ?_) rfl (by kernel_rfl) (by kernel_rfl) (by kernel_rfl) (fun _ _ _ h => h) (Or.inl ⟨by rfl, ?_⟩) (by assumption) ?_
      rotate_left
      · intro w9 hS9
        try dsimp only at hS9
        go_split_ands
        go_simp
        try with_reducible rfl
      try simp only [Act.put, List.getElem_toArray, List.getElem_cons_succ, List.getElem_cons_zero, List.setIfInBounds_toArray, List.set_cons_zero, List.set_cons_succ]
      refine wpAnyH_take (i := 1) (v := ?_) rfl (by kernel_rfl) (by kernel_rfl) (by kernel_rfl) (fun _ _ _ h => h) (Or.inl ⟨by rfl, ?_⟩) (by assumption) ?_
      rotate_left
      · intro w9 hS9
        try dsimp only at hS9
        go_split_ands
        go_simp
        try with_reducible rfl
      try simp only [Act.put, List.getElem_toArray, List.getElem_cons_succ, List.getElem_cons_zero, List.setIfInBounds_toArray, List.set_cons_zero, List.set_cons_succ]
      refine wpAnyH_ready (rs := [2]) (by kernel_rfl) (by simp) ?_
      refine AllReadyH.cons rfl (fun K hK => ?_) AllReadyH.nil
      go_simp
      refine (next_any w.heap.size (w.heap.size + 1) (5000 * j + 2000) 4 w6.drew (HT6.out.nil (Frm.refl [] w6).drew) (by omega) (by omega) (by omega)).mono ?_
      rintro e7 w7 ⟨⟨v7, rfl, -, -⟩, hT7, hf7⟩
      have f7 := (Frm.refl [w.heap.size + 1] w6).drew.trans hf7 (by simp)
      refine hK.out _ _ ?_ (fun hHeld => ?_)
      · exact KEEP.out _ f7
      clear hK K
      try simp only [Act.put, List.getElem_toArray, List.getElem_cons_succ, List.getElem_cons_zero, List.setIfInBounds_toArray, List.set_cons_zero, List.set_cons_succ]
      refine wpAnyH_ready (rs := [3]) (by kernel_rfl) (by simp) ?_
      refine AllReadyH.cons rfl (fun K hK => ?_) AllReadyH.nil
      go_simp
      refine (behaves_any _ _ _ x v7 w7 (HLX.out _ f7)).mono ?_
      rintro e8 w8 ⟨rfl, hf8⟩
      have f8 := f7.trans hf8 (by simp)
      have hT8 := hT7.nil hf8
      refine hK.out _ _ ?_ (fun hHeld => ?_)
      · exact KEEP.out _ f8
      clear hK K
      try simp only [Act.put, List.getElem_toArray, List.getElem_cons_succ, List.getElem_cons_zero, List.setIfInBounds_toArray, List.set_cons_zero, List.set_cons_succ]
      refine wpAnyH_take (i := 4) (v := ?_) rfl (by kernel_rfl) (by kernel_rfl) (by kernel_rfl) (fun _ _ _ h => h) (Or.inl ⟨by rfl, ?_⟩) (by assumption) ?_
      rotate_left
      · intro w9 hS9
        try dsimp only at hS9
        go_split_ands
        go_simp
        try with_reducible rfl
      try simp only [Act.put, List.getElem_toArray, List.getElem_cons_succ, List.getElem_cons_zero, List.setIfInBounds_toArray, List.set_cons_zero, List.set_cons_succ]
      refine wpAnyH_take (i := 5) (v := ?_) rfl (by kernel_rfl) (by kernel_rfl) (by kernel_rfl) (fun _ _ _ h => h) (Or.inl ⟨by rfl, ?_⟩) (by assumption) ?_
      rotate_left
      · intro w9 hS9
        try dsimp only at hS9
        go_split_ands
        go_simp
        try with_reducible rfl
      try simp only [Act.put, List.getElem_toArray, List.getElem_cons_succ, List.getElem_cons_zero, List.setIfInBounds_toArray, List.set_cons_zero, List.set_cons_succ]
      refine wpAnyH_take (i := 6) (v := ?_) rfl (by kernel_rfl) (by kernel_rfl) (by kernel_rfl) (fun _ _ _ h => h) (Or.inl ⟨by rfl, ?_⟩) (by assumption) ?_
      rotate_left
      · intro w9 hS9
        try dsimp only at hS9
        go_split_ands
        go_simp
        try with_reducible rfl
      try simp only [Act.put, List.getElem_toArray, List.getElem_cons_succ, List.getElem_cons_zero, List.setIfInBounds_toArray, List.set_cons_zero, List.set_cons_succ]
      refine wpAnyH_ready (rs := [7]) (by kernel_rfl) (by simp) ?_
      refine AllReadyH.cons rfl (fun K hK => ?_) AllReadyH.nil
      go_simp
      refine (calm_any w.heap.size (w.heap.size + 1) (5000 * j + 2000 + 1) 5 w8 hT8 (by omega) (by omega) (by omega) (by omega)).mono ?_
      rintro e9 w9 ⟨⟨l9, g9, rfl, hl9⟩, hT9, hf9⟩
      have f9 := f8.trans hf9 (by simp)
      refine hK.out _ _ ?_ (fun hHeld => ?_)
      · exact KEEP.out _ f9
      clear hK K
      try simp only [Act.put, List.getElem_toArray, List.getElem_cons_succ, List.getElem_cons_zero, List.setIfInBounds_toArray, List.set_cons_zero, List.set_cons_succ]
      refine wpAnyH_ready (rs := [8]) (by kernel_rfl) (by simp) ?_
      refine AllReadyH.cons rfl (fun K hK => ?_) AllReadyH.nil
      go_simp
      refine (behaves_any _ _ _ l9 3 w9 hl9).mono ?_
      rintro e10 w10 ⟨rfl, hf10⟩
      have f10 := f9.trans hf10 (by simp)
      have hT10 := hT9.nil hf10
      refine hK.out _ _ ?_ (fun hHeld => ?_)
      · exact KEEP.out _ f10
      clear hK K
      try simp only [Act.put, List.getElem_toArray, List.getElem_cons_succ, List.getElem_cons_zero, List.setIfInBounds_toArray, List.set_cons_zero, List.set_cons_succ]
      refine wpAnyH_take (i := 9) (v := ?_) rfl (by kernel_rfl) (by kernel_rfl) (by kernel_rfl) (fun _ _ _ h => h) (Or.inl ⟨by rfl, ?_⟩) (by assumption) ?_
      rotate_left
      · intro w9 hS9
        try dsimp only at hS9
        go_split_ands
        go_simp
        try with_reducible rfl
      try simp only [Act.put, List.getElem_toArray, List.getElem_cons_succ, List.getElem_cons_zero, List.setIfInBounds_toArray, List.set_cons_zero, List.set_cons_succ]
      refine wpAnyH_take (i := 10) (v := ?_) rfl (by kernel_rfl) (by kernel_rfl) (by kernel_rfl) (fun _ _ _ h => h) (Or.inl ⟨by rfl, ?_⟩) (by assumption) ?_
      rotate_left
      · intro w9 hS9
        try dsimp only at hS9
        go_split_ands
        go_simp
        try with_reducible rfl
      try simp only [Act.put, List.getElem_toArray, List.getElem_cons_succ, List.getElem_cons_zero, List.setIfInBounds_toArray, List.set_cons_zero, List.set_cons_succ]
      refine wpAnyH_take (i := 11) (v := ?_) rfl (by kernel_rfl) (by kernel_rfl) (by kernel_rfl) (fun _ _ _ h => h) (Or.inl ⟨by rfl, ?_⟩) (by assumption) ?_
      rotate_left
      · intro w9 hS9
        try dsimp only at hS9
        go_split_ands
        go_simp
        try with_reducible rfl
      try simp only [Act.put, List.getElem_toArray, List.getElem_cons_succ, List.getElem_cons_zero, List.setIfInBounds_toArray, List.set_cons_zero, List.set_cons_succ]
      refine wpAnyH_take (i := 12) (v := ?_) rfl (by kernel_rfl) (by kernel_rfl) (by kernel_rfl) (fun _ _ _ h => h) (Or.inl ⟨by rfl, ?_⟩) (by assumption) ?_
      rotate_left
      · intro w9 hS9
        try dsimp only at hS9
        go_split_ands
        go_simp
        try with_reducible rfl
      try simp only [Act.put, List.getElem_toArray, List.getElem_cons_succ, List.getElem_cons_zero, List.setIfInBounds_toArray, List.set_cons_zero, List.set_cons_succ]
      refine wpAnyH_ready (rs := [13]) (by kernel_rfl) (by simp) ?_
      refine AllReadyH.cons rfl (fun K hK => ?_) AllReadyH.nil
      go_simp
      refine (behaves_any _ _ _ x (-1) w10 (HLX.out _ f10)).mono ?_
      rintro e11 w11 ⟨rfl, hf11⟩
      have f11 := f10.trans hf11 (by simp)
      have hT11 := hT10.nil hf11
      refine hK.out _ _ ?_ (fun hHeld => ?_)
      · exact KEEP.out _ f11
      clear hK K
      try simp only [Act.put, List.getElem_toArray, List.getElem_cons_succ, List.getElem_cons_zero, List.setIfInBounds_toArray, List.set_cons_zero, List.set_cons_succ]
      refine wpAnyH_take (i := 14) (v := ?_) rfl (by kernel_rfl) (by kernel_rfl) (by kernel_rfl) (fun _ _ _ h => h) (Or.inl ⟨by rfl, ?_⟩) (by assumption) ?_
      rotate_left
      · intro w9 hS9
        try dsimp only at hS9
        go_split_ands
        go_simp
        try with_reducible rfl
      try simp only [Act.put, List.getElem_toArray, List.getElem_cons_succ, List.getElem_cons_zero, List.setIfInBounds_toArray, List.set_cons_zero, List.set_cons_succ]
      refine wpAnyH_take (i := 15) (v := ?_) rfl (by kernel_rfl) (by kernel_rfl) (by kernel_rfl) (fun _ _ _ h => h) (Or.inl ⟨by rfl, ?_⟩) (by assumption) ?_
      rotate_left
      · intro w9 hS9
        try dsimp only at hS9
        go_split_ands
        go_simp
        try with_reducible rfl
      try simp only [Act.put, List.getElem_toArray, List.getElem_cons_succ, List.getElem_cons_zero, List.setIfInBounds_toArray, List.set_cons_zero, List.set_cons_succ]
      refine wpAnyH_take (i := 16) (v := ?_) rfl (by kernel_rfl) (by kernel_rfl) (by kernel_rfl) (fun _ _ _ h => h) (Or.inl ⟨by rfl, ?_⟩) (by assumption) ?_
      rotate_left
      · intro w9 hS9
        try dsimp only at hS9
        go_split_ands
        go_simp
        try with_reducible rfl
      try simp only [Act.put, List.getElem_toArray, List.getElem_cons_succ, List.getElem_cons_zero, List.setIfInBounds_toArray, List.set_cons_zero, List.set_cons_succ]
      refine wpAnyH_take (i := 17) (v := ?_) rfl (by kernel_rfl) (by kernel_rfl) (by kernel_rfl) (fun _ _ _ h => h) (Or.inl ⟨by rfl, ?_⟩) (by assumption) ?_
      rotate_left
      · intro w9 hS9
        try dsimp only at hS9
        go_split_ands
        go_simp
        try with_reducible rfl
      try simp only [Act.put, List.getElem_toArray, List.getElem_cons_succ, List.getElem_cons_zero, List.setIfInBounds_toArray, List.set_cons_zero, List.set_cons_succ]
      refine wpAnyH_ready (rs := [18]) (by kernel_rfl) (by simp) ?_
      refine AllReadyH.cons rfl (fun K hK => ?_) AllReadyH.nil
      go_simp
      refine (behaves_any _ _ _ x 25 w11 (HLX.out _ f11)).mono ?_
      rintro e12 w12 ⟨rfl, hf12⟩
      have f12 := f11.trans hf12 (by simp)
      have hT12 := hT11.nil hf12
      refine hK.out _ _ ?_ (fun hHeld => ?_)
      · exact KEEP.out _ f12
      clear hK K
      try simp only [Act.put, List.getElem_toArray, List.getElem_cons_succ, List.getElem_cons_zero, List.setIfInBounds_toArray, List.set_cons_zero, List.set_cons_succ]
      refine wpAnyH_take (i := 19) (v := ?_) rfl (by kernel_rfl) (by kernel_rfl) (by kernel_rfl) (fun _ _ _ h => h) (Or.inl ⟨by rfl, ?_⟩) (by assumption) ?_
      rotate_left
      · intro w9 hS9
        try dsimp only at hS9
        go_split_ands
        go_simp
        try with_reducible rfl
      try simp only [Act.put, List.getElem_toArray, List.getElem_cons_succ, List.getElem_cons_zero, List.setIfInBounds_toArray, List.set_cons_zero, List.set_cons_succ]
      refine wpAnyH_take (i := 20) (v := ?_) rfl (by kernel_rfl) (by kernel_rfl) (by kernel_rfl) (fun _ _ _ h => h) (Or.inl ⟨by rfl, ?_⟩) (by assumption) ?_
      rotate_left
      · intro w9 hS9
        try dsimp only at hS9
        go_split_ands
        go_simp
        try with_reducible rfl
      try simp only [Act.put, List.getElem_toArray, List.getElem_cons_succ, List.getElem_cons_zero, List.setIfInBounds_toArray, List.set_cons_zero, List.set_cons_succ]
      refine wpAnyH_take (i := 21) (v := ?_) rfl (by kernel_rfl) (by kernel_rfl) (by kernel_rfl) (fun _ _ _ h => h) (Or.inl ⟨by rfl, ?_⟩) (by assumption) ?_
      rotate_left
      · intro w9 hS9
        try dsimp only at hS9
        go_split_ands
        go_simp
        try with_reducible rfl
      try simp only [Act.put, List.getElem_toArray, List.getElem_cons_succ, List.getElem_cons_zero, List.setIfInBounds_toArray, List.set_cons_zero, List.set_cons_succ]
      refine wpAnyH_take (i := 22) (v := ?_) rfl (by kernel_rfl) (by kernel_rfl) (by kernel_rfl) (fun _ _ _ h => h) (Or.inl ⟨by rfl, ?_⟩) (by assumption) ?_
      rotate_left
      · intro w9 hS9
        try dsimp only at hS9
        go_split_ands
        go_simp
        try with_reducible rfl
      try simp only [Act.put, List.getElem_toArray, List.getElem_cons_succ, List.getElem_cons_zero, List.setIfInBounds_toArray, List.set_cons_zero, List.set_cons_succ]
      refine wpAnyH_take (i := 23) (v := ?_) rfl (by kernel_rfl) (by kernel_rfl) (by kernel_rfl) (fun _ _ _ h => h) (Or.inl ⟨by rfl, ?_⟩) (by assumption) ?_
      rotate_left
      · intro w9 hS9
        try dsimp only at hS9
        go_split_ands
        go_simp
        try with_reducible rfl
      try simp only [Act.put, List.getElem_toArray, List.getElem_cons_succ, List.getElem_cons_zero, List.setIfInBounds_toArray, List.set_cons_zero, List.set_cons_succ]
      refine wpAnyH_ready (rs := [24]) (by kernel_rfl) (by simp) ?_
      refine AllReadyH.cons rfl (fun K hK => ?_) AllReadyH.nil
      go_simp
      refine (spoil_any w.heap.size (w.heap.size + 1) (5000 * j + 2000 + 1 + 2000) g x w12 hT12 (by omega) (by omega) (HM.out.frm f12 (by simp; omega)) (by omega) hpos (by omega) HROWS.out).mono ?_
      rintro e13 w13 ⟨⟨a13, c13, l13, rfl, hl13⟩, hT13, hf13⟩
      have f13 := f12.trans hf13 (by simp)
      refine hK.out _ _ ?_ (fun hHeld => ?_)
      · exact KEEP.out _ f13
      clear hK K
      try simp only [Act.put, List.getElem_toArray, List.getElem_cons_succ, List.getElem_cons_zero, List.setIfInBounds_toArray, List.set_cons_zero, List.set_cons_succ]
      refine wpAnyH_ready (rs := [25]) (by kernel_rfl) (by simp) ?_
      refine AllReadyH.cons rfl (fun K hK => ?_) AllReadyH.nil
      go_simp
      refine (behaves_any _ a13 c13 l13 2 w13 hl13).mono ?_
      rintro e14 w14 ⟨rfl, hf14⟩
      have f14 := f13.trans hf14 (by simp)
      have hT14 := hT13.nil hf14
      refine hK.out _ _ ?_ (fun hHeld => ?_)
      · exact KEEP.out _ f14
      clear hK K
      try simp only [Act.put, List.getElem_toArray, List.getElem_cons_succ, List.getElem_cons_zero, List.setIfInBounds_toArray, List.set_cons_zero, List.set_cons_succ]
      refine wpAnyH_take (i := 26) (v := ?_) rfl (by kernel_rfl) (by kernel_rfl) (by kernel_rfl) (fun _ _ _ h => h) (Or.inl ⟨by rfl, ?_⟩) (by assumption) ?_
      rotate_left
      · intro w9 hS9
        try dsimp only at hS9
        go_split_ands
        go_simp
        try with_reducible rfl
      try simp only [Act.put, List.getElem_toArray, List.getElem_cons_succ, List.getElem_cons_zero, List.setIfInBounds_toArray, List.set_cons_zero, List.set_cons_succ]
      refine wpAnyH_take (i := 27) (v := ?_) rfl (by kernel_rfl) (by kernel_rfl) (by kernel_rfl) (fun _ _ _ h => h) (Or.inl ⟨by rfl, ?_⟩) (by assumption) ?_
      rotate_left
      · intro w9 hS9
        try dsimp only at hS9
        go_split_ands
        go_simp
        try with_reducible rfl
      try simp only [Act.put, List.getElem_toArray, List.getElem_cons_succ, List.getElem_cons_zero, List.setIfInBounds_toArray, List.set_cons_zero, List.set_cons_succ]
      refine wpAnyH_done (by kernel_rfl) ?_ _
      go_wp2_with fail
      go_roundg (3 - (j + 1))
      case rel => exact ⟨j + 1, rfl, hj5, by go_num, hT14.mono (by omega), HF6.out.trans f14 (by simp)⟩
      case measure => omega
    · have i5 : ¬ (j : Int) < 3 := by omega
      have cb := (HB.out.frm HFW.out (by simp)).cell (i := 0) rfl
      have HLR := Lib.hid (HL0.out.frm HFW.out (by simp))
      have CB := Lib.hid cb
      have HFIN : Hid (Frm [] w wr) := Lib.hid (f0.trans HFW.out (by simp))
      have HSA : Hid (∀ W, Calls Tryz.prog 16 #[] W fun e w' => e = .returned (.bool true) ∧ Frm [] W w') := Lib.hid sane_any
      clear hj5
      by_cases h6 : 6 < l.length
      · have i6 : (6 : Int) < (l.length : Int) := by omega
        go_wp2_with (first
          | (go_at_call 16; refine (HSA.out _).mono ?_; rintro e5 w5 ⟨rfl, hf5⟩)
          | fail)
        go_ret
        exact ⟨rfl, HFIN.out.trans hf5 (by simp)⟩
      · have i6 : ¬ (6 : Int) < (l.length : Int) := by omega
        have hhu := huge_any w.heap.size a cap l wr HLR.out
        have HHU := Lib.hid hhu
        clear hhu
        go_wp2_with fail
        refine HHU.out.mono ?_
        rintro e3 w3 ⟨⟨b, rfl, -⟩, hf3⟩
        have HF3 := Lib.hid (HFIN.out.trans hf3 (by simp))
        have cb3 := hf3.cell CB.out (by simp)
        have HL3 := Lib.hid (HLR.out.nil hf3 rfl)
        clear hf3 cb
        cases b with
        | true =>
          go_wp2_with (first
            | (go_at_call 16; refine (HSA.out _).mono ?_; rintro e5 w5 ⟨rfl, hf5⟩)
            | fail)
          go_ret
          exact ⟨rfl, HF3.out.trans hf5 (by simp)⟩
        | false =>
          by_cases hn3 : 3 < n
          · go_wp2_with (first
              | (go_at_call 16; refine (HSA.out _).mono ?_; rintro e5 w5 ⟨rfl, hf5⟩)
              | fail)
            go_ret
            exact ⟨rfl, HF3.out.trans hf5 (by simp)⟩
          · go_wp2_with (first
              | (go_at_call 11; refine (behaves_any w.heap.size a cap l n w3 HL3.out).mono ?_; rintro e4 w4 ⟨rfl, hf4⟩)
              | (go_at_call 16; refine (HSA.out _).mono ?_; rintro e5 w5 ⟨rfl, hf5⟩)
              | fail)
            go_ret
            exact ⟨rfl, (HF3.out.trans hf4 (by simp)).trans hf5 (by simp)⟩
end Go.Proofs.YtikpcipkkhmcfaaGreat.Beh
