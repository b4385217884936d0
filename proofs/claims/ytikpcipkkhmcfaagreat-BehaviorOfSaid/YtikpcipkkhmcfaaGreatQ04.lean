/- Contract of the generator Chain. -/
import Derived.Test.YtikpcipkkhmcfaaGreatQ03
namespace Go.Proofs.YtikpcipkkhmcfaaGreat
open Go.RowKit

set_option linter.unusedSimpArgs false in
set_option maxRecDepth 100000 in
set_option maxHeartbeats 2000000 in
theorem chain_any (B tb N n : Nat) (w : World) (h : TapeOk B w tb N) (hB : B ≤ tb) (hN : N ≤ 900000) (hn : 1 ≤ n) (hn2 : n ≤ 100) :
    Calls Tryz.prog 10 #[.pointer (some ⟨tb, 0, none⟩), .int .i64 n] w fun e w' => ∃ (l : Lts) (g : Nat), e = .returned (.agg #[.slice (some ⟨g, 0, none⟩) l.length l.length]) ∧ w.heap.size ≤ g ∧ MAt g w' l ∧ Sys n 4 l ∧ TapeOk B w' tb (N + 2000) ∧ Frm [tb] w w' := by
  have f0 : Frm [] w (w.alloc (.cells #[.slice none 0 0] 25)) := (Frm.refl [] w).alloc _
  have hlts := lts_any B tb N n _ (h.nil f0) hB (by omega) hn hn2
  have HLTS := Lib.hid hlts
  have hres : (w.alloc (.cells #[.slice none 0 0] 25)).cell? ⟨w.heap.size, 0, none⟩ = some (.slice none 0 0) := (RowAt.made w _ [.slice none 0 0] #[.slice none 0 0] rfl).cell (i := 0) rfl
  have HRES := Lib.hid hres
  have hrz : (w.alloc (.cells #[.slice none 0 0] 25)).frozen? ⟨w.heap.size, 0, none⟩ = false := (RowAt.made w 25 [.slice none 0 0] #[.slice none 0 0] rfl).frozen 0
  have HRZ := Lib.hid hrz
  have htb := h.lt
  clear hlts hres hrz
  go_enter Tryz.func10, Tryz.ntmps10
  go_wp2_with fail
  refine HLTS.out.mono ?_
  rintro e1 w1 ⟨l0, g, rfl, hg, hM1, hS1, hT1, hf1⟩
  have hpos := hS1.pos
  have hfew := hS1.few
  have hrow1 := hS1.row
  have hgl := hM1.lt
  have hg0 := hf1.size
  simp only [World.alloc, Array.size_push] at hg0 hg
  have g1 : tb < g := by omega
  have f3 : Frm [] w1 (w1.alloc (.cells #[.slice (some ⟨g, 0, none⟩) l0.length l0.length] 25)) := (Frm.refl [] w1).alloc _
  have hbox : (w1.alloc (.cells #[.slice (some ⟨g, 0, none⟩) l0.length l0.length] 25)).cell? ⟨w1.heap.size, 0, none⟩ = some (.slice (some ⟨g, 0, none⟩) l0.length l0.length) := (RowAt.made w1 _ [.slice (some ⟨g, 0, none⟩) l0.length l0.length] #[.slice (some ⟨g, 0, none⟩) l0.length l0.length] rfl).cell (i := 0) rfl
  have HBOX := Lib.hid hbox
  have HM3 := Lib.hid (hM1.frm f3 (by simp))
  have HT3 := Lib.hid (hT1.nil f3)
  have HF3 : Hid (Frm [tb] w (w1.alloc (.cells #[.slice (some ⟨g, 0, none⟩) l0.length l0.length] 25))) := Lib.hid (((f0.mono (by simp)).trans hf1 (by simp)).trans f3 (by simp))
  have HF1 := Lib.hid hf1
  have HROW1 := Lib.hid hrow1
  have i1 : (l0.length : Int) ≤ 100 := by omega
  clear HLTS hM1 hS1 hT1 hf1 hrow1 hbox f3 f0
  go_wp2_with fail
  go_loopg [6] l0.length (fun q i wr => ∃ (k M : Nat) (l : Lts), q = l0.length - k ∧ k + 1 ≤ l0.length ∧ i = .int .i64 k ∧ l.length = l0.length ∧ (∀ (j : Nat) (row : List Arc), l[j]? = some row → RowOk l0.length 4 row ∧ (k ≤ j → RowOk l0.length 3 row)) ∧ MAt g wr l ∧ TapeOk B wr tb M ∧ M ≤ N + 1000 + k ∧ Frm [tb, g] (w1.alloc (.cells #[.slice (some ⟨g, 0, none⟩) l0.length l0.length] 25)) wr)
  case atStart => exact ⟨0, N + 1000, l0, rfl, by omega, rfl, rfl, fun j row hj => ⟨(HROW1.out j row hj).mono (by omega), fun _ => HROW1.out j row hj⟩, HM3.out, HT3.out, by omega, Frm.refl _ _⟩
  case round =>
    obtain ⟨k, M, l, rfl, hk, rfl, hl, hrow, hM, hT, hMb, hF⟩ := hrel
    have hb' := hF.cell HBOX.out (by simp; omega)
    have i3 : (k : Int) ≤ 101 := by omega
    have i4 : (0 : Int) ≤ (k : Int) := by omega
    have HROW := Lib.hid hrow
    have HM := Lib.hid hM
    have HT := Lib.hid hT
    have HF := Lib.hid hF
    have HL := Lib.hid hl
    clear hrow hM hT hF hl
    by_cases hlt : k + 1 < l0.length
    · have i5 : (k : Int) + 1 < (l0.length : Int) := by omega
      have i6 : (k : Int) < (l0.length : Int) := by omega
      obtain ⟨row, hrk⟩ : ∃ row, l[k]? = some row := ⟨_, List.getElem?_eq_getElem (by rw [HL.out]; omega)⟩
      obtain ⟨a, cp, hc, hown, h0⟩ := HM.out.cell hrk
      have hrok := (HROW.out k row hrk).2 (Nat.le_refl _)
      have HFZ := Lib.hid (HM.out.frozen k)
      have HC := Lib.hid hc
      have HB' := Lib.hid hb'
      have HOWN := Lib.hid hown
      have H0 := Lib.hid h0
      have HROK := Lib.hid hrok
      have HTD := Lib.hid (HT.out.nil ((Frm.refl [] wr).drew))
      have hrl : row.length ≤ 3 := hrok.2.2
      have hlb : w1.heap.size < wr.heap.size := World.block_lt_of_cell? _ _ hb'
      clear hc hown h0 hrok hrk
      go_wp2_with fail
      have hwrap : IntKind.i64.wrap ((k : Int) + 1) = (k : Int) + 1 := IntWalk.i64_in _ (by omega)
      refine' wp_region_last _ (fun w' => w'.cell? ⟨w1.heap.size, 0, none⟩ = some (.slice (some ⟨g, 0, none⟩) l0.length l0.length) ∧ w'.cell? ⟨g, k, none⟩ = some (.slice a row.length cp)) (by kernel_rfl) rfl rfl rfl rfl ?he (by kernel_rfl) (by kernel_rfl) ?hS ?h
      case he =>
        simp only [nopOf, List.setIfInBounds_toArray, List.set_cons_succ, List.set_cons_zero]
        rfl
      case hS => exact ⟨HB'.out, HC.out⟩
      intro hHeld
      refine wpAnyH_take (i := 0) (v := ?_) rfl (by kernel_rfl) (by kernel_rfl) (by kernel_rfl) (fun _ _ _ h => h) (Or.inl ⟨by rfl, ?_⟩) (by assumption) ?_
      rotate_left
      · intro w9 hS9
        try dsimp only at hS9
        go_split_ands
        go_simp
        try with_reducible rfl
      try simp only [Act.put, List.setIfInBounds_toArray, List.set_cons_zero, List.set_cons_succ]
      refine wpAnyH_take (i := 1) (v := ?_) rfl (by kernel_rfl) (by kernel_rfl) (by kernel_rfl) (fun _ _ _ h => h) (Or.inl ⟨by rfl, ?_⟩) (by assumption) ?_
      rotate_left
      · intro w9 hS9
        try dsimp only at hS9
        go_split_ands
        go_simp
        try with_reducible rfl
      try simp only [Act.put, List.setIfInBounds_toArray, List.set_cons_zero, List.set_cons_succ]
      refine wpAnyH_take (i := 2) (v := ?_) rfl (by kernel_rfl) (by kernel_rfl) (by kernel_rfl) (fun _ _ _ h => h) (Or.inl ⟨by rfl, ?_⟩) (by assumption) ?_
      rotate_left
      · intro w9 hS9
        try dsimp only at hS9
        go_split_ands
        go_simp
        try with_reducible rfl
      try simp only [Act.put, List.setIfInBounds_toArray, List.set_cons_zero, List.set_cons_succ]
      refine wpAnyH_take (i := 3) (v := ?_) rfl (by kernel_rfl) (by kernel_rfl) (by kernel_rfl) (fun _ _ _ h => h) (Or.inl ⟨by rfl, ?_⟩) (by assumption) ?_
      rotate_left
      · intro w9 hS9
        try dsimp only at hS9
        go_split_ands
        go_simp
        try with_reducible rfl
      try simp only [Act.put, List.setIfInBounds_toArray, List.set_cons_zero, List.set_cons_succ]
      refine wpAnyH_take (i := 4) (v := ?_) rfl (by kernel_rfl) (by kernel_rfl) (by kernel_rfl) (fun _ _ _ h => h) (Or.inl ⟨by rfl, ?_⟩) (by assumption) ?_
      rotate_left
      · intro w9 hS9
        try dsimp only at hS9
        go_split_ands
        go_simp
        try with_reducible rfl
      try simp only [Act.put, List.setIfInBounds_toArray, List.set_cons_zero, List.set_cons_succ]
      refine wpAnyH_take (i := 5) (v := ?_) rfl (by kernel_rfl) (by kernel_rfl) (by kernel_rfl) (fun _ _ _ h => h) (Or.inl ⟨by rfl, ?_⟩) (by assumption) ?_
      rotate_left
      · intro w9 hS9
        try dsimp only at hS9
        go_split_ands
        go_simp
        try with_reducible rfl
      try simp only [Act.put, List.setIfInBounds_toArray, List.set_cons_zero, List.set_cons_succ]
      refine wpAnyH_take (i := 6) (v := ?_) rfl (by kernel_rfl) (by kernel_rfl) (by kernel_rfl) (fun _ _ _ h => h) (Or.inl ⟨by rfl, ?_⟩) (by assumption) ?_
      rotate_left
      · intro w9 hS9
        try dsimp only at hS9
        go_split_ands
        go_simp
        try with_reducible rfl
      try simp only [Act.put, List.setIfInBounds_toArray, List.set_cons_zero, List.set_cons_succ]
      refine wpAnyH_take (i := 7) (v := ?_) rfl (by kernel_rfl) (by kernel_rfl) (by kernel_rfl) (fun _ _ _ h => h) (Or.inl ⟨by rfl, ?_⟩) (by assumption) ?_
      rotate_left
      · intro w9 hS9
        try dsimp only at hS9
        go_split_ands
        go_simp
        try with_reducible rfl
      try simp only [Act.put, List.setIfInBounds_toArray, List.set_cons_zero, List.set_cons_succ]
      refine wpAnyH_take (i := 8) (v := ?_) rfl (by kernel_rfl) (by kernel_rfl) (by kernel_rfl) (fun _ _ _ h => h) (Or.inl ⟨by rfl, ?_⟩) (by assumption) ?_
      rotate_left
      · intro w9 hS9
        try dsimp only at hS9
        go_split_ands
        go_simp
        try with_reducible rfl
      try simp only [Act.put, List.setIfInBounds_toArray, List.set_cons_zero, List.set_cons_succ]
      refine wpAnyH_take (i := 10) (v := ?_) rfl (by kernel_rfl) (by kernel_rfl) (by kernel_rfl) (fun _ _ _ h => h) (Or.inl ⟨by rfl, ?_⟩) (by assumption) ?_
      rotate_left
      · intro w9 hS9
        try dsimp only at hS9
        go_split_ands
        go_simp
        try with_reducible rfl
      try simp only [Act.put, List.setIfInBounds_toArray, List.set_cons_zero, List.set_cons_succ]
      refine wpAnyH_take (i := 11) (v := ?_) rfl (by kernel_rfl) (by kernel_rfl) (by kernel_rfl) (fun _ _ _ h => h) (Or.inl ⟨by rfl, ?_⟩) (by assumption) ?_
      rotate_left
      · intro w9 hS9
        try dsimp only at hS9
        go_split_ands
        go_simp
        try with_reducible rfl
      try simp only [Act.put, List.setIfInBounds_toArray, List.set_cons_zero, List.set_cons_succ]
      refine wpAnyH_ready (rs := [9]) (by kernel_rfl) (by simp) ?_
      refine AllReadyH.cons rfl (fun K hK => ?_) AllReadyH.nil
      go_simp
      go_at_call 37; refine (event_any B tb M _ HTD.out hB (by omega)).mono ?_; rintro e5 w5 ⟨⟨v5, rfl, hv5a, hv5b⟩, hT5, hf50⟩; have hf5 := ((Frm.refl [tb] wr).drew).trans hf50 (by simp)
      refine hK.out _ _ ?_ (fun hHeld => ?_)
      · exact ⟨hf5.cell HB'.out (by simp; omega), hf5.cell HC.out (by simp; omega)⟩
      clear hK K
      try simp only [Act.put, List.setIfInBounds_toArray, List.set_cons_zero, List.set_cons_succ]
      refine wpAnyH_take (i := 12) (v := ?_) rfl (by kernel_rfl) (by kernel_rfl) (by kernel_rfl) (fun _ _ _ h => h) (Or.inl ⟨by rfl, ?_⟩) (by assumption) ?_
      rotate_left
      · intro w9 hS9
        try dsimp only at hS9
        go_split_ands
        go_simp
        try with_reducible rfl
      try simp only [Act.put, List.setIfInBounds_toArray, List.set_cons_zero, List.set_cons_succ]
      refine wpAnyH_ready (rs := [13]) (by kernel_rfl) (by simp) ?_
      refine AllReadyH.cons rfl (fun K hK => ?_) AllReadyH.nil
      go_simp
      go_at_call 36; refine (insert_any (g + 1) a cp row v5 ((k : Int) + 1) _ (by have := hf5.size; have := HM.out.lt; simp at *; omega) (ownsB_frm HOWN.out hf5 (by intro k9 hk9; have := own_lt HOWN.out hk9; simp; omega)) H0.out (by omega)).mono ?_; rintro e7 w7 ⟨a7, cp7, rfl, hown7, hf7⟩; have hf57 := hf5.trans hf7 (by simp)
      refine hK.out _ _ ?_ (fun hHeld => ?_)
      · exact ⟨hf57.cell HB'.out (by simp; omega), hf57.cell HC.out (by simp; omega)⟩
      clear hK K
      try simp only [Act.put, List.setIfInBounds_toArray, List.set_cons_zero, List.set_cons_succ]
      refine wpAnyH_take (i := 14) (v := ?_) rfl (by kernel_rfl) (by kernel_rfl) (by kernel_rfl) (fun _ _ _ h => h) (Or.inl ⟨by rfl, ?_⟩) (by assumption) ?_
      rotate_left
      · intro w9 hS9
        try dsimp only at hS9
        go_split_ands
        go_simp
        try with_reducible rfl
      try simp only [Act.put, List.setIfInBounds_toArray, List.set_cons_zero, List.set_cons_succ]
      refine wpAnyH_take (i := 15) (v := ?_) rfl (by kernel_rfl) (by kernel_rfl) (by kernel_rfl) (fun _ _ _ h => h) (Or.inl ⟨by rfl, ?_⟩) (by assumption) ?_
      rotate_left
      · intro w9 hS9
        try dsimp only at hS9
        go_split_ands
        go_simp
        try with_reducible rfl
      try simp only [Act.put, List.setIfInBounds_toArray, List.set_cons_zero, List.set_cons_succ]
      refine wpAnyH_done (by kernel_rfl) ?_ _
      have c7 := hf57.cell HC.out (by simp; omega)
      have z7 := hf57.frz HC.out HFZ.out (by simp; omega)
      refine Qt.last rfl rfl ?_
      simp only [List.getElem_toArray, List.getElem_cons_succ, List.getElem_cons_zero]
      go_simp
      go_wp2_with fail
      go_roundg (l0.length - (k + 1))
      case rel =>
        refine ⟨k + 1, M + 1, l.set k (insA row (v5, (k : Int) + 1)), rfl, by omega, by go_num, by rw [List.length_set]; exact HL.out, fun j rw9 hj => ?_, (HM.out.frm hf57 (by simp; omega)).set hown7 (fun h9 => absurd h9 (insA_ne _ _)), (hT5.nil hf7).frm (fp := [g]) ((Frm.refl _ _).setCell (.inl (by simp)) _) (by simp; omega) (by simp; omega), by omega, ((HF.out.trans hf57 (by simp)).setCell (.inl (by simp)) _)⟩
        rw [List.getElem?_set] at hj
        split at hj
        · rename_i hkj
          subst hkj
          split at hj
          · cases hj
            exact ⟨HROK.out.ins (arcOk_of hv5a hv5b (by omega) (by omega)), fun h9 => by omega⟩
          · cases hj
        · rename_i hkj
          exact ⟨(HROW.out j rw9 hj).1, fun h9 => (HROW.out j rw9 hj).2 (by omega)⟩
      case measure => omega
    · have i5 : ¬ (k : Int) + 1 < (l0.length : Int) := by omega
      have hres : wr.cell? ⟨w.heap.size, 0, none⟩ = some (.slice none 0 0) := HF.out.cell (((Frm.refl [] w1).alloc _).cell (HF1.out.cell HRES.out (by simp; omega)) (by simp)) (by simp; omega)
      have hrz : wr.frozen? ⟨w.heap.size, 0, none⟩ = false := HF.out.frz (((Frm.refl [] w1).alloc _).cell (HF1.out.cell HRES.out (by simp; omega)) (by simp)) (((Frm.refl [] w1).alloc _).frz (HF1.out.cell HRES.out (by simp; omega)) (HF1.out.frz HRES.out HRZ.out (by simp; omega)) (by simp)) (by simp; omega)
      go_wp2_with fail
      have hcs := World.cell?_setCell_same' wr ⟨w.heap.size, 0, none⟩ (.slice (some ⟨g, 0, none⟩) l0.length l0.length) (by rw [hres]; rfl)
      refine bodyPost_ret (v := .agg #[.slice (some ⟨g, 0, none⟩) l0.length l0.length]) (by simp [results, Tryz.results10, go_sem]; rw [hcs]; rfl) rfl ?_
      have hFw : Frm [w.heap.size] wr (wr.setCell ⟨w.heap.size, 0, none⟩ (.slice (some ⟨g, 0, none⟩) l0.length l0.length)) := (Frm.refl _ _).setCell (.inl (by simp)) _
      exact ⟨l, g, by rw [HL.out], by omega, HM.out.frm hFw (by simp; omega), ⟨by rw [HL.out]; omega, by rw [HL.out]; omega, fun j rw9 hj => by rw [HL.out]; exact (HROW.out j rw9 hj).1⟩, (HT.out.frm hFw (by simp; omega) (by simp; omega)).mono (by omega), (HF3.out.trans HF.out (by simp; omega)).trans hFw (by simp)⟩

end Go.Proofs.YtikpcipkkhmcfaaGreat
