/- Texts GC, GD. -/
import Derived.Test.YtikpcipkkhmcfaaGreatQ00
import Derived.Test.YtikpcipkkhmcfaaGreatQ02
import Derived.Handy
/- Contract of the generator LTS. -/
namespace Go.Proofs.YtikpcipkkhmcfaaGreat
open Go.RowKit

theorem mat_of_owns {w : World} {g n B : Nat} (h : w.ownsRow B 63 1 (.slice (some ⟨g, 0, none⟩) n n) n (madeCells (Value.slice none 0 0).cells (n * 1)).toList) : MAt g w (List.replicate n []) := by
 have hm : (madeCells (Value.slice none 0 0).cells (n * 1)).toList = List.replicate n (Value.slice none 0 0) := by
  rw [Nat.mul_one]
  exact toList_madeCells_one _ _
 rw [hm] at h
 rcases h.2 with ⟨h0, _⟩ | ⟨g', cp', cur, h0, hb, hg, h1, h2, h3, h4⟩
 ·cases h0
 ·obtain ⟨rfl, rfl⟩ : g = g' ∧ n = cp' := by simpa using h0
  refine ⟨List.replicate n (.slice none 0 0), ⟨cur, hg, by simpa using h4⟩, by simp, fun i row hi => ?_⟩
  rw [List.getElem?_replicate] at hi
  split at hi
  ·cases hi
   exact ⟨none, 0, by rw [List.getElem?_replicate, if_pos (by assumption)]; rfl, ⟨rfl, .inl ⟨rfl, rfl⟩⟩, fun _ => ⟨rfl, rfl⟩⟩
  ·cases hi

theorem wpl_make_rows (w : World) {ops : Array Oper} {rest : List Oper} {o : Oper} {a : Act} {Q : Exit → Act → World → Prop}
  (hg : o.guard = none) (l : Operand) (hop : o.op = Op.makeSlice 23 l l) (L : Int) (n : Nat) (hl : a.eval l = .int .i64 L) (hL : L = (n : Int)) (hn : n ≤ 100000)
  (hK : ∀ w', MAt w.heap.size w' (List.replicate n []) → Frm [] w w' → wpList Tryz.prog ops Q rest (a.put o.dst (.slice (some ⟨w.heap.size, 0, none⟩) n n)) w') :
  wpList Tryz.prog ops Q (o :: rest) a w := by
 obtain ⟨i0, hi, hz0, hz1, hz2⟩ := info_parts infoRow
 refine wpList_make_full w hg l l 23 hop 0 63 i0 (.slice none 0 0) 1 Tryz.underlying23 hi hz0 hz1 .i64 .i64 L L n hl hl hL hL (by rw [hz2]; omega) (by unfold maxLen; omega) (Nat.zero_le _) ?_
 intro w' hown hgr
 exact hK w' (mat_of_owns hown) ((Frm.refl [] w).grown hgr (by simp))

set_option linter.unusedSimpArgs false in
set_option maxRecDepth 100000 in
set_option maxHeartbeats 2000000 in
theorem lts_any (B tb N n : Nat) (w : World) (h : TapeOk B w tb N) (hB : B ≤ tb) (hN : N ≤ 1000000) (hn : 1 ≤ n) (hn2 : n ≤ 100) :
  Calls Tryz.prog 35 #[.pointer (some ⟨tb, 0, none⟩), .int .i64 n] w fun e w' => ∃ (l : Lts) (g : Nat), e = .returned (.agg #[.slice (some ⟨g, 0, none⟩) l.length l.length]) ∧ w.heap.size ≤ g ∧ MAt g w' l ∧ Sys n 3 l ∧ TapeOk B w' tb (N + 1000) ∧ Frm [tb] w w' := by
 have f0 : Frm [] w (w.alloc (.cells #[.slice none 0 0] 25)) := (Frm.refl [] w).alloc _
 have hnext := next_any B tb N n _ (h.nil f0) hB (by omega) (by omega)
 have HNX := Lib.hid hnext
 have hres : (w.alloc (.cells #[.slice none 0 0] 25)).cell? ⟨w.heap.size, 0, none⟩ = some (.slice none 0 0) := (RowAt.made w _ [.slice none 0 0] #[.slice none 0 0] rfl).cell (i := 0) rfl
 have HRES := Lib.hid hres
 have hrz : (w.alloc (.cells #[.slice none 0 0] 25)).frozen? ⟨w.heap.size, 0, none⟩ = false := (RowAt.made w 25 [.slice none 0 0] #[.slice none 0 0] rfl).frozen 0
 have HRZ := Lib.hid hrz
 have htb := h.lt
 clear hnext hres hrz
 go_enter Tryz.func35, Tryz.ntmps35
 go_wp2_with fail
 refine HNX.out.mono ?_
 rintro e1 w1 ⟨⟨v, rfl, hv, -⟩, hT1, hf1⟩
 have hv1 := hv (by omega)
 obtain ⟨m, rfl⟩ : ∃ m : Nat, v = (m : Int) := ⟨v.toNat, by omega⟩
 have hm : m + 1 ≤ n := by omega
 clear hv hv1 HNX
 have i1 : (m : Int) ≤ 100 := by omega
 have i2 : (0 : Int) ≤ (m : Int) := by omega
 go_wp2_with (first | (at_make; refine wpl_make_rows _ rfl (.tmp 11) rfl _ (m + 1) rfl (by omega) (by omega) ?_) | (at_make; fail))
 intro w2 hM2 hf2
 go_wp2_with fail
 have hg1 := hf2.size
 have hg0 := hf1.size
 have hg2 := hM2.lt
 simp only [World.alloc, Array.size_push] at hg0
 have g1 : tb < w1.heap.size := by omega
 have f3 : Frm [] w2 (w2.alloc (.cells #[.slice (some ⟨w1.heap.size, 0, none⟩) (m + 1) (m + 1)] 25)) := (Frm.refl [] w2).alloc _
 have hbox : (w2.alloc (.cells #[.slice (some ⟨w1.heap.size, 0, none⟩) (m + 1) (m + 1)] 25)).cell? ⟨w2.heap.size, 0, none⟩ = some (.slice (some ⟨w1.heap.size, 0, none⟩) (m + 1) (m + 1)) := (RowAt.made w2 _ [.slice (some ⟨w1.heap.size, 0, none⟩) (m + 1) (m + 1)] #[.slice (some ⟨w1.heap.size, 0, none⟩) (m + 1) (m + 1)] rfl).cell (i := 0) rfl
 have HBOX := Lib.hid hbox
 have hM3 := hM2.frm f3 (by simp)
 have hT3 := (hT1.nil hf2).nil f3
 have hF3 : Frm [tb] w (w2.alloc (.cells #[.slice (some ⟨w1.heap.size, 0, none⟩) (m + 1) (m + 1)] 25)) := (((f0.mono (by simp)).trans hf1 (by simp)).trans hf2 (by simp)).trans f3 (by simp)
 have HF3 := Lib.hid hF3
 have HM3 := Lib.hid hM3
 have HT3 := Lib.hid hT3
 clear hbox hM3 hT3 hF3 hM2 hT1 f3 f0
 have HF1 := Lib.hid hf1
 have HF2 := Lib.hid hf2
 clear hf1 hf2
 go_loopg [6] (m + 1) (fun q i wr => ∃ (k M : Nat) (l : Lts), q = m + 1 - k ∧ k ≤ m + 1 ∧ i = .int .i64 k ∧ l.length = m + 1 ∧ (∀ (j : Nat) (row : List Arc), l[j]? = some row → RowOk (m + 1) 3 row ∧ (k ≤ j → row = [])) ∧ MAt w1.heap.size wr l ∧ TapeOk B wr tb M ∧ M ≤ N + 1 + 7 * k ∧ Frm [tb, w1.heap.size] (w2.alloc (.cells #[.slice (some ⟨w1.heap.size, 0, none⟩) (m + 1) (m + 1)] 25)) wr)
 case atStart =>
  refine ⟨0, N + 1, List.replicate (m + 1) [], rfl, Nat.zero_le _, rfl, by simp, fun j row hj => ?_, HM3.out, HT3.out, by omega, Frm.refl _ _⟩
  rw [List.getElem?_replicate] at hj
  split at hj
  ·cases hj
   exact ⟨RowOk.nil _ _, fun _ => rfl⟩
  ·cases hj
 case round =>
  obtain ⟨k, M, l, rfl, hk, rfl, hl, hrow, hM, hT, hMb, hF⟩ := hrel
  have hb := hF.cell HBOX.out (by simp; omega)
  have i3 : (k : Int) ≤ 101 := by omega
  have i4 : (0 : Int) ≤ (k : Int) := by omega
  have HROW := Lib.hid hrow
  have HM := Lib.hid hM
  have HT := Lib.hid hT
  have HF := Lib.hid hF
  have HL := Lib.hid hl
  clear hrow hM hT hF hl
  by_cases hlt : k < m + 1
  ·have i5 : (k : Int) < (m : Int) + 1 := by omega
   go_wp2_with fail
   refine (next_any B tb M 4 _ HT.out hB (by omega) (by omega)).mono ?_
   rintro e4 w4 ⟨⟨v, rfl, hv, -⟩, hT4, hf4⟩
   have hv1 := hv (by omega)
   obtain ⟨r, rfl⟩ : ∃ r : Nat, v = (r : Int) := ⟨v.toNat, by omega⟩
   have hr : r ≤ 3 := by omega
   clear hv hv1
   have HT4 := Lib.hid hT4
   have HF4 := Lib.hid (HF.out.trans hf4 (by simp))
   have HM4 := Lib.hid (HM.out.frm hf4 (by simp; omega))
   clear hT4 hf4
   go_wp2_with fail
   go_loopg [7] r (fun q i wr => ∃ (r' M' : Nat) (l' : Lts), r' = q ∧ r' ≤ 3 ∧ i = .int .i64 r' ∧ l'.length = m + 1 ∧ (∀ (j : Nat) (row : List Arc), l'[j]? = some row → (j ≠ k → RowOk (m + 1) 3 row) ∧ (j = k → RowOk (m + 1) (3 - r') row) ∧ (k < j → row = [])) ∧ MAt w1.heap.size wr l' ∧ TapeOk B wr tb M' ∧ M' + 2 * r' ≤ N + 1 + 7 * k + 7 ∧ Frm [tb, w1.heap.size] (w2.alloc (.cells #[.slice (some ⟨w1.heap.size, 0, none⟩) (m + 1) (m + 1)] 25)) wr)
   case atStart =>
    refine ⟨r, M + 1, l, rfl, hr, rfl, HL.out, fun j row hj => ⟨fun _ => (HROW.out j row hj).1, fun hjk => ?_, fun hkj => (HROW.out j row hj).2 (by omega)⟩, HM4.out, HT4.out, by omega, HF4.out⟩
    rw [(HROW.out j row hj).2 (by omega)]
    exact RowOk.nil _ _
   case round =>
    obtain ⟨r', M', l', rfl, hr', rfl, hl', hrow', hM', hT', hMb', hF'⟩ := hrel
    have hb' := hF'.cell HBOX.out (by simp; omega)
    have HROW' := Lib.hid hrow'
    have HM' := Lib.hid hM'
    have HT' := Lib.hid hT'
    have HF' := Lib.hid hF'
    have HL' := Lib.hid hl'
    have i6 : (r' : Int) ≤ 3 := by omega
    clear hrow' hM' hT' hF' hl'
    by_cases hz : r' = 0
    ·subst hz
     go_wp2_with fail
     go_roundg (m + 1 - (k + 1))
     case rel =>
      refine ⟨k + 1, M', l', rfl, by omega, by go_num, HL'.out, fun j row hj => ⟨?_, fun hkj => (HROW'.out j row hj).2.2 (by omega)⟩, HM'.out, HT'.out, by omega, HF'.out⟩
      by_cases hjk : j = k
      ·exact (HROW'.out j row hj).2.1 hjk
      ·exact (HROW'.out j row hj).1 hjk
     case measure => omega
    ·have i7 : (0 : Int) < (r' : Int) := by omega
     have i5' : (k : Int) < (m : Int) + 1 := i5
     obtain ⟨row, hrk⟩ : ∃ row, l'[k]? = some row := ⟨_, List.getElem?_eq_getElem (by rw [HL'.out]; exact hlt)⟩
     obtain ⟨a, cp, hc, hown, h0⟩ := HM'.out.cell hrk
     have hfz := HM'.out.frozen k
     have hrok := (HROW'.out k row hrk).2.1 rfl
     have HC := Lib.hid hc
     have HB' := Lib.hid hb'
     have HOWN := Lib.hid hown
     have HFZ := Lib.hid hfz
     have H0 := Lib.hid h0
     have HROK := Lib.hid hrok
     have HRK := Lib.hid hrk
     have HTD := Lib.hid (HT'.out.nil ((Frm.refl [] wr).drew))
     have hrl : row.length ≤ 3 := by have := hrok.2.2; omega
     have hlb : w2.heap.size < wr.heap.size := World.block_lt_of_cell? _ _ hb'
     clear hc hb' hown hfz h0 hrok hrk
     go_wp2_with fail
     refine' wp_region_last _ (fun w' => w'.cell? ⟨w2.heap.size, 0, none⟩ = some (.slice (some ⟨w1.heap.size, 0, none⟩) (m + 1) (m + 1)) ∧ w'.cell? ⟨w1.heap.size, k, none⟩ = some (.slice a row.length cp)) (by kernel_rfl) rfl rfl rfl rfl ?he (by kernel_rfl) (by kernel_rfl) ?hS ?h
     case he =>
      simp only [nopOf, List.setIfInBounds_toArray, List.set_cons_succ, List.set_cons_zero]
      rfl
     case hS => exact ⟨HB'.out, HC.out⟩
     intro hHeld
     refine qtk 0 (v := ?_) rfl (by kernel_rfl) (fun _ _ _ h => h) (by rfl) (by assumption) ?_ ?_
     rotate_left
     ·(intro w9 hS9; (try dsimp only at hS9); go_split_ands; go_simp; try with_reducible rfl)
     try simp only [Act.put, List.setIfInBounds_toArray, List.set_cons_zero, List.set_cons_succ]
     refine qtk 1 (v := ?_) rfl (by kernel_rfl) (fun _ _ _ h => h) (by rfl) (by assumption) ?_ ?_
     rotate_left
     ·(intro w9 hS9; (try dsimp only at hS9); go_split_ands; go_simp; try with_reducible rfl)
     try simp only [Act.put, List.setIfInBounds_toArray, List.set_cons_zero, List.set_cons_succ]
     refine qtk 2 (v := ?_) rfl (by kernel_rfl) (fun _ _ _ h => h) (by rfl) (by assumption) ?_ ?_
     rotate_left
     ·(intro w9 hS9; (try dsimp only at hS9); go_split_ands; go_simp; try with_reducible rfl)
     try simp only [Act.put, List.setIfInBounds_toArray, List.set_cons_zero, List.set_cons_succ]
     refine qtk 3 (v := ?_) rfl (by kernel_rfl) (fun _ _ _ h => h) (by rfl) (by assumption) ?_ ?_
     rotate_left
     ·(intro w9 hS9; (try dsimp only at hS9); go_split_ands; go_simp; try with_reducible rfl)
     try simp only [Act.put, List.setIfInBounds_toArray, List.set_cons_zero, List.set_cons_succ]
     refine qtk 4 (v := ?_) rfl (by kernel_rfl) (fun _ _ _ h => h) (by rfl) (by assumption) ?_ ?_
     rotate_left
     ·(intro w9 hS9; (try dsimp only at hS9); go_split_ands; go_simp; try with_reducible rfl)
     try simp only [Act.put, List.setIfInBounds_toArray, List.set_cons_zero, List.set_cons_succ]
     refine qtk 5 (v := ?_) rfl (by kernel_rfl) (fun _ _ _ h => h) (by rfl) (by assumption) ?_ ?_
     rotate_left
     ·(intro w9 hS9; (try dsimp only at hS9); go_split_ands; go_simp; try with_reducible rfl)
     try simp only [Act.put, List.setIfInBounds_toArray, List.set_cons_zero, List.set_cons_succ]
     refine qtk 6 (v := ?_) rfl (by kernel_rfl) (fun _ _ _ h => h) (by rfl) (by assumption) ?_ ?_
     rotate_left
     ·(intro w9 hS9; (try dsimp only at hS9); go_split_ands; go_simp; try with_reducible rfl)
     try simp only [Act.put, List.setIfInBounds_toArray, List.set_cons_zero, List.set_cons_succ]
     refine qtk 7 (v := ?_) rfl (by kernel_rfl) (fun _ _ _ h => h) (by rfl) (by assumption) ?_ ?_
     rotate_left
     ·(intro w9 hS9; (try dsimp only at hS9); go_split_ands; go_simp; try with_reducible rfl)
     try simp only [Act.put, List.setIfInBounds_toArray, List.set_cons_zero, List.set_cons_succ]
     refine qtk 8 (v := ?_) rfl (by kernel_rfl) (fun _ _ _ h => h) (by rfl) (by assumption) ?_ ?_
     rotate_left
     ·(intro w9 hS9; (try dsimp only at hS9); go_split_ands; go_simp; try with_reducible rfl)
     try simp only [Act.put, List.setIfInBounds_toArray, List.set_cons_zero, List.set_cons_succ]
     refine qtk 10 (v := ?_) rfl (by kernel_rfl) (fun _ _ _ h => h) (by rfl) (by assumption) ?_ ?_
     rotate_left
     ·(intro w9 hS9; (try dsimp only at hS9); go_split_ands; go_simp; try with_reducible rfl)
     try simp only [Act.put, List.setIfInBounds_toArray, List.set_cons_zero, List.set_cons_succ]
     refine qtk 11 (v := ?_) rfl (by kernel_rfl) (fun _ _ _ h => h) (by rfl) (by assumption) ?_ ?_
     rotate_left
     ·(intro w9 hS9; (try dsimp only at hS9); go_split_ands; go_simp; try with_reducible rfl)
     try simp only [Act.put, List.setIfInBounds_toArray, List.set_cons_zero, List.set_cons_succ]
     refine qtk 12 (v := ?_) rfl (by kernel_rfl) (fun _ _ _ h => h) (by rfl) (by assumption) ?_ ?_
     rotate_left
     ·(intro w9 hS9; (try dsimp only at hS9); go_split_ands; go_simp; try with_reducible rfl)
     try simp only [Act.put, List.setIfInBounds_toArray, List.set_cons_zero, List.set_cons_succ]
     refine qtk 13 (v := ?_) rfl (by kernel_rfl) (fun _ _ _ h => h) (by rfl) (by assumption) ?_ ?_
     rotate_left
     ·(intro w9 hS9; (try dsimp only at hS9); go_split_ands; go_simp; try with_reducible rfl)
     try simp only [Act.put, List.setIfInBounds_toArray, List.set_cons_zero, List.set_cons_succ]
     refine wpAnyH_ready (rs := [9]) (by kernel_rfl) (by simp) ?_
     refine AllReadyH.cons rfl (fun K hK => ?_) AllReadyH.nil
     go_simp
     go_at_call 37; refine (event_any B tb M' _ HTD.out hB (by omega)).mono ?_; rintro e5 w5 ⟨⟨v5, rfl, hv5a, hv5b⟩, hT5, hf50⟩; have hf5 := ((Frm.refl [tb] wr).drew).trans hf50 (by simp)
     refine hK.out _ _ ?_ (fun hHeld => ?_)
     ·exact ⟨hf5.cell HB'.out (by simp; omega), hf5.cell HC.out (by simp; omega)⟩
     clear hK K
     try simp only [Act.put, List.setIfInBounds_toArray, List.set_cons_zero, List.set_cons_succ]
     refine wpAnyH_ready (rs := [14]) (by kernel_rfl) (by simp) ?_
     refine AllReadyH.cons rfl (fun K hK => ?_) AllReadyH.nil
     go_simp
     go_at_call 12; refine (next_any B tb (M' + 1) ((m : Int) + 1) _ hT5 hB (by omega) (by omega)).mono ?_; rintro e6 w6 ⟨⟨v6, rfl, hv6, -⟩, hT6, hf6⟩; have hf56 := hf5.trans hf6 (by simp)
     refine hK.out _ _ ?_ (fun hHeld => ?_)
     ·exact ⟨hf56.cell HB'.out (by simp; omega), hf56.cell HC.out (by simp; omega)⟩
     clear hK K
     try simp only [Act.put, List.setIfInBounds_toArray, List.set_cons_zero, List.set_cons_succ]
     refine qtk 15 (v := ?_) rfl (by kernel_rfl) (fun _ _ _ h => h) (by rfl) (by assumption) ?_ ?_
     rotate_left
     ·(intro w9 hS9; (try dsimp only at hS9); go_split_ands; go_simp; try with_reducible rfl)
     try simp only [Act.put, List.setIfInBounds_toArray, List.set_cons_zero, List.set_cons_succ]
     refine wpAnyH_ready (rs := [16]) (by kernel_rfl) (by simp) ?_
     refine AllReadyH.cons rfl (fun K hK => ?_) AllReadyH.nil
     go_simp
     go_at_call 36; refine (insert_any (w1.heap.size + 1) a cp row v5 v6 _ (by have := hf56.size; have := HM'.out.lt; simp at *; omega) (ownsB_frm HOWN.out hf56 (by intro k9 hk9; have := own_lt HOWN.out hk9; simp; omega)) H0.out (by omega)).mono ?_; rintro e7 w7 ⟨a7, cp7, rfl, hown7, hf7⟩; have hf57 := hf56.trans hf7 (by simp)
     refine hK.out _ _ ?_ (fun hHeld => ?_)
     ·exact ⟨hf57.cell HB'.out (by simp; omega), hf57.cell HC.out (by simp; omega)⟩
     clear hK K
     try simp only [Act.put, List.setIfInBounds_toArray, List.set_cons_zero, List.set_cons_succ]
     refine qtk 17 (v := ?_) rfl (by kernel_rfl) (fun _ _ _ h => h) (by rfl) (by assumption) ?_ ?_
     rotate_left
     ·(intro w9 hS9; (try dsimp only at hS9); go_split_ands; go_simp; try with_reducible rfl)
     try simp only [Act.put, List.setIfInBounds_toArray, List.set_cons_zero, List.set_cons_succ]
     refine qtk 18 (v := ?_) rfl (by kernel_rfl) (fun _ _ _ h => h) (by rfl) (by assumption) ?_ ?_
     rotate_left
     ·(intro w9 hS9; (try dsimp only at hS9); go_split_ands; go_simp; try with_reducible rfl)
     try simp only [Act.put, List.setIfInBounds_toArray, List.set_cons_zero, List.set_cons_succ]
     refine wpAnyH_done (by kernel_rfl) ?_ _
     have c7 := hf57.cell HC.out (by simp; omega)
     have z7 := hf57.frz HC.out HFZ.out (by simp; omega)
     have hv6' := hv6 (by omega)
     refine Qt.last rfl rfl ?_
     simp only [List.getElem_toArray, List.getElem_cons_succ, List.getElem_cons_zero]
     go_simp
     go_wp2_with fail
     go_roundg (r' - 1)
     case rel =>
       refine ⟨r' - 1, M' + 2, l'.set k (insA row (v5, v6)), rfl, by omega, by go_num, by rw [List.length_set]; exact HL'.out, fun j rw9 hj => ?_, (HM'.out.frm hf57 (by simp; omega)).set hown7 (fun h9 => absurd h9 (insA_ne _ _)), (hT6.nil hf7).frm (fp := [w1.heap.size]) ((Frm.refl _ _).setCell (.inl (by simp)) _) (by simp; omega) (by simp; omega), by omega, ((HF'.out.trans hf57 (by simp)).setCell (.inl (by simp)) _)⟩
       rw [List.getElem?_set] at hj
       split at hj
       ·rename_i hkj
        subst hkj
        split at hj
        ·cases hj
         refine ⟨fun h9 => absurd rfl h9, fun _ => ?_, fun h9 => by omega⟩
         exact (HROK.out.ins (arcOk_of hv5a hv5b hv6'.1 (by have := hv6'.2; omega))).mono (by omega)
        ·cases hj
       ·rename_i hkj
        exact ⟨(HROW'.out j rw9 hj).1, fun h9 => absurd h9.symm hkj, (HROW'.out j rw9 hj).2.2⟩
     case measure => omega
  ·have i5 : ¬ (k : Int) < (m : Int) + 1 := by omega
   have hres : wr.cell? ⟨w.heap.size, 0, none⟩ = some (.slice none 0 0) := HF.out.cell (((Frm.refl [] w2).alloc _).cell (HF2.out.cell (HF1.out.cell HRES.out (by simp; omega)) (by simp)) (by simp)) (by simp; omega)
   have hrz : wr.frozen? ⟨w.heap.size, 0, none⟩ = false := HF.out.frz (((Frm.refl [] w2).alloc _).cell (HF2.out.cell (HF1.out.cell HRES.out (by simp; omega)) (by simp)) (by simp)) (((Frm.refl [] w2).alloc _).frz (HF2.out.cell (HF1.out.cell HRES.out (by simp; omega)) (by simp)) (HF2.out.frz (HF1.out.cell HRES.out (by simp; omega)) (HF1.out.frz HRES.out HRZ.out (by simp; omega)) (by simp)) (by simp)) (by simp; omega)
   go_wp2_with fail
   have hlk : l.length = k := by rw [HL.out]; omega
   have hcs := World.cell?_setCell_same' wr ⟨w.heap.size, 0, none⟩ (.slice (some ⟨w1.heap.size, 0, none⟩) (m + 1) (m + 1)) (by rw [hres]; rfl)
   refine bodyPost_ret (v := .agg #[.slice (some ⟨w1.heap.size, 0, none⟩) (m + 1) (m + 1)]) (by simp [results, Tryz.results35, go_sem]; rw [hcs]; rfl) rfl ?_
   have hrw : (.agg #[.slice (some ⟨w1.heap.size, 0, none⟩) (m + 1) (m + 1)] : Value) = .agg #[.slice (some ⟨w1.heap.size, 0, none⟩) l.length l.length] := by rw [HL.out]
   have hFw : Frm [w.heap.size] wr (wr.setCell ⟨w.heap.size, 0, none⟩ (.slice (some ⟨w1.heap.size, 0, none⟩) (m + 1) (m + 1))) := (Frm.refl _ _).setCell (.inl (by simp)) _
   refine ⟨l, w1.heap.size, by rw [← hrw], by omega, HM.out.frm hFw (by simp; omega), ⟨by omega, by omega, fun j rw9 hj => by rw [HL.out]; exact (HROW.out j rw9 hj).1⟩, (HT.out.frm hFw (by simp; omega) (by simp; omega)).mono (by omega), (HF3.out.trans HF.out (by simp; omega)).trans hFw (by simp)⟩

end Go.Proofs.YtikpcipkkhmcfaaGreat

/- Contract of the generator Chain. -/
namespace Go.Proofs.YtikpcipkkhmcfaaGreat
open Go.RowKit

set_option linter.unusedSimpArgs false in
set_option maxRecDepth 100000 in
set_option maxHeartbeats 2000000 in
theorem chain_any (B tb N n : Nat) (w : World) (h : TapeOk B w tb N) (hB : B ≤ tb) (hN : N ≤ 900000) (hn : 1 ≤ n) (hn2 : n ≤ 100) :
  Calls Tryz.prog 10 #[.pointer (some ⟨tb, 0, none⟩), .int .i64 n] w fun e w' => ∃ (l : Lts) (g : Nat), e = .returned (.agg #[.slice (some ⟨g, 0, none⟩) l.length l.length]) ∧ w.heap.size ≤ g ∧ MAt g w' l ∧ Sys n 4 l ∧ TapeOk B w' tb (N + 2000) ∧ Frm [tb] w w' := by
 have f0 : Frm [] w (w.alloc (.cells #[.slice none 0 0] 25)) := (Frm.refl [] w).alloc _
 have hlts := lts_any B tb N n _ (h.nil f0) hB (by omega) hn hn2
 have HLTS := Lib.hid hlts
 have hres : (w.alloc (.cells #[.slice none 0 0] 25)).cell? ⟨w.heap.size, 0, none⟩ = some (.slice none 0 0) := (RowAt.made w _ [.slice none 0 0] #[.slice none 0 0] rfl).cell (i := 0) rfl
 have HRES := Lib.hid hres
 have hrz : (w.alloc (.cells #[.slice none 0 0] 25)).frozen? ⟨w.heap.size, 0, none⟩ = false := (RowAt.made w 25 [.slice none 0 0] #[.slice none 0 0] rfl).frozen 0
 have HRZ := Lib.hid hrz
 have htb := h.lt
 clear hlts hres hrz
 go_enter Tryz.func10, Tryz.ntmps10
 go_wp2_with fail
 refine HLTS.out.mono ?_
 rintro e1 w1 ⟨l0, g, rfl, hg, hM1, hS1, hT1, hf1⟩
 have hpos := hS1.pos
 have hfew := hS1.few
 have hrow1 := hS1.row
 have hgl := hM1.lt
 have hg0 := hf1.size
 simp only [World.alloc, Array.size_push] at hg0 hg
 have g1 : tb < g := by omega
 have f3 : Frm [] w1 (w1.alloc (.cells #[.slice (some ⟨g, 0, none⟩) l0.length l0.length] 25)) := (Frm.refl [] w1).alloc _
 have hbox : (w1.alloc (.cells #[.slice (some ⟨g, 0, none⟩) l0.length l0.length] 25)).cell? ⟨w1.heap.size, 0, none⟩ = some (.slice (some ⟨g, 0, none⟩) l0.length l0.length) := (RowAt.made w1 _ [.slice (some ⟨g, 0, none⟩) l0.length l0.length] #[.slice (some ⟨g, 0, none⟩) l0.length l0.length] rfl).cell (i := 0) rfl
 have HBOX := Lib.hid hbox
 have HM3 := Lib.hid (hM1.frm f3 (by simp))
 have HT3 := Lib.hid (hT1.nil f3)
 have HF3 : Hid (Frm [tb] w (w1.alloc (.cells #[.slice (some ⟨g, 0, none⟩) l0.length l0.length] 25))) := Lib.hid (((f0.mono (by simp)).trans hf1 (by simp)).trans f3 (by simp))
 have HF1 := Lib.hid hf1
 have HROW1 := Lib.hid hrow1
 have i1 : (l0.length : Int) ≤ 100 := by omega
 clear HLTS hM1 hS1 hT1 hf1 hrow1 hbox f3 f0
 go_wp2_with fail
 go_loopg [6] l0.length (fun q i wr => ∃ (k M : Nat) (l : Lts), q = l0.length - k ∧ k + 1 ≤ l0.length ∧ i = .int .i64 k ∧ l.length = l0.length ∧ (∀ (j : Nat) (row : List Arc), l[j]? = some row → RowOk l0.length 4 row ∧ (k ≤ j → RowOk l0.length 3 row)) ∧ MAt g wr l ∧ TapeOk B wr tb M ∧ M ≤ N + 1000 + k ∧ Frm [tb, g] (w1.alloc (.cells #[.slice (some ⟨g, 0, none⟩) l0.length l0.length] 25)) wr)
 case atStart => exact ⟨0, N + 1000, l0, rfl, by omega, rfl, rfl, fun j row hj => ⟨(HROW1.out j row hj).mono (by omega), fun _ => HROW1.out j row hj⟩, HM3.out, HT3.out, by omega, Frm.refl _ _⟩
 case round =>
  obtain ⟨k, M, l, rfl, hk, rfl, hl, hrow, hM, hT, hMb, hF⟩ := hrel
  have hb' := hF.cell HBOX.out (by simp; omega)
  have i3 : (k : Int) ≤ 101 := by omega
  have i4 : (0 : Int) ≤ (k : Int) := by omega
  have HROW := Lib.hid hrow
  have HM := Lib.hid hM
  have HT := Lib.hid hT
  have HF := Lib.hid hF
  have HL := Lib.hid hl
  clear hrow hM hT hF hl
  by_cases hlt : k + 1 < l0.length
  ·have i5 : (k : Int) + 1 < (l0.length : Int) := by omega
   have i6 : (k : Int) < (l0.length : Int) := by omega
   obtain ⟨row, hrk⟩ : ∃ row, l[k]? = some row := ⟨_, List.getElem?_eq_getElem (by rw [HL.out]; omega)⟩
   obtain ⟨a, cp, hc, hown, h0⟩ := HM.out.cell hrk
   have hrok := (HROW.out k row hrk).2 (Nat.le_refl _)
   have HFZ := Lib.hid (HM.out.frozen k)
   have HC := Lib.hid hc
   have HB' := Lib.hid hb'
   have HOWN := Lib.hid hown
   have H0 := Lib.hid h0
   have HROK := Lib.hid hrok
   have HTD := Lib.hid (HT.out.nil ((Frm.refl [] wr).drew))
   have hrl : row.length ≤ 3 := hrok.2.2
   have hlb : w1.heap.size < wr.heap.size := World.block_lt_of_cell? _ _ hb'
   clear hc hown h0 hrok hrk
   go_wp2_with fail
   have hwrap : IntKind.i64.wrap ((k : Int) + 1) = (k : Int) + 1 := IntWalk.i64_in _ (by omega)
   refine' wp_region_last _ (fun w' => w'.cell? ⟨w1.heap.size, 0, none⟩ = some (.slice (some ⟨g, 0, none⟩) l0.length l0.length) ∧ w'.cell? ⟨g, k, none⟩ = some (.slice a row.length cp)) (by kernel_rfl) rfl rfl rfl rfl ?he (by kernel_rfl) (by kernel_rfl) ?hS ?h
   case he =>
    simp only [nopOf, List.setIfInBounds_toArray, List.set_cons_succ, List.set_cons_zero]
    rfl
   case hS => exact ⟨HB'.out, HC.out⟩
   intro hHeld
   refine qtk 0 (v := ?_) rfl (by kernel_rfl) (fun _ _ _ h => h) (by rfl) (by assumption) ?_ ?_
   rotate_left
   ·(intro w9 hS9; (try dsimp only at hS9); go_split_ands; go_simp; try with_reducible rfl)
   try simp only [Act.put, List.setIfInBounds_toArray, List.set_cons_zero, List.set_cons_succ]
   refine qtk 1 (v := ?_) rfl (by kernel_rfl) (fun _ _ _ h => h) (by rfl) (by assumption) ?_ ?_
   rotate_left
   ·(intro w9 hS9; (try dsimp only at hS9); go_split_ands; go_simp; try with_reducible rfl)
   try simp only [Act.put, List.setIfInBounds_toArray, List.set_cons_zero, List.set_cons_succ]
   refine qtk 2 (v := ?_) rfl (by kernel_rfl) (fun _ _ _ h => h) (by rfl) (by assumption) ?_ ?_
   rotate_left
   ·(intro w9 hS9; (try dsimp only at hS9); go_split_ands; go_simp; try with_reducible rfl)
   try simp only [Act.put, List.setIfInBounds_toArray, List.set_cons_zero, List.set_cons_succ]
   refine qtk 3 (v := ?_) rfl (by kernel_rfl) (fun _ _ _ h => h) (by rfl) (by assumption) ?_ ?_
   rotate_left
   ·(intro w9 hS9; (try dsimp only at hS9); go_split_ands; go_simp; try with_reducible rfl)
   try simp only [Act.put, List.setIfInBounds_toArray, List.set_cons_zero, List.set_cons_succ]
   refine qtk 4 (v := ?_) rfl (by kernel_rfl) (fun _ _ _ h => h) (by rfl) (by assumption) ?_ ?_
   rotate_left
   ·(intro w9 hS9; (try dsimp only at hS9); go_split_ands; go_simp; try with_reducible rfl)
   try simp only [Act.put, List.setIfInBounds_toArray, List.set_cons_zero, List.set_cons_succ]
   refine qtk 5 (v := ?_) rfl (by kernel_rfl) (fun _ _ _ h => h) (by rfl) (by assumption) ?_ ?_
   rotate_left
   ·(intro w9 hS9; (try dsimp only at hS9); go_split_ands; go_simp; try with_reducible rfl)
   try simp only [Act.put, List.setIfInBounds_toArray, List.set_cons_zero, List.set_cons_succ]
   refine qtk 6 (v := ?_) rfl (by kernel_rfl) (fun _ _ _ h => h) (by rfl) (by assumption) ?_ ?_
   rotate_left
   ·(intro w9 hS9; (try dsimp only at hS9); go_split_ands; go_simp; try with_reducible rfl)
   try simp only [Act.put, List.setIfInBounds_toArray, List.set_cons_zero, List.set_cons_succ]
   refine qtk 7 (v := ?_) rfl (by kernel_rfl) (fun _ _ _ h => h) (by rfl) (by assumption) ?_ ?_
   rotate_left
   ·(intro w9 hS9; (try dsimp only at hS9); go_split_ands; go_simp; try with_reducible rfl)
   try simp only [Act.put, List.setIfInBounds_toArray, List.set_cons_zero, List.set_cons_succ]
   refine qtk 8 (v := ?_) rfl (by kernel_rfl) (fun _ _ _ h => h) (by rfl) (by assumption) ?_ ?_
   rotate_left
   ·(intro w9 hS9; (try dsimp only at hS9); go_split_ands; go_simp; try with_reducible rfl)
   try simp only [Act.put, List.setIfInBounds_toArray, List.set_cons_zero, List.set_cons_succ]
   refine qtk 10 (v := ?_) rfl (by kernel_rfl) (fun _ _ _ h => h) (by rfl) (by assumption) ?_ ?_
   rotate_left
   ·(intro w9 hS9; (try dsimp only at hS9); go_split_ands; go_simp; try with_reducible rfl)
   try simp only [Act.put, List.setIfInBounds_toArray, List.set_cons_zero, List.set_cons_succ]
   refine qtk 11 (v := ?_) rfl (by kernel_rfl) (fun _ _ _ h => h) (by rfl) (by assumption) ?_ ?_
   rotate_left
   ·(intro w9 hS9; (try dsimp only at hS9); go_split_ands; go_simp; try with_reducible rfl)
   try simp only [Act.put, List.setIfInBounds_toArray, List.set_cons_zero, List.set_cons_succ]
   refine wpAnyH_ready (rs := [9]) (by kernel_rfl) (by simp) ?_
   refine AllReadyH.cons rfl (fun K hK => ?_) AllReadyH.nil
   go_simp
   go_at_call 37; refine (event_any B tb M _ HTD.out hB (by omega)).mono ?_; rintro e5 w5 ⟨⟨v5, rfl, hv5a, hv5b⟩, hT5, hf50⟩; have hf5 := ((Frm.refl [tb] wr).drew).trans hf50 (by simp)
   refine hK.out _ _ ?_ (fun hHeld => ?_)
   ·exact ⟨hf5.cell HB'.out (by simp; omega), hf5.cell HC.out (by simp; omega)⟩
   clear hK K
   try simp only [Act.put, List.setIfInBounds_toArray, List.set_cons_zero, List.set_cons_succ]
   refine qtk 12 (v := ?_) rfl (by kernel_rfl) (fun _ _ _ h => h) (by rfl) (by assumption) ?_ ?_
   rotate_left
   ·(intro w9 hS9; (try dsimp only at hS9); go_split_ands; go_simp; try with_reducible rfl)
   try simp only [Act.put, List.setIfInBounds_toArray, List.set_cons_zero, List.set_cons_succ]
   refine wpAnyH_ready (rs := [13]) (by kernel_rfl) (by simp) ?_
   refine AllReadyH.cons rfl (fun K hK => ?_) AllReadyH.nil
   go_simp
   go_at_call 36; refine (insert_any (g + 1) a cp row v5 ((k : Int) + 1) _ (by have := hf5.size; have := HM.out.lt; simp at *; omega) (ownsB_frm HOWN.out hf5 (by intro k9 hk9; have := own_lt HOWN.out hk9; simp; omega)) H0.out (by omega)).mono ?_; rintro e7 w7 ⟨a7, cp7, rfl, hown7, hf7⟩; have hf57 := hf5.trans hf7 (by simp)
   refine hK.out _ _ ?_ (fun hHeld => ?_)
   ·exact ⟨hf57.cell HB'.out (by simp; omega), hf57.cell HC.out (by simp; omega)⟩
   clear hK K
   try simp only [Act.put, List.setIfInBounds_toArray, List.set_cons_zero, List.set_cons_succ]
   refine qtk 14 (v := ?_) rfl (by kernel_rfl) (fun _ _ _ h => h) (by rfl) (by assumption) ?_ ?_
   rotate_left
   ·(intro w9 hS9; (try dsimp only at hS9); go_split_ands; go_simp; try with_reducible rfl)
   try simp only [Act.put, List.setIfInBounds_toArray, List.set_cons_zero, List.set_cons_succ]
   refine qtk 15 (v := ?_) rfl (by kernel_rfl) (fun _ _ _ h => h) (by rfl) (by assumption) ?_ ?_
   rotate_left
   ·(intro w9 hS9; (try dsimp only at hS9); go_split_ands; go_simp; try with_reducible rfl)
   try simp only [Act.put, List.setIfInBounds_toArray, List.set_cons_zero, List.set_cons_succ]
   refine wpAnyH_done (by kernel_rfl) ?_ _
   have c7 := hf57.cell HC.out (by simp; omega)
   have z7 := hf57.frz HC.out HFZ.out (by simp; omega)
   refine Qt.last rfl rfl ?_
   simp only [List.getElem_toArray, List.getElem_cons_succ, List.getElem_cons_zero]
   go_simp
   go_wp2_with fail
   go_roundg (l0.length - (k + 1))
   case rel =>
    refine ⟨k + 1, M + 1, l.set k (insA row (v5, (k : Int) + 1)), rfl, by omega, by go_num, by rw [List.length_set]; exact HL.out, fun j rw9 hj => ?_, (HM.out.frm hf57 (by simp; omega)).set hown7 (fun h9 => absurd h9 (insA_ne _ _)), (hT5.nil hf7).frm (fp := [g]) ((Frm.refl _ _).setCell (.inl (by simp)) _) (by simp; omega) (by simp; omega), by omega, ((HF.out.trans hf57 (by simp)).setCell (.inl (by simp)) _)⟩
    rw [List.getElem?_set] at hj
    split at hj
    ·rename_i hkj
     subst hkj
     split at hj
     ·cases hj
      exact ⟨HROK.out.ins (arcOk_of hv5a hv5b (by omega) (by omega)), fun h9 => by omega⟩
     ·cases hj
    ·rename_i hkj
     exact ⟨(HROW.out j rw9 hj).1, fun h9 => (HROW.out j rw9 hj).2 (by omega)⟩
   case measure => omega
  ·have i5 : ¬ (k : Int) + 1 < (l0.length : Int) := by omega
   have hres : wr.cell? ⟨w.heap.size, 0, none⟩ = some (.slice none 0 0) := HF.out.cell (((Frm.refl [] w1).alloc _).cell (HF1.out.cell HRES.out (by simp; omega)) (by simp)) (by simp; omega)
   have hrz : wr.frozen? ⟨w.heap.size, 0, none⟩ = false := HF.out.frz (((Frm.refl [] w1).alloc _).cell (HF1.out.cell HRES.out (by simp; omega)) (by simp)) (((Frm.refl [] w1).alloc _).frz (HF1.out.cell HRES.out (by simp; omega)) (HF1.out.frz HRES.out HRZ.out (by simp; omega)) (by simp)) (by simp; omega)
   go_wp2_with fail
   have hcs := World.cell?_setCell_same' wr ⟨w.heap.size, 0, none⟩ (.slice (some ⟨g, 0, none⟩) l0.length l0.length) (by rw [hres]; rfl)
   refine bodyPost_ret (v := .agg #[.slice (some ⟨g, 0, none⟩) l0.length l0.length]) (by simp [results, Tryz.results10, go_sem]; rw [hcs]; rfl) rfl ?_
   have hFw : Frm [w.heap.size] wr (wr.setCell ⟨w.heap.size, 0, none⟩ (.slice (some ⟨g, 0, none⟩) l0.length l0.length)) := (Frm.refl _ _).setCell (.inl (by simp)) _
   exact ⟨l, g, by rw [HL.out], by omega, HM.out.frm hFw (by simp; omega), ⟨by rw [HL.out]; omega, by rw [HL.out]; omega, fun j rw9 hj => by rw [HL.out]; exact (HROW.out j rw9 hj).1⟩, (HT.out.frm hFw (by simp; omega) (by simp; omega)).mono (by omega), (HF3.out.trans HF.out (by simp; omega)).trans hFw (by simp)⟩

end Go.Proofs.YtikpcipkkhmcfaaGreat
