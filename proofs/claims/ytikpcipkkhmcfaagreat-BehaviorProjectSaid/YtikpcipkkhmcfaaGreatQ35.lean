/- Texts WK, WL, WM, WN. -/
import Derived.Test.YtikpcipkkhmcfaaGreatQ00
import Derived.Test.YtikpcipkkhmcfaaGreatQ09
import Derived.Test.YtikpcipkkhmcfaaGreatQ33
import Derived.Test.YtikpcipkkhmcfaaGreatQ34
import Derived.Test.YtikpcipkkhmcfaaGreatQ03
/- behavior.copyEntry: an independent copy of an entry. -/
namespace Go.Proofs.YtikpcipkkhmcfaaGreat.Beh
open Go.RowKit Go.Lib Go.Deep Go.Proofs.YtikpcipkkhmcfaaGreat Go.Proofs.YtikpcipkkhmcfaaGreat.Ind

theorem infoEnC : (Tryz.prog.info? 69).map (fun i => (i.zero, i.size, i.bytes)) = some (some (.agg #[.slice none 0 0, .slice none 0 0, .bool false]), 3, 56) := by kernel_rfl
def CopyEnd (F : List Nat) (x : En) (w : World) (e : Ending) (w' : World) : Prop :=
 ∃ ta tc la lc, e = .returned (.agg #[.slice ta x.1.length tc, .slice la x.2.1.length lc, .bool x.2.2]) ∧ RowV w' F (.slice ta x.1.length tc) x.1.length 1 (ints x.1) ∧ SetsAt w' F (.slice la x.2.1.length lc) x.2.1 ∧ Frm [] w w'
set_option linter.unusedSimpArgs false in
set_option maxRecDepth 100000 in
set_option maxHeartbeats 8000000 in
theorem copyEntry_any {F : List Nat} (w : World) (x : En) (ta la : Option Addr) (tc lc : Nat) (h1 : RowV w F (.slice ta x.1.length tc) x.1.length 1 (ints x.1)) (h2 : SetsAt w F (.slice la x.2.1.length lc) x.2.1) (hF : ∀ k ∈ F, k < w.heap.size) (hx1 : x.1.length ≤ 17592186044416) (hx2 : x.2.1.length ≤ 5864062014805) (hx3 : ∀ y ∈ x.2.1, y.length ≤ 17592186044416) :
  Calls Tryz.prog 65 #[.agg #[.slice ta x.1.length tc, .slice la x.2.1.length lc, .bool x.2.2]] w (CopyEnd F x w) := by
 obtain ⟨t, l, d⟩ := x
 dsimp only at h1 h2 hx1 hx2 hx3 ⊢
 have f2 := sets_few h2
 have HT := Lib.hid h1
 have HLS := Lib.hid h2
 have HF0 := Lib.hid hF
 have HX1 := Lib.hid hx1
 have HX2 := Lib.hid hx2
 have HX3 := Lib.hid hx3
 clear h1 h2 hF hx1 hx2 hx3
 go_enter Tryz.func65, Tryz.ntmps65
 go_wp2_with fail
 obtain ⟨W, hW⟩ : ∃ W, W = (w.alloc (.cells #[.slice ta t.length tc, .slice la l.length lc, .bool d] 69)).alloc (.cells #[.slice none 0 0, .slice none 0 0, .bool false] 69) := ⟨_, rfl⟩
 have S0 : Hid (Sep w W [boxC (w.heap.size + 1) 69 [.slice none 0 0, .slice none 0 0, .bool false], boxC w.heap.size 69 [.slice ta t.length tc, .slice la l.length lc, .bool d]]) := Lib.hid (by
  rw [hW]
  exact ((Sep.start w).box w.heap.size rfl 69 [.slice ta t.length tc, .slice la l.length lc, .bool d] #[.slice ta t.length tc, .slice la l.length lc, .bool d] rfl).box (w.heap.size + 1) (by simp) 69 [.slice none 0 0, .slice none 0 0, .bool false] #[.slice none 0 0, .slice none 0 0, .bool false] rfl)
 have HCL : Hid (∀ V, Frm [] w V → Calls Tryz.prog 61 #[.slice ta t.length tc] V fun e w' => (∃ a c, e = .returned (.slice a t.length c) ∧ w'.ownsRow V.heap.size 3 1 (.slice a t.length c) t.length (ints t)) ∧ Frm [] V w') := Lib.hid fun V hf => cloneI_any V _ t (HT.out.nil hf) HX1.out
 have HFW : Hid (Frm [] w W) := Lib.hid S0.out.frm
 have hHs : w.heap.size + 2 = W.heap.size := by rw [hW]; simp
 rw [← hW]
 clear hW
 generalize hH : w.heap.size = H at *
 have HH := Lib.hid hH
 clear hH
 have KEEP : Hid (∀ w', Frm [] W w' → w'.cell? ⟨H, 0, none⟩ = some (.slice ta t.length tc) ∧ w'.cell? ⟨H, 1, none⟩ = some (.slice la l.length lc) ∧ w'.cell? ⟨H, 2, none⟩ = some (.bool d)) := Lib.hid fun w' hf => by
  have h1 := (show RowAt W H 69 [.slice ta t.length tc, .slice la l.length lc, .bool d] from S0.out.at_ 1 rfl).frm hf (by simp)
  exact ⟨h1.cell (i := 0) rfl, h1.cell (i := 1) rfl, h1.cell (i := 2) rfl⟩
 refine wp_region_held_drew (S := fun w' => w'.cell? ⟨H, 0, none⟩ = some (.slice ta t.length tc) ∧ w'.cell? ⟨H, 1, none⟩ = some (.slice la l.length lc) ∧ w'.cell? ⟨H, 2, none⟩ = some (.bool d)) (by kernel_rfl) (KEEP.out _ (Frm.refl [] W).drew) ?_
 intro hHeld
 refine qtk 0 (v := ?_) rfl (by kernel_rfl) (fun _ _ _ h => h) (by rfl) (by assumption) ?_ ?_
 rotate_left
 ·(intro w9 hS9; (try dsimp only at hS9); go_split_ands; go_simp; try with_reducible rfl)
 try simp only [Act.put, qgA, qgS, qg0, qsA, qs0, qsS]
 refine qtk 1 (v := ?_) rfl (by kernel_rfl) (fun _ _ _ h => h) (by rfl) (by assumption) ?_ ?_
 rotate_left
 ·(intro w9 hS9; (try dsimp only at hS9); go_split_ands; go_simp; try with_reducible rfl)
 try simp only [Act.put, qgA, qgS, qg0, qsA, qs0, qsS]
 refine qtk 3 (v := ?_) rfl (by kernel_rfl) (fun _ _ _ h => h) (by rfl) (by assumption) ?_ ?_
 rotate_left
 ·(intro w9 hS9; (try dsimp only at hS9); go_split_ands; go_simp; try with_reducible rfl)
 try simp only [Act.put, qgA, qgS, qg0, qsA, qs0, qsS]
 refine qtk 4 (v := ?_) rfl (by kernel_rfl) (fun _ _ _ h => h) (by rfl) (by assumption) ?_ ?_
 rotate_left
 ·(intro w9 hS9; (try dsimp only at hS9); go_split_ands; go_simp; try with_reducible rfl)
 try simp only [Act.put, qgA, qgS, qg0, qsA, qs0, qsS]
 refine wpAnyH_ready (rs := [2, 6]) (by kernel_rfl) (by simp) ?_
 refine AllReadyH.cons rfl (fun K hK => ?_) (AllReadyH.cons rfl (fun K hK => ?_) AllReadyH.nil)
 ·go_simp
  refine (HCL.out _ (HFW.out.trans (Frm.refl [] W).drew (by simp))).mono ?_
  rintro e5 w5 ⟨⟨a5, c5, rfl, own5⟩, hf5⟩
  have hy5 := (Frm.refl [] W).drew.trans hf5 (by simp)
  refine hK.out _ _ ?_ (fun hHeld => ?_)
  ·exact KEEP.out _ hy5
  clear hK K
  try simp only [Act.put, qgA, qgS, qg0, qsA, qs0, qsS]
  refine qtk 5 (v := ?_) rfl (by kernel_rfl) (fun _ _ _ h => h) (by rfl) (by assumption) ?_ ?_
  rotate_left
  ·(intro w9 hS9; (try dsimp only at hS9); go_split_ands; go_simp; try with_reducible rfl)
  try simp only [Act.put, qgA, qgS, qg0, qsA, qs0, qsS]
  refine wpAnyH_ready (rs := [6]) (by kernel_rfl) (by simp) ?_
  refine AllReadyH.cons rfl (fun K hK => ?_) AllReadyH.nil
  go_simp
  refine hK.out _ _ ?_ (fun hHeld => ?_)
  ·exact KEEP.out _ (hy5.alloc _)
  clear hK K
  try simp only [Act.put, qgA, qgS, qg0, qsA, qs0, qsS]
  have S9 := ((S0.out.nil (Frm.refl [] W).drew).add (ownC 3 1 (.slice a5 t.length c5) t.length (ints t)) hf5 (ownC_of own5) (fun k hk => (own5.lt k (by simpa [ownC] using hk)).1)).box w5.heap.size rfl 69 [.slice a5 t.length c5, .slice none 0 0, .bool d] #[.slice a5 t.length c5, .slice none 0 0, .bool d] rfl
  refine wpAnyH_ready (rs := [7]) (by kernel_rfl) (by simp) ?_
  refine AllReadyH.cons rfl (fun K hK => ?_) AllReadyH.nil
  go_simp
  have r9 := (show RowAt _ H 69 [.slice ta t.length tc, .slice la l.length lc, .bool d] from S9.at_ 3 rfl)
  refine hK.out _ _ ?_ (fun hHeld => ?_)
  ·exact ⟨r9.cell (i := 0) rfl, r9.cell (i := 1) rfl, r9.cell (i := 2) rfl⟩
  clear hK K
  try simp only [Act.put, qgA, qgS, qg0, qsA, qs0, qsS]
  clear r9 own5 hf5 hy5
  refine wpAnyH_done (by kernel_rfl) ?_ _
  obtain ⟨W9, hW9⟩ : ∃ W9, W9 = w5.alloc (.cells #[.slice a5 t.length c5, .slice none 0 0, .bool d] 69) := ⟨_, rfl⟩
  rw [← hW9] at S9 ⊢
  clear hW9
  generalize w5.heap.size = b3 at *
  have SS : Hid (Sep w W9 [ownsC 22 3 1 ints (.slice none 0 0) [] (l.take 0), boxC b3 69 [.slice a5 t.length c5, .slice none 0 0, .bool d], ownC 3 1 (.slice a5 t.length c5) t.length (ints t), boxC (H + 1) 69 [.slice none 0 0, .slice none 0 0, .bool false], boxC H 69 [.slice ta t.length tc, .slice la l.length lc, .bool d]]) := Lib.hid (S9.add (ownsC 22 3 1 ints (.slice none 0 0) [] []) (Frm.refl [] _) (ownsC_nil _ _ _ _ _) (by simp [ownsC, Value.ownBlock]))
  have r9 := (show RowAt _ H 69 [.slice ta t.length tc, .slice la l.length lc, .bool d] from S9.at_ 3 rfl)
  have y1 := r9.cell (i := 1) rfl
  clear S9 KEEP HFW r9 S0 hHs
  go_wp2_with fail
  go_loopg [15] l.length (fun q t15 wr => ∃ (k : Nat) (v : Value) (us : List Value), q = l.length - k ∧ k ≤ l.length ∧ t15 = .int .i64 k ∧ Sep w wr [ownsC 22 3 1 ints v us (l.take k), boxC b3 69 [.slice a5 t.length c5, v, .bool d], ownC 3 1 (.slice a5 t.length c5) t.length (ints t), boxC (H + 1) 69 [.slice none 0 0, .slice none 0 0, .bool false], boxC H 69 [.slice ta t.length tc, .slice la l.length lc, .bool d]])
  case atStart => exact ⟨0, _, _, rfl, Nat.zero_le _, rfl, SS.out⟩
  case round =>
   clear SS y1
   obtain ⟨k, v, us, hq, hk, rfl, hs⟩ := hrel
   have HQ := Lib.hid hq
   have SL := Lib.hid hs
   have i4 : (0 : Int) ≤ (k : Int) := by omega
   have hlk : (l.take k).length = k := by rw [List.length_take]; omega
   have HLK := Lib.hid hlk
   obtain ⟨va, vc, rfl⟩ : ∃ va vc, v = .slice va k vc := by
    obtain ⟨va, vc, e, _⟩ := owns_shape (hs.at_ 0 rfl).1
    exact ⟨va, vc, by rw [e, hlk]⟩
   have c0 := (show RowAt _ _ 69 _ from hs.at_ 1 rfl)
   have KP : Hid (∀ w', Frm [] wr w' → w'.cell? ⟨b3, 1, none⟩ = some (.slice va k vc)) := Lib.hid fun w' hf => (c0.frm hf (by simp)).cell (i := 1) rfl
   clear hq hs hlk c0
   by_cases hlt : k < l.length
   ·have i5 : (k : Int) < (l.length : Int) := by omega
    obtain ⟨x, hx⟩ : ∃ x, l[k]? = some x := ⟨_, List.getElem?_eq_getElem hlt⟩
    obtain ⟨bb, o, d9, xa, xc, e1, x1, x2⟩ := HLS.out.at_ hx
    obtain ⟨rfl, rfl⟩ : la = some ⟨bb, o, none⟩ ∧ lc = d9 := by simpa using e1
    have q1 := SL.out.frm.cell x1 (by simp)
    have HXR := Lib.hid x2
    have HXE := Lib.hid hx
    have hxl := HX3.out x (List.mem_of_getElem? hx)
    have HC6 : Hid (∀ V, Frm [] wr V → Calls Tryz.prog 61 #[.slice xa x.length xc] V fun e w' => (∃ a c, e = .returned (.slice a x.length c) ∧ w'.ownsRow V.heap.size 3 1 (.slice a x.length c) x.length (ints x)) ∧ Frm [] V w') := Lib.hid fun V hf => cloneI_any V _ x (HXR.out.nil (SL.out.frm.trans hf (by simp))) hxl
    clear x1 x2 hx e1
    go_wp2_with fail
    refine' wp_region_last (L := 7) _ (fun w' => w'.cell? ⟨b3, 1, none⟩ = some (.slice va k vc)) (by kernel_rfl) rfl rfl rfl rfl ?he (by kernel_rfl) (by kernel_rfl) ?hS ?h
    case he =>
     simp only [nopOf, List.getElem_toArray, List.getElem_cons_succ, List.getElem_cons_zero, List.setIfInBounds_toArray, List.set_cons_succ, List.set_cons_zero]
     rfl
    case hS => exact KP.out _ (Frm.refl [] wr).drew
    intro hHeld
    refine qtk 0 (v := ?_) rfl (by kernel_rfl) (fun _ _ _ h => h) (by rfl) (by assumption) ?_ ?_
    rotate_left
    ·(intro w9 hS9; (try dsimp only at hS9); go_split_ands; go_simp; try with_reducible rfl)
    try simp only [Act.put, qgA, qgS, qg0, qsA, qs0, qsS]
    refine qtk 1 (v := ?_) rfl (by kernel_rfl) (fun _ _ _ h => h) (by rfl) (by assumption) ?_ ?_
    rotate_left
    ·(intro w9 hS9; (try dsimp only at hS9); go_split_ands; go_simp; try with_reducible rfl)
    try simp only [Act.put, qgA, qgS, qg0, qsA, qs0, qsS]
    refine qtk 2 (v := ?_) rfl (by kernel_rfl) (fun _ _ _ h => h) (by rfl) (by assumption) ?_ ?_
    rotate_left
    ·(intro w9 hS9; (try dsimp only at hS9); go_split_ands; go_simp; try with_reducible rfl)
    try simp only [Act.put, qgA, qgS, qg0, qsA, qs0, qsS]
    refine wpAnyH_ready (rs := [3]) (by kernel_rfl) (by simp) ?_
    refine AllReadyH.cons rfl (fun K hK => ?_) AllReadyH.nil
    go_simp
    refine (HC6.out _ (Frm.refl [] wr).drew).mono ?_
    rintro e6 w6 ⟨⟨a6, c6, rfl, own6⟩, hf6⟩
    have S6 := (SL.out.nil (Frm.refl [] wr).drew).add (ownC 3 1 (.slice a6 x.length c6) x.length (ints x)) hf6 (ownC_of own6) (fun k hk => (own6.lt k (by simpa [ownC] using hk)).1)
    have hy6 := (Frm.refl [] wr).drew.trans hf6 (by simp)
    refine hK.out _ _ ?_ (fun hHeld => ?_)
    ·exact KP.out _ hy6
    clear hK K
    try simp only [Act.put, qgA, qgS, qg0, qsA, qs0, qsS]
    refine wpAnyH_ready (rs := [4]) (by kernel_rfl) (by simp) ?_
    refine AllReadyH.cons rfl (fun K hK => ?_) AllReadyH.nil
    go_simp
    have S7 := S6.nil ((Frm.refl [] w6).alloc (.cells #[.slice a6 x.length c6] 22))
    refine hK.out _ _ ?_ (fun hHeld => ?_)
    ·exact KP.out _ (hy6.alloc _)
    clear hK K
    try simp only [Act.put, qgA, qgS, qg0, qsA, qs0, qsS]
    refine wpAnyH_ready (rs := [5]) (by kernel_rfl) (by simp) ?_
    refine AllReadyH.cons rfl (fun K hK => ?_) AllReadyH.nil
    refine step_app_rowK rfl (.tmp 20) (.tmp 23) 67 22 _ 1 24 rfl Tryz.underlying67 infoIs rfl (by decide) 0 k (.slice va k vc) us rfl (by have h9 := (S7.at_ 1 rfl).1; rw [HLK.out] at h9; exact h9) _ 1 [.slice a6 x.length c6] [] rfl (rowV_cells (size := 1) (RowAt.made w6 22 [.slice a6 x.length c6] #[.slice a6 x.length c6] rfl) rfl (Nat.le_refl _) (by decide) (by simp)) (by simp [Value.oneCell']) (k + 1) rfl (by have := HX2.out; omega) (by have := HX2.out; omega) (Nat.zero_le _) ?_
    intro a8 c8 w8 own8 hf8 hb8 _
    have S8 := S7.snoc rfl rfl (by decide) (by simp [Value.oneCell']) own8 (by rw [HLK.out]) rfl hf8 (fun k hk => by
     rcases hb8 k hk with h9 | h9
     ·exact .inl h9
     ·exact .inr (by omega))
    have c0 := (show RowAt _ _ 69 _ from S8.at_ 1 rfl)
    have x1 := c0.cell (i := 1) rfl
    have z1 := c0.frozen 1
    clear c0
    refine hK.out _ _ ?_ (fun hHeld => ?_)
    ·exact x1
    clear hK K
    try simp only [Act.put, qgA, qgS, qg0, qsA, qs0, qsS]
    refine qtk 6 (v := ?_) rfl (by kernel_rfl) (fun _ _ _ h => h) (by rfl) (by assumption) ?_ ?_
    rotate_left
    ·(intro w9 hS9; (try dsimp only at hS9); go_split_ands; go_simp; try with_reducible rfl)
    try simp only [Act.put, qgA, qgS, qg0, qsA, qs0, qsS]
    refine qtk 7 (v := ?_) rfl (by kernel_rfl) (fun _ _ _ h => h) (by rfl) (by assumption) ?_ ?_
    rotate_left
    ·(intro w9 hS9; (try dsimp only at hS9); go_split_ands; go_simp; try with_reducible rfl)
    try simp only [Act.put, qgA, qgS, qg0, qsA, qs0, qsS]
    refine wpAnyH_done (by kernel_rfl) ?_ _
    refine Qt.last rfl rfl ?_
    simp only [List.getElem_toArray, List.getElem_cons_succ, List.getElem_cons_zero]
    go_simp
    have S9 := S8.putBox 1 rfl 1 (.slice a8 (k + 1) c8)
    simp only [List.set_cons_zero, List.set_cons_succ] at S9
    clear hHeld S6 S7 S8 hf6 hf8 hb8 own6 own8 hy6 x1 z1 KP HC6 HXR q1
    generalize World.setCell _ _ _ = w9 at *
    have S10 : Hid (Sep w w9 [ownsC 22 3 1 ints (.slice a8 (k + 1) c8) (us ++ [.slice a6 x.length c6]) (l.take (k + 1)), boxC b3 69 [.slice a5 t.length c5, .slice a8 (k + 1) c8, .bool d], ownC 3 1 (.slice a5 t.length c5) t.length (ints t), boxC (H + 1) 69 [.slice none 0 0, .slice none 0 0, .bool false], boxC H 69 [.slice ta t.length tc, .slice (some ⟨bb, o, none⟩) l.length lc, .bool d]]) := Lib.hid (by
     rw [take_snoc HXE.out]
     exact S9)
    clear S9
    go_wp2_with fail
    go_roundg (l.length - (k + 1))
    case rel => exact ⟨k + 1, _, _, rfl, by omega, by go_num, S10.out⟩
    case measure => have := HQ.out; omega
   ·have i5 : ¬ (k : Int) < (l.length : Int) := by omega
    obtain rfl : k = l.length := by omega
    have c0 := (show RowAt _ _ 69 _ from SL.out.at_ 1 rfl)
    have x0 := c0.cell (i := 0) rfl
    have x1 := c0.cell (i := 1) rfl
    have x2 := c0.cell (i := 2) rfl
    have c1 := (show RowAt _ _ 69 _ from SL.out.at_ 3 rfl)
    have p0 := c1.cell (i := 0) rfl
    have p1 := c1.cell (i := 1) rfl
    have p2 := c1.cell (i := 2) rfl
    have z0 := c1.frozen 0
    have z1 := c1.frozen 1
    have z2 := c1.frozen 2
    clear c0 c1 KP
    go_wp2_with fail
    have SP := ((SL.out.putBox 3 rfl 0 (.slice a5 t.length c5)).putBox 3 rfl 1 (.slice va l.length vc)).putBox 3 rfl 2 (.bool d)
    simp only [List.set_cons_zero, List.set_cons_succ] at SP
    clear x0 x1 x2 p0 p1 p2 z0 z1 z2 SL
    generalize World.setCell (World.setCell (World.setCell _ _ _) _ _) _ _ = w9 at *
    have rr : RowAt w9 (H + 1) 69 [.slice a5 t.length c5, .slice va l.length vc, .bool d] := SP.at_ 3 rfl
    have e0 := rr.cell (i := 0) rfl
    have e1 := rr.cell (i := 1) rfl
    have e2 := rr.cell (i := 2) rfl
    rw [List.take_length] at SP
    refine bodyPost_ret (v := .agg #[.slice a5 t.length c5, .slice va l.length vc, .bool d]) (by simp [results, Tryz.results65, go_sem, e0, e1, e2]) rfl ?_
    refine ⟨a5, c5, va, vc, rfl, ?_, setsAt_of SP (fun q hq => by have h2 := HF0.out q hq; have h3 := HH.out; omega), SP.frm⟩
    refine rowV_of_owns (SP.at_ 2 rfl) (fun q hq e => ?_)
    have h1 := SP.le 2 rfl (k := q) (by simp [ownC, e])
    have h2 := HF0.out q hq
    have h3 := HH.out
    omega
 ·go_simp
  refine hK.out _ _ ?_ (fun hHeld => ?_)
  ·exact KEEP.out _ ((Frm.refl [] W).alloc _).drew
  clear hK K
  try simp only [Act.put, qgA, qgS, qg0, qsA, qs0, qsS]
  refine wpAnyH_ready (rs := [2]) (by kernel_rfl) (by simp) ?_
  refine AllReadyH.cons rfl (fun K hK => ?_) AllReadyH.nil
  go_simp
  refine (HCL.out _ (HFW.out.trans ((Frm.refl [] W).alloc (.cells #[.slice none 0 0, .slice none 0 0, .bool false] 69)).drew (by simp))).mono ?_
  rintro e5 w5 ⟨⟨a5, c5, rfl, own5⟩, hf5⟩
  have hy5 := ((Frm.refl [] W).alloc (.cells #[.slice none 0 0, .slice none 0 0, .bool false] 69)).drew.trans hf5 (by simp)
  refine hK.out _ _ ?_ (fun hHeld => ?_)
  ·exact KEEP.out _ hy5
  clear hK K
  try simp only [Act.put, qgA, qgS, qg0, qsA, qs0, qsS]
  refine qtk 5 (v := ?_) rfl (by kernel_rfl) (fun _ _ _ h => h) (by rfl) (by assumption) ?_ ?_
  rotate_left
  ·(intro w9 hS9; (try dsimp only at hS9); go_split_ands; go_simp; try with_reducible rfl)
  try simp only [Act.put, qgA, qgS, qg0, qsA, qs0, qsS]
  have S8 := (((S0.out.box W.heap.size rfl 69 [.slice none 0 0, .slice none 0 0, .bool false] #[.slice none 0 0, .slice none 0 0, .bool false] rfl).nil (Frm.refl [] _).drew).add (ownC 3 1 (.slice a5 t.length c5) t.length (ints t)) hf5 (ownC_of own5) (fun k hk => (own5.lt k (by simpa [ownC] using hk)).1)).pull 1 rfl
  have c0 := (show RowAt _ _ 69 _ from S8.at_ 0 rfl)
  have x0 := c0.cell (i := 0) rfl
  have x1 := c0.cell (i := 1) rfl
  have x2 := c0.cell (i := 2) rfl
  have z0 := c0.frozen 0
  have z1 := c0.frozen 1
  have z2 := c0.frozen 2
  clear c0
  refine wpAnyH_ready (rs := [7]) (by kernel_rfl) (by simp) ?_
  refine AllReadyH.cons rfl (fun K hK => ?_) AllReadyH.nil
  go_simp
  have S9 := ((S8.putBox 0 rfl 0 (.slice a5 t.length c5)).putBox 0 rfl 1 (.slice none 0 0)).putBox 0 rfl 2 (.bool d)
  simp only [List.set_cons_zero, List.set_cons_succ] at S9
  clear S8 x0 x1 x2 z0 z1 z2
  have r9 := (show RowAt _ H 69 [.slice ta t.length tc, .slice la l.length lc, .bool d] from S9.at_ 3 rfl)
  refine hK.out _ _ ?_ (fun hHeld => ?_)
  ·exact ⟨r9.cell (i := 0) rfl, r9.cell (i := 1) rfl, r9.cell (i := 2) rfl⟩
  clear hK K
  try simp only [Act.put, qgA, qgS, qg0, qsA, qs0, qsS]
  clear r9 own5 hf5 hy5
  refine wpAnyH_done (by kernel_rfl) ?_ _
  generalize World.setCell (World.setCell (World.setCell _ _ _) _ _) _ _ = W9 at *
  generalize W.heap.size = b3 at *
  have SS : Hid (Sep w W9 [ownsC 22 3 1 ints (.slice none 0 0) [] (l.take 0), boxC b3 69 [.slice a5 t.length c5, .slice none 0 0, .bool d], ownC 3 1 (.slice a5 t.length c5) t.length (ints t), boxC (H + 1) 69 [.slice none 0 0, .slice none 0 0, .bool false], boxC H 69 [.slice ta t.length tc, .slice la l.length lc, .bool d]]) := Lib.hid (S9.add (ownsC 22 3 1 ints (.slice none 0 0) [] []) (Frm.refl [] _) (ownsC_nil _ _ _ _ _) (by simp [ownsC, Value.ownBlock]))
  have r9 := (show RowAt _ H 69 [.slice ta t.length tc, .slice la l.length lc, .bool d] from S9.at_ 3 rfl)
  have y1 := r9.cell (i := 1) rfl
  clear S9 KEEP HFW r9 S0 hHs
  go_wp2_with fail
  go_loopg [15] l.length (fun q t15 wr => ∃ (k : Nat) (v : Value) (us : List Value), q = l.length - k ∧ k ≤ l.length ∧ t15 = .int .i64 k ∧ Sep w wr [ownsC 22 3 1 ints v us (l.take k), boxC b3 69 [.slice a5 t.length c5, v, .bool d], ownC 3 1 (.slice a5 t.length c5) t.length (ints t), boxC (H + 1) 69 [.slice none 0 0, .slice none 0 0, .bool false], boxC H 69 [.slice ta t.length tc, .slice la l.length lc, .bool d]])
  case atStart => exact ⟨0, _, _, rfl, Nat.zero_le _, rfl, SS.out⟩
  case round =>
   clear SS y1
   obtain ⟨k, v, us, hq, hk, rfl, hs⟩ := hrel
   have HQ := Lib.hid hq
   have SL := Lib.hid hs
   have i4 : (0 : Int) ≤ (k : Int) := by omega
   have hlk : (l.take k).length = k := by rw [List.length_take]; omega
   have HLK := Lib.hid hlk
   obtain ⟨va, vc, rfl⟩ : ∃ va vc, v = .slice va k vc := by
    obtain ⟨va, vc, e, _⟩ := owns_shape (hs.at_ 0 rfl).1
    exact ⟨va, vc, by rw [e, hlk]⟩
   have c0 := (show RowAt _ _ 69 _ from hs.at_ 1 rfl)
   have KP : Hid (∀ w', Frm [] wr w' → w'.cell? ⟨b3, 1, none⟩ = some (.slice va k vc)) := Lib.hid fun w' hf => (c0.frm hf (by simp)).cell (i := 1) rfl
   clear hq hs hlk c0
   by_cases hlt : k < l.length
   ·have i5 : (k : Int) < (l.length : Int) := by omega
    obtain ⟨x, hx⟩ : ∃ x, l[k]? = some x := ⟨_, List.getElem?_eq_getElem hlt⟩
    obtain ⟨bb, o, d9, xa, xc, e1, x1, x2⟩ := HLS.out.at_ hx
    obtain ⟨rfl, rfl⟩ : la = some ⟨bb, o, none⟩ ∧ lc = d9 := by simpa using e1
    have q1 := SL.out.frm.cell x1 (by simp)
    have HXR := Lib.hid x2
    have HXE := Lib.hid hx
    have hxl := HX3.out x (List.mem_of_getElem? hx)
    have HC6 : Hid (∀ V, Frm [] wr V → Calls Tryz.prog 61 #[.slice xa x.length xc] V fun e w' => (∃ a c, e = .returned (.slice a x.length c) ∧ w'.ownsRow V.heap.size 3 1 (.slice a x.length c) x.length (ints x)) ∧ Frm [] V w') := Lib.hid fun V hf => cloneI_any V _ x (HXR.out.nil (SL.out.frm.trans hf (by simp))) hxl
    clear x1 x2 hx e1
    go_wp2_with fail
    refine' wp_region_last (L := 7) _ (fun w' => w'.cell? ⟨b3, 1, none⟩ = some (.slice va k vc)) (by kernel_rfl) rfl rfl rfl rfl ?he (by kernel_rfl) (by kernel_rfl) ?hS ?h
    case he =>
     simp only [nopOf, List.getElem_toArray, List.getElem_cons_succ, List.getElem_cons_zero, List.setIfInBounds_toArray, List.set_cons_succ, List.set_cons_zero]
     rfl
    case hS => exact KP.out _ (Frm.refl [] wr).drew
    intro hHeld
    refine qtk 0 (v := ?_) rfl (by kernel_rfl) (fun _ _ _ h => h) (by rfl) (by assumption) ?_ ?_
    rotate_left
    ·(intro w9 hS9; (try dsimp only at hS9); go_split_ands; go_simp; try with_reducible rfl)
    try simp only [Act.put, qgA, qgS, qg0, qsA, qs0, qsS]
    refine qtk 1 (v := ?_) rfl (by kernel_rfl) (fun _ _ _ h => h) (by rfl) (by assumption) ?_ ?_
    rotate_left
    ·(intro w9 hS9; (try dsimp only at hS9); go_split_ands; go_simp; try with_reducible rfl)
    try simp only [Act.put, qgA, qgS, qg0, qsA, qs0, qsS]
    refine qtk 2 (v := ?_) rfl (by kernel_rfl) (fun _ _ _ h => h) (by rfl) (by assumption) ?_ ?_
    rotate_left
    ·(intro w9 hS9; (try dsimp only at hS9); go_split_ands; go_simp; try with_reducible rfl)
    try simp only [Act.put, qgA, qgS, qg0, qsA, qs0, qsS]
    refine wpAnyH_ready (rs := [3]) (by kernel_rfl) (by simp) ?_
    refine AllReadyH.cons rfl (fun K hK => ?_) AllReadyH.nil
    go_simp
    refine (HC6.out _ (Frm.refl [] wr).drew).mono ?_
    rintro e6 w6 ⟨⟨a6, c6, rfl, own6⟩, hf6⟩
    have S6 := (SL.out.nil (Frm.refl [] wr).drew).add (ownC 3 1 (.slice a6 x.length c6) x.length (ints x)) hf6 (ownC_of own6) (fun k hk => (own6.lt k (by simpa [ownC] using hk)).1)
    have hy6 := (Frm.refl [] wr).drew.trans hf6 (by simp)
    refine hK.out _ _ ?_ (fun hHeld => ?_)
    ·exact KP.out _ hy6
    clear hK K
    try simp only [Act.put, qgA, qgS, qg0, qsA, qs0, qsS]
    refine wpAnyH_ready (rs := [4]) (by kernel_rfl) (by simp) ?_
    refine AllReadyH.cons rfl (fun K hK => ?_) AllReadyH.nil
    go_simp
    have S7 := S6.nil ((Frm.refl [] w6).alloc (.cells #[.slice a6 x.length c6] 22))
    refine hK.out _ _ ?_ (fun hHeld => ?_)
    ·exact KP.out _ (hy6.alloc _)
    clear hK K
    try simp only [Act.put, qgA, qgS, qg0, qsA, qs0, qsS]
    refine wpAnyH_ready (rs := [5]) (by kernel_rfl) (by simp) ?_
    refine AllReadyH.cons rfl (fun K hK => ?_) AllReadyH.nil
    refine step_app_rowK rfl (.tmp 20) (.tmp 23) 67 22 _ 1 24 rfl Tryz.underlying67 infoIs rfl (by decide) 0 k (.slice va k vc) us rfl (by have h9 := (S7.at_ 1 rfl).1; rw [HLK.out] at h9; exact h9) _ 1 [.slice a6 x.length c6] [] rfl (rowV_cells (size := 1) (RowAt.made w6 22 [.slice a6 x.length c6] #[.slice a6 x.length c6] rfl) rfl (Nat.le_refl _) (by decide) (by simp)) (by simp [Value.oneCell']) (k + 1) rfl (by have := HX2.out; omega) (by have := HX2.out; omega) (Nat.zero_le _) ?_
    intro a8 c8 w8 own8 hf8 hb8 _
    have S8 := S7.snoc rfl rfl (by decide) (by simp [Value.oneCell']) own8 (by rw [HLK.out]) rfl hf8 (fun k hk => by
     rcases hb8 k hk with h9 | h9
     ·exact .inl h9
     ·exact .inr (by omega))
    have c0 := (show RowAt _ _ 69 _ from S8.at_ 1 rfl)
    have x1 := c0.cell (i := 1) rfl
    have z1 := c0.frozen 1
    clear c0
    refine hK.out _ _ ?_ (fun hHeld => ?_)
    ·exact x1
    clear hK K
    try simp only [Act.put, qgA, qgS, qg0, qsA, qs0, qsS]
    refine qtk 6 (v := ?_) rfl (by kernel_rfl) (fun _ _ _ h => h) (by rfl) (by assumption) ?_ ?_
    rotate_left
    ·(intro w9 hS9; (try dsimp only at hS9); go_split_ands; go_simp; try with_reducible rfl)
    try simp only [Act.put, qgA, qgS, qg0, qsA, qs0, qsS]
    refine qtk 7 (v := ?_) rfl (by kernel_rfl) (fun _ _ _ h => h) (by rfl) (by assumption) ?_ ?_
    rotate_left
    ·(intro w9 hS9; (try dsimp only at hS9); go_split_ands; go_simp; try with_reducible rfl)
    try simp only [Act.put, qgA, qgS, qg0, qsA, qs0, qsS]
    refine wpAnyH_done (by kernel_rfl) ?_ _
    refine Qt.last rfl rfl ?_
    simp only [List.getElem_toArray, List.getElem_cons_succ, List.getElem_cons_zero]
    go_simp
    have S9 := S8.putBox 1 rfl 1 (.slice a8 (k + 1) c8)
    simp only [List.set_cons_zero, List.set_cons_succ] at S9
    clear hHeld S6 S7 S8 hf6 hf8 hb8 own6 own8 hy6 x1 z1 KP HC6 HXR q1
    generalize World.setCell _ _ _ = w9 at *
    have S10 : Hid (Sep w w9 [ownsC 22 3 1 ints (.slice a8 (k + 1) c8) (us ++ [.slice a6 x.length c6]) (l.take (k + 1)), boxC b3 69 [.slice a5 t.length c5, .slice a8 (k + 1) c8, .bool d], ownC 3 1 (.slice a5 t.length c5) t.length (ints t), boxC (H + 1) 69 [.slice none 0 0, .slice none 0 0, .bool false], boxC H 69 [.slice ta t.length tc, .slice (some ⟨bb, o, none⟩) l.length lc, .bool d]]) := Lib.hid (by
     rw [take_snoc HXE.out]
     exact S9)
    clear S9
    go_wp2_with fail
    go_roundg (l.length - (k + 1))
    case rel => exact ⟨k + 1, _, _, rfl, by omega, by go_num, S10.out⟩
    case measure => have := HQ.out; omega
   ·have i5 : ¬ (k : Int) < (l.length : Int) := by omega
    obtain rfl : k = l.length := by omega
    have c0 := (show RowAt _ _ 69 _ from SL.out.at_ 1 rfl)
    have x0 := c0.cell (i := 0) rfl
    have x1 := c0.cell (i := 1) rfl
    have x2 := c0.cell (i := 2) rfl
    have c1 := (show RowAt _ _ 69 _ from SL.out.at_ 3 rfl)
    have p0 := c1.cell (i := 0) rfl
    have p1 := c1.cell (i := 1) rfl
    have p2 := c1.cell (i := 2) rfl
    have z0 := c1.frozen 0
    have z1 := c1.frozen 1
    have z2 := c1.frozen 2
    clear c0 c1 KP
    go_wp2_with fail
    have SP := ((SL.out.putBox 3 rfl 0 (.slice a5 t.length c5)).putBox 3 rfl 1 (.slice va l.length vc)).putBox 3 rfl 2 (.bool d)
    simp only [List.set_cons_zero, List.set_cons_succ] at SP
    clear x0 x1 x2 p0 p1 p2 z0 z1 z2 SL
    generalize World.setCell (World.setCell (World.setCell _ _ _) _ _) _ _ = w9 at *
    have rr : RowAt w9 (H + 1) 69 [.slice a5 t.length c5, .slice va l.length vc, .bool d] := SP.at_ 3 rfl
    have e0 := rr.cell (i := 0) rfl
    have e1 := rr.cell (i := 1) rfl
    have e2 := rr.cell (i := 2) rfl
    rw [List.take_length] at SP
    refine bodyPost_ret (v := .agg #[.slice a5 t.length c5, .slice va l.length vc, .bool d]) (by simp [results, Tryz.results65, go_sem, e0, e1, e2]) rfl ?_
    refine ⟨a5, c5, va, vc, rfl, ?_, setsAt_of SP (fun q hq => by have h2 := HF0.out q hq; have h3 := HH.out; omega), SP.frm⟩
    refine rowV_of_owns (SP.at_ 2 rfl) (fun q hq e => ?_)
    have h1 := SP.le 2 rfl (k := q) (by simp [ownC, e])
    have h2 := HF0.out q hq
    have h3 := HH.out
    omega
end Go.Proofs.YtikpcipkkhmcfaaGreat.Beh

/- behavior.Find. -/
namespace Go.Proofs.YtikpcipkkhmcfaaGreat.Beh
open Go.RowKit Go.Lib Go.Proofs.YtikpcipkkhmcfaaGreat Go.Proofs.YtikpcipkkhmcfaaGreat.Ind

/-- The sizes that memory allows. -/
def Fits (b : List En) : Prop := ∀ x ∈ b, x.1.length ≤ 17592186044416 ∧ x.2.1.length ≤ 5864062014805 ∧ ∀ y ∈ x.2.1, y.length ≤ 17592186044416
end Go.Proofs.YtikpcipkkhmcfaaGreat.Beh

/- The generator's Trace. -/
namespace Go.Proofs.YtikpcipkkhmcfaaGreat.Beh
open Go.RowKit Go.Lib Go.Proofs.YtikpcipkkhmcfaaGreat Go.Proofs.YtikpcipkkhmcfaaGreat.Ind

end Go.Proofs.YtikpcipkkhmcfaaGreat.Beh

/- A behavior that the call has copied: its entries may be set. No function of the program. -/
namespace Go.Proofs.YtikpcipkkhmcfaaGreat.Beh
open Go.RowKit Go.Lib Go.Proofs.YtikpcipkkhmcfaaGreat Go.Proofs.YtikpcipkkhmcfaaGreat.Ind

theorem flat3_set1 : ∀ {l : List EV} {i : Nat} {p : EV} (u : Value) (m : List (List Int)), l[i]? = some p → (l.flatMap enE).set (i * 3 + 1) u = (l.set i ((p.1.1, u), (p.2.1, m, p.2.2.2))).flatMap enE
 | [], i, p, u, m, h => by simp at h
 | a :: r, 0, p, u, m, h => by
  simp only [List.getElem?_cons_zero, Option.some.injEq] at h
  subst h
  rw [List.set_cons_zero, List.flatMap_cons, List.flatMap_cons]
  simp [enE]
 | a :: r, i + 1, p, u, m, h => by
  rw [List.getElem?_cons_succ] at h
  rw [List.set_cons_succ, List.flatMap_cons, List.flatMap_cons, ← flat3_set1 u m h, List.set_append_right _ _ (by simp [enE]; omega), show (i + 1) * 3 + 1 - (enE a).length = i * 3 + 1 by simp [enE]; omega]
theorem flat3_set0 : ∀ {l : List EV} {i : Nat} {p : EV} (u : Value) (m : List Int), l[i]? = some p → (l.flatMap enE).set (i * 3) u = (l.set i ((u, p.1.2), (m, p.2.2.1, p.2.2.2))).flatMap enE
 | [], i, p, u, m, h => by simp at h
 | a :: r, 0, p, u, m, h => by
  simp only [List.getElem?_cons_zero, Option.some.injEq] at h
  subst h
  rw [List.set_cons_zero, List.flatMap_cons, List.flatMap_cons]
  simp [enE]
 | a :: r, i + 1, p, u, m, h => by
  rw [List.getElem?_cons_succ] at h
  rw [List.set_cons_succ, List.flatMap_cons, List.flatMap_cons, ← flat3_set0 u m h, List.set_append_right _ _ (by simp [enE]; omega), show (i + 1) * 3 - (enE a).length = i * 3 by simp [enE]; omega]
/-- Sizes under a bound. -/
def FitsN (N : Nat) (b : List En) : Prop := ∀ x ∈ b, x.1.length ≤ N ∧ x.2.1.length ≤ N ∧ ∀ y ∈ x.2.1, y.length ≤ N
theorem FitsN.fits {N : Nat} {b : List En} (h : FitsN N b) (hN : N ≤ 1000000) : Fits b := fun x hx => by
 obtain ⟨h1, h2, h3⟩ := h x hx
 exact ⟨by omega, by omega, fun y hy => by have := h3 y hy; omega⟩
theorem FitsN.mono {N M : Nat} {b : List En} (h : FitsN N b) (hN : N ≤ M) : FitsN M b := fun x hx => by
 obtain ⟨h1, h2, h3⟩ := h x hx
 exact ⟨by omega, by omega, fun y hy => by have := h3 y hy; omega⟩
/-- A behavior in block g of the call's own. -/
structure Sp (B0 : Nat) (F : List Nat) (g n c : Nat) (ps : List EV) (w : World) : Prop where
 own : w.ownsRow B0 69 3 (.slice (some ⟨g, 0, none⟩) n c) n (ps.flatMap enE)
 ents : ∀ p ∈ ps, EntAt w (g :: F) p
 low : ∀ k ∈ F, k < B0
section
variable {B0 : Nat} {F : List Nat} {g n c i : Nat} {ps : List EV} {w w' : World} {p : EV}
theorem Sp.ge (h : Sp B0 F g n c ps w) : B0 ≤ g := (h.own.lt g rfl).1
theorem Sp.len (h : Sp B0 F g n c ps w) : ps.length = n := by
 have h1 := h.own.1
 rw [flat3_len] at h1
 omega
theorem Sp.nil (h : Sp B0 F g n c ps w) (hf : Frm [] w w') : Sp B0 F g n c ps w' := ⟨ownsB_frm h.own hf (by simp), fun p hp => (h.ents p hp).nil hf, h.low⟩
theorem Sp.next {tb : Nat} (h : Sp B0 F g n c ps w) (hf : Frm [tb] w w') (ht : tb ∈ F) : Sp B0 F g n c ps w' :=
 ⟨ownsB_frm h.own hf (fun k hk hm => by
  have h1 := (h.own.lt k hk).1
  have h2 := h.low tb ht
  simp at hm
  omega), fun p hp => (h.ents p hp).step hf (fun k hk => .inl (by simp at hk; subst hk; exact List.mem_cons_of_mem _ ht)) (fun k hk => .inl hk), h.low⟩
theorem setc_frm (w : World) (g j : Nat) (u : Value) : Frm [g] w (w.setCell ⟨g, j, none⟩ u) := (Frm.refl [g] w).setCell (p := ⟨g, j, none⟩) (.inl (by simp)) u
theorem Sp.set1 (h : Sp B0 F g n c ps w) (hi : ps[i]? = some p) {u : Value} {m : List (List Int)} (hu : SetsAt w (g :: F) u m) : Sp B0 F g n c (ps.set i ((p.1.1, u), (p.2.1, m, p.2.2.2))) (w.setCell ⟨g, i * 3 + 1, none⟩ u) := by
 have hf := setc_frm w g (i * 3 + 1) u
 refine ⟨?_, fun q hq => ?_, h.low⟩
 ·rw [← flat3_set1 u m hi]
  exact ownsB_setCell h.own rfl _ _
 ·have hst : ∀ {x : EV}, EntAt w (g :: F) x → EntAt (w.setCell ⟨g, i * 3 + 1, none⟩ u) (g :: F) x := fun hx => hx.step hf (fun k hk => .inl (by simp at hk; simp [hk])) (fun k hk => .inl hk)
  rcases List.mem_or_eq_of_mem_set hq with h9 | rfl
  ·exact hst (h.ents q h9)
  ·exact hst ⟨(h.ents p (List.mem_of_getElem? hi)).1, hu⟩
theorem Sp.set0 (h : Sp B0 F g n c ps w) (hi : ps[i]? = some p) {u : Value} {m : List Int} (hu : RowV w (g :: F) u m.length 1 (ints m)) : Sp B0 F g n c (ps.set i ((u, p.1.2), (m, p.2.2.1, p.2.2.2))) (w.setCell ⟨g, i * 3, none⟩ u) := by
 have hf := setc_frm w g (i * 3) u
 refine ⟨?_, fun q hq => ?_, h.low⟩
 ·rw [← flat3_set0 u m hi]
  exact ownsB_setCell h.own rfl _ _
 ·have hst : ∀ {x : EV}, EntAt w (g :: F) x → EntAt (w.setCell ⟨g, i * 3, none⟩ u) (g :: F) x := fun hx => hx.step hf (fun k hk => .inl (by simp at hk; simp [hk])) (fun k hk => .inl hk)
  rcases List.mem_or_eq_of_mem_set hq with h9 | rfl
  ·exact hst (h.ents q h9)
  ·exact hst ⟨hu, (h.ents p (List.mem_of_getElem? hi)).2⟩
theorem EntAt.lessC {x : EV} (h : EntAt w (g :: F) x) : EntAt w F x := h.less (fun _ hk => List.mem_cons_of_mem _ hk)
theorem Sp.row (h : Sp B0 F g n c ps w) : RowV w F (.slice (some ⟨g, 0, none⟩) n c) n 3 (ps.flatMap enE) := rowV_of_owns h.own (fun k hk e => by
 have h1 := (h.own.lt k e).1
 have h2 := h.low k hk
 omega)
theorem Sp.beh (h : Sp B0 F g n c ps w) : BehAt w F (.slice (some ⟨g, 0, none⟩) n c) (ps.map (·.2)) := ⟨ps, rfl, by rw [List.length_map, h.len]; exact h.row, fun p hp => (h.ents p hp).lessC⟩
/-- The cells of entry i. -/
theorem Sp.cells (h : Sp B0 F g n c ps w) (hi : ps[i]? = some p) : w.cell? ⟨g, i * 3, none⟩ = some p.1.1 ∧ w.cell? ⟨g, i * 3 + 1, none⟩ = some p.1.2 ∧ w.cell? ⟨g, i * 3 + 2, none⟩ = some (.bool p.2.2.2) := by
 have g0 := flat3_get hi 0 (by decide)
 have g1 := flat3_get hi 1 (by decide)
 have g2 := flat3_get hi 2 (by decide)
 rw [Nat.add_zero] at g0
 exact ⟨own_cell h.own rfl (by rw [g0]; rfl), own_cell h.own rfl (by rw [g1]; rfl), own_cell h.own rfl (by rw [g2]; rfl)⟩
/-- One entry more. -/
theorem Sp.snoc (h : Sp B0 F g n c ps w) {a : Option Addr} {c' : Nat} {q : EV} (hq : EntAt w (g :: F) q) (ho : w'.ownsRow B0 69 3 (.slice a (n + 1) c') (n + 1) (ps.flatMap enE ++ enE q)) (hf : Frm [g] w w') : BehAt w' F (.slice a (n + 1) c') ((ps ++ [q]).map (·.2)) := by
 have hst : ∀ {x : EV}, EntAt w (g :: F) x → EntAt w' F x := fun hx => hx.step hf (fun k hk => .inl (by simp at hk; simp [hk])) (fun k hk => .inl (List.mem_cons_of_mem _ hk))
 refine ⟨ps ++ [q], rfl, ?_, fun x hx => ?_⟩
 ·rw [List.length_map, List.length_append, h.len, List.flatMap_append]
  have h9 := rowV_of_owns (F := F) ho (fun k hk e => by
   have h1 := (ho.lt k e).1
   have h2 := h.low k hk
   omega)
  simpa [List.flatMap_cons] using h9
 ·rcases List.mem_append.1 hx with h9 | h9
  ·exact hst (h.ents x h9)
  ·rw [List.mem_singleton.1 h9]
   exact hst hq
end
end Go.Proofs.YtikpcipkkhmcfaaGreat.Beh
