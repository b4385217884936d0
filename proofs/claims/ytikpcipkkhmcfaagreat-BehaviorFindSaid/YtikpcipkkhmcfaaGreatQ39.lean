/- Texts WK, WL. -/
import Derived.Test.YtikpcipkkhmcfaaGreatQ10
import Derived.Test.YtikpcipkkhmcfaaGreatQ37
import Derived.Test.YtikpcipkkhmcfaaGreatQ38
/- behavior.copyEntry: an independent copy of an entry. -/
namespace Go.Proofs.YtikpcipkkhmcfaaGreat.Beh
open Go.RowKit Go.Lib Go.Deep Go.Proofs.YtikpcipkkhmcfaaGreat Go.Proofs.YtikpcipkkhmcfaaGreat.Ind

theorem infoEnC : (Tryz.prog.info? 69).map (fun i => (i.zero, i.size, i.bytes)) = some (some (.agg #[.slice none 0 0, .slice none 0 0, .bool false]), 3, 56) := by kernel_rfl
def CopyEnd (F : List Nat) (x : En) (w : World) (e : Ending) (w' : World) : Prop :=
  ∃ ta tc la lc, e = .returned (.agg #[.slice ta x.1.length tc, .slice la x.2.1.length lc, .bool x.2.2]) ∧ RowV w' F (.slice ta x.1.length tc) x.1.length 1 (ints x.1) ∧ SetsAt w' F (.slice la x.2.1.length lc) x.2.1 ∧ Frm [] w w'
set_option linter.unusedSimpArgs false in
set_option maxRecDepth 100000 in
set_option maxHeartbeats 8000000 in
theorem copyEntry_any {F : List Nat} (w : World) (x : En) (ta la : Option Addr) (tc lc : Nat) (h1 : RowV w F (.slice ta x.1.length tc) x.1.length 1 (ints x.1)) (h2 : SetsAt w F (.slice la x.2.1.length lc) x.2.1) (hF : ∀ k ∈ F, k < w.heap.size) (hx1 : x.1.length ≤ 17592186044416) (hx2 : x.2.1.length ≤ 5864062014805) (hx3 : ∀ y ∈ x.2.1, y.length ≤ 17592186044416) :
    Calls Tryz.prog 65 #[.agg #[.slice ta x.1.length tc, .slice la x.2.1.length lc, .bool x.2.2]] w (CopyEnd F x w) := by
  obtain ⟨t, l, d⟩ := x
  dsimp only at h1 h2 hx1 hx2 hx3 ⊢
  have f2 := sets_few h2
  have HT := Lib.hid h1
  have HLS := Lib.hid h2
  have HF0 := Lib.hid hF
  have HX1 := Lib.hid hx1
  have HX2 := Lib.hid hx2
  have HX3 := Lib.hid hx3
  clear h1 h2 hF hx1 hx2 hx3
  go_enter Tryz.func65, Tryz.ntmps65
  go_wp2_with fail
  obtain ⟨W, hW⟩ : ∃ W, W = (w.alloc (.cells #[.slice ta t.length tc, .slice la l.length lc, .bool d] 69)).alloc (.cells #[.slice none 0 0, .slice none 0 0, .bool false] 69) := ⟨_, rfl⟩
  have S0 : Hid (Sep w W [boxC (w.heap.size + 1) 69 [.slice none 0 0, .slice none 0 0, .bool false], boxC w.heap.size 69 [.slice ta t.length tc, .slice la l.length lc, .bool d]]) := Lib.hid (by
    rw [hW]
    exact ((Sep.start w).box w.heap.size rfl 69 [.slice ta t.length tc, .slice la l.length lc, .bool d] #[.slice ta t.length tc, .slice la l.length lc, .bool d] rfl).box (w.heap.size + 1) (by simp) 69 [.slice none 0 0, .slice none 0 0, .bool false] #[.slice none 0 0, .slice none 0 0, .bool false] rfl)
  have HCL : Hid (∀ V, Frm [] w V → Calls Tryz.prog 61 #[.slice ta t.length tc] V fun e w' => (∃ a c, e = .returned (.slice a t.length c) ∧ w'.ownsRow V.heap.size 3 1 (.slice a t.length c) t.length (ints t)) ∧ Frm [] V w') := Lib.hid fun V hf => cloneI_any V _ t (HT.out.nil hf) HX1.out
  have HFW : Hid (Frm [] w W) := Lib.hid S0.out.frm
  have hHs : w.heap.size + 2 = W.heap.size := by rw [hW]; simp
  rw [← hW]
  clear hW
  generalize hH : w.heap.size = H at *
  have HH := Lib.hid hH
  clear hH
  have KEEP : Hid (∀ w', Frm [] W w' → w'.cell? ⟨H, 0, none⟩ = some (.slice ta t.length tc) ∧ w'.cell? ⟨H, 1, none⟩ = some (.slice la l.length lc) ∧ w'.cell? ⟨H, 2, none⟩ = some (.bool d)) := Lib.hid fun w' hf => by
    have h1 := (show RowAt W H 69 [.slice ta t.length tc, .slice la l.length lc, .bool d] from S0.out.at_ 1 rfl).frm hf (by simp)
    exact ⟨h1.cell (i := 0) rfl, h1.cell (i := 1) rfl, h1.cell (i := 2) rfl⟩
  refine wp_region_held_drew (S := fun w' => w'.cell? ⟨H, 0, none⟩ = some (.slice ta t.length tc) ∧ w'.cell? ⟨H, 1, none⟩ = some (.slice la l.length lc) ∧ w'.cell? ⟨H, 2, none⟩ = some (.bool d)) (by kernel_rfl) (KEEP.out _ (Frm.refl [] W).drew) ?_
  intro hHeld
  refine wpAnyH_take (i := 0) (v := ?_) rfl (by kernel_rfl) (by kernel_rfl) (by kernel_rfl) (fun _ _ _ h => h) (Or.inl ⟨by rfl, ?_⟩) (by assumption) ?_
  rotate_left
  · intro w9 hS9
    try dsimp only at hS9
    go_split_ands
    go_simp
    try with_reducible rfl
  try simp only [Act.put, List.getElem_toArray, List.getElem_cons_succ, List.getElem_cons_zero, List.setIfInBounds_toArray, List.set_cons_zero, List.set_cons_succ]
  refine wpAnyH_take (i := 1) (v := ?_) rfl (by kernel_rfl) (by kernel_rfl) (by kernel_rfl) (fun _ _ _ h => h) (Or.inl ⟨by rfl, ?_⟩) (by assumption) ?_
  rotate_left
  · intro w9 hS9
    try dsimp only at hS9
    go_split_ands
    go_simp
    try with_reducible rfl
  try simp only [Act.put, List.getElem_toArray, List.getElem_cons_succ, List.getElem_cons_zero, List.setIfInBounds_toArray, List.set_cons_zero, List.set_cons_succ]
  refine wpAnyH_take (i := 3) (v := ?_) rfl (by kernel_rfl) (by kernel_rfl) (by kernel_rfl) (fun _ _ _ h => h) (Or.inl ⟨by rfl, ?_⟩) (by assumption) ?_
  rotate_left
  · intro w9 hS9
    try dsimp only at hS9
    go_split_ands
    go_simp
    try with_reducible rfl
  try simp only [Act.put, List.getElem_toArray, List.getElem_cons_succ, List.getElem_cons_zero, List.setIfInBounds_toArray, List.set_cons_zero, List.set_cons_succ]
  refine wpAnyH_take (i := 4) (v := ?_) rfl (by kernel_rfl) (by kernel_rfl) (by kernel_rfl) (fun _ _ _ h => h) (Or.inl ⟨by rfl, ?_⟩) (by assumption) ?_
  rotate_left
  · intro w9 hS9
    try dsimp only at hS9
    go_split_ands
    go_simp
    try with_reducible rfl
  try simp only [Act.put, List.getElem_toArray, List.getElem_cons_succ, List.getElem_cons_zero, List.setIfInBounds_toArray, List.set_cons_zero, List.set_cons_succ]
  refine wpAnyH_ready (rs := [2, 6]) (by kernel_rfl) (by simp) ?_
  refine AllReadyH.cons rfl (fun K hK => ?_) (AllReadyH.cons rfl (fun K hK => ?_) AllReadyH.nil)
  · go_simp
    refine (HCL.out _ (HFW.out.trans (Frm.refl [] W).drew (by simp))).mono ?_
    rintro e5 w5 ⟨⟨a5, c5, rfl, own5⟩, hf5⟩
    have hy5 := (Frm.refl [] W).drew.trans hf5 (by simp)
    refine hK.out _ _ ?_ (fun hHeld => ?_)
    · exact KEEP.out _ hy5
    clear hK K
    try simp only [Act.put, List.getElem_toArray, List.getElem_cons_succ, List.getElem_cons_zero, List.setIfInBounds_toArray, List.set_cons_zero, List.set_cons_succ]
    refine wpAnyH_take (i := 5) (v := ?_) rfl (by kernel_rfl) (by kernel_rfl) (by kernel_rfl) (fun _ _ _ h => h) (Or.inl ⟨by rfl, ?_⟩) (by assumption) ?_
    rotate_left
    · intro w9 hS9
      try dsimp only at hS9
      go_split_ands
      go_simp
      try with_reducible rfl
    try simp only [Act.put, List.getElem_toArray, List.getElem_cons_succ, List.getElem_cons_zero, List.setIfInBounds_toArray, List.set_cons_zero, List.set_cons_succ]
    refine wpAnyH_ready (rs := [6]) (by kernel_rfl) (by simp) ?_
    refine AllReadyH.cons rfl (fun K hK => ?_) AllReadyH.nil
    go_simp
    refine hK.out _ _ ?_ (fun hHeld => ?_)
    · exact KEEP.out _ (hy5.alloc _)
    clear hK K
    try simp only [Act.put, List.getElem_toArray, List.getElem_cons_succ, List.getElem_cons_zero, List.setIfInBounds_toArray, List.set_cons_zero, List.set_cons_succ]
    have S9 := ((S0.out.nil (Frm.refl [] W).drew).add (ownC 3 1 (.slice a5 t.length c5) t.length (ints t)) hf5 (ownC_of own5) (fun k hk => (own5.lt k (by simpa [ownC] using hk)).1)).box w5.heap.size rfl 69 [.slice a5 t.length c5, .slice none 0 0, .bool d] #[.slice a5 t.length c5, .slice none 0 0, .bool d] rfl
    refine wpAnyH_ready (rs := [7]) (by kernel_rfl) (by simp) ?_
    refine AllReadyH.cons rfl (fun K hK => ?_) AllReadyH.nil
    go_simp
    have r9 := (show RowAt _ H 69 [.slice ta t.length tc, .slice la l.length lc, .bool d] from S9.at_ 3 rfl)
    refine hK.out _ _ ?_ (fun hHeld => ?_)
    · exact ⟨r9.cell (i := 0) rfl, r9.cell (i := 1) rfl, r9.cell (i := 2) rfl⟩
    clear hK K
    try simp only [Act.put, List.getElem_toArray, List.getElem_cons_succ, List.getElem_cons_zero, List.setIfInBounds_toArray, List.set_cons_zero, List.set_cons_succ]
    clear r9 own5 hf5 hy5
    refine wpAnyH_done (by kernel_rfl) ?_ _
    obtain ⟨W9, hW9⟩ : ∃ W9, W9 = w5.alloc (.cells #[.slice a5 t.length c5, .slice none 0 0, .bool d] 69) := ⟨_, rfl⟩
    rw [← hW9] at S9 ⊢
    clear hW9
    generalize w5.heap.size = b3 at *
    have SS : Hid (Sep w W9 [ownsC 22 3 1 ints (.slice none 0 0) [] (l.take 0), boxC b3 69 [.slice a5 t.length c5, .slice none 0 0, .bool d], ownC 3 1 (.slice a5 t.length c5) t.length (ints t), boxC (H + 1) 69 [.slice none 0 0, .slice none 0 0, .bool false], boxC H 69 [.slice ta t.length tc, .slice la l.length lc, .bool d]]) := Lib.hid (S9.add (ownsC 22 3 1 ints (.slice none 0 0) [] []) (Frm.refl [] _) (ownsC_nil _ _ _ _ _) (by simp [ownsC, Value.ownBlock]))
    have r9 := (show RowAt _ H 69 [.slice ta t.length tc, .slice la l.length lc, .bool d] from S9.at_ 3 rfl)
    have y1 := r9.cell (i := 1) rfl
    clear S9 KEEP HFW r9 S0 hHs
    go_wp2_with fail
    go_loopg [15] l.length (fun q t15 wr => ∃ (k : Nat) (v : Value) (us : List Value), q = l.length - k ∧ k ≤ l.length ∧ t15 = .int .i64 k ∧ Sep w wr [ownsC 22 3 1 ints v us (l.take k), boxC b3 69 [.slice a5 t.length c5, v, .bool d], ownC 3 1 (.slice a5 t.length c5) t.length (ints t), boxC (H + 1) 69 [.slice none 0 0, .slice none 0 0, .bool false], boxC H 69 [.slice ta t.length tc, .slice la l.length lc, .bool d]])
    case atStart => exact ⟨0, _, _, rfl, Nat.zero_le _, rfl, SS.out⟩
    case round =>
      clear SS y1
      obtain ⟨k, v, us, hq, hk, rfl, hs⟩ := hrel
      have HQ := Lib.hid hq
      have SL := Lib.hid hs
      have i4 : (0 : Int) ≤ (k : Int) := by omega
      have hlk : (l.take k).length = k := by rw [List.length_take]; omega
      have HLK := Lib.hid hlk
      obtain ⟨va, vc, rfl⟩ : ∃ va vc, v = .slice va k vc := by
        obtain ⟨va, vc, e, _⟩ := owns_shape (hs.at_ 0 rfl).1
        exact ⟨va, vc, by rw [e, hlk]⟩
      have c0 := (show RowAt _ _ 69 _ from hs.at_ 1 rfl)
      have KP : Hid (∀ w', Frm [] wr w' → w'.cell? ⟨b3, 1, none⟩ = some (.slice va k vc)) := Lib.hid fun w' hf => (c0.frm hf (by simp)).cell (i := 1) rfl
      clear hq hs hlk c0
      by_cases hlt : k < l.length
      · have i5 : (k : Int) < (l.length : Int) := by omega
        obtain ⟨x, hx⟩ : ∃ x, l[k]? = some x := ⟨_, List.getElem?_eq_getElem hlt⟩
        obtain ⟨bb, o, d9, xa, xc, e1, x1, x2⟩ := HLS.out.at_ hx
        obtain ⟨rfl, rfl⟩ : la = some ⟨bb, o, none⟩ ∧ lc = d9 := by simpa using e1
        have q1 := SL.out.frm.cell x1 (by simp)
        have HXR := Lib.hid x2
        have HXE := Lib.hid hx
        have hxl := HX3.out x (List.mem_of_getElem? hx)
        have HC6 : Hid (∀ V, Frm [] wr V → Calls Tryz.prog 61 #[.slice xa x.length xc] V fun e w' => (∃ a c, e = .returned (.slice a x.length c) ∧ w'.ownsRow V.heap.size 3 1 (.slice a x.length c) x.length (ints x)) ∧ Frm [] V w') := Lib.hid fun V hf => cloneI_any V _ x (HXR.out.nil (SL.out.frm.trans hf (by simp))) hxl
        clear x1 x2 hx e1
        go_wp2_with fail
        refine' wp_region_last (L := 7) _ (fun w' => w'.cell? ⟨b3, 1, none⟩ = some (.slice va k vc)) (by kernel_rfl) rfl rfl rfl rfl ?he (by kernel_rfl) (by kernel_rfl) ?hS ?h
        case he =>
          simp only [nopOf, List.getElem_toArray, List.getElem_cons_succ, List.getElem_cons_zero, List.setIfInBounds_toArray, List.set_cons_succ, List.set_cons_zero]
          rfl
        case hS => exact KP.out _ (Frm.refl [] wr).drew
        intro hHeld
        refine wpAnyH_take (i := 0) (v := ?_) rfl (by kernel_rfl) (by kernel_rfl) (by kernel_rfl) (fun _ _ _ h => h) (Or.inl ⟨by rfl, ?_⟩) (by assumption) ?_
        rotate_left
        · intro w9 hS9
          try dsimp only at hS9
          go_split_ands
          go_simp
          try with_reducible rfl
        try simp only [Act.put, List.getElem_toArray, List.getElem_cons_succ, List.getElem_cons_zero, List.setIfInBounds_toArray, List.set_cons_zero, List.set_cons_succ]
        refine wpAnyH_take (i := 1) (v := ?_) rfl (by kernel_rfl) (by kernel_rfl) (by kernel_rfl) (fun _ _ _ h => h) (Or.inl ⟨by rfl, ?_⟩) (by assumption) ?_
        rotate_left
        · intro w9 hS9
          try dsimp only at hS9
          go_split_ands
          go_simp
          try with_reducible rfl
        try simp only [Act.put, List.getElem_toArray, List.getElem_cons_succ, List.getElem_cons_zero, List.setIfInBounds_toArray, List.set_cons_zero, List.set_cons_succ]
        refine wpAnyH_take (i := 2) (v := ?_) rfl (by kernel_rfl) (by kernel_rfl) (by kernel_rfl) (fun _ _ _ h => h) (Or.inl ⟨by rfl, ?_⟩) (by assumption) ?_
        rotate_left
        · intro w9 hS9
          try dsimp only at hS9
          go_split_ands
          go_simp
          try with_reducible rfl
        try simp only [Act.put, List.getElem_toArray, List.getElem_cons_succ, List.getElem_cons_zero, List.setIfInBounds_toArray, List.set_cons_zero, List.set_cons_succ]
        refine wpAnyH_ready (rs := [3]) (by kernel_rfl) (by simp) ?_
        refine AllReadyH.cons rfl (fun K hK => ?_) AllReadyH.nil
        go_simp
        refine (HC6.out _ (Frm.refl [] wr).drew).mono ?_
        rintro e6 w6 ⟨⟨a6, c6, rfl, own6⟩, hf6⟩
        have S6 := (SL.out.nil (Frm.refl [] wr).drew).add (ownC 3 1 (.slice a6 x.length c6) x.length (ints x)) hf6 (ownC_of own6) (fun k hk => (own6.lt k (by simpa [ownC] using hk)).1)
        have hy6 := (Frm.refl [] wr).drew.trans hf6 (by simp)
        refine hK.out _ _ ?_ (fun hHeld => ?_)
        · exact KP.out _ hy6
        clear hK K
        try simp only [Act.put, List.getElem_toArray, List.getElem_cons_succ, List.getElem_cons_zero, List.setIfInBounds_toArray, List.set_cons_zero, List.set_cons_succ]
        refine wpAnyH_ready (rs := [4]) (by kernel_rfl) (by simp) ?_
        refine AllReadyH.cons rfl (fun K hK => ?_) AllReadyH.nil
        go_simp
        have S7 := S6.nil ((Frm.refl [] w6).alloc (.cells #[.slice a6 x.length c6] 22))
        refine hK.out _ _ ?_ (fun hHeld => ?_)
        · exact KP.out _ (hy6.alloc _)
        clear hK K
        try simp only [Act.put, List.getElem_toArray, List.getElem_cons_succ, List.getElem_cons_zero, List.setIfInBounds_toArray, List.set_cons_zero, List.set_cons_succ]
        refine wpAnyH_ready (rs := [5]) (by kernel_rfl) (by simp) ?_
        refine AllReadyH.cons rfl (fun K hK => ?_) AllReadyH.nil
        refine step_app_rowK rfl (.tmp 20) (.tmp 23) 67 22 _ 1 24 rfl Tryz.underlying67 infoIs rfl (by decide) 0 k (.slice va k vc) us rfl (by have h9 := (S7.at_ 1 rfl).1; rw [HLK.out] at h9; exact h9) _ 1 [.slice a6 x.length c6] [] rfl (rowV_cells (size := 1) (RowAt.made w6 22 [.slice a6 x.length c6] #[.slice a6 x.length c6] rfl) rfl (Nat.le_refl _) (by decide) (by simp)) (by simp [Value.oneCell']) (k + 1) rfl (by have := HX2.out; omega) (by have := HX2.out; omega) (Nat.zero_le _) ?_
        intro a8 c8 w8 own8 hf8 hb8 _
        have S8 := S7.snoc rfl rfl (by decide) (by simp [Value.oneCell']) own8 (by rw [HLK.out]) rfl hf8 (fun k hk => by
          rcases hb8 k hk with h9 | h9
          · exact .inl h9
          · exact .inr (by omega))
        have c0 := (show RowAt _ _ 69 _ from S8.at_ 1 rfl)
        have x1 := c0.cell (i := 1) rfl
        have z1 := c0.frozen 1
        clear c0
        refine hK.out _ _ ?_ (fun hHeld => ?_)
        · exact x1
        clear hK K
        try simp only [Act.put, List.getElem_toArray, List.getElem_cons_succ, List.getElem_cons_zero, List.setIfInBounds_toArray, List.set_cons_zero, List.set_cons_succ]
        refine wpAnyH_take (i := 6) (v := ?_) rfl (by kernel_rfl) (by kernel_rfl) (by kernel_rfl) (fun _ _ _ h => h) (Or.inl ⟨by rfl, ?_⟩) (by assumption) ?_
        rotate_left
        · intro w9 hS9
          try dsimp only at hS9
          go_split_ands
          go_simp
          try with_reducible rfl
        try simp only [Act.put, List.getElem_toArray, List.getElem_cons_succ, List.getElem_cons_zero, List.setIfInBounds_toArray, List.set_cons_zero, List.set_cons_succ]
        refine wpAnyH_take (i := 7) (v := ?_) rfl (by kernel_rfl) (by kernel_rfl) (by kernel_rfl) (fun _ _ _ h => h) (Or.inl ⟨by rfl, ?_⟩) (by assumption) ?_
        rotate_left
        · intro w9 hS9
          try dsimp only at hS9
          go_split_ands
          go_simp
          try with_reducible rfl
        try simp only [Act.put, List.getElem_toArray, List.getElem_cons_succ, List.getElem_cons_zero, List.setIfInBounds_toArray, List.set_cons_zero, List.set_cons_succ]
        refine wpAnyH_done (by kernel_rfl) ?_ _
        refine Qt.last rfl rfl ?_
        simp only [List.getElem_toArray, List.getElem_cons_succ, List.getElem_cons_zero]
        go_simp
        have S9 := S8.putBox 1 rfl 1 (.slice a8 (k + 1) c8)
        simp only [List.set_cons_zero, List.set_cons_succ] at S9
        clear hHeld S6 S7 S8 hf6 hf8 hb8 own6 own8 hy6 x1 z1 KP HC6 HXR q1
        generalize World.setCell _ _ _ = w9 at *
        have S10 : Hid (Sep w w9 [ownsC 22 3 1 ints (.slice a8 (k + 1) c8) (us ++ [.slice a6 x.length c6]) (l.take (k + 1)), boxC b3 69 [.slice a5 t.length c5, .slice a8 (k + 1) c8, .bool d], ownC 3 1 (.slice a5 t.length c5) t.length (ints t), boxC (H + 1) 69 [.slice none 0 0, .slice none 0 0, .bool false], boxC H 69 [.slice ta t.length tc, .slice (some ⟨bb, o, none⟩) l.length lc, .bool d]]) := Lib.hid (by
          rw [take_snoc HXE.out]
          exact S9)
        clear S9
        go_wp2_with fail
        go_roundg (l.length - (k + 1))
        case rel => exact ⟨k + 1, _, _, rfl, by omega, by go_num, S10.out⟩
        case measure => have := HQ.out; omega
      · have i5 : ¬ (k : Int) < (l.length : Int) := by omega
        obtain rfl : k = l.length := by omega
        have c0 := (show RowAt _ _ 69 _ from SL.out.at_ 1 rfl)
        have x0 := c0.cell (i := 0) rfl
        have x1 := c0.cell (i := 1) rfl
        have x2 := c0.cell (i := 2) rfl
        have c1 := (show RowAt _ _ 69 _ from SL.out.at_ 3 rfl)
        have p0 := c1.cell (i := 0) rfl
        have p1 := c1.cell (i := 1) rfl
        have p2 := c1.cell (i := 2) rfl
        have z0 := c1.frozen 0
        have z1 := c1.frozen 1
        have z2 := c1.frozen 2
        clear c0 c1 KP
        go_wp2_with fail
        have SP := ((SL.out.putBox 3 rfl 0 (.slice a5 t.length c5)).putBox 3 rfl 1 (.slice va l.length vc)).putBox 3 rfl 2 (.bool d)
        simp only [List.set_cons_zero, List.set_cons_succ] at SP
        clear x0 x1 x2 p0 p1 p2 z0 z1 z2 SL
        generalize World.setCell (World.setCell (World.setCell _ _ _) _ _) _ _ = w9 at *
        have rr : RowAt w9 (H + 1) 69 [.slice a5 t.length c5, .slice va l.length vc, .bool d] := SP.at_ 3 rfl
        have e0 := rr.cell (i := 0) rfl
        have e1 := rr.cell (i := 1) rfl
        have e2 := rr.cell (i := 2) rfl
        rw [List.take_length] at SP
        refine bodyPost_ret (v := .agg #[.slice a5 t.length c5, .slice va l.length vc, .bool d]) (by simp [results, Tryz.results65, go_sem, e0, e1, e2]) rfl ?_
        refine ⟨a5, c5, va, vc, rfl, ?_, setsAt_of SP (fun q hq => by have h2 := HF0.out q hq; have h3 := HH.out; omega), SP.frm⟩
        refine rowV_of_owns (SP.at_ 2 rfl) (fun q hq e => ?_)
        have h1 := SP.le 2 rfl (k := q) (by simp [ownC, e])
        have h2 := HF0.out q hq
        have h3 := HH.out
        omega
  · go_simp
    refine hK.out _ _ ?_ (fun hHeld => ?_)
    · exact KEEP.out _ ((Frm.refl [] W).alloc _).drew
    clear hK K
    try simp only [Act.put, List.getElem_toArray, List.getElem_cons_succ, List.getElem_cons_zero, List.setIfInBounds_toArray, List.set_cons_zero, List.set_cons_succ]
    refine wpAnyH_ready (rs := [2]) (by kernel_rfl) (by simp) ?_
    refine AllReadyH.cons rfl (fun K hK => ?_) AllReadyH.nil
    go_simp
    refine (HCL.out _ (HFW.out.trans ((Frm.refl [] W).alloc (.cells #[.slice none 0 0, .slice none 0 0, .bool false] 69)).drew (by simp))).mono ?_
    rintro e5 w5 ⟨⟨a5, c5, rfl, own5⟩, hf5⟩
    have hy5 := ((Frm.refl [] W).alloc (.cells #[.slice none 0 0, .slice none 0 0, .bool false] 69)).drew.trans hf5 (by simp)
    refine hK.out _ _ ?_ (fun hHeld => ?_)
    · exact KEEP.out _ hy5
    clear hK K
    try simp only [Act.put, List.getElem_toArray, List.getElem_cons_succ, List.getElem_cons_zero, List.setIfInBounds_toArray, List.set_cons_zero, List.set_cons_succ]
    refine wpAnyH_take (i := 5) (v := ?_) rfl (by kernel_rfl) (by kernel_rfl) (by kernel_rfl) (fun _ _ _ h => h) (Or.inl ⟨by rfl, ?_⟩) (by assumption) ?_
    rotate_left
    · intro w9 hS9
      try dsimp only at hS9
      go_split_ands
      go_simp
      try with_reducible rfl
    try simp only [Act.put, List.getElem_toArray, List.getElem_cons_succ, List.getElem_cons_zero, List.setIfInBounds_toArray, List.set_cons_zero, List.set_cons_succ]
    have S8 := (((S0.out.box W.heap.size rfl 69 [.slice none 0 0, .slice none 0 0, .bool false] #[.slice none 0 0, .slice none 0 0, .bool false] rfl).nil (Frm.refl [] _).drew).add (ownC 3 1 (.slice a5 t.length c5) t.length (ints t)) hf5 (ownC_of own5) (fun k hk => (own5.lt k (by simpa [ownC] using hk)).1)).pull 1 rfl
    have c0 := (show RowAt _ _ 69 _ from S8.at_ 0 rfl)
    have x0 := c0.cell (i := 0) rfl
    have x1 := c0.cell (i := 1) rfl
    have x2 := c0.cell (i := 2) rfl
    have z0 := c0.frozen 0
    have z1 := c0.frozen 1
    have z2 := c0.frozen 2
    clear c0
    refine wpAnyH_ready (rs := [7]) (by kernel_rfl) (by simp) ?_
    refine AllReadyH.cons rfl (fun K hK => ?_) AllReadyH.nil
    go_simp
    have S9 := ((S8.putBox 0 rfl 0 (.slice a5 t.length c5)).putBox 0 rfl 1 (.slice none 0 0)).putBox 0 rfl 2 (.bool d)
    simp only [List.set_cons_zero, List.set_cons_succ] at S9
    clear S8 x0 x1 x2 z0 z1 z2
    have r9 := (show RowAt _ H 69 [.slice ta t.length tc, .slice la l.length lc, .bool d] from S9.at_ 3 rfl)
    refine hK.out _ _ ?_ (fun hHeld => ?_)
    · exact ⟨r9.cell (i := 0) rfl, r9.cell (i := 1) rfl, r9.cell (i := 2) rfl⟩
    clear hK K
    try simp only [Act.put, List.getElem_toArray, List.getElem_cons_succ, List.getElem_cons_zero, List.setIfInBounds_toArray, List.set_cons_zero, List.set_cons_succ]
    clear r9 own5 hf5 hy5
    refine wpAnyH_done (by kernel_rfl) ?_ _
    generalize World.setCell (World.setCell (World.setCell _ _ _) _ _) _ _ = W9 at *
    generalize W.heap.size = b3 at *
    have SS : Hid (Sep w W9 [ownsC 22 3 1 ints (.slice none 0 0) [] (l.take 0), boxC b3 69 [.slice a5 t.length c5, .slice none 0 0, .bool d], ownC 3 1 (.slice a5 t.length c5) t.length (ints t), boxC (H + 1) 69 [.slice none 0 0, .slice none 0 0, .bool false], boxC H 69 [.slice ta t.length tc, .slice la l.length lc, .bool d]]) := Lib.hid (S9.add (ownsC 22 3 1 ints (.slice none 0 0) [] []) (Frm.refl [] _) (ownsC_nil _ _ _ _ _) (by simp [ownsC, Value.ownBlock]))
    have r9 := (show RowAt _ H 69 [.slice ta t.length tc, .slice la l.length lc, .bool d] from S9.at_ 3 rfl)
    have y1 := r9.cell (i := 1) rfl
    clear S9 KEEP HFW r9 S0 hHs
    go_wp2_with fail
    go_loopg [15] l.length (fun q t15 wr => ∃ (k : Nat) (v : Value) (us : List Value), q = l.length - k ∧ k ≤ l.length ∧ t15 = .int .i64 k ∧ Sep w wr [ownsC 22 3 1 ints v us (l.take k), boxC b3 69 [.slice a5 t.length c5, v, .bool d], ownC 3 1 (.slice a5 t.length c5) t.length (ints t), boxC (H + 1) 69 [.slice none 0 0, .slice none 0 0, .bool false], boxC H 69 [.slice ta t.length tc, .slice la l.length lc, .bool d]])
    case atStart => exact ⟨0, _, _, rfl, Nat.zero_le _, rfl, SS.out⟩
    case round =>
      clear SS y1
      obtain ⟨k, v, us, hq, hk, rfl, hs⟩ := hrel
      have HQ := Lib.hid hq
      have SL := Lib.hid hs
      have i4 : (0 : Int) ≤ (k : Int) := by omega
      have hlk : (l.take k).length = k := by rw [List.length_take]; omega
      have HLK := Lib.hid hlk
      obtain ⟨va, vc, rfl⟩ : ∃ va vc, v = .slice va k vc := by
        obtain ⟨va, vc, e, _⟩ := owns_shape (hs.at_ 0 rfl).1
        exact ⟨va, vc, by rw [e, hlk]⟩
      have c0 := (show RowAt _ _ 69 _ from hs.at_ 1 rfl)
      have KP : Hid (∀ w', Frm [] wr w' → w'.cell? ⟨b3, 1, none⟩ = some (.slice va k vc)) := Lib.hid fun w' hf => (c0.frm hf (by simp)).cell (i := 1) rfl
      clear hq hs hlk c0
      by_cases hlt : k < l.length
      · have i5 : (k : Int) < (l.length : Int) := by omega
        obtain ⟨x, hx⟩ : ∃ x, l[k]? = some x := ⟨_, List.getElem?_eq_getElem hlt⟩
        obtain ⟨bb, o, d9, xa, xc, e1, x1, x2⟩ := HLS.out.at_ hx
        obtain ⟨rfl, rfl⟩ : la = some ⟨bb, o, none⟩ ∧ lc = d9 := by simpa using e1
        have q1 := SL.out.frm.cell x1 (by simp)
        have HXR := Lib.hid x2
        have HXE := Lib.hid hx
        have hxl := HX3.out x (List.mem_of_getElem? hx)
        have HC6 : Hid (∀ V, Frm [] wr V → Calls Tryz.prog 61 #[.slice xa x.length xc] V fun e w' => (∃ a c, e = .returned (.slice a x.length c) ∧ w'.ownsRow V.heap.size 3 1 (.slice a x.length c) x.length (ints x)) ∧ Frm [] V w') := Lib.hid fun V hf => cloneI_any V _ x (HXR.out.nil (SL.out.frm.trans hf (by simp))) hxl
        clear x1 x2 hx e1
        go_wp2_with fail
        refine' wp_region_last (L := 7) _ (fun w' => w'.cell? ⟨b3, 1, none⟩ = some (.slice va k vc)) (by kernel_rfl) rfl rfl rfl rfl ?he (by kernel_rfl) (by kernel_rfl) ?hS ?h
        case he =>
          simp only [nopOf, List.getElem_toArray, List.getElem_cons_succ, List.getElem_cons_zero, List.setIfInBounds_toArray, List.set_cons_succ, List.set_cons_zero]
          rfl
        case hS => exact KP.out _ (Frm.refl [] wr).drew
        intro hHeld
        refine wpAnyH_take (i := 0) (v := ?_) rfl (by kernel_rfl) (by kernel_rfl) (by kernel_rfl) (fun _ _ _ h => h) (Or.inl ⟨by rfl, ?_⟩) (by assumption) ?_
        rotate_left
        · intro w9 hS9
          try dsimp only at hS9
          go_split_ands
          go_simp
          try with_reducible rfl
        try simp only [Act.put, List.getElem_toArray, List.getElem_cons_succ, List.getElem_cons_zero, List.setIfInBounds_toArray, List.set_cons_zero, List.set_cons_succ]
        refine wpAnyH_take (i := 1) (v := ?_) rfl (by kernel_rfl) (by kernel_rfl) (by kernel_rfl) (fun _ _ _ h => h) (Or.inl ⟨by rfl, ?_⟩) (by assumption) ?_
        rotate_left
        · intro w9 hS9
          try dsimp only at hS9
          go_split_ands
          go_simp
          try with_reducible rfl
        try simp only [Act.put, List.getElem_toArray, List.getElem_cons_succ, List.getElem_cons_zero, List.setIfInBounds_toArray, List.set_cons_zero, List.set_cons_succ]
        refine wpAnyH_take (i := 2) (v := ?_) rfl (by kernel_rfl) (by kernel_rfl) (by kernel_rfl) (fun _ _ _ h => h) (Or.inl ⟨by rfl, ?_⟩) (by assumption) ?_
        rotate_left
        · intro w9 hS9
          try dsimp only at hS9
          go_split_ands
          go_simp
          try with_reducible rfl
        try simp only [Act.put, List.getElem_toArray, List.getElem_cons_succ, List.getElem_cons_zero, List.setIfInBounds_toArray, List.set_cons_zero, List.set_cons_succ]
        refine wpAnyH_ready (rs := [3]) (by kernel_rfl) (by simp) ?_
        refine AllReadyH.cons rfl (fun K hK => ?_) AllReadyH.nil
        go_simp
        refine (HC6.out _ (Frm.refl [] wr).drew).mono ?_
        rintro e6 w6 ⟨⟨a6, c6, rfl, own6⟩, hf6⟩
        have S6 := (SL.out.nil (Frm.refl [] wr).drew).add (ownC 3 1 (.slice a6 x.length c6) x.length (ints x)) hf6 (ownC_of own6) (fun k hk => (own6.lt k (by simpa [ownC] using hk)).1)
        have hy6 := (Frm.refl [] wr).drew.trans hf6 (by simp)
        refine hK.out _ _ ?_ (fun hHeld => ?_)
        · exact KP.out _ hy6
        clear hK K
        try simp only [Act.put, List.getElem_toArray, List.getElem_cons_succ, List.getElem_cons_zero, List.setIfInBounds_toArray, List.set_cons_zero, List.set_cons_succ]
        refine wpAnyH_ready (rs := [4]) (by kernel_rfl) (by simp) ?_
        refine AllReadyH.cons rfl (fun K hK => ?_) AllReadyH.nil
        go_simp
        have S7 := S6.nil ((Frm.refl [] w6).alloc (.cells #[.slice a6 x.length c6] 22))
        refine hK.out _ _ ?_ (fun hHeld => ?_)
        · exact KP.out _ (hy6.alloc _)
        clear hK K
        try simp only [Act.put, List.getElem_toArray, List.getElem_cons_succ, List.getElem_cons_zero, List.setIfInBounds_toArray, List.set_cons_zero, List.set_cons_succ]
        refine wpAnyH_ready (rs := [5]) (by kernel_rfl) (by simp) ?_
        refine AllReadyH.cons rfl (fun K hK => ?_) AllReadyH.nil
        refine step_app_rowK rfl (.tmp 20) (.tmp 23) 67 22 _ 1 24 rfl Tryz.underlying67 infoIs rfl (by decide) 0 k (.slice va k vc) us rfl (by have h9 := (S7.at_ 1 rfl).1; rw [HLK.out] at h9; exact h9) _ 1 [.slice a6 x.length c6] [] rfl (rowV_cells (size := 1) (RowAt.made w6 22 [.slice a6 x.length c6] #[.slice a6 x.length c6] rfl) rfl (Nat.le_refl _) (by decide) (by simp)) (by simp [Value.oneCell']) (k + 1) rfl (by have := HX2.out; omega) (by have := HX2.out; omega) (Nat.zero_le _) ?_
        intro a8 c8 w8 own8 hf8 hb8 _
        have S8 := S7.snoc rfl rfl (by decide) (by simp [Value.oneCell']) own8 (by rw [HLK.out]) rfl hf8 (fun k hk => by
          rcases hb8 k hk with h9 | h9
          · exact .inl h9
          · exact .inr (by omega))
        have c0 := (show RowAt _ _ 69 _ from S8.at_ 1 rfl)
        have x1 := c0.cell (i := 1) rfl
        have z1 := c0.frozen 1
        clear c0
        refine hK.out _ _ ?_ (fun hHeld => ?_)
        · exact x1
        clear hK K
        try simp only [Act.put, List.getElem_toArray, List.getElem_cons_succ, List.getElem_cons_zero, List.setIfInBounds_toArray, List.set_cons_zero, List.set_cons_succ]
        refine wpAnyH_take (i := 6) (v := ?_) rfl (by kernel_rfl) (by kernel_rfl) (by kernel_rfl) (fun _ _ _ h => h) (Or.inl ⟨by rfl, ?_⟩) (by assumption) ?_
        rotate_left
        · intro w9 hS9
          try dsimp only at hS9
          go_split_ands
          go_simp
          try with_reducible rfl
        try simp only [Act.put, List.getElem_toArray, List.getElem_cons_succ, List.getElem_cons_zero, List.setIfInBounds_toArray, List.set_cons_zero, List.set_cons_succ]
        refine wpAnyH_take (i := 7) (v := ?_) rfl (by kernel_rfl) (by kernel_rfl) (by kernel_rfl) (fun _ _ _ h => h) (Or.inl ⟨by rfl, ?_⟩) (by assumption) ?_
        rotate_left
        · intro w9 hS9
          try dsimp only at hS9
          go_split_ands
          go_simp
          try with_reducible rfl
        try simp only [Act.put, List.getElem_toArray, List.getElem_cons_succ, List.getElem_cons_zero, List.setIfInBounds_toArray, List.set_cons_zero, List.set_cons_succ]
        refine wpAnyH_done (by kernel_rfl) ?_ _
        refine Qt.last rfl rfl ?_
        simp only [List.getElem_toArray, List.getElem_cons_succ, List.getElem_cons_zero]
        go_simp
        have S9 := S8.putBox 1 rfl 1 (.slice a8 (k + 1) c8)
        simp only [List.set_cons_zero, List.set_cons_succ] at S9
        clear hHeld S6 S7 S8 hf6 hf8 hb8 own6 own8 hy6 x1 z1 KP HC6 HXR q1
        generalize World.setCell _ _ _ = w9 at *
        have S10 : Hid (Sep w w9 [ownsC 22 3 1 ints (.slice a8 (k + 1) c8) (us ++ [.slice a6 x.length c6]) (l.take (k + 1)), boxC b3 69 [.slice a5 t.length c5, .slice a8 (k + 1) c8, .bool d], ownC 3 1 (.slice a5 t.length c5) t.length (ints t), boxC (H + 1) 69 [.slice none 0 0, .slice none 0 0, .bool false], boxC H 69 [.slice ta t.length tc, .slice (some ⟨bb, o, none⟩) l.length lc, .bool d]]) := Lib.hid (by
          rw [take_snoc HXE.out]
          exact S9)
        clear S9
        go_wp2_with fail
        go_roundg (l.length - (k + 1))
        case rel => exact ⟨k + 1, _, _, rfl, by omega, by go_num, S10.out⟩
        case measure => have := HQ.out; omega
      · have i5 : ¬ (k : Int) < (l.length : Int) := by omega
        obtain rfl : k = l.length := by omega
        have c0 := (show RowAt _ _ 69 _ from SL.out.at_ 1 rfl)
        have x0 := c0.cell (i := 0) rfl
        have x1 := c0.cell (i := 1) rfl
        have x2 := c0.cell (i := 2) rfl
        have c1 := (show RowAt _ _ 69 _ from SL.out.at_ 3 rfl)
        have p0 := c1.cell (i := 0) rfl
        have p1 := c1.cell (i := 1) rfl
        have p2 := c1.cell (i := 2) rfl
        have z0 := c1.frozen 0
        have z1 := c1.frozen 1
        have z2 := c1.frozen 2
        clear c0 c1 KP
        go_wp2_with fail
        have SP := ((SL.out.putBox 3 rfl 0 (.slice a5 t.length c5)).putBox 3 rfl 1 (.slice va l.length vc)).putBox 3 rfl 2 (.bool d)
        simp only [List.set_cons_zero, List.set_cons_succ] at SP
        clear x0 x1 x2 p0 p1 p2 z0 z1 z2 SL
        generalize World.setCell (World.setCell (World.setCell _ _ _) _ _) _ _ = w9 at *
        have rr : RowAt w9 (H + 1) 69 [.slice a5 t.length c5, .slice va l.length vc, .bool d] := SP.at_ 3 rfl
        have e0 := rr.cell (i := 0) rfl
        have e1 := rr.cell (i := 1) rfl
        have e2 := rr.cell (i := 2) rfl
        rw [List.take_length] at SP
        refine bodyPost_ret (v := .agg #[.slice a5 t.length c5, .slice va l.length vc, .bool d]) (by simp [results, Tryz.results65, go_sem, e0, e1, e2]) rfl ?_
        refine ⟨a5, c5, va, vc, rfl, ?_, setsAt_of SP (fun q hq => by have h2 := HF0.out q hq; have h3 := HH.out; omega), SP.frm⟩
        refine rowV_of_owns (SP.at_ 2 rfl) (fun q hq e => ?_)
        have h1 := SP.le 2 rfl (k := q) (by simp [ownC, e])
        have h2 := HF0.out q hq
        have h3 := HH.out
        omega
end Go.Proofs.YtikpcipkkhmcfaaGreat.Beh

/- behavior.Find. -/
namespace Go.Proofs.YtikpcipkkhmcfaaGreat.Beh
open Go.RowKit Go.Lib Go.Proofs.YtikpcipkkhmcfaaGreat Go.Proofs.YtikpcipkkhmcfaaGreat.Ind

theorem frm_set3 (w : World) (h : Nat) (a b c : Value) : Frm [h] w (World.setCell (World.setCell (World.setCell w ⟨h, 0, none⟩ a) ⟨h, 1, none⟩ b) ⟨h, 2, none⟩ c) := by
  have h1 : Frm [h] w (World.setCell w ⟨h, 0, none⟩ a) := (Frm.refl [h] w).setCell (p := ⟨h, 0, none⟩) (.inl (by simp)) _
  have h2 : Frm [h] w (World.setCell (World.setCell w ⟨h, 0, none⟩ a) ⟨h, 1, none⟩ b) := h1.setCell (p := ⟨h, 1, none⟩) (.inl (by simp)) _
  exact h2.setCell (p := ⟨h, 2, none⟩) (.inl (by simp)) _
/-- The sizes that memory allows. -/
def Fits (b : List En) : Prop := ∀ x ∈ b, x.1.length ≤ 17592186044416 ∧ x.2.1.length ≤ 5864062014805 ∧ ∀ y ∈ x.2.1, y.length ≤ 17592186044416
set_option linter.unusedSimpArgs false in
set_option maxRecDepth 100000 in
set_option maxHeartbeats 4000000 in
theorem find_any {F G : List Nat} (w : World) (v u : Value) (b : List En) (t : List Int) (h1 : BehAt w F v b) (h2 : RowV w G u t.length 1 (ints t)) (hF : ∀ k ∈ F, k < w.heap.size) (hfit : Fits b) :
    Calls Tryz.prog 40 #[v, u] w (FindEnd F b t w) := by
  have f1 := beh_few h1
  obtain ⟨va, vc, rfl⟩ := h1.shape
  obtain ⟨ua, uc, rfl⟩ := RowV.shape h2
  have H1 := Lib.hid h1
  have H2 := Lib.hid h2
  have HF0 := Lib.hid hF
  have HFIT := Lib.hid hfit
  clear h1 h2 hF hfit
  go_enter Tryz.func40, Tryz.ntmps40
  go_wp2_with fail
  obtain ⟨V, hV⟩ : ∃ V, V = w.alloc (.cells #[.slice none 0 0, .slice none 0 0, .bool false] 69) := ⟨_, rfl⟩
  have S0 : Hid (Sep w V [boxC w.heap.size 69 [.slice none 0 0, .slice none 0 0, .bool false]]) := Lib.hid (by
    rw [hV]
    exact (Sep.start w).add (boxC w.heap.size 69 [.slice none 0 0, .slice none 0 0, .bool false]) ((Frm.refl [] w).alloc _) (RowAt.made w 69 _ #[.slice none 0 0, .slice none 0 0, .bool false] rfl) (by simp [boxC]))
  rw [← hV]
  clear hV
  go_loopg [10] b.length (fun q t6 wr => ∃ (k : Nat), q = b.length - k ∧ k ≤ b.length ∧ t6 = .int .i64 k ∧ findE (b.drop k) t = findE b t ∧ Sep w wr [boxC w.heap.size 69 [.slice none 0 0, .slice none 0 0, .bool false]])
  case atStart => exact ⟨0, rfl, Nat.zero_le _, rfl, rfl, S0.out⟩
  case round =>
    clear S0
    obtain ⟨k, hq, hk, rfl, hd, hs⟩ := hrel
    have HQ := Lib.hid hq
    have S := Lib.hid hs
    have i4 : (0 : Int) ≤ (k : Int) := by omega
    clear hq hs
    have r0 := (show RowAt wr w.heap.size 69 [.slice none 0 0, .slice none 0 0, .bool false] from S.out.at_ 0 rfl)
    have c0 := r0.cell (i := 0) rfl
    have c1 := r0.cell (i := 1) rfl
    have c2 := r0.cell (i := 2) rfl
    have z0 := r0.frozen 0
    have z1 := r0.frozen 1
    have z2 := r0.frozen 2
    clear r0
    by_cases hlt : k < b.length
    · have i5 : (k : Int) < (b.length : Int) := by omega
      obtain ⟨x, hx⟩ : ∃ x, b[k]? = some x := ⟨_, List.getElem?_eq_getElem hlt⟩
      obtain ⟨b1, o1, d1, ta, tc, la, lc, e1, x0, x1, x2, xt, xl⟩ := H1.out.at_ hx
      obtain ⟨rfl, rfl⟩ : va = some ⟨b1, o1, none⟩ ∧ vc = d1 := by simpa using e1
      have y0 := S.out.frm.cell x0 (by simp)
      have y1 := S.out.frm.cell x1 (by simp)
      have y2 := S.out.frm.cell x2 (by simp)
      rw [← Nat.add_assoc] at y1 y2
      have HC : Hid (∀ V, Frm [] wr V → Calls Tryz.prog 70 #[.slice ta x.1.length tc, .slice ua t.length uc] V fun e w' => e = .returned (.bool (decide (x.1 = t))) ∧ Frm [] V w') := Lib.hid fun V hf => equalI_any V _ _ x.1 t (xt.nil (S.out.frm.trans hf (by simp))) (H2.out.nil (S.out.frm.trans hf (by simp)))
      have hcons : ∀ k ∈ w.heap.size :: F, k ∈ F ∨ w.heap.size ≤ k := fun k hk => by
        rcases List.mem_cons.1 hk with rfl | h9
        · exact .inr (Nat.le_refl _)
        · exact .inl h9
      obtain ⟨f6, f7, f8⟩ := HFIT.out x (List.mem_of_getElem? hx)
      have HCP : Hid (∀ V, Frm [] wr V → Calls Tryz.prog 65 #[.agg #[.slice ta x.1.length tc, .slice la x.2.1.length lc, .bool x.2.2]] V (CopyEnd (w.heap.size :: F) x V)) := Lib.hid fun V hf => copyEntry_any V x ta la tc lc (xt.step (S.out.frm.trans hf (by simp)) (by simp) hcons) (xl.step (S.out.frm.trans hf (by simp)) (by simp) hcons) (fun k hk => by
        rcases List.mem_cons.1 hk with rfl | h9
        · exact Nat.lt_of_lt_of_le (S.out.lt 0 rfl (by simp [boxC])) hf.size
        · exact Nat.lt_of_lt_of_le (HF0.out k h9) (S.out.frm.trans hf (by simp)).size) f6 f7 f8
      clear f6 f7 f8 hcons
      have HXT := Lib.hid xt
      have HXL := Lib.hid xl
      rw [drop_cons hx] at hd
      unfold findE at hd
      rw [List.find?_cons] at hd
      clear x0 x1 x2 xt xl hx e1
      by_cases hxt : x.1 = t
      · have hdx : findE b t = some x := by
          unfold findE
          rw [← hd, decide_eq_true hxt]
        have HD := Lib.hid hdx
        rw [decide_eq_true hxt] at HC
        clear hd hxt hdx
        go_wp2_with fail
        refine (HC.out _ ((Frm.refl [] wr).alloc (.cells #[.slice ta x.1.length tc, .slice la x.2.1.length lc, .bool x.2.2] 69))).mono ?_
        rintro e5 w5 ⟨rfl, hf5⟩
        have S5 := Lib.hid ((S.out.box wr.heap.size rfl 69 [.slice ta x.1.length tc, .slice la x.2.1.length lc, .bool x.2.2] #[.slice ta x.1.length tc, .slice la x.2.1.length lc, .bool x.2.2] rfl).nil hf5)
        have r5 := (show RowAt w5 wr.heap.size 69 [.slice ta x.1.length tc, .slice la x.2.1.length lc, .bool x.2.2] from S5.out.at_ 0 rfl)
        have g0 := r5.cell (i := 0) rfl
        have g1 := r5.cell (i := 1) rfl
        have g2 := r5.cell (i := 2) rfl
        clear r5
        go_wp2_with (go_at_call 65; refine (HCP.out _ (((Frm.refl [] wr).alloc _).trans hf5 (by simp))).mono ?_; rintro e6 w6 ⟨ta6, tc6, la6, lc6, rfl, r6, s6, hf6⟩; have S6 := Lib.hid (S5.out.nil hf6); have r5 := (show RowAt w6 w.heap.size 69 [.slice none 0 0, .slice none 0 0, .bool false] from S6.out.at_ 1 rfl); have p0 := r5.cell (i := 0) rfl; have p1 := r5.cell (i := 1) rfl; have p2 := r5.cell (i := 2) rfl; have w0 := r5.frozen 0; have w1 := r5.frozen 1; have w2 := r5.frozen 2; clear r5)
        clear g0 g1 g2
        have SP := ((S6.out.putBox 1 rfl 0 (.slice ta6 x.1.length tc6)).putBox 1 rfl 1 (.slice la6 x.2.1.length lc6)).putBox 1 rfl 2 (.bool x.2.2)
        simp only [List.set_cons_zero, List.set_cons_succ] at SP
        have hfs := frm_set3 w6 w.heap.size (.slice ta6 x.1.length tc6) (.slice la6 x.2.1.length lc6) (.bool x.2.2)
        generalize World.setCell (World.setCell (World.setCell _ _ _) _ _) _ _ = W9 at *
        have rr : RowAt W9 w.heap.size 69 [.slice ta6 x.1.length tc6, .slice la6 x.2.1.length lc6, .bool x.2.2] := SP.at_ 1 rfl
        have e0 := rr.cell (i := 0) rfl
        have e1 := rr.cell (i := 1) rfl
        have e2 := rr.cell (i := 2) rfl
        refine bodyPost_ret (v := .tuple #[.agg #[.slice ta6 x.1.length tc6, .slice la6 x.2.1.length lc6, .bool x.2.2], .bool true]) (by simp [results, Tryz.results40, go_sem, e0, e1, e2]) rfl ?_
        refine ⟨?_, SP.frm⟩
        rw [HD.out]
        exact ⟨ta6, tc6, la6, lc6, rfl, r6.step hfs (fun k hk => .inl (by simp at hk; simp [hk])) (fun k hk => .inl (by simp [hk])), s6.step hfs (fun k hk => .inl (by simp at hk; simp [hk])) (fun k hk => .inl (by simp [hk]))⟩
      · have hdx : findE (b.drop (k + 1)) t = findE b t := by
          rw [decide_eq_false hxt] at hd
          exact hd
        have HD := Lib.hid hdx
        rw [decide_eq_false hxt] at HC
        clear hd hxt hdx HCP
        go_wp2_with (go_at_call 70; refine (HC.out _ ((Frm.refl [] wr).alloc _)).mono ?_; rintro e5 w5 ⟨rfl, hf5⟩)
        go_roundg (b.length - (k + 1))
        case rel => exact ⟨k + 1, rfl, by omega, by go_num, HD.out, S.out.nil (((Frm.refl [] wr).alloc _).trans hf5 (by simp))⟩
        case measure => have := HQ.out; omega
    · have i5 : ¬ (k : Int) < (b.length : Int) := by omega
      have HD : Hid (findE b t = none) := Lib.hid (by rw [← hd, List.drop_eq_nil_of_le (by omega)]; rfl)
      clear hd
      go_wp2_with fail
      have SP := ((S.out.putBox 0 rfl 0 (.slice none 0 0)).putBox 0 rfl 1 (.slice none 0 0)).putBox 0 rfl 2 (.bool false)
      simp only [List.set_cons_zero, List.set_cons_succ] at SP
      generalize World.setCell (World.setCell (World.setCell _ _ _) _ _) _ _ = W9 at *
      have rr : RowAt W9 w.heap.size 69 [.slice none 0 0, .slice none 0 0, .bool false] := SP.at_ 0 rfl
      have e0 := rr.cell (i := 0) rfl
      have e1 := rr.cell (i := 1) rfl
      have e2 := rr.cell (i := 2) rfl
      refine bodyPost_ret (v := .tuple #[.agg #[.slice none 0 0, .slice none 0 0, .bool false], .bool false]) (by simp [results, Tryz.results40, go_sem, e0, e1, e2]) rfl ?_
      refine ⟨?_, SP.frm⟩
      rw [HD.out]
end Go.Proofs.YtikpcipkkhmcfaaGreat.Beh
