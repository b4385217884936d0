/- Contract of Spoil. -/
import Derived.Test.YtikpcipkkhmcfaaGreatQ07
namespace Go.Proofs.YtikpcipkkhmcfaaGreat
open Go.RowKit

theorem ownr_one (w : World) (x y : Int) : OwnR w.heap.size (w.alloc (.cells #[.int .i64 x, .int .i64 y] 66)) (.slice (some ⟨w.heap.size, 0, none⟩) 1 1) [(x, y)] :=
  ⟨rfl, .inr ⟨w.heap.size, 1, #[.int .i64 x, .int .i64 y], rfl, Nat.le_refl _, heap_alloc_new w _, Nat.le_refl _, by decide, by simp, by simp [flatA]⟩⟩

set_option linter.unusedSimpArgs false in
set_option maxRecDepth 100000 in
set_option maxHeartbeats 4000000 in
theorem spoil_any (B tb N g : Nat) (l : Lts) (w : World) (hT : TapeOk B w tb N) (hB : B ≤ tb) (hN : N ≤ 900000) (h : MAt g w l) (hg : tb < g) (hl0 : 1 ≤ l.length) (hl1 : l.length ≤ 1000) (hl2 : ∀ row ∈ l, row.length ≤ 1000) :
    Calls Tryz.prog 14 #[.pointer (some ⟨tb, 0, none⟩), .agg #[.slice (some ⟨g, 0, none⟩) l.length l.length]] w fun e w' => SpoilEnd w' e ∧ TapeOk B w' tb (N + 4) ∧ Frm [tb] w w' := by
  have f1 : Frm [] w (w.alloc (.cells #[.slice (some ⟨g, 0, none⟩) l.length l.length] 25)) := (Frm.refl [] w).alloc _
  have f2 := f1.alloc (.cells #[.slice none 0 0] 25)
  have hbox := ((box1 w (.slice (some ⟨g, 0, none⟩) l.length l.length) 25).alloc (.cells #[.slice none 0 0] 25)).cell (i := 0) rfl
  have hres := (box1 (w.alloc (.cells #[.slice (some ⟨g, 0, none⟩) l.length l.length] 25)) (.slice none 0 0) 25)
  simp only [World.alloc, Array.size_push] at hres
  have hcopy := copy_any g l _ (h.frm f2 (by simp)) (by omega) (fun r hr => by have := hl2 r hr; omega)
  have HT := Lib.hid hT
  have HRES := Lib.hid hres
  have HF2 := Lib.hid f2
  have HCOPY := Lib.hid hcopy
  have hgl := h.lt
  have htl := hT.lt
  have HL2 := Lib.hid hl2
  clear h f1 f2 hbox hres hT hcopy hl2
  go_enter Tryz.func14, Tryz.ntmps14
  go_wp2_with fail
  refine HCOPY.out.mono ?_
  rintro e2 w2 ⟨⟨a2, cp2, xs2, rfl, hs2⟩, hf2⟩
  clear HCOPY
  have hsz2 := hf2.size
  simp only [World.alloc, Array.size_push] at hsz2
  have f3 : Frm [] w (w2.alloc (.cells #[.slice a2 l.length cp2] 25)) := (HF2.out.trans hf2 (by simp)).alloc _
  have hq := box1 w2 (.slice a2 l.length cp2) 25
  have hresc := ((HRES.out.frm hf2 (by simp)).alloc (.cells #[.slice a2 l.length cp2] 25))
  have hs3 := hs2.frm ((Frm.refl [] w2).alloc (.cells #[.slice a2 l.length cp2] 25)) (by simp)
  have hn4 := next_any B tb N l.length _ (HT.out.nil f3) hB (by omega) (by omega)
  have HQ := Lib.hid hq
  have HRC := Lib.hid hresc
  have HS3 := Lib.hid hs3
  have HN4 := Lib.hid hn4
  have HF3 := Lib.hid f3
  have e0 : ((l.length : Int) == 0) = false := by rw [beq_eq_false_iff_ne]; omega
  have i9 : (l.length : Int) ≤ 1000 := by omega
  have HS2 := Lib.hid hs2
  clear hq hresc hs3 hn4 f3 hs2
  go_wp2_with fail
  refine HN4.out.mono ?_
  rintro e4 w4 ⟨⟨v, rfl, hv, -⟩, hT4, hf4⟩
  have hv1 := hv (by omega)
  obtain ⟨s, rfl⟩ : ∃ s : Nat, v = (s : Int) := ⟨v.toNat, by omega⟩
  have hs : s < l.length := by omega
  clear hv hv1 HN4
  have hsz4 := hf4.size
  simp only [World.alloc, Array.size_push] at hsz4
  have htb4 : tb < w4.heap.size := by omega
  have c4 := hf4.cell (HQ.out.cell (i := 0) rfl) (by simp; omega)
  have C4 := Lib.hid c4
  have HT4 := Lib.hid (hT4.nil (Frm.refl [] w4).drew)
  have HT4A : Hid (TapeOk B (w4.alloc (.cells #[.int .i64 0, .int .i64 0] 66)).drew tb (N + 1)) := Lib.hid (hT4.nil ((Frm.refl [] w4).alloc _).drew)
  clear c4 hT4
  have c4' := C4.out
  go_upto_region 5 with fail
  go_cut [7] (fun s7 wx => ∃ (b7 : Nat) (x y : Int), s7 = .pointer (some ⟨b7, 0, none⟩) ∧ RowAt wx b7 66 [.int .i64 x, .int .i64 y] ∧ w4.heap.size ≤ b7 ∧ TapeOk B wx tb (N + 3) ∧ Frm [tb] w4 wx)
  case first =>
    go_region_held3 (fun w' => w'.cell? ⟨w2.heap.size, 0, none⟩ = some (.slice a2 l.length cp2)) (first | exact C4.out | exact hf5.cell C4.out (by simp; omega) | exact hf6.cell C4.out (by simp; omega) | exact ((Frm.refl [tb] w4).alloc _).cell C4.out (by simp; omega) | exact (hf5.alloc _).cell C4.out (by simp; omega) | exact (hf6.alloc _).cell C4.out (by simp; omega) | exact ((hf6.alloc _).setCell (.inr (by have := hf6.size; simp; omega)) _).cell C4.out (by simp; omega) | exact ((hf6.setCell (.inr (Nat.le_refl _)) _).setCell (.inr (Nat.le_refl _)) _).cell C4.out (by simp; omega) | exact ((hf6.setCell (.inr (by have := hf5.size; simp; omega)) _).setCell (.inr (by have := hf5.size; simp; omega)) _).cell C4.out (by simp; omega)) (first | (go_at_call 37; (with_reducible refine (event_any B tb (N + 1) _ HT4.out hB (by omega)).mono ?_); rintro e5 w5 ⟨⟨v5, rfl, hv5a, hv5b⟩, hT5, hf50⟩; have hf5 := ((Frm.refl [tb] w4).drew).trans hf50 (by simp)) | (go_at_call 37; (with_reducible refine (event_any B tb (N + 1) _ HT4A.out hB (by omega)).mono ?_); rintro e5 w5 ⟨⟨v5, rfl, hv5a, hv5b⟩, hT5, hf50⟩; have hf5 := ((Frm.refl [tb] w4).alloc _).drew.trans hf50 (by simp); have r7a := (RowAt.made w4 66 [.int .i64 0, .int .i64 0] #[.int .i64 0, .int .i64 0] rfl).drew.frm hf50 (by simp; omega)) | (go_at_call 12; (with_reducible refine (next_any B tb (N + 1 + 1) l.length _ hT5 hB (by omega) (by omega)).mono ?_); rintro e6 w6 ⟨⟨v6, rfl, hv6, -⟩, hT6, hf60⟩; have hf6 := hf5.trans hf60 (by simp); try (have r7b := r7a.frm hf60 (by simp; omega); have c70 := r7b.cell (i := 0) rfl; have c71 := r7b.cell (i := 1) rfl; have z70 := r7b.frozen 0; have z71 := r7b.frozen 1)) | (go_at_call 12; (with_reducible refine (next_any B tb (N + 1 + 1) l.length _ (hT5.nil ((Frm.refl [] _).alloc _)) hB (by omega) (by omega)).mono ?_); rintro e6 w6 ⟨⟨v6, rfl, hv6, -⟩, hT6, hf60⟩; have hf6 := (hf5.alloc _).trans hf60 (by simp); have r7b := (RowAt.made w5 66 [.int .i64 0, .int .i64 0] #[.int .i64 0, .int .i64 0] rfl).frm hf60 (by have := hf5.size; simp; omega); have c70 := r7b.cell (i := 0) rfl; have c71 := r7b.cell (i := 1) rfl; have z70 := r7b.frozen 0; have z71 := r7b.frozen 1))
    all_goals (go_wp2_with fail; go_meet)
    · exact ⟨w6.heap.size, v5, v6, rfl, RowAt.made _ _ _ _ rfl, hf6.size, hT6.nil ((Frm.refl [] w6).alloc _), hf6.alloc _⟩
    · exact ⟨w5.heap.size, v5, v6, rfl, (r7b.setCell 0 _).setCell 1 _, hf5.size, (hT6.frm ((Frm.refl [w5.heap.size] w6).setCell (.inl (by simp)) _) (by have := hf5.size; simp; omega) (by have := hf5.size; simp; omega)).frm ((Frm.refl [w5.heap.size] _).setCell (.inl (by simp)) _) (by have := hf5.size; simp; omega) (by have := hf5.size; simp; omega), (hf6.setCell (.inr hf5.size) _).setCell (.inr hf5.size) _⟩
    · exact ⟨w4.heap.size, v5, v6, rfl, (r7b.setCell 0 _).setCell 1 _, Nat.le_refl _, (hT6.frm ((Frm.refl [w4.heap.size] w6).setCell (.inl (by simp)) _) (by simp; omega) (by simp; omega)).frm ((Frm.refl [w4.heap.size] _).setCell (.inl (by simp)) _) (by simp; omega) (by simp; omega), (hf6.setCell (.inr (Nat.le_refl _)) _).setCell (.inr (Nat.le_refl _)) _⟩
  case rest =>
    obtain ⟨b7, x, y, rfl, hr7, hb7, hT7, hF7⟩ := hcut
    rename_i wx
    have hgo : ∃ go : Nat, a2 = some ⟨go, 0, none⟩ := by
      obtain ⟨go, cp, h1, _⟩ := owns_some (ownsB_mono HS2.out.out (Nat.zero_le _)) (by omega)
      exact ⟨go, by simp only [Value.slice.injEq] at h1; exact h1.1⟩
    obtain ⟨go, rfl⟩ := hgo
    have hgo1 := HS2.out.out.lt go rfl
    obtain ⟨hgo1, hgo2⟩ := hgo1
    simp only [World.alloc, Array.size_push] at hgo1
    obtain ⟨row, hrow⟩ : ∃ row, l[s]? = some row := ⟨_, List.getElem?_eq_getElem hs⟩
    obtain ⟨rg, rc, hxs, hrown2⟩ := HS2.out.row s row hrow
    have hrg1 := hrown2.lt rg rfl
    obtain ⟨hrg1, hrg2⟩ := hrg1
    simp only [World.alloc, Array.size_push] at hrg1
    have hrgo : go ≠ rg := fun e => HS2.out.sep s _ hxs rg rfl (by rw [← e]; rfl)
    have hrl := HL2.out row (List.mem_of_getElem? hrow)
    have hsz7 := hF7.size
    have HT7 := Lib.hid hT7
    have HR7 := Lib.hid hr7
    have HF7 := Lib.hid hF7
    have HROW := Lib.hid hrow
    have HXS := Lib.hid hxs
    clear hT7 hr7 hF7 hrow hxs hrown2
    go_wp2_with fail
    refine (next_any B tb (N + 3) 7 _ HT7.out hB (by omega) (by omega)).mono ?_
    rintro e8 w8 ⟨⟨v, rfl, hv, -⟩, hT8, hf8⟩
    have q8 := HF7.out.trans hf8 (by simp)
    have HS8 := Lib.hid (((HS3.out.frm hf4 (by simp; omega)).frm q8 (by simp; omega)))
    have HC8 := Lib.hid (q8.cell C4.out (by simp; omega))
    have HR8 := Lib.hid (HR7.out.frm hf8 (by simp; omega))
    have HRES8 := Lib.hid (((HRC.out.frm hf4 (by simp; omega)).frm q8 (by simp; omega)))
    have HFW8 := Lib.hid ((((HF3.out.mono (fq := [tb]) (by simp)).trans hf4 (by simp))).trans q8 (by simp))
    have HT8 := Lib.hid hT8
    have hsz8 := q8.size
    have hrown8 : OwnR (w.heap.size + 1 + 1) w8 (.slice (some ⟨rg, 0, none⟩) row.length rc) row := by
      obtain ⟨g', rc', h1, h2⟩ := HS8.out.row s row HROW.out
      rw [HXS.out] at h1
      simp only [Option.some.injEq, Value.slice.injEq, Addr.mk.injEq, and_true, true_and] at h1
      obtain ⟨rfl, rfl⟩ := h1
      have := h2
      simp only [World.alloc, Array.size_push] at this
      exact this
    have hout8 : RowAt w8 go 63 xs2 := by
      obtain ⟨g', cp', h1, _, _, h2⟩ := owns_some (ownsB_mono HS8.out.out (Nat.zero_le _)) (by omega)
      simp only [Value.slice.injEq, Option.some.injEq, Addr.mk.injEq, and_true, true_and] at h1
      obtain ⟨rfl, rfl⟩ := h1
      exact h2
    have HRO8 := Lib.hid hrown8
    have HOUT8 := Lib.hid hout8
    have hs8' : SysO (w.heap.size + 1 + 1) w8 (some ⟨go, 0, none⟩) cp2 l xs2 := by
      have := HS8.out
      simp only [World.alloc, Array.size_push] at this
      exact this
    have HSY := Lib.hid hs8'
    have oc8 := hout8.cell HXS.out
    have HOC8 := Lib.hid oc8
    have hv7 := hv (by decide)
    have h7 : v = 0 ∨ v = 1 ∨ v = 2 ∨ v = 3 ∨ v = 4 ∨ v = 5 ∨ v = 6 := by omega
    have i4 : (0 : Int) ≤ (s : Int) := by omega
    have i6 : (s : Int) < (l.length : Int) := by omega
    have hwrap : IntKind.i64.wrap (s : Int) = (s : Int) := IntWalk.i64_in _ (by omega)
    clear hf2 hf4 hf8 q8 hT8 hv hv7 hrown8 hout8 hs8' oc8 c4'
    rcases h7 with rfl | rfl | rfl | rfl | rfl | rfl | rfl
    · have rc0 := HRES8.out.cell (i := 0) rfl
      have rz0 := HRES8.out.frozen 0
      go_wp2_with fail
      have hcs := World.cell?_setCell_same' w8 ⟨w.heap.size + 1, 0, none⟩ (.slice none 0 0) (by rw [rc0]; rfl)
      refine bodyPost_ret (v := .agg #[.slice none 0 0]) (by simp [results, Tryz.results14, go_sem]; rw [hcs]; rfl) rfl ?_
      have hset : Frm [w.heap.size + 1] w8 (w8.setCell ⟨w.heap.size + 1, 0, none⟩ (.slice none 0 0)) := (Frm.refl _ _).setCell (.inl (by simp)) _
      refine ⟨⟨none, 0, [], rfl, ⟨Nat.le_refl _, Nat.zero_le _, Nat.zero_le _, by simp⟩⟩, HT8.out.frm hset (by simp; omega) (by simp; omega), ?_⟩
      have := (HFW8.out.mono (fq := [tb, w.heap.size + 1]) (by simp)).trans hset (by simp)
      exact ⟨this.os, this.tape, this.output, this.size, fun q hq hn => this.block q hq (by simp at hn ⊢; omega)⟩
    · go_wp2_with fail
      refine' wp_region_last (L := 14) _ (fun w' => w'.cell? ⟨w2.heap.size, 0, none⟩ = some (.slice (some ⟨go, 0, none⟩) l.length cp2) ∧ w'.cell? ⟨go, s, none⟩ = some (.slice (some ⟨rg, 0, none⟩) row.length rc) ∧ w'.cell? ⟨b7, 0, none⟩ = some (.int .i64 x) ∧ w'.cell? ⟨b7, 1, none⟩ = some (.int .i64 y)) (by kernel_rfl) rfl rfl rfl rfl ?he (by kernel_rfl) (by kernel_rfl) ?hS ?h
      case he =>
        simp only [nopOf, List.getElem_toArray, List.getElem_cons_succ, List.getElem_cons_zero, List.setIfInBounds_toArray, List.set_cons_succ, List.set_cons_zero]
        rfl
      case hS => exact ⟨HC8.out, HOC8.out, HR8.out.cell (i := 0) rfl, HR8.out.cell (i := 1) rfl⟩
      intro hHeld
      refine wpAnyH_take (i := 0) (v := ?_) rfl (by kernel_rfl) (by kernel_rfl) (by kernel_rfl) (fun _ _ _ h => h) (Or.inl ⟨by rfl, ?_⟩) (by assumption) ?_
      rotate_left
      · intro w9 hS9
        try dsimp only at hS9
        go_split_ands
        go_simp
        try with_reducible rfl
      try simp only [Act.put, List.getElem_toArray, List.getElem_cons_succ, List.getElem_cons_zero, List.setIfInBounds_toArray, List.set_cons_zero, List.set_cons_succ]
      refine wpAnyH_take (i := 1) (v := ?_) rfl (by kernel_rfl) (by kernel_rfl) (by kernel_rfl) (fun _ _ _ h => h) (Or.inl ⟨by rfl, ?_⟩) (by assumption) ?_
      rotate_left
      · intro w9 hS9
        try dsimp only at hS9
        go_split_ands
        go_simp
        try with_reducible rfl
      try simp only [Act.put, List.getElem_toArray, List.getElem_cons_succ, List.getElem_cons_zero, List.setIfInBounds_toArray, List.set_cons_zero, List.set_cons_succ]
      refine wpAnyH_take (i := 2) (v := ?_) rfl (by kernel_rfl) (by kernel_rfl) (by kernel_rfl) (fun _ _ _ h => h) (Or.inl ⟨by rfl, ?_⟩) (by assumption) ?_
      rotate_left
      · intro w9 hS9
        try dsimp only at hS9
        go_split_ands
        go_simp
        try with_reducible rfl
      try simp only [Act.put, List.getElem_toArray, List.getElem_cons_succ, List.getElem_cons_zero, List.setIfInBounds_toArray, List.set_cons_zero, List.set_cons_succ]
      refine wpAnyH_take (i := 3) (v := ?_) rfl (by kernel_rfl) (by kernel_rfl) (by kernel_rfl) (fun _ _ _ h => h) (Or.inl ⟨by rfl, ?_⟩) (by assumption) ?_
      rotate_left
      · intro w9 hS9
        try dsimp only at hS9
        go_split_ands
        go_simp
        try with_reducible rfl
      try simp only [Act.put, List.getElem_toArray, List.getElem_cons_succ, List.getElem_cons_zero, List.setIfInBounds_toArray, List.set_cons_zero, List.set_cons_succ]
      refine wpAnyH_take (i := 4) (v := ?_) rfl (by kernel_rfl) (by kernel_rfl) (by kernel_rfl) (fun _ _ _ h => h) (Or.inl ⟨by rfl, ?_⟩) (by assumption) ?_
      rotate_left
      · intro w9 hS9
        try dsimp only at hS9
        go_split_ands
        go_simp
        try with_reducible rfl
      try simp only [Act.put, List.getElem_toArray, List.getElem_cons_succ, List.getElem_cons_zero, List.setIfInBounds_toArray, List.set_cons_zero, List.set_cons_succ]
      refine wpAnyH_take (i := 5) (v := ?_) rfl (by kernel_rfl) (by kernel_rfl) (by kernel_rfl) (fun _ _ _ h => h) (Or.inl ⟨by rfl, ?_⟩) (by assumption) ?_
      rotate_left
      · intro w9 hS9
        try dsimp only at hS9
        go_split_ands
        go_simp
        try with_reducible rfl
      try simp only [Act.put, List.getElem_toArray, List.getElem_cons_succ, List.getElem_cons_zero, List.setIfInBounds_toArray, List.set_cons_zero, List.set_cons_succ]
      refine wpAnyH_take (i := 6) (v := ?_) rfl (by kernel_rfl) (by kernel_rfl) (by kernel_rfl) (fun _ _ _ h => h) (Or.inl ⟨by rfl, ?_⟩) (by assumption) ?_
      rotate_left
      · intro w9 hS9
        try dsimp only at hS9
        go_split_ands
        go_simp
        try with_reducible rfl
      try simp only [Act.put, List.getElem_toArray, List.getElem_cons_succ, List.getElem_cons_zero, List.setIfInBounds_toArray, List.set_cons_zero, List.set_cons_succ]
      refine wpAnyH_take (i := 7) (v := ?_) rfl (by kernel_rfl) (by kernel_rfl) (by kernel_rfl) (fun _ _ _ h => h) (Or.inl ⟨by rfl, ?_⟩) (by assumption) ?_
      rotate_left
      · intro w9 hS9
        try dsimp only at hS9
        go_split_ands
        go_simp
        try with_reducible rfl
      try simp only [Act.put, List.getElem_toArray, List.getElem_cons_succ, List.getElem_cons_zero, List.setIfInBounds_toArray, List.set_cons_zero, List.set_cons_succ]
      refine wpAnyH_take (i := 8) (v := ?_) rfl (by kernel_rfl) (by kernel_rfl) (by kernel_rfl) (fun _ _ _ h => h) (Or.inl ⟨by rfl, ?_⟩) (by assumption) ?_
      rotate_left
      · intro w9 hS9
        try dsimp only at hS9
        go_split_ands
        go_simp
        try with_reducible rfl
      try simp only [Act.put, List.getElem_toArray, List.getElem_cons_succ, List.getElem_cons_zero, List.setIfInBounds_toArray, List.set_cons_zero, List.set_cons_succ]
      refine wpAnyH_take (i := 9) (v := ?_) rfl (by kernel_rfl) (by kernel_rfl) (by kernel_rfl) (fun _ _ _ h => h) (Or.inl ⟨by rfl, ?_⟩) (by assumption) ?_
      rotate_left
      · intro w9 hS9
        try dsimp only at hS9
        go_split_ands
        go_simp
        try with_reducible rfl
      try simp only [Act.put, List.getElem_toArray, List.getElem_cons_succ, List.getElem_cons_zero, List.setIfInBounds_toArray, List.set_cons_zero, List.set_cons_succ]
      refine wpAnyH_take (i := 10) (v := ?_) rfl (by kernel_rfl) (by kernel_rfl) (by kernel_rfl) (fun _ _ _ h => h) (Or.inl ⟨by rfl, ?_⟩) (by assumption) ?_
      rotate_left
      · intro w9 hS9
        try dsimp only at hS9
        go_split_ands
        go_simp
        try with_reducible rfl
      try simp only [Act.put, List.getElem_toArray, List.getElem_cons_succ, List.getElem_cons_zero, List.setIfInBounds_toArray, List.set_cons_zero, List.set_cons_succ]
      refine wpAnyH_ready (rs := [11]) (by kernel_rfl) (by simp) ?_
      refine AllReadyH.cons rfl (fun K hK => ?_) AllReadyH.nil
      go_simp
      have q11 : Frm [] w8 (w8.alloc (.cells #[.int .i64 (-1), .int .i64 y] 66)).drew := ((Frm.refl _ _).alloc _).drew
      have Q11 := Lib.hid q11
      clear q11
      refine hK.out _ _ ?_ (fun hHeld => ?_)
      · exact ⟨Q11.out.cell HC8.out (by simp), Q11.out.cell HOC8.out (by simp), Q11.out.cell (HR8.out.cell (i := 0) rfl) (by simp), Q11.out.cell (HR8.out.cell (i := 1) rfl) (by simp)⟩
      clear hK K
      try simp only [Act.put, List.getElem_toArray, List.getElem_cons_succ, List.getElem_cons_zero, List.setIfInBounds_toArray, List.set_cons_zero, List.set_cons_succ]
      have hl9 : (row ++ [(((-1) : Int), (y : Int))]).length = row.length + 1 := by rw [List.length_append]; rfl
      have HL9 := Lib.hid hl9
      clear hl9
      refine wpAnyH_ready (rs := [12]) (by kernel_rfl) (by simp) ?_
      refine AllReadyH.cons rfl (fun K hK => ?_) AllReadyH.nil
      refine step_app_arcs rfl (.tmp 57) (.tmp 61) rfl (w.heap.size + 1 + 1) row.length (row.length + 1) (.slice (some ⟨rg, 0, none⟩) row.length rc) row rfl (owns_drew (HRO8.out.alloc _)) rfl ⟨w8.heap.size, 0, none⟩ 1 1 [((-1), y)] rfl rfl (cells_new w8 [.int .i64 (-1), .int .i64 y] _) rfl (by omega) (by simp; omega) (by simp) (w8.heap.size + 1) (by simp) ?_
      intro g12 cp12 w12 hown12 hf12 hg12 hlt12
      have q12 := hf12 [rg] w8 (by intro k9 hk9; left; simp [Value.ownBlock] at hk9; simp [hk9]) (Q11.out.mono (by simp))
      clear hf12
      refine hK.out _ _ ?_ (fun hHeld => ?_)
      · exact ⟨q12.cell HC8.out (by simp; omega), q12.cell HOC8.out (by simp; omega), q12.cell (HR8.out.cell (i := 0) rfl) (by simp; omega), q12.cell (HR8.out.cell (i := 1) rfl) (by simp; omega)⟩
      clear hK K
      try simp only [Act.put, List.getElem_toArray, List.getElem_cons_succ, List.getElem_cons_zero, List.setIfInBounds_toArray, List.set_cons_zero, List.set_cons_succ]
      refine wpAnyH_take (i := 13) (v := ?_) rfl (by kernel_rfl) (by kernel_rfl) (by kernel_rfl) (fun _ _ _ h => h) (Or.inl ⟨by rfl, ?_⟩) (by assumption) ?_
      rotate_left
      · intro w9 hS9
        try dsimp only at hS9
        go_split_ands
        go_simp
        try with_reducible rfl
      try simp only [Act.put, List.getElem_toArray, List.getElem_cons_succ, List.getElem_cons_zero, List.setIfInBounds_toArray, List.set_cons_zero, List.set_cons_succ]
      refine wpAnyH_take (i := 14) (v := ?_) rfl (by kernel_rfl) (by kernel_rfl) (by kernel_rfl) (fun _ _ _ h => h) (Or.inl ⟨by rfl, ?_⟩) (by assumption) ?_
      rotate_left
      · intro w9 hS9
        try dsimp only at hS9
        go_split_ands
        go_simp
        try with_reducible rfl
      try simp only [Act.put, List.getElem_toArray, List.getElem_cons_succ, List.getElem_cons_zero, List.setIfInBounds_toArray, List.set_cons_zero, List.set_cons_succ]
      have hput := SysO.put HSY.out HROW.out HXS.out (row' := row ++ [((-1), y)]) (by rw [HL9.out]; exact hown12) q12 (by rcases hg12 with h9 | h9; exact .inl (by simpa [Value.ownBlock] using h9.symm); exact .inr (by omega))
      rw [HL9.out] at hput
      have qz : Frm [rg, go] w8 (w12.setCell ⟨go, s, none⟩ (.slice (some ⟨g12, 0, none⟩) (row.length + 1) cp12)) := (q12.mono (fq := [rg, go]) (by simp)).setCell (.inl (by simp)) _
      have c5z := qz.cell HC8.out (by simp; omega)
      have resz := HRES8.out.frm qz (by simp; omega)
      have rc0 := resz.cell (i := 0) rfl
      have rz0 := resz.frozen 0
      have z12 : w12.frozen? ⟨go, s, none⟩ = false := (HOUT8.out.frm q12 (by simp; omega)).frozen s
      have oc12 := (HOUT8.out.frm q12 (by simp; omega)).cell HXS.out
      have HPUT := Lib.hid hput
      have HQZ := Lib.hid qz
      have HRESZ := Lib.hid resz
      clear hput resz hown12
      refine wpAnyH_done (by kernel_rfl) ?_ _
      refine Qt.last rfl rfl ?_
      simp only [List.getElem_toArray, List.getElem_cons_succ, List.getElem_cons_zero]
      clear qz hHeld
      go_simp
      generalize (w12.setCell ⟨go, s, none⟩ (.slice (some ⟨g12, 0, none⟩) (row.length + 1) cp12)) = wz at *
      go_wp2_with fail
      have hcs := World.cell?_setCell_same' wz ⟨w.heap.size + 1, 0, none⟩ (.slice (some ⟨go, 0, none⟩) l.length cp2) (by rw [rc0]; rfl)
      refine bodyPost_ret (v := .agg #[.slice (some ⟨go, 0, none⟩) l.length cp2]) (by simp [results, Tryz.results14, go_sem]; rw [hcs]; rfl) rfl ?_
      have hset : Frm [w.heap.size + 1] wz (wz.setCell ⟨w.heap.size + 1, 0, none⟩ (.slice (some ⟨go, 0, none⟩) l.length cp2)) := (Frm.refl _ _).setCell (.inl (by simp)) _
      refine ⟨⟨some ⟨go, 0, none⟩, cp2, _, by rw [List.length_set], (HPUT.out.frm hset (by simp)).lat (by rw [List.length_set]; omega) (fun r hr => ?_)⟩, (HT8.out.frm HQZ.out (by simp; omega) (by simp; omega)).frm hset (by simp; omega) (by simp; omega), ?_⟩
      · rcases List.mem_or_eq_of_mem_set hr with h9 | h9
        · have := HL2.out r h9; omega
        · rw [h9, HL9.out]; omega
      · have := (HFW8.out.mono (fq := [tb, rg, go, w.heap.size + 1]) (by simp)).trans ((HQZ.out.mono (fq := [tb, rg, go, w.heap.size + 1]) (by simp)).trans hset (by simp)) (by simp)
        exact ⟨this.os, this.tape, this.output, this.size, fun q hq hn => this.block q hq (by simp at hn ⊢; omega)⟩
    · go_wp2_with fail
      refine' wp_region_last (L := 14) _ (fun w' => w'.cell? ⟨w2.heap.size, 0, none⟩ = some (.slice (some ⟨go, 0, none⟩) l.length cp2) ∧ w'.cell? ⟨go, s, none⟩ = some (.slice (some ⟨rg, 0, none⟩) row.length rc) ∧ w'.cell? ⟨b7, 0, none⟩ = some (.int .i64 x) ∧ w'.cell? ⟨b7, 1, none⟩ = some (.int .i64 y)) (by kernel_rfl) rfl rfl rfl rfl ?he (by kernel_rfl) (by kernel_rfl) ?hS ?h
      case he =>
        simp only [nopOf, List.getElem_toArray, List.getElem_cons_succ, List.getElem_cons_zero, List.setIfInBounds_toArray, List.set_cons_succ, List.set_cons_zero]
        rfl
      case hS => exact ⟨HC8.out, HOC8.out, HR8.out.cell (i := 0) rfl, HR8.out.cell (i := 1) rfl⟩
      intro hHeld
      refine wpAnyH_take (i := 0) (v := ?_) rfl (by kernel_rfl) (by kernel_rfl) (by kernel_rfl) (fun _ _ _ h => h) (Or.inl ⟨by rfl, ?_⟩) (by assumption) ?_
      rotate_left
      · intro w9 hS9
        try dsimp only at hS9
        go_split_ands
        go_simp
        try with_reducible rfl
      try simp only [Act.put, List.getElem_toArray, List.getElem_cons_succ, List.getElem_cons_zero, List.setIfInBounds_toArray, List.set_cons_zero, List.set_cons_succ]
      refine wpAnyH_take (i := 1) (v := ?_) rfl (by kernel_rfl) (by kernel_rfl) (by kernel_rfl) (fun _ _ _ h => h) (Or.inl ⟨by rfl, ?_⟩) (by assumption) ?_
      rotate_left
      · intro w9 hS9
        try dsimp only at hS9
        go_split_ands
        go_simp
        try with_reducible rfl
      try simp only [Act.put, List.getElem_toArray, List.getElem_cons_succ, List.getElem_cons_zero, List.setIfInBounds_toArray, List.set_cons_zero, List.set_cons_succ]
      refine wpAnyH_take (i := 2) (v := ?_) rfl (by kernel_rfl) (by kernel_rfl) (by kernel_rfl) (fun _ _ _ h => h) (Or.inl ⟨by rfl, ?_⟩) (by assumption) ?_
      rotate_left
      · intro w9 hS9
        try dsimp only at hS9
        go_split_ands
        go_simp
        try with_reducible rfl
      try simp only [Act.put, List.getElem_toArray, List.getElem_cons_succ, List.getElem_cons_zero, List.setIfInBounds_toArray, List.set_cons_zero, List.set_cons_succ]
      refine wpAnyH_take (i := 3) (v := ?_) rfl (by kernel_rfl) (by kernel_rfl) (by kernel_rfl) (fun _ _ _ h => h) (Or.inl ⟨by rfl, ?_⟩) (by assumption) ?_
      rotate_left
      · intro w9 hS9
        try dsimp only at hS9
        go_split_ands
        go_simp
        try with_reducible rfl
      try simp only [Act.put, List.getElem_toArray, List.getElem_cons_succ, List.getElem_cons_zero, List.setIfInBounds_toArray, List.set_cons_zero, List.set_cons_succ]
      refine wpAnyH_take (i := 4) (v := ?_) rfl (by kernel_rfl) (by kernel_rfl) (by kernel_rfl) (fun _ _ _ h => h) (Or.inl ⟨by rfl, ?_⟩) (by assumption) ?_
      rotate_left
      · intro w9 hS9
        try dsimp only at hS9
        go_split_ands
        go_simp
        try with_reducible rfl
      try simp only [Act.put, List.getElem_toArray, List.getElem_cons_succ, List.getElem_cons_zero, List.setIfInBounds_toArray, List.set_cons_zero, List.set_cons_succ]
      refine wpAnyH_take (i := 5) (v := ?_) rfl (by kernel_rfl) (by kernel_rfl) (by kernel_rfl) (fun _ _ _ h => h) (Or.inl ⟨by rfl, ?_⟩) (by assumption) ?_
      rotate_left
      · intro w9 hS9
        try dsimp only at hS9
        go_split_ands
        go_simp
        try with_reducible rfl
      try simp only [Act.put, List.getElem_toArray, List.getElem_cons_succ, List.getElem_cons_zero, List.setIfInBounds_toArray, List.set_cons_zero, List.set_cons_succ]
      refine wpAnyH_take (i := 6) (v := ?_) rfl (by kernel_rfl) (by kernel_rfl) (by kernel_rfl) (fun _ _ _ h => h) (Or.inl ⟨by rfl, ?_⟩) (by assumption) ?_
      rotate_left
      · intro w9 hS9
        try dsimp only at hS9
        go_split_ands
        go_simp
        try with_reducible rfl
      try simp only [Act.put, List.getElem_toArray, List.getElem_cons_succ, List.getElem_cons_zero, List.setIfInBounds_toArray, List.set_cons_zero, List.set_cons_succ]
      refine wpAnyH_take (i := 7) (v := ?_) rfl (by kernel_rfl) (by kernel_rfl) (by kernel_rfl) (fun _ _ _ h => h) (Or.inl ⟨by rfl, ?_⟩) (by assumption) ?_
      rotate_left
      · intro w9 hS9
        try dsimp only at hS9
        go_split_ands
        go_simp
        try with_reducible rfl
      try simp only [Act.put, List.getElem_toArray, List.getElem_cons_succ, List.getElem_cons_zero, List.setIfInBounds_toArray, List.set_cons_zero, List.set_cons_succ]
      refine wpAnyH_take (i := 8) (v := ?_) rfl (by kernel_rfl) (by kernel_rfl) (by kernel_rfl) (fun _ _ _ h => h) (Or.inl ⟨by rfl, ?_⟩) (by assumption) ?_
      rotate_left
      · intro w9 hS9
        try dsimp only at hS9
        go_split_ands
        go_simp
        try with_reducible rfl
      try simp only [Act.put, List.getElem_toArray, List.getElem_cons_succ, List.getElem_cons_zero, List.setIfInBounds_toArray, List.set_cons_zero, List.set_cons_succ]
      refine wpAnyH_take (i := 9) (v := ?_) rfl (by kernel_rfl) (by kernel_rfl) (by kernel_rfl) (fun _ _ _ h => h) (Or.inl ⟨by rfl, ?_⟩) (by assumption) ?_
      rotate_left
      · intro w9 hS9
        try dsimp only at hS9
        go_split_ands
        go_simp
        try with_reducible rfl
      try simp only [Act.put, List.getElem_toArray, List.getElem_cons_succ, List.getElem_cons_zero, List.setIfInBounds_toArray, List.set_cons_zero, List.set_cons_succ]
      refine wpAnyH_take (i := 10) (v := ?_) rfl (by kernel_rfl) (by kernel_rfl) (by kernel_rfl) (fun _ _ _ h => h) (Or.inl ⟨by rfl, ?_⟩) (by assumption) ?_
      rotate_left
      · intro w9 hS9
        try dsimp only at hS9
        go_split_ands
        go_simp
        try with_reducible rfl
      try simp only [Act.put, List.getElem_toArray, List.getElem_cons_succ, List.getElem_cons_zero, List.setIfInBounds_toArray, List.set_cons_zero, List.set_cons_succ]
      refine wpAnyH_ready (rs := [11]) (by kernel_rfl) (by simp) ?_
      refine AllReadyH.cons rfl (fun K hK => ?_) AllReadyH.nil
      go_simp
      have q11 : Frm [] w8 (w8.alloc (.cells #[.int .i64 1026, .int .i64 y] 66)).drew := ((Frm.refl _ _).alloc _).drew
      have Q11 := Lib.hid q11
      clear q11
      refine hK.out _ _ ?_ (fun hHeld => ?_)
      · exact ⟨Q11.out.cell HC8.out (by simp), Q11.out.cell HOC8.out (by simp), Q11.out.cell (HR8.out.cell (i := 0) rfl) (by simp), Q11.out.cell (HR8.out.cell (i := 1) rfl) (by simp)⟩
      clear hK K
      try simp only [Act.put, List.getElem_toArray, List.getElem_cons_succ, List.getElem_cons_zero, List.setIfInBounds_toArray, List.set_cons_zero, List.set_cons_succ]
      have hl9 : (row ++ [((1026 : Int), (y : Int))]).length = row.length + 1 := by rw [List.length_append]; rfl
      have HL9 := Lib.hid hl9
      clear hl9
      refine wpAnyH_ready (rs := [12]) (by kernel_rfl) (by simp) ?_
      refine AllReadyH.cons rfl (fun K hK => ?_) AllReadyH.nil
      refine step_app_arcs rfl (.tmp 73) (.tmp 77) rfl (w.heap.size + 1 + 1) row.length (row.length + 1) (.slice (some ⟨rg, 0, none⟩) row.length rc) row rfl (owns_drew (HRO8.out.alloc _)) rfl ⟨w8.heap.size, 0, none⟩ 1 1 [(1026, y)] rfl rfl (cells_new w8 [.int .i64 1026, .int .i64 y] _) rfl (by omega) (by simp; omega) (by simp) (w8.heap.size + 1) (by simp) ?_
      intro g12 cp12 w12 hown12 hf12 hg12 hlt12
      have q12 := hf12 [rg] w8 (by intro k9 hk9; left; simp [Value.ownBlock] at hk9; simp [hk9]) (Q11.out.mono (by simp))
      clear hf12
      refine hK.out _ _ ?_ (fun hHeld => ?_)
      · exact ⟨q12.cell HC8.out (by simp; omega), q12.cell HOC8.out (by simp; omega), q12.cell (HR8.out.cell (i := 0) rfl) (by simp; omega), q12.cell (HR8.out.cell (i := 1) rfl) (by simp; omega)⟩
      clear hK K
      try simp only [Act.put, List.getElem_toArray, List.getElem_cons_succ, List.getElem_cons_zero, List.setIfInBounds_toArray, List.set_cons_zero, List.set_cons_succ]
      refine wpAnyH_take (i := 13) (v := ?_) rfl (by kernel_rfl) (by kernel_rfl) (by kernel_rfl) (fun _ _ _ h => h) (Or.inl ⟨by rfl, ?_⟩) (by assumption) ?_
      rotate_left
      · intro w9 hS9
        try dsimp only at hS9
        go_split_ands
        go_simp
        try with_reducible rfl
      try simp only [Act.put, List.getElem_toArray, List.getElem_cons_succ, List.getElem_cons_zero, List.setIfInBounds_toArray, List.set_cons_zero, List.set_cons_succ]
      refine wpAnyH_take (i := 14) (v := ?_) rfl (by kernel_rfl) (by kernel_rfl) (by kernel_rfl) (fun _ _ _ h => h) (Or.inl ⟨by rfl, ?_⟩) (by assumption) ?_
      rotate_left
      · intro w9 hS9
        try dsimp only at hS9
        go_split_ands
        go_simp
        try with_reducible rfl
      try simp only [Act.put, List.getElem_toArray, List.getElem_cons_succ, List.getElem_cons_zero, List.setIfInBounds_toArray, List.set_cons_zero, List.set_cons_succ]
      have hput := SysO.put HSY.out HROW.out HXS.out (row' := row ++ [(1026, y)]) (by rw [HL9.out]; exact hown12) q12 (by rcases hg12 with h9 | h9; exact .inl (by simpa [Value.ownBlock] using h9.symm); exact .inr (by omega))
      rw [HL9.out] at hput
      have qz : Frm [rg, go] w8 (w12.setCell ⟨go, s, none⟩ (.slice (some ⟨g12, 0, none⟩) (row.length + 1) cp12)) := (q12.mono (fq := [rg, go]) (by simp)).setCell (.inl (by simp)) _
      have c5z := qz.cell HC8.out (by simp; omega)
      have resz := HRES8.out.frm qz (by simp; omega)
      have rc0 := resz.cell (i := 0) rfl
      have rz0 := resz.frozen 0
      have z12 : w12.frozen? ⟨go, s, none⟩ = false := (HOUT8.out.frm q12 (by simp; omega)).frozen s
      have oc12 := (HOUT8.out.frm q12 (by simp; omega)).cell HXS.out
      have HPUT := Lib.hid hput
      have HQZ := Lib.hid qz
      have HRESZ := Lib.hid resz
      clear hput resz hown12
      refine wpAnyH_done (by kernel_rfl) ?_ _
      refine Qt.last rfl rfl ?_
      simp only [List.getElem_toArray, List.getElem_cons_succ, List.getElem_cons_zero]
      clear qz hHeld
      go_simp
      generalize (w12.setCell ⟨go, s, none⟩ (.slice (some ⟨g12, 0, none⟩) (row.length + 1) cp12)) = wz at *
      go_wp2_with fail
      have hcs := World.cell?_setCell_same' wz ⟨w.heap.size + 1, 0, none⟩ (.slice (some ⟨go, 0, none⟩) l.length cp2) (by rw [rc0]; rfl)
      refine bodyPost_ret (v := .agg #[.slice (some ⟨go, 0, none⟩) l.length cp2]) (by simp [results, Tryz.results14, go_sem]; rw [hcs]; rfl) rfl ?_
      have hset : Frm [w.heap.size + 1] wz (wz.setCell ⟨w.heap.size + 1, 0, none⟩ (.slice (some ⟨go, 0, none⟩) l.length cp2)) := (Frm.refl _ _).setCell (.inl (by simp)) _
      refine ⟨⟨some ⟨go, 0, none⟩, cp2, _, by rw [List.length_set], (HPUT.out.frm hset (by simp)).lat (by rw [List.length_set]; omega) (fun r hr => ?_)⟩, (HT8.out.frm HQZ.out (by simp; omega) (by simp; omega)).frm hset (by simp; omega) (by simp; omega), ?_⟩
      · rcases List.mem_or_eq_of_mem_set hr with h9 | h9
        · have := HL2.out r h9; omega
        · rw [h9, HL9.out]; omega
      · have := (HFW8.out.mono (fq := [tb, rg, go, w.heap.size + 1]) (by simp)).trans ((HQZ.out.mono (fq := [tb, rg, go, w.heap.size + 1]) (by simp)).trans hset (by simp)) (by simp)
        exact ⟨this.os, this.tape, this.output, this.size, fun q hq hn => this.block q hq (by simp at hn ⊢; omega)⟩
    · go_wp2_with fail
      refine' wp_region_last (L := 17) _ (fun w' => w'.cell? ⟨w2.heap.size, 0, none⟩ = some (.slice (some ⟨go, 0, none⟩) l.length cp2) ∧ w'.cell? ⟨go, s, none⟩ = some (.slice (some ⟨rg, 0, none⟩) row.length rc) ∧ w'.cell? ⟨b7, 0, none⟩ = some (.int .i64 x) ∧ w'.cell? ⟨b7, 1, none⟩ = some (.int .i64 y)) (by kernel_rfl) rfl rfl rfl rfl ?he (by kernel_rfl) (by kernel_rfl) ?hS ?h
      case he =>
        simp only [nopOf, List.getElem_toArray, List.getElem_cons_succ, List.getElem_cons_zero, List.setIfInBounds_toArray, List.set_cons_succ, List.set_cons_zero]
        rfl
      case hS => exact ⟨HC8.out, HOC8.out, HR8.out.cell (i := 0) rfl, HR8.out.cell (i := 1) rfl⟩
      intro hHeld
      refine wpAnyH_take (i := 0) (v := ?_) rfl (by kernel_rfl) (by kernel_rfl) (by kernel_rfl) (fun _ _ _ h => h) (Or.inl ⟨by rfl, ?_⟩) (by assumption) ?_
      rotate_left
      · intro w9 hS9
        try dsimp only at hS9
        go_split_ands
        go_simp
        try with_reducible rfl
      try simp only [Act.put, List.getElem_toArray, List.getElem_cons_succ, List.getElem_cons_zero, List.setIfInBounds_toArray, List.set_cons_zero, List.set_cons_succ]
      refine wpAnyH_take (i := 1) (v := ?_) rfl (by kernel_rfl) (by kernel_rfl) (by kernel_rfl) (fun _ _ _ h => h) (Or.inl ⟨by rfl, ?_⟩) (by assumption) ?_
      rotate_left
      · intro w9 hS9
        try dsimp only at hS9
        go_split_ands
        go_simp
        try with_reducible rfl
      try simp only [Act.put, List.getElem_toArray, List.getElem_cons_succ, List.getElem_cons_zero, List.setIfInBounds_toArray, List.set_cons_zero, List.set_cons_succ]
      refine wpAnyH_take (i := 2) (v := ?_) rfl (by kernel_rfl) (by kernel_rfl) (by kernel_rfl) (fun _ _ _ h => h) (Or.inl ⟨by rfl, ?_⟩) (by assumption) ?_
      rotate_left
      · intro w9 hS9
        try dsimp only at hS9
        go_split_ands
        go_simp
        try with_reducible rfl
      try simp only [Act.put, List.getElem_toArray, List.getElem_cons_succ, List.getElem_cons_zero, List.setIfInBounds_toArray, List.set_cons_zero, List.set_cons_succ]
      refine wpAnyH_take (i := 3) (v := ?_) rfl (by kernel_rfl) (by kernel_rfl) (by kernel_rfl) (fun _ _ _ h => h) (Or.inl ⟨by rfl, ?_⟩) (by assumption) ?_
      rotate_left
      · intro w9 hS9
        try dsimp only at hS9
        go_split_ands
        go_simp
        try with_reducible rfl
      try simp only [Act.put, List.getElem_toArray, List.getElem_cons_succ, List.getElem_cons_zero, List.setIfInBounds_toArray, List.set_cons_zero, List.set_cons_succ]
      refine wpAnyH_take (i := 4) (v := ?_) rfl (by kernel_rfl) (by kernel_rfl) (by kernel_rfl) (fun _ _ _ h => h) (Or.inl ⟨by rfl, ?_⟩) (by assumption) ?_
      rotate_left
      · intro w9 hS9
        try dsimp only at hS9
        go_split_ands
        go_simp
        try with_reducible rfl
      try simp only [Act.put, List.getElem_toArray, List.getElem_cons_succ, List.getElem_cons_zero, List.setIfInBounds_toArray, List.set_cons_zero, List.set_cons_succ]
      refine wpAnyH_take (i := 5) (v := ?_) rfl (by kernel_rfl) (by kernel_rfl) (by kernel_rfl) (fun _ _ _ h => h) (Or.inl ⟨by rfl, ?_⟩) (by assumption) ?_
      rotate_left
      · intro w9 hS9
        try dsimp only at hS9
        go_split_ands
        go_simp
        try with_reducible rfl
      try simp only [Act.put, List.getElem_toArray, List.getElem_cons_succ, List.getElem_cons_zero, List.setIfInBounds_toArray, List.set_cons_zero, List.set_cons_succ]
      refine wpAnyH_take (i := 6) (v := ?_) rfl (by kernel_rfl) (by kernel_rfl) (by kernel_rfl) (fun _ _ _ h => h) (Or.inl ⟨by rfl, ?_⟩) (by assumption) ?_
      rotate_left
      · intro w9 hS9
        try dsimp only at hS9
        go_split_ands
        go_simp
        try with_reducible rfl
      try simp only [Act.put, List.getElem_toArray, List.getElem_cons_succ, List.getElem_cons_zero, List.setIfInBounds_toArray, List.set_cons_zero, List.set_cons_succ]
      refine wpAnyH_take (i := 7) (v := ?_) rfl (by kernel_rfl) (by kernel_rfl) (by kernel_rfl) (fun _ _ _ h => h) (Or.inl ⟨by rfl, ?_⟩) (by assumption) ?_
      rotate_left
      · intro w9 hS9
        try dsimp only at hS9
        go_split_ands
        go_simp
        try with_reducible rfl
      try simp only [Act.put, List.getElem_toArray, List.getElem_cons_succ, List.getElem_cons_zero, List.setIfInBounds_toArray, List.set_cons_zero, List.set_cons_succ]
      refine wpAnyH_take (i := 8) (v := ?_) rfl (by kernel_rfl) (by kernel_rfl) (by kernel_rfl) (fun _ _ _ h => h) (Or.inl ⟨by rfl, ?_⟩) (by assumption) ?_
      rotate_left
      · intro w9 hS9
        try dsimp only at hS9
        go_split_ands
        go_simp
        try with_reducible rfl
      try simp only [Act.put, List.getElem_toArray, List.getElem_cons_succ, List.getElem_cons_zero, List.setIfInBounds_toArray, List.set_cons_zero, List.set_cons_succ]
      refine wpAnyH_take (i := 9) (v := ?_) rfl (by kernel_rfl) (by kernel_rfl) (by kernel_rfl) (fun _ _ _ h => h) (Or.inl ⟨by rfl, ?_⟩) (by assumption) ?_
      rotate_left
      · intro w9 hS9
        try dsimp only at hS9
        go_split_ands
        go_simp
        try with_reducible rfl
      try simp only [Act.put, List.getElem_toArray, List.getElem_cons_succ, List.getElem_cons_zero, List.setIfInBounds_toArray, List.set_cons_zero, List.set_cons_succ]
      refine wpAnyH_take (i := 10) (v := ?_) rfl (by kernel_rfl) (by kernel_rfl) (by kernel_rfl) (fun _ _ _ h => h) (Or.inl ⟨by rfl, ?_⟩) (by assumption) ?_
      rotate_left
      · intro w9 hS9
        try dsimp only at hS9
        go_split_ands
        go_simp
        try with_reducible rfl
      try simp only [Act.put, List.getElem_toArray, List.getElem_cons_succ, List.getElem_cons_zero, List.setIfInBounds_toArray, List.set_cons_zero, List.set_cons_succ]
      refine wpAnyH_take (i := 11) (v := ?_) rfl (by kernel_rfl) (by kernel_rfl) (by kernel_rfl) (fun _ _ _ h => h) (Or.inl ⟨by rfl, ?_⟩) (by assumption) ?_
      rotate_left
      · intro w9 hS9
        try dsimp only at hS9
        go_split_ands
        go_simp
        try with_reducible rfl
      try simp only [Act.put, List.getElem_toArray, List.getElem_cons_succ, List.getElem_cons_zero, List.setIfInBounds_toArray, List.set_cons_zero, List.set_cons_succ]
      refine wpAnyH_take (i := 12) (v := ?_) rfl (by kernel_rfl) (by kernel_rfl) (by kernel_rfl) (fun _ _ _ h => h) (Or.inl ⟨by rfl, ?_⟩) (by assumption) ?_
      rotate_left
      · intro w9 hS9
        try dsimp only at hS9
        go_split_ands
        go_simp
        try with_reducible rfl
      try simp only [Act.put, List.getElem_toArray, List.getElem_cons_succ, List.getElem_cons_zero, List.setIfInBounds_toArray, List.set_cons_zero, List.set_cons_succ]
      refine wpAnyH_take (i := 13) (v := ?_) rfl (by kernel_rfl) (by kernel_rfl) (by kernel_rfl) (fun _ _ _ h => h) (Or.inl ⟨by rfl, ?_⟩) (by assumption) ?_
      rotate_left
      · intro w9 hS9
        try dsimp only at hS9
        go_split_ands
        go_simp
        try with_reducible rfl
      try simp only [Act.put, List.getElem_toArray, List.getElem_cons_succ, List.getElem_cons_zero, List.setIfInBounds_toArray, List.set_cons_zero, List.set_cons_succ]
      refine wpAnyH_ready (rs := [14]) (by kernel_rfl) (by simp) ?_
      refine AllReadyH.cons rfl (fun K hK => ?_) AllReadyH.nil
      go_simp
      have q11 : Frm [] w8 (w8.alloc (.cells #[.int .i64 x, .int .i64 (l.length : Int)] 66)).drew := ((Frm.refl _ _).alloc _).drew
      have Q11 := Lib.hid q11
      clear q11
      refine hK.out _ _ ?_ (fun hHeld => ?_)
      · exact ⟨Q11.out.cell HC8.out (by simp), Q11.out.cell HOC8.out (by simp), Q11.out.cell (HR8.out.cell (i := 0) rfl) (by simp), Q11.out.cell (HR8.out.cell (i := 1) rfl) (by simp)⟩
      clear hK K
      try simp only [Act.put, List.getElem_toArray, List.getElem_cons_succ, List.getElem_cons_zero, List.setIfInBounds_toArray, List.set_cons_zero, List.set_cons_succ]
      have hl9 : (row ++ [((x : Int), ((l.length : Int) : Int))]).length = row.length + 1 := by rw [List.length_append]; rfl
      have HL9 := Lib.hid hl9
      clear hl9
      refine wpAnyH_ready (rs := [15]) (by kernel_rfl) (by simp) ?_
      refine AllReadyH.cons rfl (fun K hK => ?_) AllReadyH.nil
      refine step_app_arcs rfl (.tmp 89) (.tmp 96) rfl (w.heap.size + 1 + 1) row.length (row.length + 1) (.slice (some ⟨rg, 0, none⟩) row.length rc) row rfl (owns_drew (HRO8.out.alloc _)) rfl ⟨w8.heap.size, 0, none⟩ 1 1 [(x, (l.length : Int))] rfl rfl (cells_new w8 [.int .i64 x, .int .i64 (l.length : Int)] _) rfl (by omega) (by simp; omega) (by simp) (w8.heap.size + 1) (by simp) ?_
      intro g12 cp12 w12 hown12 hf12 hg12 hlt12
      have q12 := hf12 [rg] w8 (by intro k9 hk9; left; simp [Value.ownBlock] at hk9; simp [hk9]) (Q11.out.mono (by simp))
      clear hf12
      refine hK.out _ _ ?_ (fun hHeld => ?_)
      · exact ⟨q12.cell HC8.out (by simp; omega), q12.cell HOC8.out (by simp; omega), q12.cell (HR8.out.cell (i := 0) rfl) (by simp; omega), q12.cell (HR8.out.cell (i := 1) rfl) (by simp; omega)⟩
      clear hK K
      try simp only [Act.put, List.getElem_toArray, List.getElem_cons_succ, List.getElem_cons_zero, List.setIfInBounds_toArray, List.set_cons_zero, List.set_cons_succ]
      refine wpAnyH_take (i := 16) (v := ?_) rfl (by kernel_rfl) (by kernel_rfl) (by kernel_rfl) (fun _ _ _ h => h) (Or.inl ⟨by rfl, ?_⟩) (by assumption) ?_
      rotate_left
      · intro w9 hS9
        try dsimp only at hS9
        go_split_ands
        go_simp
        try with_reducible rfl
      try simp only [Act.put, List.getElem_toArray, List.getElem_cons_succ, List.getElem_cons_zero, List.setIfInBounds_toArray, List.set_cons_zero, List.set_cons_succ]
      refine wpAnyH_take (i := 17) (v := ?_) rfl (by kernel_rfl) (by kernel_rfl) (by kernel_rfl) (fun _ _ _ h => h) (Or.inl ⟨by rfl, ?_⟩) (by assumption) ?_
      rotate_left
      · intro w9 hS9
        try dsimp only at hS9
        go_split_ands
        go_simp
        try with_reducible rfl
      try simp only [Act.put, List.getElem_toArray, List.getElem_cons_succ, List.getElem_cons_zero, List.setIfInBounds_toArray, List.set_cons_zero, List.set_cons_succ]
      have hput := SysO.put HSY.out HROW.out HXS.out (row' := row ++ [(x, (l.length : Int))]) (by rw [HL9.out]; exact hown12) q12 (by rcases hg12 with h9 | h9; exact .inl (by simpa [Value.ownBlock] using h9.symm); exact .inr (by omega))
      rw [HL9.out] at hput
      have qz : Frm [rg, go] w8 (w12.setCell ⟨go, s, none⟩ (.slice (some ⟨g12, 0, none⟩) (row.length + 1) cp12)) := (q12.mono (fq := [rg, go]) (by simp)).setCell (.inl (by simp)) _
      have c5z := qz.cell HC8.out (by simp; omega)
      have resz := HRES8.out.frm qz (by simp; omega)
      have rc0 := resz.cell (i := 0) rfl
      have rz0 := resz.frozen 0
      have z12 : w12.frozen? ⟨go, s, none⟩ = false := (HOUT8.out.frm q12 (by simp; omega)).frozen s
      have oc12 := (HOUT8.out.frm q12 (by simp; omega)).cell HXS.out
      have HPUT := Lib.hid hput
      have HQZ := Lib.hid qz
      have HRESZ := Lib.hid resz
      clear hput resz hown12
      refine wpAnyH_done (by kernel_rfl) ?_ _
      refine Qt.last rfl rfl ?_
      simp only [List.getElem_toArray, List.getElem_cons_succ, List.getElem_cons_zero]
      clear qz hHeld
      go_simp
      generalize (w12.setCell ⟨go, s, none⟩ (.slice (some ⟨g12, 0, none⟩) (row.length + 1) cp12)) = wz at *
      go_wp2_with fail
      have hcs := World.cell?_setCell_same' wz ⟨w.heap.size + 1, 0, none⟩ (.slice (some ⟨go, 0, none⟩) l.length cp2) (by rw [rc0]; rfl)
      refine bodyPost_ret (v := .agg #[.slice (some ⟨go, 0, none⟩) l.length cp2]) (by simp [results, Tryz.results14, go_sem]; rw [hcs]; rfl) rfl ?_
      have hset : Frm [w.heap.size + 1] wz (wz.setCell ⟨w.heap.size + 1, 0, none⟩ (.slice (some ⟨go, 0, none⟩) l.length cp2)) := (Frm.refl _ _).setCell (.inl (by simp)) _
      refine ⟨⟨some ⟨go, 0, none⟩, cp2, _, by rw [List.length_set], (HPUT.out.frm hset (by simp)).lat (by rw [List.length_set]; omega) (fun r hr => ?_)⟩, (HT8.out.frm HQZ.out (by simp; omega) (by simp; omega)).frm hset (by simp; omega) (by simp; omega), ?_⟩
      · rcases List.mem_or_eq_of_mem_set hr with h9 | h9
        · have := HL2.out r h9; omega
        · rw [h9, HL9.out]; omega
      · have := (HFW8.out.mono (fq := [tb, rg, go, w.heap.size + 1]) (by simp)).trans ((HQZ.out.mono (fq := [tb, rg, go, w.heap.size + 1]) (by simp)).trans hset (by simp)) (by simp)
        exact ⟨this.os, this.tape, this.output, this.size, fun q hq hn => this.block q hq (by simp at hn ⊢; omega)⟩
    · go_wp2_with fail
      refine' wp_region_last (L := 14) _ (fun w' => w'.cell? ⟨w2.heap.size, 0, none⟩ = some (.slice (some ⟨go, 0, none⟩) l.length cp2) ∧ w'.cell? ⟨go, s, none⟩ = some (.slice (some ⟨rg, 0, none⟩) row.length rc) ∧ w'.cell? ⟨b7, 0, none⟩ = some (.int .i64 x) ∧ w'.cell? ⟨b7, 1, none⟩ = some (.int .i64 y)) (by kernel_rfl) rfl rfl rfl rfl ?he (by kernel_rfl) (by kernel_rfl) ?hS ?h
      case he =>
        simp only [nopOf, List.getElem_toArray, List.getElem_cons_succ, List.getElem_cons_zero, List.setIfInBounds_toArray, List.set_cons_succ, List.set_cons_zero]
        rfl
      case hS => exact ⟨HC8.out, HOC8.out, HR8.out.cell (i := 0) rfl, HR8.out.cell (i := 1) rfl⟩
      intro hHeld
      refine wpAnyH_take (i := 0) (v := ?_) rfl (by kernel_rfl) (by kernel_rfl) (by kernel_rfl) (fun _ _ _ h => h) (Or.inl ⟨by rfl, ?_⟩) (by assumption) ?_
      rotate_left
      · intro w9 hS9
        try dsimp only at hS9
        go_split_ands
        go_simp
        try with_reducible rfl
      try simp only [Act.put, List.getElem_toArray, List.getElem_cons_succ, List.getElem_cons_zero, List.setIfInBounds_toArray, List.set_cons_zero, List.set_cons_succ]
      refine wpAnyH_take (i := 1) (v := ?_) rfl (by kernel_rfl) (by kernel_rfl) (by kernel_rfl) (fun _ _ _ h => h) (Or.inl ⟨by rfl, ?_⟩) (by assumption) ?_
      rotate_left
      · intro w9 hS9
        try dsimp only at hS9
        go_split_ands
        go_simp
        try with_reducible rfl
      try simp only [Act.put, List.getElem_toArray, List.getElem_cons_succ, List.getElem_cons_zero, List.setIfInBounds_toArray, List.set_cons_zero, List.set_cons_succ]
      refine wpAnyH_take (i := 2) (v := ?_) rfl (by kernel_rfl) (by kernel_rfl) (by kernel_rfl) (fun _ _ _ h => h) (Or.inl ⟨by rfl, ?_⟩) (by assumption) ?_
      rotate_left
      · intro w9 hS9
        try dsimp only at hS9
        go_split_ands
        go_simp
        try with_reducible rfl
      try simp only [Act.put, List.getElem_toArray, List.getElem_cons_succ, List.getElem_cons_zero, List.setIfInBounds_toArray, List.set_cons_zero, List.set_cons_succ]
      refine wpAnyH_take (i := 3) (v := ?_) rfl (by kernel_rfl) (by kernel_rfl) (by kernel_rfl) (fun _ _ _ h => h) (Or.inl ⟨by rfl, ?_⟩) (by assumption) ?_
      rotate_left
      · intro w9 hS9
        try dsimp only at hS9
        go_split_ands
        go_simp
        try with_reducible rfl
      try simp only [Act.put, List.getElem_toArray, List.getElem_cons_succ, List.getElem_cons_zero, List.setIfInBounds_toArray, List.set_cons_zero, List.set_cons_succ]
      refine wpAnyH_take (i := 4) (v := ?_) rfl (by kernel_rfl) (by kernel_rfl) (by kernel_rfl) (fun _ _ _ h => h) (Or.inl ⟨by rfl, ?_⟩) (by assumption) ?_
      rotate_left
      · intro w9 hS9
        try dsimp only at hS9
        go_split_ands
        go_simp
        try with_reducible rfl
      try simp only [Act.put, List.getElem_toArray, List.getElem_cons_succ, List.getElem_cons_zero, List.setIfInBounds_toArray, List.set_cons_zero, List.set_cons_succ]
      refine wpAnyH_take (i := 5) (v := ?_) rfl (by kernel_rfl) (by kernel_rfl) (by kernel_rfl) (fun _ _ _ h => h) (Or.inl ⟨by rfl, ?_⟩) (by assumption) ?_
      rotate_left
      · intro w9 hS9
        try dsimp only at hS9
        go_split_ands
        go_simp
        try with_reducible rfl
      try simp only [Act.put, List.getElem_toArray, List.getElem_cons_succ, List.getElem_cons_zero, List.setIfInBounds_toArray, List.set_cons_zero, List.set_cons_succ]
      refine wpAnyH_take (i := 6) (v := ?_) rfl (by kernel_rfl) (by kernel_rfl) (by kernel_rfl) (fun _ _ _ h => h) (Or.inl ⟨by rfl, ?_⟩) (by assumption) ?_
      rotate_left
      · intro w9 hS9
        try dsimp only at hS9
        go_split_ands
        go_simp
        try with_reducible rfl
      try simp only [Act.put, List.getElem_toArray, List.getElem_cons_succ, List.getElem_cons_zero, List.setIfInBounds_toArray, List.set_cons_zero, List.set_cons_succ]
      refine wpAnyH_take (i := 7) (v := ?_) rfl (by kernel_rfl) (by kernel_rfl) (by kernel_rfl) (fun _ _ _ h => h) (Or.inl ⟨by rfl, ?_⟩) (by assumption) ?_
      rotate_left
      · intro w9 hS9
        try dsimp only at hS9
        go_split_ands
        go_simp
        try with_reducible rfl
      try simp only [Act.put, List.getElem_toArray, List.getElem_cons_succ, List.getElem_cons_zero, List.setIfInBounds_toArray, List.set_cons_zero, List.set_cons_succ]
      refine wpAnyH_take (i := 8) (v := ?_) rfl (by kernel_rfl) (by kernel_rfl) (by kernel_rfl) (fun _ _ _ h => h) (Or.inl ⟨by rfl, ?_⟩) (by assumption) ?_
      rotate_left
      · intro w9 hS9
        try dsimp only at hS9
        go_split_ands
        go_simp
        try with_reducible rfl
      try simp only [Act.put, List.getElem_toArray, List.getElem_cons_succ, List.getElem_cons_zero, List.setIfInBounds_toArray, List.set_cons_zero, List.set_cons_succ]
      refine wpAnyH_take (i := 9) (v := ?_) rfl (by kernel_rfl) (by kernel_rfl) (by kernel_rfl) (fun _ _ _ h => h) (Or.inl ⟨by rfl, ?_⟩) (by assumption) ?_
      rotate_left
      · intro w9 hS9
        try dsimp only at hS9
        go_split_ands
        go_simp
        try with_reducible rfl
      try simp only [Act.put, List.getElem_toArray, List.getElem_cons_succ, List.getElem_cons_zero, List.setIfInBounds_toArray, List.set_cons_zero, List.set_cons_succ]
      refine wpAnyH_take (i := 10) (v := ?_) rfl (by kernel_rfl) (by kernel_rfl) (by kernel_rfl) (fun _ _ _ h => h) (Or.inl ⟨by rfl, ?_⟩) (by assumption) ?_
      rotate_left
      · intro w9 hS9
        try dsimp only at hS9
        go_split_ands
        go_simp
        try with_reducible rfl
      try simp only [Act.put, List.getElem_toArray, List.getElem_cons_succ, List.getElem_cons_zero, List.setIfInBounds_toArray, List.set_cons_zero, List.set_cons_succ]
      refine wpAnyH_ready (rs := [11]) (by kernel_rfl) (by simp) ?_
      refine AllReadyH.cons rfl (fun K hK => ?_) AllReadyH.nil
      go_simp
      have q11 : Frm [] w8 (w8.alloc (.cells #[.int .i64 x, .int .i64 (-1)] 66)).drew := ((Frm.refl _ _).alloc _).drew
      have Q11 := Lib.hid q11
      clear q11
      refine hK.out _ _ ?_ (fun hHeld => ?_)
      · exact ⟨Q11.out.cell HC8.out (by simp), Q11.out.cell HOC8.out (by simp), Q11.out.cell (HR8.out.cell (i := 0) rfl) (by simp), Q11.out.cell (HR8.out.cell (i := 1) rfl) (by simp)⟩
      clear hK K
      try simp only [Act.put, List.getElem_toArray, List.getElem_cons_succ, List.getElem_cons_zero, List.setIfInBounds_toArray, List.set_cons_zero, List.set_cons_succ]
      have hl9 : (row ++ [((x : Int), ((-1) : Int))]).length = row.length + 1 := by rw [List.length_append]; rfl
      have HL9 := Lib.hid hl9
      clear hl9
      refine wpAnyH_ready (rs := [12]) (by kernel_rfl) (by simp) ?_
      refine AllReadyH.cons rfl (fun K hK => ?_) AllReadyH.nil
      refine step_app_arcs rfl (.tmp 108) (.tmp 112) rfl (w.heap.size + 1 + 1) row.length (row.length + 1) (.slice (some ⟨rg, 0, none⟩) row.length rc) row rfl (owns_drew (HRO8.out.alloc _)) rfl ⟨w8.heap.size, 0, none⟩ 1 1 [(x, (-1))] rfl rfl (cells_new w8 [.int .i64 x, .int .i64 (-1)] _) rfl (by omega) (by simp; omega) (by simp) (w8.heap.size + 1) (by simp) ?_
      intro g12 cp12 w12 hown12 hf12 hg12 hlt12
      have q12 := hf12 [rg] w8 (by intro k9 hk9; left; simp [Value.ownBlock] at hk9; simp [hk9]) (Q11.out.mono (by simp))
      clear hf12
      refine hK.out _ _ ?_ (fun hHeld => ?_)
      · exact ⟨q12.cell HC8.out (by simp; omega), q12.cell HOC8.out (by simp; omega), q12.cell (HR8.out.cell (i := 0) rfl) (by simp; omega), q12.cell (HR8.out.cell (i := 1) rfl) (by simp; omega)⟩
      clear hK K
      try simp only [Act.put, List.getElem_toArray, List.getElem_cons_succ, List.getElem_cons_zero, List.setIfInBounds_toArray, List.set_cons_zero, List.set_cons_succ]
      refine wpAnyH_take (i := 13) (v := ?_) rfl (by kernel_rfl) (by kernel_rfl) (by kernel_rfl) (fun _ _ _ h => h) (Or.inl ⟨by rfl, ?_⟩) (by assumption) ?_
      rotate_left
      · intro w9 hS9
        try dsimp only at hS9
        go_split_ands
        go_simp
        try with_reducible rfl
      try simp only [Act.put, List.getElem_toArray, List.getElem_cons_succ, List.getElem_cons_zero, List.setIfInBounds_toArray, List.set_cons_zero, List.set_cons_succ]
      refine wpAnyH_take (i := 14) (v := ?_) rfl (by kernel_rfl) (by kernel_rfl) (by kernel_rfl) (fun _ _ _ h => h) (Or.inl ⟨by rfl, ?_⟩) (by assumption) ?_
      rotate_left
      · intro w9 hS9
        try dsimp only at hS9
        go_split_ands
        go_simp
        try with_reducible rfl
      try simp only [Act.put, List.getElem_toArray, List.getElem_cons_succ, List.getElem_cons_zero, List.setIfInBounds_toArray, List.set_cons_zero, List.set_cons_succ]
      have hput := SysO.put HSY.out HROW.out HXS.out (row' := row ++ [(x, (-1))]) (by rw [HL9.out]; exact hown12) q12 (by rcases hg12 with h9 | h9; exact .inl (by simpa [Value.ownBlock] using h9.symm); exact .inr (by omega))
      rw [HL9.out] at hput
      have qz : Frm [rg, go] w8 (w12.setCell ⟨go, s, none⟩ (.slice (some ⟨g12, 0, none⟩) (row.length + 1) cp12)) := (q12.mono (fq := [rg, go]) (by simp)).setCell (.inl (by simp)) _
      have c5z := qz.cell HC8.out (by simp; omega)
      have resz := HRES8.out.frm qz (by simp; omega)
      have rc0 := resz.cell (i := 0) rfl
      have rz0 := resz.frozen 0
      have z12 : w12.frozen? ⟨go, s, none⟩ = false := (HOUT8.out.frm q12 (by simp; omega)).frozen s
      have oc12 := (HOUT8.out.frm q12 (by simp; omega)).cell HXS.out
      have HPUT := Lib.hid hput
      have HQZ := Lib.hid qz
      have HRESZ := Lib.hid resz
      clear hput resz hown12
      refine wpAnyH_done (by kernel_rfl) ?_ _
      refine Qt.last rfl rfl ?_
      simp only [List.getElem_toArray, List.getElem_cons_succ, List.getElem_cons_zero]
      clear qz hHeld
      go_simp
      generalize (w12.setCell ⟨go, s, none⟩ (.slice (some ⟨g12, 0, none⟩) (row.length + 1) cp12)) = wz at *
      go_wp2_with fail
      have hcs := World.cell?_setCell_same' wz ⟨w.heap.size + 1, 0, none⟩ (.slice (some ⟨go, 0, none⟩) l.length cp2) (by rw [rc0]; rfl)
      refine bodyPost_ret (v := .agg #[.slice (some ⟨go, 0, none⟩) l.length cp2]) (by simp [results, Tryz.results14, go_sem]; rw [hcs]; rfl) rfl ?_
      have hset : Frm [w.heap.size + 1] wz (wz.setCell ⟨w.heap.size + 1, 0, none⟩ (.slice (some ⟨go, 0, none⟩) l.length cp2)) := (Frm.refl _ _).setCell (.inl (by simp)) _
      refine ⟨⟨some ⟨go, 0, none⟩, cp2, _, by rw [List.length_set], (HPUT.out.frm hset (by simp)).lat (by rw [List.length_set]; omega) (fun r hr => ?_)⟩, (HT8.out.frm HQZ.out (by simp; omega) (by simp; omega)).frm hset (by simp; omega) (by simp; omega), ?_⟩
      · rcases List.mem_or_eq_of_mem_set hr with h9 | h9
        · have := HL2.out r h9; omega
        · rw [h9, HL9.out]; omega
      · have := (HFW8.out.mono (fq := [tb, rg, go, w.heap.size + 1]) (by simp)).trans ((HQZ.out.mono (fq := [tb, rg, go, w.heap.size + 1]) (by simp)).trans hset (by simp)) (by simp)
        exact ⟨this.os, this.tape, this.output, this.size, fun q hq hn => this.block q hq (by simp at hn ⊢; omega)⟩
    · go_wp2_with fail
      refine' wp_region_last (L := 12) _ (fun w' => w'.cell? ⟨w2.heap.size, 0, none⟩ = some (.slice (some ⟨go, 0, none⟩) l.length cp2) ∧ w'.cell? ⟨go, s, none⟩ = some (.slice (some ⟨rg, 0, none⟩) row.length rc) ∧ w'.cell? ⟨b7, 0, none⟩ = some (.int .i64 x) ∧ w'.cell? ⟨b7, 1, none⟩ = some (.int .i64 y)) (by kernel_rfl) rfl rfl rfl rfl ?he (by kernel_rfl) (by kernel_rfl) ?hS ?h
      case he =>
        simp only [nopOf, List.getElem_toArray, List.getElem_cons_succ, List.getElem_cons_zero, List.setIfInBounds_toArray, List.set_cons_succ, List.set_cons_zero]
        rfl
      case hS => exact ⟨HC8.out, HOC8.out, HR8.out.cell (i := 0) rfl, HR8.out.cell (i := 1) rfl⟩
      intro hHeld
      refine wpAnyH_take (i := 0) (v := ?_) rfl (by kernel_rfl) (by kernel_rfl) (by kernel_rfl) (fun _ _ _ h => h) (Or.inl ⟨by rfl, ?_⟩) (by assumption) ?_
      rotate_left
      · intro w9 hS9
        try dsimp only at hS9
        go_split_ands
        go_simp
        try with_reducible rfl
      try simp only [Act.put, List.getElem_toArray, List.getElem_cons_succ, List.getElem_cons_zero, List.setIfInBounds_toArray, List.set_cons_zero, List.set_cons_succ]
      refine wpAnyH_take (i := 1) (v := ?_) rfl (by kernel_rfl) (by kernel_rfl) (by kernel_rfl) (fun _ _ _ h => h) (Or.inl ⟨by rfl, ?_⟩) (by assumption) ?_
      rotate_left
      · intro w9 hS9
        try dsimp only at hS9
        go_split_ands
        go_simp
        try with_reducible rfl
      try simp only [Act.put, List.getElem_toArray, List.getElem_cons_succ, List.getElem_cons_zero, List.setIfInBounds_toArray, List.set_cons_zero, List.set_cons_succ]
      refine wpAnyH_take (i := 2) (v := ?_) rfl (by kernel_rfl) (by kernel_rfl) (by kernel_rfl) (fun _ _ _ h => h) (Or.inl ⟨by rfl, ?_⟩) (by assumption) ?_
      rotate_left
      · intro w9 hS9
        try dsimp only at hS9
        go_split_ands
        go_simp
        try with_reducible rfl
      try simp only [Act.put, List.getElem_toArray, List.getElem_cons_succ, List.getElem_cons_zero, List.setIfInBounds_toArray, List.set_cons_zero, List.set_cons_succ]
      refine wpAnyH_take (i := 3) (v := ?_) rfl (by kernel_rfl) (by kernel_rfl) (by kernel_rfl) (fun _ _ _ h => h) (Or.inl ⟨by rfl, ?_⟩) (by assumption) ?_
      rotate_left
      · intro w9 hS9
        try dsimp only at hS9
        go_split_ands
        go_simp
        try with_reducible rfl
      try simp only [Act.put, List.getElem_toArray, List.getElem_cons_succ, List.getElem_cons_zero, List.setIfInBounds_toArray, List.set_cons_zero, List.set_cons_succ]
      refine wpAnyH_take (i := 5) (v := ?_) rfl (by kernel_rfl) (by kernel_rfl) (by kernel_rfl) (fun _ _ _ h => h) (Or.inl ⟨by rfl, ?_⟩) (by assumption) ?_
      rotate_left
      · intro w9 hS9
        try dsimp only at hS9
        go_split_ands
        go_simp
        try with_reducible rfl
      try simp only [Act.put, List.getElem_toArray, List.getElem_cons_succ, List.getElem_cons_zero, List.setIfInBounds_toArray, List.set_cons_zero, List.set_cons_succ]
      refine wpAnyH_take (i := 6) (v := ?_) rfl (by kernel_rfl) (by kernel_rfl) (by kernel_rfl) (fun _ _ _ h => h) (Or.inl ⟨by rfl, ?_⟩) (by assumption) ?_
      rotate_left
      · intro w9 hS9
        try dsimp only at hS9
        go_split_ands
        go_simp
        try with_reducible rfl
      try simp only [Act.put, List.getElem_toArray, List.getElem_cons_succ, List.getElem_cons_zero, List.setIfInBounds_toArray, List.set_cons_zero, List.set_cons_succ]
      refine wpAnyH_take (i := 7) (v := ?_) rfl (by kernel_rfl) (by kernel_rfl) (by kernel_rfl) (fun _ _ _ h => h) (Or.inl ⟨by rfl, ?_⟩) (by assumption) ?_
      rotate_left
      · intro w9 hS9
        try dsimp only at hS9
        go_split_ands
        go_simp
        try with_reducible rfl
      try simp only [Act.put, List.getElem_toArray, List.getElem_cons_succ, List.getElem_cons_zero, List.setIfInBounds_toArray, List.set_cons_zero, List.set_cons_succ]
      refine wpAnyH_take (i := 8) (v := ?_) rfl (by kernel_rfl) (by kernel_rfl) (by kernel_rfl) (fun _ _ _ h => h) (Or.inl ⟨by rfl, ?_⟩) (by assumption) ?_
      rotate_left
      · intro w9 hS9
        try dsimp only at hS9
        go_split_ands
        go_simp
        try with_reducible rfl
      try simp only [Act.put, List.getElem_toArray, List.getElem_cons_succ, List.getElem_cons_zero, List.setIfInBounds_toArray, List.set_cons_zero, List.set_cons_succ]
      refine wpAnyH_take (i := 9) (v := ?_) rfl (by kernel_rfl) (by kernel_rfl) (by kernel_rfl) (fun _ _ _ h => h) (Or.inl ⟨by rfl, ?_⟩) (by assumption) ?_
      rotate_left
      · intro w9 hS9
        try dsimp only at hS9
        go_split_ands
        go_simp
        try with_reducible rfl
      try simp only [Act.put, List.getElem_toArray, List.getElem_cons_succ, List.getElem_cons_zero, List.setIfInBounds_toArray, List.set_cons_zero, List.set_cons_succ]
      refine wpAnyH_ready (rs := [4]) (by kernel_rfl) (by simp) ?_
      refine AllReadyH.cons rfl (fun K hK => ?_) AllReadyH.nil
      go_simp
      have q11 : Frm [] w8 (w8.alloc (.cells #[.int .i64 x, .int .i64 y] 66)).drew := ((Frm.refl _ _).alloc _).drew
      have Q11 := Lib.hid q11
      clear q11
      refine hK.out _ _ ?_ (fun hHeld => ?_)
      · exact ⟨Q11.out.cell HC8.out (by simp), Q11.out.cell HOC8.out (by simp), Q11.out.cell (HR8.out.cell (i := 0) rfl) (by simp), Q11.out.cell (HR8.out.cell (i := 1) rfl) (by simp)⟩
      clear hK K
      try simp only [Act.put, List.getElem_toArray, List.getElem_cons_succ, List.getElem_cons_zero, List.setIfInBounds_toArray, List.set_cons_zero, List.set_cons_succ]
      have hl9 : ([(x, y)] ++ row).length = 1 + row.length := by rw [List.length_append]; rfl
      have HL9 := Lib.hid hl9
      clear hl9
      have hown9 : OwnR w8.heap.size (w8.alloc (.cells #[.int .i64 x, .int .i64 y] 66)) (.slice (some ⟨w8.heap.size, 0, none⟩) 1 1) [(x, y)] := ownr_one w8 x y
      refine wpAnyH_ready (rs := [10]) (by kernel_rfl) (by simp) ?_
      refine AllReadyH.cons rfl (fun K hK => ?_) AllReadyH.nil
      refine step_app_arcs rfl (.tmp 121) (.tmp 126) rfl w8.heap.size 1 (1 + row.length) (.slice (some ⟨w8.heap.size, 0, none⟩) 1 1) [(x, y)] rfl (owns_drew hown9) rfl ⟨rg, 0, none⟩ row.length rc row rfl rfl (OwnR.src (ownsB_frm HRO8.out Q11.out (by simp))) rfl (by omega) (by simp) (by simp) (w8.heap.size + 1) (by simp) ?_
      intro g12 cp12 w12 hown12' hf12 hg12 hlt12
      have hown12 := ownsB_mono hown12' (show w.heap.size + 1 + 1 ≤ w8.heap.size by omega)
      have q12 : Frm [rg] w8 w12 := (hf12 [] w8 (by intro k9 hk9; right; simp [Value.ownBlock] at hk9; simp [← hk9]) Q11.out).mono (by simp)
      have hg12 : (Value.slice (some ⟨rg, 0, none⟩) 0 0).ownBlock = some g12 ∨ g12 = w8.heap.size + 1 ∨ g12 = w8.heap.size := by
        rcases hg12 with h9 | h9
        · simp only [Value.ownBlock, Option.some.injEq] at h9; exact .inr (.inr h9.symm)
        · exact .inr (.inl h9)
      clear hf12 hown12'
      refine hK.out _ _ ?_ (fun hHeld => ?_)
      · exact ⟨q12.cell HC8.out (by simp; omega), q12.cell HOC8.out (by simp; omega), q12.cell (HR8.out.cell (i := 0) rfl) (by simp; omega), q12.cell (HR8.out.cell (i := 1) rfl) (by simp; omega)⟩
      clear hK K
      try simp only [Act.put, List.getElem_toArray, List.getElem_cons_succ, List.getElem_cons_zero, List.setIfInBounds_toArray, List.set_cons_zero, List.set_cons_succ]
      refine wpAnyH_take (i := 11) (v := ?_) rfl (by kernel_rfl) (by kernel_rfl) (by kernel_rfl) (fun _ _ _ h => h) (Or.inl ⟨by rfl, ?_⟩) (by assumption) ?_
      rotate_left
      · intro w9 hS9
        try dsimp only at hS9
        go_split_ands
        go_simp
        try with_reducible rfl
      try simp only [Act.put, List.getElem_toArray, List.getElem_cons_succ, List.getElem_cons_zero, List.setIfInBounds_toArray, List.set_cons_zero, List.set_cons_succ]
      refine wpAnyH_take (i := 12) (v := ?_) rfl (by kernel_rfl) (by kernel_rfl) (by kernel_rfl) (fun _ _ _ h => h) (Or.inl ⟨by rfl, ?_⟩) (by assumption) ?_
      rotate_left
      · intro w9 hS9
        try dsimp only at hS9
        go_split_ands
        go_simp
        try with_reducible rfl
      try simp only [Act.put, List.getElem_toArray, List.getElem_cons_succ, List.getElem_cons_zero, List.setIfInBounds_toArray, List.set_cons_zero, List.set_cons_succ]
      have hput := SysO.put HSY.out HROW.out HXS.out (row' := [(x, y)] ++ row) (by rw [HL9.out]; exact hown12) q12 (by rcases hg12 with h9 | h9; exact .inl (by simpa [Value.ownBlock] using h9.symm); exact .inr (by omega))
      rw [HL9.out] at hput
      have qz : Frm [rg, go] w8 (w12.setCell ⟨go, s, none⟩ (.slice (some ⟨g12, 0, none⟩) (1 + row.length) cp12)) := (q12.mono (fq := [rg, go]) (by simp)).setCell (.inl (by simp)) _
      have c5z := qz.cell HC8.out (by simp; omega)
      have resz := HRES8.out.frm qz (by simp; omega)
      have rc0 := resz.cell (i := 0) rfl
      have rz0 := resz.frozen 0
      have z12 : w12.frozen? ⟨go, s, none⟩ = false := (HOUT8.out.frm q12 (by simp; omega)).frozen s
      have oc12 := (HOUT8.out.frm q12 (by simp; omega)).cell HXS.out
      have HPUT := Lib.hid hput
      have HQZ := Lib.hid qz
      have HRESZ := Lib.hid resz
      clear hput resz hown12
      refine wpAnyH_done (by kernel_rfl) ?_ _
      refine Qt.last rfl rfl ?_
      simp only [List.getElem_toArray, List.getElem_cons_succ, List.getElem_cons_zero]
      clear qz hHeld
      go_simp
      generalize (w12.setCell ⟨go, s, none⟩ (.slice (some ⟨g12, 0, none⟩) (1 + row.length) cp12)) = wz at *
      go_wp2_with fail
      have hcs := World.cell?_setCell_same' wz ⟨w.heap.size + 1, 0, none⟩ (.slice (some ⟨go, 0, none⟩) l.length cp2) (by rw [rc0]; rfl)
      refine bodyPost_ret (v := .agg #[.slice (some ⟨go, 0, none⟩) l.length cp2]) (by simp [results, Tryz.results14, go_sem]; rw [hcs]; rfl) rfl ?_
      have hset : Frm [w.heap.size + 1] wz (wz.setCell ⟨w.heap.size + 1, 0, none⟩ (.slice (some ⟨go, 0, none⟩) l.length cp2)) := (Frm.refl _ _).setCell (.inl (by simp)) _
      refine ⟨⟨some ⟨go, 0, none⟩, cp2, _, by rw [List.length_set], (HPUT.out.frm hset (by simp)).lat (by rw [List.length_set]; omega) (fun r hr => ?_)⟩, (HT8.out.frm HQZ.out (by simp; omega) (by simp; omega)).frm hset (by simp; omega) (by simp; omega), ?_⟩
      · rcases List.mem_or_eq_of_mem_set hr with h9 | h9
        · have := HL2.out r h9; omega
        · rw [h9, HL9.out]; omega
      · have := (HFW8.out.mono (fq := [tb, rg, go, w.heap.size + 1]) (by simp)).trans ((HQZ.out.mono (fq := [tb, rg, go, w.heap.size + 1]) (by simp)).trans hset (by simp)) (by simp)
        exact ⟨this.os, this.tape, this.output, this.size, fun q hq hn => this.block q hq (by simp at hn ⊢; omega)⟩
    · go_wp2_with fail
      refine' wp_region_last (L := 15) _ (fun w' => w'.cell? ⟨w2.heap.size, 0, none⟩ = some (.slice (some ⟨go, 0, none⟩) l.length cp2) ∧ w'.cell? ⟨go, s, none⟩ = some (.slice (some ⟨rg, 0, none⟩) row.length rc) ∧ w'.cell? ⟨b7, 0, none⟩ = some (.int .i64 x) ∧ w'.cell? ⟨b7, 1, none⟩ = some (.int .i64 y)) (by kernel_rfl) rfl rfl rfl rfl ?he (by kernel_rfl) (by kernel_rfl) ?hS ?h
      case he =>
        simp only [nopOf, List.getElem_toArray, List.getElem_cons_succ, List.getElem_cons_zero, List.setIfInBounds_toArray, List.set_cons_succ, List.set_cons_zero]
        rfl
      case hS => exact ⟨HC8.out, HOC8.out, HR8.out.cell (i := 0) rfl, HR8.out.cell (i := 1) rfl⟩
      intro hHeld
      refine wpAnyH_take (i := 0) (v := ?_) rfl (by kernel_rfl) (by kernel_rfl) (by kernel_rfl) (fun _ _ _ h => h) (Or.inl ⟨by rfl, ?_⟩) (by assumption) ?_
      rotate_left
      · intro w9 hS9
        try dsimp only at hS9
        go_split_ands
        go_simp
        try with_reducible rfl
      try simp only [Act.put, List.getElem_toArray, List.getElem_cons_succ, List.getElem_cons_zero, List.setIfInBounds_toArray, List.set_cons_zero, List.set_cons_succ]
      refine wpAnyH_take (i := 1) (v := ?_) rfl (by kernel_rfl) (by kernel_rfl) (by kernel_rfl) (fun _ _ _ h => h) (Or.inl ⟨by rfl, ?_⟩) (by assumption) ?_
      rotate_left
      · intro w9 hS9
        try dsimp only at hS9
        go_split_ands
        go_simp
        try with_reducible rfl
      try simp only [Act.put, List.getElem_toArray, List.getElem_cons_succ, List.getElem_cons_zero, List.setIfInBounds_toArray, List.set_cons_zero, List.set_cons_succ]
      refine wpAnyH_take (i := 2) (v := ?_) rfl (by kernel_rfl) (by kernel_rfl) (by kernel_rfl) (fun _ _ _ h => h) (Or.inl ⟨by rfl, ?_⟩) (by assumption) ?_
      rotate_left
      · intro w9 hS9
        try dsimp only at hS9
        go_split_ands
        go_simp
        try with_reducible rfl
      try simp only [Act.put, List.getElem_toArray, List.getElem_cons_succ, List.getElem_cons_zero, List.setIfInBounds_toArray, List.set_cons_zero, List.set_cons_succ]
      refine wpAnyH_take (i := 3) (v := ?_) rfl (by kernel_rfl) (by kernel_rfl) (by kernel_rfl) (fun _ _ _ h => h) (Or.inl ⟨by rfl, ?_⟩) (by assumption) ?_
      rotate_left
      · intro w9 hS9
        try dsimp only at hS9
        go_split_ands
        go_simp
        try with_reducible rfl
      try simp only [Act.put, List.getElem_toArray, List.getElem_cons_succ, List.getElem_cons_zero, List.setIfInBounds_toArray, List.set_cons_zero, List.set_cons_succ]
      refine wpAnyH_take (i := 4) (v := ?_) rfl (by kernel_rfl) (by kernel_rfl) (by kernel_rfl) (fun _ _ _ h => h) (Or.inl ⟨by rfl, ?_⟩) (by assumption) ?_
      rotate_left
      · intro w9 hS9
        try dsimp only at hS9
        go_split_ands
        go_simp
        try with_reducible rfl
      try simp only [Act.put, List.getElem_toArray, List.getElem_cons_succ, List.getElem_cons_zero, List.setIfInBounds_toArray, List.set_cons_zero, List.set_cons_succ]
      refine wpAnyH_take (i := 5) (v := ?_) rfl (by kernel_rfl) (by kernel_rfl) (by kernel_rfl) (fun _ _ _ h => h) (Or.inl ⟨by rfl, ?_⟩) (by assumption) ?_
      rotate_left
      · intro w9 hS9
        try dsimp only at hS9
        go_split_ands
        go_simp
        try with_reducible rfl
      try simp only [Act.put, List.getElem_toArray, List.getElem_cons_succ, List.getElem_cons_zero, List.setIfInBounds_toArray, List.set_cons_zero, List.set_cons_succ]
      refine wpAnyH_take (i := 6) (v := ?_) rfl (by kernel_rfl) (by kernel_rfl) (by kernel_rfl) (fun _ _ _ h => h) (Or.inl ⟨by rfl, ?_⟩) (by assumption) ?_
      rotate_left
      · intro w9 hS9
        try dsimp only at hS9
        go_split_ands
        go_simp
        try with_reducible rfl
      try simp only [Act.put, List.getElem_toArray, List.getElem_cons_succ, List.getElem_cons_zero, List.setIfInBounds_toArray, List.set_cons_zero, List.set_cons_succ]
      refine wpAnyH_take (i := 7) (v := ?_) rfl (by kernel_rfl) (by kernel_rfl) (by kernel_rfl) (fun _ _ _ h => h) (Or.inl ⟨by rfl, ?_⟩) (by assumption) ?_
      rotate_left
      · intro w9 hS9
        try dsimp only at hS9
        go_split_ands
        go_simp
        try with_reducible rfl
      try simp only [Act.put, List.getElem_toArray, List.getElem_cons_succ, List.getElem_cons_zero, List.setIfInBounds_toArray, List.set_cons_zero, List.set_cons_succ]
      refine wpAnyH_take (i := 8) (v := ?_) rfl (by kernel_rfl) (by kernel_rfl) (by kernel_rfl) (fun _ _ _ h => h) (Or.inl ⟨by rfl, ?_⟩) (by assumption) ?_
      rotate_left
      · intro w9 hS9
        try dsimp only at hS9
        go_split_ands
        go_simp
        try with_reducible rfl
      try simp only [Act.put, List.getElem_toArray, List.getElem_cons_succ, List.getElem_cons_zero, List.setIfInBounds_toArray, List.set_cons_zero, List.set_cons_succ]
      refine wpAnyH_take (i := 9) (v := ?_) rfl (by kernel_rfl) (by kernel_rfl) (by kernel_rfl) (fun _ _ _ h => h) (Or.inl ⟨by rfl, ?_⟩) (by assumption) ?_
      rotate_left
      · intro w9 hS9
        try dsimp only at hS9
        go_split_ands
        go_simp
        try with_reducible rfl
      try simp only [Act.put, List.getElem_toArray, List.getElem_cons_succ, List.getElem_cons_zero, List.setIfInBounds_toArray, List.set_cons_zero, List.set_cons_succ]
      refine wpAnyH_take (i := 10) (v := ?_) rfl (by kernel_rfl) (by kernel_rfl) (by kernel_rfl) (fun _ _ _ h => h) (Or.inl ⟨by rfl, ?_⟩) (by assumption) ?_
      rotate_left
      · intro w9 hS9
        try dsimp only at hS9
        go_split_ands
        go_simp
        try with_reducible rfl
      try simp only [Act.put, List.getElem_toArray, List.getElem_cons_succ, List.getElem_cons_zero, List.setIfInBounds_toArray, List.set_cons_zero, List.set_cons_succ]
      refine wpAnyH_take (i := 11) (v := ?_) rfl (by kernel_rfl) (by kernel_rfl) (by kernel_rfl) (fun _ _ _ h => h) (Or.inl ⟨by rfl, ?_⟩) (by assumption) ?_
      rotate_left
      · intro w9 hS9
        try dsimp only at hS9
        go_split_ands
        go_simp
        try with_reducible rfl
      try simp only [Act.put, List.getElem_toArray, List.getElem_cons_succ, List.getElem_cons_zero, List.setIfInBounds_toArray, List.set_cons_zero, List.set_cons_succ]
      refine wpAnyH_take (i := 12) (v := ?_) rfl (by kernel_rfl) (by kernel_rfl) (by kernel_rfl) (fun _ _ _ h => h) (Or.inl ⟨by rfl, ?_⟩) (by assumption) ?_
      rotate_left
      · intro w9 hS9
        try dsimp only at hS9
        go_split_ands
        go_simp
        try with_reducible rfl
      try simp only [Act.put, List.getElem_toArray, List.getElem_cons_succ, List.getElem_cons_zero, List.setIfInBounds_toArray, List.set_cons_zero, List.set_cons_succ]
      have hl9 : (row ++ row).length = row.length + row.length := by rw [List.length_append]
      have HL9 := Lib.hid hl9
      clear hl9
      refine wpAnyH_ready (rs := [13]) (by kernel_rfl) (by simp) ?_
      refine AllReadyH.cons rfl (fun K hK => ?_) AllReadyH.nil
      refine step_app_arcs rfl (.tmp 37) (.tmp 42) rfl (w.heap.size + 1 + 1) row.length (row.length + row.length) (.slice (some ⟨rg, 0, none⟩) row.length rc) row rfl (owns_drew HRO8.out) rfl ⟨rg, 0, none⟩ row.length rc row rfl rfl (OwnR.src (owns_drew HRO8.out)) rfl (by omega) (by simp; omega) (by simp) w8.heap.size (by simp) ?_
      intro g12 cp12 w12 hown12 hf12 hg12 hlt12
      have q12 := hf12 [rg] w8 (by intro k9 hk9; left; simp [Value.ownBlock] at hk9; simp [hk9]) ((Frm.refl [rg] w8).drew)
      clear hf12
      refine hK.out _ _ ?_ (fun hHeld => ?_)
      · exact ⟨q12.cell HC8.out (by simp; omega), q12.cell HOC8.out (by simp; omega), q12.cell (HR8.out.cell (i := 0) rfl) (by simp; omega), q12.cell (HR8.out.cell (i := 1) rfl) (by simp; omega)⟩
      clear hK K
      try simp only [Act.put, List.getElem_toArray, List.getElem_cons_succ, List.getElem_cons_zero, List.setIfInBounds_toArray, List.set_cons_zero, List.set_cons_succ]
      refine wpAnyH_take (i := 14) (v := ?_) rfl (by kernel_rfl) (by kernel_rfl) (by kernel_rfl) (fun _ _ _ h => h) (Or.inl ⟨by rfl, ?_⟩) (by assumption) ?_
      rotate_left
      · intro w9 hS9
        try dsimp only at hS9
        go_split_ands
        go_simp
        try with_reducible rfl
      try simp only [Act.put, List.getElem_toArray, List.getElem_cons_succ, List.getElem_cons_zero, List.setIfInBounds_toArray, List.set_cons_zero, List.set_cons_succ]
      refine wpAnyH_take (i := 15) (v := ?_) rfl (by kernel_rfl) (by kernel_rfl) (by kernel_rfl) (fun _ _ _ h => h) (Or.inl ⟨by rfl, ?_⟩) (by assumption) ?_
      rotate_left
      · intro w9 hS9
        try dsimp only at hS9
        go_split_ands
        go_simp
        try with_reducible rfl
      try simp only [Act.put, List.getElem_toArray, List.getElem_cons_succ, List.getElem_cons_zero, List.setIfInBounds_toArray, List.set_cons_zero, List.set_cons_succ]
      have hput := SysO.put HSY.out HROW.out HXS.out (row' := row ++ row) (by rw [HL9.out]; exact hown12) q12 (by rcases hg12 with h9 | h9; exact .inl (by simpa [Value.ownBlock] using h9.symm); exact .inr (by omega))
      rw [HL9.out] at hput
      have qz : Frm [rg, go] w8 (w12.setCell ⟨go, s, none⟩ (.slice (some ⟨g12, 0, none⟩) (row.length + row.length) cp12)) := (q12.mono (fq := [rg, go]) (by simp)).setCell (.inl (by simp)) _
      have c5z := qz.cell HC8.out (by simp; omega)
      have resz := HRES8.out.frm qz (by simp; omega)
      have rc0 := resz.cell (i := 0) rfl
      have rz0 := resz.frozen 0
      have z12 : w12.frozen? ⟨go, s, none⟩ = false := (HOUT8.out.frm q12 (by simp; omega)).frozen s
      have oc12 := (HOUT8.out.frm q12 (by simp; omega)).cell HXS.out
      have HPUT := Lib.hid hput
      have HQZ := Lib.hid qz
      have HRESZ := Lib.hid resz
      clear hput resz hown12
      refine wpAnyH_done (by kernel_rfl) ?_ _
      refine Qt.last rfl rfl ?_
      simp only [List.getElem_toArray, List.getElem_cons_succ, List.getElem_cons_zero]
      clear qz hHeld
      go_simp
      generalize (w12.setCell ⟨go, s, none⟩ (.slice (some ⟨g12, 0, none⟩) (row.length + row.length) cp12)) = wz at *
      go_wp2_with fail
      have hcs := World.cell?_setCell_same' wz ⟨w.heap.size + 1, 0, none⟩ (.slice (some ⟨go, 0, none⟩) l.length cp2) (by rw [rc0]; rfl)
      refine bodyPost_ret (v := .agg #[.slice (some ⟨go, 0, none⟩) l.length cp2]) (by simp [results, Tryz.results14, go_sem]; rw [hcs]; rfl) rfl ?_
      have hset : Frm [w.heap.size + 1] wz (wz.setCell ⟨w.heap.size + 1, 0, none⟩ (.slice (some ⟨go, 0, none⟩) l.length cp2)) := (Frm.refl _ _).setCell (.inl (by simp)) _
      refine ⟨⟨some ⟨go, 0, none⟩, cp2, _, by rw [List.length_set], (HPUT.out.frm hset (by simp)).lat (by rw [List.length_set]; omega) (fun r hr => ?_)⟩, (HT8.out.frm HQZ.out (by simp; omega) (by simp; omega)).frm hset (by simp; omega) (by simp; omega), ?_⟩
      · rcases List.mem_or_eq_of_mem_set hr with h9 | h9
        · have := HL2.out r h9; omega
        · rw [h9, HL9.out]; omega
      · have := (HFW8.out.mono (fq := [tb, rg, go, w.heap.size + 1]) (by simp)).trans ((HQZ.out.mono (fq := [tb, rg, go, w.heap.size + 1]) (by simp)).trans hset (by simp)) (by simp)
        exact ⟨this.os, this.tape, this.output, this.size, fun q hq hn => this.block q hq (by simp at hn ⊢; omega)⟩

end Go.Proofs.YtikpcipkkhmcfaaGreat
