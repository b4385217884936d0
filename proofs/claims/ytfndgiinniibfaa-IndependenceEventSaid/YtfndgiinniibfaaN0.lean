/- IndependenceEvent returns true: the walk. (Printed by wip/tools/n0.py.) -/
import Derived.Test.YtfndgiinniibfaaM4
import Derived.Test.YtfndgiinniibfaaL9
import Derived.Test.YtfndgiinniibfaaM0
import Derived.Deep.RegionHeld3
namespace Go.Proofs.Ytfndgiinniibfaa.Ind
open Go.Shelf Go.RowKit Go.Lib

theorem eventR_any {F G : List Nat} (w : World) (m : RM) (sv va : Value) (n v : Int) (a : RA) (h : StatesAt w F sv m.states) (ha : NotAt w G va a) :
    Calls Try.prog 21 #[machV m sv, .int .i64 n, arcV va a, .int .i64 v] w fun e w' => e = .returned (.int .i64 (eventB m n a v)) ∧ Frm [] w w' := by
  by_cases hc : validM m = true ∧ 1 ≤ n ∧ n ≤ 12 ∧ 0 ≤ v ∧ v < n
  · exact eventR_good w m sv va n v a h ha hc.1 ⟨hc.2.1, hc.2.2.1⟩ ⟨hc.2.2.2.1, hc.2.2.2.2⟩
  · exact eventR_bad w m sv va n v a h ha hc

set_option linter.unusedSimpArgs false in
set_option maxRecDepth 100000 in
set_option maxHeartbeats 8000000 in
theorem event_walk (ta : Option Addr) (tc : Nat) (xs : List Int) (n v : Int) (va : Value) (ar : RA) (w : World) (ht : Rd w.heap.size w ta xs.length tc 1 (ints xs)) (hx : ∀ x ∈ xs, -9223372036854775808 ≤ x ∧ x ≤ 9223372036854775807) (hna : NotAt w [] va ar) :
    Calls Try.prog 6 #[.slice ta xs.length tc, .int .i64 n, .int .i64 v, arcV va ar] w fun e w' => e = .returned (.bool true) ∧ Frm [] w w' := by
  obtain ⟨na, nc, rfl⟩ := RowV.shape hna
  have f0 : Frm [] w (w.alloc (.cells #[.int .i64 ar.kind, .int .i64 ar.ch, .int .i64 ar.reg, .int .i64 ar.frm, .slice na ar.not.length nc, .int .i64 ar.to] 24)) := (Frm.refl [] w).alloc _
  have hb0 := RowAt.made w 24 [.int .i64 ar.kind, .int .i64 ar.ch, .int .i64 ar.reg, .int .i64 ar.frm, .slice na ar.not.length nc, .int .i64 ar.to] #[.int .i64 ar.kind, .int .i64 ar.ch, .int .i64 ar.reg, .int .i64 ar.frm, .slice na ar.not.length nc, .int .i64 ar.to] rfl
  have htn := tape_new w.heap.size ta tc xs _ (ht.nil f0) hx
  have HNA := Lib.hid hna
  clear ht hx hna
  unfold arcV
  go_enter Try.func6, Try.ntmps6
  go_wp2_with fail
  have hs0 : (w.alloc (.cells #[.int .i64 ar.kind, .int .i64 ar.ch, .int .i64 ar.reg, .int .i64 ar.frm, .slice na ar.not.length nc, .int .i64 ar.to] 24)).heap.size = w.heap.size + 1 := by simp
  generalize w.alloc (.cells #[.int .i64 ar.kind, .int .i64 ar.ch, .int .i64 ar.reg, .int .i64 ar.frm, .slice na ar.not.length nc, .int .i64 ar.to] 24) = W0 at *
  refine htn.mono ?_
  rintro e1 W1 ⟨rfl, hf1, hT1, hs1⟩
  have HF1 := Lib.hid (f0.trans hf1 (by simp))
  have HB1 := Lib.hid (hb0.frm hf1 (by simp))
  have HT1 := Lib.hid hT1
  have HTW : Hid (w.heap.size < W0.heap.size ∧ W0.heap.size < W1.heap.size) := Lib.hid (by omega)
  generalize W0.heap.size = tb at *
  clear htn f0 hb0 hf1 hT1 hs0 hs1
  go_wp2_with fail
  go_loopg [10, 11, 12, 13, 14, 15] 5 (fun q t10 _ _ _ _ _ wr => ∃ (k : Nat), q = 5 - k ∧ k ≤ 5 ∧ t10 = .int .i64 k ∧ TapeOk w.heap.size wr tb (110 * k) ∧ Frm [tb] W1 wr)
  case atStart => exact ⟨0, rfl, Nat.zero_le _, rfl, HT1.out, Frm.refl _ _⟩
  case round =>
    obtain ⟨k, hq, hk, rfl, hT, hF⟩ := hrel
    have HQ := Lib.hid hq
    have HT := Lib.hid hT
    have HF := Lib.hid hF
    have i4 : (0 : Int) ≤ (k : Int) := by omega
    clear hq hT hF
    by_cases hlt : k < 5
    · have i5 : (k : Int) < 5 := by omega
      have HK := Lib.hid hlt
      clear hlt hk
      go_wp2_with fail
      refine (machine_any w.heap.size tb (110 * k) false wr HT.out (Nat.le_of_lt HTW.out.1) (by have := HK.out; omega)).mono ?_
      rintro e2 w2 ⟨m, sv, rfl, hst, hd, hT2, hf2⟩
      obtain ⟨sa, sc, rfl, _⟩ := statesShape hst
      have f3 : Frm [] w2 (w2.alloc (.cells #[.int .i64 m.regs, .int .i64 m.data, .int .i64 m.plain, .slice sa m.states.length sc] 28)) := (Frm.refl [] w2).alloc _
      have HM3 := Lib.hid (RowAt.made w2 28 (mboxC m (.slice sa m.states.length sc)) #[.int .i64 m.regs, .int .i64 m.data, .int .i64 m.plain, .slice sa m.states.length sc] rfl)
      have HST := Lib.hid (hst.nil f3)
      have HT3 := Lib.hid (hT2.nil f3)
      have HF3 := Lib.hid (((HF.out.trans hf2 (fun x hx => .inl hx))).trans f3 (by simp))
      have HD := Lib.hid hd
      have hlen1 : (1 : Int) ≤ (m.states.length : Int) := by have := hd.few.1; omega
      have hlen2 : (m.states.length : Int) ≤ 3 := by have := hd.few.2; omega
      have HTX : Hid (tb < w2.heap.size) := Lib.hid (by have h1 := HTW.out.2; have h2 := HF.out.size; have h3 := hf2.size; omega)
      clear hst hT2 hf2 f3 hd
      unfold machV
      go_wp2_with fail
      generalize w2.alloc (.cells #[.int .i64 m.regs, .int .i64 m.data, .int .i64 m.plain, .slice sa m.states.length sc] 28) = w3 at *
      generalize w2.heap.size = xm at *
      refine (next_any w.heap.size tb (110 * k + 100) m.states.length w3 HT3.out (Nat.le_of_lt HTW.out.1) (by have := HK.out; omega) (by omega)).mono ?_
      rintro e4 w4 ⟨⟨sx, rfl, hsx, -⟩, hT4, hf4⟩
      obtain ⟨s, rfl⟩ : ∃ s : Nat, sx = (s : Int) := ⟨sx.toNat, by omega⟩
      have hs : s < m.states.length := by omega
      obtain ⟨row, hrow⟩ : ∃ row, m.states[s]? = some row := ⟨_, List.getElem?_eq_getElem hs⟩
      have is0 : (0 : Int) ≤ (s : Int) := by omega
      have is1 : (s : Int) < (m.states.length : Int) := by omega
      have HST4 := Lib.hid (HST.out.step hf4 (fun x hx => .inl (by simp at hx; simp [hx])) (fun x hx => .inl hx) : StatesAt w4 [tb] _ _)
      obtain ⟨b8, o8, c8, ra, rn, rc, e8, hc8, hcm8, hb8, hcell8, hrn, harcs⟩ := HST4.out.at_ hrow
      obtain ⟨rfl, rfl⟩ : sa = some ⟨b8, o8, none⟩ ∧ sc = c8 := by simpa using e8
      subst hrn
      have hrl1 : 1 ≤ row.length := List.length_pos_iff.2 (HD.out.full rfl row (List.mem_of_getElem? hrow))
      have hrl3 : row.length ≤ 3 := HD.out.short row (List.mem_of_getElem? hrow)
      obtain ⟨l, hl, hrv, hnt⟩ := harcs
      have HM4 := Lib.hid (HM3.out.frm hf4 (by have := HTX.out; simp; omega))
      have HF4 := Lib.hid (HF3.out.trans hf4 (fun x hx => .inl hx))
      have HT4 := Lib.hid hT4
      have HCELL := Lib.hid hcell8
      have HRV := Lib.hid hrv
      have HNT := Lib.hid hnt
      have HLL := Lib.hid hl
      have HB8 := Lib.hid hb8
      have HRL : Hid (1 ≤ row.length ∧ row.length ≤ 3) := Lib.hid ⟨hrl1, hrl3⟩
      have q3 := HM4.out.cell (i := 3) rfl
      clear hT4 hf4 hsx hs hrow e8 hc8 hcm8 hb8 hcell8 hrl1 hrl3 hl hrv hnt HST HT3 HM3 HF3
      go_wp2_with fail
      have KEEP : Hid (∀ (w' : World), Frm [tb] w4 w' → w'.cell? ⟨xm, 3, none⟩ = some (.slice (some ⟨b8, o8, none⟩) m.states.length sc) ∧ w'.cell? ⟨b8, o8 + s, none⟩ = some (.slice ra row.length rc) ∧ (∀ (i : Nat) (p : Value × RA), l[i]? = some p → ∃ b o, ra = some ⟨b, o, none⟩ ∧ ∀ (j : Nat) (u : Value), (arcC p)[j]? = some u → w'.cell? ⟨b, o + (i * 6 + j), none⟩ = some u)) := Lib.hid fun w' hf => by
        have hx := HM4.out.frm hf (by have := HTX.out; simp; omega)
        refine ⟨hx.cell (i := 3) rfl, hf.cell HCELL.out (by simpa using HB8.out), fun i p hp => ?_⟩
        obtain ⟨_, a', c', e', _, _, _, hcell'⟩ := HRV.out
        cases e'
        have h0 := hcell' (i * 6) _ (by have := rowC_get hp 0 (by omega); rw [Nat.add_zero] at this; exact this)
        obtain ⟨b, o, rfl, _⟩ := h0
        refine ⟨b, o, rfl, fun j u hu => ?_⟩
        have hj : j < 6 := (List.getElem?_eq_some_iff.1 hu).1
        obtain ⟨b', o', e2, hb', _, hc'⟩ := hcell' (i * 6 + j) u (by rw [rowC_get hp j hj]; exact hu)
        cases e2
        exact hf.cell hc' (by simpa using hb')
      have HDR : Hid (Frm [] w4 w4.drew) := Lib.hid (Frm.refl [] w4).drew
      refine' wp_region_last (L := 16) _ (fun w' => w'.cell? ⟨xm, 3, none⟩ = some (.slice (some ⟨b8, o8, none⟩) m.states.length sc) ∧ w'.cell? ⟨b8, o8 + s, none⟩ = some (.slice ra row.length rc) ∧ (∀ (i : Nat) (p : Value × RA), l[i]? = some p → ∃ b o, ra = some ⟨b, o, none⟩ ∧ ∀ (j : Nat) (u : Value), (arcC p)[j]? = some u → w'.cell? ⟨b, o + (i * 6 + j), none⟩ = some u)) (by kernel_rfl) rfl rfl rfl rfl ?he (by kernel_rfl) (by kernel_rfl) ?hS ?h
      case he =>
        simp only [nopOf, List.getElem_toArray, List.getElem_cons_succ, List.getElem_cons_zero, List.setIfInBounds_toArray, List.set_cons_succ, List.set_cons_zero]
        rfl
      case hS => exact KEEP.out _ (HDR.out.mono (by simp))
      intro hHeld
      refine wpAnyH_take (i := 0) (v := ?_) rfl (by kernel_rfl) (by kernel_rfl) (by kernel_rfl) (fun _ _ _ h => h) (Or.inl ⟨by rfl, ?_⟩) (by assumption) ?_
      rotate_left
      · intro w9 hS9
        try dsimp only at hS9
        go_split_ands
        go_simp
        try with_reducible rfl
      try simp only [Act.put, List.getElem_toArray, List.getElem_cons_succ, List.getElem_cons_zero, List.setIfInBounds_toArray, List.set_cons_zero, List.set_cons_succ]
      refine wpAnyH_take (i := 1) (v := ?_) rfl (by kernel_rfl) (by kernel_rfl) (by kernel_rfl) (fun _ _ _ h => h) (Or.inl ⟨by rfl, ?_⟩) (by assumption) ?_
      rotate_left
      · intro w9 hS9
        try dsimp only at hS9
        go_split_ands
        go_simp
        try with_reducible rfl
      try simp only [Act.put, List.getElem_toArray, List.getElem_cons_succ, List.getElem_cons_zero, List.setIfInBounds_toArray, List.set_cons_zero, List.set_cons_succ]
      refine wpAnyH_take (i := 2) (v := ?_) rfl (by kernel_rfl) (by kernel_rfl) (by kernel_rfl) (fun _ _ _ h => h) (Or.inl ⟨by rfl, ?_⟩) (by assumption) ?_
      rotate_left
      · intro w9 hS9
        try dsimp only at hS9
        go_split_ands
        go_simp
        try with_reducible rfl
      try simp only [Act.put, List.getElem_toArray, List.getElem_cons_succ, List.getElem_cons_zero, List.setIfInBounds_toArray, List.set_cons_zero, List.set_cons_succ]
      refine wpAnyH_take (i := 3) (v := ?_) rfl (by kernel_rfl) (by kernel_rfl) (by kernel_rfl) (fun _ _ _ h => h) (Or.inl ⟨by rfl, ?_⟩) (by assumption) ?_
      rotate_left
      · intro w9 hS9
        try dsimp only at hS9
        go_split_ands
        go_simp
        try with_reducible rfl
      try simp only [Act.put, List.getElem_toArray, List.getElem_cons_succ, List.getElem_cons_zero, List.setIfInBounds_toArray, List.set_cons_zero, List.set_cons_succ]
      refine wpAnyH_take (i := 4) (v := ?_) rfl (by kernel_rfl) (by kernel_rfl) (by kernel_rfl) (fun _ _ _ h => h) (Or.inl ⟨by rfl, ?_⟩) (by assumption) ?_
      rotate_left
      · intro w9 hS9
        try dsimp only at hS9
        go_split_ands
        go_simp
        try with_reducible rfl
      try simp only [Act.put, List.getElem_toArray, List.getElem_cons_succ, List.getElem_cons_zero, List.setIfInBounds_toArray, List.set_cons_zero, List.set_cons_succ]
      refine wpAnyH_take (i := 5) (v := ?_) rfl (by kernel_rfl) (by kernel_rfl) (by kernel_rfl) (fun _ _ _ h => h) (Or.inl ⟨by rfl, ?_⟩) (by assumption) ?_
      rotate_left
      · intro w9 hS9
        try dsimp only at hS9
        go_split_ands
        go_simp
        try with_reducible rfl
      try simp only [Act.put, List.getElem_toArray, List.getElem_cons_succ, List.getElem_cons_zero, List.setIfInBounds_toArray, List.set_cons_zero, List.set_cons_succ]
      refine wpAnyH_take (i := 6) (v := ?_) rfl (by kernel_rfl) (by kernel_rfl) (by kernel_rfl) (fun _ _ _ h => h) (Or.inl ⟨by rfl, ?_⟩) (by assumption) ?_
      rotate_left
      · intro w9 hS9
        try dsimp only at hS9
        go_split_ands
        go_simp
        try with_reducible rfl
      try simp only [Act.put, List.getElem_toArray, List.getElem_cons_succ, List.getElem_cons_zero, List.setIfInBounds_toArray, List.set_cons_zero, List.set_cons_succ]
      refine wpAnyH_take (i := 7) (v := ?_) rfl (by kernel_rfl) (by kernel_rfl) (by kernel_rfl) (fun _ _ _ h => h) (Or.inl ⟨by rfl, ?_⟩) (by assumption) ?_
      rotate_left
      · intro w9 hS9
        try dsimp only at hS9
        go_split_ands
        go_simp
        try with_reducible rfl
      try simp only [Act.put, List.getElem_toArray, List.getElem_cons_succ, List.getElem_cons_zero, List.setIfInBounds_toArray, List.set_cons_zero, List.set_cons_succ]
      refine wpAnyH_take (i := 8) (v := ?_) rfl (by kernel_rfl) (by kernel_rfl) (by kernel_rfl) (fun _ _ _ h => h) (Or.inl ⟨by rfl, ?_⟩) (by assumption) ?_
      rotate_left
      · intro w9 hS9
        try dsimp only at hS9
        go_split_ands
        go_simp
        try with_reducible rfl
      try simp only [Act.put, List.getElem_toArray, List.getElem_cons_succ, List.getElem_cons_zero, List.setIfInBounds_toArray, List.set_cons_zero, List.set_cons_succ]
      refine wpAnyH_take (i := 9) (v := ?_) rfl (by kernel_rfl) (by kernel_rfl) (by kernel_rfl) (fun _ _ _ h => h) (Or.inl ⟨by rfl, ?_⟩) (by assumption) ?_
      rotate_left
      · intro w9 hS9
        try dsimp only at hS9
        go_split_ands
        go_simp
        try with_reducible rfl
      try simp only [Act.put, List.getElem_toArray, List.getElem_cons_succ, List.getElem_cons_zero, List.setIfInBounds_toArray, List.set_cons_zero, List.set_cons_succ]
      refine wpAnyH_take (i := 10) (v := ?_) rfl (by kernel_rfl) (by kernel_rfl) (by kernel_rfl) (fun _ _ _ h => h) (Or.inl ⟨by rfl, ?_⟩) (by assumption) ?_
      rotate_left
      · intro w9 hS9
        try dsimp only at hS9
        go_split_ands
        go_simp
        try with_reducible rfl
      try simp only [Act.put, List.getElem_toArray, List.getElem_cons_succ, List.getElem_cons_zero, List.setIfInBounds_toArray, List.set_cons_zero, List.set_cons_succ]
      refine wpAnyH_take (i := 11) (v := ?_) rfl (by kernel_rfl) (by kernel_rfl) (by kernel_rfl) (fun _ _ _ h => h) (Or.inl ⟨by rfl, ?_⟩) (by assumption) ?_
      rotate_left
      · intro w9 hS9
        try dsimp only at hS9
        go_split_ands
        go_simp
        try with_reducible rfl
      try simp only [Act.put, List.getElem_toArray, List.getElem_cons_succ, List.getElem_cons_zero, List.setIfInBounds_toArray, List.set_cons_zero, List.set_cons_succ]
      refine wpAnyH_ready (rs := [12, 15]) (by kernel_rfl) (by simp) ?_
      refine AllReadyH.cons rfl (fun K hK => ?_) (AllReadyH.cons rfl (fun K hK => ?_) AllReadyH.nil)
      · skip
        go_simp
        refine (next_any w.heap.size tb (110 * k + 100 + 1) row.length _ (HT4.out.nil HDR.out) (Nat.le_of_lt HTW.out.1) (by have := HK.out; omega) (by have := HRL.out; omega)).mono ?_
        rintro e5 w5 ⟨⟨ix, rfl, hix, -⟩, hT5, hf5⟩
        obtain ⟨i, rfl⟩ : ∃ i : Nat, ix = (i : Int) := ⟨ix.toNat, by have := HRL.out; omega⟩
        have hi : i < row.length := by have := HRL.out; omega
        have ii0 : (0 : Int) ≤ (i : Int) := by omega
        have ii1 : (i : Int) < (row.length : Int) := by omega
        obtain ⟨p, hp⟩ : ∃ p, l[i]? = some p := ⟨_, List.getElem?_eq_getElem (by rw [← HLL.out, List.length_map] at hi; exact hi)⟩
        obtain ⟨pa, pc, epv⟩ := RowV.shape (HNT.out p (List.mem_of_getElem? hp))
        have HPV := Lib.hid epv
        have HP := Lib.hid hp
        have HF5 := Lib.hid ((HDR.out.mono (fq := [tb]) (by simp)).trans hf5 (fun x hx => .inl hx))
        have HT5 := Lib.hid hT5
        obtain ⟨rb, ro, rfl, -⟩ := (KEEP.out w4 (Frm.refl _ _)).2.2 i p hp
        clear hix hT5 hf5 epv hp
        refine hK.out _ _ ?_ (fun hHeld => ?_)
        · exact KEEP.out _ HF5.out
        clear hK K
        try simp only [Act.put, List.getElem_toArray, List.getElem_cons_succ, List.getElem_cons_zero, List.setIfInBounds_toArray, List.set_cons_zero, List.set_cons_succ]
        refine wpAnyH_take (i := 13) (v := ?_) rfl (by kernel_rfl) (by kernel_rfl) (by kernel_rfl) (fun _ _ _ h => h) (Or.inl ⟨by rfl, ?_⟩) (by assumption) ?_
        rotate_left
        · intro w9 hS9
          try dsimp only at hS9
          go_split_ands
          go_simp
          try with_reducible rfl
        try simp only [Act.put, List.getElem_toArray, List.getElem_cons_succ, List.getElem_cons_zero, List.setIfInBounds_toArray, List.set_cons_zero, List.set_cons_succ]
        refine wpAnyH_take (i := 14) (v := ?_) rfl (by kernel_rfl) (by kernel_rfl) (by kernel_rfl) (fun _ _ _ h => h) (Or.inl ⟨by rfl, ?_⟩) (by assumption) ?_
        rotate_left
        · intro w9 hS9
          obtain ⟨-, -, hS9⟩ := hS9
          obtain ⟨b9, o9, e9, h9⟩ := hS9 i p HP.out
          obtain ⟨rfl, rfl⟩ : rb = b9 ∧ ro = o9 := by simpa using e9
          have h90 := h9 0 _ rfl
          have h91 := h9 1 _ rfl
          have h92 := h9 2 _ rfl
          have h93 := h9 3 _ rfl
          have h94 := h9 4 _ rfl
          have h95 := h9 5 _ rfl
          rw [HPV.out] at h94
          rw [Nat.add_zero] at h90
          simp only [← Nat.add_assoc] at h91 h92 h93 h94 h95
          go_simp
          try with_reducible rfl
        try simp only [Act.put, List.getElem_toArray, List.getElem_cons_succ, List.getElem_cons_zero, List.setIfInBounds_toArray, List.set_cons_zero, List.set_cons_succ]
        refine wpAnyH_ready (rs := [15]) (by kernel_rfl) (by simp) ?_
        refine AllReadyH.cons rfl (fun K hK => ?_) AllReadyH.nil
        go_simp
        have F6 : Frm [] w5 (w5.alloc (.cells #[.int .i64 0, .int .i64 0, .int .i64 0, .int .i64 0, .slice none 0 0, .int .i64 0] 24)) := (Frm.refl [] w5).alloc _
        refine hK.out _ _ ?_ (fun hHeld => ?_)
        · exact KEEP.out _ (HF5.out.trans F6 (by simp))
        clear hK K
        try simp only [Act.put, List.getElem_toArray, List.getElem_cons_succ, List.getElem_cons_zero, List.setIfInBounds_toArray, List.set_cons_zero, List.set_cons_succ]
        refine wpAnyH_take (i := 16) (v := ?_) rfl (by kernel_rfl) (by kernel_rfl) (by kernel_rfl) (fun _ _ _ h => h) (Or.inl ⟨by rfl, ?_⟩) (by assumption) ?_
        rotate_left
        · intro w9 hS9
          try dsimp only at hS9
          go_split_ands
          go_simp
          try with_reducible rfl
        try simp only [Act.put, List.getElem_toArray, List.getElem_cons_succ, List.getElem_cons_zero, List.setIfInBounds_toArray, List.set_cons_zero, List.set_cons_succ]
        refine wpAnyH_done (by kernel_rfl) ?_ _
        refine Qt.last rfl rfl ?_
        simp only [List.getElem_toArray, List.getElem_cons_succ, List.getElem_cons_zero]
        go_simp
        have hx7 := RowAt.made w5 24 [.int .i64 p.2.kind, .int .i64 p.2.ch, .int .i64 p.2.reg, .int .i64 p.2.frm, .slice pa p.2.not.length pc, .int .i64 p.2.to] #[.int .i64 p.2.kind, .int .i64 p.2.ch, .int .i64 p.2.reg, .int .i64 p.2.frm, .slice pa p.2.not.length pc, .int .i64 p.2.to] rfl
        have F7 : Frm [] w5 (w5.alloc (.cells #[.int .i64 p.2.kind, .int .i64 p.2.ch, .int .i64 p.2.reg, .int .i64 p.2.frm, .slice pa p.2.not.length pc, .int .i64 p.2.to] 24)) := (Frm.refl [] w5).alloc _
        have hlx : tb < w5.heap.size := by have h1 := HT5.out.lt; exact h1
        generalize w5.alloc (.cells #[.int .i64 p.2.kind, .int .i64 p.2.ch, .int .i64 p.2.reg, .int .i64 p.2.frm, .slice pa p.2.not.length pc, .int .i64 p.2.to] 24) = wE at *
        have HXE := Lib.hid hx7
        have HFE := Lib.hid (HF5.out.trans F7 (by simp))
        have HTE := Lib.hid (HT5.out.nil F7)
        clear hx7 F7 hHeld ii0 ii1
        generalize w5.heap.size = x13 at *
        have HLX := Lib.hid hlx
        have hnp := HNT.out p (List.mem_of_getElem? HP.out)
        rw [HPV.out] at hnp
        have HNE := Lib.hid (RowV.step hnp HFE.out (fun x hx => .inl (by simp at hx; simp [hx])) (fun x hx => .inl hx) : NotAt wE [tb] (.slice pa p.2.not.length pc) p.2)
        clear hnp hlx
        go_wp2_with fail
        refine (next_any w.heap.size tb (110 * k + 102) 4 wE HTE.out (Nat.le_of_lt HTW.out.1) (by have := HK.out; omega) (by omega)).mono ?_
        rintro e7 w7 ⟨⟨y, rfl, hy, -⟩, hT7, hf7⟩
        have hy1 : 0 ≤ y := by omega
        have hy2 : y < 4 := by omega
        have HT7 := Lib.hid hT7
        have HF7 := Lib.hid (HFE.out.trans hf7 (fun x hx => .inl hx))
        have HX7 := Lib.hid (HXE.out.frm hf7 (by have := HLX.out; simp; omega))
        have HN7 := Lib.hid (RowV.step HNE.out hf7 (fun x hx => .inl (by simp at hx; simp [hx])) (fun x hx => .inl hx) : NotAt w7 [tb] _ p.2)
        clear hy hT7 hf7
        go_wp2_with fail
        refine (next_any w.heap.size tb (110 * k + 103) 5 w7 HT7.out (Nat.le_of_lt HTW.out.1) (by have := HK.out; omega) (by omega)).mono ?_
        rintro e8 w8 ⟨⟨z, rfl, -, -⟩, hT8, hf8⟩
        have HT8 := Lib.hid hT8
        have HF8 := Lib.hid (HF7.out.trans hf8 (fun x hx => .inl hx))
        have HX8 := Lib.hid (HX7.out.frm hf8 (by have := HLX.out; simp; omega))
        have HN8 := Lib.hid (RowV.step HN7.out hf8 (fun x hx => .inl (by simp at hx; simp [hx])) (fun x hx => .inl hx) : NotAt w8 [tb] _ p.2)
        have HM8 := Lib.hid (HM4.out.frm HF8.out (by have := HTX.out; simp; omega))
        have HST8 := Lib.hid (HST4.out.step HF8.out (fun x hx => .inl (by simp at hx; simp [hx])) (fun x hx => .inl hx) : StatesAt w8 [tb] _ _)
        have HFW := Lib.hid (HF4.out.trans HF8.out (fun x hx => .inl hx))
        have HA8 := Lib.hid (HB1.out.frm HFW.out (by have := HTW.out.1; simp; omega))
        have HNA8 := Lib.hid (RowV.step HNA.out (HF1.out.trans (HFW.out.mono (fq := [tb]) (by simp)) (fun x hx => .inr (by have := HTW.out.1; simp at hx; omega)) |> fun h => (⟨h.os, h.tape, h.output, h.size, h.block⟩ : Frm [] w w8)) (by simp) (fun x hx => .inl hx) : NotAt w8 [] _ ar)
        clear hT8 hf8
        have E1 := fun W (hf : Frm [] w8 W) => eventP_any W m (.slice (some ⟨b8, o8, none⟩) m.states.length sc) (.slice pa p.2.not.length pc) (1 + y) z p.2 (HST8.out.nil hf) (RowV.nil HN8.out hf)
        have R1 := fun W (hf : Frm [] w8 W) => eventR_any W m (.slice (some ⟨b8, o8, none⟩) m.states.length sc) (.slice pa p.2.not.length pc) (1 + y) z p.2 (HST8.out.nil hf) (RowV.nil HN8.out hf)
        have E2 := fun W (hf : Frm [] w8 W) => eventP_any W m (.slice (some ⟨b8, o8, none⟩) m.states.length sc) (.slice pa p.2.not.length pc) n v p.2 (HST8.out.nil hf) (RowV.nil HN8.out hf)
        have R2 := fun W (hf : Frm [] w8 W) => eventR_any W m (.slice (some ⟨b8, o8, none⟩) m.states.length sc) (.slice pa p.2.not.length pc) n v p.2 (HST8.out.nil hf) (RowV.nil HN8.out hf)
        have E3 := fun W (hf : Frm [] w8 W) => eventP_any W m (.slice (some ⟨b8, o8, none⟩) m.states.length sc) (.slice na ar.not.length nc) (1 + y) 0 ar (HST8.out.nil hf) (RowV.nil HNA8.out hf)
        have R3 := fun W (hf : Frm [] w8 W) => eventR_any W m (.slice (some ⟨b8, o8, none⟩) m.states.length sc) (.slice na ar.not.length nc) (1 + y) 0 ar (HST8.out.nil hf) (RowV.nil HNA8.out hf)
        unfold machV arcV at E1 R1 E2 R2 E3 R3
        generalize eventB m (1 + y) p.2 z = z1 at E1 R1
        generalize eventB m n p.2 v = z2 at E2 R2
        generalize eventB m (1 + y) ar 0 = z3 at E3 R3
        have HE1 := Lib.hid E1
        have HR1 := Lib.hid R1
        have HE2 := Lib.hid E2
        have HR2 := Lib.hid R2
        have HE3 := Lib.hid E3
        have HR3 := Lib.hid R3
        clear E1 R1 E2 R2 E3 R3
        have KEEP9 : Hid (∀ (w' : World), Frm [] w8 w' → w'.cell? ⟨xm, 0, none⟩ = some (.int .i64 m.regs) ∧ w'.cell? ⟨xm, 1, none⟩ = some (.int .i64 m.data) ∧ w'.cell? ⟨xm, 2, none⟩ = some (.int .i64 m.plain) ∧ w'.cell? ⟨xm, 3, none⟩ = some (.slice (some ⟨b8, o8, none⟩) m.states.length sc) ∧ w'.cell? ⟨x13, 0, none⟩ = some (.int .i64 p.2.kind) ∧ w'.cell? ⟨x13, 1, none⟩ = some (.int .i64 p.2.ch) ∧ w'.cell? ⟨x13, 2, none⟩ = some (.int .i64 p.2.reg) ∧ w'.cell? ⟨x13, 3, none⟩ = some (.int .i64 p.2.frm) ∧ w'.cell? ⟨x13, 4, none⟩ = some (.slice pa p.2.not.length pc) ∧ w'.cell? ⟨x13, 5, none⟩ = some (.int .i64 p.2.to) ∧ w'.cell? ⟨w.heap.size, 0, none⟩ = some (.int .i64 ar.kind) ∧ w'.cell? ⟨w.heap.size, 1, none⟩ = some (.int .i64 ar.ch) ∧ w'.cell? ⟨w.heap.size, 2, none⟩ = some (.int .i64 ar.reg) ∧ w'.cell? ⟨w.heap.size, 3, none⟩ = some (.int .i64 ar.frm) ∧ w'.cell? ⟨w.heap.size, 4, none⟩ = some (.slice na ar.not.length nc) ∧ w'.cell? ⟨w.heap.size, 5, none⟩ = some (.int .i64 ar.to)) := Lib.hid fun w' hf => by
          have h1 := HM8.out.frm hf (by simp)
          have h2 := HX8.out.frm hf (by simp)
          have h3 := HA8.out.frm hf (by simp)
          exact ⟨h1.cell (i := 0) rfl, h1.cell (i := 1) rfl, h1.cell (i := 2) rfl, h1.cell (i := 3) rfl, h2.cell (i := 0) rfl, h2.cell (i := 1) rfl, h2.cell (i := 2) rfl, h2.cell (i := 3) rfl, h2.cell (i := 4) rfl, h2.cell (i := 5) rfl, h3.cell (i := 0) rfl, h3.cell (i := 1) rfl, h3.cell (i := 2) rfl, h3.cell (i := 3) rfl, h3.cell (i := 4) rfl, h3.cell (i := 5) rfl⟩
        by_cases h20 : ar.not.length < 20
        · have i20 : (ar.not.length : Int) < 20 := by omega
          clear h20
          go_wp2_with fail
          refine wp_region_held_drew (S := fun w' => w'.cell? ⟨xm, 0, none⟩ = some (.int .i64 m.regs) ∧ w'.cell? ⟨xm, 1, none⟩ = some (.int .i64 m.data) ∧ w'.cell? ⟨xm, 2, none⟩ = some (.int .i64 m.plain) ∧ w'.cell? ⟨xm, 3, none⟩ = some (.slice (some ⟨b8, o8, none⟩) m.states.length sc) ∧ w'.cell? ⟨x13, 0, none⟩ = some (.int .i64 p.2.kind) ∧ w'.cell? ⟨x13, 1, none⟩ = some (.int .i64 p.2.ch) ∧ w'.cell? ⟨x13, 2, none⟩ = some (.int .i64 p.2.reg) ∧ w'.cell? ⟨x13, 3, none⟩ = some (.int .i64 p.2.frm) ∧ w'.cell? ⟨x13, 4, none⟩ = some (.slice pa p.2.not.length pc) ∧ w'.cell? ⟨x13, 5, none⟩ = some (.int .i64 p.2.to) ∧ w'.cell? ⟨w.heap.size, 0, none⟩ = some (.int .i64 ar.kind) ∧ w'.cell? ⟨w.heap.size, 1, none⟩ = some (.int .i64 ar.ch) ∧ w'.cell? ⟨w.heap.size, 2, none⟩ = some (.int .i64 ar.reg) ∧ w'.cell? ⟨w.heap.size, 3, none⟩ = some (.int .i64 ar.frm) ∧ w'.cell? ⟨w.heap.size, 4, none⟩ = some (.slice na ar.not.length nc) ∧ w'.cell? ⟨w.heap.size, 5, none⟩ = some (.int .i64 ar.to)) (by kernel_rfl) (KEEP9.out _ (Frm.refl [] w8).drew) ?_
          intro hHeld
          refine wpAnyH_take (i := 0) (v := ?_) rfl (by kernel_rfl) (by kernel_rfl) (by kernel_rfl) (fun _ _ _ h => h) (Or.inl ⟨by rfl, ?_⟩) (by assumption) ?_
          rotate_left
          · intro w9 hS9
            try dsimp only at hS9
            go_split_ands
            go_simp
            try with_reducible rfl
          try simp only [Act.put, List.getElem_toArray, List.getElem_cons_succ, List.getElem_cons_zero, List.setIfInBounds_toArray, List.set_cons_zero, List.set_cons_succ]
          refine wpAnyH_take (i := 1) (v := ?_) rfl (by kernel_rfl) (by kernel_rfl) (by kernel_rfl) (fun _ _ _ h => h) (Or.inl ⟨by rfl, ?_⟩) (by assumption) ?_
          rotate_left
          · intro w9 hS9
            try dsimp only at hS9
            go_split_ands
            go_simp
            try with_reducible rfl
          try simp only [Act.put, List.getElem_toArray, List.getElem_cons_succ, List.getElem_cons_zero, List.setIfInBounds_toArray, List.set_cons_zero, List.set_cons_succ]
          refine wpAnyH_take (i := 2) (v := ?_) rfl (by kernel_rfl) (by kernel_rfl) (by kernel_rfl) (fun _ _ _ h => h) (Or.inl ⟨by rfl, ?_⟩) (by assumption) ?_
          rotate_left
          · intro w9 hS9
            try dsimp only at hS9
            go_split_ands
            go_simp
            try with_reducible rfl
          try simp only [Act.put, List.getElem_toArray, List.getElem_cons_succ, List.getElem_cons_zero, List.setIfInBounds_toArray, List.set_cons_zero, List.set_cons_succ]
          refine wpAnyH_take (i := 3) (v := ?_) rfl (by kernel_rfl) (by kernel_rfl) (by kernel_rfl) (fun _ _ _ h => h) (Or.inl ⟨by rfl, ?_⟩) (by assumption) ?_
          rotate_left
          · intro w9 hS9
            try dsimp only at hS9
            go_split_ands
            go_simp
            try with_reducible rfl
          try simp only [Act.put, List.getElem_toArray, List.getElem_cons_succ, List.getElem_cons_zero, List.setIfInBounds_toArray, List.set_cons_zero, List.set_cons_succ]
          refine wpAnyH_take (i := 5) (v := ?_) rfl (by kernel_rfl) (by kernel_rfl) (by kernel_rfl) (fun _ _ _ h => h) (Or.inl ⟨by rfl, ?_⟩) (by assumption) ?_
          rotate_left
          · intro w9 hS9
            try dsimp only at hS9
            go_split_ands
            go_simp
            try with_reducible rfl
          try simp only [Act.put, List.getElem_toArray, List.getElem_cons_succ, List.getElem_cons_zero, List.setIfInBounds_toArray, List.set_cons_zero, List.set_cons_succ]
          refine wpAnyH_take (i := 6) (v := ?_) rfl (by kernel_rfl) (by kernel_rfl) (by kernel_rfl) (fun _ _ _ h => h) (Or.inl ⟨by rfl, ?_⟩) (by assumption) ?_
          rotate_left
          · intro w9 hS9
            try dsimp only at hS9
            go_split_ands
            go_simp
            try with_reducible rfl
          try simp only [Act.put, List.getElem_toArray, List.getElem_cons_succ, List.getElem_cons_zero, List.setIfInBounds_toArray, List.set_cons_zero, List.set_cons_succ]
          refine wpAnyH_take (i := 7) (v := ?_) rfl (by kernel_rfl) (by kernel_rfl) (by kernel_rfl) (fun _ _ _ h => h) (Or.inl ⟨by rfl, ?_⟩) (by assumption) ?_
          rotate_left
          · intro w9 hS9
            try dsimp only at hS9
            go_split_ands
            go_simp
            try with_reducible rfl
          try simp only [Act.put, List.getElem_toArray, List.getElem_cons_succ, List.getElem_cons_zero, List.setIfInBounds_toArray, List.set_cons_zero, List.set_cons_succ]
          refine wpAnyH_take (i := 8) (v := ?_) rfl (by kernel_rfl) (by kernel_rfl) (by kernel_rfl) (fun _ _ _ h => h) (Or.inl ⟨by rfl, ?_⟩) (by assumption) ?_
          rotate_left
          · intro w9 hS9
            try dsimp only at hS9
            go_split_ands
            go_simp
            try with_reducible rfl
          try simp only [Act.put, List.getElem_toArray, List.getElem_cons_succ, List.getElem_cons_zero, List.setIfInBounds_toArray, List.set_cons_zero, List.set_cons_succ]
          refine wpAnyH_ready (rs := [4]) (by kernel_rfl) (by simp) ?_
          refine AllReadyH.cons rfl (fun K hK => ?_) AllReadyH.nil
          go_simp
          refine (HE1.out _ (Frm.refl [] w8).drew).mono ?_
          rintro e20 v1 ⟨rfl, hg1⟩
          have hq1 := (Frm.refl [] w8).drew.trans hg1 (by simp)
          refine hK.out _ _ ?_ (fun hHeld => ?_)
          · exact KEEP9.out _ hq1
          clear hK K
          try simp only [Act.put, List.getElem_toArray, List.getElem_cons_succ, List.getElem_cons_zero, List.setIfInBounds_toArray, List.set_cons_zero, List.set_cons_succ]
          refine wpAnyH_ready (rs := [9]) (by kernel_rfl) (by simp) ?_
          refine AllReadyH.cons rfl (fun K hK => ?_) AllReadyH.nil
          go_simp
          refine (HR1.out _ hq1).mono ?_
          rintro e21 v2 ⟨rfl, hg2⟩
          have hq2 := hq1.trans hg2 (by simp)
          refine hK.out _ _ ?_ (fun hHeld => ?_)
          · exact KEEP9.out _ hq2
          clear hK K
          try simp only [Act.put, List.getElem_toArray, List.getElem_cons_succ, List.getElem_cons_zero, List.setIfInBounds_toArray, List.set_cons_zero, List.set_cons_succ]
          refine wpAnyH_take (i := 10) (v := ?_) rfl (by kernel_rfl) (by kernel_rfl) (by kernel_rfl) (fun _ _ _ h => h) (Or.inl ⟨by rfl, ?_⟩) (by assumption) ?_
          rotate_left
          · intro w9 hS9
            try dsimp only at hS9
            go_split_ands
            go_simp
            try with_reducible rfl
          try simp only [Act.put, List.getElem_toArray, List.getElem_cons_succ, List.getElem_cons_zero, List.setIfInBounds_toArray, List.set_cons_zero, List.set_cons_succ]
          refine wpAnyH_take (i := 11) (v := ?_) rfl (by kernel_rfl) (by kernel_rfl) (by kernel_rfl) (fun _ _ _ h => h) (Or.inl ⟨by rfl, ?_⟩) (by assumption) ?_
          rotate_left
          · intro w9 hS9
            try dsimp only at hS9
            go_split_ands
            go_simp
            try with_reducible rfl
          try simp only [Act.put, List.getElem_toArray, List.getElem_cons_succ, List.getElem_cons_zero, List.setIfInBounds_toArray, List.set_cons_zero, List.set_cons_succ]
          refine wpAnyH_take (i := 12) (v := ?_) rfl (by kernel_rfl) (by kernel_rfl) (by kernel_rfl) (fun _ _ _ h => h) (Or.inl ⟨by rfl, ?_⟩) (by assumption) ?_
          rotate_left
          · intro w9 hS9
            try dsimp only at hS9
            go_split_ands
            go_simp
            try with_reducible rfl
          try simp only [Act.put, List.getElem_toArray, List.getElem_cons_succ, List.getElem_cons_zero, List.setIfInBounds_toArray, List.set_cons_zero, List.set_cons_succ]
          refine wpAnyH_take (i := 13) (v := ?_) rfl (by kernel_rfl) (by kernel_rfl) (by kernel_rfl) (fun _ _ _ h => h) (Or.inl ⟨by rfl, ?_⟩) (by assumption) ?_
          rotate_left
          · intro w9 hS9
            try dsimp only at hS9
            go_split_ands
            go_simp
            try with_reducible rfl
          try simp only [Act.put, List.getElem_toArray, List.getElem_cons_succ, List.getElem_cons_zero, List.setIfInBounds_toArray, List.set_cons_zero, List.set_cons_succ]
          refine wpAnyH_take (i := 14) (v := ?_) rfl (by kernel_rfl) (by kernel_rfl) (by kernel_rfl) (fun _ _ _ h => h) (Or.inl ⟨by rfl, ?_⟩) (by assumption) ?_
          rotate_left
          · intro w9 hS9
            try dsimp only at hS9
            go_split_ands
            go_simp
            try with_reducible rfl
          try simp only [Act.put, List.getElem_toArray, List.getElem_cons_succ, List.getElem_cons_zero, List.setIfInBounds_toArray, List.set_cons_zero, List.set_cons_succ]
          refine wpAnyH_take (i := 15) (v := ?_) rfl (by kernel_rfl) (by kernel_rfl) (by kernel_rfl) (fun _ _ _ h => h) (Or.inl ⟨by rfl, ?_⟩) (by assumption) ?_
          rotate_left
          · intro w9 hS9
            try dsimp only at hS9
            go_split_ands
            go_simp
            try with_reducible rfl
          try simp only [Act.put, List.getElem_toArray, List.getElem_cons_succ, List.getElem_cons_zero, List.setIfInBounds_toArray, List.set_cons_zero, List.set_cons_succ]
          refine wpAnyH_take (i := 17) (v := ?_) rfl (by kernel_rfl) (by kernel_rfl) (by kernel_rfl) (fun _ _ _ h => h) (Or.inl ⟨by rfl, ?_⟩) (by assumption) ?_
          rotate_left
          · intro w9 hS9
            try dsimp only at hS9
            go_split_ands
            go_simp
            try with_reducible rfl
          try simp only [Act.put, List.getElem_toArray, List.getElem_cons_succ, List.getElem_cons_zero, List.setIfInBounds_toArray, List.set_cons_zero, List.set_cons_succ]
          refine wpAnyH_take (i := 18) (v := ?_) rfl (by kernel_rfl) (by kernel_rfl) (by kernel_rfl) (fun _ _ _ h => h) (Or.inl ⟨by rfl, ?_⟩) (by assumption) ?_
          rotate_left
          · intro w9 hS9
            try dsimp only at hS9
            go_split_ands
            go_simp
            try with_reducible rfl
          try simp only [Act.put, List.getElem_toArray, List.getElem_cons_succ, List.getElem_cons_zero, List.setIfInBounds_toArray, List.set_cons_zero, List.set_cons_succ]
          refine wpAnyH_take (i := 19) (v := ?_) rfl (by kernel_rfl) (by kernel_rfl) (by kernel_rfl) (fun _ _ _ h => h) (Or.inl ⟨by rfl, ?_⟩) (by assumption) ?_
          rotate_left
          · intro w9 hS9
            try dsimp only at hS9
            go_split_ands
            go_simp
            try with_reducible rfl
          try simp only [Act.put, List.getElem_toArray, List.getElem_cons_succ, List.getElem_cons_zero, List.setIfInBounds_toArray, List.set_cons_zero, List.set_cons_succ]
          refine wpAnyH_take (i := 20) (v := ?_) rfl (by kernel_rfl) (by kernel_rfl) (by kernel_rfl) (fun _ _ _ h => h) (Or.inl ⟨by rfl, ?_⟩) (by assumption) ?_
          rotate_left
          · intro w9 hS9
            try dsimp only at hS9
            go_split_ands
            go_simp
            try with_reducible rfl
          try simp only [Act.put, List.getElem_toArray, List.getElem_cons_succ, List.getElem_cons_zero, List.setIfInBounds_toArray, List.set_cons_zero, List.set_cons_succ]
          refine wpAnyH_ready (rs := [16]) (by kernel_rfl) (by simp) ?_
          refine AllReadyH.cons rfl (fun K hK => ?_) AllReadyH.nil
          go_simp
          refine (HE2.out _ hq2).mono ?_
          rintro e22 v3 ⟨rfl, hg3⟩
          have hq3 := hq2.trans hg3 (by simp)
          refine hK.out _ _ ?_ (fun hHeld => ?_)
          · exact KEEP9.out _ hq3
          clear hK K
          try simp only [Act.put, List.getElem_toArray, List.getElem_cons_succ, List.getElem_cons_zero, List.setIfInBounds_toArray, List.set_cons_zero, List.set_cons_succ]
          refine wpAnyH_ready (rs := [21]) (by kernel_rfl) (by simp) ?_
          refine AllReadyH.cons rfl (fun K hK => ?_) AllReadyH.nil
          go_simp
          refine (HR2.out _ hq3).mono ?_
          rintro e23 v4 ⟨rfl, hg4⟩
          have hq4 := hq3.trans hg4 (by simp)
          refine hK.out _ _ ?_ (fun hHeld => ?_)
          · exact KEEP9.out _ hq4
          clear hK K
          try simp only [Act.put, List.getElem_toArray, List.getElem_cons_succ, List.getElem_cons_zero, List.setIfInBounds_toArray, List.set_cons_zero, List.set_cons_succ]
          refine wpAnyH_take (i := 22) (v := ?_) rfl (by kernel_rfl) (by kernel_rfl) (by kernel_rfl) (fun _ _ _ h => h) (Or.inl ⟨by rfl, ?_⟩) (by assumption) ?_
          rotate_left
          · intro w9 hS9
            try dsimp only at hS9
            go_split_ands
            go_simp
            try with_reducible rfl
          try simp only [Act.put, List.getElem_toArray, List.getElem_cons_succ, List.getElem_cons_zero, List.setIfInBounds_toArray, List.set_cons_zero, List.set_cons_succ]
          refine wpAnyH_take (i := 23) (v := ?_) rfl (by kernel_rfl) (by kernel_rfl) (by kernel_rfl) (fun _ _ _ h => h) (Or.inl ⟨by rfl, ?_⟩) (by assumption) ?_
          rotate_left
          · intro w9 hS9
            try dsimp only at hS9
            go_split_ands
            go_simp
            try with_reducible rfl
          try simp only [Act.put, List.getElem_toArray, List.getElem_cons_succ, List.getElem_cons_zero, List.setIfInBounds_toArray, List.set_cons_zero, List.set_cons_succ]
          refine wpAnyH_take (i := 24) (v := ?_) rfl (by kernel_rfl) (by kernel_rfl) (by kernel_rfl) (fun _ _ _ h => h) (Or.inl ⟨by rfl, ?_⟩) (by assumption) ?_
          rotate_left
          · intro w9 hS9
            try dsimp only at hS9
            go_split_ands
            go_simp
            try with_reducible rfl
          try simp only [Act.put, List.getElem_toArray, List.getElem_cons_succ, List.getElem_cons_zero, List.setIfInBounds_toArray, List.set_cons_zero, List.set_cons_succ]
          refine wpAnyH_take (i := 25) (v := ?_) rfl (by kernel_rfl) (by kernel_rfl) (by kernel_rfl) (fun _ _ _ h => h) (Or.inl ⟨by rfl, ?_⟩) (by assumption) ?_
          rotate_left
          · intro w9 hS9
            try dsimp only at hS9
            go_split_ands
            go_simp
            try with_reducible rfl
          try simp only [Act.put, List.getElem_toArray, List.getElem_cons_succ, List.getElem_cons_zero, List.setIfInBounds_toArray, List.set_cons_zero, List.set_cons_succ]
          refine wpAnyH_take (i := 26) (v := ?_) rfl (by kernel_rfl) (by kernel_rfl) (by kernel_rfl) (fun _ _ _ h => h) (Or.inl ⟨by rfl, ?_⟩) (by assumption) ?_
          rotate_left
          · intro w9 hS9
            try dsimp only at hS9
            go_split_ands
            go_simp
            try with_reducible rfl
          try simp only [Act.put, List.getElem_toArray, List.getElem_cons_succ, List.getElem_cons_zero, List.setIfInBounds_toArray, List.set_cons_zero, List.set_cons_succ]
          refine wpAnyH_take (i := 27) (v := ?_) rfl (by kernel_rfl) (by kernel_rfl) (by kernel_rfl) (fun _ _ _ h => h) (Or.inl ⟨by rfl, ?_⟩) (by assumption) ?_
          rotate_left
          · intro w9 hS9
            try dsimp only at hS9
            go_split_ands
            go_simp
            try with_reducible rfl
          try simp only [Act.put, List.getElem_toArray, List.getElem_cons_succ, List.getElem_cons_zero, List.setIfInBounds_toArray, List.set_cons_zero, List.set_cons_succ]
          refine wpAnyH_take (i := 28) (v := ?_) rfl (by kernel_rfl) (by kernel_rfl) (by kernel_rfl) (fun _ _ _ h => h) (Or.inl ⟨by rfl, ?_⟩) (by assumption) ?_
          rotate_left
          · intro w9 hS9
            try dsimp only at hS9
            go_split_ands
            go_simp
            try with_reducible rfl
          try simp only [Act.put, List.getElem_toArray, List.getElem_cons_succ, List.getElem_cons_zero, List.setIfInBounds_toArray, List.set_cons_zero, List.set_cons_succ]
          refine wpAnyH_take (i := 29) (v := ?_) rfl (by kernel_rfl) (by kernel_rfl) (by kernel_rfl) (fun _ _ _ h => h) (Or.inl ⟨by rfl, ?_⟩) (by assumption) ?_
          rotate_left
          · intro w9 hS9
            try dsimp only at hS9
            go_split_ands
            go_simp
            try with_reducible rfl
          try simp only [Act.put, List.getElem_toArray, List.getElem_cons_succ, List.getElem_cons_zero, List.setIfInBounds_toArray, List.set_cons_zero, List.set_cons_succ]
          refine wpAnyH_take (i := 30) (v := ?_) rfl (by kernel_rfl) (by kernel_rfl) (by kernel_rfl) (fun _ _ _ h => h) (Or.inl ⟨by rfl, ?_⟩) (by assumption) ?_
          rotate_left
          · intro w9 hS9
            try dsimp only at hS9
            go_split_ands
            go_simp
            try with_reducible rfl
          try simp only [Act.put, List.getElem_toArray, List.getElem_cons_succ, List.getElem_cons_zero, List.setIfInBounds_toArray, List.set_cons_zero, List.set_cons_succ]
          refine wpAnyH_take (i := 31) (v := ?_) rfl (by kernel_rfl) (by kernel_rfl) (by kernel_rfl) (fun _ _ _ h => h) (Or.inl ⟨by rfl, ?_⟩) (by assumption) ?_
          rotate_left
          · intro w9 hS9
            try dsimp only at hS9
            go_split_ands
            go_simp
            try with_reducible rfl
          try simp only [Act.put, List.getElem_toArray, List.getElem_cons_succ, List.getElem_cons_zero, List.setIfInBounds_toArray, List.set_cons_zero, List.set_cons_succ]
          refine wpAnyH_take (i := 32) (v := ?_) rfl (by kernel_rfl) (by kernel_rfl) (by kernel_rfl) (fun _ _ _ h => h) (Or.inl ⟨by rfl, ?_⟩) (by assumption) ?_
          rotate_left
          · intro w9 hS9
            try dsimp only at hS9
            go_split_ands
            go_simp
            try with_reducible rfl
          try simp only [Act.put, List.getElem_toArray, List.getElem_cons_succ, List.getElem_cons_zero, List.setIfInBounds_toArray, List.set_cons_zero, List.set_cons_succ]
          refine wpAnyH_take (i := 34) (v := ?_) rfl (by kernel_rfl) (by kernel_rfl) (by kernel_rfl) (fun _ _ _ h => h) (Or.inl ⟨by rfl, ?_⟩) (by assumption) ?_
          rotate_left
          · intro w9 hS9
            try dsimp only at hS9
            go_split_ands
            go_simp
            try with_reducible rfl
          try simp only [Act.put, List.getElem_toArray, List.getElem_cons_succ, List.getElem_cons_zero, List.setIfInBounds_toArray, List.set_cons_zero, List.set_cons_succ]
          refine wpAnyH_take (i := 35) (v := ?_) rfl (by kernel_rfl) (by kernel_rfl) (by kernel_rfl) (fun _ _ _ h => h) (Or.inl ⟨by rfl, ?_⟩) (by assumption) ?_
          rotate_left
          · intro w9 hS9
            try dsimp only at hS9
            go_split_ands
            go_simp
            try with_reducible rfl
          try simp only [Act.put, List.getElem_toArray, List.getElem_cons_succ, List.getElem_cons_zero, List.setIfInBounds_toArray, List.set_cons_zero, List.set_cons_succ]
          refine wpAnyH_take (i := 36) (v := ?_) rfl (by kernel_rfl) (by kernel_rfl) (by kernel_rfl) (fun _ _ _ h => h) (Or.inl ⟨by rfl, ?_⟩) (by assumption) ?_
          rotate_left
          · intro w9 hS9
            try dsimp only at hS9
            go_split_ands
            go_simp
            try with_reducible rfl
          try simp only [Act.put, List.getElem_toArray, List.getElem_cons_succ, List.getElem_cons_zero, List.setIfInBounds_toArray, List.set_cons_zero, List.set_cons_succ]
          refine wpAnyH_ready (rs := [33]) (by kernel_rfl) (by simp) ?_
          refine AllReadyH.cons rfl (fun K hK => ?_) AllReadyH.nil
          go_simp
          refine (HE3.out _ hq4).mono ?_
          rintro e24 v5 ⟨rfl, hg5⟩
          have hq5 := hq4.trans hg5 (by simp)
          refine hK.out _ _ ?_ (fun hHeld => ?_)
          · exact KEEP9.out _ hq5
          clear hK K
          try simp only [Act.put, List.getElem_toArray, List.getElem_cons_succ, List.getElem_cons_zero, List.setIfInBounds_toArray, List.set_cons_zero, List.set_cons_succ]
          refine wpAnyH_ready (rs := [37]) (by kernel_rfl) (by simp) ?_
          refine AllReadyH.cons rfl (fun K hK => ?_) AllReadyH.nil
          go_simp
          refine (HR3.out _ hq5).mono ?_
          rintro e25 v6 ⟨rfl, hg6⟩
          have hq6 := hq5.trans hg6 (by simp)
          refine hK.out _ _ ?_ (fun hHeld => ?_)
          · exact KEEP9.out _ hq6
          clear hK K
          try simp only [Act.put, List.getElem_toArray, List.getElem_cons_succ, List.getElem_cons_zero, List.setIfInBounds_toArray, List.set_cons_zero, List.set_cons_succ]
          refine wpAnyH_take (i := 38) (v := ?_) rfl (by kernel_rfl) (by kernel_rfl) (by kernel_rfl) (fun _ _ _ h => h) (Or.inl ⟨by rfl, ?_⟩) (by assumption) ?_
          rotate_left
          · intro w9 hS9
            try dsimp only at hS9
            go_split_ands
            go_simp
            try with_reducible rfl
          try simp only [Act.put, List.getElem_toArray, List.getElem_cons_succ, List.getElem_cons_zero, List.setIfInBounds_toArray, List.set_cons_zero, List.set_cons_succ]
          refine wpAnyH_take (i := 39) (v := ?_) rfl (by kernel_rfl) (by kernel_rfl) (by kernel_rfl) (fun _ _ _ h => h) (Or.inl ⟨by rfl, ?_⟩) (by assumption) ?_
          rotate_left
          · intro w9 hS9
            try dsimp only at hS9
            go_split_ands
            go_simp
            try with_reducible rfl
          try simp only [Act.put, List.getElem_toArray, List.getElem_cons_succ, List.getElem_cons_zero, List.setIfInBounds_toArray, List.set_cons_zero, List.set_cons_succ]
          refine wpAnyH_take (i := 40) (v := ?_) rfl (by kernel_rfl) (by kernel_rfl) (by kernel_rfl) (fun _ _ _ h => h) (Or.inl ⟨by rfl, ?_⟩) (by assumption) ?_
          rotate_left
          · intro w9 hS9
            try dsimp only at hS9
            go_split_ands
            go_simp
            try with_reducible rfl
          try simp only [Act.put, List.getElem_toArray, List.getElem_cons_succ, List.getElem_cons_zero, List.setIfInBounds_toArray, List.set_cons_zero, List.set_cons_succ]
          refine wpAnyH_done (by kernel_rfl) ?_ _
          have HFQ := Lib.hid (HFW.out.trans hq6 (by simp))
          have HTQ := Lib.hid (HT8.out.nil hq6)
          clear hq1 hg1 hq2 hg2 hq3 hg3 hq4 hg4 hq5 hg5 hq6 hg6
          go_wp2_with fail
          go_roundg (5 - (k + 1))
          case rel => exact ⟨k + 1, rfl, by have := HK.out; omega, by go_num, HTQ.out.mono (by omega), HFQ.out⟩
          case measure => have := HQ.out; have := HK.out; omega
        · have i20 : decide ((ar.not.length : Int) < 20) = false := by rw [decide_eq_false_iff_not]; omega
          clear h20
          go_wp2_with fail
          refine wp_region_held_drew (S := fun w' => w'.cell? ⟨xm, 0, none⟩ = some (.int .i64 m.regs) ∧ w'.cell? ⟨xm, 1, none⟩ = some (.int .i64 m.data) ∧ w'.cell? ⟨xm, 2, none⟩ = some (.int .i64 m.plain) ∧ w'.cell? ⟨xm, 3, none⟩ = some (.slice (some ⟨b8, o8, none⟩) m.states.length sc) ∧ w'.cell? ⟨x13, 0, none⟩ = some (.int .i64 p.2.kind) ∧ w'.cell? ⟨x13, 1, none⟩ = some (.int .i64 p.2.ch) ∧ w'.cell? ⟨x13, 2, none⟩ = some (.int .i64 p.2.reg) ∧ w'.cell? ⟨x13, 3, none⟩ = some (.int .i64 p.2.frm) ∧ w'.cell? ⟨x13, 4, none⟩ = some (.slice pa p.2.not.length pc) ∧ w'.cell? ⟨x13, 5, none⟩ = some (.int .i64 p.2.to) ∧ w'.cell? ⟨w.heap.size, 0, none⟩ = some (.int .i64 ar.kind) ∧ w'.cell? ⟨w.heap.size, 1, none⟩ = some (.int .i64 ar.ch) ∧ w'.cell? ⟨w.heap.size, 2, none⟩ = some (.int .i64 ar.reg) ∧ w'.cell? ⟨w.heap.size, 3, none⟩ = some (.int .i64 ar.frm) ∧ w'.cell? ⟨w.heap.size, 4, none⟩ = some (.slice na ar.not.length nc) ∧ w'.cell? ⟨w.heap.size, 5, none⟩ = some (.int .i64 ar.to)) (by kernel_rfl) (KEEP9.out _ (Frm.refl [] w8).drew) ?_
          intro hHeld
          refine wpAnyH_take (i := 0) (v := ?_) rfl (by kernel_rfl) (by kernel_rfl) (by kernel_rfl) (fun _ _ _ h => h) (Or.inl ⟨by rfl, ?_⟩) (by assumption) ?_
          rotate_left
          · intro w9 hS9
            try dsimp only at hS9
            go_split_ands
            go_simp
            try with_reducible rfl
          try simp only [Act.put, List.getElem_toArray, List.getElem_cons_succ, List.getElem_cons_zero, List.setIfInBounds_toArray, List.set_cons_zero, List.set_cons_succ]
          refine wpAnyH_take (i := 1) (v := ?_) rfl (by kernel_rfl) (by kernel_rfl) (by kernel_rfl) (fun _ _ _ h => h) (Or.inl ⟨by rfl, ?_⟩) (by assumption) ?_
          rotate_left
          · intro w9 hS9
            try dsimp only at hS9
            go_split_ands
            go_simp
            try with_reducible rfl
          try simp only [Act.put, List.getElem_toArray, List.getElem_cons_succ, List.getElem_cons_zero, List.setIfInBounds_toArray, List.set_cons_zero, List.set_cons_succ]
          refine wpAnyH_take (i := 2) (v := ?_) rfl (by kernel_rfl) (by kernel_rfl) (by kernel_rfl) (fun _ _ _ h => h) (Or.inl ⟨by rfl, ?_⟩) (by assumption) ?_
          rotate_left
          · intro w9 hS9
            try dsimp only at hS9
            go_split_ands
            go_simp
            try with_reducible rfl
          try simp only [Act.put, List.getElem_toArray, List.getElem_cons_succ, List.getElem_cons_zero, List.setIfInBounds_toArray, List.set_cons_zero, List.set_cons_succ]
          refine wpAnyH_take (i := 3) (v := ?_) rfl (by kernel_rfl) (by kernel_rfl) (by kernel_rfl) (fun _ _ _ h => h) (Or.inl ⟨by rfl, ?_⟩) (by assumption) ?_
          rotate_left
          · intro w9 hS9
            try dsimp only at hS9
            go_split_ands
            go_simp
            try with_reducible rfl
          try simp only [Act.put, List.getElem_toArray, List.getElem_cons_succ, List.getElem_cons_zero, List.setIfInBounds_toArray, List.set_cons_zero, List.set_cons_succ]
          refine wpAnyH_take (i := 5) (v := ?_) rfl (by kernel_rfl) (by kernel_rfl) (by kernel_rfl) (fun _ _ _ h => h) (Or.inl ⟨by rfl, ?_⟩) (by assumption) ?_
          rotate_left
          · intro w9 hS9
            try dsimp only at hS9
            go_split_ands
            go_simp
            try with_reducible rfl
          try simp only [Act.put, List.getElem_toArray, List.getElem_cons_succ, List.getElem_cons_zero, List.setIfInBounds_toArray, List.set_cons_zero, List.set_cons_succ]
          refine wpAnyH_take (i := 6) (v := ?_) rfl (by kernel_rfl) (by kernel_rfl) (by kernel_rfl) (fun _ _ _ h => h) (Or.inl ⟨by rfl, ?_⟩) (by assumption) ?_
          rotate_left
          · intro w9 hS9
            try dsimp only at hS9
            go_split_ands
            go_simp
            try with_reducible rfl
          try simp only [Act.put, List.getElem_toArray, List.getElem_cons_succ, List.getElem_cons_zero, List.setIfInBounds_toArray, List.set_cons_zero, List.set_cons_succ]
          refine wpAnyH_take (i := 7) (v := ?_) rfl (by kernel_rfl) (by kernel_rfl) (by kernel_rfl) (fun _ _ _ h => h) (Or.inl ⟨by rfl, ?_⟩) (by assumption) ?_
          rotate_left
          · intro w9 hS9
            try dsimp only at hS9
            go_split_ands
            go_simp
            try with_reducible rfl
          try simp only [Act.put, List.getElem_toArray, List.getElem_cons_succ, List.getElem_cons_zero, List.setIfInBounds_toArray, List.set_cons_zero, List.set_cons_succ]
          refine wpAnyH_take (i := 8) (v := ?_) rfl (by kernel_rfl) (by kernel_rfl) (by kernel_rfl) (fun _ _ _ h => h) (Or.inl ⟨by rfl, ?_⟩) (by assumption) ?_
          rotate_left
          · intro w9 hS9
            try dsimp only at hS9
            go_split_ands
            go_simp
            try with_reducible rfl
          try simp only [Act.put, List.getElem_toArray, List.getElem_cons_succ, List.getElem_cons_zero, List.setIfInBounds_toArray, List.set_cons_zero, List.set_cons_succ]
          refine wpAnyH_ready (rs := [4]) (by kernel_rfl) (by simp) ?_
          refine AllReadyH.cons rfl (fun K hK => ?_) AllReadyH.nil
          go_simp
          refine (HE1.out _ (Frm.refl [] w8).drew).mono ?_
          rintro e20 v1 ⟨rfl, hg1⟩
          have hq1 := (Frm.refl [] w8).drew.trans hg1 (by simp)
          refine hK.out _ _ ?_ (fun hHeld => ?_)
          · exact KEEP9.out _ hq1
          clear hK K
          try simp only [Act.put, List.getElem_toArray, List.getElem_cons_succ, List.getElem_cons_zero, List.setIfInBounds_toArray, List.set_cons_zero, List.set_cons_succ]
          refine wpAnyH_ready (rs := [9]) (by kernel_rfl) (by simp) ?_
          refine AllReadyH.cons rfl (fun K hK => ?_) AllReadyH.nil
          go_simp
          refine (HR1.out _ hq1).mono ?_
          rintro e21 v2 ⟨rfl, hg2⟩
          have hq2 := hq1.trans hg2 (by simp)
          refine hK.out _ _ ?_ (fun hHeld => ?_)
          · exact KEEP9.out _ hq2
          clear hK K
          try simp only [Act.put, List.getElem_toArray, List.getElem_cons_succ, List.getElem_cons_zero, List.setIfInBounds_toArray, List.set_cons_zero, List.set_cons_succ]
          refine wpAnyH_take (i := 10) (v := ?_) rfl (by kernel_rfl) (by kernel_rfl) (by kernel_rfl) (fun _ _ _ h => h) (Or.inl ⟨by rfl, ?_⟩) (by assumption) ?_
          rotate_left
          · intro w9 hS9
            try dsimp only at hS9
            go_split_ands
            go_simp
            try with_reducible rfl
          try simp only [Act.put, List.getElem_toArray, List.getElem_cons_succ, List.getElem_cons_zero, List.setIfInBounds_toArray, List.set_cons_zero, List.set_cons_succ]
          refine wpAnyH_take (i := 11) (v := ?_) rfl (by kernel_rfl) (by kernel_rfl) (by kernel_rfl) (fun _ _ _ h => h) (Or.inl ⟨by rfl, ?_⟩) (by assumption) ?_
          rotate_left
          · intro w9 hS9
            try dsimp only at hS9
            go_split_ands
            go_simp
            try with_reducible rfl
          try simp only [Act.put, List.getElem_toArray, List.getElem_cons_succ, List.getElem_cons_zero, List.setIfInBounds_toArray, List.set_cons_zero, List.set_cons_succ]
          refine wpAnyH_take (i := 12) (v := ?_) rfl (by kernel_rfl) (by kernel_rfl) (by kernel_rfl) (fun _ _ _ h => h) (Or.inl ⟨by rfl, ?_⟩) (by assumption) ?_
          rotate_left
          · intro w9 hS9
            try dsimp only at hS9
            go_split_ands
            go_simp
            try with_reducible rfl
          try simp only [Act.put, List.getElem_toArray, List.getElem_cons_succ, List.getElem_cons_zero, List.setIfInBounds_toArray, List.set_cons_zero, List.set_cons_succ]
          refine wpAnyH_take (i := 13) (v := ?_) rfl (by kernel_rfl) (by kernel_rfl) (by kernel_rfl) (fun _ _ _ h => h) (Or.inl ⟨by rfl, ?_⟩) (by assumption) ?_
          rotate_left
          · intro w9 hS9
            try dsimp only at hS9
            go_split_ands
            go_simp
            try with_reducible rfl
          try simp only [Act.put, List.getElem_toArray, List.getElem_cons_succ, List.getElem_cons_zero, List.setIfInBounds_toArray, List.set_cons_zero, List.set_cons_succ]
          refine wpAnyH_take (i := 14) (v := ?_) rfl (by kernel_rfl) (by kernel_rfl) (by kernel_rfl) (fun _ _ _ h => h) (Or.inl ⟨by rfl, ?_⟩) (by assumption) ?_
          rotate_left
          · intro w9 hS9
            try dsimp only at hS9
            go_split_ands
            go_simp
            try with_reducible rfl
          try simp only [Act.put, List.getElem_toArray, List.getElem_cons_succ, List.getElem_cons_zero, List.setIfInBounds_toArray, List.set_cons_zero, List.set_cons_succ]
          refine wpAnyH_take (i := 15) (v := ?_) rfl (by kernel_rfl) (by kernel_rfl) (by kernel_rfl) (fun _ _ _ h => h) (Or.inl ⟨by rfl, ?_⟩) (by assumption) ?_
          rotate_left
          · intro w9 hS9
            try dsimp only at hS9
            go_split_ands
            go_simp
            try with_reducible rfl
          try simp only [Act.put, List.getElem_toArray, List.getElem_cons_succ, List.getElem_cons_zero, List.setIfInBounds_toArray, List.set_cons_zero, List.set_cons_succ]
          refine wpAnyH_take (i := 17) (v := ?_) rfl (by kernel_rfl) (by kernel_rfl) (by kernel_rfl) (fun _ _ _ h => h) (Or.inl ⟨by rfl, ?_⟩) (by assumption) ?_
          rotate_left
          · intro w9 hS9
            try dsimp only at hS9
            go_split_ands
            go_simp
            try with_reducible rfl
          try simp only [Act.put, List.getElem_toArray, List.getElem_cons_succ, List.getElem_cons_zero, List.setIfInBounds_toArray, List.set_cons_zero, List.set_cons_succ]
          refine wpAnyH_take (i := 18) (v := ?_) rfl (by kernel_rfl) (by kernel_rfl) (by kernel_rfl) (fun _ _ _ h => h) (Or.inl ⟨by rfl, ?_⟩) (by assumption) ?_
          rotate_left
          · intro w9 hS9
            try dsimp only at hS9
            go_split_ands
            go_simp
            try with_reducible rfl
          try simp only [Act.put, List.getElem_toArray, List.getElem_cons_succ, List.getElem_cons_zero, List.setIfInBounds_toArray, List.set_cons_zero, List.set_cons_succ]
          refine wpAnyH_take (i := 19) (v := ?_) rfl (by kernel_rfl) (by kernel_rfl) (by kernel_rfl) (fun _ _ _ h => h) (Or.inl ⟨by rfl, ?_⟩) (by assumption) ?_
          rotate_left
          · intro w9 hS9
            try dsimp only at hS9
            go_split_ands
            go_simp
            try with_reducible rfl
          try simp only [Act.put, List.getElem_toArray, List.getElem_cons_succ, List.getElem_cons_zero, List.setIfInBounds_toArray, List.set_cons_zero, List.set_cons_succ]
          refine wpAnyH_take (i := 20) (v := ?_) rfl (by kernel_rfl) (by kernel_rfl) (by kernel_rfl) (fun _ _ _ h => h) (Or.inl ⟨by rfl, ?_⟩) (by assumption) ?_
          rotate_left
          · intro w9 hS9
            try dsimp only at hS9
            go_split_ands
            go_simp
            try with_reducible rfl
          try simp only [Act.put, List.getElem_toArray, List.getElem_cons_succ, List.getElem_cons_zero, List.setIfInBounds_toArray, List.set_cons_zero, List.set_cons_succ]
          refine wpAnyH_ready (rs := [16]) (by kernel_rfl) (by simp) ?_
          refine AllReadyH.cons rfl (fun K hK => ?_) AllReadyH.nil
          go_simp
          refine (HE2.out _ hq2).mono ?_
          rintro e22 v3 ⟨rfl, hg3⟩
          have hq3 := hq2.trans hg3 (by simp)
          refine hK.out _ _ ?_ (fun hHeld => ?_)
          · exact KEEP9.out _ hq3
          clear hK K
          try simp only [Act.put, List.getElem_toArray, List.getElem_cons_succ, List.getElem_cons_zero, List.setIfInBounds_toArray, List.set_cons_zero, List.set_cons_succ]
          refine wpAnyH_ready (rs := [21]) (by kernel_rfl) (by simp) ?_
          refine AllReadyH.cons rfl (fun K hK => ?_) AllReadyH.nil
          go_simp
          refine (HR2.out _ hq3).mono ?_
          rintro e23 v4 ⟨rfl, hg4⟩
          have hq4 := hq3.trans hg4 (by simp)
          refine hK.out _ _ ?_ (fun hHeld => ?_)
          · exact KEEP9.out _ hq4
          clear hK K
          try simp only [Act.put, List.getElem_toArray, List.getElem_cons_succ, List.getElem_cons_zero, List.setIfInBounds_toArray, List.set_cons_zero, List.set_cons_succ]
          refine wpAnyH_take (i := 22) (v := ?_) rfl (by kernel_rfl) (by kernel_rfl) (by kernel_rfl) (fun _ _ _ h => h) (Or.inl ⟨by rfl, ?_⟩) (by assumption) ?_
          rotate_left
          · intro w9 hS9
            try dsimp only at hS9
            go_split_ands
            go_simp
            try with_reducible rfl
          try simp only [Act.put, List.getElem_toArray, List.getElem_cons_succ, List.getElem_cons_zero, List.setIfInBounds_toArray, List.set_cons_zero, List.set_cons_succ]
          refine wpAnyH_take (i := 23) (v := ?_) rfl (by kernel_rfl) (by kernel_rfl) (by kernel_rfl) (fun _ _ _ h => h) (Or.inl ⟨by rfl, ?_⟩) (by assumption) ?_
          rotate_left
          · intro w9 hS9
            try dsimp only at hS9
            go_split_ands
            go_simp
            try with_reducible rfl
          try simp only [Act.put, List.getElem_toArray, List.getElem_cons_succ, List.getElem_cons_zero, List.setIfInBounds_toArray, List.set_cons_zero, List.set_cons_succ]
          refine wpAnyH_take (i := 24) (v := ?_) rfl (by kernel_rfl) (by kernel_rfl) (by kernel_rfl) (fun _ _ _ h => h) (Or.inl ⟨by rfl, ?_⟩) (by assumption) ?_
          rotate_left
          · intro w9 hS9
            try dsimp only at hS9
            go_split_ands
            go_simp
            try with_reducible rfl
          try simp only [Act.put, List.getElem_toArray, List.getElem_cons_succ, List.getElem_cons_zero, List.setIfInBounds_toArray, List.set_cons_zero, List.set_cons_succ]
          refine wpAnyH_take (i := 25) (v := ?_) rfl (by kernel_rfl) (by kernel_rfl) (by kernel_rfl) (fun _ _ _ h => h) (Or.inl ⟨by rfl, ?_⟩) (by assumption) ?_
          rotate_left
          · intro w9 hS9
            try dsimp only at hS9
            go_split_ands
            go_simp
            try with_reducible rfl
          try simp only [Act.put, List.getElem_toArray, List.getElem_cons_succ, List.getElem_cons_zero, List.setIfInBounds_toArray, List.set_cons_zero, List.set_cons_succ]
          refine wpAnyH_take (i := 26) (v := ?_) rfl (by kernel_rfl) (by kernel_rfl) (by kernel_rfl) (fun _ _ _ h => h) (Or.inl ⟨by rfl, ?_⟩) (by assumption) ?_
          rotate_left
          · intro w9 hS9
            try dsimp only at hS9
            go_split_ands
            go_simp
            try with_reducible rfl
          try simp only [Act.put, List.getElem_toArray, List.getElem_cons_succ, List.getElem_cons_zero, List.setIfInBounds_toArray, List.set_cons_zero, List.set_cons_succ]
          refine wpAnyH_take (i := 27) (v := ?_) rfl (by kernel_rfl) (by kernel_rfl) (by kernel_rfl) (fun _ _ _ h => h) (Or.inl ⟨by rfl, ?_⟩) (by assumption) ?_
          rotate_left
          · intro w9 hS9
            try dsimp only at hS9
            go_split_ands
            go_simp
            try with_reducible rfl
          try simp only [Act.put, List.getElem_toArray, List.getElem_cons_succ, List.getElem_cons_zero, List.setIfInBounds_toArray, List.set_cons_zero, List.set_cons_succ]
          refine wpAnyH_take (i := 28) (v := ?_) rfl (by kernel_rfl) (by kernel_rfl) (by kernel_rfl) (fun _ _ _ h => h) (Or.inl ⟨by rfl, ?_⟩) (by assumption) ?_
          rotate_left
          · intro w9 hS9
            try dsimp only at hS9
            go_split_ands
            go_simp
            try with_reducible rfl
          try simp only [Act.put, List.getElem_toArray, List.getElem_cons_succ, List.getElem_cons_zero, List.setIfInBounds_toArray, List.set_cons_zero, List.set_cons_succ]
          refine wpAnyH_take (i := 29) (v := ?_) rfl (by kernel_rfl) (by kernel_rfl) (by kernel_rfl) (fun _ _ _ h => h) (Or.inl ⟨by rfl, ?_⟩) (by assumption) ?_
          rotate_left
          · intro w9 hS9
            try dsimp only at hS9
            go_split_ands
            go_simp
            try with_reducible rfl
          try simp only [Act.put, List.getElem_toArray, List.getElem_cons_succ, List.getElem_cons_zero, List.setIfInBounds_toArray, List.set_cons_zero, List.set_cons_succ]
          first
            | (refine wpAnyH_take (i := 30) (v := undef) rfl (by kernel_rfl) (by kernel_rfl) (by kernel_rfl) (fun _ _ _ h => h) (Or.inr ⟨by rfl, rfl⟩) (by assumption) ?_)
            | (refine wpAnyH_take (i := 30) (v := ?_) rfl (by kernel_rfl) (by kernel_rfl) (by kernel_rfl) (fun _ _ _ h => h) (Or.inl ⟨by rfl, ?_⟩) (by assumption) ?_; rotate_left; (intro w9 hS9; (try dsimp only at hS9); go_split_ands; go_simp; try with_reducible rfl))
          try simp only [Act.put, List.getElem_toArray, List.getElem_cons_succ, List.getElem_cons_zero, List.setIfInBounds_toArray, List.set_cons_zero, List.set_cons_succ]
          first
            | (refine wpAnyH_take (i := 31) (v := undef) rfl (by kernel_rfl) (by kernel_rfl) (by kernel_rfl) (fun _ _ _ h => h) (Or.inr ⟨by rfl, rfl⟩) (by assumption) ?_)
            | (refine wpAnyH_take (i := 31) (v := ?_) rfl (by kernel_rfl) (by kernel_rfl) (by kernel_rfl) (fun _ _ _ h => h) (Or.inl ⟨by rfl, ?_⟩) (by assumption) ?_; rotate_left; (intro w9 hS9; (try dsimp only at hS9); go_split_ands; go_simp; try with_reducible rfl))
          try simp only [Act.put, List.getElem_toArray, List.getElem_cons_succ, List.getElem_cons_zero, List.setIfInBounds_toArray, List.set_cons_zero, List.set_cons_succ]
          first
            | (refine wpAnyH_take (i := 32) (v := undef) rfl (by kernel_rfl) (by kernel_rfl) (by kernel_rfl) (fun _ _ _ h => h) (Or.inr ⟨by rfl, rfl⟩) (by assumption) ?_)
            | (refine wpAnyH_take (i := 32) (v := ?_) rfl (by kernel_rfl) (by kernel_rfl) (by kernel_rfl) (fun _ _ _ h => h) (Or.inl ⟨by rfl, ?_⟩) (by assumption) ?_; rotate_left; (intro w9 hS9; (try dsimp only at hS9); go_split_ands; go_simp; try with_reducible rfl))
          try simp only [Act.put, List.getElem_toArray, List.getElem_cons_succ, List.getElem_cons_zero, List.setIfInBounds_toArray, List.set_cons_zero, List.set_cons_succ]
          first
            | (refine wpAnyH_take (i := 33) (v := undef) rfl (by kernel_rfl) (by kernel_rfl) (by kernel_rfl) (fun _ _ _ h => h) (Or.inr ⟨by rfl, rfl⟩) (by assumption) ?_)
            | (refine wpAnyH_take (i := 33) (v := ?_) rfl (by kernel_rfl) (by kernel_rfl) (by kernel_rfl) (fun _ _ _ h => h) (Or.inl ⟨by rfl, ?_⟩) (by assumption) ?_; rotate_left; (intro w9 hS9; (try dsimp only at hS9); go_split_ands; go_simp; try with_reducible rfl))
          try simp only [Act.put, List.getElem_toArray, List.getElem_cons_succ, List.getElem_cons_zero, List.setIfInBounds_toArray, List.set_cons_zero, List.set_cons_succ]
          first
            | (refine wpAnyH_take (i := 34) (v := undef) rfl (by kernel_rfl) (by kernel_rfl) (by kernel_rfl) (fun _ _ _ h => h) (Or.inr ⟨by rfl, rfl⟩) (by assumption) ?_)
            | (refine wpAnyH_take (i := 34) (v := ?_) rfl (by kernel_rfl) (by kernel_rfl) (by kernel_rfl) (fun _ _ _ h => h) (Or.inl ⟨by rfl, ?_⟩) (by assumption) ?_; rotate_left; (intro w9 hS9; (try dsimp only at hS9); go_split_ands; go_simp; try with_reducible rfl))
          try simp only [Act.put, List.getElem_toArray, List.getElem_cons_succ, List.getElem_cons_zero, List.setIfInBounds_toArray, List.set_cons_zero, List.set_cons_succ]
          first
            | (refine wpAnyH_take (i := 35) (v := undef) rfl (by kernel_rfl) (by kernel_rfl) (by kernel_rfl) (fun _ _ _ h => h) (Or.inr ⟨by rfl, rfl⟩) (by assumption) ?_)
            | (refine wpAnyH_take (i := 35) (v := ?_) rfl (by kernel_rfl) (by kernel_rfl) (by kernel_rfl) (fun _ _ _ h => h) (Or.inl ⟨by rfl, ?_⟩) (by assumption) ?_; rotate_left; (intro w9 hS9; (try dsimp only at hS9); go_split_ands; go_simp; try with_reducible rfl))
          try simp only [Act.put, List.getElem_toArray, List.getElem_cons_succ, List.getElem_cons_zero, List.setIfInBounds_toArray, List.set_cons_zero, List.set_cons_succ]
          first
            | (refine wpAnyH_take (i := 36) (v := undef) rfl (by kernel_rfl) (by kernel_rfl) (by kernel_rfl) (fun _ _ _ h => h) (Or.inr ⟨by rfl, rfl⟩) (by assumption) ?_)
            | (refine wpAnyH_take (i := 36) (v := ?_) rfl (by kernel_rfl) (by kernel_rfl) (by kernel_rfl) (fun _ _ _ h => h) (Or.inl ⟨by rfl, ?_⟩) (by assumption) ?_; rotate_left; (intro w9 hS9; (try dsimp only at hS9); go_split_ands; go_simp; try with_reducible rfl))
          try simp only [Act.put, List.getElem_toArray, List.getElem_cons_succ, List.getElem_cons_zero, List.setIfInBounds_toArray, List.set_cons_zero, List.set_cons_succ]
          first
            | (refine wpAnyH_take (i := 37) (v := undef) rfl (by kernel_rfl) (by kernel_rfl) (by kernel_rfl) (fun _ _ _ h => h) (Or.inr ⟨by rfl, rfl⟩) (by assumption) ?_)
            | (refine wpAnyH_take (i := 37) (v := ?_) rfl (by kernel_rfl) (by kernel_rfl) (by kernel_rfl) (fun _ _ _ h => h) (Or.inl ⟨by rfl, ?_⟩) (by assumption) ?_; rotate_left; (intro w9 hS9; (try dsimp only at hS9); go_split_ands; go_simp; try with_reducible rfl))
          try simp only [Act.put, List.getElem_toArray, List.getElem_cons_succ, List.getElem_cons_zero, List.setIfInBounds_toArray, List.set_cons_zero, List.set_cons_succ]
          first
            | (refine wpAnyH_take (i := 38) (v := undef) rfl (by kernel_rfl) (by kernel_rfl) (by kernel_rfl) (fun _ _ _ h => h) (Or.inr ⟨by rfl, rfl⟩) (by assumption) ?_)
            | (refine wpAnyH_take (i := 38) (v := ?_) rfl (by kernel_rfl) (by kernel_rfl) (by kernel_rfl) (fun _ _ _ h => h) (Or.inl ⟨by rfl, ?_⟩) (by assumption) ?_; rotate_left; (intro w9 hS9; (try dsimp only at hS9); go_split_ands; go_simp; try with_reducible rfl))
          try simp only [Act.put, List.getElem_toArray, List.getElem_cons_succ, List.getElem_cons_zero, List.setIfInBounds_toArray, List.set_cons_zero, List.set_cons_succ]
          refine wpAnyH_take (i := 39) (v := ?_) rfl (by kernel_rfl) (by kernel_rfl) (by kernel_rfl) (fun _ _ _ h => h) (Or.inl ⟨by rfl, ?_⟩) (by assumption) ?_
          rotate_left
          · intro w9 hS9
            try dsimp only at hS9
            go_split_ands
            go_simp
            try with_reducible rfl
          try simp only [Act.put, List.getElem_toArray, List.getElem_cons_succ, List.getElem_cons_zero, List.setIfInBounds_toArray, List.set_cons_zero, List.set_cons_succ]
          refine wpAnyH_take (i := 40) (v := ?_) rfl (by kernel_rfl) (by kernel_rfl) (by kernel_rfl) (fun _ _ _ h => h) (Or.inl ⟨by rfl, ?_⟩) (by assumption) ?_
          rotate_left
          · intro w9 hS9
            try dsimp only at hS9
            go_split_ands
            go_simp
            try with_reducible rfl
          try simp only [Act.put, List.getElem_toArray, List.getElem_cons_succ, List.getElem_cons_zero, List.setIfInBounds_toArray, List.set_cons_zero, List.set_cons_succ]
          refine wpAnyH_done (by kernel_rfl) ?_ _
          have HFQ := Lib.hid (HFW.out.trans hq4 (by simp))
          have HTQ := Lib.hid (HT8.out.nil hq4)
          clear hq1 hg1 hq2 hg2 hq3 hg3 hq4 hg4
          go_wp2_with fail
          go_roundg (5 - (k + 1))
          case rel => exact ⟨k + 1, rfl, by have := HK.out; omega, by go_num, HTQ.out.mono (by omega), HFQ.out⟩
          case measure => have := HQ.out; have := HK.out; omega
      · skip
        go_simp
        have F5 : Frm [] w4 (w4.alloc (.cells #[.int .i64 0, .int .i64 0, .int .i64 0, .int .i64 0, .slice none 0 0, .int .i64 0] 24)).drew := ((Frm.refl [] w4).alloc _).drew
        have hx5 := RowAt.drew (RowAt.made w4 24 [.int .i64 0, .int .i64 0, .int .i64 0, .int .i64 0, .slice none 0 0, .int .i64 0] #[.int .i64 0, .int .i64 0, .int .i64 0, .int .i64 0, .slice none 0 0, .int .i64 0] rfl)
        refine hK.out _ _ ?_ (fun hHeld => ?_)
        · exact KEEP.out _ (F5.mono (by simp))
        clear hK K
        try simp only [Act.put, List.getElem_toArray, List.getElem_cons_succ, List.getElem_cons_zero, List.setIfInBounds_toArray, List.set_cons_zero, List.set_cons_succ]
        have hlx : tb < w4.heap.size := HT4.out.lt
        generalize (w4.alloc (.cells #[.int .i64 0, .int .i64 0, .int .i64 0, .int .i64 0, .slice none 0 0, .int .i64 0] 24)).drew = wA at *
        have hx13 : w4.heap.size ≤ w4.heap.size := Nat.le_refl _
        generalize hx14 : w4.heap.size = x13 at hx5 hlx ⊢
        have HX13 : Hid (w4.heap.size ≤ x13) := Lib.hid (by omega)
        clear hx13 hx14
        have HF5A := Lib.hid F5
        have HX5A := Lib.hid hx5
        have HLX := Lib.hid hlx
        clear F5 hx5 hlx
        refine wpAnyH_ready (rs := [12]) (by kernel_rfl) (by simp) ?_
        refine AllReadyH.cons rfl (fun K hK => ?_) AllReadyH.nil
        go_simp
        refine (next_any w.heap.size tb (110 * k + 100 + 1) row.length _ (HT4.out.nil HF5A.out) (Nat.le_of_lt HTW.out.1) (by have := HK.out; omega) (by have := HRL.out; omega)).mono ?_
        rintro e5 w5 ⟨⟨ix, rfl, hix, -⟩, hT5, hf5⟩
        obtain ⟨i, rfl⟩ : ∃ i : Nat, ix = (i : Int) := ⟨ix.toNat, by have := HRL.out; omega⟩
        have hi : i < row.length := by have := HRL.out; omega
        have ii0 : (0 : Int) ≤ (i : Int) := by omega
        have ii1 : (i : Int) < (row.length : Int) := by omega
        obtain ⟨p, hp⟩ : ∃ p, l[i]? = some p := ⟨_, List.getElem?_eq_getElem (by rw [← HLL.out, List.length_map] at hi; exact hi)⟩
        obtain ⟨pa, pc, epv⟩ := RowV.shape (HNT.out p (List.mem_of_getElem? hp))
        have HPV := Lib.hid epv
        have HP := Lib.hid hp
        have HF5 := Lib.hid ((HF5A.out.mono (fq := [tb]) (by simp)).trans hf5 (fun x hx => .inl hx))
        have HT5 := Lib.hid hT5
        have HX5 := Lib.hid (HX5A.out.frm hf5 (by have := HLX.out; simp; omega))
        obtain ⟨rb, ro, rfl, -⟩ := (KEEP.out w4 (Frm.refl _ _)).2.2 i p hp
        clear hix hT5 hf5 epv hp
        refine hK.out _ _ ?_ (fun hHeld => ?_)
        · exact KEEP.out _ HF5.out
        clear hK K
        try simp only [Act.put, List.getElem_toArray, List.getElem_cons_succ, List.getElem_cons_zero, List.setIfInBounds_toArray, List.set_cons_zero, List.set_cons_succ]
        refine wpAnyH_take (i := 13) (v := ?_) rfl (by kernel_rfl) (by kernel_rfl) (by kernel_rfl) (fun _ _ _ h => h) (Or.inl ⟨by rfl, ?_⟩) (by assumption) ?_
        rotate_left
        · intro w9 hS9
          try dsimp only at hS9
          go_split_ands
          go_simp
          try with_reducible rfl
        try simp only [Act.put, List.getElem_toArray, List.getElem_cons_succ, List.getElem_cons_zero, List.setIfInBounds_toArray, List.set_cons_zero, List.set_cons_succ]
        refine wpAnyH_take (i := 14) (v := ?_) rfl (by kernel_rfl) (by kernel_rfl) (by kernel_rfl) (fun _ _ _ h => h) (Or.inl ⟨by rfl, ?_⟩) (by assumption) ?_
        rotate_left
        · intro w9 hS9
          obtain ⟨-, -, hS9⟩ := hS9
          obtain ⟨b9, o9, e9, h9⟩ := hS9 i p HP.out
          obtain ⟨rfl, rfl⟩ : rb = b9 ∧ ro = o9 := by simpa using e9
          have h90 := h9 0 _ rfl
          have h91 := h9 1 _ rfl
          have h92 := h9 2 _ rfl
          have h93 := h9 3 _ rfl
          have h94 := h9 4 _ rfl
          have h95 := h9 5 _ rfl
          rw [HPV.out] at h94
          rw [Nat.add_zero] at h90
          simp only [← Nat.add_assoc] at h91 h92 h93 h94 h95
          go_simp
          try with_reducible rfl
        try simp only [Act.put, List.getElem_toArray, List.getElem_cons_succ, List.getElem_cons_zero, List.setIfInBounds_toArray, List.set_cons_zero, List.set_cons_succ]
        refine wpAnyH_take (i := 16) (v := ?_) rfl (by kernel_rfl) (by kernel_rfl) (by kernel_rfl) (fun _ _ _ h => h) (Or.inl ⟨by rfl, ?_⟩) (by assumption) ?_
        rotate_left
        · intro w9 hS9
          try dsimp only at hS9
          go_split_ands
          go_simp
          try with_reducible rfl
        try simp only [Act.put, List.getElem_toArray, List.getElem_cons_succ, List.getElem_cons_zero, List.setIfInBounds_toArray, List.set_cons_zero, List.set_cons_succ]
        refine wpAnyH_done (by kernel_rfl) ?_ _
        refine Qt.last rfl rfl ?_
        simp only [List.getElem_toArray, List.getElem_cons_succ, List.getElem_cons_zero]
        have d0 := HX5.out.cell (i := 0) rfl
        have d1 := HX5.out.cell (i := 1) rfl
        have d2 := HX5.out.cell (i := 2) rfl
        have d3 := HX5.out.cell (i := 3) rfl
        have d4 := HX5.out.cell (i := 4) rfl
        have d5 := HX5.out.cell (i := 5) rfl
        have y0 := HX5.out.frozen 0
        have y1 := HX5.out.frozen 1
        have y2 := HX5.out.frozen 2
        have y3 := HX5.out.frozen 3
        have y4 := HX5.out.frozen 4
        have y5 := HX5.out.frozen 5
        go_simp
        have hx7 := (((((HX5.out.setCell 0 (.int .i64 p.2.kind)).setCell 1 (.int .i64 p.2.ch)).setCell 2 (.int .i64 p.2.reg)).setCell 3 (.int .i64 p.2.frm)).setCell 4 (.slice pa p.2.not.length pc)).setCell 5 (.int .i64 p.2.to)
        have F7 : Frm [x13] w5 ((((((w5.setCell ⟨x13, 0, none⟩ (.int .i64 p.2.kind)).setCell ⟨x13, 1, none⟩ (.int .i64 p.2.ch)).setCell ⟨x13, 2, none⟩ (.int .i64 p.2.reg)).setCell ⟨x13, 3, none⟩ (.int .i64 p.2.frm)).setCell ⟨x13, 4, none⟩ (.slice pa p.2.not.length pc)).setCell ⟨x13, 5, none⟩ (.int .i64 p.2.to)) := ((((((Frm.refl _ w5).setCell (.inl (by simp)) _).setCell (.inl (by simp)) _).setCell (.inl (by simp)) _).setCell (.inl (by simp)) _).setCell (.inl (by simp)) _).setCell (.inl (by simp)) _
        simp only [List.set_cons_succ, List.set_cons_zero] at hx7
        generalize ((((((w5.setCell ⟨x13, 0, none⟩ (.int .i64 p.2.kind)).setCell ⟨x13, 1, none⟩ (.int .i64 p.2.ch)).setCell ⟨x13, 2, none⟩ (.int .i64 p.2.reg)).setCell ⟨x13, 3, none⟩ (.int .i64 p.2.frm)).setCell ⟨x13, 4, none⟩ (.slice pa p.2.not.length pc)).setCell ⟨x13, 5, none⟩ (.int .i64 p.2.to)) = wE at *
        have HXE := Lib.hid hx7
        have HFE := Lib.hid (HF5.out.trans F7 (fun x hx => .inr (by simp at hx; rw [hx]; exact HX13.out)))
        have hte := HT5.out.frm F7 (by have := HLX.out; have := HTW.out.1; simp; omega) (by have := HLX.out; simp; omega)
        have HTE := Lib.hid hte
        have hnp := HNT.out p (List.mem_of_getElem? HP.out)
        rw [HPV.out] at hnp
        have HNE := Lib.hid (RowV.step hnp HFE.out (fun x hx => .inl (by simp at hx; simp [hx])) (fun x hx => .inl hx) : NotAt wE [tb] (.slice pa p.2.not.length pc) p.2)
        clear d0 d1 d2 d3 d4 d5 y0 y1 y2 y3 y4 y5 hx7 F7 hHeld ii0 ii1 hnp hte
        go_wp2_with fail
        refine (next_any w.heap.size tb (110 * k + 102) 4 wE HTE.out (Nat.le_of_lt HTW.out.1) (by have := HK.out; omega) (by omega)).mono ?_
        rintro e7 w7 ⟨⟨y, rfl, hy, -⟩, hT7, hf7⟩
        have hy1 : 0 ≤ y := by omega
        have hy2 : y < 4 := by omega
        have HT7 := Lib.hid hT7
        have HF7 := Lib.hid (HFE.out.trans hf7 (fun x hx => .inl hx))
        have HX7 := Lib.hid (HXE.out.frm hf7 (by have := HLX.out; simp; omega))
        have HN7 := Lib.hid (RowV.step HNE.out hf7 (fun x hx => .inl (by simp at hx; simp [hx])) (fun x hx => .inl hx) : NotAt w7 [tb] _ p.2)
        clear hy hT7 hf7
        go_wp2_with fail
        refine (next_any w.heap.size tb (110 * k + 103) 5 w7 HT7.out (Nat.le_of_lt HTW.out.1) (by have := HK.out; omega) (by omega)).mono ?_
        rintro e8 w8 ⟨⟨z, rfl, -, -⟩, hT8, hf8⟩
        have HT8 := Lib.hid hT8
        have HF8 := Lib.hid (HF7.out.trans hf8 (fun x hx => .inl hx))
        have HX8 := Lib.hid (HX7.out.frm hf8 (by have := HLX.out; simp; omega))
        have HN8 := Lib.hid (RowV.step HN7.out hf8 (fun x hx => .inl (by simp at hx; simp [hx])) (fun x hx => .inl hx) : NotAt w8 [tb] _ p.2)
        have HM8 := Lib.hid (HM4.out.frm HF8.out (by have := HTX.out; simp; omega))
        have HST8 := Lib.hid (HST4.out.step HF8.out (fun x hx => .inl (by simp at hx; simp [hx])) (fun x hx => .inl hx) : StatesAt w8 [tb] _ _)
        have HFW := Lib.hid (HF4.out.trans HF8.out (fun x hx => .inl hx))
        have HA8 := Lib.hid (HB1.out.frm HFW.out (by have := HTW.out.1; simp; omega))
        have HNA8 := Lib.hid (RowV.step HNA.out (HF1.out.trans (HFW.out.mono (fq := [tb]) (by simp)) (fun x hx => .inr (by have := HTW.out.1; simp at hx; omega)) |> fun h => (⟨h.os, h.tape, h.output, h.size, h.block⟩ : Frm [] w w8)) (by simp) (fun x hx => .inl hx) : NotAt w8 [] _ ar)
        clear hT8 hf8
        have E1 := fun W (hf : Frm [] w8 W) => eventP_any W m (.slice (some ⟨b8, o8, none⟩) m.states.length sc) (.slice pa p.2.not.length pc) (1 + y) z p.2 (HST8.out.nil hf) (RowV.nil HN8.out hf)
        have R1 := fun W (hf : Frm [] w8 W) => eventR_any W m (.slice (some ⟨b8, o8, none⟩) m.states.length sc) (.slice pa p.2.not.length pc) (1 + y) z p.2 (HST8.out.nil hf) (RowV.nil HN8.out hf)
        have E2 := fun W (hf : Frm [] w8 W) => eventP_any W m (.slice (some ⟨b8, o8, none⟩) m.states.length sc) (.slice pa p.2.not.length pc) n v p.2 (HST8.out.nil hf) (RowV.nil HN8.out hf)
        have R2 := fun W (hf : Frm [] w8 W) => eventR_any W m (.slice (some ⟨b8, o8, none⟩) m.states.length sc) (.slice pa p.2.not.length pc) n v p.2 (HST8.out.nil hf) (RowV.nil HN8.out hf)
        have E3 := fun W (hf : Frm [] w8 W) => eventP_any W m (.slice (some ⟨b8, o8, none⟩) m.states.length sc) (.slice na ar.not.length nc) (1 + y) 0 ar (HST8.out.nil hf) (RowV.nil HNA8.out hf)
        have R3 := fun W (hf : Frm [] w8 W) => eventR_any W m (.slice (some ⟨b8, o8, none⟩) m.states.length sc) (.slice na ar.not.length nc) (1 + y) 0 ar (HST8.out.nil hf) (RowV.nil HNA8.out hf)
        unfold machV arcV at E1 R1 E2 R2 E3 R3
        generalize eventB m (1 + y) p.2 z = z1 at E1 R1
        generalize eventB m n p.2 v = z2 at E2 R2
        generalize eventB m (1 + y) ar 0 = z3 at E3 R3
        have HE1 := Lib.hid E1
        have HR1 := Lib.hid R1
        have HE2 := Lib.hid E2
        have HR2 := Lib.hid R2
        have HE3 := Lib.hid E3
        have HR3 := Lib.hid R3
        clear E1 R1 E2 R2 E3 R3
        have KEEP9 : Hid (∀ (w' : World), Frm [] w8 w' → w'.cell? ⟨xm, 0, none⟩ = some (.int .i64 m.regs) ∧ w'.cell? ⟨xm, 1, none⟩ = some (.int .i64 m.data) ∧ w'.cell? ⟨xm, 2, none⟩ = some (.int .i64 m.plain) ∧ w'.cell? ⟨xm, 3, none⟩ = some (.slice (some ⟨b8, o8, none⟩) m.states.length sc) ∧ w'.cell? ⟨x13, 0, none⟩ = some (.int .i64 p.2.kind) ∧ w'.cell? ⟨x13, 1, none⟩ = some (.int .i64 p.2.ch) ∧ w'.cell? ⟨x13, 2, none⟩ = some (.int .i64 p.2.reg) ∧ w'.cell? ⟨x13, 3, none⟩ = some (.int .i64 p.2.frm) ∧ w'.cell? ⟨x13, 4, none⟩ = some (.slice pa p.2.not.length pc) ∧ w'.cell? ⟨x13, 5, none⟩ = some (.int .i64 p.2.to) ∧ w'.cell? ⟨w.heap.size, 0, none⟩ = some (.int .i64 ar.kind) ∧ w'.cell? ⟨w.heap.size, 1, none⟩ = some (.int .i64 ar.ch) ∧ w'.cell? ⟨w.heap.size, 2, none⟩ = some (.int .i64 ar.reg) ∧ w'.cell? ⟨w.heap.size, 3, none⟩ = some (.int .i64 ar.frm) ∧ w'.cell? ⟨w.heap.size, 4, none⟩ = some (.slice na ar.not.length nc) ∧ w'.cell? ⟨w.heap.size, 5, none⟩ = some (.int .i64 ar.to)) := Lib.hid fun w' hf => by
          have h1 := HM8.out.frm hf (by simp)
          have h2 := HX8.out.frm hf (by simp)
          have h3 := HA8.out.frm hf (by simp)
          exact ⟨h1.cell (i := 0) rfl, h1.cell (i := 1) rfl, h1.cell (i := 2) rfl, h1.cell (i := 3) rfl, h2.cell (i := 0) rfl, h2.cell (i := 1) rfl, h2.cell (i := 2) rfl, h2.cell (i := 3) rfl, h2.cell (i := 4) rfl, h2.cell (i := 5) rfl, h3.cell (i := 0) rfl, h3.cell (i := 1) rfl, h3.cell (i := 2) rfl, h3.cell (i := 3) rfl, h3.cell (i := 4) rfl, h3.cell (i := 5) rfl⟩
        by_cases h20 : ar.not.length < 20
        · have i20 : (ar.not.length : Int) < 20 := by omega
          clear h20
          go_wp2_with fail
          refine wp_region_held_drew (S := fun w' => w'.cell? ⟨xm, 0, none⟩ = some (.int .i64 m.regs) ∧ w'.cell? ⟨xm, 1, none⟩ = some (.int .i64 m.data) ∧ w'.cell? ⟨xm, 2, none⟩ = some (.int .i64 m.plain) ∧ w'.cell? ⟨xm, 3, none⟩ = some (.slice (some ⟨b8, o8, none⟩) m.states.length sc) ∧ w'.cell? ⟨x13, 0, none⟩ = some (.int .i64 p.2.kind) ∧ w'.cell? ⟨x13, 1, none⟩ = some (.int .i64 p.2.ch) ∧ w'.cell? ⟨x13, 2, none⟩ = some (.int .i64 p.2.reg) ∧ w'.cell? ⟨x13, 3, none⟩ = some (.int .i64 p.2.frm) ∧ w'.cell? ⟨x13, 4, none⟩ = some (.slice pa p.2.not.length pc) ∧ w'.cell? ⟨x13, 5, none⟩ = some (.int .i64 p.2.to) ∧ w'.cell? ⟨w.heap.size, 0, none⟩ = some (.int .i64 ar.kind) ∧ w'.cell? ⟨w.heap.size, 1, none⟩ = some (.int .i64 ar.ch) ∧ w'.cell? ⟨w.heap.size, 2, none⟩ = some (.int .i64 ar.reg) ∧ w'.cell? ⟨w.heap.size, 3, none⟩ = some (.int .i64 ar.frm) ∧ w'.cell? ⟨w.heap.size, 4, none⟩ = some (.slice na ar.not.length nc) ∧ w'.cell? ⟨w.heap.size, 5, none⟩ = some (.int .i64 ar.to)) (by kernel_rfl) (KEEP9.out _ (Frm.refl [] w8).drew) ?_
          intro hHeld
          refine wpAnyH_take (i := 0) (v := ?_) rfl (by kernel_rfl) (by kernel_rfl) (by kernel_rfl) (fun _ _ _ h => h) (Or.inl ⟨by rfl, ?_⟩) (by assumption) ?_
          rotate_left
          · intro w9 hS9
            try dsimp only at hS9
            go_split_ands
            go_simp
            try with_reducible rfl
          try simp only [Act.put, List.getElem_toArray, List.getElem_cons_succ, List.getElem_cons_zero, List.setIfInBounds_toArray, List.set_cons_zero, List.set_cons_succ]
          refine wpAnyH_take (i := 1) (v := ?_) rfl (by kernel_rfl) (by kernel_rfl) (by kernel_rfl) (fun _ _ _ h => h) (Or.inl ⟨by rfl, ?_⟩) (by assumption) ?_
          rotate_left
          · intro w9 hS9
            try dsimp only at hS9
            go_split_ands
            go_simp
            try with_reducible rfl
          try simp only [Act.put, List.getElem_toArray, List.getElem_cons_succ, List.getElem_cons_zero, List.setIfInBounds_toArray, List.set_cons_zero, List.set_cons_succ]
          refine wpAnyH_take (i := 2) (v := ?_) rfl (by kernel_rfl) (by kernel_rfl) (by kernel_rfl) (fun _ _ _ h => h) (Or.inl ⟨by rfl, ?_⟩) (by assumption) ?_
          rotate_left
          · intro w9 hS9
            try dsimp only at hS9
            go_split_ands
            go_simp
            try with_reducible rfl
          try simp only [Act.put, List.getElem_toArray, List.getElem_cons_succ, List.getElem_cons_zero, List.setIfInBounds_toArray, List.set_cons_zero, List.set_cons_succ]
          refine wpAnyH_take (i := 3) (v := ?_) rfl (by kernel_rfl) (by kernel_rfl) (by kernel_rfl) (fun _ _ _ h => h) (Or.inl ⟨by rfl, ?_⟩) (by assumption) ?_
          rotate_left
          · intro w9 hS9
            try dsimp only at hS9
            go_split_ands
            go_simp
            try with_reducible rfl
          try simp only [Act.put, List.getElem_toArray, List.getElem_cons_succ, List.getElem_cons_zero, List.setIfInBounds_toArray, List.set_cons_zero, List.set_cons_succ]
          refine wpAnyH_take (i := 5) (v := ?_) rfl (by kernel_rfl) (by kernel_rfl) (by kernel_rfl) (fun _ _ _ h => h) (Or.inl ⟨by rfl, ?_⟩) (by assumption) ?_
          rotate_left
          · intro w9 hS9
            try dsimp only at hS9
            go_split_ands
            go_simp
            try with_reducible rfl
          try simp only [Act.put, List.getElem_toArray, List.getElem_cons_succ, List.getElem_cons_zero, List.setIfInBounds_toArray, List.set_cons_zero, List.set_cons_succ]
          refine wpAnyH_take (i := 6) (v := ?_) rfl (by kernel_rfl) (by kernel_rfl) (by kernel_rfl) (fun _ _ _ h => h) (Or.inl ⟨by rfl, ?_⟩) (by assumption) ?_
          rotate_left
          · intro w9 hS9
            try dsimp only at hS9
            go_split_ands
            go_simp
            try with_reducible rfl
          try simp only [Act.put, List.getElem_toArray, List.getElem_cons_succ, List.getElem_cons_zero, List.setIfInBounds_toArray, List.set_cons_zero, List.set_cons_succ]
          refine wpAnyH_take (i := 7) (v := ?_) rfl (by kernel_rfl) (by kernel_rfl) (by kernel_rfl) (fun _ _ _ h => h) (Or.inl ⟨by rfl, ?_⟩) (by assumption) ?_
          rotate_left
          · intro w9 hS9
            try dsimp only at hS9
            go_split_ands
            go_simp
            try with_reducible rfl
          try simp only [Act.put, List.getElem_toArray, List.getElem_cons_succ, List.getElem_cons_zero, List.setIfInBounds_toArray, List.set_cons_zero, List.set_cons_succ]
          refine wpAnyH_take (i := 8) (v := ?_) rfl (by kernel_rfl) (by kernel_rfl) (by kernel_rfl) (fun _ _ _ h => h) (Or.inl ⟨by rfl, ?_⟩) (by assumption) ?_
          rotate_left
          · intro w9 hS9
            try dsimp only at hS9
            go_split_ands
            go_simp
            try with_reducible rfl
          try simp only [Act.put, List.getElem_toArray, List.getElem_cons_succ, List.getElem_cons_zero, List.setIfInBounds_toArray, List.set_cons_zero, List.set_cons_succ]
          refine wpAnyH_ready (rs := [4]) (by kernel_rfl) (by simp) ?_
          refine AllReadyH.cons rfl (fun K hK => ?_) AllReadyH.nil
          go_simp
          refine (HE1.out _ (Frm.refl [] w8).drew).mono ?_
          rintro e20 v1 ⟨rfl, hg1⟩
          have hq1 := (Frm.refl [] w8).drew.trans hg1 (by simp)
          refine hK.out _ _ ?_ (fun hHeld => ?_)
          · exact KEEP9.out _ hq1
          clear hK K
          try simp only [Act.put, List.getElem_toArray, List.getElem_cons_succ, List.getElem_cons_zero, List.setIfInBounds_toArray, List.set_cons_zero, List.set_cons_succ]
          refine wpAnyH_ready (rs := [9]) (by kernel_rfl) (by simp) ?_
          refine AllReadyH.cons rfl (fun K hK => ?_) AllReadyH.nil
          go_simp
          refine (HR1.out _ hq1).mono ?_
          rintro e21 v2 ⟨rfl, hg2⟩
          have hq2 := hq1.trans hg2 (by simp)
          refine hK.out _ _ ?_ (fun hHeld => ?_)
          · exact KEEP9.out _ hq2
          clear hK K
          try simp only [Act.put, List.getElem_toArray, List.getElem_cons_succ, List.getElem_cons_zero, List.setIfInBounds_toArray, List.set_cons_zero, List.set_cons_succ]
          refine wpAnyH_take (i := 10) (v := ?_) rfl (by kernel_rfl) (by kernel_rfl) (by kernel_rfl) (fun _ _ _ h => h) (Or.inl ⟨by rfl, ?_⟩) (by assumption) ?_
          rotate_left
          · intro w9 hS9
            try dsimp only at hS9
            go_split_ands
            go_simp
            try with_reducible rfl
          try simp only [Act.put, List.getElem_toArray, List.getElem_cons_succ, List.getElem_cons_zero, List.setIfInBounds_toArray, List.set_cons_zero, List.set_cons_succ]
          refine wpAnyH_take (i := 11) (v := ?_) rfl (by kernel_rfl) (by kernel_rfl) (by kernel_rfl) (fun _ _ _ h => h) (Or.inl ⟨by rfl, ?_⟩) (by assumption) ?_
          rotate_left
          · intro w9 hS9
            try dsimp only at hS9
            go_split_ands
            go_simp
            try with_reducible rfl
          try simp only [Act.put, List.getElem_toArray, List.getElem_cons_succ, List.getElem_cons_zero, List.setIfInBounds_toArray, List.set_cons_zero, List.set_cons_succ]
          refine wpAnyH_take (i := 12) (v := ?_) rfl (by kernel_rfl) (by kernel_rfl) (by kernel_rfl) (fun _ _ _ h => h) (Or.inl ⟨by rfl, ?_⟩) (by assumption) ?_
          rotate_left
          · intro w9 hS9
            try dsimp only at hS9
            go_split_ands
            go_simp
            try with_reducible rfl
          try simp only [Act.put, List.getElem_toArray, List.getElem_cons_succ, List.getElem_cons_zero, List.setIfInBounds_toArray, List.set_cons_zero, List.set_cons_succ]
          refine wpAnyH_take (i := 13) (v := ?_) rfl (by kernel_rfl) (by kernel_rfl) (by kernel_rfl) (fun _ _ _ h => h) (Or.inl ⟨by rfl, ?_⟩) (by assumption) ?_
          rotate_left
          · intro w9 hS9
            try dsimp only at hS9
            go_split_ands
            go_simp
            try with_reducible rfl
          try simp only [Act.put, List.getElem_toArray, List.getElem_cons_succ, List.getElem_cons_zero, List.setIfInBounds_toArray, List.set_cons_zero, List.set_cons_succ]
          refine wpAnyH_take (i := 14) (v := ?_) rfl (by kernel_rfl) (by kernel_rfl) (by kernel_rfl) (fun _ _ _ h => h) (Or.inl ⟨by rfl, ?_⟩) (by assumption) ?_
          rotate_left
          · intro w9 hS9
            try dsimp only at hS9
            go_split_ands
            go_simp
            try with_reducible rfl
          try simp only [Act.put, List.getElem_toArray, List.getElem_cons_succ, List.getElem_cons_zero, List.setIfInBounds_toArray, List.set_cons_zero, List.set_cons_succ]
          refine wpAnyH_take (i := 15) (v := ?_) rfl (by kernel_rfl) (by kernel_rfl) (by kernel_rfl) (fun _ _ _ h => h) (Or.inl ⟨by rfl, ?_⟩) (by assumption) ?_
          rotate_left
          · intro w9 hS9
            try dsimp only at hS9
            go_split_ands
            go_simp
            try with_reducible rfl
          try simp only [Act.put, List.getElem_toArray, List.getElem_cons_succ, List.getElem_cons_zero, List.setIfInBounds_toArray, List.set_cons_zero, List.set_cons_succ]
          refine wpAnyH_take (i := 17) (v := ?_) rfl (by kernel_rfl) (by kernel_rfl) (by kernel_rfl) (fun _ _ _ h => h) (Or.inl ⟨by rfl, ?_⟩) (by assumption) ?_
          rotate_left
          · intro w9 hS9
            try dsimp only at hS9
            go_split_ands
            go_simp
            try with_reducible rfl
          try simp only [Act.put, List.getElem_toArray, List.getElem_cons_succ, List.getElem_cons_zero, List.setIfInBounds_toArray, List.set_cons_zero, List.set_cons_succ]
          refine wpAnyH_take (i := 18) (v := ?_) rfl (by kernel_rfl) (by kernel_rfl) (by kernel_rfl) (fun _ _ _ h => h) (Or.inl ⟨by rfl, ?_⟩) (by assumption) ?_
          rotate_left
          · intro w9 hS9
            try dsimp only at hS9
            go_split_ands
            go_simp
            try with_reducible rfl
          try simp only [Act.put, List.getElem_toArray, List.getElem_cons_succ, List.getElem_cons_zero, List.setIfInBounds_toArray, List.set_cons_zero, List.set_cons_succ]
          refine wpAnyH_take (i := 19) (v := ?_) rfl (by kernel_rfl) (by kernel_rfl) (by kernel_rfl) (fun _ _ _ h => h) (Or.inl ⟨by rfl, ?_⟩) (by assumption) ?_
          rotate_left
          · intro w9 hS9
            try dsimp only at hS9
            go_split_ands
            go_simp
            try with_reducible rfl
          try simp only [Act.put, List.getElem_toArray, List.getElem_cons_succ, List.getElem_cons_zero, List.setIfInBounds_toArray, List.set_cons_zero, List.set_cons_succ]
          refine wpAnyH_take (i := 20) (v := ?_) rfl (by kernel_rfl) (by kernel_rfl) (by kernel_rfl) (fun _ _ _ h => h) (Or.inl ⟨by rfl, ?_⟩) (by assumption) ?_
          rotate_left
          · intro w9 hS9
            try dsimp only at hS9
            go_split_ands
            go_simp
            try with_reducible rfl
          try simp only [Act.put, List.getElem_toArray, List.getElem_cons_succ, List.getElem_cons_zero, List.setIfInBounds_toArray, List.set_cons_zero, List.set_cons_succ]
          refine wpAnyH_ready (rs := [16]) (by kernel_rfl) (by simp) ?_
          refine AllReadyH.cons rfl (fun K hK => ?_) AllReadyH.nil
          go_simp
          refine (HE2.out _ hq2).mono ?_
          rintro e22 v3 ⟨rfl, hg3⟩
          have hq3 := hq2.trans hg3 (by simp)
          refine hK.out _ _ ?_ (fun hHeld => ?_)
          · exact KEEP9.out _ hq3
          clear hK K
          try simp only [Act.put, List.getElem_toArray, List.getElem_cons_succ, List.getElem_cons_zero, List.setIfInBounds_toArray, List.set_cons_zero, List.set_cons_succ]
          refine wpAnyH_ready (rs := [21]) (by kernel_rfl) (by simp) ?_
          refine AllReadyH.cons rfl (fun K hK => ?_) AllReadyH.nil
          go_simp
          refine (HR2.out _ hq3).mono ?_
          rintro e23 v4 ⟨rfl, hg4⟩
          have hq4 := hq3.trans hg4 (by simp)
          refine hK.out _ _ ?_ (fun hHeld => ?_)
          · exact KEEP9.out _ hq4
          clear hK K
          try simp only [Act.put, List.getElem_toArray, List.getElem_cons_succ, List.getElem_cons_zero, List.setIfInBounds_toArray, List.set_cons_zero, List.set_cons_succ]
          refine wpAnyH_take (i := 22) (v := ?_) rfl (by kernel_rfl) (by kernel_rfl) (by kernel_rfl) (fun _ _ _ h => h) (Or.inl ⟨by rfl, ?_⟩) (by assumption) ?_
          rotate_left
          · intro w9 hS9
            try dsimp only at hS9
            go_split_ands
            go_simp
            try with_reducible rfl
          try simp only [Act.put, List.getElem_toArray, List.getElem_cons_succ, List.getElem_cons_zero, List.setIfInBounds_toArray, List.set_cons_zero, List.set_cons_succ]
          refine wpAnyH_take (i := 23) (v := ?_) rfl (by kernel_rfl) (by kernel_rfl) (by kernel_rfl) (fun _ _ _ h => h) (Or.inl ⟨by rfl, ?_⟩) (by assumption) ?_
          rotate_left
          · intro w9 hS9
            try dsimp only at hS9
            go_split_ands
            go_simp
            try with_reducible rfl
          try simp only [Act.put, List.getElem_toArray, List.getElem_cons_succ, List.getElem_cons_zero, List.setIfInBounds_toArray, List.set_cons_zero, List.set_cons_succ]
          refine wpAnyH_take (i := 24) (v := ?_) rfl (by kernel_rfl) (by kernel_rfl) (by kernel_rfl) (fun _ _ _ h => h) (Or.inl ⟨by rfl, ?_⟩) (by assumption) ?_
          rotate_left
          · intro w9 hS9
            try dsimp only at hS9
            go_split_ands
            go_simp
            try with_reducible rfl
          try simp only [Act.put, List.getElem_toArray, List.getElem_cons_succ, List.getElem_cons_zero, List.setIfInBounds_toArray, List.set_cons_zero, List.set_cons_succ]
          refine wpAnyH_take (i := 25) (v := ?_) rfl (by kernel_rfl) (by kernel_rfl) (by kernel_rfl) (fun _ _ _ h => h) (Or.inl ⟨by rfl, ?_⟩) (by assumption) ?_
          rotate_left
          · intro w9 hS9
            try dsimp only at hS9
            go_split_ands
            go_simp
            try with_reducible rfl
          try simp only [Act.put, List.getElem_toArray, List.getElem_cons_succ, List.getElem_cons_zero, List.setIfInBounds_toArray, List.set_cons_zero, List.set_cons_succ]
          refine wpAnyH_take (i := 26) (v := ?_) rfl (by kernel_rfl) (by kernel_rfl) (by kernel_rfl) (fun _ _ _ h => h) (Or.inl ⟨by rfl, ?_⟩) (by assumption) ?_
          rotate_left
          · intro w9 hS9
            try dsimp only at hS9
            go_split_ands
            go_simp
            try with_reducible rfl
          try simp only [Act.put, List.getElem_toArray, List.getElem_cons_succ, List.getElem_cons_zero, List.setIfInBounds_toArray, List.set_cons_zero, List.set_cons_succ]
          refine wpAnyH_take (i := 27) (v := ?_) rfl (by kernel_rfl) (by kernel_rfl) (by kernel_rfl) (fun _ _ _ h => h) (Or.inl ⟨by rfl, ?_⟩) (by assumption) ?_
          rotate_left
          · intro w9 hS9
            try dsimp only at hS9
            go_split_ands
            go_simp
            try with_reducible rfl
          try simp only [Act.put, List.getElem_toArray, List.getElem_cons_succ, List.getElem_cons_zero, List.setIfInBounds_toArray, List.set_cons_zero, List.set_cons_succ]
          refine wpAnyH_take (i := 28) (v := ?_) rfl (by kernel_rfl) (by kernel_rfl) (by kernel_rfl) (fun _ _ _ h => h) (Or.inl ⟨by rfl, ?_⟩) (by assumption) ?_
          rotate_left
          · intro w9 hS9
            try dsimp only at hS9
            go_split_ands
            go_simp
            try with_reducible rfl
          try simp only [Act.put, List.getElem_toArray, List.getElem_cons_succ, List.getElem_cons_zero, List.setIfInBounds_toArray, List.set_cons_zero, List.set_cons_succ]
          refine wpAnyH_take (i := 29) (v := ?_) rfl (by kernel_rfl) (by kernel_rfl) (by kernel_rfl) (fun _ _ _ h => h) (Or.inl ⟨by rfl, ?_⟩) (by assumption) ?_
          rotate_left
          · intro w9 hS9
            try dsimp only at hS9
            go_split_ands
            go_simp
            try with_reducible rfl
          try simp only [Act.put, List.getElem_toArray, List.getElem_cons_succ, List.getElem_cons_zero, List.setIfInBounds_toArray, List.set_cons_zero, List.set_cons_succ]
          refine wpAnyH_take (i := 30) (v := ?_) rfl (by kernel_rfl) (by kernel_rfl) (by kernel_rfl) (fun _ _ _ h => h) (Or.inl ⟨by rfl, ?_⟩) (by assumption) ?_
          rotate_left
          · intro w9 hS9
            try dsimp only at hS9
            go_split_ands
            go_simp
            try with_reducible rfl
          try simp only [Act.put, List.getElem_toArray, List.getElem_cons_succ, List.getElem_cons_zero, List.setIfInBounds_toArray, List.set_cons_zero, List.set_cons_succ]
          refine wpAnyH_take (i := 31) (v := ?_) rfl (by kernel_rfl) (by kernel_rfl) (by kernel_rfl) (fun _ _ _ h => h) (Or.inl ⟨by rfl, ?_⟩) (by assumption) ?_
          rotate_left
          · intro w9 hS9
            try dsimp only at hS9
            go_split_ands
            go_simp
            try with_reducible rfl
          try simp only [Act.put, List.getElem_toArray, List.getElem_cons_succ, List.getElem_cons_zero, List.setIfInBounds_toArray, List.set_cons_zero, List.set_cons_succ]
          refine wpAnyH_take (i := 32) (v := ?_) rfl (by kernel_rfl) (by kernel_rfl) (by kernel_rfl) (fun _ _ _ h => h) (Or.inl ⟨by rfl, ?_⟩) (by assumption) ?_
          rotate_left
          · intro w9 hS9
            try dsimp only at hS9
            go_split_ands
            go_simp
            try with_reducible rfl
          try simp only [Act.put, List.getElem_toArray, List.getElem_cons_succ, List.getElem_cons_zero, List.setIfInBounds_toArray, List.set_cons_zero, List.set_cons_succ]
          refine wpAnyH_take (i := 34) (v := ?_) rfl (by kernel_rfl) (by kernel_rfl) (by kernel_rfl) (fun _ _ _ h => h) (Or.inl ⟨by rfl, ?_⟩) (by assumption) ?_
          rotate_left
          · intro w9 hS9
            try dsimp only at hS9
            go_split_ands
            go_simp
            try with_reducible rfl
          try simp only [Act.put, List.getElem_toArray, List.getElem_cons_succ, List.getElem_cons_zero, List.setIfInBounds_toArray, List.set_cons_zero, List.set_cons_succ]
          refine wpAnyH_take (i := 35) (v := ?_) rfl (by kernel_rfl) (by kernel_rfl) (by kernel_rfl) (fun _ _ _ h => h) (Or.inl ⟨by rfl, ?_⟩) (by assumption) ?_
          rotate_left
          · intro w9 hS9
            try dsimp only at hS9
            go_split_ands
            go_simp
            try with_reducible rfl
          try simp only [Act.put, List.getElem_toArray, List.getElem_cons_succ, List.getElem_cons_zero, List.setIfInBounds_toArray, List.set_cons_zero, List.set_cons_succ]
          refine wpAnyH_take (i := 36) (v := ?_) rfl (by kernel_rfl) (by kernel_rfl) (by kernel_rfl) (fun _ _ _ h => h) (Or.inl ⟨by rfl, ?_⟩) (by assumption) ?_
          rotate_left
          · intro w9 hS9
            try dsimp only at hS9
            go_split_ands
            go_simp
            try with_reducible rfl
          try simp only [Act.put, List.getElem_toArray, List.getElem_cons_succ, List.getElem_cons_zero, List.setIfInBounds_toArray, List.set_cons_zero, List.set_cons_succ]
          refine wpAnyH_ready (rs := [33]) (by kernel_rfl) (by simp) ?_
          refine AllReadyH.cons rfl (fun K hK => ?_) AllReadyH.nil
          go_simp
          refine (HE3.out _ hq4).mono ?_
          rintro e24 v5 ⟨rfl, hg5⟩
          have hq5 := hq4.trans hg5 (by simp)
          refine hK.out _ _ ?_ (fun hHeld => ?_)
          · exact KEEP9.out _ hq5
          clear hK K
          try simp only [Act.put, List.getElem_toArray, List.getElem_cons_succ, List.getElem_cons_zero, List.setIfInBounds_toArray, List.set_cons_zero, List.set_cons_succ]
          refine wpAnyH_ready (rs := [37]) (by kernel_rfl) (by simp) ?_
          refine AllReadyH.cons rfl (fun K hK => ?_) AllReadyH.nil
          go_simp
          refine (HR3.out _ hq5).mono ?_
          rintro e25 v6 ⟨rfl, hg6⟩
          have hq6 := hq5.trans hg6 (by simp)
          refine hK.out _ _ ?_ (fun hHeld => ?_)
          · exact KEEP9.out _ hq6
          clear hK K
          try simp only [Act.put, List.getElem_toArray, List.getElem_cons_succ, List.getElem_cons_zero, List.setIfInBounds_toArray, List.set_cons_zero, List.set_cons_succ]
          refine wpAnyH_take (i := 38) (v := ?_) rfl (by kernel_rfl) (by kernel_rfl) (by kernel_rfl) (fun _ _ _ h => h) (Or.inl ⟨by rfl, ?_⟩) (by assumption) ?_
          rotate_left
          · intro w9 hS9
            try dsimp only at hS9
            go_split_ands
            go_simp
            try with_reducible rfl
          try simp only [Act.put, List.getElem_toArray, List.getElem_cons_succ, List.getElem_cons_zero, List.setIfInBounds_toArray, List.set_cons_zero, List.set_cons_succ]
          refine wpAnyH_take (i := 39) (v := ?_) rfl (by kernel_rfl) (by kernel_rfl) (by kernel_rfl) (fun _ _ _ h => h) (Or.inl ⟨by rfl, ?_⟩) (by assumption) ?_
          rotate_left
          · intro w9 hS9
            try dsimp only at hS9
            go_split_ands
            go_simp
            try with_reducible rfl
          try simp only [Act.put, List.getElem_toArray, List.getElem_cons_succ, List.getElem_cons_zero, List.setIfInBounds_toArray, List.set_cons_zero, List.set_cons_succ]
          refine wpAnyH_take (i := 40) (v := ?_) rfl (by kernel_rfl) (by kernel_rfl) (by kernel_rfl) (fun _ _ _ h => h) (Or.inl ⟨by rfl, ?_⟩) (by assumption) ?_
          rotate_left
          · intro w9 hS9
            try dsimp only at hS9
            go_split_ands
            go_simp
            try with_reducible rfl
          try simp only [Act.put, List.getElem_toArray, List.getElem_cons_succ, List.getElem_cons_zero, List.setIfInBounds_toArray, List.set_cons_zero, List.set_cons_succ]
          refine wpAnyH_done (by kernel_rfl) ?_ _
          have HFQ := Lib.hid (HFW.out.trans hq6 (by simp))
          have HTQ := Lib.hid (HT8.out.nil hq6)
          clear hq1 hg1 hq2 hg2 hq3 hg3 hq4 hg4 hq5 hg5 hq6 hg6
          go_wp2_with fail
          go_roundg (5 - (k + 1))
          case rel => exact ⟨k + 1, rfl, by have := HK.out; omega, by go_num, HTQ.out.mono (by omega), HFQ.out⟩
          case measure => have := HQ.out; have := HK.out; omega
        · have i20 : decide ((ar.not.length : Int) < 20) = false := by rw [decide_eq_false_iff_not]; omega
          clear h20
          go_wp2_with fail
          refine wp_region_held_drew (S := fun w' => w'.cell? ⟨xm, 0, none⟩ = some (.int .i64 m.regs) ∧ w'.cell? ⟨xm, 1, none⟩ = some (.int .i64 m.data) ∧ w'.cell? ⟨xm, 2, none⟩ = some (.int .i64 m.plain) ∧ w'.cell? ⟨xm, 3, none⟩ = some (.slice (some ⟨b8, o8, none⟩) m.states.length sc) ∧ w'.cell? ⟨x13, 0, none⟩ = some (.int .i64 p.2.kind) ∧ w'.cell? ⟨x13, 1, none⟩ = some (.int .i64 p.2.ch) ∧ w'.cell? ⟨x13, 2, none⟩ = some (.int .i64 p.2.reg) ∧ w'.cell? ⟨x13, 3, none⟩ = some (.int .i64 p.2.frm) ∧ w'.cell? ⟨x13, 4, none⟩ = some (.slice pa p.2.not.length pc) ∧ w'.cell? ⟨x13, 5, none⟩ = some (.int .i64 p.2.to) ∧ w'.cell? ⟨w.heap.size, 0, none⟩ = some (.int .i64 ar.kind) ∧ w'.cell? ⟨w.heap.size, 1, none⟩ = some (.int .i64 ar.ch) ∧ w'.cell? ⟨w.heap.size, 2, none⟩ = some (.int .i64 ar.reg) ∧ w'.cell? ⟨w.heap.size, 3, none⟩ = some (.int .i64 ar.frm) ∧ w'.cell? ⟨w.heap.size, 4, none⟩ = some (.slice na ar.not.length nc) ∧ w'.cell? ⟨w.heap.size, 5, none⟩ = some (.int .i64 ar.to)) (by kernel_rfl) (KEEP9.out _ (Frm.refl [] w8).drew) ?_
          intro hHeld
          refine wpAnyH_take (i := 0) (v := ?_) rfl (by kernel_rfl) (by kernel_rfl) (by kernel_rfl) (fun _ _ _ h => h) (Or.inl ⟨by rfl, ?_⟩) (by assumption) ?_
          rotate_left
          · intro w9 hS9
            try dsimp only at hS9
            go_split_ands
            go_simp
            try with_reducible rfl
          try simp only [Act.put, List.getElem_toArray, List.getElem_cons_succ, List.getElem_cons_zero, List.setIfInBounds_toArray, List.set_cons_zero, List.set_cons_succ]
          refine wpAnyH_take (i := 1) (v := ?_) rfl (by kernel_rfl) (by kernel_rfl) (by kernel_rfl) (fun _ _ _ h => h) (Or.inl ⟨by rfl, ?_⟩) (by assumption) ?_
          rotate_left
          · intro w9 hS9
            try dsimp only at hS9
            go_split_ands
            go_simp
            try with_reducible rfl
          try simp only [Act.put, List.getElem_toArray, List.getElem_cons_succ, List.getElem_cons_zero, List.setIfInBounds_toArray, List.set_cons_zero, List.set_cons_succ]
          refine wpAnyH_take (i := 2) (v := ?_) rfl (by kernel_rfl) (by kernel_rfl) (by kernel_rfl) (fun _ _ _ h => h) (Or.inl ⟨by rfl, ?_⟩) (by assumption) ?_
          rotate_left
          · intro w9 hS9
            try dsimp only at hS9
            go_split_ands
            go_simp
            try with_reducible rfl
          try simp only [Act.put, List.getElem_toArray, List.getElem_cons_succ, List.getElem_cons_zero, List.setIfInBounds_toArray, List.set_cons_zero, List.set_cons_succ]
          refine wpAnyH_take (i := 3) (v := ?_) rfl (by kernel_rfl) (by kernel_rfl) (by kernel_rfl) (fun _ _ _ h => h) (Or.inl ⟨by rfl, ?_⟩) (by assumption) ?_
          rotate_left
          · intro w9 hS9
            try dsimp only at hS9
            go_split_ands
            go_simp
            try with_reducible rfl
          try simp only [Act.put, List.getElem_toArray, List.getElem_cons_succ, List.getElem_cons_zero, List.setIfInBounds_toArray, List.set_cons_zero, List.set_cons_succ]
          refine wpAnyH_take (i := 5) (v := ?_) rfl (by kernel_rfl) (by kernel_rfl) (by kernel_rfl) (fun _ _ _ h => h) (Or.inl ⟨by rfl, ?_⟩) (by assumption) ?_
          rotate_left
          · intro w9 hS9
            try dsimp only at hS9
            go_split_ands
            go_simp
            try with_reducible rfl
          try simp only [Act.put, List.getElem_toArray, List.getElem_cons_succ, List.getElem_cons_zero, List.setIfInBounds_toArray, List.set_cons_zero, List.set_cons_succ]
          refine wpAnyH_take (i := 6) (v := ?_) rfl (by kernel_rfl) (by kernel_rfl) (by kernel_rfl) (fun _ _ _ h => h) (Or.inl ⟨by rfl, ?_⟩) (by assumption) ?_
          rotate_left
          · intro w9 hS9
            try dsimp only at hS9
            go_split_ands
            go_simp
            try with_reducible rfl
          try simp only [Act.put, List.getElem_toArray, List.getElem_cons_succ, List.getElem_cons_zero, List.setIfInBounds_toArray, List.set_cons_zero, List.set_cons_succ]
          refine wpAnyH_take (i := 7) (v := ?_) rfl (by kernel_rfl) (by kernel_rfl) (by kernel_rfl) (fun _ _ _ h => h) (Or.inl ⟨by rfl, ?_⟩) (by assumption) ?_
          rotate_left
          · intro w9 hS9
            try dsimp only at hS9
            go_split_ands
            go_simp
            try with_reducible rfl
          try simp only [Act.put, List.getElem_toArray, List.getElem_cons_succ, List.getElem_cons_zero, List.setIfInBounds_toArray, List.set_cons_zero, List.set_cons_succ]
          refine wpAnyH_take (i := 8) (v := ?_) rfl (by kernel_rfl) (by kernel_rfl) (by kernel_rfl) (fun _ _ _ h => h) (Or.inl ⟨by rfl, ?_⟩) (by assumption) ?_
          rotate_left
          · intro w9 hS9
            try dsimp only at hS9
            go_split_ands
            go_simp
            try with_reducible rfl
          try simp only [Act.put, List.getElem_toArray, List.getElem_cons_succ, List.getElem_cons_zero, List.setIfInBounds_toArray, List.set_cons_zero, List.set_cons_succ]
          refine wpAnyH_ready (rs := [4]) (by kernel_rfl) (by simp) ?_
          refine AllReadyH.cons rfl (fun K hK => ?_) AllReadyH.nil
          go_simp
          refine (HE1.out _ (Frm.refl [] w8).drew).mono ?_
          rintro e20 v1 ⟨rfl, hg1⟩
          have hq1 := (Frm.refl [] w8).drew.trans hg1 (by simp)
          refine hK.out _ _ ?_ (fun hHeld => ?_)
          · exact KEEP9.out _ hq1
          clear hK K
          try simp only [Act.put, List.getElem_toArray, List.getElem_cons_succ, List.getElem_cons_zero, List.setIfInBounds_toArray, List.set_cons_zero, List.set_cons_succ]
          refine wpAnyH_ready (rs := [9]) (by kernel_rfl) (by simp) ?_
          refine AllReadyH.cons rfl (fun K hK => ?_) AllReadyH.nil
          go_simp
          refine (HR1.out _ hq1).mono ?_
          rintro e21 v2 ⟨rfl, hg2⟩
          have hq2 := hq1.trans hg2 (by simp)
          refine hK.out _ _ ?_ (fun hHeld => ?_)
          · exact KEEP9.out _ hq2
          clear hK K
          try simp only [Act.put, List.getElem_toArray, List.getElem_cons_succ, List.getElem_cons_zero, List.setIfInBounds_toArray, List.set_cons_zero, List.set_cons_succ]
          refine wpAnyH_take (i := 10) (v := ?_) rfl (by kernel_rfl) (by kernel_rfl) (by kernel_rfl) (fun _ _ _ h => h) (Or.inl ⟨by rfl, ?_⟩) (by assumption) ?_
          rotate_left
          · intro w9 hS9
            try dsimp only at hS9
            go_split_ands
            go_simp
            try with_reducible rfl
          try simp only [Act.put, List.getElem_toArray, List.getElem_cons_succ, List.getElem_cons_zero, List.setIfInBounds_toArray, List.set_cons_zero, List.set_cons_succ]
          refine wpAnyH_take (i := 11) (v := ?_) rfl (by kernel_rfl) (by kernel_rfl) (by kernel_rfl) (fun _ _ _ h => h) (Or.inl ⟨by rfl, ?_⟩) (by assumption) ?_
          rotate_left
          · intro w9 hS9
            try dsimp only at hS9
            go_split_ands
            go_simp
            try with_reducible rfl
          try simp only [Act.put, List.getElem_toArray, List.getElem_cons_succ, List.getElem_cons_zero, List.setIfInBounds_toArray, List.set_cons_zero, List.set_cons_succ]
          refine wpAnyH_take (i := 12) (v := ?_) rfl (by kernel_rfl) (by kernel_rfl) (by kernel_rfl) (fun _ _ _ h => h) (Or.inl ⟨by rfl, ?_⟩) (by assumption) ?_
          rotate_left
          · intro w9 hS9
            try dsimp only at hS9
            go_split_ands
            go_simp
            try with_reducible rfl
          try simp only [Act.put, List.getElem_toArray, List.getElem_cons_succ, List.getElem_cons_zero, List.setIfInBounds_toArray, List.set_cons_zero, List.set_cons_succ]
          refine wpAnyH_take (i := 13) (v := ?_) rfl (by kernel_rfl) (by kernel_rfl) (by kernel_rfl) (fun _ _ _ h => h) (Or.inl ⟨by rfl, ?_⟩) (by assumption) ?_
          rotate_left
          · intro w9 hS9
            try dsimp only at hS9
            go_split_ands
            go_simp
            try with_reducible rfl
          try simp only [Act.put, List.getElem_toArray, List.getElem_cons_succ, List.getElem_cons_zero, List.setIfInBounds_toArray, List.set_cons_zero, List.set_cons_succ]
          refine wpAnyH_take (i := 14) (v := ?_) rfl (by kernel_rfl) (by kernel_rfl) (by kernel_rfl) (fun _ _ _ h => h) (Or.inl ⟨by rfl, ?_⟩) (by assumption) ?_
          rotate_left
          · intro w9 hS9
            try dsimp only at hS9
            go_split_ands
            go_simp
            try with_reducible rfl
          try simp only [Act.put, List.getElem_toArray, List.getElem_cons_succ, List.getElem_cons_zero, List.setIfInBounds_toArray, List.set_cons_zero, List.set_cons_succ]
          refine wpAnyH_take (i := 15) (v := ?_) rfl (by kernel_rfl) (by kernel_rfl) (by kernel_rfl) (fun _ _ _ h => h) (Or.inl ⟨by rfl, ?_⟩) (by assumption) ?_
          rotate_left
          · intro w9 hS9
            try dsimp only at hS9
            go_split_ands
            go_simp
            try with_reducible rfl
          try simp only [Act.put, List.getElem_toArray, List.getElem_cons_succ, List.getElem_cons_zero, List.setIfInBounds_toArray, List.set_cons_zero, List.set_cons_succ]
          refine wpAnyH_take (i := 17) (v := ?_) rfl (by kernel_rfl) (by kernel_rfl) (by kernel_rfl) (fun _ _ _ h => h) (Or.inl ⟨by rfl, ?_⟩) (by assumption) ?_
          rotate_left
          · intro w9 hS9
            try dsimp only at hS9
            go_split_ands
            go_simp
            try with_reducible rfl
          try simp only [Act.put, List.getElem_toArray, List.getElem_cons_succ, List.getElem_cons_zero, List.setIfInBounds_toArray, List.set_cons_zero, List.set_cons_succ]
          refine wpAnyH_take (i := 18) (v := ?_) rfl (by kernel_rfl) (by kernel_rfl) (by kernel_rfl) (fun _ _ _ h => h) (Or.inl ⟨by rfl, ?_⟩) (by assumption) ?_
          rotate_left
          · intro w9 hS9
            try dsimp only at hS9
            go_split_ands
            go_simp
            try with_reducible rfl
          try simp only [Act.put, List.getElem_toArray, List.getElem_cons_succ, List.getElem_cons_zero, List.setIfInBounds_toArray, List.set_cons_zero, List.set_cons_succ]
          refine wpAnyH_take (i := 19) (v := ?_) rfl (by kernel_rfl) (by kernel_rfl) (by kernel_rfl) (fun _ _ _ h => h) (Or.inl ⟨by rfl, ?_⟩) (by assumption) ?_
          rotate_left
          · intro w9 hS9
            try dsimp only at hS9
            go_split_ands
            go_simp
            try with_reducible rfl
          try simp only [Act.put, List.getElem_toArray, List.getElem_cons_succ, List.getElem_cons_zero, List.setIfInBounds_toArray, List.set_cons_zero, List.set_cons_succ]
          refine wpAnyH_take (i := 20) (v := ?_) rfl (by kernel_rfl) (by kernel_rfl) (by kernel_rfl) (fun _ _ _ h => h) (Or.inl ⟨by rfl, ?_⟩) (by assumption) ?_
          rotate_left
          · intro w9 hS9
            try dsimp only at hS9
            go_split_ands
            go_simp
            try with_reducible rfl
          try simp only [Act.put, List.getElem_toArray, List.getElem_cons_succ, List.getElem_cons_zero, List.setIfInBounds_toArray, List.set_cons_zero, List.set_cons_succ]
          refine wpAnyH_ready (rs := [16]) (by kernel_rfl) (by simp) ?_
          refine AllReadyH.cons rfl (fun K hK => ?_) AllReadyH.nil
          go_simp
          refine (HE2.out _ hq2).mono ?_
          rintro e22 v3 ⟨rfl, hg3⟩
          have hq3 := hq2.trans hg3 (by simp)
          refine hK.out _ _ ?_ (fun hHeld => ?_)
          · exact KEEP9.out _ hq3
          clear hK K
          try simp only [Act.put, List.getElem_toArray, List.getElem_cons_succ, List.getElem_cons_zero, List.setIfInBounds_toArray, List.set_cons_zero, List.set_cons_succ]
          refine wpAnyH_ready (rs := [21]) (by kernel_rfl) (by simp) ?_
          refine AllReadyH.cons rfl (fun K hK => ?_) AllReadyH.nil
          go_simp
          refine (HR2.out _ hq3).mono ?_
          rintro e23 v4 ⟨rfl, hg4⟩
          have hq4 := hq3.trans hg4 (by simp)
          refine hK.out _ _ ?_ (fun hHeld => ?_)
          · exact KEEP9.out _ hq4
          clear hK K
          try simp only [Act.put, List.getElem_toArray, List.getElem_cons_succ, List.getElem_cons_zero, List.setIfInBounds_toArray, List.set_cons_zero, List.set_cons_succ]
          refine wpAnyH_take (i := 22) (v := ?_) rfl (by kernel_rfl) (by kernel_rfl) (by kernel_rfl) (fun _ _ _ h => h) (Or.inl ⟨by rfl, ?_⟩) (by assumption) ?_
          rotate_left
          · intro w9 hS9
            try dsimp only at hS9
            go_split_ands
            go_simp
            try with_reducible rfl
          try simp only [Act.put, List.getElem_toArray, List.getElem_cons_succ, List.getElem_cons_zero, List.setIfInBounds_toArray, List.set_cons_zero, List.set_cons_succ]
          refine wpAnyH_take (i := 23) (v := ?_) rfl (by kernel_rfl) (by kernel_rfl) (by kernel_rfl) (fun _ _ _ h => h) (Or.inl ⟨by rfl, ?_⟩) (by assumption) ?_
          rotate_left
          · intro w9 hS9
            try dsimp only at hS9
            go_split_ands
            go_simp
            try with_reducible rfl
          try simp only [Act.put, List.getElem_toArray, List.getElem_cons_succ, List.getElem_cons_zero, List.setIfInBounds_toArray, List.set_cons_zero, List.set_cons_succ]
          refine wpAnyH_take (i := 24) (v := ?_) rfl (by kernel_rfl) (by kernel_rfl) (by kernel_rfl) (fun _ _ _ h => h) (Or.inl ⟨by rfl, ?_⟩) (by assumption) ?_
          rotate_left
          · intro w9 hS9
            try dsimp only at hS9
            go_split_ands
            go_simp
            try with_reducible rfl
          try simp only [Act.put, List.getElem_toArray, List.getElem_cons_succ, List.getElem_cons_zero, List.setIfInBounds_toArray, List.set_cons_zero, List.set_cons_succ]
          refine wpAnyH_take (i := 25) (v := ?_) rfl (by kernel_rfl) (by kernel_rfl) (by kernel_rfl) (fun _ _ _ h => h) (Or.inl ⟨by rfl, ?_⟩) (by assumption) ?_
          rotate_left
          · intro w9 hS9
            try dsimp only at hS9
            go_split_ands
            go_simp
            try with_reducible rfl
          try simp only [Act.put, List.getElem_toArray, List.getElem_cons_succ, List.getElem_cons_zero, List.setIfInBounds_toArray, List.set_cons_zero, List.set_cons_succ]
          refine wpAnyH_take (i := 26) (v := ?_) rfl (by kernel_rfl) (by kernel_rfl) (by kernel_rfl) (fun _ _ _ h => h) (Or.inl ⟨by rfl, ?_⟩) (by assumption) ?_
          rotate_left
          · intro w9 hS9
            try dsimp only at hS9
            go_split_ands
            go_simp
            try with_reducible rfl
          try simp only [Act.put, List.getElem_toArray, List.getElem_cons_succ, List.getElem_cons_zero, List.setIfInBounds_toArray, List.set_cons_zero, List.set_cons_succ]
          refine wpAnyH_take (i := 27) (v := ?_) rfl (by kernel_rfl) (by kernel_rfl) (by kernel_rfl) (fun _ _ _ h => h) (Or.inl ⟨by rfl, ?_⟩) (by assumption) ?_
          rotate_left
          · intro w9 hS9
            try dsimp only at hS9
            go_split_ands
            go_simp
            try with_reducible rfl
          try simp only [Act.put, List.getElem_toArray, List.getElem_cons_succ, List.getElem_cons_zero, List.setIfInBounds_toArray, List.set_cons_zero, List.set_cons_succ]
          refine wpAnyH_take (i := 28) (v := ?_) rfl (by kernel_rfl) (by kernel_rfl) (by kernel_rfl) (fun _ _ _ h => h) (Or.inl ⟨by rfl, ?_⟩) (by assumption) ?_
          rotate_left
          · intro w9 hS9
            try dsimp only at hS9
            go_split_ands
            go_simp
            try with_reducible rfl
          try simp only [Act.put, List.getElem_toArray, List.getElem_cons_succ, List.getElem_cons_zero, List.setIfInBounds_toArray, List.set_cons_zero, List.set_cons_succ]
          refine wpAnyH_take (i := 29) (v := ?_) rfl (by kernel_rfl) (by kernel_rfl) (by kernel_rfl) (fun _ _ _ h => h) (Or.inl ⟨by rfl, ?_⟩) (by assumption) ?_
          rotate_left
          · intro w9 hS9
            try dsimp only at hS9
            go_split_ands
            go_simp
            try with_reducible rfl
          try simp only [Act.put, List.getElem_toArray, List.getElem_cons_succ, List.getElem_cons_zero, List.setIfInBounds_toArray, List.set_cons_zero, List.set_cons_succ]
          first
            | (refine wpAnyH_take (i := 30) (v := undef) rfl (by kernel_rfl) (by kernel_rfl) (by kernel_rfl) (fun _ _ _ h => h) (Or.inr ⟨by rfl, rfl⟩) (by assumption) ?_)
            | (refine wpAnyH_take (i := 30) (v := ?_) rfl (by kernel_rfl) (by kernel_rfl) (by kernel_rfl) (fun _ _ _ h => h) (Or.inl ⟨by rfl, ?_⟩) (by assumption) ?_; rotate_left; (intro w9 hS9; (try dsimp only at hS9); go_split_ands; go_simp; try with_reducible rfl))
          try simp only [Act.put, List.getElem_toArray, List.getElem_cons_succ, List.getElem_cons_zero, List.setIfInBounds_toArray, List.set_cons_zero, List.set_cons_succ]
          first
            | (refine wpAnyH_take (i := 31) (v := undef) rfl (by kernel_rfl) (by kernel_rfl) (by kernel_rfl) (fun _ _ _ h => h) (Or.inr ⟨by rfl, rfl⟩) (by assumption) ?_)
            | (refine wpAnyH_take (i := 31) (v := ?_) rfl (by kernel_rfl) (by kernel_rfl) (by kernel_rfl) (fun _ _ _ h => h) (Or.inl ⟨by rfl, ?_⟩) (by assumption) ?_; rotate_left; (intro w9 hS9; (try dsimp only at hS9); go_split_ands; go_simp; try with_reducible rfl))
          try simp only [Act.put, List.getElem_toArray, List.getElem_cons_succ, List.getElem_cons_zero, List.setIfInBounds_toArray, List.set_cons_zero, List.set_cons_succ]
          first
            | (refine wpAnyH_take (i := 32) (v := undef) rfl (by kernel_rfl) (by kernel_rfl) (by kernel_rfl) (fun _ _ _ h => h) (Or.inr ⟨by rfl, rfl⟩) (by assumption) ?_)
            | (refine wpAnyH_take (i := 32) (v := ?_) rfl (by kernel_rfl) (by kernel_rfl) (by kernel_rfl) (fun _ _ _ h => h) (Or.inl ⟨by rfl, ?_⟩) (by assumption) ?_; rotate_left; (intro w9 hS9; (try dsimp only at hS9); go_split_ands; go_simp; try with_reducible rfl))
          try simp only [Act.put, List.getElem_toArray, List.getElem_cons_succ, List.getElem_cons_zero, List.setIfInBounds_toArray, List.set_cons_zero, List.set_cons_succ]
          first
            | (refine wpAnyH_take (i := 33) (v := undef) rfl (by kernel_rfl) (by kernel_rfl) (by kernel_rfl) (fun _ _ _ h => h) (Or.inr ⟨by rfl, rfl⟩) (by assumption) ?_)
            | (refine wpAnyH_take (i := 33) (v := ?_) rfl (by kernel_rfl) (by kernel_rfl) (by kernel_rfl) (fun _ _ _ h => h) (Or.inl ⟨by rfl, ?_⟩) (by assumption) ?_; rotate_left; (intro w9 hS9; (try dsimp only at hS9); go_split_ands; go_simp; try with_reducible rfl))
          try simp only [Act.put, List.getElem_toArray, List.getElem_cons_succ, List.getElem_cons_zero, List.setIfInBounds_toArray, List.set_cons_zero, List.set_cons_succ]
          first
            | (refine wpAnyH_take (i := 34) (v := undef) rfl (by kernel_rfl) (by kernel_rfl) (by kernel_rfl) (fun _ _ _ h => h) (Or.inr ⟨by rfl, rfl⟩) (by assumption) ?_)
            | (refine wpAnyH_take (i := 34) (v := ?_) rfl (by kernel_rfl) (by kernel_rfl) (by kernel_rfl) (fun _ _ _ h => h) (Or.inl ⟨by rfl, ?_⟩) (by assumption) ?_; rotate_left; (intro w9 hS9; (try dsimp only at hS9); go_split_ands; go_simp; try with_reducible rfl))
          try simp only [Act.put, List.getElem_toArray, List.getElem_cons_succ, List.getElem_cons_zero, List.setIfInBounds_toArray, List.set_cons_zero, List.set_cons_succ]
          first
            | (refine wpAnyH_take (i := 35) (v := undef) rfl (by kernel_rfl) (by kernel_rfl) (by kernel_rfl) (fun _ _ _ h => h) (Or.inr ⟨by rfl, rfl⟩) (by assumption) ?_)
            | (refine wpAnyH_take (i := 35) (v := ?_) rfl (by kernel_rfl) (by kernel_rfl) (by kernel_rfl) (fun _ _ _ h => h) (Or.inl ⟨by rfl, ?_⟩) (by assumption) ?_; rotate_left; (intro w9 hS9; (try dsimp only at hS9); go_split_ands; go_simp; try with_reducible rfl))
          try simp only [Act.put, List.getElem_toArray, List.getElem_cons_succ, List.getElem_cons_zero, List.setIfInBounds_toArray, List.set_cons_zero, List.set_cons_succ]
          first
            | (refine wpAnyH_take (i := 36) (v := undef) rfl (by kernel_rfl) (by kernel_rfl) (by kernel_rfl) (fun _ _ _ h => h) (Or.inr ⟨by rfl, rfl⟩) (by assumption) ?_)
            | (refine wpAnyH_take (i := 36) (v := ?_) rfl (by kernel_rfl) (by kernel_rfl) (by kernel_rfl) (fun _ _ _ h => h) (Or.inl ⟨by rfl, ?_⟩) (by assumption) ?_; rotate_left; (intro w9 hS9; (try dsimp only at hS9); go_split_ands; go_simp; try with_reducible rfl))
          try simp only [Act.put, List.getElem_toArray, List.getElem_cons_succ, List.getElem_cons_zero, List.setIfInBounds_toArray, List.set_cons_zero, List.set_cons_succ]
          first
            | (refine wpAnyH_take (i := 37) (v := undef) rfl (by kernel_rfl) (by kernel_rfl) (by kernel_rfl) (fun _ _ _ h => h) (Or.inr ⟨by rfl, rfl⟩) (by assumption) ?_)
            | (refine wpAnyH_take (i := 37) (v := ?_) rfl (by kernel_rfl) (by kernel_rfl) (by kernel_rfl) (fun _ _ _ h => h) (Or.inl ⟨by rfl, ?_⟩) (by assumption) ?_; rotate_left; (intro w9 hS9; (try dsimp only at hS9); go_split_ands; go_simp; try with_reducible rfl))
          try simp only [Act.put, List.getElem_toArray, List.getElem_cons_succ, List.getElem_cons_zero, List.setIfInBounds_toArray, List.set_cons_zero, List.set_cons_succ]
          first
            | (refine wpAnyH_take (i := 38) (v := undef) rfl (by kernel_rfl) (by kernel_rfl) (by kernel_rfl) (fun _ _ _ h => h) (Or.inr ⟨by rfl, rfl⟩) (by assumption) ?_)
            | (refine wpAnyH_take (i := 38) (v := ?_) rfl (by kernel_rfl) (by kernel_rfl) (by kernel_rfl) (fun _ _ _ h => h) (Or.inl ⟨by rfl, ?_⟩) (by assumption) ?_; rotate_left; (intro w9 hS9; (try dsimp only at hS9); go_split_ands; go_simp; try with_reducible rfl))
          try simp only [Act.put, List.getElem_toArray, List.getElem_cons_succ, List.getElem_cons_zero, List.setIfInBounds_toArray, List.set_cons_zero, List.set_cons_succ]
          refine wpAnyH_take (i := 39) (v := ?_) rfl (by kernel_rfl) (by kernel_rfl) (by kernel_rfl) (fun _ _ _ h => h) (Or.inl ⟨by rfl, ?_⟩) (by assumption) ?_
          rotate_left
          · intro w9 hS9
            try dsimp only at hS9
            go_split_ands
            go_simp
            try with_reducible rfl
          try simp only [Act.put, List.getElem_toArray, List.getElem_cons_succ, List.getElem_cons_zero, List.setIfInBounds_toArray, List.set_cons_zero, List.set_cons_succ]
          refine wpAnyH_take (i := 40) (v := ?_) rfl (by kernel_rfl) (by kernel_rfl) (by kernel_rfl) (fun _ _ _ h => h) (Or.inl ⟨by rfl, ?_⟩) (by assumption) ?_
          rotate_left
          · intro w9 hS9
            try dsimp only at hS9
            go_split_ands
            go_simp
            try with_reducible rfl
          try simp only [Act.put, List.getElem_toArray, List.getElem_cons_succ, List.getElem_cons_zero, List.setIfInBounds_toArray, List.set_cons_zero, List.set_cons_succ]
          refine wpAnyH_done (by kernel_rfl) ?_ _
          have HFQ := Lib.hid (HFW.out.trans hq4 (by simp))
          have HTQ := Lib.hid (HT8.out.nil hq4)
          clear hq1 hg1 hq2 hg2 hq3 hg3 hq4 hg4
          go_wp2_with fail
          go_roundg (5 - (k + 1))
          case rel => exact ⟨k + 1, rfl, by have := HK.out; omega, by go_num, HTQ.out.mono (by omega), HFQ.out⟩
          case measure => have := HQ.out; have := HK.out; omega
    · skip
      have i5 : ¬ (k : Int) < 5 := by omega
      clear hlt
      go_wp2_with fail
      refine (sane_any wr).mono ?_
      rintro e2 w2 ⟨rfl, hf2⟩
      go_wp2_with fail
      go_ret
      have h1 := HTW.out
      exact ⟨rfl, (HF1.out.trans (HF.out.trans hf2 (by simp)) (fun x hx => .inr (by simp at hx; omega)))⟩
end Go.Proofs.Ytfndgiinniibfaa.Ind
