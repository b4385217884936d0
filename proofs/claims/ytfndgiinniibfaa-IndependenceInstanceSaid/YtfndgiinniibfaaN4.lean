/- IndependenceInstance returns true: the walk. (Printed by wip/tools/n4.py.) -/
import Derived.Test.YtfndgiinniibfaaM8
import Derived.Test.YtfndgiinniibfaaM4
import Derived.Test.YtfndgiinniibfaaL4
import Derived.Test.YtfndgiinniibfaaM0
namespace Go.Proofs.Ytfndgiinniibfaa.Ind
open Go.Shelf Go.RowKit Go.Lib

set_option linter.unusedSimpArgs false in
set_option maxRecDepth 100000 in
set_option maxHeartbeats 8000000 in
theorem instance_walk (ta : Option Addr) (tc : Nat) (xs : List Int) (m : RM) (sv : Value) (n : Int) (w : World) (ht : Rd w.heap.size w ta xs.length tc 1 (ints xs)) (hx : ∀ x ∈ xs, -9223372036854775808 ≤ x ∧ x ≤ 9223372036854775807) (hm : StatesAt w [] sv m.states) :
    Calls Try.prog 5 #[.slice ta xs.length tc, machV m sv, .int .i64 n] w fun e w' => e = .returned (.bool true) ∧ Frm [] w w' := by
  obtain ⟨sa, sc, rfl, _⟩ := statesShape hm
  have f0 : Frm [] w (w.alloc (.cells #[.int .i64 m.regs, .int .i64 m.data, .int .i64 m.plain, .slice sa m.states.length sc] 28)) := (Frm.refl [] w).alloc _
  have hb0 := RowAt.made w 28 (mboxC m (.slice sa m.states.length sc)) #[.int .i64 m.regs, .int .i64 m.data, .int .i64 m.plain, .slice sa m.states.length sc] rfl
  have htn := tape_new w.heap.size ta tc xs _ (ht.nil f0) hx
  have HM := Lib.hid hm
  clear ht hx hm
  unfold machV
  go_enter Try.func5, Try.ntmps5
  go_wp2_with fail
  have hs0 : (w.alloc (.cells #[.int .i64 m.regs, .int .i64 m.data, .int .i64 m.plain, .slice sa m.states.length sc] 28)).heap.size = w.heap.size + 1 := by simp
  generalize w.alloc (.cells #[.int .i64 m.regs, .int .i64 m.data, .int .i64 m.plain, .slice sa m.states.length sc] 28) = W0 at *
  refine htn.mono ?_
  rintro e1 W1 ⟨rfl, hf1, hT1, hs1⟩
  have HF1 := Lib.hid (f0.trans hf1 (by simp))
  have HB1 := Lib.hid (hb0.frm hf1 (by simp))
  have HT1 := Lib.hid hT1
  have HTW : Hid (w.heap.size < W0.heap.size ∧ W0.heap.size < W1.heap.size) := Lib.hid (by omega)
  generalize W0.heap.size = tb at *
  clear htn f0 hb0 hf1 hT1 hs0 hs1
  go_wp2_with fail
  go_loopg [8, 9] 4 (fun q t8 _ wr => ∃ (k : Nat), q = 4 - k ∧ k ≤ 4 ∧ t8 = .int .i64 k ∧ TapeOk w.heap.size wr tb (300 * k) ∧ Frm [tb] W1 wr)
  case atStart => exact ⟨0, rfl, Nat.zero_le _, rfl, HT1.out, Frm.refl _ _⟩
  case round =>
    obtain ⟨k, hq, hk, rfl, hT, hF⟩ := hrel
    have HQ := Lib.hid hq
    have HT := Lib.hid hT
    have HF := Lib.hid hF
    have i4 : (0 : Int) ≤ (k : Int) := by omega
    clear hq hT hF
    by_cases hlt : k < 4
    · have i5 : (k : Int) < 4 := by omega
      have HK := Lib.hid hlt
      have HBT : Hid (w.heap.size ≤ tb) := Lib.hid (Nat.le_of_lt HTW.out.1)
      clear hlt hk
      go_wp2_with fail
      refine (machine_any w.heap.size tb (300 * k) false wr HT.out HBT.out (by have := HK.out; omega)).mono ?_
      rintro e2 w2 ⟨m1, sv1, rfl, hst, hd, hT2, hf2⟩
      obtain ⟨s1, c1, rfl, _⟩ := statesShape hst
      have f3 : Frm [] w2 (w2.alloc (.cells #[.int .i64 m1.regs, .int .i64 m1.data, .int .i64 m1.plain, .slice s1 m1.states.length c1] 28)) := (Frm.refl [] w2).alloc _
      have HM3 := Lib.hid (RowAt.made w2 28 (mboxC m1 (.slice s1 m1.states.length c1)) #[.int .i64 m1.regs, .int .i64 m1.data, .int .i64 m1.plain, .slice s1 m1.states.length c1] rfl)
      have HST := Lib.hid (hst.nil f3)
      have HT3 := Lib.hid (hT2.nil f3)
      have HFW3 := Lib.hid (((HF.out.trans hf2 (fun x hx => .inl hx))).trans f3 (by simp))
      have HD := Lib.hid hd
      have HTX : Hid (tb < w2.heap.size) := Lib.hid (by have h1 := HTW.out.2; have h2 := HF.out.size; have h3 := hf2.size; omega)
      clear hst hT2 hf2 f3 hd
      unfold machV
      go_wp2_with fail
      generalize w2.alloc (.cells #[.int .i64 m1.regs, .int .i64 m1.data, .int .i64 m1.plain, .slice s1 m1.states.length c1] 28) = w3 at *
      generalize w2.heap.size = xm at *
      have KEEP : Hid (∀ (w' : World), Frm [tb] w3 w' → w'.cell? ⟨xm, 0, none⟩ = some (.int .i64 m1.regs) ∧ w'.cell? ⟨xm, 1, none⟩ = some (.int .i64 m1.data) ∧ w'.cell? ⟨xm, 2, none⟩ = some (.int .i64 m1.plain) ∧ w'.cell? ⟨xm, 3, none⟩ = some (.slice s1 m1.states.length c1)) := Lib.hid fun w' hf => by
        have hx := HM3.out.frm hf (by have := HTX.out; simp; omega)
        exact ⟨hx.cell (i := 0) rfl, hx.cell (i := 1) rfl, hx.cell (i := 2) rfl, hx.cell (i := 3) rfl⟩
      have HSX : Hid (∀ (w' : World), Frm [tb] w3 w' → StatesAt w' [tb] (.slice s1 m1.states.length c1) m1.states) := Lib.hid fun w' hf => HST.out.step hf (fun x hx => .inl hx) (fun x hx => .inl hx)
      have hD : Frm [] w3 w3.drew := (Frm.refl [] w3).drew
      have HF0 := Lib.hid (hD.mono (fq := [tb]) (by simp))
      have HT0 := Lib.hid (HT3.out.nil hD)
      clear hD
      refine wp_region_held_drew (S := fun w' => w'.cell? ⟨xm, 0, none⟩ = some (.int .i64 m1.regs) ∧ w'.cell? ⟨xm, 1, none⟩ = some (.int .i64 m1.data) ∧ w'.cell? ⟨xm, 2, none⟩ = some (.int .i64 m1.plain) ∧ w'.cell? ⟨xm, 3, none⟩ = some (.slice s1 m1.states.length c1)) (by kernel_rfl) (KEEP.out _ HF0.out) ?_
      intro hHeld
      generalize w3.drew = v0 at *
      refine wpAnyH_take (i := 0) (v := ?_) rfl (by kernel_rfl) (by kernel_rfl) (by kernel_rfl) (fun _ _ _ h => h) (Or.inl ⟨by rfl, ?_⟩) (by assumption) ?_
      rotate_left
      · intro w9 hS9
        try dsimp only at hS9
        go_split_ands
        go_simp
        try with_reducible rfl
      try simp only [Act.put, List.getElem_toArray, List.getElem_cons_succ, List.getElem_cons_zero, List.setIfInBounds_toArray, List.set_cons_zero, List.set_cons_succ]
      refine wpAnyH_take (i := 1) (v := ?_) rfl (by kernel_rfl) (by kernel_rfl) (by kernel_rfl) (fun _ _ _ h => h) (Or.inl ⟨by rfl, ?_⟩) (by assumption) ?_
      rotate_left
      · intro w9 hS9
        try dsimp only at hS9
        go_split_ands
        go_simp
        try with_reducible rfl
      try simp only [Act.put, List.getElem_toArray, List.getElem_cons_succ, List.getElem_cons_zero, List.setIfInBounds_toArray, List.set_cons_zero, List.set_cons_succ]
      refine wpAnyH_ready (rs := [2]) (by kernel_rfl) (by simp) ?_
      refine AllReadyH.cons rfl (fun K hK => ?_) AllReadyH.nil
      go_simp
      refine (next_any w.heap.size tb (300 * k + 100) 3 v0 HT0.out HBT.out (by have := HK.out; omega) (by omega)).mono ?_
      rintro e9 v1 ⟨⟨y, rfl, hy, -⟩, hT9, hf9⟩
      have hy0 : 0 ≤ y := by omega
      have hy1 : y < 3 := by omega
      clear hy
      have HF1 := Lib.hid (HF0.out.trans hf9 (fun x hx => .inl hx))
      have HT1 := Lib.hid hT9
      refine hK.out _ _ ?_ (fun hHeld => ?_)
      · exact KEEP.out _ HF1.out
      clear hK K
      try simp only [Act.put, List.getElem_toArray, List.getElem_cons_succ, List.getElem_cons_zero, List.setIfInBounds_toArray, List.set_cons_zero, List.set_cons_succ]
      clear hT9 hf9
      refine wpAnyH_take (i := 3) (v := ?_) rfl (by kernel_rfl) (by kernel_rfl) (by kernel_rfl) (fun _ _ _ h => h) (Or.inl ⟨by rfl, ?_⟩) (by assumption) ?_
      rotate_left
      · intro w9 hS9
        try dsimp only at hS9
        go_split_ands
        go_simp
        try with_reducible rfl
      try simp only [Act.put, List.getElem_toArray, List.getElem_cons_succ, List.getElem_cons_zero, List.setIfInBounds_toArray, List.set_cons_zero, List.set_cons_succ]
      refine wpAnyH_ready (rs := [4]) (by kernel_rfl) (by simp) ?_
      refine AllReadyH.cons rfl (fun K hK => ?_) AllReadyH.nil
      go_simp
      have hcall := instances_any v1 m1 (.slice s1 m1.states.length c1) (IntKind.i64.wrap (1 + y)) (HSX.out _ HF1.out)
      unfold machV at hcall
      refine hcall.mono ?_
      rintro e9 v2 ⟨rfl, hf9⟩
      clear hcall
      have HF2 := Lib.hid (HF1.out.trans hf9 (by simp))
      have HT2 := Lib.hid (HT1.out.nil hf9)
      refine hK.out _ _ ?_ (fun hHeld => ?_)
      · exact KEEP.out _ HF2.out
      clear hK K
      try simp only [Act.put, List.getElem_toArray, List.getElem_cons_succ, List.getElem_cons_zero, List.setIfInBounds_toArray, List.set_cons_zero, List.set_cons_succ]
      clear hf9
      refine wpAnyH_take (i := 5) (v := ?_) rfl (by kernel_rfl) (by kernel_rfl) (by kernel_rfl) (fun _ _ _ h => h) (Or.inl ⟨by rfl, ?_⟩) (by assumption) ?_
      rotate_left
      · intro w9 hS9
        try dsimp only at hS9
        go_split_ands
        go_simp
        try with_reducible rfl
      try simp only [Act.put, List.getElem_toArray, List.getElem_cons_succ, List.getElem_cons_zero, List.setIfInBounds_toArray, List.set_cons_zero, List.set_cons_succ]
      refine wpAnyH_take (i := 6) (v := ?_) rfl (by kernel_rfl) (by kernel_rfl) (by kernel_rfl) (fun _ _ _ h => h) (Or.inl ⟨by rfl, ?_⟩) (by assumption) ?_
      rotate_left
      · intro w9 hS9
        try dsimp only at hS9
        go_split_ands
        go_simp
        try with_reducible rfl
      try simp only [Act.put, List.getElem_toArray, List.getElem_cons_succ, List.getElem_cons_zero, List.setIfInBounds_toArray, List.set_cons_zero, List.set_cons_succ]
      refine wpAnyH_take (i := 7) (v := ?_) rfl (by kernel_rfl) (by kernel_rfl) (by kernel_rfl) (fun _ _ _ h => h) (Or.inl ⟨by rfl, ?_⟩) (by assumption) ?_
      rotate_left
      · intro w9 hS9
        try dsimp only at hS9
        go_split_ands
        go_simp
        try with_reducible rfl
      try simp only [Act.put, List.getElem_toArray, List.getElem_cons_succ, List.getElem_cons_zero, List.setIfInBounds_toArray, List.set_cons_zero, List.set_cons_succ]
      refine wpAnyH_take (i := 9) (v := ?_) rfl (by kernel_rfl) (by kernel_rfl) (by kernel_rfl) (fun _ _ _ h => h) (Or.inl ⟨by rfl, ?_⟩) (by assumption) ?_
      rotate_left
      · intro w9 hS9
        try dsimp only at hS9
        go_split_ands
        go_simp
        try with_reducible rfl
      try simp only [Act.put, List.getElem_toArray, List.getElem_cons_succ, List.getElem_cons_zero, List.setIfInBounds_toArray, List.set_cons_zero, List.set_cons_succ]
      refine wpAnyH_ready (rs := [8]) (by kernel_rfl) (by simp) ?_
      refine AllReadyH.cons rfl (fun K hK => ?_) AllReadyH.nil
      go_simp
      refine (machine_any w.heap.size tb (300 * k + 100 + 1) true v2 HT2.out HBT.out (by have := HK.out; omega)).mono ?_
      rintro e9 v3 ⟨m2, sv2, rfl, hst, -, hT9, hf9⟩
      obtain ⟨s2, c2, rfl, _⟩ := statesShape hst
      have HS2 := Lib.hid hst
      clear hst
      unfold machV
      have HF3 := Lib.hid (HF2.out.trans hf9 (fun x hx => .inl hx))
      have HT3 := Lib.hid hT9
      refine hK.out _ _ ?_ (fun hHeld => ?_)
      · exact KEEP.out _ HF3.out
      clear hK K
      try simp only [Act.put, List.getElem_toArray, List.getElem_cons_succ, List.getElem_cons_zero, List.setIfInBounds_toArray, List.set_cons_zero, List.set_cons_succ]
      clear hT9 hf9
      refine wpAnyH_ready (rs := [10]) (by kernel_rfl) (by simp) ?_
      refine AllReadyH.cons rfl (fun K hK => ?_) AllReadyH.nil
      go_simp
      refine (next_any w.heap.size tb (300 * k + 100 + 1 + 100) 3 v3 HT3.out HBT.out (by have := HK.out; omega) (by omega)).mono ?_
      rintro e9 v4 ⟨⟨y2, rfl, hy2, -⟩, hT9, hf9⟩
      have hy20 : 0 ≤ y2 := by omega
      have hy21 : y2 < 3 := by omega
      clear hy2
      have HF4 := Lib.hid (HF3.out.trans hf9 (fun x hx => .inl hx))
      have HT4 := Lib.hid hT9
      refine hK.out _ _ ?_ (fun hHeld => ?_)
      · exact KEEP.out _ HF4.out
      clear hK K
      try simp only [Act.put, List.getElem_toArray, List.getElem_cons_succ, List.getElem_cons_zero, List.setIfInBounds_toArray, List.set_cons_zero, List.set_cons_succ]
      have HG2 := Lib.hid hf9
      clear hT9 hf9
      have HS2 := Lib.hid (HS2.out.step ((HF4.out) |> fun _ => HG2.out) (fun x hx => .inl hx) (fun x hx => .inl hx) : StatesAt v4 [tb] _ _)
      refine wpAnyH_take (i := 11) (v := ?_) rfl (by kernel_rfl) (by kernel_rfl) (by kernel_rfl) (fun _ _ _ h => h) (Or.inl ⟨by rfl, ?_⟩) (by assumption) ?_
      rotate_left
      · intro w9 hS9
        try dsimp only at hS9
        go_split_ands
        go_simp
        try with_reducible rfl
      try simp only [Act.put, List.getElem_toArray, List.getElem_cons_succ, List.getElem_cons_zero, List.setIfInBounds_toArray, List.set_cons_zero, List.set_cons_succ]
      refine wpAnyH_ready (rs := [12]) (by kernel_rfl) (by simp) ?_
      refine AllReadyH.cons rfl (fun K hK => ?_) AllReadyH.nil
      go_simp
      have hcall := instances_any v4 m2 (.slice s2 m2.states.length c2) (IntKind.i64.wrap (1 + y2)) (HS2.out)
      unfold machV at hcall
      refine hcall.mono ?_
      rintro e9 v5 ⟨rfl, hf9⟩
      clear hcall
      have HF5 := Lib.hid (HF4.out.trans hf9 (by simp))
      have HT5 := Lib.hid (HT4.out.nil hf9)
      refine hK.out _ _ ?_ (fun hHeld => ?_)
      · exact KEEP.out _ HF5.out
      clear hK K
      try simp only [Act.put, List.getElem_toArray, List.getElem_cons_succ, List.getElem_cons_zero, List.setIfInBounds_toArray, List.set_cons_zero, List.set_cons_succ]
      clear hf9
      refine wpAnyH_take (i := 13) (v := ?_) rfl (by kernel_rfl) (by kernel_rfl) (by kernel_rfl) (fun _ _ _ h => h) (Or.inl ⟨by rfl, ?_⟩) (by assumption) ?_
      rotate_left
      · intro w9 hS9
        try dsimp only at hS9
        go_split_ands
        go_simp
        try with_reducible rfl
      try simp only [Act.put, List.getElem_toArray, List.getElem_cons_succ, List.getElem_cons_zero, List.setIfInBounds_toArray, List.set_cons_zero, List.set_cons_succ]
      refine wpAnyH_take (i := 14) (v := ?_) rfl (by kernel_rfl) (by kernel_rfl) (by kernel_rfl) (fun _ _ _ h => h) (Or.inl ⟨by rfl, ?_⟩) (by assumption) ?_
      rotate_left
      · intro w9 hS9
        try dsimp only at hS9
        go_split_ands
        go_simp
        try with_reducible rfl
      try simp only [Act.put, List.getElem_toArray, List.getElem_cons_succ, List.getElem_cons_zero, List.setIfInBounds_toArray, List.set_cons_zero, List.set_cons_succ]
      refine wpAnyH_take (i := 15) (v := ?_) rfl (by kernel_rfl) (by kernel_rfl) (by kernel_rfl) (fun _ _ _ h => h) (Or.inl ⟨by rfl, ?_⟩) (by assumption) ?_
      rotate_left
      · intro w9 hS9
        try dsimp only at hS9
        go_split_ands
        go_simp
        try with_reducible rfl
      try simp only [Act.put, List.getElem_toArray, List.getElem_cons_succ, List.getElem_cons_zero, List.setIfInBounds_toArray, List.set_cons_zero, List.set_cons_succ]
      refine wpAnyH_take (i := 16) (v := ?_) rfl (by kernel_rfl) (by kernel_rfl) (by kernel_rfl) (fun _ _ _ h => h) (Or.inl ⟨by rfl, ?_⟩) (by assumption) ?_
      rotate_left
      · intro w9 hS9
        try dsimp only at hS9
        go_split_ands
        go_simp
        try with_reducible rfl
      try simp only [Act.put, List.getElem_toArray, List.getElem_cons_succ, List.getElem_cons_zero, List.setIfInBounds_toArray, List.set_cons_zero, List.set_cons_succ]
      refine wpAnyH_take (i := 17) (v := ?_) rfl (by kernel_rfl) (by kernel_rfl) (by kernel_rfl) (fun _ _ _ h => h) (Or.inl ⟨by rfl, ?_⟩) (by assumption) ?_
      rotate_left
      · intro w9 hS9
        try dsimp only at hS9
        go_split_ands
        go_simp
        try with_reducible rfl
      try simp only [Act.put, List.getElem_toArray, List.getElem_cons_succ, List.getElem_cons_zero, List.setIfInBounds_toArray, List.set_cons_zero, List.set_cons_succ]
      refine wpAnyH_ready (rs := [18]) (by kernel_rfl) (by simp) ?_
      refine AllReadyH.cons rfl (fun K hK => ?_) AllReadyH.nil
      go_simp
      have hcg := spoil_any w.heap.size tb (300 * k + 100 + 1 + 100 + 1) false v5 m1 _ (HSX.out _ HF5.out) HD.out HT5.out HBT.out (by have := HK.out; omega)
      unfold machV at hcg
      refine hcg.mono ?_
      rintro e9 v6 ⟨m3, sv3, rfl, hst, hT9, hf9⟩
      obtain ⟨s3, c3, rfl, _⟩ := statesShape hst
      have HS3 := Lib.hid hst
      clear hst hcg
      unfold machV
      have HF6 := Lib.hid (HF5.out.trans hf9 (fun x hx => .inl hx))
      have HT6 := Lib.hid hT9
      refine hK.out _ _ ?_ (fun hHeld => ?_)
      · exact KEEP.out _ HF6.out
      clear hK K
      try simp only [Act.put, List.getElem_toArray, List.getElem_cons_succ, List.getElem_cons_zero, List.setIfInBounds_toArray, List.set_cons_zero, List.set_cons_succ]
      clear hT9 hf9
      refine wpAnyH_ready (rs := [19]) (by kernel_rfl) (by simp) ?_
      refine AllReadyH.cons rfl (fun K hK => ?_) AllReadyH.nil
      go_simp
      have hcall := instances_any v6 m3 (.slice s3 m3.states.length c3) (2) (HS3.out)
      unfold machV at hcall
      refine hcall.mono ?_
      rintro e9 v7 ⟨rfl, hf9⟩
      clear hcall
      have HF7 := Lib.hid (HF6.out.trans hf9 (by simp))
      have HT7 := Lib.hid (HT6.out.nil hf9)
      refine hK.out _ _ ?_ (fun hHeld => ?_)
      · exact KEEP.out _ HF7.out
      clear hK K
      try simp only [Act.put, List.getElem_toArray, List.getElem_cons_succ, List.getElem_cons_zero, List.setIfInBounds_toArray, List.set_cons_zero, List.set_cons_succ]
      clear hf9
      refine wpAnyH_take (i := 20) (v := ?_) rfl (by kernel_rfl) (by kernel_rfl) (by kernel_rfl) (fun _ _ _ h => h) (Or.inl ⟨by rfl, ?_⟩) (by assumption) ?_
      rotate_left
      · intro w9 hS9
        try dsimp only at hS9
        go_split_ands
        go_simp
        try with_reducible rfl
      try simp only [Act.put, List.getElem_toArray, List.getElem_cons_succ, List.getElem_cons_zero, List.setIfInBounds_toArray, List.set_cons_zero, List.set_cons_succ]
      refine wpAnyH_take (i := 21) (v := ?_) rfl (by kernel_rfl) (by kernel_rfl) (by kernel_rfl) (fun _ _ _ h => h) (Or.inl ⟨by rfl, ?_⟩) (by assumption) ?_
      rotate_left
      · intro w9 hS9
        try dsimp only at hS9
        go_split_ands
        go_simp
        try with_reducible rfl
      try simp only [Act.put, List.getElem_toArray, List.getElem_cons_succ, List.getElem_cons_zero, List.setIfInBounds_toArray, List.set_cons_zero, List.set_cons_succ]
      refine wpAnyH_take (i := 22) (v := ?_) rfl (by kernel_rfl) (by kernel_rfl) (by kernel_rfl) (fun _ _ _ h => h) (Or.inl ⟨by rfl, ?_⟩) (by assumption) ?_
      rotate_left
      · intro w9 hS9
        try dsimp only at hS9
        go_split_ands
        go_simp
        try with_reducible rfl
      try simp only [Act.put, List.getElem_toArray, List.getElem_cons_succ, List.getElem_cons_zero, List.setIfInBounds_toArray, List.set_cons_zero, List.set_cons_succ]
      refine wpAnyH_take (i := 23) (v := ?_) rfl (by kernel_rfl) (by kernel_rfl) (by kernel_rfl) (fun _ _ _ h => h) (Or.inl ⟨by rfl, ?_⟩) (by assumption) ?_
      rotate_left
      · intro w9 hS9
        try dsimp only at hS9
        go_split_ands
        go_simp
        try with_reducible rfl
      try simp only [Act.put, List.getElem_toArray, List.getElem_cons_succ, List.getElem_cons_zero, List.setIfInBounds_toArray, List.set_cons_zero, List.set_cons_succ]
      refine wpAnyH_take (i := 25) (v := ?_) rfl (by kernel_rfl) (by kernel_rfl) (by kernel_rfl) (fun _ _ _ h => h) (Or.inl ⟨by rfl, ?_⟩) (by assumption) ?_
      rotate_left
      · intro w9 hS9
        try dsimp only at hS9
        go_split_ands
        go_simp
        try with_reducible rfl
      try simp only [Act.put, List.getElem_toArray, List.getElem_cons_succ, List.getElem_cons_zero, List.setIfInBounds_toArray, List.set_cons_zero, List.set_cons_succ]
      refine wpAnyH_ready (rs := [24, 26]) (by kernel_rfl) (by simp) ?_
      refine AllReadyH.cons rfl (fun K hK => ?_) (AllReadyH.cons rfl (fun K hK => ?_) AllReadyH.nil)
      · skip
        go_simp
        have fs : Frm [] v7 (v7.alloc (.cells #[.int .i64 0, .int .i64 (-1), .int .i64 13] 3)) := (Frm.refl [] v7).alloc _
        have hq := RowAt.made v7 3 [.int .i64 0, .int .i64 (-1), .int .i64 13] #[.int .i64 0, .int .i64 (-1), .int .i64 13] rfl
        have hxq : tb < v7.heap.size := HT7.out.lt
        have HF8 := Lib.hid (HF7.out.trans fs (by simp))
        have HT8 := Lib.hid (HT7.out.nil fs)
        refine hK.out _ _ ?_ (fun hHeld => ?_)
        · exact KEEP.out _ HF8.out
        clear hK K
        try simp only [Act.put, List.getElem_toArray, List.getElem_cons_succ, List.getElem_cons_zero, List.setIfInBounds_toArray, List.set_cons_zero, List.set_cons_succ]
        generalize v7.alloc (.cells #[.int .i64 0, .int .i64 (-1), .int .i64 13] 3) = v8 at *
        generalize v7.heap.size = xq at *
        have HQI := Lib.hid hq
        have HXQ := Lib.hid hxq
        clear fs hq hxq
        refine wpAnyH_ready (rs := [26]) (by kernel_rfl) (by simp) ?_
        refine AllReadyH.cons rfl (fun K hK => ?_) AllReadyH.nil
        go_simp
        refine (next_any w.heap.size tb (300 * k + 100 + 1 + 100 + 1 + 40) 3 v8 HT8.out HBT.out (by have := HK.out; omega) (by omega)).mono ?_
        rintro e9 v9 ⟨⟨jz, rfl, hjz, -⟩, hT9, hf9⟩
        have hjz0 : 0 ≤ jz := by omega
        have hjz1 : jz < 3 := by omega
        clear hjz
        have HF9 := Lib.hid (HF8.out.trans hf9 (fun x hx => .inl hx))
        have HT9 := Lib.hid hT9
        refine hK.out _ _ ?_ (fun hHeld => ?_)
        · exact KEEP.out _ HF9.out
        clear hK K
        try simp only [Act.put, List.getElem_toArray, List.getElem_cons_succ, List.getElem_cons_zero, List.setIfInBounds_toArray, List.set_cons_zero, List.set_cons_succ]
        have HQI := Lib.hid (HQI.out.frm hf9 (by have := HXQ.out; simp; omega))
        clear hT9 hf9
        obtain ⟨j, rfl⟩ : ∃ j : Nat, jz = (j : Int) := ⟨jz.toNat, by omega⟩
        have HJX : Hid (j < 3) := Lib.hid (by omega)
        refine wpAnyH_take (i := 27) (v := ?_) rfl (by kernel_rfl) (by kernel_rfl) (by kernel_rfl) (fun _ _ _ h => h) (Or.inl ⟨by rfl, ?_⟩) (by assumption) ?_
        rotate_left
        · intro w9 hS9
          try dsimp only at hS9
          go_split_ands
          go_simp
          try with_reducible rfl
        try simp only [Act.put, List.getElem_toArray, List.getElem_cons_succ, List.getElem_cons_zero, List.setIfInBounds_toArray, List.set_cons_zero, List.set_cons_succ]
        refine wpAnyH_ready (rs := [28]) (by kernel_rfl) (by simp) ?_
        refine AllReadyH.cons rfl (fun K hK => ?_) AllReadyH.nil
        obtain ⟨kv, hkv⟩ : ∃ kv : Int, [Value.int .i64 0, Value.int .i64 (-1), Value.int .i64 13][j]? = some (.int .i64 kv) := by
          have h9 := HJX.out
          match j, h9 with
          | 0, _ => exact ⟨0, rfl⟩
          | 1, _ => exact ⟨-1, rfl⟩
          | 2, _ => exact ⟨13, rfl⟩
        have hkc := HQI.out.cell hkv
        go_simp
        refine hK.out _ _ ?_ (fun hHeld => ?_)
        · exact KEEP.out _ HF9.out
        clear hK K
        try simp only [Act.put, List.getElem_toArray, List.getElem_cons_succ, List.getElem_cons_zero, List.setIfInBounds_toArray, List.set_cons_zero, List.set_cons_succ]
        clear hkc hkv
        refine wpAnyH_ready (rs := [29]) (by kernel_rfl) (by simp) ?_
        refine AllReadyH.cons rfl (fun K hK => ?_) AllReadyH.nil
        go_simp
        have hcall := instances_any v9 m1 (.slice s1 m1.states.length c1) (kv) (HSX.out _ HF9.out)
        unfold machV at hcall
        refine hcall.mono ?_
        rintro e9 v10 ⟨rfl, hf9⟩
        clear hcall
        have HF10 := Lib.hid (HF9.out.trans hf9 (by simp))
        have HT10 := Lib.hid (HT9.out.nil hf9)
        refine hK.out _ _ ?_ (fun hHeld => ?_)
        · exact KEEP.out _ HF10.out
        clear hK K
        try simp only [Act.put, List.getElem_toArray, List.getElem_cons_succ, List.getElem_cons_zero, List.setIfInBounds_toArray, List.set_cons_zero, List.set_cons_succ]
        clear hf9
        refine wpAnyH_take (i := 30) (v := ?_) rfl (by kernel_rfl) (by kernel_rfl) (by kernel_rfl) (fun _ _ _ h => h) (Or.inl ⟨by rfl, ?_⟩) (by assumption) ?_
        rotate_left
        · intro w9 hS9
          try dsimp only at hS9
          go_split_ands
          go_simp
          try with_reducible rfl
        try simp only [Act.put, List.getElem_toArray, List.getElem_cons_succ, List.getElem_cons_zero, List.setIfInBounds_toArray, List.set_cons_zero, List.set_cons_succ]
        refine wpAnyH_take (i := 31) (v := ?_) rfl (by kernel_rfl) (by kernel_rfl) (by kernel_rfl) (fun _ _ _ h => h) (Or.inl ⟨by rfl, ?_⟩) (by assumption) ?_
        rotate_left
        · intro w9 hS9
          try dsimp only at hS9
          go_split_ands
          go_simp
          try with_reducible rfl
        try simp only [Act.put, List.getElem_toArray, List.getElem_cons_succ, List.getElem_cons_zero, List.setIfInBounds_toArray, List.set_cons_zero, List.set_cons_succ]
        refine wpAnyH_done (by kernel_rfl) ?_ _
        have HFE := Lib.hid (HFW3.out.trans HF10.out (fun x hx => .inl hx))
        have HTE := HT10
        go_wp2_with fail
        go_roundg (4 - (k + 1))
        case rel => exact ⟨k + 1, rfl, by have := HK.out; omega, by go_num, HTE.out.mono (by omega), HFE.out⟩
        case measure => have := HQ.out; have := HK.out; omega
      · skip
        go_simp
        refine (next_any w.heap.size tb (300 * k + 100 + 1 + 100 + 1 + 40) 3 v7 HT7.out HBT.out (by have := HK.out; omega) (by omega)).mono ?_
        rintro e9 v8 ⟨⟨jz, rfl, hjz, -⟩, hT9, hf9⟩
        have hjz0 : 0 ≤ jz := by omega
        have hjz1 : jz < 3 := by omega
        clear hjz
        have HF8 := Lib.hid (HF7.out.trans hf9 (fun x hx => .inl hx))
        have HT8 := Lib.hid hT9
        refine hK.out _ _ ?_ (fun hHeld => ?_)
        · exact KEEP.out _ HF8.out
        clear hK K
        try simp only [Act.put, List.getElem_toArray, List.getElem_cons_succ, List.getElem_cons_zero, List.setIfInBounds_toArray, List.set_cons_zero, List.set_cons_succ]
        clear hT9 hf9
        obtain ⟨j, rfl⟩ : ∃ j : Nat, jz = (j : Int) := ⟨jz.toNat, by omega⟩
        have HJX : Hid (j < 3) := Lib.hid (by omega)
        refine wpAnyH_ready (rs := [24]) (by kernel_rfl) (by simp) ?_
        refine AllReadyH.cons rfl (fun K hK => ?_) AllReadyH.nil
        go_simp
        have fs : Frm [] v8 (v8.alloc (.cells #[.int .i64 0, .int .i64 (-1), .int .i64 13] 3)) := (Frm.refl [] v8).alloc _
        have hq := RowAt.made v8 3 [.int .i64 0, .int .i64 (-1), .int .i64 13] #[.int .i64 0, .int .i64 (-1), .int .i64 13] rfl
        have hxq : tb < v8.heap.size := HT8.out.lt
        have HF9 := Lib.hid (HF8.out.trans fs (by simp))
        have HT9 := Lib.hid (HT8.out.nil fs)
        refine hK.out _ _ ?_ (fun hHeld => ?_)
        · exact KEEP.out _ HF9.out
        clear hK K
        try simp only [Act.put, List.getElem_toArray, List.getElem_cons_succ, List.getElem_cons_zero, List.setIfInBounds_toArray, List.set_cons_zero, List.set_cons_succ]
        generalize v8.alloc (.cells #[.int .i64 0, .int .i64 (-1), .int .i64 13] 3) = v9 at *
        generalize v8.heap.size = xq at *
        have HQI := Lib.hid hq
        have HXQ := Lib.hid hxq
        clear fs hq hxq
        refine wpAnyH_take (i := 27) (v := ?_) rfl (by kernel_rfl) (by kernel_rfl) (by kernel_rfl) (fun _ _ _ h => h) (Or.inl ⟨by rfl, ?_⟩) (by assumption) ?_
        rotate_left
        · intro w9 hS9
          try dsimp only at hS9
          go_split_ands
          go_simp
          try with_reducible rfl
        try simp only [Act.put, List.getElem_toArray, List.getElem_cons_succ, List.getElem_cons_zero, List.setIfInBounds_toArray, List.set_cons_zero, List.set_cons_succ]
        refine wpAnyH_ready (rs := [28]) (by kernel_rfl) (by simp) ?_
        refine AllReadyH.cons rfl (fun K hK => ?_) AllReadyH.nil
        obtain ⟨kv, hkv⟩ : ∃ kv : Int, [Value.int .i64 0, Value.int .i64 (-1), Value.int .i64 13][j]? = some (.int .i64 kv) := by
          have h9 := HJX.out
          match j, h9 with
          | 0, _ => exact ⟨0, rfl⟩
          | 1, _ => exact ⟨-1, rfl⟩
          | 2, _ => exact ⟨13, rfl⟩
        have hkc := HQI.out.cell hkv
        go_simp
        refine hK.out _ _ ?_ (fun hHeld => ?_)
        · exact KEEP.out _ HF9.out
        clear hK K
        try simp only [Act.put, List.getElem_toArray, List.getElem_cons_succ, List.getElem_cons_zero, List.setIfInBounds_toArray, List.set_cons_zero, List.set_cons_succ]
        clear hkc hkv
        refine wpAnyH_ready (rs := [29]) (by kernel_rfl) (by simp) ?_
        refine AllReadyH.cons rfl (fun K hK => ?_) AllReadyH.nil
        go_simp
        have hcall := instances_any v9 m1 (.slice s1 m1.states.length c1) (kv) (HSX.out _ HF9.out)
        unfold machV at hcall
        refine hcall.mono ?_
        rintro e9 v10 ⟨rfl, hf9⟩
        clear hcall
        have HF10 := Lib.hid (HF9.out.trans hf9 (by simp))
        have HT10 := Lib.hid (HT9.out.nil hf9)
        refine hK.out _ _ ?_ (fun hHeld => ?_)
        · exact KEEP.out _ HF10.out
        clear hK K
        try simp only [Act.put, List.getElem_toArray, List.getElem_cons_succ, List.getElem_cons_zero, List.setIfInBounds_toArray, List.set_cons_zero, List.set_cons_succ]
        clear hf9
        refine wpAnyH_take (i := 30) (v := ?_) rfl (by kernel_rfl) (by kernel_rfl) (by kernel_rfl) (fun _ _ _ h => h) (Or.inl ⟨by rfl, ?_⟩) (by assumption) ?_
        rotate_left
        · intro w9 hS9
          try dsimp only at hS9
          go_split_ands
          go_simp
          try with_reducible rfl
        try simp only [Act.put, List.getElem_toArray, List.getElem_cons_succ, List.getElem_cons_zero, List.setIfInBounds_toArray, List.set_cons_zero, List.set_cons_succ]
        refine wpAnyH_take (i := 31) (v := ?_) rfl (by kernel_rfl) (by kernel_rfl) (by kernel_rfl) (fun _ _ _ h => h) (Or.inl ⟨by rfl, ?_⟩) (by assumption) ?_
        rotate_left
        · intro w9 hS9
          try dsimp only at hS9
          go_split_ands
          go_simp
          try with_reducible rfl
        try simp only [Act.put, List.getElem_toArray, List.getElem_cons_succ, List.getElem_cons_zero, List.setIfInBounds_toArray, List.set_cons_zero, List.set_cons_succ]
        refine wpAnyH_done (by kernel_rfl) ?_ _
        have HFE := Lib.hid (HFW3.out.trans HF10.out (fun x hx => .inl hx))
        have HTE := HT10
        go_wp2_with fail
        go_roundg (4 - (k + 1))
        case rel => exact ⟨k + 1, rfl, by have := HK.out; omega, by go_num, HTE.out.mono (by omega), HFE.out⟩
        case measure => have := HQ.out; have := HK.out; omega
    · have i5 : ¬ (k : Int) < 4 := by omega
      clear hlt
      have hFW := HF1.out.trans HF.out (fun x hx => .inr (by have := HTW.out.1; simp at hx; omega))
      have HFW := Lib.hid hFW
      have HMW := Lib.hid (HM.out.nil hFW)
      have HBW := Lib.hid (HB1.out.frm HF.out (by have := HTW.out.1; simp; omega))
      have k0 := HBW.out.cell (i := 0) rfl
      have k1 := HBW.out.cell (i := 1) rfl
      have k2 := HBW.out.cell (i := 2) rfl
      have k3 := HBW.out.cell (i := 3) rfl
      have hhu := huge_any wr m _ HMW.out
      clear hFW hk
      unfold machV at hhu
      go_wp2_with fail
      refine hhu.mono ?_
      rintro e2 w2 ⟨⟨hb, rfl⟩, hf2⟩
      have k0 := HBW.out.frm hf2 (by simp) |>.cell (i := 0) rfl
      have k1 := HBW.out.frm hf2 (by simp) |>.cell (i := 1) rfl
      have k2 := HBW.out.frm hf2 (by simp) |>.cell (i := 2) rfl
      have k3 := HBW.out.frm hf2 (by simp) |>.cell (i := 3) rfl
      have hch := instances_any w2 m _ n (HMW.out.nil hf2)
      unfold machV at hch
      cases hb
      · by_cases h2 : 2 < m.regs
        · go_wp2_with fail
          go_ret
          exact ⟨rfl, HFW.out.trans hf2 (by simp)⟩
        · have h2' : ¬ 2 < m.regs := h2
          by_cases h3 : 3 < n
          · go_wp2_with fail
            go_ret
            exact ⟨rfl, HFW.out.trans hf2 (by simp)⟩
          · have h3' : ¬ 3 < n := h3
            go_wp2_with fail
            refine hch.mono ?_
            rintro e3 w3 ⟨rfl, hf3⟩
            go_wp2_with fail
            refine (sane_any w3).mono ?_
            rintro e4 w4 ⟨rfl, hf4⟩
            go_wp2_with fail
            go_ret
            exact ⟨rfl, ((HFW.out.trans hf2 (by simp)).trans hf3 (by simp)).trans hf4 (by simp)⟩
      · go_wp2_with fail
        go_ret
        exact ⟨rfl, HFW.out.trans hf2 (by simp)⟩
end Go.Proofs.Ytfndgiinniibfaa.Ind
