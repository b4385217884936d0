/- IndependenceValid returns true: the walk. (Printed by wip/tools/n2.py.) -/
import Derived.Test.YtfndgiinniibfaaM8
import Derived.Test.YtfndgiinniibfaaM4
import Derived.Test.YtfndgiinniibfaaL4

import Derived.Test.YtfndgiinniibfaaM0
namespace Go.Proofs.Ytfndgiinniibfaa.Ind
open Go.Shelf Go.RowKit Go.Lib

set_option linter.unusedSimpArgs false in
set_option maxRecDepth 100000 in
set_option maxHeartbeats 8000000 in
theorem valid_walk (ta : Option Addr) (tc : Nat) (xs : List Int) (m : RM) (sv : Value) (w : World) (ht : Rd w.heap.size w ta xs.length tc 1 (ints xs)) (hx : ∀ x ∈ xs, -9223372036854775808 ≤ x ∧ x ≤ 9223372036854775807) (hm : StatesAt w [] sv m.states) :
    Calls Try.prog 4 #[.slice ta xs.length tc, machV m sv] w fun e w' => e = .returned (.bool true) ∧ Frm [] w w' := by
  obtain ⟨sa, sc, rfl, _⟩ := statesShape hm
  have f0 : Frm [] w (w.alloc (.cells #[.int .i64 m.regs, .int .i64 m.data, .int .i64 m.plain, .slice sa m.states.length sc] 28)) := (Frm.refl [] w).alloc _
  have hb0 := RowAt.made w 28 (mboxC m (.slice sa m.states.length sc)) #[.int .i64 m.regs, .int .i64 m.data, .int .i64 m.plain, .slice sa m.states.length sc] rfl
  have htn := tape_new w.heap.size ta tc xs _ (ht.nil f0) hx
  have HM := Lib.hid hm
  clear ht hx hm
  unfold machV
  go_enter Try.func4, Try.ntmps4
  go_wp2_with fail
  have hs0 : (w.alloc (.cells #[.int .i64 m.regs, .int .i64 m.data, .int .i64 m.plain, .slice sa m.states.length sc] 28)).heap.size = w.heap.size + 1 := by simp
  generalize w.alloc (.cells #[.int .i64 m.regs, .int .i64 m.data, .int .i64 m.plain, .slice sa m.states.length sc] 28) = W0 at *
  refine htn.mono ?_
  rintro e1 W1 ⟨rfl, hf1, hT1, hs1⟩
  have HF1 := Lib.hid (f0.trans hf1 (by simp))
  have HB1 := Lib.hid (hb0.frm hf1 (by simp))
  have HT1 := Lib.hid hT1
  have HTW : Hid (w.heap.size < W0.heap.size ∧ W0.heap.size < W1.heap.size) := Lib.hid (by omega)
  generalize W0.heap.size = tb at *
  clear htn f0 hb0 hf1 hT1 hs0 hs1
  go_wp2_with fail
  go_loopg [6, 7] 5 (fun q t6 _ wr => ∃ (k : Nat), q = 5 - k ∧ k ≤ 5 ∧ t6 = .int .i64 k ∧ TapeOk w.heap.size wr tb (300 * k) ∧ Frm [tb] W1 wr)
  case atStart => exact ⟨0, rfl, Nat.zero_le _, rfl, HT1.out, Frm.refl _ _⟩
  case round =>
    obtain ⟨k, hq, hk, rfl, hT, hF⟩ := hrel
    have HQ := Lib.hid hq
    have HT := Lib.hid hT
    have HF := Lib.hid hF
    have i4 : (0 : Int) ≤ (k : Int) := by omega
    clear hq hT hF
    by_cases hlt : k < 5
    · have i5 : (k : Int) < 5 := by omega
      have HK := Lib.hid hlt
      have HBT : Hid (w.heap.size ≤ tb) := Lib.hid (Nat.le_of_lt HTW.out.1)
      clear hlt hk
      go_wp2_with fail
      refine (machine_any w.heap.size tb (300 * k) true wr HT.out HBT.out (by have := HK.out; omega)).mono ?_
      rintro e2 w2 ⟨m1, sv1, rfl, hst, hd, hT2, hf2⟩
      obtain ⟨s1, c1, rfl, _⟩ := statesShape hst
      have f3 : Frm [] w2 (w2.alloc (.cells #[.int .i64 m1.regs, .int .i64 m1.data, .int .i64 m1.plain, .slice s1 m1.states.length c1] 28)) := (Frm.refl [] w2).alloc _
      have HM3 := Lib.hid (RowAt.made w2 28 (mboxC m1 (.slice s1 m1.states.length c1)) #[.int .i64 m1.regs, .int .i64 m1.data, .int .i64 m1.plain, .slice s1 m1.states.length c1] rfl)
      have HST := Lib.hid (hst.nil f3)
      have HT3 := Lib.hid (hT2.nil f3)
      have HF3 := Lib.hid (((HF.out.trans hf2 (fun x hx => .inl hx))).trans f3 (by simp))
      have HD := Lib.hid hd
      have HTX : Hid (tb < w2.heap.size) := Lib.hid (by have h1 := HTW.out.2; have h2 := HF.out.size; have h3 := hf2.size; omega)
      have hch := checks_any _ m1 _ HST.out
      clear hst hT2 hf2 f3 hd
      unfold machV at hch ⊢
      go_wp2_with fail
      generalize w2.alloc (.cells #[.int .i64 m1.regs, .int .i64 m1.data, .int .i64 m1.plain, .slice s1 m1.states.length c1] 28) = w3 at *
      generalize w2.heap.size = xm at *
      refine hch.mono ?_
      rintro e4 w4 ⟨rfl, hf4⟩
      have HM4 := Lib.hid (HM3.out.frm hf4 (by simp))
      have HS4 := Lib.hid (HST.out.nil hf4)
      have HT4 := Lib.hid (HT3.out.nil hf4)
      have HF4 := Lib.hid (HF3.out.trans hf4 (by simp))
      clear hch hf4 HM3 HST HT3 HF3
      go_wp2_with fail
      refine (machine_any w.heap.size tb (300 * k + 100) false w4 HT4.out HBT.out (by have := HK.out; omega)).mono ?_
      rintro e5 w5 ⟨m2, sv2, rfl, hst, -, hT5, hf5⟩
      obtain ⟨s2, c2, rfl, _⟩ := statesShape hst
      have HM5 := Lib.hid (HM4.out.frm hf5 (by have := HTX.out; simp; omega))
      have HS5 := Lib.hid (HS4.out.step hf5 (fun x hx => .inl hx) (fun x hx => .inl hx) : StatesAt w5 [tb] _ _)
      have HT5 := Lib.hid hT5
      have HF5 := Lib.hid (HF4.out.trans hf5 (fun x hx => .inl hx))
      have hch := checks_any _ m2 _ hst
      clear hst hT5 hf5 HM4 HS4 HT4 HF4
      unfold machV at hch ⊢
      go_wp2_with fail
      refine hch.mono ?_
      rintro e6 w6 ⟨rfl, hf6⟩
      have HM6 := Lib.hid (HM5.out.frm hf6 (by simp))
      have HS6 := Lib.hid (HS5.out.nil hf6)
      have HT6 := Lib.hid (HT5.out.nil hf6)
      have HF6 := Lib.hid (HF5.out.trans hf6 (by simp))
      have k0 := HM6.out.cell (i := 0) rfl
      have k1 := HM6.out.cell (i := 1) rfl
      have k2 := HM6.out.cell (i := 2) rfl
      have k3 := HM6.out.cell (i := 3) rfl
      have hcg := change_any [tb] w.heap.size tb (300 * k + 200) true true w6 m1 _ HS6.out (by simp) (fun x hx => by have h1 := HTX.out; have h2 := HM6.out.lt; simp at hx; omega) HD.out HT6.out HBT.out (by have := HK.out; omega)
      clear hch hf6 HM5 HS5 HT5 HF5
      unfold machV at hcg
      go_wp2_with fail
      refine hcg.mono ?_
      rintro e7 w7 hce
      obtain ⟨m3, sv3, rfl, hst, -, hT7, hf7⟩ := hce.states (fun x hx => by have h1 := HTX.out; have h2 := HM6.out.lt; simp at hx; omega)
      obtain ⟨s3, c3, rfl, _⟩ := statesShape hst
      have HM7 := Lib.hid (HM6.out.frm hf7 (by have := HTX.out; simp; omega))
      have HS7 := Lib.hid (HS6.out.step hf7 (fun x hx => .inl hx) (fun x hx => .inl hx) : StatesAt w7 [tb] _ _)
      have HT7 := Lib.hid hT7
      have HF7 := Lib.hid (HF6.out.trans hf7 (fun x hx => .inl hx))
      have hch := checks_any _ m3 _ hst
      clear hst hT7 hf7 HM6 HS6 HT6 HF6 hce hcg k0 k1 k2 k3
      unfold machV at hch ⊢
      go_wp2_with fail
      refine hch.mono ?_
      rintro e8 w8 ⟨rfl, hf8⟩
      have HM8 := Lib.hid (HM7.out.frm hf8 (by simp))
      have HS8 := Lib.hid (HS7.out.nil hf8)
      have HT8 := Lib.hid (HT7.out.nil hf8)
      have HF8 := Lib.hid (HF7.out.trans hf8 (by simp))
      have k0 := HM8.out.cell (i := 0) rfl
      have k1 := HM8.out.cell (i := 1) rfl
      have k2 := HM8.out.cell (i := 2) rfl
      have k3 := HM8.out.cell (i := 3) rfl
      have hcg := spoil_any w.heap.size tb (300 * k + 220) true w8 m1 _ HS8.out HD.out HT8.out HBT.out (by have := HK.out; omega)
      clear hch hf8 HM7 HS7 HT7 HF7
      unfold machV at hcg
      go_wp2_with fail
      refine hcg.mono ?_
      rintro e9 w9 ⟨m4, sv4, rfl, hst, hT9, hf9⟩
      obtain ⟨s4, c4, rfl, _⟩ := statesShape hst
      have HT9 := Lib.hid hT9
      have HF9 := Lib.hid (HF8.out.trans hf9 (fun x hx => .inl hx))
      have hch := checks_any _ m4 _ hst
      clear hst hT9 hf9 HM8 HS8 HT8 HF8 hcg k0 k1 k2 k3
      unfold machV at hch ⊢
      go_wp2_with fail
      refine hch.mono ?_
      rintro e10 w10 ⟨rfl, hf10⟩
      have HT10 := Lib.hid (HT9.out.nil hf10)
      have HF10 := Lib.hid (HF9.out.trans hf10 (by simp))
      clear hch hf10 HT9 HF9
      go_wp2_with fail
      go_roundg (5 - (k + 1))
      case rel => exact ⟨k + 1, rfl, by have := HK.out; omega, by go_num, HT10.out.mono (by omega), HF10.out⟩
      case measure => have := HQ.out; have := HK.out; omega
    · have i5 : ¬ (k : Int) < 5 := by omega
      clear hlt
      have hFW := HF1.out.trans HF.out (fun x hx => .inr (by have := HTW.out.1; simp at hx; omega))
      have HFW := Lib.hid hFW
      have HMW := Lib.hid (HM.out.nil hFW)
      have HBW := Lib.hid (HB1.out.frm HF.out (by have := HTW.out.1; simp; omega))
      have k0 := HBW.out.cell (i := 0) rfl
      have k1 := HBW.out.cell (i := 1) rfl
      have k2 := HBW.out.cell (i := 2) rfl
      have k3 := HBW.out.cell (i := 3) rfl
      have hhu := huge_any wr m _ HMW.out
      clear hFW hk
      unfold machV at hhu
      go_wp2_with fail
      refine hhu.mono ?_
      rintro e2 w2 ⟨⟨hb, rfl⟩, hf2⟩
      have k0 := HBW.out.frm hf2 (by simp) |>.cell (i := 0) rfl
      have k1 := HBW.out.frm hf2 (by simp) |>.cell (i := 1) rfl
      have k2 := HBW.out.frm hf2 (by simp) |>.cell (i := 2) rfl
      have k3 := HBW.out.frm hf2 (by simp) |>.cell (i := 3) rfl
      have hch := checks_any w2 m _ (HMW.out.nil hf2)
      unfold machV at hch
      cases hb
      · go_wp2_with fail
        refine hch.mono ?_
        rintro e3 w3 ⟨rfl, hf3⟩
        go_wp2_with fail
        refine (sane_any w3).mono ?_
        rintro e4 w4 ⟨rfl, hf4⟩
        go_wp2_with fail
        go_ret
        exact ⟨rfl, ((HFW.out.trans hf2 (by simp)).trans hf3 (by simp)).trans hf4 (by simp)⟩
      · go_wp2_with fail
        go_ret
        exact ⟨rfl, HFW.out.trans hf2 (by simp)⟩
end Go.Proofs.Ytfndgiinniibfaa.Ind
