/- One operation on both heaps. -/
import Derived.Test.YtlpgonnionbkfaaHX
import Derived.Test.YtlpgonnionbkfaaHY
import Derived.Deep.DeepCutAuto
namespace Go.Proofs.Ytlpgonnionbkfaa
open Go.RowKit

theorem new2 (w : World) (a b : Int) : IntsAt (w.alloc (.cells #[.int .i64 a, .int .i64 b] 3)) (.slice (some ⟨w.heap.size, 0, none⟩) 2 2) [a, b] := by
  have h : (w.alloc (.cells #[.int .i64 a, .int .i64 b] 3)).ownsRow 0 3 1 (.slice (some ⟨w.heap.size, 0, none⟩) 2 2) 2 (ints [a, b]) := owns_made_full w 3 1 (ints [a, b]) 2 rfl (by decide)
  exact ints_of_owns (xs := [a, b]) h
theorem new2a (w : World) (a b : Int) (o : Obj) : IntsAt ((w.alloc (.cells #[.int .i64 a, .int .i64 b] 3)).alloc o) (.slice (some ⟨w.heap.size, 0, none⟩) 2 2) [a, b] := (new2 w a b).frm ((Frm.refl [] _).alloc _) (by simp)
theorem new2b (w : World) (a b : Int) (o : Obj) : IntsAt ((w.alloc o).alloc (.cells #[.int .i64 a, .int .i64 b] 3)) (.slice (some ⟨w.heap.size + 1, 0, none⟩) 2 2) [a, b] := by
  have h := new2 (w.alloc o) a b
  rw [show (w.alloc o).heap.size = w.heap.size + 1 from by simp] at h
  exact h

set_option linter.unusedSimpArgs false in
set_option maxRecDepth 100000 in
set_option maxHeartbeats 4000000 in
theorem apply_any {A : List Nat} {w0 w : World} {hb1 hb2 : Nat} {most : Int} {cs : List HC} (h : Two A w0 w hb1 hb2 most cs cs) (k a b c n : Int) (raw : Bool) :
    Calls Try.prog 19 #[.agg #[.pointer (some ⟨hb1, 0, none⟩), .pointer (some ⟨hb2, 0, none⟩)], .agg #[.int .i64 k, .int .i64 a, .int .i64 b, .int .i64 c, .int .i64 n, .bool raw]] w fun e w' => e = .returned (.bool true) ∧ ∃ cs', Two A w0 w' hb1 hb2 most cs' cs' := by
  obtain ⟨fp1, fp2, hT, h0⟩ := h
  have f0 : Frm [] w ((w.alloc (.cells #[.pointer (some ⟨hb1, 0, none⟩), .pointer (some ⟨hb2, 0, none⟩)] 46)).alloc (.cells #[.int .i64 k, .int .i64 a, .int .i64 b, .int .i64 c, .int .i64 n, .bool raw] 52)) := ((Frm.refl [] w).alloc _).alloc _
  have r2 := (RowAt.made w 46 [.pointer (some ⟨hb1, 0, none⟩), .pointer (some ⟨hb2, 0, none⟩)] #[.pointer (some ⟨hb1, 0, none⟩), .pointer (some ⟨hb2, 0, none⟩)] rfl).alloc (.cells #[.int .i64 k, .int .i64 a, .int .i64 b, .int .i64 c, .int .i64 n, .bool raw] 52)
  have r3 := RowAt.made (w.alloc (.cells #[.pointer (some ⟨hb1, 0, none⟩), .pointer (some ⟨hb2, 0, none⟩)] 46)) 52 [.int .i64 k, .int .i64 a, .int .i64 b, .int .i64 c, .int .i64 n, .bool raw] #[.int .i64 k, .int .i64 a, .int .i64 b, .int .i64 c, .int .i64 n, .bool raw] rfl
  rw [show (w.alloc (.cells #[.pointer (some ⟨hb1, 0, none⟩), .pointer (some ⟨hb2, 0, none⟩)] 46)).heap.size = w.heap.size + 1 from by simp] at r3
  have HT := Lib.hid hT
  have H0 := Lib.hid h0
  have F0 := Lib.hid f0
  have R2 := Lib.hid r2
  have R3 := Lib.hid r3
  clear hT h0 f0 r2 r3
  go_enter Try.func19, Try.ntmps19
  go_wp2_with fail
  generalize (w.alloc (.cells #[.pointer (some ⟨hb1, 0, none⟩), .pointer (some ⟨hb2, 0, none⟩)] 46)).alloc (.cells #[.int .i64 k, .int .i64 a, .int .i64 b, .int .i64 c, .int .i64 n, .bool raw] 52) = W0 at *
  obtain ⟨x2, hx2⟩ : ∃ x, x = w.heap.size := ⟨_, rfl⟩
  obtain ⟨x3, hx3⟩ : ∃ x, x = w.heap.size + 1 := ⟨_, rfl⟩
  rw [← hx3] at R3 ⊢
  rw [← hx2] at R2 ⊢
  have n23 : x2 ≠ x3 := by omega
  have n32 : x3 ≠ x2 := by omega
  have HX2W : Hid (w.heap.size ≤ x2) := Lib.hid (by omega)
  have HX3W : Hid (w.heap.size ≤ x3) := Lib.hid (by omega)
  have p0 := R2.out.cell (i := 0) rfl
  have p1 := R2.out.cell (i := 1) rfl
  have c0 := R3.out.cell (i := 0) rfl
  have c1 := R3.out.cell (i := 1) rfl
  have c2 := R3.out.cell (i := 2) rfl
  have c3 := R3.out.cell (i := 3) rfl
  have c4 := R3.out.cell (i := 4) rfl
  have c5 := R3.out.cell (i := 5) rfl
  have hTd := HT.out.frm F0.out (by simp) (by simp)
  have HTD := Lib.hid hTd
  have hsm := hTd.h2.small
  have HSM := Lib.hid hsm
  clear hx2 hx3 hTd hsm
  go_cut [18] (fun s18 wx => ∃ a' b' c' : Int, RowAt wx x2 46 [.pointer (some ⟨hb1, 0, none⟩), .pointer (some ⟨hb2, 0, none⟩)] ∧ RowAt wx x3 52 [.int .i64 k, .int .i64 a', .int .i64 b', .int .i64 c', .int .i64 n, .bool raw] ∧ Frm [] w wx)
  case first =>
    go_region_with (first | (go_at_call 31; refine (rsize_m (HTD.out.h2.frm ((Frm.refl [] _).drew) (by simp))).mono ?_; rintro e3 w3 ⟨rfl, rfl⟩) | (go_at_call 30; refine (small_any k a b c n raw cs.length _ HSM.out).mono ?_; rintro e4 w4 ⟨a', b', c', rfl, hf4⟩; have R4 := R3.out.frm (((Frm.refl [] W0).drew).trans hf4 (by simp)) (by simp); have d0 := R4.cell (i := 0) rfl; have d1 := R4.cell (i := 1) rfl; have d2 := R4.cell (i := 2) rfl; have d3 := R4.cell (i := 3) rfl; have d4 := R4.cell (i := 4) rfl; have d5 := R4.cell (i := 5) rfl; have z0 := R4.frozen 0; have z1 := R4.frozen 1; have z2 := R4.frozen 2; have z3 := R4.frozen 3; have z4 := R4.frozen 4; have z5 := R4.frozen 5))
    all_goals
      have f4 : Frm [] w w4 := (F0.out.drew).trans hf4 (by simp)
      have r3 := (((((R4.setCell 0 (.int .i64 k)).setCell 1 (.int .i64 a')).setCell 2 (.int .i64 b')).setCell 3 (.int .i64 c')).setCell 4 (.int .i64 n)).setCell 5 (.bool raw)
      simp only [List.set_cons_succ, List.set_cons_zero] at r3
      have g3 : Frm [x3] w4 ((((((w4.setCell ⟨x3, 0, none⟩ (.int .i64 k)).setCell ⟨x3, 1, none⟩ (.int .i64 a')).setCell ⟨x3, 2, none⟩ (.int .i64 b')).setCell ⟨x3, 3, none⟩ (.int .i64 c')).setCell ⟨x3, 4, none⟩ (.int .i64 n)).setCell ⟨x3, 5, none⟩ (.bool raw)) :=
        ((((((Frm.refl [x3] w4).setCell (p := ⟨x3, 0, none⟩) (.inl (by simp)) _).setCell (p := ⟨x3, 1, none⟩) (.inl (by simp)) _).setCell (p := ⟨x3, 2, none⟩) (.inl (by simp)) _).setCell (p := ⟨x3, 3, none⟩) (.inl (by simp)) _).setCell (p := ⟨x3, 4, none⟩) (.inl (by simp)) _).setCell (p := ⟨x3, 5, none⟩) (.inl (by simp)) _
      have r2 := (R2.out.frm (((Frm.refl [] W0).drew).trans hf4 (by simp)) (by simp)).frm g3 (by simpa using n23)
      have f5 : Frm [] w _ := f4.trans g3 (fun x hx => .inr (by rw [List.mem_singleton] at hx; rw [hx]; exact HX3W.out))
      clear d0 d1 d2 d3 d4 d5 z0 z1 z2 z3 z4 z5 c0 c1 c2 c3 c4 c5 p0 p1 R4 hf4 f4 g3 HTD HSM F0
      go_wp2_with fail
      go_meet
      case rel => exact ⟨a', b', c', r2, r3, f5⟩
  case rest =>
    obtain ⟨a', b', c', r2, r3, f5⟩ := hcut
    obtain ⟨W1, hW1⟩ : ∃ x, x = wc := ⟨_, rfl⟩
    subst hW1
    have F5 := Lib.hid f5
    have RA2 := Lib.hid r2
    have RA3 := Lib.hid r3
    have c0 := r3.cell (i := 0) rfl
    have c1 := r3.cell (i := 1) rfl
    have c2 := r3.cell (i := 2) rfl
    have c3 := r3.cell (i := 3) rfl
    have c4 := r3.cell (i := 4) rfl
    have l3 := r3.lt
    have l2 := r2.lt
    have n3 : x3 ≠ W1.heap.size := by omega
    have n4 : x3 ≠ W1.heap.size + 1 := by omega
    clear f5 r2 r3
    go_wp2_with fail
    refine (mod_any k 9 _ (by decide) (by decide)).mono ?_
    rintro e5 w5 ⟨m, rfl, hm, rfl⟩
    have ra2 := (RA2.out.alloc (.cells #[.int .i64 a', .int .i64 b'] 3)).alloc (.cells #[.int .i64 c', .int .i64 n, .slice (some ⟨W1.heap.size, 0, none⟩) 2 2] 32)
    have ra3 := (RA3.out.alloc (.cells #[.int .i64 a', .int .i64 b'] 3)).alloc (.cells #[.int .i64 c', .int .i64 n, .slice (some ⟨W1.heap.size, 0, none⟩) 2 2] 32)
    have ra5 := RowAt.made (W1.alloc (.cells #[.int .i64 a', .int .i64 b'] 3)) 32 [.int .i64 c', .int .i64 n, .slice (some ⟨W1.heap.size, 0, none⟩) 2 2] #[.int .i64 c', .int .i64 n, .slice (some ⟨W1.heap.size, 0, none⟩) 2 2] rfl
    rw [show (W1.alloc (.cells #[.int .i64 a', .int .i64 b'] 3)).heap.size = W1.heap.size + 1 from by simp] at ra5
    have ow6 : (W1.alloc (.cells #[.int .i64 a', .int .i64 b'] 3)).ownsRow 0 3 1 (.slice (some ⟨W1.heap.size, 0, none⟩) 2 2) 2 (ints [a', b']) := owns_made_full W1 3 1 (ints [a', b']) 2 rfl (by decide)
    have i6 := (ints_of_owns (xs := [a', b']) ow6).frm ((Frm.refl [] _).alloc (.cells #[.int .i64 c', .int .i64 n, .slice (some ⟨W1.heap.size, 0, none⟩) 2 2] 32)) (by simp)
    have f6 := (F5.out.alloc (.cells #[.int .i64 a', .int .i64 b'] 3)).alloc (.cells #[.int .i64 c', .int .i64 n, .slice (some ⟨W1.heap.size, 0, none⟩) 2 2] 32)
    have hs1 := F5.out.size
    obtain ⟨x5, hx5⟩ : ∃ x, x = W1.heap.size + 1 := ⟨_, rfl⟩
    obtain ⟨x6, hx6⟩ : ∃ x, x = W1.heap.size := ⟨_, rfl⟩
    have HX5 : Hid (w.heap.size ≤ x5) := Lib.hid (by omega)
    have HX6 : Hid (w.heap.size ≤ x6) := Lib.hid (by omega)
    rw [← hx5] at ra5 ⊢
    rw [← hx6] at ra2 ra3 ra5 i6 f6 ⊢
    clear c0 c1 c2 c3 c4 n3 n4 F5 RA2 RA3 l2 l3 hs1 ow6 hx5 hx6
    generalize (W1.alloc (.cells #[.int .i64 a', .int .i64 b'] 3)).alloc (.cells #[.int .i64 c', .int .i64 n, .slice (some ⟨x6, 0, none⟩) 2 2] 32) = W2 at *
    have HT2 := Lib.hid (HT.out.frm f6 (by simp) (by simp))
    have HF6 := Lib.hid (H0.out.trans f6 (by simp))
    have N1 : Hid (∀ x ∈ fp1, x < w.heap.size) := Lib.hid HT.out.h1.lt
    have N2 : Hid (∀ x ∈ fp2, x < w.heap.size) := Lib.hid HT.out.h2.lt
    have HB : Hid (w0.heap.size ≤ W2.heap.size) := Lib.hid HF6.out.size
    have HWW : Hid (w.heap.size ≤ W2.heap.size) := Lib.hid f6.size
    have RA2 := Lib.hid ra2
    have RA3 := Lib.hid ra3
    have RA5 := Lib.hid ra5
    have I6 := Lib.hid i6
    clear ra2 ra3 ra5 i6 f6 HT H0
    have hmm : m = 0 ∨ m = 1 ∨ m = 2 ∨ m = 3 ∨ m = 4 ∨ m = 5 ∨ m = 6 ∨ m = 7 ∨ m = 8 := by omega
    have p0 := RA2.out.cell (i := 0) rfl
    have p1 := RA2.out.cell (i := 1) rfl
    have a0 := RA5.out.cell (i := 0) rfl
    have a1 := RA5.out.cell (i := 1) rfl
    have a2 := RA5.out.cell (i := 2) rfl
    have s1 := RA3.out.cell (i := 1) rfl
    have s2 := RA3.out.cell (i := 2) rfl
    have M2 : Hid (x2 ∉ fp1) := Lib.hid (fun hm => by have h1 := N1.out _ hm; have h3 := HX2W.out; omega)
    have M3 : Hid (x3 ∉ fp1) := Lib.hid (fun hm => by have h1 := N1.out _ hm; have h3 := HX3W.out; omega)
    have M5 : Hid (x5 ∉ fp1) := Lib.hid (fun hm => by have h1 := N1.out _ hm; have h3 := HX5.out; omega)
    have O2 : Hid (x2 ∉ fp2) := Lib.hid (fun hm => by have h1 := N2.out _ hm; have h3 := HX2W.out; omega)
    have O3 : Hid (x3 ∉ fp2) := Lib.hid (fun hm => by have h1 := N2.out _ hm; have h3 := HX3W.out; omega)
    have O5 : Hid (x5 ∉ fp2) := Lib.hid (fun hm => by have h1 := N2.out _ hm; have h3 := HX5.out; omega)
    have M6 : Hid (∀ k, (Value.slice (some (⟨x6, 0, none⟩ : Addr)) 2 2).ownBlock = some k → k ∉ fp1) := Lib.hid (fun k hk hm => by
      have h1 := N1.out k hm
      have h2 : x6 = k := by simpa [Value.ownBlock] using hk
      have h3 := HX6.out
      omega)
    clear hm
    rcases hmm with hmm | hmm | hmm | hmm | hmm | hmm | hmm | hmm | hmm
    iterate 3
      · subst hmm
        have hal := alloc_m HT2.out.h1 c' n (.slice (some ⟨x6, 0, none⟩) 2 2) [a', b'] I6.out HT2.out.l1 HT2.out.m
        go_wp2_with fail
        refine hal.mono ?_
        rintro e6 w6 ⟨rfl, hs6⟩
        obtain ⟨fpa, hTa, hfa, hsa⟩ := HT2.out.left HB.out hs6 (allocM_ok HT2.out.o1 (by simp)) (allocM_len HT2.out.l1)
        have hra := ralloc_m hTa.h2 c' n (.slice (some ⟨x6, 0, none⟩) 2 2) [a', b'] (I6.out.frm hfa (fun k hk hm => by
          have h1 := N1.out k hm
          have h2 : x6 = k := by simpa [Value.ownBlock] using hk
          have h3 := HX6.out
          omega)) hTa.l2 hTa.m
        have u2 := RA2.out.frm hfa (fun hm => by have h1 := N1.out _ hm; have h3 := HX2W.out; omega)
        have u5 := RA5.out.frm hfa (fun hm => by have h1 := N1.out _ hm; have h3 := HX5.out; omega)
        have t1 := u2.cell (i := 1) rfl
        have b0 := u5.cell (i := 0) rfl
        have b1 := u5.cell (i := 1) rfl
        have b2 := u5.cell (i := 2) rfl
        have HTA := Lib.hid hTa
        have HFA := Lib.hid hfa
        have hb6 := hfa.size
        have HB6 : Hid (w0.heap.size ≤ w6.heap.size) := Lib.hid (by have := HB.out; omega)
        clear hal hs6 hTa hfa hsa u2 u5 p0 p1 a0 a1 a2 s1 s2 hb6
        go_wp2_with fail
        refine hra.mono ?_
        rintro e7 w7 ⟨rfl, hs7⟩
        obtain ⟨fpb, hTb, hfb, hsb⟩ := HTA.out.right HB6.out hs7 (allocM_ok HTA.out.o2 (by simp)) (allocM_len HTA.out.l2)
        have HTB := Lib.hid hTb
        have HFB := Lib.hid hfb
        clear hra hs7 hTb hfb hsb t1 b0 b1 b2
        go_wp2_with fail
        go_ret
        exact ⟨rfl, _, fpa, fpb, HTB.out, (HF6.out.trans HFA.out (fun x hx => HT2.out.b1 x hx)).trans HFB.out (fun x hx => HT2.out.b2 x hx)⟩
    iterate 2
      · subst hmm
        have hen := enter_m HT2.out.h1 HT2.out.o1 a'
        obtain ⟨⟨cc, er, cs1⟩, hce⟩ : ∃ x, enterM cs a' = x := ⟨_, rfl⟩
        rw [hce] at hen
        simp only at hen
        have ho1 : HOk cs1 := by have h9 := enterM_ok (r := a') HT2.out.o1; rw [hce] at h9; exact h9
        have hl1 : (cs1.length : Int) ≤ most := by have h9 := enterM_len cs a'; rw [hce] at h9; simp only at h9; rw [h9]; exact HT2.out.l1
        have HCE := Lib.hid hce
        have HO1 := Lib.hid ho1
        have HL1 := Lib.hid hl1
        clear hce ho1 hl1
        go_wp2_with fail
        refine hen.mono ?_
        rintro e6 w6 ⟨a3, c3, rfl, hi6, hb6, hs6⟩
        obtain ⟨fpa, hTa, hfa, hsa⟩ := HT2.out.left HB.out hs6 HO1.out HL1.out
        have f4 : Frm [] w6 (w6.alloc (.cells #[.int .i64 cc.kind, .int .i64 cc.num, .slice a3 cc.refs.length c3] 32)) := (Frm.refl [] w6).alloc _
        have u2 := (RA2.out.frm hfa M2.out).frm f4 (by simp)
        have u3 := (RA3.out.frm hfa M3.out).frm f4 (by simp)
        have t1 := u2.cell (i := 1) rfl
        have t3 := u3.cell (i := 1) rfl
        have hTc := hTa.frm f4 (by simp) (by simp)
        have hre := renter_m hTc.h2 hTc.o2 a'
        rw [HCE.out] at hre
        simp only at hre
        have I3 := Lib.hid (hi6.frm f4 (by simp))
        have B3 : Hid (∀ k, (Value.slice a3 cc.refs.length c3).ownBlock = some k → k ∉ fp2) := Lib.hid (fun k hk hm => by
          rcases hb6 k hk with h9 | h9
          · exact HT2.out.ap k h9 hm
          · have h1 := N2.out k hm
            have h2 := HWW.out
            omega)
        have R4 := Lib.hid (RowAt.made w6 32 [.int .i64 cc.kind, .int .i64 cc.num, .slice a3 cc.refs.length c3] #[.int .i64 cc.kind, .int .i64 cc.num, .slice a3 cc.refs.length c3] rfl)
        have HTC := Lib.hid hTc
        have HFA := Lib.hid (hfa.trans f4 (by simp))
        have hz6 := hfa.size
        have M7 : Hid (w6.heap.size ∉ fp2) := Lib.hid (fun hm => by
          have h1 := N2.out _ hm
          have h2 := HWW.out
          omega)
        have e26 : x2 ≠ w6.heap.size := by have h1 := RA2.out.lt; omega
        have e36 : x3 ≠ w6.heap.size := by have h1 := RA3.out.lt; omega
        clear hen hs6 hi6 hb6 hTa hfa hsa f4 u2 u3 hTc p0 p1 a0 a1 a2 s1 s2 hz6
        go_wp2_with fail
        have HB7 : Hid (w0.heap.size ≤ (w6.alloc (.cells #[.int .i64 cc.kind, .int .i64 cc.num, .slice a3 cc.refs.length c3] 32)).heap.size) := Lib.hid (Nat.le_trans HB.out HFA.out.size)
        generalize w6.alloc (.cells #[.int .i64 cc.kind, .int .i64 cc.num, .slice a3 cc.refs.length c3] 32) = w7 at *
        obtain ⟨b7, hb7⟩ : ∃ x, x = w6.heap.size := ⟨_, rfl⟩
        rw [← hb7] at R4 M7 e26 e36 ⊢
        refine hre.mono ?_
        rintro e8 w8 ⟨a5, c5, rfl, hi8, hb8, hs8⟩
        obtain ⟨fpb, hTb, hfb, hsb⟩ := HTC.out.right HB7.out hs8 HO1.out HL1.out
        have f6 : Frm [] w8 (w8.alloc (.cells #[.int .i64 cc.kind, .int .i64 cc.num, .slice a5 cc.refs.length c5] 32)) := (Frm.refl [] w8).alloc _
        have hR6 := (R4.out.frm hfb M7.out).frm f6 (by simp)
        have d0 := hR6.cell (i := 0) rfl
        have d1 := hR6.cell (i := 1) rfl
        have d2 := hR6.cell (i := 2) rfl
        have r6 := RowAt.made w8 32 [.int .i64 cc.kind, .int .i64 cc.num, .slice a5 cc.refs.length c5] #[.int .i64 cc.kind, .int .i64 cc.num, .slice a5 cc.refs.length c5] rfl
        have g0 := r6.cell (i := 0) rfl
        have g1 := r6.cell (i := 1) rfl
        have g2 := r6.cell (i := 2) rfl
        have hsa := same_any cc a3 a5 c3 c5 ((I3.out.frm hfb B3.out).frm f6 (by simp)) (hi8.frm f6 (by simp))
        have HTD := Lib.hid (hTb.frm f6 (by simp) (by simp))
        have HFB := Lib.hid (hfb.trans f6 (by simp))
        have hb78 := (R4.out.frm hfb M7.out).lt
        have i7 : b7 ≠ w8.heap.size := by omega
        clear hre hi8 hb8 hs8 hTb hfb hsb f6 hR6 r6 I3 R4 t1 t3 hb7 hb78
        go_wp2_with fail
        generalize w8.alloc (.cells #[.int .i64 cc.kind, .int .i64 cc.num, .slice a5 cc.refs.length c5] 32) = w9 at *
        refine hsa.mono ?_
        rintro e10 w10 ⟨rfl, hf10⟩
        have HTE := Lib.hid (HTD.out.frm hf10 (by simp) (by simp))
        have HFE := Lib.hid hf10
        clear hsa hf10 d0 d1 d2 g0 g1 g2
        go_wp2_with fail
        go_ret
        exact ⟨rfl, _, fpa, fpb, HTE.out, ((HF6.out.trans HFA.out (fun x hx => HT2.out.b1 x hx)).trans HFB.out (fun x hx => HT2.out.b2 x hx)).trans HFE.out (by simp)⟩
    · subst hmm
      go_wp2_with fail
      have hoU := @updateM_ok cs a' b' HT2.out.o1
      have hlU : ((updateM cs a' b').2.length : Int) ≤ most := by rw [updateM_len]; exact HT2.out.l1
      have HOU := Lib.hid hoU
      have HLU := Lib.hid hlU
      clear hoU hlU
      go_region_held3 (fun w' => w'.cell? ⟨x2, 0, none⟩ = some (.pointer (some ⟨hb1, 0, none⟩)) ∧ w'.cell? ⟨x2, 1, none⟩ = some (.pointer (some ⟨hb2, 0, none⟩)) ∧ w'.cell? ⟨x3, 1, none⟩ = some (.int .i64 a') ∧ w'.cell? ⟨x3, 2, none⟩ = some (.int .i64 b')) (first | exact ⟨p0, p1, s1, s2⟩ | exact ⟨hfa.cell p0 M2.out, hfa.cell p1 M2.out, hfa.cell s1 M3.out, hfa.cell s2 M3.out⟩ | exact ⟨hfb.cell (hfa.cell p0 M2.out) O2.out, hfb.cell (hfa.cell p1 M2.out) O2.out, hfb.cell (hfa.cell s1 M3.out) O3.out, hfb.cell (hfa.cell s2 M3.out) O3.out⟩) (first | (go_at_call 12; refine (update_m (HT2.out.frm ((Frm.refl [] W2).drew) (by simp) (by simp)).h1 HT2.out.o1 a' b').mono ?_; rintro e6 w6 ⟨rfl, hs6⟩; obtain ⟨fpa, hTa, hfa, hsa⟩ := (HT2.out.frm ((Frm.refl [] W2).drew) (by simp) (by simp)).left HB.out hs6 HOU.out HLU.out) | (go_at_call 35; refine (rupdate_m hTa.h2 hTa.o2 a' b').mono ?_; rintro e7 w7 ⟨rfl, hs7⟩; obtain ⟨fpb, hTb, hfb, hsb⟩ := hTa.right (Nat.le_trans HB.out hfa.size) hs7 HOU.out HLU.out))
      all_goals
        have HTB := Lib.hid hTb
        have HFA := Lib.hid hfa
        have HFB := Lib.hid hfb
        clear hTa hTb hfa hfb hsa hsb hs6 hs7
        go_wp2_with fail
        go_ret
        exact ⟨rfl, _, fpa, fpb, HTB.out, (HF6.out.drew.trans HFA.out (fun x hx => HT2.out.b1 x hx)).trans HFB.out (fun x hx => HT2.out.b2 x hx)⟩
    · subst hmm
      go_wp2_with fail
      have hoU := @restoreM_ok cs a' ⟨c', n, [a', b']⟩ HT2.out.o1 (by simp)
      have hlU : ((restoreM cs a' ⟨c', n, [a', b']⟩).2.length : Int) ≤ most := by rw [restoreM_len]; exact HT2.out.l1
      have HOU := Lib.hid hoU
      have HLU := Lib.hid hlU
      clear hoU hlU
      go_region_held3 (fun w' => w'.cell? ⟨x2, 0, none⟩ = some (.pointer (some ⟨hb1, 0, none⟩)) ∧ w'.cell? ⟨x2, 1, none⟩ = some (.pointer (some ⟨hb2, 0, none⟩)) ∧ w'.cell? ⟨x3, 1, none⟩ = some (.int .i64 a') ∧ w'.cell? ⟨x5, 0, none⟩ = some (.int .i64 c') ∧ w'.cell? ⟨x5, 1, none⟩ = some (.int .i64 n) ∧ w'.cell? ⟨x5, 2, none⟩ = some (.slice (some ⟨x6, 0, none⟩) 2 2)) (first | exact ⟨p0, p1, s1, a0, a1, a2⟩ | exact ⟨hfa.cell p0 M2.out, hfa.cell p1 M2.out, hfa.cell s1 M3.out, hfa.cell a0 M5.out, hfa.cell a1 M5.out, hfa.cell a2 M5.out⟩ | exact ⟨hfb.cell (hfa.cell p0 M2.out) O2.out, hfb.cell (hfa.cell p1 M2.out) O2.out, hfb.cell (hfa.cell s1 M3.out) O3.out, hfb.cell (hfa.cell a0 M5.out) O5.out, hfb.cell (hfa.cell a1 M5.out) O5.out, hfb.cell (hfa.cell a2 M5.out) O5.out⟩) (first | (go_at_call 36; refine (restore_m (HT2.out.frm ((Frm.refl [] W2).drew) (by simp) (by simp)).h1 a' c' n (.slice (some ⟨x6, 0, none⟩) 2 2) [a', b'] (I6.out.frm ((Frm.refl [] W2).drew) (by simp))).mono ?_; rintro e6 w6 ⟨rfl, hs6⟩; obtain ⟨fpa, hTa, hfa, hsa⟩ := (HT2.out.frm ((Frm.refl [] W2).drew) (by simp) (by simp)).left HB.out hs6 HOU.out HLU.out; have i66 := (I6.out.frm ((Frm.refl [] W2).drew) (by simp)).frm hfa M6.out) | (go_at_call 37; refine (rrestore_m hTa.h2 a' c' n (.slice (some ⟨x6, 0, none⟩) 2 2) [a', b'] i66).mono ?_; rintro e7 w7 ⟨rfl, hs7⟩; obtain ⟨fpb, hTb, hfb, hsb⟩ := hTa.right (Nat.le_trans HB.out hfa.size) hs7 HOU.out HLU.out))
      all_goals
        have HTB := Lib.hid hTb
        have HFA := Lib.hid hfa
        have HFB := Lib.hid hfb
        clear hTa hTb hfa hfb hsa hsb hs6 hs7
        go_wp2_with fail
        go_ret
        exact ⟨rfl, _, fpa, fpb, HTB.out, (HF6.out.drew.trans HFA.out (fun x hx => HT2.out.b1 x hx)).trans HFB.out (fun x hx => HT2.out.b2 x hx)⟩
    · subst hmm
      have hoU := compC_ok HT2.out.o1 [a', b']
      have hlU : ((compC cs [a', b']).length : Int) ≤ most := by have h1 := compC_small HT2.out.o1 [a', b']; have h2 := HT2.out.l1; omega
      have HOU := Lib.hid hoU
      have HLU := Lib.hid hlU
      clear hoU hlU
      go_wp2_with fail
      go_region_held3 (fun w' => w'.cell? ⟨x2, 0, none⟩ = some (.pointer (some ⟨hb1, 0, none⟩)) ∧ w'.cell? ⟨x2, 1, none⟩ = some (.pointer (some ⟨hb2, 0, none⟩)) ∧ w'.cell? ⟨x3, 1, none⟩ = some (.int .i64 a') ∧ w'.cell? ⟨x3, 2, none⟩ = some (.int .i64 b')) (first | exact ⟨(Frm.refl [] W2).cell p0 (by simp), (Frm.refl [] W2).cell p1 (by simp), (Frm.refl [] W2).cell s1 (by simp), (Frm.refl [] W2).cell s2 (by simp)⟩ | exact ⟨((Frm.refl [] W2).drew).cell p0 (by simp), ((Frm.refl [] W2).drew).cell p1 (by simp), ((Frm.refl [] W2).drew).cell s1 (by simp), ((Frm.refl [] W2).drew).cell s2 (by simp)⟩ | exact ⟨((Frm.refl [] W2).alloc _).cell p0 (by simp), ((Frm.refl [] W2).alloc _).cell p1 (by simp), ((Frm.refl [] W2).alloc _).cell s1 (by simp), ((Frm.refl [] W2).alloc _).cell s2 (by simp)⟩ | exact ⟨(((Frm.refl [] W2).alloc _).drew).cell p0 (by simp), (((Frm.refl [] W2).alloc _).drew).cell p1 (by simp), (((Frm.refl [] W2).alloc _).drew).cell s1 (by simp), (((Frm.refl [] W2).alloc _).drew).cell s2 (by simp)⟩ | exact ⟨(((Frm.refl [] W2).drew).alloc _).cell p0 (by simp), (((Frm.refl [] W2).drew).alloc _).cell p1 (by simp), (((Frm.refl [] W2).drew).alloc _).cell s1 (by simp), (((Frm.refl [] W2).drew).alloc _).cell s2 (by simp)⟩ | exact ⟨(((Frm.refl [] W2).alloc _).alloc _).cell p0 (by simp), (((Frm.refl [] W2).alloc _).alloc _).cell p1 (by simp), (((Frm.refl [] W2).alloc _).alloc _).cell s1 (by simp), (((Frm.refl [] W2).alloc _).alloc _).cell s2 (by simp)⟩ | exact ⟨((((Frm.refl [] W2).alloc _).alloc _).drew).cell p0 (by simp), ((((Frm.refl [] W2).alloc _).alloc _).drew).cell p1 (by simp), ((((Frm.refl [] W2).alloc _).alloc _).drew).cell s1 (by simp), ((((Frm.refl [] W2).alloc _).alloc _).drew).cell s2 (by simp)⟩ | exact ⟨(Frm.refl [] w6).cell u0 (by simp), (Frm.refl [] w6).cell u1 (by simp), (Frm.refl [] w6).cell u2 (by simp), (Frm.refl [] w6).cell u3 (by simp)⟩ | exact ⟨((Frm.refl [] w6).drew).cell u0 (by simp), ((Frm.refl [] w6).drew).cell u1 (by simp), ((Frm.refl [] w6).drew).cell u2 (by simp), ((Frm.refl [] w6).drew).cell u3 (by simp)⟩ | exact ⟨((Frm.refl [] w6).alloc _).cell u0 (by simp), ((Frm.refl [] w6).alloc _).cell u1 (by simp), ((Frm.refl [] w6).alloc _).cell u2 (by simp), ((Frm.refl [] w6).alloc _).cell u3 (by simp)⟩ | exact ⟨(((Frm.refl [] w6).alloc _).drew).cell u0 (by simp), (((Frm.refl [] w6).alloc _).drew).cell u1 (by simp), (((Frm.refl [] w6).alloc _).drew).cell u2 (by simp), (((Frm.refl [] w6).alloc _).drew).cell u3 (by simp)⟩ | exact ⟨(((Frm.refl [] w6).drew).alloc _).cell u0 (by simp), (((Frm.refl [] w6).drew).alloc _).cell u1 (by simp), (((Frm.refl [] w6).drew).alloc _).cell u2 (by simp), (((Frm.refl [] w6).drew).alloc _).cell u3 (by simp)⟩ | exact ⟨(((Frm.refl [] w6).alloc _).alloc _).cell u0 (by simp), (((Frm.refl [] w6).alloc _).alloc _).cell u1 (by simp), (((Frm.refl [] w6).alloc _).alloc _).cell u2 (by simp), (((Frm.refl [] w6).alloc _).alloc _).cell u3 (by simp)⟩ | exact ⟨((((Frm.refl [] w6).alloc _).alloc _).drew).cell u0 (by simp), ((((Frm.refl [] w6).alloc _).alloc _).drew).cell u1 (by simp), ((((Frm.refl [] w6).alloc _).alloc _).drew).cell u2 (by simp), ((((Frm.refl [] w6).alloc _).alloc _).drew).cell u3 (by simp)⟩ | exact ⟨(Frm.refl [] w7).cell v0 (by simp), (Frm.refl [] w7).cell v1 (by simp), (Frm.refl [] w7).cell v2 (by simp), (Frm.refl [] w7).cell v3 (by simp)⟩ | exact ⟨((Frm.refl [] w7).drew).cell v0 (by simp), ((Frm.refl [] w7).drew).cell v1 (by simp), ((Frm.refl [] w7).drew).cell v2 (by simp), ((Frm.refl [] w7).drew).cell v3 (by simp)⟩ | exact ⟨((Frm.refl [] w7).drewN _).cell v0 (by simp), ((Frm.refl [] w7).drewN _).cell v1 (by simp), ((Frm.refl [] w7).drewN _).cell v2 (by simp), ((Frm.refl [] w7).drewN _).cell v3 (by simp)⟩ | exact ⟨(((Frm.refl [] w7).drewN _).drew).cell v0 (by simp), (((Frm.refl [] w7).drewN _).drew).cell v1 (by simp), (((Frm.refl [] w7).drewN _).drew).cell v2 (by simp), (((Frm.refl [] w7).drewN _).drew).cell v3 (by simp)⟩) (first | (go_at_call 23; refine (compact_any (HT2.out.frm (fp := []) (by first | exact Frm.refl [] W2 | exact (Frm.refl [] W2).drew | exact (Frm.refl [] W2).alloc _ | exact ((Frm.refl [] W2).alloc _).drew | exact ((Frm.refl [] W2).drew).alloc _ | exact ((Frm.refl [] W2).alloc _).alloc _ | exact (((Frm.refl [] W2).alloc _).alloc _).drew) (by simp) (by simp)).h1 HT2.out.o1 _ [a', b'] (by first | exact new2 W2 a' b' | exact (new2 W2 a' b').frm ((Frm.refl [] _).drew) (by simp) | exact new2a W2 a' b' _ | exact (new2a W2 a' b' _).frm ((Frm.refl [] _).drew) (by simp) | exact new2b W2 a' b' _ | exact (new2b W2 a' b' _).frm ((Frm.refl [] _).drew) (by simp)) (fun k hk hm => by have h1 := N1.out k hm; have h2 := HWW.out; simp [Value.ownBlock] at hk; omega) (by simp)).mono ?_; rintro e6 w6 ⟨fpa0, a3, c3, rfl, hia, hba, hwa, hfa, hsa⟩; obtain ⟨fpa, hTa, hfa2, hsa2⟩ := (HT2.out.frm (fp := []) (by first | exact Frm.refl [] W2 | exact (Frm.refl [] W2).drew | exact (Frm.refl [] W2).alloc _ | exact ((Frm.refl [] W2).alloc _).drew | exact ((Frm.refl [] W2).drew).alloc _ | exact ((Frm.refl [] W2).alloc _).alloc _ | exact (((Frm.refl [] W2).alloc _).alloc _).drew) (by simp) (by simp)).left (Nat.le_trans HB.out (Frm.size (fp := []) (by first | exact Frm.refl [] W2 | exact (Frm.refl [] W2).drew | exact (Frm.refl [] W2).alloc _ | exact ((Frm.refl [] W2).alloc _).drew | exact ((Frm.refl [] W2).drew).alloc _ | exact ((Frm.refl [] W2).alloc _).alloc _ | exact (((Frm.refl [] W2).alloc _).alloc _).drew))) ⟨fpa0, hwa, hfa, hsa⟩ HOU.out HLU.out; have hz6 : W2.heap.size ≤ w6.heap.size := Nat.le_trans (Frm.size (fp := []) (by first | exact Frm.refl [] W2 | exact (Frm.refl [] W2).drew | exact (Frm.refl [] W2).alloc _ | exact ((Frm.refl [] W2).alloc _).drew | exact ((Frm.refl [] W2).drew).alloc _ | exact ((Frm.refl [] W2).alloc _).alloc _ | exact (((Frm.refl [] W2).alloc _).alloc _).drew)) hfa.size; have u0 := hfa.cell (Frm.cell (fp := []) (by first | exact Frm.refl [] W2 | exact (Frm.refl [] W2).drew | exact (Frm.refl [] W2).alloc _ | exact ((Frm.refl [] W2).alloc _).drew | exact ((Frm.refl [] W2).drew).alloc _ | exact ((Frm.refl [] W2).alloc _).alloc _ | exact (((Frm.refl [] W2).alloc _).alloc _).drew) p0 (by simp)) M2.out; have u1 := hfa.cell (Frm.cell (fp := []) (by first | exact Frm.refl [] W2 | exact (Frm.refl [] W2).drew | exact (Frm.refl [] W2).alloc _ | exact ((Frm.refl [] W2).alloc _).drew | exact ((Frm.refl [] W2).drew).alloc _ | exact ((Frm.refl [] W2).alloc _).alloc _ | exact (((Frm.refl [] W2).alloc _).alloc _).drew) p1 (by simp)) M2.out; have u2 := hfa.cell (Frm.cell (fp := []) (by first | exact Frm.refl [] W2 | exact (Frm.refl [] W2).drew | exact (Frm.refl [] W2).alloc _ | exact ((Frm.refl [] W2).alloc _).drew | exact ((Frm.refl [] W2).drew).alloc _ | exact ((Frm.refl [] W2).alloc _).alloc _ | exact (((Frm.refl [] W2).alloc _).alloc _).drew) s1 (by simp)) M3.out; have u3 := hfa.cell (Frm.cell (fp := []) (by first | exact Frm.refl [] W2 | exact (Frm.refl [] W2).drew | exact (Frm.refl [] W2).alloc _ | exact ((Frm.refl [] W2).alloc _).drew | exact ((Frm.refl [] W2).drew).alloc _ | exact ((Frm.refl [] W2).alloc _).alloc _ | exact (((Frm.refl [] W2).alloc _).alloc _).drew) s2 (by simp)) M3.out; have fr6 : Frm fp1 W2 w6 := Frm.trans (Frm.mono (fp := []) (by first | exact Frm.refl [] W2 | exact (Frm.refl [] W2).drew | exact (Frm.refl [] W2).alloc _ | exact ((Frm.refl [] W2).alloc _).drew | exact ((Frm.refl [] W2).drew).alloc _ | exact ((Frm.refl [] W2).alloc _).alloc _ | exact (((Frm.refl [] W2).alloc _).alloc _).drew) (by simp)) hfa (fun x hx => .inl hx); have hbz : ∀ k, (Value.slice a3 (compO cs [a', b']).length c3).ownBlock = some k → W2.heap.size ≤ k := fun k hk => Nat.le_trans (Frm.size (fp := []) (by first | exact Frm.refl [] W2 | exact (Frm.refl [] W2).drew | exact (Frm.refl [] W2).alloc _ | exact ((Frm.refl [] W2).alloc _).drew | exact ((Frm.refl [] W2).drew).alloc _ | exact ((Frm.refl [] W2).alloc _).alloc _ | exact (((Frm.refl [] W2).alloc _).alloc _).drew)) (hba k hk).1) | (go_at_call 38; refine (rcompact_any (hTa.frm (fp := []) (by first | exact Frm.refl [] w6 | exact (Frm.refl [] w6).drew | exact (Frm.refl [] w6).alloc _ | exact ((Frm.refl [] w6).alloc _).drew | exact ((Frm.refl [] w6).drew).alloc _ | exact ((Frm.refl [] w6).alloc _).alloc _ | exact (((Frm.refl [] w6).alloc _).alloc _).drew) (by simp) (by simp)).h2 hTa.o2 _ [a', b'] (by first | exact new2 w6 a' b' | exact (new2 w6 a' b').frm ((Frm.refl [] _).drew) (by simp) | exact (new2 W2 a' b').frm hfa (fun k hk hm => by have h1 := N1.out k hm; have h2 := HWW.out; simp [Value.ownBlock] at hk; omega) | exact ((new2 W2 a' b').frm ((Frm.refl [] _).drew) (by simp)).frm hfa (fun k hk hm => by have h1 := N1.out k hm; have h2 := HWW.out; simp [Value.ownBlock] at hk; omega) | exact (new2a W2 a' b' _).frm hfa (fun k hk hm => by have h1 := N1.out k hm; have h2 := HWW.out; simp [Value.ownBlock] at hk; omega) | exact ((new2a W2 a' b' _).frm ((Frm.refl [] _).drew) (by simp)).frm hfa (fun k hk hm => by have h1 := N1.out k hm; have h2 := HWW.out; simp [Value.ownBlock] at hk; omega) | exact (new2b W2 a' b' _).frm hfa (fun k hk hm => by have h1 := N1.out k hm; have h2 := HWW.out; simp [Value.ownBlock] at hk; omega) | exact ((new2b W2 a' b' _).frm ((Frm.refl [] _).drew) (by simp)).frm hfa (fun k hk hm => by have h1 := N1.out k hm; have h2 := HWW.out; simp [Value.ownBlock] at hk; omega) | exact ((new2 W2 a' b').frm hfa (fun k hk hm => by have h1 := N1.out k hm; have h2 := HWW.out; simp [Value.ownBlock] at hk; omega)).frm ((Frm.refl [] _).drew) (by simp) | exact (((new2 W2 a' b').frm ((Frm.refl [] _).drew) (by simp)).frm hfa (fun k hk hm => by have h1 := N1.out k hm; have h2 := HWW.out; simp [Value.ownBlock] at hk; omega)).frm ((Frm.refl [] _).drew) (by simp) | exact ((new2a W2 a' b' _).frm hfa (fun k hk hm => by have h1 := N1.out k hm; have h2 := HWW.out; simp [Value.ownBlock] at hk; omega)).frm ((Frm.refl [] _).drew) (by simp) | exact (((new2a W2 a' b' _).frm ((Frm.refl [] _).drew) (by simp)).frm hfa (fun k hk hm => by have h1 := N1.out k hm; have h2 := HWW.out; simp [Value.ownBlock] at hk; omega)).frm ((Frm.refl [] _).drew) (by simp) | exact ((new2b W2 a' b' _).frm hfa (fun k hk hm => by have h1 := N1.out k hm; have h2 := HWW.out; simp [Value.ownBlock] at hk; omega)).frm ((Frm.refl [] _).drew) (by simp) | exact (((new2b W2 a' b' _).frm ((Frm.refl [] _).drew) (by simp)).frm hfa (fun k hk hm => by have h1 := N1.out k hm; have h2 := HWW.out; simp [Value.ownBlock] at hk; omega)).frm ((Frm.refl [] _).drew) (by simp)) (fun k hk hm => by have h1 := N2.out k hm; have h2 := HWW.out; have h3 := hz6; simp [Value.ownBlock] at hk; omega) (by simp)).mono ?_; rintro e7 w7 ⟨fpb0, a5, c5, rfl, hib, hbb, hwb, hfb, hsb⟩; obtain ⟨fpb, hTb, hfb2, hsb2⟩ := (hTa.frm (fp := []) (by first | exact Frm.refl [] w6 | exact (Frm.refl [] w6).drew | exact (Frm.refl [] w6).alloc _ | exact ((Frm.refl [] w6).alloc _).drew | exact ((Frm.refl [] w6).drew).alloc _ | exact ((Frm.refl [] w6).alloc _).alloc _ | exact (((Frm.refl [] w6).alloc _).alloc _).drew) (by simp) (by simp)).right (Nat.le_trans (Nat.le_trans HB.out hz6) (Frm.size (fp := []) (by first | exact Frm.refl [] w6 | exact (Frm.refl [] w6).drew | exact (Frm.refl [] w6).alloc _ | exact ((Frm.refl [] w6).alloc _).drew | exact ((Frm.refl [] w6).drew).alloc _ | exact ((Frm.refl [] w6).alloc _).alloc _ | exact (((Frm.refl [] w6).alloc _).alloc _).drew))) ⟨fpb0, hwb, hfb, hsb⟩ HOU.out HLU.out; have v0 := hfb.cell (Frm.cell (fp := []) (by first | exact Frm.refl [] w6 | exact (Frm.refl [] w6).drew | exact (Frm.refl [] w6).alloc _ | exact ((Frm.refl [] w6).alloc _).drew | exact ((Frm.refl [] w6).drew).alloc _ | exact ((Frm.refl [] w6).alloc _).alloc _ | exact (((Frm.refl [] w6).alloc _).alloc _).drew) u0 (by simp)) O2.out; have v1 := hfb.cell (Frm.cell (fp := []) (by first | exact Frm.refl [] w6 | exact (Frm.refl [] w6).drew | exact (Frm.refl [] w6).alloc _ | exact ((Frm.refl [] w6).alloc _).drew | exact ((Frm.refl [] w6).drew).alloc _ | exact ((Frm.refl [] w6).alloc _).alloc _ | exact (((Frm.refl [] w6).alloc _).alloc _).drew) u1 (by simp)) O2.out; have v2 := hfb.cell (Frm.cell (fp := []) (by first | exact Frm.refl [] w6 | exact (Frm.refl [] w6).drew | exact (Frm.refl [] w6).alloc _ | exact ((Frm.refl [] w6).alloc _).drew | exact ((Frm.refl [] w6).drew).alloc _ | exact ((Frm.refl [] w6).alloc _).alloc _ | exact (((Frm.refl [] w6).alloc _).alloc _).drew) u2 (by simp)) O3.out; have v3 := hfb.cell (Frm.cell (fp := []) (by first | exact Frm.refl [] w6 | exact (Frm.refl [] w6).drew | exact (Frm.refl [] w6).alloc _ | exact ((Frm.refl [] w6).alloc _).drew | exact ((Frm.refl [] w6).drew).alloc _ | exact ((Frm.refl [] w6).alloc _).alloc _ | exact (((Frm.refl [] w6).alloc _).alloc _).drew) u3 (by simp)) O3.out; have fr7 : Frm fp2 w6 w7 := Frm.trans (Frm.mono (fp := []) (by first | exact Frm.refl [] w6 | exact (Frm.refl [] w6).drew | exact (Frm.refl [] w6).alloc _ | exact ((Frm.refl [] w6).alloc _).drew | exact ((Frm.refl [] w6).drew).alloc _ | exact ((Frm.refl [] w6).alloc _).alloc _ | exact (((Frm.refl [] w6).alloc _).alloc _).drew) (by simp)) hfb (fun x hx => .inl hx); have i7 := IntsAt.frm hia fr7 (fun k hk hm => by have h1 := N2.out k hm; have h2 := HWW.out; have h3 := hbz k hk; omega)) | (go_at_call 16; refine (equal_any _ _ _ _ _ (by first | exact i7 | exact i7.frm ((Frm.refl [] _).drew) (by simp)) (by first | exact hib | exact hib.frm ((Frm.refl [] _).drew) (by simp))).mono ?_; rintro e8 w8 ⟨rfl, nq, rfl⟩))
      all_goals
        have HTF := Lib.hid hTb
        have FR6H := Lib.hid fr6
        have FR7H := Lib.hid fr7
        clear hTa hTb hfa hfb hsa hsb hfa2 hsa2 hfb2 hsb2 fr6 fr7 hwa hwb hia hib hba hbb i7 hbz u0 u1 u2 u3 v0 v1 v2 v3 hz6 p0 p1 a0 a1 a2 s1 s2
        go_wp2_with fail
        go_ret
        exact ⟨by simp, _, fpa, fpb, HTF.out.frm (fp := []) (by first | exact (Frm.refl [] w7).drewN _ | exact ((Frm.refl [] w7).drewN _).drew | exact ((Frm.refl [] w7).drew).drewN _ | exact (((Frm.refl [] w7).drew).drewN _).drew) (by simp) (by simp), Frm.trans (fq := []) ((HF6.out.trans FR6H.out (fun x hx => HT2.out.b1 x hx)).trans FR7H.out (fun x hx => HT2.out.b2 x hx)) (by first | exact (Frm.refl [] w7).drewN _ | exact ((Frm.refl [] w7).drewN _).drew | exact ((Frm.refl [] w7).drew).drewN _ | exact (((Frm.refl [] w7).drew).drewN _).drew) (by simp)⟩
    · subst hmm
      go_wp2_with fail
      go_region_held3 (fun w' => w'.cell? ⟨x2, 0, none⟩ = some (.pointer (some ⟨hb1, 0, none⟩)) ∧ w'.cell? ⟨x2, 1, none⟩ = some (.pointer (some ⟨hb2, 0, none⟩)) ∧ w'.cell? ⟨x3, 1, none⟩ = some (.int .i64 a') ∧ w'.cell? ⟨x3, 2, none⟩ = some (.int .i64 b')) (first | exact ⟨(Frm.refl [] W2).cell p0 (by simp), (Frm.refl [] W2).cell p1 (by simp), (Frm.refl [] W2).cell s1 (by simp), (Frm.refl [] W2).cell s2 (by simp)⟩ | exact ⟨((Frm.refl [] W2).drew).cell p0 (by simp), ((Frm.refl [] W2).drew).cell p1 (by simp), ((Frm.refl [] W2).drew).cell s1 (by simp), ((Frm.refl [] W2).drew).cell s2 (by simp)⟩ | exact ⟨((Frm.refl [] W2).alloc _).cell p0 (by simp), ((Frm.refl [] W2).alloc _).cell p1 (by simp), ((Frm.refl [] W2).alloc _).cell s1 (by simp), ((Frm.refl [] W2).alloc _).cell s2 (by simp)⟩ | exact ⟨(((Frm.refl [] W2).alloc _).drew).cell p0 (by simp), (((Frm.refl [] W2).alloc _).drew).cell p1 (by simp), (((Frm.refl [] W2).alloc _).drew).cell s1 (by simp), (((Frm.refl [] W2).alloc _).drew).cell s2 (by simp)⟩ | exact ⟨(((Frm.refl [] W2).drew).alloc _).cell p0 (by simp), (((Frm.refl [] W2).drew).alloc _).cell p1 (by simp), (((Frm.refl [] W2).drew).alloc _).cell s1 (by simp), (((Frm.refl [] W2).drew).alloc _).cell s2 (by simp)⟩ | exact ⟨(((Frm.refl [] W2).alloc _).alloc _).cell p0 (by simp), (((Frm.refl [] W2).alloc _).alloc _).cell p1 (by simp), (((Frm.refl [] W2).alloc _).alloc _).cell s1 (by simp), (((Frm.refl [] W2).alloc _).alloc _).cell s2 (by simp)⟩ | exact ⟨((((Frm.refl [] W2).alloc _).alloc _).drew).cell p0 (by simp), ((((Frm.refl [] W2).alloc _).alloc _).drew).cell p1 (by simp), ((((Frm.refl [] W2).alloc _).alloc _).drew).cell s1 (by simp), ((((Frm.refl [] W2).alloc _).alloc _).drew).cell s2 (by simp)⟩ | exact ⟨(Frm.refl [] w6).cell u0 (by simp), (Frm.refl [] w6).cell u1 (by simp), (Frm.refl [] w6).cell u2 (by simp), (Frm.refl [] w6).cell u3 (by simp)⟩ | exact ⟨((Frm.refl [] w6).drew).cell u0 (by simp), ((Frm.refl [] w6).drew).cell u1 (by simp), ((Frm.refl [] w6).drew).cell u2 (by simp), ((Frm.refl [] w6).drew).cell u3 (by simp)⟩ | exact ⟨((Frm.refl [] w6).alloc _).cell u0 (by simp), ((Frm.refl [] w6).alloc _).cell u1 (by simp), ((Frm.refl [] w6).alloc _).cell u2 (by simp), ((Frm.refl [] w6).alloc _).cell u3 (by simp)⟩ | exact ⟨(((Frm.refl [] w6).alloc _).drew).cell u0 (by simp), (((Frm.refl [] w6).alloc _).drew).cell u1 (by simp), (((Frm.refl [] w6).alloc _).drew).cell u2 (by simp), (((Frm.refl [] w6).alloc _).drew).cell u3 (by simp)⟩ | exact ⟨(((Frm.refl [] w6).drew).alloc _).cell u0 (by simp), (((Frm.refl [] w6).drew).alloc _).cell u1 (by simp), (((Frm.refl [] w6).drew).alloc _).cell u2 (by simp), (((Frm.refl [] w6).drew).alloc _).cell u3 (by simp)⟩ | exact ⟨(((Frm.refl [] w6).alloc _).alloc _).cell u0 (by simp), (((Frm.refl [] w6).alloc _).alloc _).cell u1 (by simp), (((Frm.refl [] w6).alloc _).alloc _).cell u2 (by simp), (((Frm.refl [] w6).alloc _).alloc _).cell u3 (by simp)⟩ | exact ⟨((((Frm.refl [] w6).alloc _).alloc _).drew).cell u0 (by simp), ((((Frm.refl [] w6).alloc _).alloc _).drew).cell u1 (by simp), ((((Frm.refl [] w6).alloc _).alloc _).drew).cell u2 (by simp), ((((Frm.refl [] w6).alloc _).alloc _).drew).cell u3 (by simp)⟩ | exact ⟨(Frm.refl [] w7).cell v0 (by simp), (Frm.refl [] w7).cell v1 (by simp), (Frm.refl [] w7).cell v2 (by simp), (Frm.refl [] w7).cell v3 (by simp)⟩ | exact ⟨((Frm.refl [] w7).drew).cell v0 (by simp), ((Frm.refl [] w7).drew).cell v1 (by simp), ((Frm.refl [] w7).drew).cell v2 (by simp), ((Frm.refl [] w7).drew).cell v3 (by simp)⟩ | exact ⟨((Frm.refl [] w7).drewN _).cell v0 (by simp), ((Frm.refl [] w7).drewN _).cell v1 (by simp), ((Frm.refl [] w7).drewN _).cell v2 (by simp), ((Frm.refl [] w7).drewN _).cell v3 (by simp)⟩ | exact ⟨(((Frm.refl [] w7).drewN _).drew).cell v0 (by simp), (((Frm.refl [] w7).drewN _).drew).cell v1 (by simp), (((Frm.refl [] w7).drewN _).drew).cell v2 (by simp), (((Frm.refl [] w7).drewN _).drew).cell v3 (by simp)⟩) (first | (go_at_call 24; refine (reach_any (HT2.out.frm (fp := []) (by first | exact Frm.refl [] W2 | exact (Frm.refl [] W2).drew | exact (Frm.refl [] W2).alloc _ | exact ((Frm.refl [] W2).alloc _).drew | exact ((Frm.refl [] W2).drew).alloc _ | exact ((Frm.refl [] W2).alloc _).alloc _ | exact (((Frm.refl [] W2).alloc _).alloc _).drew) (by simp) (by simp)).h1 HT2.out.o1 _ [a', b'] (by first | exact new2 W2 a' b' | exact (new2 W2 a' b').frm ((Frm.refl [] _).drew) (by simp) | exact new2a W2 a' b' _ | exact (new2a W2 a' b' _).frm ((Frm.refl [] _).drew) (by simp) | exact new2b W2 a' b' _ | exact (new2b W2 a' b' _).frm ((Frm.refl [] _).drew) (by simp)) (by simp)).mono ?_; rintro e6 w6 ⟨⟨a3, c3, rfl, hia, hba⟩, hfa⟩; have fr6 : Frm [] W2 w6 := Frm.trans (fp := []) (by first | exact Frm.refl [] W2 | exact (Frm.refl [] W2).drew | exact (Frm.refl [] W2).alloc _ | exact ((Frm.refl [] W2).alloc _).drew | exact ((Frm.refl [] W2).drew).alloc _ | exact ((Frm.refl [] W2).alloc _).alloc _ | exact (((Frm.refl [] W2).alloc _).alloc _).drew) hfa (by simp); have u0 := fr6.cell p0 (by simp); have u1 := fr6.cell p1 (by simp); have u2 := fr6.cell s1 (by simp); have u3 := fr6.cell s2 (by simp)) | (go_at_call 39; refine (rreach_any (HT2.out.frm (fp := []) (Frm.trans fr6 (fq := []) (by first | exact Frm.refl [] w6 | exact (Frm.refl [] w6).drew | exact (Frm.refl [] w6).alloc _ | exact ((Frm.refl [] w6).alloc _).drew | exact ((Frm.refl [] w6).drew).alloc _ | exact ((Frm.refl [] w6).alloc _).alloc _ | exact (((Frm.refl [] w6).alloc _).alloc _).drew) (by simp)) (by simp) (by simp)).h2 HT2.out.o2 _ [a', b'] (by first | exact new2 w6 a' b' | exact (new2 w6 a' b').frm ((Frm.refl [] _).drew) (by simp) | exact (new2 W2 a' b').frm hfa (by simp) | exact ((new2 W2 a' b').frm ((Frm.refl [] _).drew) (by simp)).frm hfa (by simp) | exact (new2a W2 a' b' _).frm hfa (by simp) | exact ((new2a W2 a' b' _).frm ((Frm.refl [] _).drew) (by simp)).frm hfa (by simp) | exact (new2b W2 a' b' _).frm hfa (by simp) | exact ((new2b W2 a' b' _).frm ((Frm.refl [] _).drew) (by simp)).frm hfa (by simp) | exact ((new2 W2 a' b').frm hfa (by simp)).frm ((Frm.refl [] _).drew) (by simp) | exact (((new2 W2 a' b').frm ((Frm.refl [] _).drew) (by simp)).frm hfa (by simp)).frm ((Frm.refl [] _).drew) (by simp) | exact ((new2a W2 a' b' _).frm hfa (by simp)).frm ((Frm.refl [] _).drew) (by simp) | exact (((new2a W2 a' b' _).frm ((Frm.refl [] _).drew) (by simp)).frm hfa (by simp)).frm ((Frm.refl [] _).drew) (by simp) | exact ((new2b W2 a' b' _).frm hfa (by simp)).frm ((Frm.refl [] _).drew) (by simp) | exact (((new2b W2 a' b' _).frm ((Frm.refl [] _).drew) (by simp)).frm hfa (by simp)).frm ((Frm.refl [] _).drew) (by simp)) (by simp)).mono ?_; rintro e7 w7 ⟨⟨a5, c5, rfl, hib, hbb⟩, hfb⟩; have fr7 : Frm [] w6 w7 := Frm.trans (fp := []) (by first | exact Frm.refl [] w6 | exact (Frm.refl [] w6).drew | exact (Frm.refl [] w6).alloc _ | exact ((Frm.refl [] w6).alloc _).drew | exact ((Frm.refl [] w6).drew).alloc _ | exact ((Frm.refl [] w6).alloc _).alloc _ | exact (((Frm.refl [] w6).alloc _).alloc _).drew) hfb (by simp); have v0 := fr7.cell u0 (by simp); have v1 := fr7.cell u1 (by simp); have v2 := fr7.cell u2 (by simp); have v3 := fr7.cell u3 (by simp); have i7 := IntsAt.frm hia fr7 (by simp)) | (go_at_call 16; refine (equal_any _ _ _ _ _ (by first | exact i7 | exact i7.frm ((Frm.refl [] _).drew) (by simp)) (by first | exact hib | exact hib.frm ((Frm.refl [] _).drew) (by simp))).mono ?_; rintro e8 w8 ⟨rfl, nq, rfl⟩))
      all_goals
        have FR6H := Lib.hid fr6
        have FR7H := Lib.hid fr7
        clear hfa hfb fr6 fr7 hia hib hba hbb i7 u0 u1 u2 u3 v0 v1 v2 v3 p0 p1 a0 a1 a2 s1 s2
        go_wp2_with fail
        go_ret
        exact ⟨by simp, cs, fp1, fp2, HT2.out.frm (fp := []) (Frm.trans (fq := []) (FR6H.out.trans FR7H.out (by simp)) (by first | exact (Frm.refl [] w7).drewN _ | exact ((Frm.refl [] w7).drewN _).drew | exact ((Frm.refl [] w7).drew).drewN _ | exact (((Frm.refl [] w7).drew).drewN _).drew) (by simp)) (by simp) (by simp), HF6.out.trans (fq := []) (Frm.trans (fq := []) (FR6H.out.trans FR7H.out (by simp)) (by first | exact (Frm.refl [] w7).drewN _ | exact ((Frm.refl [] w7).drewN _).drew | exact ((Frm.refl [] w7).drew).drewN _ | exact (((Frm.refl [] w7).drew).drewN _).drew) (by simp)) (by simp)⟩

end Go.Proofs.Ytlpgonnionbkfaa
