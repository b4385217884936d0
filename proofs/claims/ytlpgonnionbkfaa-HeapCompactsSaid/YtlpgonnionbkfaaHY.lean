/- Two heaps side by side; both made; all cells compared. -/
import Derived.Test.YtlpgonnionbkfaaHW
namespace Go.Proofs.Ytlpgonnionbkfaa
open Go.RowKit

structure TV (w : World) (A : List Nat) (B hb1 : Nat) (fp1 : List Nat) (cs1 : List HC) (hb2 : Nat) (fp2 : List Nat) (cs2 : List HC) (most : Int) : Prop where
  h1 : HW 60 w hb1 fp1 most cs1
  h2 : HW 76 w hb2 fp2 most cs2
  o1 : HOk cs1
  o2 : HOk cs2
  ap : ∀ x ∈ fp1, x ∉ fp2
  b1 : ∀ x ∈ fp1, x ∈ A ∨ B ≤ x
  b2 : ∀ x ∈ fp2, x ∈ A ∨ B ≤ x
  l1 : (cs1.length : Int) ≤ most
  l2 : (cs2.length : Int) ≤ most
  m : most ≤ 65536

section
variable {w w' : World} {A : List Nat} {B hb1 hb2 : Nat} {fp1 fp2 : List Nat} {cs1 cs2 cs' : List HC} {most : Int}
theorem TV.frm (h : TV w A B hb1 fp1 cs1 hb2 fp2 cs2 most) {fp : List Nat} (hf : Frm fp w w') (n1 : ∀ k ∈ fp1, k ∉ fp) (n2 : ∀ k ∈ fp2, k ∉ fp) : TV w' A B hb1 fp1 cs1 hb2 fp2 cs2 most :=
  ⟨h.h1.frm hf n1, h.h2.frm hf n2, h.o1, h.o2, h.ap, h.b1, h.b2, h.l1, h.l2, h.m⟩
theorem TV.left (h : TV w A B hb1 fp1 cs1 hb2 fp2 cs2 most) (hB : B ≤ w.heap.size) (s : HWStep 60 w w' hb1 fp1 most cs') (ho : HOk cs') (hl : (cs'.length : Int) ≤ most) :
    ∃ fp, TV w' A B hb1 fp cs' hb2 fp2 cs2 most ∧ Frm fp1 w w' ∧ ∀ x ∈ fp, x ∈ fp1 ∨ w.heap.size ≤ x := by
  obtain ⟨fp, h1, hf, hs⟩ := s
  refine ⟨fp, ⟨h1, h.h2.frm hf (fun k hk hm => h.ap k hm hk), ho, h.o2, fun x hx hm => ?_, fun x hx => ?_, h.b2, hl, h.l2, h.m⟩, hf, hs⟩
  · rcases hs x hx with h9 | h9
    · exact h.ap x h9 hm
    · have := h.h2.lt x hm
      omega
  · rcases hs x hx with h9 | h9
    · exact h.b1 x h9
    · exact .inr (by omega)
theorem TV.right (h : TV w A B hb1 fp1 cs1 hb2 fp2 cs2 most) (hB : B ≤ w.heap.size) (s : HWStep 76 w w' hb2 fp2 most cs') (ho : HOk cs') (hl : (cs'.length : Int) ≤ most) :
    ∃ fp, TV w' A B hb1 fp1 cs1 hb2 fp cs' most ∧ Frm fp2 w w' ∧ ∀ x ∈ fp, x ∈ fp2 ∨ w.heap.size ≤ x := by
  obtain ⟨fp, h2, hf, hs⟩ := s
  refine ⟨fp, ⟨h.h1.frm hf (fun k hk hm => h.ap k hk hm), h2, h.o1, ho, fun x hx hm => ?_, h.b1, fun x hx => ?_, h.l1, hl, h.m⟩, hf, hs⟩
  · rcases hs x hm with h9 | h9
    · exact h.ap x hx h9
    · have := h.h1.lt x hx
      omega
  · rcases hs x hx with h9 | h9
    · exact h.b2 x h9
    · exact .inr (by omega)
/-- Both heaps, seen from an older world. -/
def Two (A : List Nat) (w0 w : World) (hb1 hb2 : Nat) (most : Int) (cs1 cs2 : List HC) : Prop := ∃ fp1 fp2, TV w A w0.heap.size hb1 fp1 cs1 hb2 fp2 cs2 most ∧ Frm A w0 w
theorem Two.frm {w0 : World} (h : Two A w0 w hb1 hb2 most cs1 cs2) (hf : Frm [] w w') : Two A w0 w' hb1 hb2 most cs1 cs2 := by
  obtain ⟨fp1, fp2, h, h0⟩ := h
  exact ⟨fp1, fp2, h.frm hf (by simp) (by simp), h0.trans hf (by simp)⟩
end

set_option linter.unusedSimpArgs false in
theorem pair_bad (most : Int) (w : World) (h : most < 1 ∨ 65536 < most) :
    Calls Try.prog 17 #[.int .i64 most] w fun e w' => e = .returned (.tuple #[.agg #[.pointer none, .pointer none], .bool true]) ∧ Frm [] w w' := by
  have f0 : Frm [] w (w.alloc (.cells #[.pointer none, .pointer none] 46)) := (Frm.refl [] w).alloc _
  have hn1 := new_bad most (w.alloc (.cells #[.pointer none, .pointer none] 46)) h
  have hn2 := rnew_bad most (w.alloc (.cells #[.pointer none, .pointer none] 46)) h
  clear h
  go_enter Try.func17, Try.ntmps17
  go_wp2_with fail
  refine hn1.mono ?_
  rintro e1 w1 ⟨rfl, rfl⟩
  clear hn1
  go_wp2_with fail
  refine hn2.mono ?_
  rintro e1 w1 ⟨rfl, rfl⟩
  clear hn2
  go_wp2_with fail
  refine bodyPost_ret (v := .tuple #[.agg #[.pointer none, .pointer none], .bool true]) (by simp [results, Try.results17, go_sem]) rfl ⟨rfl, ?_⟩
  exact (Frm.refl [] w).alloc _

set_option linter.unusedSimpArgs false in
theorem pair_ok (most : Int) (w : World) (h1 : 1 ≤ most) (h2 : most ≤ 65536) :
    Calls Try.prog 17 #[.int .i64 most] w fun e w' => ∃ hb1 hb2, e = .returned (.tuple #[.agg #[.pointer (some ⟨hb1, 0, none⟩), .pointer (some ⟨hb2, 0, none⟩)], .bool true]) ∧ Two [] w w' hb1 hb2 most [] [] := by
  have f0 : Frm [] w (w.alloc (.cells #[.pointer none, .pointer none] 46)) := (Frm.refl [] w).alloc _
  have hn1 := new_any most (w.alloc (.cells #[.pointer none, .pointer none] 46)) h1 h2
  have hn2 := fun w' => rnew_any most w' h1 h2
  have r0 := RowAt.made w 46 [.pointer none, .pointer none] #[.pointer none, .pointer none] rfl
  have F0 := Lib.hid f0
  have HN2 := Lib.hid hn2
  have R0 := Lib.hid r0
  have HM := Lib.hid h2
  have HL := Lib.hid h1
  clear h1 h2 hn2 f0 r0
  go_enter Try.func17, Try.ntmps17
  go_wp2_with fail
  refine hn1.mono ?_
  rintro e1 w1 ⟨rfl, hf1, hs1, hr1⟩
  rw [show (w.alloc (.cells #[.pointer none, .pointer none] 46)).heap.size = w.heap.size + 1 from by simp] at hs1 hr1 ⊢
  have HF1 := Lib.hid hf1
  have HS1 := Lib.hid hs1
  have HR1 := Lib.hid hr1
  clear hn1 hf1 hs1 hr1
  go_wp2_with fail
  refine (HN2.out w1).mono ?_
  rintro e2 w2 ⟨rfl, hf2, hs2, hr2⟩
  have r2 := (R0.out.frm HF1.out (by simp)).frm hf2 (by simp)
  have p0 := r2.cell (i := 0) rfl
  have p1 := r2.cell (i := 1) rfl
  have z0 := r2.frozen 0
  have z1 := r2.frozen 1
  have HF2 := Lib.hid hf2
  have HR2 := Lib.hid hr2
  rw [HS1.out] at HR2 ⊢
  clear HN2 hf2 hs2 hr2 r2
  go_wp2_with fail
  refine bodyPost_ret (v := .tuple #[.agg #[.pointer (some ⟨w.heap.size + 1, 0, none⟩), .pointer (some ⟨w.heap.size + 1 + 1, 0, none⟩)], .bool true]) (by simp [results, Try.results17, go_sem, p0, p1]) rfl ⟨_, _, rfl, ?_⟩
  have f3 : Frm [w.heap.size] w2 ((w2.setCell ⟨w.heap.size, 0, none⟩ (.pointer (some ⟨w.heap.size + 1, 0, none⟩))).setCell ⟨w.heap.size, 1, none⟩ (.pointer (some ⟨w.heap.size + 1 + 1, 0, none⟩))) := ((Frm.refl [w.heap.size] w2).setCell (p := ⟨w.heap.size, 0, none⟩) (.inl (by simp)) _).setCell (p := ⟨w.heap.size, 1, none⟩) (.inl (by simp)) _
  have e1 : fpOf (w.heap.size + 1) (.slice none 0 0) [] = [w.heap.size + 1] := by simp [fpOf, blocksOf, Value.ownBlock]
  have e2 : fpOf (w.heap.size + 1 + 1) (.slice none 0 0) [] = [w.heap.size + 1 + 1] := by simp [fpOf, blocksOf, Value.ownBlock]
  have g1 : HW 60 w2 (w.heap.size + 1) [w.heap.size + 1] most [] := ⟨_, _, HR1.out.frm HF2.out (by simp), e1⟩
  have g2 : HW 76 w2 (w.heap.size + 1 + 1) [w.heap.size + 1 + 1] most [] := ⟨_, _, HR2.out, e2⟩
  refine ⟨[w.heap.size + 1], [w.heap.size + 1 + 1], ⟨g1.frm f3 ?_, g2.frm f3 ?_, HOk.nil, HOk.nil, ?_, ?_, ?_, ?_, ?_, HM.out⟩, (((F0.out.trans HF1.out (by simp)).trans HF2.out (by simp)).trans f3 (by simp))⟩
  · intro k hk hm
    rw [List.mem_singleton] at hk hm
    omega
  · intro k hk hm
    rw [List.mem_singleton] at hk hm
    omega
  · intro k hk hm
    rw [List.mem_singleton] at hk hm
    omega
  · intro k hk
    rw [List.mem_singleton] at hk
    exact .inr (by omega)
  · intro k hk
    rw [List.mem_singleton] at hk
    exact .inr (by omega)
  · have := HL.out
    show ((0 : Nat) : Int) ≤ most
    omega
  · have := HL.out
    show ((0 : Nat) : Int) ≤ most
    omega

set_option linter.unusedSimpArgs false in
set_option maxRecDepth 100000 in
set_option maxHeartbeats 4000000 in
theorem same_all {A : List Nat} {w0 w : World} {hb1 hb2 : Nat} {most : Int} {cs : List HC} (h : Two A w0 w hb1 hb2 most cs cs) :
    Calls Try.prog 20 #[.agg #[.pointer (some ⟨hb1, 0, none⟩), .pointer (some ⟨hb2, 0, none⟩)]] w fun e w' => e = .returned (.bool true) ∧ Two A w0 w' hb1 hb2 most cs cs := by
  obtain ⟨fp1, fp2, hT, h0⟩ := h
  have f0 : Frm [] w (w.alloc (.cells #[.pointer (some ⟨hb1, 0, none⟩), .pointer (some ⟨hb2, 0, none⟩)] 46)) := (Frm.refl [] w).alloc _
  have r1 := RowAt.made w 46 [.pointer (some ⟨hb1, 0, none⟩), .pointer (some ⟨hb2, 0, none⟩)] #[.pointer (some ⟨hb1, 0, none⟩), .pointer (some ⟨hb2, 0, none⟩)] rfl
  have hT1 := hT.frm f0 (by simp) (by simp)
  have hsm := hT.h1.small
  have HT := Lib.hid hT1
  have H0 := Lib.hid (h0.trans f0 (by simp))
  have R1 := Lib.hid r1
  clear hT hT1 h0 f0 r1
  go_enter Try.func20, Try.ntmps20
  go_wp2_with fail
  generalize w.alloc (.cells #[.pointer (some ⟨hb1, 0, none⟩), .pointer (some ⟨hb2, 0, none⟩)] 46) = W0 at *
  obtain ⟨x1, hx1⟩ : ∃ x, x = w.heap.size := ⟨_, rfl⟩
  rw [← hx1] at R1 ⊢
  have q0 := R1.out.cell (i := 0) rfl
  have q1 := R1.out.cell (i := 1) rfl
  clear hx1
  go_region_held3 (fun w' => w'.cell? ⟨x1, 0, none⟩ = some (.pointer (some ⟨hb1, 0, none⟩)) ∧ w'.cell? ⟨x1, 1, none⟩ = some (.pointer (some ⟨hb2, 0, none⟩))) (first | exact ⟨q0, q1⟩) (first | (go_at_call 21; refine (size_m (HT.out.h1.frm ((Frm.refl [] _).drew) (by simp))).mono ?_; rintro e3 w3 ⟨rfl, rfl⟩) | (go_at_call 31; refine (rsize_m (HT.out.h2.frm ((Frm.refl [] _).drew) (by simp))).mono ?_; rintro e3 w3 ⟨rfl, rfl⟩))
  go_wp2_with fail
  have i9 : (cs.length : Int) ≤ 65536 := by omega
  have hTd := HT.out.frm ((Frm.refl [] W0).drew) (by simp) (by simp)
  have hRd := R1.out.drew
  have HTD := Lib.hid hTd
  have HRD := Lib.hid hRd
  have H0D := Lib.hid H0.out.drew
  have hxs : x1 < W0.drew.heap.size := R1.out.lt
  clear hTd hRd q0 q1 HT R1 H0
  generalize W0.drew = W1 at *
  go_loopg [3] (cs.length + 2) (fun q s3 wr => ∃ i : Nat, q = cs.length + 2 - i ∧ i ≤ cs.length + 2 ∧ s3 = .int .i64 ((i : Int) - 1) ∧ Frm [] W1 wr)
  case atStart => exact ⟨0, rfl, Nat.zero_le _, rfl, Frm.refl _ _⟩
  case round =>
    obtain ⟨i, rfl, hi, rfl, hF⟩ := hrel
    have HF := Lib.hid hF
    have hszr := hF.size
    have hR := HRD.out.frm hF (by simp)
    have q0 := hR.cell (i := 0) rfl
    have q1 := hR.cell (i := 1) rfl
    have hT := HTD.out.frm hF (by simp) (by simp)
    have hsz := rsize_m hT.h2
    obtain ⟨r, hr⟩ : ∃ r : Int, r = (i : Int) - 1 := ⟨_, rfl⟩
    rw [← hr]
    have hrw : IntKind.i64.wrap (r + 1) = ((i + 1 : Nat) : Int) - 1 := by rw [IntWalk.i64_in _ (by omega)]; omega
    have HRW := Lib.hid hrw
    by_cases hil : i < cs.length + 2
    · have i5 : r ≤ (cs.length : Int) := by omega
      have hrd := read_m hT.h1 hT.o1 r
      have HT := Lib.hid hT
      have HR := Lib.hid hR
      obtain ⟨⟨c, pl, er⟩, hc⟩ : ∃ x, readM cs r = x := ⟨_, rfl⟩
      rw [hc] at hrd
      simp only at hrd
      have HC := Lib.hid hc
      clear hF hT hR hr hrw hc
      go_wp2_with fail
      refine hsz.mono ?_
      rintro e2 w2 ⟨rfl, rfl⟩
      clear hsz
      go_wp2_with fail
      refine hrd.mono ?_
      rintro e3 w3 ⟨a3, c3, rfl, hi3, hb3, hf3⟩
      have f4 : Frm [] w3 (w3.alloc (.cells #[.int .i64 c.kind, .int .i64 c.num, .slice a3 c.refs.length c3] 32)) := (Frm.refl [] w3).alloc _
      have hR4 := (HR.out.frm hf3 (by simp)).frm f4 (by simp)
      have p1 := hR4.cell (i := 1) rfl
      have hT4 := (HT.out.frm hf3 (by simp) (by simp)).frm f4 (by simp) (by simp)
      have hrr := rread_m hT4.h2 hT4.o2 r
      rw [HC.out] at hrr
      simp only at hrr
      have r4 := RowAt.made w3 32 [.int .i64 c.kind, .int .i64 c.num, .slice a3 c.refs.length c3] #[.int .i64 c.kind, .int .i64 c.num, .slice a3 c.refs.length c3] rfl
      have R4 := Lib.hid r4
      have HI3 := Lib.hid (hi3.frm f4 (by simp))
      have HF4 := Lib.hid ((HF.out.trans hf3 (by simp)).trans f4 (by simp))
      have hsz3 := hf3.size
      clear hrd hi3 hb3 hf3 f4 hR4 hT4 r4 HT HR q0 q1 HC
      have i6 : x1 ≠ w3.heap.size := by omega
      go_wp2_with fail
      generalize w3.alloc (.cells #[.int .i64 c.kind, .int .i64 c.num, .slice a3 c.refs.length c3] 32) = w4 at *
      obtain ⟨b4, hb4⟩ : ∃ x, x = w3.heap.size := ⟨_, rfl⟩
      rw [← hb4] at R4 ⊢
      refine hrr.mono ?_
      rintro e5 w5 ⟨a5, c5, rfl, hi5, hb5, hf5⟩
      have f6 : Frm [] w5 (w5.alloc (.cells #[.int .i64 c.kind, .int .i64 c.num, .slice a5 c.refs.length c5] 32)) := (Frm.refl [] w5).alloc _
      have hR6 := (R4.out.frm hf5 (by simp)).frm f6 (by simp)
      have d0 := hR6.cell (i := 0) rfl
      have d1 := hR6.cell (i := 1) rfl
      have d2 := hR6.cell (i := 2) rfl
      have r6 := RowAt.made w5 32 [.int .i64 c.kind, .int .i64 c.num, .slice a5 c.refs.length c5] #[.int .i64 c.kind, .int .i64 c.num, .slice a5 c.refs.length c5] rfl
      have e0 := r6.cell (i := 0) rfl
      have e1 := r6.cell (i := 1) rfl
      have e2 := r6.cell (i := 2) rfl
      have hsa := same_any c a3 a5 c3 c5 ((HI3.out.frm hf5 (by simp)).frm f6 (by simp)) (hi5.frm f6 (by simp))
      have HF6 := Lib.hid ((HF4.out.trans hf5 (by simp)).trans f6 (by simp))
      have hb45 := (R4.out.frm hf5 (by simp)).lt
      clear hrr hi5 hb5 hf5 f6 hR6 r6 HI3 R4 HF4 p1 hb4
      have i7 : b4 ≠ w5.heap.size := by omega
      go_wp2_with fail
      generalize w5.alloc (.cells #[.int .i64 c.kind, .int .i64 c.num, .slice a5 c.refs.length c5] 32) = w6 at *
      refine hsa.mono ?_
      rintro e7 w7 ⟨rfl, hf7⟩
      have HF7 := Lib.hid (HF6.out.trans hf7 (by simp))
      clear hsa hf7 d0 d1 d2 e0 e1 e2
      go_wp2_with fail
      go_roundg (cs.length + 2 - (i + 1))
      case rel => exact ⟨i + 1, rfl, hil, by rw [← HRW.out, IntWalk.i64_left], HF7.out⟩
      case measure => omega
    · have i5 : ¬ r ≤ (cs.length : Int) := by omega
      have HT := Lib.hid hT
      clear hF hT hR hr hrw
      go_wp2_with fail
      refine hsz.mono ?_
      rintro e2 w2 ⟨rfl, rfl⟩
      clear hsz
      go_wp2_with fail
      go_ret
      exact ⟨rfl, fp1, fp2, HT.out, H0D.out.trans HF.out (by simp)⟩

end Go.Proofs.Ytlpgonnionbkfaa
