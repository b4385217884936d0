/- GraphReach of the law answers true. Printed by b6.py. -/
import Derived.Test.YtknfdpkfomlckaaB5
import Derived.Test.YtknfdpkfomlckaaZ6
import Derived.Test.YtknfdpkfomlckaaQ1
namespace Go.Proofs.Ytknfdpkfomlckaa
open Go.RowKit

theorem Sys.small2 {n m : Nat} {l : Lts} (h : Sys n m l) (hn : n ≤ 100) (hm : m ≤ 100) : (1 ≤ l.length ∧ l.length ≤ 1000) ∧ ∀ row ∈ l, row.length ≤ 1000 := by
  refine ⟨⟨h.pos, by have := h.few; omega⟩, fun row hr => ?_⟩
  obtain ⟨i, hi⟩ := List.getElem?_of_mem hr
  have := (h.row i row hi).2.2
  omega

set_option linter.unusedSimpArgs false in
set_option maxRecDepth 100000 in
set_option maxHeartbeats 4000000 in
theorem reach_law (ta : Option Addr) (tcap : Nat) (xs : List Int) (a : Option Addr) (cap : Nat) (l : Lts) (fa : Option Addr) (fc : Nat) (fs : List Int) (silent : Bool) (w : World) (ht : Rd w.heap.size w ta xs.length tcap 1 (ints xs)) (hx : ∀ x ∈ xs, -9223372036854775808 ≤ x ∧ x ≤ 9223372036854775807) (h : LAt w.heap.size w a cap l) (hf : Rd w.heap.size w fa fs.length fc 1 (ints fs)) (hnil : fa = none → fc = 0) :
    Calls Try.prog 8 #[.slice ta xs.length tcap, .agg #[.slice a l.length cap], .slice fa fs.length fc, .bool silent] w fun e w' => e = .returned (.bool true) ∧ Frm [] w w' := by
  have f0 : Frm [] w (w.alloc (.cells #[.slice a l.length cap] 25)) := (Frm.refl [] w).alloc _
  have HB := Lib.hid (box1 w (.slice a l.length cap) 25)
  have hnew := tape_new w.heap.size ta tcap xs _ (ht.frm f0 (by simp)) hx
  have HL0 := Lib.hid (h.nil f0 rfl)
  have HR0 := Lib.hid (hf.frm f0 (by simp))
  have HNIL := Lib.hid hnil
  have hflt := hf.lt
  clear ht hx h hf hnil
  go_enter Try.func8, Try.ntmps8
  go_wp2_with fail
  refine hnew.mono ?_
  rintro e1 w1 ⟨rfl, hf1, hT1, hsz1⟩
  have hs0 : (w.alloc (.cells #[.slice a l.length cap] 25)).heap.size = w.heap.size + 1 := by simp only [World.alloc, Array.size_push]
  rw [hs0] at hsz1 hT1 ⊢
  have HF1 := Lib.hid hf1
  have HT1 := Lib.hid hT1
  clear hnew hf1 hT1
  go_wp2_with fail
  go_loopg [10] 4 (fun q i wr => ∃ (j : Nat), q = 4 - j ∧ j ≤ 4 ∧ i = .int .i64 (j : Int) ∧ TapeOk w.heap.size wr (w.heap.size + 1) (2000 * j) ∧ Frm [w.heap.size + 1] w1 wr)
  case atStart => exact ⟨0, rfl, Nat.zero_le _, rfl, HT1.out, Frm.refl _ _⟩
  case round =>
    obtain ⟨j, rfl, hj, rfl, hT, hF⟩ := hrel
    have HT := Lib.hid hT
    have HF := Lib.hid hF
    have hszr := hF.size
    have HFW := Lib.hid (((HF1.out.mono (fq := [w.heap.size + 1]) (by simp)).trans hF (by simp)))
    have i4 : (0 : Int) ≤ (j : Int) := by omega
    clear hT hF
    by_cases hj5 : j < 4
    · have i5 : (j : Int) < 4 := by omega
      go_wp2_with fail
      refine (lts_any w.heap.size (w.heap.size + 1) (2000 * j) 8 wr HT.out (by omega) (by omega) (by omega) (by omega)).mono ?_
      rintro e5 w5 ⟨x, g, rfl, hg, hM, hS, hT5, hf5⟩
      have hfew := hS.small2 (by omega) (by omega)
      have hsz5 := hf5.size
      have hgl := hM.lt
      have HM := Lib.hid (hM.frm ((Frm.refl [] w5).alloc (.cells #[.slice (some ⟨g, 0, none⟩) x.length x.length] 25)) (by simp))
      have HT6 : Hid (TapeOk w.heap.size (w5.alloc (.cells #[.slice (some ⟨g, 0, none⟩) x.length x.length] 25)) (w.heap.size + 1) (2000 * j + 1000)) := Lib.hid (hT5.nil ((Frm.refl [] w5).alloc _))
      have HF6 := Lib.hid ((HF.out.trans hf5 (by simp)).alloc (.cells #[.slice (some ⟨g, 0, none⟩) x.length x.length] 25))
      have C6 := Lib.hid ((box1 w5 (.slice (some ⟨g, 0, none⟩) x.length x.length) 25).cell (i := 0) rfl)
      have hlen : x.length ≤ 140737488355328 := by omega
      have HROWS : Hid (∀ row ∈ x, row.length ≤ 140737488355328) := Lib.hid (fun row hr => by have := hfew.2 row hr; omega)
      have HFEW := Lib.hid hfew
      have i6 : (x.length : Int) ≤ 1000 := by omega
      clear hM hS hT5 hf5 hfew
      go_wp2_with fail
      go_region_held3 (fun w' => w'.cell? ⟨w5.heap.size, 0, none⟩ = some (.slice (some ⟨g, 0, none⟩) x.length x.length)) (first | exact C6.out | exact (hf8.alloc _).cell C6.out (by simp; omega) | exact hf8.cell C6.out (by simp; omega) | exact hf7.cell C6.out (by simp; omega)) (first | (go_at_call 25; (with_reducible refine (next_any w.heap.size (w.heap.size + 1) (2000 * j + 1000 + 1) (x.length : Int) _ (hT7) (by omega) (by omega) (by omega)).mono ?_); rintro e8 w8 ⟨⟨v8, rfl, -, -⟩, hT8, hf80⟩; have hf8 := (hf7).trans hf80 (by simp)) | (go_at_call 25; (with_reducible refine (next_any w.heap.size (w.heap.size + 1) (2000 * j + 1000) (x.length : Int) _ (HT6.out.nil ((Frm.refl [] (w5.alloc (.cells #[.slice (some ⟨g, 0, none⟩) x.length x.length] 25))).drew)) (by omega) (by omega) (by omega)).mono ?_); rintro e7 w7 ⟨⟨v7, rfl, -, -⟩, hT7, hf70⟩; have hf7 := ((((Frm.refl [] (w5.alloc (.cells #[.slice (some ⟨g, 0, none⟩) x.length x.length] 25))).drew).mono (fq := [w.heap.size + 1]) (by simp))).trans hf70 (by simp)))
      obtain ⟨w9, hw9⟩ : ∃ y, y = w8.alloc (.cells #[.int .i64 v7, .int .i64 v8] 3) := ⟨_, rfl⟩
      rw [← hw9]
      have hrow9 : RowAt w9 w8.heap.size 3 [.int .i64 v7, .int .i64 v8] := by rw [hw9]; exact RowAt.made w8 _ _ _ rfl
      have hf89 : Frm [] w8 w9 := by rw [hw9]; exact (Frm.refl [] w8).alloc _
      have CV := Lib.hid (hrow9.cell (i := 0) rfl)
      have CU := Lib.hid (hrow9.cell (i := 1) rfl)
      have hf69 := hf8.trans hf89 (by simp)
      have C9 := Lib.hid (hf69.cell C6.out (by simp; omega))
      have HT9 : Hid (TapeOk w.heap.size w9 (w.heap.size + 1) (2000 * j + 1002)) := Lib.hid ((hT8.nil hf89).mono (by omega))
      have HM9 := Lib.hid (HM.out.frm hf69 (by simp; omega))
      have HF9 := Lib.hid (HF6.out.trans hf69 (by simp))
      have hsz8 := hf8.size
      simp only [World.alloc, Array.size_push] at hsz8
      have HD9 : Hid (Frm [w.heap.size + 1] w9 w9.drew) := Lib.hid (((Frm.refl [] w9).drew).mono (by simp))
      have hgb := hrow9.lt
      clear hw9 hrow9 hf89 hf69 hf8 hf80 hT8 hf7 hf70 hT7
      go_wp2_with fail
      go_region_held3 (fun w' => w'.cell? ⟨w5.heap.size, 0, none⟩ = some (.slice (some ⟨g, 0, none⟩) x.length x.length) ∧ w'.cell? ⟨w8.heap.size, 0, none⟩ = some (.int .i64 v7) ∧ w'.cell? ⟨w8.heap.size, 1, none⟩ = some (.int .i64 v8)) (first | exact ⟨HD9.out.cell C9.out (by simp; omega), HD9.out.cell CV.out (by simp; omega), HD9.out.cell CU.out (by simp; omega)⟩ | exact ⟨hf15.cell C9.out (by simp; omega), hf15.cell CV.out (by simp; omega), hf15.cell CU.out (by simp; omega)⟩ | exact ⟨hf14.cell C9.out (by simp; omega), hf14.cell CV.out (by simp; omega), hf14.cell CU.out (by simp; omega)⟩ | exact ⟨hf13.cell C9.out (by simp; omega), hf13.cell CV.out (by simp; omega), hf13.cell CU.out (by simp; omega)⟩ | exact ⟨(hf12.alloc _).cell C9.out (by simp; omega), (hf12.alloc _).cell CV.out (by simp; omega), (hf12.alloc _).cell CU.out (by simp; omega)⟩ | exact ⟨hf12.cell C9.out (by simp; omega), hf12.cell CV.out (by simp; omega), hf12.cell CU.out (by simp; omega)⟩ | exact ⟨hf11.cell C9.out (by simp; omega), hf11.cell CV.out (by simp; omega), hf11.cell CU.out (by simp; omega)⟩ | exact ⟨hf10.cell C9.out (by simp; omega), hf10.cell CV.out (by simp; omega), hf10.cell CU.out (by simp; omega)⟩) (first | (go_at_call 29; (with_reducible refine (reaches_any w14.heap.size a14 c14 l14 (some ⟨w8.heap.size, 0, none⟩) 2 1 [v7] rfl silent w14 hl14 (rd_one w14 w8.heap.size 2 v7 (by omega) (by omega) (hf14.cell CV.out (by simp; omega))) (fun e9 => by cases e9) (by omega)).mono ?_); rintro e15 w15 ⟨rfl, hf150⟩; have hf15 := hf14.trans hf150 (by simp)) | (go_at_call 22; (with_reducible refine (spoil_any w.heap.size (w.heap.size + 1) (2000 * j + 1002) g x w13 (HT9.out.nil HF913) (by omega) (by omega) (HM9.out.frm hf13 (by simp; omega)) (by omega) HFEW.out.1.1 HFEW.out.1.2 HFEW.out.2).mono ?_); rintro e14 w14 ⟨hsp, hT14, hf140⟩; obtain ⟨a14, c14, l14, rfl, hl14⟩ := hsp; have hf14 := hf13.trans hf140 (by simp)) | (go_at_call 29; (with_reducible refine (reaches_any (w12.alloc (.cells #[.int .i64 v7, .int .i64 (x.length : Int)] 3)).heap.size (some ⟨g, 0, none⟩) x.length x (some ⟨w12.heap.size, 0, none⟩) 2 2 [v7, (x.length : Int)] rfl silent (w12.alloc (.cells #[.int .i64 v7, .int .i64 (x.length : Int)] 3)) ((HM9.out.frm (hf12.alloc _) (by simp; omega)).lat hlen HROWS.out) (rd_two (w12.alloc (.cells #[.int .i64 v7, .int .i64 (x.length : Int)] 3)) w12.heap.size 2 v7 (x.length : Int) (by omega) (by omega) ((RowAt.made w12 3 [.int .i64 v7, .int .i64 (x.length : Int)] #[.int .i64 v7, .int .i64 (x.length : Int)] rfl).cell (i := 0) rfl) ((RowAt.made w12 3 [.int .i64 v7, .int .i64 (x.length : Int)] #[.int .i64 v7, .int .i64 (x.length : Int)] rfl).cell (i := 1) rfl)) (fun e9 => by first | rfl | cases e9) (by omega)).mono ?_); rintro e13 w13 ⟨rfl, hf130⟩; have hf13 := (hf12.alloc (.cells #[.int .i64 v7, .int .i64 (x.length : Int)] 3)).trans hf130 (by simp); have HF913 := (hn12.alloc (.cells #[.int .i64 v7, .int .i64 (x.length : Int)] 3)).trans hf130 (by simp)) | (go_at_call 29; (with_reducible refine (reaches_any w11.heap.size (some ⟨g, 0, none⟩) x.length x none 0 0 [] rfl silent w11 ((HM9.out.frm hf11 (by simp; omega)).lat hlen HROWS.out) (rd_nil w11) (fun e9 => by first | rfl | cases e9) (by omega)).mono ?_); rintro e12 w12 ⟨rfl, hf120⟩; have hf12 := hf11.trans hf120 (by simp); have hn12 := hn11.trans hf120 (by simp)) | (go_at_call 29; (with_reducible refine (reaches_any w10.heap.size (some ⟨g, 0, none⟩) x.length x (some ⟨w8.heap.size, 0, none⟩) 2 1 [v7] rfl (!silent) w10 ((HM9.out.frm hf10 (by simp; omega)).lat hlen HROWS.out) (rd_one w10 w8.heap.size 2 v7 (by omega) (by omega) (hf10.cell CV.out (by simp; omega))) (fun e9 => by first | rfl | cases e9) (by omega)).mono ?_); rintro e11 w11 ⟨rfl, hf110⟩; have hf11 := hf10.trans hf110 (by simp); have hn11 := hn10.trans hf110 (by simp)) | (go_at_call 29; (with_reducible refine (reaches_any w9.drew.heap.size (some ⟨g, 0, none⟩) x.length x (some ⟨w8.heap.size, 0, none⟩) 2 2 [v7, v8] rfl silent w9.drew ((HM9.out.frm HD9.out (by simp; omega)).lat hlen HROWS.out) (rd_two w9.drew w8.heap.size 2 v7 v8 (by omega) (by omega) (HD9.out.cell CV.out (by simp; omega)) (HD9.out.cell CU.out (by simp; omega))) (fun e9 => by first | rfl | cases e9) (by omega)).mono ?_); rintro e10 w10 ⟨rfl, hf100⟩; have hf10 := HD9.out.trans hf100 (by simp); have hn10 := (Frm.refl [] w9).drew.trans hf100 (by simp)))
      have HT15 := Lib.hid (hT14.nil hf150)
      have HF15 := Lib.hid (HF9.out.trans hf15 (by simp))
      clear hf15 hT14
      go_wp2_with fail
      go_roundg (4 - (j + 1))
      case rel => exact ⟨j + 1, rfl, hj5, by go_num, HT15.out.mono (by omega), HF15.out⟩
      case measure => omega
    · have i5 : ¬ (j : Int) < 4 := by omega
      have cb := (HB.out.frm HFW.out (by simp)).cell (i := 0) rfl
      have HLR := Lib.hid (HL0.out.frm HFW.out (by simp))
      have HRR := Lib.hid (HR0.out.frm HFW.out (by simp))
      have CB := Lib.hid cb
      have HFIN : Hid (Frm [] w wr) := Lib.hid (f0.trans HFW.out (by simp))
      clear hj5
      go_wp2_with fail
      refine (huge_any w.heap.size a cap l wr HLR.out).mono ?_
      rintro e3 w3 ⟨h3, hf3⟩
      obtain ⟨b, rfl, -⟩ := h3
      have HF3 := Lib.hid hf3
      have cb3 := hf3.cell CB.out (by simp)
      have HL3 := Lib.hid (HLR.out.nil hf3 rfl)
      have HR3 := Lib.hid (HRR.out.frm hf3 (by simp))
      have hsz3 := (HFIN.out.trans hf3 (by simp)).size
      clear hf3 cb
      cases b with
      | true =>
        go_wp2_with fail
        go_ret
        exact ⟨rfl, HFIN.out.trans HF3.out (by simp)⟩
      | false =>
        by_cases hlong : 12 < fs.length
        · have i7 : (12 : Int) < (fs.length : Int) := by omega
          go_wp2_with fail
          go_ret
          exact ⟨rfl, HFIN.out.trans HF3.out (by simp)⟩
        · have i7 : ¬ (12 : Int) < (fs.length : Int) := by omega
          go_wp2_with fail
          refine (reaches_any w.heap.size a cap l fa fc fs.length fs rfl silent w3 HL3.out (HR3.out.mono hsz3) HNIL.out (by omega)).mono ?_
          rintro e4 w4 ⟨rfl, hf4⟩
          have HF4 := Lib.hid hf4
          clear hf4 cb3
          go_wp2_with fail
          refine (sane_any w4).mono ?_
          rintro e5 w5 ⟨rfl, hf5⟩
          have HF5 := Lib.hid hf5
          clear hf5
          go_wp2_with fail
          go_ret
          exact ⟨rfl, ((HFIN.out.trans HF3.out (by simp)).trans HF4.out (by simp)).trans HF5.out (by simp)⟩

end Go.Proofs.Ytknfdpkfomlckaa
