/- GraphAcceptance of the law answers true. -/
import Derived.Test.YtknfdpkfomlckaaZ4
import Derived.Test.YtknfdpkfomlckaaGM
import Derived.Test.YtknfdpkfomlckaaGP
namespace Go.Proofs.Ytknfdpkfomlckaa
open Go.RowKit

theorem Sys.small {n m : Nat} {l : Lts} (h : Sys n m l) (hn : n ≤ 100) (hm : m ≤ 100) : (1 ≤ l.length ∧ l.length ≤ 1000) ∧ ∀ row ∈ l, row.length ≤ 1000 := by
  refine ⟨⟨h.pos, by have := h.few; omega⟩, fun row hr => ?_⟩
  obtain ⟨i, hi⟩ := List.getElem?_of_mem hr
  have := (h.row i row hi).2.2
  omega

set_option linter.unusedSimpArgs false in
set_option maxRecDepth 100000 in
set_option maxHeartbeats 4000000 in
theorem acceptance_law (ta : Option Addr) (tcap : Nat) (xs : List Int) (a : Option Addr) (cap : Nat) (l : Lts) (s : Int) (w : World) (ht : Rd w.heap.size w ta xs.length tcap 1 (ints xs)) (hx : ∀ x ∈ xs, -9223372036854775808 ≤ x ∧ x ≤ 9223372036854775807) (h : LAt w.heap.size w a cap l) :
    Calls Try.prog 7 #[.slice ta xs.length tcap, .agg #[.slice a l.length cap], .int .i64 s] w fun e w' => e = .returned (.bool true) ∧ Frm [] w w' := by
  have f0 : Frm [] w (w.alloc (.cells #[.slice a l.length cap] 25)) := (Frm.refl [] w).alloc _
  have hbox := box1 w (.slice a l.length cap) 25
  have HB := Lib.hid hbox
  have hnew := tape_new w.heap.size ta tcap xs _ (ht.frm f0 (by simp)) hx
  have HL0 := Lib.hid (h.nil f0 rfl)
  clear ht hx h hbox
  go_enter Try.func7, Try.ntmps7
  go_wp2_with fail
  refine hnew.mono ?_
  rintro e1 w1 ⟨rfl, hf1, hT1, hsz1⟩
  have hs0 : (w.alloc (.cells #[.slice a l.length cap] 25)).heap.size = w.heap.size + 1 := by simp only [World.alloc, Array.size_push]
  rw [hs0] at hsz1 hT1 ⊢
  have HF1 := Lib.hid hf1
  have HT1 := Lib.hid hT1
  clear hnew hf1 hT1
  go_wp2_with fail
  go_loopg [8] 5 (fun q i wr => ∃ (j : Nat), q = 5 - j ∧ j ≤ 5 ∧ i = .int .i64 (j : Int) ∧ TapeOk w.heap.size wr (w.heap.size + 1) (2000 * j) ∧ Frm [w.heap.size + 1] w1 wr)
  case atStart => exact ⟨0, rfl, Nat.zero_le _, rfl, HT1.out, Frm.refl _ _⟩
  case round =>
    obtain ⟨j, rfl, hj, rfl, hT, hF⟩ := hrel
    have HT := Lib.hid hT
    have HF := Lib.hid hF
    have hszr := hF.size
    have HFW := Lib.hid (((HF1.out.mono (fq := [w.heap.size + 1]) (by simp)).trans hF (by simp)))
    have i4 : (0 : Int) ≤ (j : Int) := by omega
    clear hT hF
    by_cases hj5 : j < 5
    · have i5 : (j : Int) < 5 := by omega
      go_wp2_with fail
      refine (lts_any w.heap.size (w.heap.size + 1) (2000 * j) 5 wr HT.out (by omega) (by omega) (by omega) (by omega)).mono ?_
      rintro e5 w5 ⟨x, g, rfl, hg, hM, hS, hT5, hf5⟩
      have hfew := Sys.small hS (by omega) (by omega)
      have hsz5 := hf5.size
      have hgl := hM.lt
      have HM := Lib.hid (hM.frm ((Frm.refl [] w5).alloc (.cells #[.slice (some ⟨g, 0, none⟩) x.length x.length] 25)) (by simp))
      have HT6 : Hid (TapeOk w.heap.size (w5.alloc (.cells #[.slice (some ⟨g, 0, none⟩) x.length x.length] 25)) (w.heap.size + 1) (2000 * j + 1000)) := Lib.hid (hT5.nil ((Frm.refl [] w5).alloc _))
      have HF6 := Lib.hid ((HF.out.trans hf5 (by simp)).alloc (.cells #[.slice (some ⟨g, 0, none⟩) x.length x.length] 25))
      have C6 := Lib.hid ((box1 w5 (.slice (some ⟨g, 0, none⟩) x.length x.length) 25).cell (i := 0) rfl)
      have hlen : x.length ≤ 140737488355328 := by omega
      have HROWS : Hid (∀ row ∈ x, row.length ≤ 140737488355328) := Lib.hid (fun row hr => by have := hfew.2 row hr; omega)
      have HFEW := Lib.hid hfew
      have i6 : (x.length : Int) ≤ 1000 := by omega
      clear hM hS hT5 hf5 hfew
      go_wp2_with fail
      go_region_held3 (fun w' => w'.cell? ⟨w5.heap.size, 0, none⟩ = some (.slice (some ⟨g, 0, none⟩) x.length x.length)) (first | exact C6.out | exact hf13.cell C6.out (by simp; omega) | exact hf12.cell C6.out (by simp; omega) | exact hf11.cell C6.out (by simp; omega) | exact hf10.cell C6.out (by simp; omega) | exact hf9.cell C6.out (by simp; omega) | exact hf8.cell C6.out (by simp; omega) | exact hf7.cell C6.out (by simp; omega)) (first | (go_at_call 25; (with_reducible refine (next_any w.heap.size (w.heap.size + 1) (2000 * j + 1000) (x.length : Int) _ (HT6.out.nil ((Frm.refl [] (w5.alloc (.cells #[.slice (some ⟨g, 0, none⟩) x.length x.length] 25))).drew)) (by omega) (by omega) (by omega)).mono ?_); rintro e7 w7 ⟨⟨v7, rfl, -, -⟩, hT7, hf70⟩; have hf7 := (((Frm.refl [] (w5.alloc (.cells #[.slice (some ⟨g, 0, none⟩) x.length x.length] 25))).drew).mono (fq := [w.heap.size + 1]) (by simp)).trans hf70 (by simp)) | (go_at_call 28; (with_reducible refine (accepts_any w7.heap.size (some ⟨g, 0, none⟩) x.length x (v7) w7 ((HM.out.frm hf7 (by simp; omega)).lat hlen HROWS.out)).mono ?_); rintro e8 w8 ⟨rfl, hf80⟩; have hf8 := hf7.trans hf80 (by simp)) | (go_at_call 28; (with_reducible refine (accepts_any w8.heap.size (some ⟨g, 0, none⟩) x.length x (s) w8 ((HM.out.frm hf8 (by simp; omega)).lat hlen HROWS.out)).mono ?_); rintro e9 w9 ⟨rfl, hf90⟩; have hf9 := hf8.trans hf90 (by simp)) | (go_at_call 28; (with_reducible refine (accepts_any w9.heap.size (some ⟨g, 0, none⟩) x.length x (-1) w9 ((HM.out.frm hf9 (by simp; omega)).lat hlen HROWS.out)).mono ?_); rintro e10 w10 ⟨rfl, hf100⟩; have hf10 := hf9.trans hf100 (by simp)) | (go_at_call 28; (with_reducible refine (accepts_any w10.heap.size (some ⟨g, 0, none⟩) x.length x ((x.length : Int)) w10 ((HM.out.frm hf10 (by simp; omega)).lat hlen HROWS.out)).mono ?_); rintro e11 w11 ⟨rfl, hf110⟩; have hf11 := hf10.trans hf110 (by simp)) | (go_at_call 22; (with_reducible refine (spoil_any w.heap.size (w.heap.size + 1) (2000 * j + 1001) g x w11 (hT7.nil (((hf80.trans hf90 (by simp)).trans hf100 (by simp)).trans hf110 (by simp))) (by omega) (by omega) (HM.out.frm hf11 (by simp; omega)) (by omega) HFEW.out.1.1 HFEW.out.1.2 HFEW.out.2).mono ?_); rintro e12 w12 ⟨hsp, hT12, hf120⟩; obtain ⟨a12, c12, l12, rfl, hl12⟩ := hsp; have hf12 := hf11.trans hf120 (by simp)) | (go_at_call 28; (with_reducible refine (accepts_any w12.heap.size a12 c12 l12 0 w12 hl12).mono ?_); rintro e13 w13 ⟨rfl, hf130⟩; have hf13 := hf12.trans hf130 (by simp)))
      have HT13 := Lib.hid (hT12.nil hf130)
      have HF13 := Lib.hid (HF6.out.trans hf13 (by simp))
      clear hf13 hT12
      go_wp2_with fail
      go_roundg (5 - (j + 1))
      case rel => exact ⟨j + 1, rfl, hj5, by go_num, HT13.out.mono (by omega), HF13.out⟩
      case measure => omega
    · have i5 : ¬ (j : Int) < 5 := by omega
      have cb := (HB.out.frm HFW.out (by simp)).cell (i := 0) rfl
      have HLR := Lib.hid (HL0.out.frm HFW.out (by simp))
      have CB := Lib.hid cb
      clear hj5
      go_wp2_with fail
      refine (huge_any w.heap.size a cap l wr HLR.out).mono ?_
      rintro e3 w3 ⟨h3, hf3⟩
      obtain ⟨b, rfl, -⟩ := h3
      have HF3 := Lib.hid hf3
      have hfin : Frm [] w wr := (f0.trans HFW.out (by simp))
      have HFIN := Lib.hid hfin
      have cb3 := hf3.cell CB.out (by simp)
      have HL3 := Lib.hid (HLR.out.nil hf3 rfl)
      clear hf3 hfin cb
      cases b with
      | true =>
        go_wp2_with fail
        go_ret
        exact ⟨rfl, HFIN.out.trans HF3.out (by simp)⟩
      | false =>
        go_wp2_with fail
        refine (accepts_any w.heap.size a cap l s w3 HL3.out).mono ?_
        rintro e4 w4 ⟨rfl, hf4⟩
        have HF4 := Lib.hid hf4
        clear hf4 cb3
        go_wp2_with fail
        refine (sane_any w4).mono ?_
        rintro e5 w5 ⟨rfl, hf5⟩
        have HF5 := Lib.hid hf5
        clear hf5
        go_wp2_with fail
        go_ret
        exact ⟨rfl, ((HFIN.out.trans HF3.out (by simp)).trans HF4.out (by simp)).trans HF5.out (by simp)⟩

end Go.Proofs.Ytknfdpkfomlckaa
