/- GraphLasso of the law answers true. -/
import Derived.Test.YtknfdpkfomlckaaCG
import Derived.Test.YtknfdpkfomlckaaQ1
namespace Go.Proofs.Ytknfdpkfomlckaa
open Go.RowKit

theorem Sys.small3 {n m : Nat} {l : Lts} (h : Sys n m l) (hn : n ≤ 100) (hm : m ≤ 100) : (1 ≤ l.length ∧ l.length ≤ 1000) ∧ ∀ row ∈ l, row.length ≤ 1000 := by
  refine ⟨⟨h.pos, by have := h.few; omega⟩, fun row hr => ?_⟩
  obtain ⟨i, hi⟩ := List.getElem?_of_mem hr
  have := (h.row i row hi).2.2
  omega

set_option linter.unusedSimpArgs false in
set_option maxRecDepth 100000 in
set_option maxHeartbeats 4000000 in
theorem lasso_law (ta : Option Addr) (tcap : Nat) (xs : List Int) (a : Option Addr) (cap : Nat) (l : Lts) (s : Int) (w : World) (ht : Rd w.heap.size w ta xs.length tcap 1 (ints xs)) (hx : ∀ x ∈ xs, -9223372036854775808 ≤ x ∧ x ≤ 9223372036854775807) (h : LAt w.heap.size w a cap l) :
    Calls Try.prog 5 #[.slice ta xs.length tcap, .agg #[.slice a l.length cap], .int .i64 s] w fun e w' => e = .returned (.bool true) ∧ Frm [] w w' := by
  have f0 : Frm [] w (w.alloc (.cells #[.slice a l.length cap] 25)) := (Frm.refl [] w).alloc _
  have HB := Lib.hid (box1 w (.slice a l.length cap) 25)
  have hnew := tape_new w.heap.size ta tcap xs _ (ht.frm f0 (by simp)) hx
  have HL0 := Lib.hid (h.nil f0 rfl)
  clear ht hx h
  go_enter Try.func5, Try.ntmps5
  go_wp2_with fail
  refine hnew.mono ?_
  rintro e1 w1 ⟨rfl, hf1, hT1, hsz1⟩
  have hs0 : (w.alloc (.cells #[.slice a l.length cap] 25)).heap.size = w.heap.size + 1 := by simp only [World.alloc, Array.size_push]
  rw [hs0] at hsz1 hT1 ⊢
  have HF1 := Lib.hid hf1
  have HT1 := Lib.hid hT1
  clear hnew hf1 hT1
  go_wp2_with fail
  go_loopg [8] 4 (fun q i wr => ∃ (j : Nat), q = 4 - j ∧ j ≤ 4 ∧ i = .int .i64 (j : Int) ∧ TapeOk w.heap.size wr (w.heap.size + 1) (3000 * j) ∧ Frm [w.heap.size + 1] w1 wr)
  case atStart => exact ⟨0, rfl, Nat.zero_le _, rfl, HT1.out, Frm.refl _ _⟩
  case round =>
    obtain ⟨j, rfl, hj, rfl, hT, hF⟩ := hrel
    have HT := Lib.hid hT
    have HF := Lib.hid hF
    have hszr := hF.size
    have HFW := Lib.hid (((HF1.out.mono (fq := [w.heap.size + 1]) (by simp)).trans hF (by simp)))
    have i4 : (0 : Int) ≤ (j : Int) := by omega
    clear hT hF
    by_cases hj5 : j < 4
    · have i5 : (j : Int) < 4 := by omega
      go_wp2_with fail
      refine (chain_any w.heap.size (w.heap.size + 1) (3000 * j) 6 wr HT.out (by omega) (by omega) (by omega) (by omega)).mono ?_
      rintro e5 w5 ⟨x, g, rfl, hg, hM, hS, hT5, hf5⟩
      have hfew := hS.small3 (by omega) (by omega)
      have hsz5 := hf5.size
      have hgl := hM.lt
      obtain ⟨w6, hw6⟩ : ∃ y, y = w5.alloc (.cells #[.slice (some ⟨g, 0, none⟩) x.length x.length] 25) := ⟨_, rfl⟩
      have hf56 : Frm [] w5 w6 := by rw [hw6]; exact (Frm.refl [] w5).alloc _
      have hlen : x.length ≤ 140737488355328 := by omega
      have HROWS : Hid (∀ row ∈ x, row.length ≤ 140737488355328) := Lib.hid (fun row hr => by have := hfew.2 row hr; omega)
      have HM := Lib.hid (hM.frm hf56 (by simp))
      have HT6 := Lib.hid (hT5.nil hf56)
      have HF6 := Lib.hid ((HF.out.trans hf5 (by simp)).trans hf56 (by simp))
      have C6 : Hid (w6.cell? ⟨w5.heap.size, 0, none⟩ = some (.slice (some ⟨g, 0, none⟩) x.length x.length)) := Lib.hid (by rw [hw6]; exact (box1 w5 (.slice (some ⟨g, 0, none⟩) x.length x.length) 25).cell (i := 0) rfl)
      have i6 : (x.length : Int) ≤ 1000 := by omega
      have hsz6 : w6.heap.size = w5.heap.size + 1 := by rw [hw6]; simp only [World.alloc, Array.size_push]
      have HD6 : Hid (Frm [w.heap.size + 1] w6 w6.drew) := Lib.hid (((Frm.refl [] w6).drew).mono (by simp))
      have HW6 := Lib.hid hw6
      clear hM hS hT5 hf5 hfew hf56 hw6
      go_wp2_with fail
      rw [← HW6.out]
      go_region_held3 (fun w' => w'.cell? ⟨w5.heap.size, 0, none⟩ = some (.slice (some ⟨g, 0, none⟩) x.length x.length)) (first | exact hf10.cell C6.out (by simp; omega) | exact hf9.cell C6.out (by simp; omega) | exact hf8.cell C6.out (by simp; omega) | exact hf7.cell C6.out (by simp; omega) | exact HD6.out.cell C6.out (by simp; omega)) (first | (go_at_call 24; (with_reducible refine (lassos_any w9.heap.size (some ⟨g, 0, none⟩) x.length x s w9 ((HM.out.frm hf9 (by simp; omega)).lat hlen HROWS.out)).mono ?_); rintro e10 w10 ⟨rfl, hf100⟩; have hf10 := hf9.trans hf100 (by simp); have hn10 := hn9.trans hf100 (by simp)) | (go_at_call 24; (with_reducible refine (lassos_any w8.heap.size (some ⟨g, 0, none⟩) x.length x 0 w8 ((HM.out.frm hf8 (by simp; omega)).lat hlen HROWS.out)).mono ?_); rintro e9 w9 ⟨rfl, hf90⟩; have hf9 := hf8.trans hf90 (by simp); have hn9 := hn8.trans hf90 (by simp)) | (go_at_call 24; (with_reducible refine (lassos_any w7.heap.size (some ⟨g, 0, none⟩) x.length x v7 w7 ((HM.out.frm hf7 (by simp; omega)).lat hlen HROWS.out)).mono ?_); rintro e8 w8 ⟨rfl, hf80⟩; have hf8 := hf7.trans hf80 (by simp); have hn8 := hn7.trans hf80 (by simp)) | (go_at_call 25; (with_reducible refine (next_any w.heap.size (w.heap.size + 1) (3000 * j + 2000) (x.length : Int) w6.drew (HT6.out.nil ((Frm.refl [] w6).drew)) (by omega) (by omega) (by omega)).mono ?_); rintro e7 w7 ⟨⟨v7, rfl, -, -⟩, hT7, hf70⟩; have hf7 := HD6.out.trans hf70 (by simp); have hn7 := Frm.refl [] w7))
      have HT10 := Lib.hid (hT7.nil hn10)
      have HF10 := Lib.hid (HF6.out.trans hf10 (by simp))
      clear hf10 hT7
      go_wp2_with fail
      go_roundg (4 - (j + 1))
      case rel => exact ⟨j + 1, rfl, hj5, by go_num, HT10.out.mono (by omega), HF10.out⟩
      case measure => omega
    · have i5 : ¬ (j : Int) < 4 := by omega
      have cb := (HB.out.frm HFW.out (by simp)).cell (i := 0) rfl
      have HLR := Lib.hid (HL0.out.frm HFW.out (by simp))
      have CB := Lib.hid cb
      have HFIN : Hid (Frm [] w wr) := Lib.hid (f0.trans HFW.out (by simp))
      clear hj5
      go_wp2_with fail
      refine (huge_any w.heap.size a cap l wr HLR.out).mono ?_
      rintro e3 w3 ⟨h3, hf3⟩
      obtain ⟨b, rfl, -⟩ := h3
      have HF3 := Lib.hid hf3
      have cb3 := hf3.cell CB.out (by simp)
      have HL3 := Lib.hid (HLR.out.nil hf3 rfl)
      have hsz3 := (HFIN.out.trans hf3 (by simp)).size
      clear hf3 cb
      cases b with
      | true =>
        go_wp2_with fail
        go_ret
        exact ⟨rfl, HFIN.out.trans HF3.out (by simp)⟩
      | false =>
        go_wp2_with fail
        refine (lassos_any w.heap.size a cap l s w3 HL3.out).mono ?_
        rintro e4 w4 ⟨rfl, hf4⟩
        have HF4 := Lib.hid hf4
        clear hf4 cb3
        go_wp2_with fail
        refine (sane_any w4).mono ?_
        rintro e5 w5 ⟨rfl, hf5⟩
        have HF5 := Lib.hid hf5
        clear hf5
        go_wp2_with fail
        go_ret
        exact ⟨rfl, ((HFIN.out.trans HF3.out (by simp)).trans HF4.out (by simp)).trans HF5.out (by simp)⟩

end Go.Proofs.Ytknfdpkfomlckaa
