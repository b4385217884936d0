/- Contract of afters of the law: it answers true. -/
import Derived.Test.YtknfdpkfomlckaaC2
namespace Go.Proofs.Ytknfdpkfomlckaa
open Go.RowKit

theorem gaft_x (B0 : Nat) (a : Option Addr) (cap : Nat) (l : Lts) (fa : Option Addr) (fc n : Nat) (fs : List Int) (hn : fs.length = n) (ev : Int) (w : World) (h : LAt B0 w a cap l) (hfr0 : Rd w.heap.size w fa n fc 1 (ints fs)) :
    Calls Try.prog 62 #[.agg #[.slice a l.length cap], .slice fa n fc, .int .i64 ev] w fun e w' => AftX w.heap.size l fs ev w' e ∧ Frm [] w w' := by
  subst hn
  exact gaft_any B0 a cap l fa fc fs ev w h hfr0
theorem raft_x (B0 : Nat) (a : Option Addr) (cap : Nat) (l : Lts) (fa : Option Addr) (fc n : Nat) (fs : List Int) (hn : fs.length = n) (ev : Int) (w : World) (h : LAt B0 w a cap l) (hfr0 : Rd w.heap.size w fa n fc 1 (ints fs)) (hnil : fa = none → fc = 0) (hfl : n ≤ 100000) :
    Calls Try.prog 63 #[.agg #[.slice a l.length cap], .slice fa n fc, .int .i64 ev] w fun e w' => AftX w.heap.size l fs ev w' e ∧ Frm [] w w' := by
  subst hn
  exact raft_any B0 a cap l fa fc fs ev w h hfr0 hnil hfl

set_option linter.unusedSimpArgs false in
set_option maxRecDepth 100000 in
set_option maxHeartbeats 4000000 in
theorem afters_any (B0 : Nat) (a : Option Addr) (cap : Nat) (l : Lts) (fa : Option Addr) (fc n : Nat) (fs : List Int) (hn : fs.length = n) (ev : Int) (w : World) (h : LAt B0 w a cap l) (hfr0 : Rd w.heap.size w fa n fc 1 (ints fs)) (hnil : fa = none → fc = 0) (hfl : n ≤ 100000) :
    Calls Try.prog 34 #[.agg #[.slice a l.length cap], .slice fa n fc, .int .i64 ev] w fun e w' => e = .returned (.bool true) ∧ Frm [] w w' := by
  have f0 : Frm [] w (w.alloc (.cells #[.slice a l.length cap] 25)) := (Frm.refl [] w).alloc _
  have hcut0 := h.cut
  clear h
  have h := hcut0
  clear hcut0
  have C0 := Lib.hid ((box1 w (.slice a l.length cap) 25).cell (i := 0) rfl)
  have HL0 := Lib.hid (h.nil f0 rfl)
  have HR0 := Lib.hid (hfr0.frm f0 (by simp))
  have HNIL := Lib.hid hnil
  have HN := Lib.hid hn
  clear h hfr0 hnil hn
  go_enter Try.func34, Try.ntmps34
  go_wp2_with fail
  obtain ⟨w0, hw0⟩ : ∃ x, x = w.alloc (.cells #[.slice a l.length cap] 25) := ⟨_, rfl⟩
  rw [← hw0] at HL0 C0 f0 HR0 ⊢
  have hsz0 := f0.size
  have HF0 := Lib.hid f0
  have HRD : Hid (Rd w0.drew.heap.size w0.drew fa n fc 1 (ints fs)) := Lib.hid ((HR0.out.frm ((Frm.refl [] w0).drew) (by simp)).mono hsz0)
  clear hw0 f0
  go_region_held3 (fun w' => w'.cell? ⟨w.heap.size, 0, none⟩ = some (.slice a l.length cap)) (first | exact C0.out | exact hf5.cell C0.out (by simp) | exact hf4.cell C0.out (by simp) | exact hf3.cell C0.out (by simp)) (first | (go_at_call 62; (with_reducible refine (gaft_x w.heap.size a cap l fa fc n fs HN.out ev w0.drew (HL0.out.nil ((Frm.refl [] w0).drew) rfl) HRD.out).mono ?_); rintro e3 w3 ⟨h3, hf30⟩; obtain ⟨a3, c3, n3, x3, rfl, hown3, hu3⟩ := h3; have hf3 := ((Frm.refl [] w0).drew).trans hf30 (by simp); have hsz3 := hf3.size) | (go_at_call 63; (with_reducible refine (raft_x w.heap.size a cap l fa fc n fs HN.out ev w3 (HL0.out.nil hf3 rfl) ((HR0.out.frm hf3 (by simp)).mono (Nat.le_trans hsz0 hsz3)) HNIL.out hfl).mono ?_); rintro e4 w4 ⟨h4, hf40⟩; obtain ⟨a4, c4, n4, x4, rfl, hown4, hu4⟩ := h4; obtain ⟨rfl, rfl⟩ := hu4.unique hu3; have hf4 := hf3.trans hf40 (by simp)) | (go_at_call 15; (with_reducible refine (ints_nn w4 w3 a3 a4 c3 c4 n4 x4 hown3 hown4 hf40).mono ?_); rintro e5 w5 ⟨rfl, hf50⟩; have hf5 := hf4.trans hf50 (by simp)))
  have HF5 := Lib.hid (HF0.out.trans hf5 (by simp))
  go_wp2_with fail
  go_ret
  exact ⟨rfl, HF5.out⟩

end Go.Proofs.Ytknfdpkfomlckaa
