/- Contract of accepts of the law: it answers true. -/
import Derived.Test.YtknfdpkfomlckaaAE
import Derived.Test.YtknfdpkfomlckaaA6
namespace Go.Proofs.Ytknfdpkfomlckaa
open Go.RowKit

theorem gacc_as (B : Nat) (a : Option Addr) (cap : Nat) (l : Lts) (s : Int) (xs : List Int) (b : Bool) (hA : accG l s = (xs, b)) (w : World) (h : LAt B w a cap l) :
    Calls Try.prog 30 #[.agg #[.slice a l.length cap], .int .i64 s] w fun e w' => ∃ a' cp, e = .returned (.tuple #[.slice a' xs.length cp, .bool b]) ∧ OwnI w.heap.size w' a' cp xs ∧ Frm [] w w' := by
  have := gacc_any B a cap l s w h
  rw [hA] at this
  exact this
theorem racc_as (B : Nat) (a : Option Addr) (cap : Nat) (l : Lts) (s : Int) (xs : List Int) (b : Bool) (hA : accG l s = (xs, b)) (w : World) (h : LAt B w a cap l) :
    Calls Try.prog 52 #[.agg #[.slice a l.length cap], .int .i64 s] w fun e w' => ∃ a' cp, e = .returned (.tuple #[.slice a' xs.length cp, .bool b]) ∧ OwnI w.heap.size w' a' cp xs ∧ Frm [] w w' := by
  have := racc_any B a cap l s w h
  rw [← accG_eq, hA] at this
  exact this
theorem ginit_as (B : Nat) (a : Option Addr) (cap : Nat) (l : Lts) (s : Int) (xs : List Int) (hA : initG l s = xs) (w : World) (h : LAt B w a cap l) :
    Calls Try.prog 53 #[.agg #[.slice a l.length cap], .int .i64 s] w fun e w' => ∃ a' cp, e = .returned (.slice a' xs.length cp) ∧ OwnI w.heap.size w' a' cp xs ∧ Frm [] w w' := by
  have := ginitials_any B a cap l s w h
  rw [hA] at this
  exact this
theorem rinit_as (B : Nat) (a : Option Addr) (cap : Nat) (l : Lts) (s : Int) (xs : List Int) (hA : initG l s = xs) (w : World) (h : LAt B w a cap l) :
    Calls Try.prog 54 #[.agg #[.slice a l.length cap], .int .i64 s] w fun e w' => ∃ a' cp, e = .returned (.slice a' xs.length cp) ∧ OwnI w.heap.size w' a' cp xs ∧ Frm [] w w' := by
  have := rinitials_any B a cap l s w h
  rw [← initG_eq, hA] at this
  exact this
theorem gst_as (B : Nat) (a : Option Addr) (cap : Nat) (l : Lts) (s : Int) (b : Bool) (hA : stableG l s = b) (w : World) (h : LAt B w a cap l) :
    Calls Try.prog 55 #[.agg #[.slice a l.length cap], .int .i64 s] w fun e w' => e = .returned (.bool b) ∧ Frm [] w w' := by
  have := gstable_any B a cap l s w h
  rw [hA] at this
  exact this
theorem rst_as (B : Nat) (a : Option Addr) (cap : Nat) (l : Lts) (s : Int) (b : Bool) (hA : stableG l s = b) (w : World) (h : LAt B w a cap l) :
    Calls Try.prog 56 #[.agg #[.slice a l.length cap], .int .i64 s] w fun e w' => e = .returned (.bool b) ∧ Frm [] w w' := by
  have := rstable_any B a cap l s w h
  rw [← stableG_eq, hA] at this
  exact this
theorem ints_eq (B : Nat) (a b : Option Addr) (ca cb : Nat) (xs : List Int) (w : World) (h1 : Rd B w a xs.length ca 1 (ints xs)) (h2 : Rd B w b xs.length cb 1 (ints xs)) :
    Calls Try.prog 15 #[.slice a xs.length ca, .slice b xs.length cb] w fun e w' => e = .returned (.bool true) ∧ Frm [] w w' := by
  have := ints_same B a b ca cb xs xs w h1 h2
  rw [decide_eq_true (rfl : xs = xs)] at this
  exact this

set_option linter.unusedSimpArgs false in
set_option maxRecDepth 100000 in
set_option maxHeartbeats 4000000 in
theorem accepts_any (B0 : Nat) (a : Option Addr) (cap : Nat) (l : Lts) (s : Int) (w : World) (h : LAt B0 w a cap l) :
    Calls Try.prog 28 #[.agg #[.slice a l.length cap], .int .i64 s] w fun e w' => e = .returned (.bool true) ∧ Frm [] w w' := by
  have f0 : Frm [] w (w.alloc (.cells #[.slice a l.length cap] 25)) := (Frm.refl [] w).alloc _
  have hcut0 := h.cut
  clear h
  have h := hcut0
  clear hcut0
  have hbox := box1 w (.slice a l.length cap) 25
  have HB := Lib.hid hbox
  obtain ⟨xs, b, hA⟩ : ∃ xs b, accG l s = (xs, b) := ⟨_, _, rfl⟩
  obtain ⟨is, hI⟩ : ∃ xs, initG l s = xs := ⟨_, rfl⟩
  obtain ⟨st, hS⟩ : ∃ b, stableG l s = b := ⟨_, rfl⟩
  have hac := gacc_as w.heap.size a cap l s xs b hA _ (h.nil f0 rfl)
  have HL0 := Lib.hid (h.nil f0 rfl)
  have HA := Lib.hid hA
  have HI := Lib.hid hI
  have HS := Lib.hid hS
  have hbb : (b == b) = true := by simp
  have hss : (st == st) = true := by simp
  clear h hA hI hS hbox
  go_enter Try.func28, Try.ntmps28
  go_wp2_with fail
  refine hac.mono ?_
  rintro e1 w1 ⟨a1, c1, rfl, h1, hf1⟩
  have hrc := racc_as w.heap.size a cap l s xs b HA.out w1 (HL0.out.nil hf1 rfl)
  have hb1 := (HB.out.frm hf1 (by simp)).cell (i := 0) rfl
  have HF1 := Lib.hid hf1
  have H1 := Lib.hid h1
  clear hac hf1 h1
  go_wp2_with fail
  refine hrc.mono ?_
  rintro e2 w2 ⟨a2, c2, rfl, h2, hf2⟩
  have HF2 := Lib.hid (HF1.out.trans hf2 (by simp))
  have C2 := Lib.hid ((HB.out.frm HF2.out (by simp)).cell (i := 0) rfl)
  have HL2 := Lib.hid (HL0.out.nil HF2.out rfl)
  have H12 := Lib.hid (OwnI.frmO H1.out hf2)
  have H2 := Lib.hid h2
  clear hrc hb1 hf2 h2
  go_wp2_with fail
  go_region_held3 (fun w' => w'.cell? ⟨w.heap.size, 0, none⟩ = some (.slice a l.length cap)) (first | exact C2.out | exact hf8.cell C2.out (by simp) | exact hf7.cell C2.out (by simp) | exact hf6.cell C2.out (by simp) | exact hf5.cell C2.out (by simp) | exact hf4.cell C2.out (by simp) | exact hf3.cell C2.out (by simp)) (first | (go_at_call 53; (with_reducible refine (ginit_as w.heap.size a cap l s is HI.out _ (HL2.out.nil hf3 rfl)).mono ?_); rintro e4 w4 ⟨a4, c4, rfl, h4, hf40⟩; have hf4 := hf3.trans hf40 (by simp)) | (go_at_call 54; (with_reducible refine (rinit_as w.heap.size a cap l s is HI.out _ (HL2.out.nil hf4 rfl)).mono ?_); rintro e5 w5 ⟨a5, c5, rfl, h5, hf50⟩; have hf5 := hf4.trans hf50 (by simp)) | (go_at_call 55; (with_reducible refine (gst_as w.heap.size a cap l s st HS.out _ (HL2.out.nil hf6 rfl)).mono ?_); rintro e7 w7 ⟨rfl, hf70⟩; have hf7 := hf6.trans hf70 (by simp)) | (go_at_call 56; (with_reducible refine (rst_as w.heap.size a cap l s st HS.out _ (HL2.out.nil hf7 rfl)).mono ?_); rintro e8 w8 ⟨rfl, hf80⟩; have hf8 := hf7.trans hf80 (by simp)) | (go_at_call 15; (with_reducible refine (ints_eq w5.heap.size a4 a5 c4 c5 is w5 (OwnI.rd (OwnI.frmO h4 hf50) (Nat.le_refl _)) (OwnI.rd h5 (Nat.le_refl _))).mono ?_); rintro e6 w6 ⟨rfl, hf60⟩; have hf6 := hf5.trans hf60 (by simp)) | (go_at_call 15; (with_reducible refine (ints_eq w2.drew.heap.size a1 a2 c1 c2 xs w2.drew (OwnI.rd (OwnI.frmO H12.out ((Frm.refl [] w2).drew)) (Nat.le_refl _)) (OwnI.rd (OwnI.frmO H2.out ((Frm.refl [] w2).drew)) (Nat.le_refl _))).mono ?_); rintro e3 w3 ⟨rfl, hf30⟩; have hf3 := ((Frm.refl [] w2).drew).trans hf30 (by simp)))
  have HF8 := Lib.hid ((f0.trans HF2.out (by simp)).trans hf8 (by simp))
  go_wp2_with fail
  go_ret
  exact ⟨rfl, HF8.out⟩

end Go.Proofs.Ytknfdpkfomlckaa
