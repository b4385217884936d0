/- Contract of reaches of the law: it answers true. -/
import Derived.Test.YtknfdpkfomlckaaB4
import Derived.Test.YtknfdpkfomlckaaAE
namespace Go.Proofs.Ytknfdpkfomlckaa
open Go.RowKit

def ReachC (l : Lts) (fs : List Int) : Prop := validB l = true ∧ fs.all (inB l.length) = true
structure ReachU (l : Lts) (fs : List Int) (silent : Bool) (n : Nat) (xs : List Int) : Prop where
  yes : ReachC l fs → ∃ vs, xs = natI vs ∧ n = vs.length ∧ IsReach (Esel l silent) (fs.map Int.toNat) vs
  no : ¬ ReachC l fs → n = 0 ∧ xs = []
theorem ReachU.unique {l : Lts} {fs : List Int} {silent : Bool} {n m : Nat} {xs ys : List Int} (h : ReachU l fs silent n xs) (k : ReachU l fs silent m ys) : n = m ∧ xs = ys := by
  by_cases hc : ReachC l fs
  · obtain ⟨vs, h1, h2, h3⟩ := h.yes hc
    obtain ⟨us, k1, k2, k3⟩ := k.yes hc
    obtain rfl := h3.unique k3
    exact ⟨by omega, by rw [h1, k1]⟩
  · obtain ⟨h1, h2⟩ := h.no hc
    obtain ⟨k1, k2⟩ := k.no hc
    exact ⟨by omega, by rw [h2, k2]⟩
def ReachX (B : Nat) (l : Lts) (fs : List Int) (silent : Bool) (w' : World) (e : Ending) : Prop :=
  ∃ (a : Option Addr) (c n : Nat) (xs : List Int), e = .returned (.slice a n c) ∧ w'.ownsRow B 3 1 (.slice a n c) n (ints xs) ∧ ReachU l fs silent n xs
theorem ReachEnd.x {B : Nat} {l : Lts} {fs : List Int} {silent : Bool} {w' : World} {e : Ending} (h : ReachEnd B l fs silent w' e) : ReachX B l fs silent w' e := by
  unfold ReachEnd at h
  split at h
  · rename_i hv
    obtain ⟨a, c, vs, he, hown, hc⟩ := h
    exact ⟨a, c, vs.length, natI vs, he, hown, ⟨fun _ => ⟨vs, rfl, rfl, hc⟩, fun h9 => absurd hv h9⟩⟩
  · rename_i hv
    exact ⟨none, 0, 0, [], h, World.ownsRow_nil _ _ _ _, ⟨fun h9 => absurd h9 hv, fun _ => ⟨rfl, rfl⟩⟩⟩
theorem greach_x (B0 : Nat) (a : Option Addr) (cap : Nat) (l : Lts) (fa : Option Addr) (fc n : Nat) (fs : List Int) (hn : fs.length = n) (silent : Bool) (w : World) (h : LAt B0 w a cap l) (hfr0 : Rd w.heap.size w fa n fc 1 (ints fs)) :
    Calls Try.prog 57 #[.agg #[.slice a l.length cap], .slice fa n fc, .bool silent] w fun e w' => ReachX w.heap.size l fs silent w' e ∧ Frm [] w w' := by
  subst hn
  exact (greach_any B0 a cap l fa fc fs silent w h hfr0).mono fun _ _ h => ⟨h.1.x, h.2⟩
theorem rreach_x (B0 : Nat) (a : Option Addr) (cap : Nat) (l : Lts) (fa : Option Addr) (fc n : Nat) (fs : List Int) (hn : fs.length = n) (silent : Bool) (w : World) (h : LAt B0 w a cap l) (hfr0 : Rd w.heap.size w fa n fc 1 (ints fs)) (hnil : fa = none → fc = 0) (hfl : n ≤ 100000) :
    Calls Try.prog 43 #[.agg #[.slice a l.length cap], .slice fa n fc, .bool silent] w fun e w' => ReachX w.heap.size l fs silent w' e ∧ Frm [] w w' := by
  subst hn
  exact (rreach_any B0 a cap l fa fc fs silent w h hfr0 hnil hfl).mono fun _ _ h => ⟨h.1.x, h.2⟩
/-- Two rows of the same integers. -/
theorem ints_nn (w w0 : World) (a b : Option Addr) (ca cb n : Nat) (xs : List Int) {B B' : Nat} (h1 : w0.ownsRow B 3 1 (.slice a n ca) n (ints xs)) (h2 : w.ownsRow B' 3 1 (.slice b n cb) n (ints xs)) (hf : Frm [] w0 w) :
    Calls Try.prog 15 #[.slice a n ca, .slice b n cb] w fun e w' => e = .returned (.bool true) ∧ Frm [] w w' := by
  have hn : n = xs.length := by have := h1.1; rw [ints_len] at this; omega
  subst hn
  have := ints_same w.heap.size a b ca cb xs xs w (rd_of_owns (ownsB_frm h1 hf (by simp)) (Nat.le_refl _)) (rd_of_owns h2 (Nat.le_refl _))
  rw [decide_eq_true (rfl : xs = xs)] at this
  exact this

set_option linter.unusedSimpArgs false in
set_option maxRecDepth 100000 in
set_option maxHeartbeats 4000000 in
theorem reaches_any (B0 : Nat) (a : Option Addr) (cap : Nat) (l : Lts) (fa : Option Addr) (fc n : Nat) (fs : List Int) (hn : fs.length = n) (silent : Bool) (w : World) (h : LAt B0 w a cap l) (hfr0 : Rd w.heap.size w fa n fc 1 (ints fs)) (hnil : fa = none → fc = 0) (hfl : n ≤ 100000) :
    Calls Try.prog 29 #[.agg #[.slice a l.length cap], .slice fa n fc, .bool silent] w fun e w' => e = .returned (.bool true) ∧ Frm [] w w' := by
  have f0 : Frm [] w (w.alloc (.cells #[.slice a l.length cap] 25)) := (Frm.refl [] w).alloc _
  have hcut0 := h.cut
  clear h
  have h := hcut0
  clear hcut0
  have C0 := Lib.hid ((box1 w (.slice a l.length cap) 25).cell (i := 0) rfl)
  have HL0 := Lib.hid (h.nil f0 rfl)
  have HR0 := Lib.hid (hfr0.frm f0 (by simp))
  have HNIL := Lib.hid hnil
  have HN := Lib.hid hn
  clear h hfr0 hnil hn
  go_enter Try.func29, Try.ntmps29
  go_wp2_with fail
  obtain ⟨w0, hw0⟩ : ∃ x, x = w.alloc (.cells #[.slice a l.length cap] 25) := ⟨_, rfl⟩
  rw [← hw0] at HL0 C0 f0 HR0 ⊢
  have hsz0 := f0.size
  have HF0 := Lib.hid f0
  have HRD : Hid (Rd w0.drew.heap.size w0.drew fa n fc 1 (ints fs)) := Lib.hid ((HR0.out.frm ((Frm.refl [] w0).drew) (by simp)).mono hsz0)
  clear hw0 f0
  go_region_held3 (fun w' => w'.cell? ⟨w.heap.size, 0, none⟩ = some (.slice a l.length cap)) (first | exact C0.out | exact hf5.cell C0.out (by simp) | exact hf4.cell C0.out (by simp) | exact hf3.cell C0.out (by simp)) (first | (go_at_call 57; (with_reducible refine (greach_x w.heap.size a cap l fa fc n fs HN.out silent w0.drew (HL0.out.nil ((Frm.refl [] w0).drew) rfl) HRD.out).mono ?_); rintro e3 w3 ⟨h3, hf30⟩; obtain ⟨a3, c3, n3, x3, rfl, hown3, hu3⟩ := h3; have hf3 := ((Frm.refl [] w0).drew).trans hf30 (by simp); have hsz3 := hf3.size) | (go_at_call 43; (with_reducible refine (rreach_x w.heap.size a cap l fa fc n fs HN.out silent w3 (HL0.out.nil hf3 rfl) ((HR0.out.frm hf3 (by simp)).mono (Nat.le_trans hsz0 hsz3)) HNIL.out hfl).mono ?_); rintro e4 w4 ⟨h4, hf40⟩; obtain ⟨a4, c4, n4, x4, rfl, hown4, hu4⟩ := h4; obtain ⟨rfl, rfl⟩ := hu4.unique hu3; have hf4 := hf3.trans hf40 (by simp)) | (go_at_call 15; (with_reducible refine (ints_nn w4 w3 a3 a4 c3 c4 n4 x4 hown3 hown4 hf40).mono ?_); rintro e5 w5 ⟨rfl, hf50⟩; have hf5 := hf4.trans hf50 (by simp)))
  have HF5 := Lib.hid (HF0.out.trans hf5 (by simp))
  go_wp2_with fail
  go_ret
  exact ⟨rfl, HF5.out⟩

theorem rd_one (w : World) (g n : Nat) (v : Int) (hn : 1 ≤ n) (hm : n ≤ 1000) (h0 : w.cell? ⟨g, 0, none⟩ = some (.int .i64 v)) : Rd w.heap.size w (some ⟨g, 0, none⟩) 1 n 1 (ints [v]) :=
  ⟨rfl, hn, by unfold maxLen; omega, fun i u hu => by
    cases i with
    | zero =>
      simp [ints] at hu
      subst hu
      exact ⟨g, 0, rfl, World.block_lt_of_cell? _ _ h0, h0⟩
    | succ i => simp [ints] at hu⟩
theorem rd_two (w : World) (g n : Nat) (v u : Int) (hn : 2 ≤ n) (hm : n ≤ 1000) (h0 : w.cell? ⟨g, 0, none⟩ = some (.int .i64 v)) (h1 : w.cell? ⟨g, 1, none⟩ = some (.int .i64 u)) : Rd w.heap.size w (some ⟨g, 0, none⟩) 2 n 1 (ints [v, u]) :=
  ⟨rfl, hn, by unfold maxLen; omega, fun i x hx => by
    rcases i with _ | _ | i
    · simp [ints] at hx
      subst hx
      exact ⟨g, 0, rfl, World.block_lt_of_cell? _ _ h0, h0⟩
    · simp [ints] at hx
      subst hx
      exact ⟨g, 0, rfl, World.block_lt_of_cell? _ _ h1, h1⟩
    · simp [ints] at hx⟩
theorem rd_nil (w : World) : Rd w.heap.size w none 0 0 1 (ints []) := ⟨rfl, Nat.le_refl _, Nat.zero_le _, fun i u hu => by simp [ints] at hu⟩

end Go.Proofs.Ytknfdpkfomlckaa
