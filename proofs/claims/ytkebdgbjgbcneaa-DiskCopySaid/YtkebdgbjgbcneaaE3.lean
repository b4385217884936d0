/- The reference's disk: contracts of good and write. -/
import Derived.Test.YtkebdgbjgbcneaaE2
namespace Go.Proofs.Ytkebdgbjgbcneaa
open Go.RowKit Go.Maps Go.Shelf

/-- The head of the reference's disk. -/
def rhdC (m : DM) (x1 x2 x3 x4 : Value) : List Value := [.int .i64 (m.cap : Int), x1, x2, x3, x4, .int .i64 (m.armed : Int), .bool m.off, .int .i64 m.count]

set_option linter.unusedSimpArgs false in
theorem rgood_any (s : Nm) (w : World) (hs : s.length ≤ maxLen) : Calls Try.prog 57 #[str s] w fun e w' => e = .returned (.bool (goodN s)) ∧ w' = w := by
  have hsz : (⟨s.toArray⟩ : ByteArray).size = s.length := rfl
  have h1 : (s.length : Int) ≤ 9223372036854775807 := by unfold maxLen at hs; omega
  by_cases a : 1 ≤ s.length
  · have h2 : (1 : Int) ≤ (s.length : Int) := by omega
    by_cases b : s.length ≤ 32
    · have h3 : (s.length : Int) ≤ 32 := by omega
      have hg : goodN s = true := by simp [goodN]; omega
      rw [hg]
      clear a b hg hs
      go_enter Try.func57, Try.ntmps57
      go_wp2_with fail
      go_ret
      exact ⟨rfl, rfl⟩
    · have h3 : ¬ (s.length : Int) ≤ 32 := by omega
      have hg : goodN s = false := by simp [goodN]; omega
      rw [hg]
      clear a b hg hs
      go_enter Try.func57, Try.ntmps57
      go_wp2_with fail
      go_ret
      exact ⟨rfl, rfl⟩
  · have h2 : ¬ (1 : Int) ≤ (s.length : Int) := by omega
    have hg : goodN s = false := by simp [goodN]; omega
    rw [hg]
    clear a hg hs
    go_enter Try.func57, Try.ntmps57
    go_wp2_with fail
    go_ret
    exact ⟨rfl, rfl⟩

set_option linter.unusedSimpArgs false in
theorem rwrite_any {w : World} {d : Nat} {x1 x2 x3 x4 : Value} {m : DM} (h : RowAt w d 77 (rhdC m x1 x2 x3 x4)) (ha : (m.armed : Int) ≤ 9223372036854775807) :
    Calls Try.prog 58 #[.pointer (some ⟨d, 0, none⟩)] w fun e w' => e = .returned (.bool (writeM m).off) ∧ RowAt w' d 77 (rhdC (writeM m) x1 x2 x3 x4) ∧ Frm [d] w w' := by
  have c4 := h.cell (i := 7) rfl
  have c5 := h.cell (i := 5) rfl
  have c6 := h.cell (i := 6) rfl
  have z4 := h.frozen 7
  have z5 := h.frozen 5
  have z6 := h.frozen 6
  have hc := h.setCell 7 (.int .i64 (wrap64 (m.count + 1)))
  by_cases h0 : 0 < m.armed
  · have i1 : (0 : Int) < (m.armed : Int) := by omega
    obtain ⟨k, hk⟩ : ∃ k, m.armed = k + 1 := ⟨m.armed - 1, by omega⟩
    have iw : IntKind.i64.wrap ((m.armed : Int) - 1) = (k : Int) := by rw [IntWalk.i64_in _ (by omega)]; omega
    have i2 : (0 : Int) ≤ (k : Int) := by omega
    have hw : writeM m = { m with count := wrap64 (m.count + 1), armed := k, off := decide (k = 0) } := by
      rw [writeM, if_pos h0, hk]; rfl
    rw [hw]
    have HC := Lib.hid hc
    have HK := Lib.hid hk
    rcases Nat.eq_zero_or_pos k with hz | hz
    · have hb : ((k : Int) == 0) = true := by simp [hz]
      have hd : decide (k = 0) = true := by simp [hz]
      have HD := Lib.hid hd
      clear h h0 hk hc hw hd hz
      go_enter Try.func58, Try.ntmps58
      go_wp2_with fail
      go_ret
      have H5 := HC.out.setCell 5 (.int .i64 (k : Int))
      have H6 := H5.setCell 6 (.bool true)
      refine ⟨by rw [HD.out]; rfl, by rw [HD.out]; exact H6, ?_⟩
      exact (((Frm.refl [d] w).setCell (p := ⟨d, 7, none⟩) (.inl (by simp)) _).setCell (p := ⟨d, 5, none⟩) (.inl (by simp)) _).setCell (p := ⟨d, 6, none⟩) (.inl (by simp)) _
    · have hb : ((k : Int) == 0) = false := beq_eq_false_iff_ne.2 (by omega)
      have hd : decide (k = 0) = false := by simp; omega
      have HD := Lib.hid hd
      clear h h0 hk hc hw hd hz
      go_enter Try.func58, Try.ntmps58
      go_wp2_with fail
      go_ret
      have H5 := HC.out.setCell 5 (.int .i64 (k : Int))
      have H6 := H5.setCell 6 (.bool false)
      refine ⟨by rw [HD.out]; rfl, by rw [HD.out]; exact H6, ?_⟩
      exact (((Frm.refl [d] w).setCell (p := ⟨d, 7, none⟩) (.inl (by simp)) _).setCell (p := ⟨d, 5, none⟩) (.inl (by simp)) _).setCell (p := ⟨d, 6, none⟩) (.inl (by simp)) _
  · have hz : m.armed = 0 := by omega
    have i1 : ¬ (0 : Int) < (m.armed : Int) := by omega
    have hw : writeM m = { m with count := wrap64 (m.count + 1) } := by rw [writeM, if_neg h0]
    rw [hw]
    have HC := Lib.hid hc
    clear h h0 hz hc hw
    go_enter Try.func58, Try.ntmps58
    go_wp2_with fail
    go_ret
    exact ⟨rfl, HC.out, (Frm.refl [d] w).setCell (p := ⟨d, 7, none⟩) (.inl (by simp)) _⟩

end Go.Proofs.Ytkebdgbjgbcneaa
