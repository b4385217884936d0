/- The reference's disk: contract of missing. -/
import Derived.Test.YtkebdgbjgbcneaaE3
namespace Go.Proofs.Ytkebdgbjgbcneaa
open Go.RowKit Go.Maps Go.Shelf

set_option linter.unusedSimpArgs false in
set_option maxRecDepth 100000 in
set_option maxHeartbeats 1000000 in
theorem rmiss_any {w : World} {d : Nat} {x1 dv x3 x4 : Value} {F : List Nat} {m : DM} (h : RowAt w d 77 (rhdC m x1 dv x3 x4)) (hd : RowV w F dv m.dir.length 2 (dirC m.dir)) (s : Nm) (hs : s.length ≤ maxLen) :
    Calls Try.prog 60 #[.pointer (some ⟨d, 0, none⟩), str s] w fun e w' => e = .returned (.int .i64 (missM m s)) ∧ Frm [] w w' := by
  have c6 := h.cell (i := 6) rfl
  have c2 := h.cell (i := 2) rfl
  have hg := rgood_any s w hs
  have hf := rfind_any hd s
  cases hoff : m.off
  · rw [hoff] at c6
    cases hgo : goodN s
    · rw [hgo] at hg
      have hE : missM m s = 1 := by simp [missM, hoff, hgo]
      rw [hE]
      clear h hd hf hoff hgo hE
      go_enter Try.func60, Try.ntmps60
      go_wp2_with fail
      refine hg.mono ?_
      rintro e1 w1 ⟨rfl, rfl⟩
      go_wp2_with fail
      go_ret
      exact ⟨rfl, Frm.refl _ _⟩
    · rw [hgo] at hg
      cases hfd : findD m.dir s with
      | none =>
        rw [findI, hfd] at hf
        have hf' : Calls Try.prog 56 #[dv, str s] w fun e w' => e = .returned (.int .i64 (-1)) ∧ Frm [] w w' := hf
        have hE : missM m s = 21 := by simp [missM, hoff, hgo, hfd]
        rw [hE]
        clear h hd hf hoff hgo hE hfd
        go_enter Try.func60, Try.ntmps60
        go_wp2_with fail
        refine hg.mono ?_
        rintro e1 w1 ⟨rfl, rfl⟩
        go_wp2_with fail
        refine hf'.mono ?_
        rintro e2 w2 ⟨rfl, hf2⟩
        go_wp2_with fail
        go_ret
        exact ⟨rfl, hf2⟩
      | some i =>
        rw [findI, hfd] at hf
        have hf' : Calls Try.prog 56 #[dv, str s] w fun e w' => e = .returned (.int .i64 (i : Int)) ∧ Frm [] w w' := hf
        have hE : missM m s = 0 := by simp [missM, hoff, hgo, hfd]
        have i0 : ¬ (i : Int) < 0 := by omega
        rw [hE]
        clear h hd hf hoff hgo hE hfd
        go_enter Try.func60, Try.ntmps60
        go_wp2_with fail
        refine hg.mono ?_
        rintro e1 w1 ⟨rfl, rfl⟩
        go_wp2_with fail
        refine hf'.mono ?_
        rintro e2 w2 ⟨rfl, hf2⟩
        go_wp2_with fail
        go_ret
        exact ⟨rfl, hf2⟩
  · rw [hoff] at c6
    have hE : missM m s = 25 := by simp [missM, hoff]
    rw [hE]
    clear h hd hf hg hoff hE
    go_enter Try.func60, Try.ntmps60
    go_wp2_with fail
    go_ret
    exact ⟨rfl, Frm.refl _ _⟩

end Go.Proofs.Ytkebdgbjgbcneaa
