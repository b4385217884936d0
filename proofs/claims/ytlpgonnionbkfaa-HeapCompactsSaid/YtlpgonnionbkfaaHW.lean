/- Contracts of the law's small functions. -/
import Derived.Test.YtlpgonnionbkfaaHV
import Derived.Test.YtlpgonnionbkfaaX3
namespace Go.Proofs.Ytlpgonnionbkfaa
open Go.RowKit

set_option linter.unusedSimpArgs false in
theorem mod_any (a : Int) (n : Nat) (w : World) (h0 : 0 < n) (h1 : n ≤ 100000) :
    Calls Try.prog 18 #[.int .i64 a, .int .i64 n] w fun e w' => ∃ m : Nat, e = .returned (.int .i64 m) ∧ m < n ∧ w = w' := by
  have i0 : (0 : Int) < (n : Int) := by omega
  have i1 : (n : Int) ≤ 100000 := by omega
  go_enter Try.func18, Try.ntmps18
  go_wp2
  go_ret
  have hu := IntKind.wrap_u64 a
  have hu0 : 0 ≤ IntKind.u64.wrap a := by rw [hu]; omega
  have h2 := Int.tmod_nonneg (n : Int) hu0
  have h3 := Int.tmod_lt_of_pos (IntKind.u64.wrap a) i0
  refine ⟨((IntKind.u64.wrap a).tmod n).toNat, ?_, by omega, rfl⟩
  show Ending.returned (.int .i64 (wrap64 ((IntKind.u64.wrap a).tmod n))) = _
  rw [IntWalk.wrap64_in _ (by omega), Int.toNat_of_nonneg h2]

theorem same_any {w : World} (c : HC) (a1 a2 : Option Addr) (c1 c2 : Nat) (h1 : IntsAt w (.slice a1 c.refs.length c1) c.refs) (h2 : IntsAt w (.slice a2 c.refs.length c2) c.refs) :
    Calls Try.prog 34 #[.agg #[.int .i64 c.kind, .int .i64 c.num, .slice a1 c.refs.length c1], .agg #[.int .i64 c.kind, .int .i64 c.num, .slice a2 c.refs.length c2]] w fun e w' => e = .returned (.bool true) ∧ Frm [] w w' := by
  obtain ⟨kd, nm, rf⟩ := c
  simp only at h1 h2 ⊢
  have f0 : Frm [] w ((w.alloc (.cells #[.int .i64 kd, .int .i64 nm, .slice a1 rf.length c1] 32)).alloc (.cells #[.int .i64 kd, .int .i64 nm, .slice a2 rf.length c2] 32)) := ((Frm.refl [] w).alloc _).alloc _
  have he := equal_any _ _ _ _ _ (h1.frm f0 (by simp)) (h2.frm f0 (by simp))
  have HF0 := Lib.hid f0
  clear h1 h2 f0
  go_enter Try.func34, Try.ntmps34
  go_wp2_with fail
  refine he.mono ?_
  rintro e w1 ⟨rfl, n, rfl⟩
  clear he
  go_wp2_with fail
  go_ret
  exact ⟨rfl, HF0.out.drewN n⟩

end Go.Proofs.Ytlpgonnionbkfaa
