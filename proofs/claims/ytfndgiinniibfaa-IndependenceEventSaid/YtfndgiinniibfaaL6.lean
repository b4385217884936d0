/- Contract of the closure of Event: an arc of the row is the arc asked for. -/
import Derived.Test.YtfndgiinniibfaaL0
namespace Go.Proofs.Ytfndgiinniibfaa.Ind
open Go.Shelf Go.RowKit Go.Lib

set_option linter.unusedSimpArgs false in
set_option maxRecDepth 100000 in
set_option maxHeartbeats 4000000 in
theorem evSame_any {F G : List Nat} (w : World) (x : Nat) (u : Value) (a b : RA) (na : Option Addr) (nc : Nat) (hx : RowAt w x 24 [.int .i64 b.kind, .int .i64 b.ch, .int .i64 b.reg, .int .i64 b.frm, .slice na b.not.length nc, .int .i64 b.to]) (hu : NotAt w F u a) (hv : NotAt w G (.slice na b.not.length nc) b) :
    Calls Try.prog 36 #[arcV u a, .pointer (some ⟨x, 0, none⟩)] w fun e w' => e = .returned (.bool (sameB a b)) ∧ Frm [] w w' := by
  have c0 := hx.cell (i := 0) rfl
  have c1 := hx.cell (i := 1) rfl
  have c2 := hx.cell (i := 2) rfl
  have c3 := hx.cell (i := 3) rfl
  have c4 := hx.cell (i := 4) rfl
  have c5 := hx.cell (i := 5) rfl
  have hlt : x < w.heap.size := hx.lt
  obtain ⟨ua, uc, rfl⟩ := RowV.shape hu
  have HC : Hid (∀ W, Frm [] w W → Calls Try.prog 37 #[arcV (.slice ua a.not.length uc) a, arcV (.slice na b.not.length nc) b] W fun e w' => e = .returned (.bool (sameB a b)) ∧ Frm [] W w') := Lib.hid fun W hf => same_any W _ _ a b (RowV.nil hu hf) (RowV.nil hv hf)
  clear hx hu hv
  unfold arcV at HC
  unfold arcV
  go_enter Try.func36, Try.ntmps36
  go_wp2_with fail
  refine (HC.out _ ((Frm.refl [] w).alloc _)).mono ?_
  rintro e1 w1 ⟨rfl, hf1⟩
  go_wp2_with fail
  go_ret
  exact ⟨rfl, ((Frm.refl [] w).alloc _).trans hf1 (by simp)⟩

/-- The event that is asked for. -/
def eventB (m : RM) (n : Int) (a : RA) (v : Int) : Int :=
  if validM m = true ∧ 1 ≤ n ∧ n ≤ 12 ∧ 0 ≤ v ∧ v < n ∧ m.states.any (fun r => r.any fun x => sameB x a) = true then evB m n a v else -1

end Go.Proofs.Ytfndgiinniibfaa.Ind
