/- Contracts of event and Event, of the program and of the reference. (Printed by wip/tools/kc.py.) -/
import Derived.Test.YtfndgiinniibfaaKB
import Derived.Test.YtfndgiinniibfaaI5
namespace Go.Proofs.Ytfndgiinniibfaa.Ind
open Go.Shelf
open Go.RowKit

theorem mul_bd {a b : Int} {x y : Int} (h1 : 0 ≤ a) (h2 : a ≤ x) (h3 : 0 ≤ b) (h4 : b ≤ y) : 0 ≤ a * b ∧ a * b ≤ x * y :=
  ⟨Int.mul_nonneg h1 h3, Int.mul_le_mul h2 h4 h3 (by omega)⟩

set_option maxRecDepth 100000 in
set_option maxHeartbeats 2000000 in
set_option linter.unusedSimpArgs false in
theorem event_any (w : World) (m : RM) (sa : Option Addr) (sn sc : Nat) (n val : Int) (na : Option Addr) (nl nc : Nat) (a : RA) (hd0 : 0 ≤ m.data) (hd1 : m.data ≤ 8) (hn0 : 0 ≤ n) (hn1 : n ≤ 12) (hc0 : 0 ≤ a.ch) (hc1 : a.ch ≤ 8) (hv0 : 0 ≤ val) (hv1 : val ≤ 12) :
    Calls Try.prog 38 #[machV m (.slice sa sn sc), .int .i64 n, arcV (.slice na nl nc) a, .int .i64 val] w fun e w' => e = .returned (.int .i64 (evB m n a val)) ∧ Frm [] w w' := by
  have hb := mul_bd hd0 hd1 hn0 hn1
  have hc := mul_bd hc0 hc1 hn0 hn1
  obtain ⟨R, hR⟩ : ∃ R, evB m n a val = R := ⟨_, rfl⟩
  rw [hR]
  unfold evB at hR
  obtain ⟨regs, data, plain, states⟩ := m
  obtain ⟨kind, ch, reg, frm, not, tgt⟩ := a
  simp only at *
  unfold machV arcV
  simp only
  have w1 : IntKind.i64.wrap (data * n) = data * n := IntWalk.i64_in _ (by omega)
  have w2 : IntKind.i64.wrap (2 + data * n) = 2 + data * n := IntWalk.i64_in _ (by omega)
  have w3 : IntKind.i64.wrap (2 + data * n + ch) = 2 + data * n + ch := IntWalk.i64_in _ (by omega)
  have w4 : IntKind.i64.wrap (ch * n) = ch * n := IntWalk.i64_in _ (by omega)
  have w5 : IntKind.i64.wrap (2 + ch * n) = 2 + ch * n := IntWalk.i64_in _ (by omega)
  have w6 : IntKind.i64.wrap (2 + ch * n + val) = 2 + ch * n + val := IntWalk.i64_in _ (by omega)
  clear hb hc hd0 hd1 hn0 hn1 hc0 hc1 hv0 hv1
  by_cases k2 : kind = 2
  · rw [if_pos k2] at hR
    subst hR
    subst k2
    go_enter Try.func38, Try.ntmps38
    go_wp2_with fail
    go_ret
    exact ⟨rfl, ((Frm.refl [] w).alloc _).alloc _⟩
  rw [if_neg k2] at hR
  by_cases k3 : kind = 3
  · rw [if_pos k3] at hR
    subst hR
    subst k3
    go_enter Try.func38, Try.ntmps38
    go_wp2_with fail
    go_ret
    exact ⟨rfl, ((Frm.refl [] w).alloc _).alloc _⟩
  rw [if_neg k3] at hR
  by_cases k4 : kind = 4
  · rw [if_pos (Or.inl k4)] at hR
    subst hR
    subst k4
    go_enter Try.func38, Try.ntmps38
    go_wp2_with fail
    go_ret
    exact ⟨rfl, ((Frm.refl [] w).alloc _).alloc _⟩
  by_cases k5 : kind = 5
  · rw [if_pos (Or.inr k5)] at hR
    subst hR
    subst k5
    go_enter Try.func38, Try.ntmps38
    go_wp2_with fail
    go_ret
    exact ⟨rfl, ((Frm.refl [] w).alloc _).alloc _⟩
  rw [if_neg (by omega)] at hR
  subst hR
  go_enter Try.func38, Try.ntmps38
  go_wp2_with fail
  go_ret
  exact ⟨rfl, ((Frm.refl [] w).alloc _).alloc _⟩

set_option maxRecDepth 100000 in
set_option maxHeartbeats 2000000 in
set_option linter.unusedSimpArgs false in
theorem refEvent_any (w : World) (m : RM) (sa : Option Addr) (sn sc : Nat) (n val : Int) (na : Option Addr) (nl nc : Nat) (a : RA) (hd0 : 0 ≤ m.data) (hd1 : m.data ≤ 8) (hn0 : 0 ≤ n) (hn1 : n ≤ 12) (hc0 : 0 ≤ a.ch) (hc1 : a.ch ≤ 8) (hv0 : 0 ≤ val) (hv1 : val ≤ 12) :
    Calls Try.prog 40 #[machV m (.slice sa sn sc), .int .i64 n, arcV (.slice na nl nc) a, .int .i64 val] w fun e w' => e = .returned (.int .i64 (evB m n a val)) ∧ Frm [] w w' := by
  have hb := mul_bd hd0 hd1 hn0 hn1
  have hc := mul_bd hc0 hc1 hn0 hn1
  obtain ⟨R, hR⟩ : ∃ R, evB m n a val = R := ⟨_, rfl⟩
  rw [hR]
  unfold evB at hR
  obtain ⟨regs, data, plain, states⟩ := m
  obtain ⟨kind, ch, reg, frm, not, tgt⟩ := a
  simp only at *
  unfold machV arcV
  simp only
  have w1 : IntKind.i64.wrap (data * n) = data * n := IntWalk.i64_in _ (by omega)
  have w2 : IntKind.i64.wrap (2 + data * n) = 2 + data * n := IntWalk.i64_in _ (by omega)
  have w3 : IntKind.i64.wrap (2 + data * n + ch) = 2 + data * n + ch := IntWalk.i64_in _ (by omega)
  have w4 : IntKind.i64.wrap (ch * n) = ch * n := IntWalk.i64_in _ (by omega)
  have w5 : IntKind.i64.wrap (2 + ch * n) = 2 + ch * n := IntWalk.i64_in _ (by omega)
  have w6 : IntKind.i64.wrap (2 + ch * n + val) = 2 + ch * n + val := IntWalk.i64_in _ (by omega)
  clear hb hc hd0 hd1 hn0 hn1 hc0 hc1 hv0 hv1
  by_cases k2 : kind = 2
  · rw [if_pos k2] at hR
    subst hR
    subst k2
    go_enter Try.func40, Try.ntmps40
    go_wp2_with fail
    go_ret
    exact ⟨rfl, ((Frm.refl [] w).alloc _).alloc _⟩
  rw [if_neg k2] at hR
  by_cases k3 : kind = 3
  · rw [if_pos k3] at hR
    subst hR
    subst k3
    go_enter Try.func40, Try.ntmps40
    go_wp2_with fail
    go_ret
    exact ⟨rfl, ((Frm.refl [] w).alloc _).alloc _⟩
  rw [if_neg k3] at hR
  by_cases k4 : kind = 4
  · rw [if_pos (Or.inl k4)] at hR
    subst hR
    subst k4
    go_enter Try.func40, Try.ntmps40
    go_wp2_with fail
    go_ret
    exact ⟨rfl, ((Frm.refl [] w).alloc _).alloc _⟩
  by_cases k5 : kind = 5
  · rw [if_pos (Or.inr k5)] at hR
    subst hR
    subst k5
    go_enter Try.func40, Try.ntmps40
    go_wp2_with fail
    go_ret
    exact ⟨rfl, ((Frm.refl [] w).alloc _).alloc _⟩
  rw [if_neg (by omega)] at hR
  subst hR
  go_enter Try.func40, Try.ntmps40
  go_wp2_with fail
  go_ret
  exact ⟨rfl, ((Frm.refl [] w).alloc _).alloc _⟩

end Go.Proofs.Ytfndgiinniibfaa.Ind
