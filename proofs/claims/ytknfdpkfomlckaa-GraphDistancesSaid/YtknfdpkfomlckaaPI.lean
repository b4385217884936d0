/- GraphDistances returns true for every input: every tape, every transition system. No condition beside the row's own. -/
import Derived.Test.YtknfdpkfomlckaaBC
import Derived.Test.YtknfdpkfomlckaaPA
namespace Go.Proofs.Ytknfdpkfomlckaa.graphDistances
open Go.ChangeShapes Go.WideShapes Go.ChangeAt Go.RowKit

set_option maxRecDepth 100000 in
theorem lifted (os : Os) (started : os.Started) (H : Type) (enc : TypeId × Value → H) :
    ReturnsInHanded {} Try.checked os 10 .any (Rows.graphDistancesSpec.pre6 enc Try.prog Try.f10 Rows.graphDistancesRow.domain false) (Rows.graphDistancesSpec.post enc Try.prog Try.f10 false true false false) := by
  refine returnsInHanded_of_change_sized (C := Try.checked) own started (by kernel_rfl) Try.func10
    (ChangeSpec.witness6 (enc := enc) (C := Try.checked) false ⟨#[], #[.slice none 0 0, .agg #[.slice none 0 0]], []⟩ 8 (by kernel_rfl) (by kernel_rfl) (by kernel_rfl) (by kernel_rfl)) ?_
  intro W base args ds gs before hval0 hW hcnd hsz _
  have hval : ∀ (j : Nat) t v, Try.f10.params[j]? = some t → args[j]? = some v → Value.okWide Try.prog W .any base t v := hval0
  have hW' := hW
  obtain ⟨p, q, hA0, hV, rfl, hfz, hnd⟩ := hW
  have hA : DataW.TrodAll enc Try.prog W 0 (fun _ => true) true Try.f10.params.toList args.toList ds p := hA0
  have hAk := hA
  rw [Try.params10] at hA hval
  obtain ⟨v0, vs0, d0, ds0, p0, q0, hargs, rfl, rfl, h0, r0⟩ := trodAll_cons hA
  obtain ⟨v1, vs1, d1, ds1, p1, q1, rfl, rfl, rfl, h1, r1⟩ := trodAll_cons r0
  obtain ⟨rfl, rfl, rfl⟩ := trodAll_nil r1
  obtain rfl : args = #[v0, v1] := by cases args; simp_all
  obtain ⟨rfl, rfl⟩ := trodVars_none hV
  obtain ⟨a0, cap0, xs0, rfl, ht0, hx0⟩ := ints_open (hval 0 22 v0 rfl rfl) h0
  have hz1 : ∀ k ∈ d1.weights Try.prog 25, k ≤ reachBytes := fun k hk => by
    have := List.all_eq_true.1 hsz k (DataW.weights_mem_each (j := 1) (by rw [Try.params10]; rfl) rfl k hk)
    simpa using this
  obtain ⟨a1, cap1, l1, rfl, hl1⟩ := lts_open (hval 1 25 v1 rfl rfl) h1 hz1
  clear hA0 hval0
  simp only [List.append_nil] at hW' hAk
  refine (distances_law a0 cap0 xs0 a1 cap1 l1 W ht0 hx0 hl1).mono fun e W' ⟨he, hg⟩ => ?_
  subst he
  exact ⟨_, rfl, post_of_frm (pv := []) hW' (fun _ _ _ => (trodAll_cons_mk (shut_bool Try.underlying4 _) trodAll_mk0)) (fun sp hsp => trodAll_frm hg (DataW.TrodAll.respare kids full (by rw [Try.params10]; decide) hAk hsp) (fun p hp => hW'.lt p hp)) (fun _ _ => rfl) (by simp)
    hg (ok_one (by kernel_rfl) rfl (okWide_bool_mk Try.underlying4 _))⟩

theorem over : Rows.graphDistancesRow.holds Try.pinned (OpenSpec.ofChange Rows.graphDistancesSpec) :=
  OpenClaim.holds_of_wide 10 Try.f10 rfl rfl rfl rfl rfl rfl rfl ⟨rfl, rfl, rfl, rfl, rfl⟩ rfl rfl rfl rfl rfl (by kernel_rfl) Try.func10 (by kernel_rfl)
    (of_decide_eq_true (by kernel_rfl)) (by unfold Func.isWrapper; first | (rw [if_pos (by decide +kernel)]; kernel_rfl) | (rw [if_neg (by decide +kernel)]; exact ⟨rfl, rfl⟩))
    (fun os started H enc _ => lifted os started H enc)

theorem proved : Rows.GraphDistancesSaid :=
  over
end Go.Proofs.Ytknfdpkfomlckaa.graphDistances
