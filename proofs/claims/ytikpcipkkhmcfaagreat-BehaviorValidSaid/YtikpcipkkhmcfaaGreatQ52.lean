/- BehaviorValid: which lists are behaviors, and the order of traces: the row of the law. -/
import Derived.Test.YtikpcipkkhmcfaaGreatQ49
import Derived.Test.YtikpcipkkhmcfaaGreatQ50
import Derived.Test.YtikpcipkkhmcfaaGreatQ51
namespace Go.Proofs.YtikpcipkkhmcfaaGreat.behaviorValid
open Go.ChangeShapes Go.WideShapes Go.ChangeAt Go.RowKit

set_option maxRecDepth 100000 in
theorem lifted (os : Os) (started : os.Started) (H : Type) (enc : TypeId × Value → H) :
  ReturnsInHanded {} Tryz.checked os 5 .any (Rows.behaviorValidSpec.pre6 enc Tryz.prog Tryz.f5 Rows.behaviorValidRow.domain false) (Rows.behaviorValidSpec.post enc Tryz.prog Tryz.f5 false true false false) := by
 refine returnsInHanded_of_change_sized (C := Tryz.checked) own started (by kernel_rfl) Tryz.func5
  (ChangeSpec.witness6 (enc := enc) (C := Tryz.checked) false ⟨#[], #[.slice none 0 0, .slice none 0 0, .slice none 0 0, .slice none 0 0], []⟩ 8 (by kernel_rfl) (by kernel_rfl) (by kernel_rfl) (by kernel_rfl)) ?_
 intro W base args ds gs before hval0 hW hcnd hsz _
 have hval : ∀ (j : Nat) t v, Tryz.f5.params[j]? = some t → args[j]? = some v → Value.okWide Tryz.prog W .any base t v := hval0
 have hW' := hW
 obtain ⟨p, q, hA0, hV, rfl, hfz, hnd⟩ := hW
 have hA : DataW.TrodAll enc Tryz.prog W 0 (fun _ => true) true Tryz.f5.params.toList args.toList ds p := hA0
 have hAk := hA
 rw [Tryz.params5] at hA hval
 obtain ⟨v0, vs0, d0, ds0, p0, q0, hargs, rfl, rfl, h0, r0⟩ := trodAll_cons hA
 obtain ⟨v1, vs1, d1, ds1, p1, q1, rfl, rfl, rfl, h1, r1⟩ := trodAll_cons r0
 obtain ⟨v2, vs2, d2, ds2, p2, q2, rfl, rfl, rfl, h2, r2⟩ := trodAll_cons r1
 obtain ⟨v3, vs3, d3, ds3, p3, q3, rfl, rfl, rfl, h3, r3⟩ := trodAll_cons r2
 obtain ⟨rfl, rfl, rfl⟩ := trodAll_nil r3
 obtain rfl : args = #[v0, v1, v2, v3] := by cases args; simp_all
 obtain ⟨rfl, rfl⟩ := trodVars_none hV
 obtain ⟨a0, cap0, xs0, rfl, ht0, hx0⟩ := ints_open (hval 0 22 v0 rfl rfl) h0
 have hz1 : ∀ k ∈ d1.weights Tryz.prog 36, k ≤ reachBytes := fun k hk => by
  have := List.all_eq_true.1 hsz k (DataW.weights_mem_each (j := 1) (by rw [Tryz.params5]; rfl) rfl k hk)
  simpa using this
 obtain ⟨b1, hb1, hf1⟩ := Beh.beh_open (hval 1 36 v1 rfl rfl) h1 hz1
 have hz2 : ∀ k ∈ d2.weights Tryz.prog 22, k ≤ reachBytes := fun k hk => by
  have := List.all_eq_true.1 hsz k (DataW.weights_mem_each (j := 2) (by rw [Tryz.params5]; rfl) rfl k hk)
  simpa using this
 obtain ⟨b2, hb2, hf2⟩ := Beh.row_open9 (hval 2 22 v2 rfl rfl) h2 hz2
 have hz3 : ∀ k ∈ d3.weights Tryz.prog 22, k ≤ reachBytes := fun k hk => by
  have := List.all_eq_true.1 hsz k (DataW.weights_mem_each (j := 3) (by rw [Tryz.params5]; rfl) rfl k hk)
  simpa using this
 obtain ⟨b3, hb3, hf3⟩ := Beh.row_open9 (hval 3 22 v3 rfl rfl) h3 hz3
 clear hA0 hval0
 simp only [List.append_nil] at hW' hAk
 refine (Beh.valid_walk a0 cap0 xs0 v1 b1 v2 b2 v3 b3 W ht0 hx0 hb1 hf1 hb2 hf2 hb3 hf3).mono fun e W' ⟨he, hg⟩ => ?_
 subst he
 exact ⟨_, rfl, post_of_frm (pv := []) hW' (fun _ _ _ => (trodAll_cons_mk (shut_bool Tryz.underlying4 _) trodAll_mk0)) (fun sp hsp => trodAll_frm hg (DataW.TrodAll.respare kids full (by rw [Tryz.params5]; decide) hAk hsp) (fun p hp => hW'.lt p hp)) (fun _ _ => rfl) (by simp)
  hg (ok_one (by kernel_rfl) rfl (okWide_bool_mk Tryz.underlying4 _))⟩

theorem over : Rows.behaviorValidRow.holds Tryz.pinned (OpenSpec.ofChange Rows.behaviorValidSpec) :=
 OpenClaim.holds_of_wide 5 Tryz.f5 rfl rfl rfl rfl rfl rfl rfl ⟨rfl, rfl, rfl, rfl, rfl⟩ rfl rfl rfl rfl rfl (by kernel_rfl) Tryz.func5 (by kernel_rfl)
  (of_decide_eq_true (by kernel_rfl)) (by unfold Func.isWrapper; first | (rw [if_pos (by decide +kernel)]; kernel_rfl) | (rw [if_neg (by decide +kernel)]; exact ⟨rfl, rfl⟩))
  (fun os started H enc _ => lifted os started H enc)

theorem proved : Rows.BehaviorValidSaid :=
 over
end Go.Proofs.YtikpcipkkhmcfaaGreat.behaviorValid
