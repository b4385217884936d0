/- BehaviorProject: the projection to a model, and the errors: the row of the law. -/
import Derived.Test.YtikpcipkkhmcfaaGreatQ51
import Derived.Test.YtikpcipkkhmcfaaGreatQ52
import Derived.Test.YtikpcipkkhmcfaaGreatQ53
namespace Go.Proofs.YtikpcipkkhmcfaaGreat.behaviorProject
open Go.ChangeShapes Go.WideShapes Go.ChangeAt Go.RowKit

set_option maxRecDepth 100000 in
theorem lifted (os : Os) (started : os.Started) (H : Type) (enc : TypeId × Value → H) :
  ReturnsInHanded {} Tryz.checked os 6 .any (Rows.behaviorProjectSpec.pre6 enc Tryz.prog Tryz.f6 Rows.behaviorProjectRow.domain false) (Rows.behaviorProjectSpec.post enc Tryz.prog Tryz.f6 false true false false) := by
 refine returnsInHanded_of_change_sized (C := Tryz.checked) own started (by kernel_rfl) Tryz.func6
  (ChangeSpec.witness6 (enc := enc) (C := Tryz.checked) false ⟨#[], #[.slice none 0 0, .slice none 0 0, .int .i64 0], []⟩ 8 (by kernel_rfl) (by kernel_rfl) (by kernel_rfl) (by kernel_rfl)) ?_
 intro W base args ds gs before hval0 hW hcnd hsz _
 have hval : ∀ (j : Nat) t v, Tryz.f6.params[j]? = some t → args[j]? = some v → Value.okWide Tryz.prog W .any base t v := hval0
 have hW' := hW
 obtain ⟨p, q, hA0, hV, rfl, hfz, hnd⟩ := hW
 have hA : DataW.TrodAll enc Tryz.prog W 0 (fun _ => true) true Tryz.f6.params.toList args.toList ds p := hA0
 have hAk := hA
 rw [Tryz.params6] at hA hval
 obtain ⟨v0, vs0, d0, ds0, p0, q0, hargs, rfl, rfl, h0, r0⟩ := trodAll_cons hA
 obtain ⟨v1, vs1, d1, ds1, p1, q1, rfl, rfl, rfl, h1, r1⟩ := trodAll_cons r0
 obtain ⟨v2, vs2, d2, ds2, p2, q2, rfl, rfl, rfl, h2, r2⟩ := trodAll_cons r1
 obtain ⟨rfl, rfl, rfl⟩ := trodAll_nil r2
 obtain rfl : args = #[v0, v1, v2] := by cases args; simp_all
 obtain ⟨rfl, rfl⟩ := trodVars_none hV
 obtain ⟨a0, cap0, xs0, rfl, ht0, hx0⟩ := ints_open (hval 0 22 v0 rfl rfl) h0
 have hz1 : ∀ k ∈ d1.weights Tryz.prog 36, k ≤ reachBytes := fun k hk => by
  have := List.all_eq_true.1 hsz k (DataW.weights_mem_each (j := 1) (by rw [Tryz.params6]; rfl) rfl k hk)
  simpa using this
 obtain ⟨b1, hb1, hf1⟩ := Beh.beh_open (hval 1 36 v1 rfl rfl) h1 hz1
 obtain ⟨s2, rfl, rfl, rfl, ws2⟩ := open_int Tryz.underlying3 (hval 2 3 v2 rfl rfl) h2
 clear hA0 hval0
 simp only [List.append_nil] at hW' hAk
 refine (Beh.project_walk a0 cap0 xs0 v1 b1 s2 W ht0 hx0 hb1 hf1).mono fun e W' ⟨he, hg⟩ => ?_
 subst he
 exact ⟨_, rfl, post_of_frm (pv := []) hW' (fun _ _ _ => (trodAll_cons_mk (shut_bool Tryz.underlying4 _) trodAll_mk0)) (fun sp hsp => trodAll_frm hg (DataW.TrodAll.respare kids full (by rw [Tryz.params6]; decide) hAk hsp) (fun p hp => hW'.lt p hp)) (fun _ _ => rfl) (by simp)
  hg (ok_one (by kernel_rfl) rfl (okWide_bool_mk Tryz.underlying4 _))⟩

theorem over : Rows.behaviorProjectRow.holds Tryz.pinned (OpenSpec.ofChange Rows.behaviorProjectSpec) :=
 OpenClaim.holds_of_wide 6 Tryz.f6 rfl rfl rfl rfl rfl rfl rfl ⟨rfl, rfl, rfl, rfl, rfl⟩ rfl rfl rfl rfl rfl (by kernel_rfl) Tryz.func6 (by kernel_rfl)
  (of_decide_eq_true (by kernel_rfl)) (by unfold Func.isWrapper; first | (rw [if_pos (by decide +kernel)]; kernel_rfl) | (rw [if_neg (by decide +kernel)]; exact ⟨rfl, rfl⟩))
  (fun os started H enc _ => lifted os started H enc)

theorem proved : Rows.BehaviorProjectSaid :=
 over
end Go.Proofs.YtikpcipkkhmcfaaGreat.behaviorProject
