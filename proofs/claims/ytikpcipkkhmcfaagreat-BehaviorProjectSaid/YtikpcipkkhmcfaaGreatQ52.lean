/- Texts GP, PA. -/
import Derived.Test.YtikpcipkkhmcfaaGreatQ11
import Derived.Test.YtikpcipkkhmcfaaGreatRows
import Derived.ProofKit
import Derived.OpenShut
import Derived.ChangeSame
import Derived.ReadAgain
import Derived.SizedLaws
import Derived.Deep.SlicePairs
/- Contract of Spoil. -/
namespace Go.Proofs.YtikpcipkkhmcfaaGreat
open Go.RowKit

end Go.Proofs.YtikpcipkkhmcfaaGreat

/- The last step of a law's row, and its arguments opened: a tape of integers, a transition system. -/
namespace Go.Proofs.YtikpcipkkhmcfaaGreat
open Go.RowKit Go.WideShapes Go.ChangeShapes Go.Deep

theorem own : ownKnob Tryz.prog.godebug = none := by kernel_rfl
theorem kids : Kids Tryz.prog (· < Tryz.prog.types.size) := kids_rows (by kernel_rfl) (by kernel_rfl)
theorem full : ∀ t e, t < Tryz.prog.types.size → Tryz.prog.underlying t = some (.slice e) → 0 < Tryz.prog.cellsOf e := slices_full_of Tryz.prog (by kernel_rfl)
theorem cellsInt : Tryz.prog.cellsOf 3 = 1 := by kernel_rfl
section
variable {H : Type} {enc : TypeId × Value → H} {W : World}

theorem plain_of_cell {a : Addr} {i : Nat} {v : Value} (h : W.cell? (a.add i) = some v) (h0 : ∃ u, W.cell? (a.add 0) = some u) : ∃ b o, a = ⟨b, o, none⟩ ∧ b < W.heap.size ∧ W.cell? ⟨b, o + i, none⟩ = some v := by
 obtain ⟨b, o, sp⟩ := a
 obtain ⟨u, hu⟩ := h0
 have e0 : ((⟨b, o, sp⟩ : Addr).add 0) = ⟨b, o, sp⟩ := by simp [Addr.add]
 rw [e0] at hu
 have hsp : sp = none := World.cell?_spot hu
 subst hsp
 rw [add_plain] at h
 exact ⟨b, o, rfl, World.block_lt_of_cell? _ _ h, h⟩

set_option maxRecDepth 100000 in
theorem ints_open {base : Nat} {v : Value} {d : DataW H} {ps : List MemPlace} (hv : Value.okWide Tryz.prog W .any base 22 v) (h : DataW.Trod enc Tryz.prog W 0 (fun _ => true) true 22 v d ps) :
  ∃ a cap xs, v = .slice a (List.length xs) cap ∧ Rd W.heap.size W a xs.length cap 1 (ints xs) ∧ (∀ x ∈ xs, -9223372036854775808 ≤ x ∧ x ≤ 9223372036854775807) := by
 obtain ⟨a0, len, cap, rfl⟩ := okWide_slice Tryz.underlying22 hv
 obtain ⟨fuel, hf⟩ := h
 rcases open_ints Tryz.underlying22 Tryz.underlying3 cellsInt hf with ⟨hcs, -⟩ | ⟨a, len', cap', zs, hcs, _, hl, hm, hz, -, hcell, hw⟩
 ·simp [Value.cells] at hcs
  obtain ⟨rfl, rfl, rfl⟩ := hcs
  exact ⟨none, 0, [], rfl, ⟨rfl, Nat.le_refl _, Nat.zero_le _, fun i u hu => by simp [ints] at hu⟩, by simp⟩
 ·simp [Value.cells] at hcs
  obtain ⟨rfl, rfl, rfl⟩ := hcs
  simp only [if_true] at hz
  have hlen : (zs.take len).length = len := by rw [List.length_take]; omega
  refine ⟨some a, cap, zs.take len, by rw [hlen], ?_, fun x hx => bounds_i64 (hw x (List.mem_of_mem_take hx))⟩
  rw [hlen]
  refine ⟨by rw [ints, List.length_map, hlen, Nat.mul_one], hl, hm, fun i u hu => ?_⟩
  have hi : i < len := by
   have := (List.getElem?_eq_some_iff.1 hu).1
   rw [ints, List.length_map, hlen] at this
   exact this
  have hu' : u = .int .i64 (zs.getD i 0) := by
   rw [ints, List.getElem?_map, List.getElem?_take_of_lt hi, List.getElem?_eq_getElem (by omega)] at hu
   rw [List.getD_eq_getElem?_getD, List.getElem?_eq_getElem (by omega)]
   simpa using hu.symm
  obtain ⟨b, o, rfl, hb, hc⟩ := plain_of_cell (hcell i (by omega)) ⟨_, hcell 0 (by omega)⟩
  exact ⟨b, o, rfl, hb, by rw [hc, hu']⟩

theorem weights_all {e : TypeId} : ∀ {ds : List (DataW H)} {d : DataW H}, d ∈ ds → ∀ n ∈ d.weights Tryz.prog e, n ∈ DataW.weightsAll Tryz.prog e ds
 | x :: r, d, hd, n, hn => by
  rw [DataW.weightsAll, List.mem_append]
  rcases List.mem_cons.1 hd with rfl | hd
  ·exact .inl hn
  ·exact .inr (weights_all hd n hn)

theorem trod_frm {W' : World} {sp : Nat → Bool} {t : TypeId} {v : Value} {d : DataW H} {ps : List MemPlace} (h : DataW.Trod enc Tryz.prog W 0 sp true t v d ps) (hf : Frm [] W W') (hlt : ∀ p ∈ ps, p.block < W.heap.size) : DataW.Trod enc Tryz.prog W' 0 sp true t v d ps := by
 obtain ⟨n, hn⟩ := h
 refine ⟨n, DataW.trod_carry n _ _ _ hn (fun p hp => ?_)⟩
 have hp2 := hlt p hp
 cases p with
 | cell b off => exact World.cell?_of_block (hf.block b hp2 (by simp))
 | map b => exact hf.block b hp2 (by simp)
theorem trodAll_frm {W' : World} {sp : Nat → Bool} (hf : Frm [] W W') : ∀ {ts : List TypeId} {vs : List Value} {ds : List (DataW H)} {ps : List MemPlace}, DataW.TrodAll enc Tryz.prog W 0 sp true ts vs ds ps → (∀ p ∈ ps, p.block < W.heap.size) → DataW.TrodAll enc Tryz.prog W' 0 sp true ts vs ds ps
 | [], [], [], _, h, _ => h
 | _ :: _, _ :: _, _ :: _, _, ⟨p, q, h1, h2, e⟩, hlt => ⟨p, q, trod_frm h1 hf (fun x hx => hlt x (by rw [e]; exact List.mem_append_left _ hx)), trodAll_frm hf h2 (fun x hx => hlt x (by rw [e]; exact List.mem_append_right _ hx)), e⟩

theorem post_of_frm {P : Program} {f : Func} {s : ChangeSpec} {apart fresh handsOn again : Bool} {W W' : World} {args : Array Value} {v : Value} {ds gs : List (DataW H)} {before pa pv : List MemPlace}
  (hW : DataW.Whole enc P f.params.toList s.vars apart W args.toList ds gs before)
  (hres : ∀ (b : Nat) (sp : Nat → Bool) (hd : Bool), DataW.TrodAll enc P W' b sp hd f.resultTypes.toList (v.resultList f.resultTypes.size) (s.fn H (ds ++ gs)).results [])
  (hargs : ∀ sp : Nat → Bool, (∀ p ∈ before, sp p.block = true) → DataW.TrodAll enc P W' 0 sp true f.params.toList args.toList (s.fn H (ds ++ gs)).args pa)
  (hvars : ∀ sp : Nat → Bool, (∀ p ∈ before, sp p.block = true) → DataW.TrodVars enc P W' sp s.vars (s.fn H (ds ++ gs)).vars pv)
  (hps : before = pa ++ pv) (hf : Frm [] W W')
  (hok : ∀ (j : Nat) (t : TypeId) (r : Value), f.resultTypes[j]? = some t → (v.resultList f.resultTypes.size)[j]? = some r → Value.okWide P W' .any 0 t r) :
  s.post enc P f apart fresh handsOn again W args v W' := by
 have hb : Below W.heap.size W W' := hf.below (Nat.le_refl _) (by simp)
 have hlt : ∀ p ∈ before, p.block < W.heap.size := fun p hp => hW.lt p hp
 have hold : ∀ p ∈ before, (fun b => decide (b < W.heap.size)) p.block = true := fun p hp => by simpa using hlt p hp
 refine ⟨ds, gs, before, [], pa, pv, hW, hres _ _ _, hargs _ hold, hvars _ hold, World.keptBut_mono (fun p hp => ⟨hp, ?_⟩) (hb.frame (· ∈ before)), fun _ => ?_⟩
 ·rw [hps, List.mem_append] at hp
  exact Or.inr hp
 ·obtain ⟨_, _, _, _, _, hz, hn⟩ := hW
  refine ⟨hok, _, _, ([] ++ pa) ++ pv, ⟨[] ++ pa, pv, trodAll_append (hargs _ (fun _ _ => rfl)) (hres _ _ _), hvars _ (fun _ _ => rfl), rfl, fun b off hp => ?_, fun ha => ?_⟩, fun p hp _ => ?_⟩
  ·have hin : MemPlace.cell b off ∈ before := by rw [hps]; simpa using hp
   rw [hb.frozen (hlt _ hin)]
   exact hz b off hin
  ·have := hn ha
   rw [hps] at this
   simpa using this
  ·rw [hps]
   simpa using hp
end
end Go.Proofs.YtikpcipkkhmcfaaGreat
