/- Arguments opened: behaviors, with the sizes that the weights allow. -/
import Derived.Test.YtikpcipkkhmcfaaGreatQ52
import Derived.Test.YtikpcipkkhmcfaaGreatQ35
namespace Go.Proofs.YtikpcipkkhmcfaaGreat.Beh
open Go.RowKit Go.WideShapes Go.ChangeShapes Go.Deep Go.Proofs.YtikpcipkkhmcfaaGreat

theorem cellsIs : Tryz.prog.cellsOf 22 = 1 := by kernel_rfl
theorem cellsIss : Tryz.prog.cellsOf 67 = 1 := by kernel_rfl
theorem bytesInt : Tryz.prog.bytesOf 3 = 8 := by kernel_rfl
theorem bytesIs : Tryz.prog.bytesOf 22 = 24 := by kernel_rfl
theorem cellsBool : Tryz.prog.cellsOf 4 = 1 := by kernel_rfl
theorem cellsEn : Tryz.prog.cellsOf 69 = 3 := by kernel_rfl
section
variable {H : Type} {enc : TypeId × Value → H} {W : World}
set_option maxRecDepth 100000 in
theorem ints_at {n : Nat} {v : Value} {x : DataW H × List MemPlace} (h : DataW.trod enc Tryz.prog W 0 (fun _ => true) true n 22 [v] = some x) (hz9 : ∀ k ∈ x.1.weights Tryz.prog 22, k ≤ reachBytes) : ∃ xs, RowV W [] v (List.length xs) 1 (ints xs) ∧ xs.length ≤ 17592186044416 := by
 rcases open_ints Tryz.underlying22 Tryz.underlying3 cellsInt h with ⟨hcs, -⟩ | ⟨a, len, cap, zs, hcs, _, hl, hm, hz, rfl, hcell, hw⟩
 ·obtain rfl : v = .slice none 0 0 := by simpa using hcs
  exact ⟨[], RowV.nil0 _ _ _, by decide⟩
 ·obtain rfl : v = .slice (some a) len cap := by simpa using hcs
  simp only [if_true] at hz
  have hlen : (zs.take len).length = len := by rw [List.length_take]; omega
  have hw9 := hz9 ((len + (zs.length - len)) * 8) (by simp only [DataW.weights, Tryz.underlying22, bytesInt, List.mem_cons]; exact .inl (by simp only [lits, List.length_map, List.length_take, List.length_drop]; rw [Nat.min_eq_left (by omega)]))
  have hr9 : reachBytes = 140737488351232 := rfl
  refine ⟨zs.take len, ⟨by rw [ints, List.length_map, Nat.mul_one], some a, cap, by rw [hlen], by rw [hlen]; exact hl, hm, (fun h => by cases h), fun i u hu => ?_⟩, by omega⟩
  have hi : i < len := by
   have := (List.getElem?_eq_some_iff.1 hu).1
   rw [ints, List.length_map, hlen] at this
   exact this
  have hu' : u = .int .i64 (zs.getD i 0) := by
   rw [ints, List.getElem?_map, List.getElem?_take_of_lt hi, List.getElem?_eq_getElem (by omega)] at hu
   rw [List.getD_eq_getElem?_getD, List.getElem?_eq_getElem (by omega)]
   simpa using hu.symm
  obtain ⟨b, o, rfl, hb, hc⟩ := plain_of_cell (hcell i (by omega)) ⟨_, hcell 0 (by omega)⟩
  exact ⟨b, o, rfl, by simp, hb, by rw [hc, hu']⟩
set_option maxRecDepth 100000 in
theorem sets_at {n : Nat} {v : Value} {x : DataW H × List MemPlace} (h : DataW.trod enc Tryz.prog W 0 (fun _ => true) true n 67 [v] = some x) (hz9 : ∀ k ∈ x.1.weights Tryz.prog 67, k ≤ reachBytes) : ∃ l, SetsAt W [] v l ∧ l.length ≤ 5864062014805 ∧ ∀ y ∈ l, y.length ≤ 17592186044416 := by
 rcases open_slice1 Tryz.underlying67 cellsIs h with ⟨hcs, -⟩ | ⟨a, len, cap, m, k, V, D, Pl, hcs, _, hl, hm, hmm, rfl, hcell⟩
 ·obtain rfl : v = .slice none 0 0 := by simpa using hcs
  exact ⟨[], ⟨[], rfl, RowV.nil0 _ _ _, by simp⟩, by decide, by simp⟩
 ·obtain rfl : v = .slice (some a) len cap := by simpa using hcs
  simp only [if_true] at hmm
  have hmm' := hmm.symm
  subst hmm'
  have hw9 := hz9 ((len + (cap - len)) * 24) (by simp [DataW.weights, Tryz.underlying67, bytesIs])
  have hr9 : reachBytes = 140737488351232 := rfl
  obtain ⟨f, hf⟩ := choose_lt (α := List Int) (n := len) (p := fun i row => RowV W [] (V i) row.length 1 (ints row) ∧ row.length ≤ 17592186044416) (fun i hi => ints_at (hcell i (by omega)).2 (fun k hk => hz9 k (by
    simp only [DataW.weights, Tryz.underlying67, List.mem_cons, List.mem_append]
    exact .inr (.inl (weights_all (List.mem_map.2 ⟨i, List.mem_range.2 hi, rfl⟩) k hk)))))
  refine ⟨((List.range len).map fun i => (V i, f i)).map (·.2), ⟨(List.range len).map fun i => (V i, f i), rfl, ⟨by simp, some a, cap, by simp, by simpa using hl, hm, (fun h => by cases h), fun i u hu => ?_⟩, fun p hp => ?_⟩, by simp; omega, fun y hy => ?_⟩
  ·have hi : i < len := by
    have := (List.getElem?_eq_some_iff.1 hu).1
    simpa using this
   have hu' : V i = u := by simpa [hi] using hu
   obtain ⟨b, o, rfl, hb, hc⟩ := plain_of_cell (hcell i (by omega)).1 ⟨_, (hcell 0 (by omega)).1⟩
   exact ⟨b, o, rfl, by simp, hb, by rw [hc, hu']⟩
  ·obtain ⟨i, hi, rfl⟩ := List.mem_map.1 hp
   exact (hf i (List.mem_range.1 hi)).1
  ·obtain ⟨p, hp, rfl⟩ := List.mem_map.1 hy
   obtain ⟨i, hi, rfl⟩ := List.mem_map.1 hp
   exact (hf i (List.mem_range.1 hi)).2
set_option maxRecDepth 100000 in
/-- The three cells of an entry. -/
theorem entry_at {n : Nat} {cs : List Value} {x : DataW H × List MemPlace} (hlen : cs.length = 3) (h : DataW.trod enc Tryz.prog W 0 (fun _ => true) true n 69 cs = some x) (hz9 : ∀ k ∈ x.1.weights Tryz.prog 69, k ≤ reachBytes) :
  ∃ p : EV, cs = enE p ∧ EntAt W [] p ∧ Fits [p.2] := by
 obtain ⟨xs, k, _, rfl, _, hxl, hf⟩ := DataW.trod_struct Tryz.underlying69 h
 match xs, hxl, cs, hlen with
 | [y0, y1, y2], _, [c0, c1, c2], _ =>
  obtain ⟨t, ht, ht9⟩ := ints_at (n := k) (v := c0) (by simpa [cellsIs] using hf 0 _ rfl) (fun k hk => hz9 k (by simp [DataW.weights, DataW.weightsEach, Tryz.underlying69, hk]))
  obtain ⟨l, hl, hl9, hy9⟩ := sets_at (n := k) (v := c1) (by simpa [cellsIs, cellsIss] using hf 1 _ rfl) (fun k hk => hz9 k (by simp [DataW.weights, DataW.weightsEach, Tryz.underlying69, hk]))
  have h2 : DataW.trod enc Tryz.prog W 0 (fun _ => true) true k 4 [c2] = some y2 := by simpa [cellsIs, cellsIss, cellsBool] using hf 2 _ rfl
  obtain ⟨d, e0, _⟩ := DataW.trod_bool Tryz.underlying4 h2
  obtain rfl : c2 = .bool d := by simpa using e0
  exact ⟨((c0, c1), (t, l, d)), rfl, ⟨ht, hl⟩, fun x hx => by rw [List.mem_singleton.1 hx]; exact ⟨ht9, hl9, hy9⟩⟩
instance : Inhabited EV := ⟨((.int .i64 0, .int .i64 0), ([], [], false))⟩
set_option maxRecDepth 100000 in
theorem beh_at {n : Nat} {v : Value} {x : DataW H × List MemPlace} (h : DataW.trod enc Tryz.prog W 0 (fun _ => true) true n 36 [v] = some x) (hz9 : ∀ k ∈ x.1.weights Tryz.prog 36, k ≤ reachBytes) : ∃ b, BehAt W [] v b ∧ Fits b := by
 rcases open_slice Tryz.underlying36 h with ⟨hcs, -⟩ | ⟨a, len, cap, m, k, D, Pl, hcs, _, hl, hm, hmm, rfl, hx⟩
 ·obtain rfl : v = .slice none 0 0 := by simpa using hcs
  exact ⟨[], ⟨[], rfl, RowV.nil0 _ _ _, by simp⟩, fun x hx => (by cases hx)⟩
 ·obtain rfl : v = .slice (some a) len cap := by simpa using hcs
  simp only [if_true] at hmm
  have hmm' := hmm.symm
  subst hmm'
  obtain ⟨f, hf⟩ := choose_lt (α := EV) (n := len) (p := fun i p => (∀ j u, (enE p)[j]? = some u → W.cell? (a.add (i * 3 + j)) = some u) ∧ EntAt W [] p ∧ Fits [p.2]) (fun i hi => by
   obtain ⟨cs', h1, h2⟩ := hx i (by omega)
   rw [cellsEn] at h1
   obtain ⟨_, hlen, hcell⟩ := World.cells?_some h1
   obtain ⟨p, rfl, hp⟩ := entry_at hlen h2 (fun k hk => hz9 k (by
    simp only [DataW.weights, Tryz.underlying36, List.mem_cons, List.mem_append]
    exact .inr (.inl (weights_all (List.mem_map.2 ⟨i, List.mem_range.2 hi, rfl⟩) k hk))))
   refine ⟨p, fun j u hu => ?_, hp⟩
   have hj : j < 3 := (List.getElem?_eq_some_iff.1 hu).1
   have := hcell j hj
   rw [add_add] at this
   rw [this, hu])
  refine ⟨((List.range len).map f).map (·.2), ⟨(List.range len).map f, rfl, ⟨by rw [flat3_len]; simp, some a, cap, by simp, by simpa using hl, hm, (fun h => by cases h), fun i u hu => ?_⟩, fun p hp => ?_⟩, fun x hx9 => ?_⟩
  ·have hi : i < len * 3 := by
    have := (List.getElem?_eq_some_iff.1 hu).1
    rw [flat3_len] at this
    simpa using this
   have hq : i / 3 < len := by omega
   have e := flat3_get (l := (List.range len).map f) (i := i / 3) (p := f (i / 3)) (by simp [hq]) (i % 3) (Nat.mod_lt _ (by decide))
   rw [show i / 3 * 3 + i % 3 = i by omega] at e
   rw [e] at hu
   have hc := (hf (i / 3) (by omega)).1 _ _ hu
   rw [show i / 3 * 3 + i % 3 = i by omega] at hc
   obtain ⟨b, o, rfl, hb, hc⟩ := plain_of_cell hc ⟨_, (hf 0 (by omega)).1 0 _ rfl⟩
   exact ⟨b, o, rfl, by simp, hb, hc⟩
  ·obtain ⟨i, hi, rfl⟩ := List.mem_map.1 hp
   exact (hf i (List.mem_range.1 hi)).2.1
  ·obtain ⟨p, hp, rfl⟩ := List.mem_map.1 hx9
   obtain ⟨i, hi, rfl⟩ := List.mem_map.1 hp
   exact (hf i (List.mem_range.1 hi)).2.2 _ (List.mem_singleton.2 rfl)
set_option maxRecDepth 100000 in
theorem beh_open {base : Nat} {v : Value} {d : DataW H} {ps : List MemPlace} (hv : Value.okWide Tryz.prog W .any base 36 v) (h : DataW.Trod enc Tryz.prog W 0 (fun _ => true) true 36 v d ps) (hz9 : ∀ k ∈ d.weights Tryz.prog 36, k ≤ reachBytes) : ∃ b, BehAt W [] v b ∧ Fits b := by
 obtain ⟨a0, len, cap, rfl⟩ := okWide_slice Tryz.underlying36 hv
 obtain ⟨fuel, hf⟩ := h
 exact beh_at (by simpa [Value.cells] using hf) hz9
end
end Go.Proofs.YtikpcipkkhmcfaaGreat.Beh
