/- Arguments opened: register machines and arcs. -/
import Derived.Test.YtfndgiinniibfaaDW
import Derived.Test.YtfndgiinniibfaaI0
namespace Go.Proofs.Ytfndgiinniibfaa.Ind
open Go.RowKit Go.WideShapes Go.ChangeShapes Go.Deep

theorem cellsArc : Try.prog.cellsOf 24 = 6 := by kernel_rfl
theorem cellsIs : Try.prog.cellsOf 22 = 1 := by kernel_rfl
theorem cellsRow : Try.prog.cellsOf 25 = 1 := by kernel_rfl
theorem cellsRows : Try.prog.cellsOf 26 = 1 := by kernel_rfl
theorem cellsMach : Try.prog.cellsOf 28 = 4 := by kernel_rfl

section
variable {H : Type} {enc : TypeId × Value → H} {W : World}
theorem int_at {n : Nat} {v : Value} {x : DataW H × List MemPlace} (h : DataW.trod enc Try.prog W 0 (fun _ => true) true n 3 [v] = some x) : ∃ z, v = .int .i64 z := by
  obtain ⟨y0, e0, _⟩ := DataW.trod_int Try.underlying3 h
  exact ⟨y0, by simpa using e0⟩

set_option maxRecDepth 100000 in
theorem not_at {n : Nat} {v : Value} {x : DataW H × List MemPlace} (h : DataW.trod enc Try.prog W 0 (fun _ => true) true n 22 [v] = some x) : ∃ xs, RowV W [] v (List.length xs) 1 (ints xs) := by
  rcases open_ints Try.underlying22 Try.underlying3 cellsInt h with ⟨hcs, -⟩ | ⟨a, len, cap, zs, hcs, _, hl, hm, hz, -, hcell, hw⟩
  · obtain rfl : v = .slice none 0 0 := by simpa using hcs
    exact ⟨[], RowV.nil0 _ _ _⟩
  · obtain rfl : v = .slice (some a) len cap := by simpa using hcs
    simp only [if_true] at hz
    have hlen : (zs.take len).length = len := by rw [List.length_take]; omega
    refine ⟨zs.take len, by rw [ints, List.length_map, Nat.mul_one], some a, cap, by rw [hlen], by rw [hlen]; exact hl, hm, (fun h => by cases h), fun i u hu => ?_⟩
    have hi : i < len := by
      have := (List.getElem?_eq_some_iff.1 hu).1
      rw [ints, List.length_map, hlen] at this
      exact this
    have hu' : u = .int .i64 (zs.getD i 0) := by
      rw [ints, List.getElem?_map, List.getElem?_take_of_lt hi, List.getElem?_eq_getElem (by omega)] at hu
      rw [List.getD_eq_getElem?_getD, List.getElem?_eq_getElem (by omega)]
      simpa using hu.symm
    obtain ⟨b, o, rfl, hb, hc⟩ := plain_of_cell (hcell i (by omega)) ⟨_, hcell 0 (by omega)⟩
    exact ⟨b, o, rfl, by simp, hb, by rw [hc, hu']⟩

set_option maxRecDepth 100000 in
/-- The six cells of an arc. -/
theorem arc_at {n : Nat} {cs : List Value} {x : DataW H × List MemPlace} (hlen : cs.length = 6) (h : DataW.trod enc Try.prog W 0 (fun _ => true) true n 24 cs = some x) :
    ∃ p : Value × RA, cs = arcC p ∧ RowV W [] p.1 p.2.not.length 1 (ints p.2.not) := by
  obtain ⟨xs, k, _, _, _, hxl, hf⟩ := DataW.trod_struct Try.underlying24 h
  match xs, hxl, cs, hlen with
  | [y0, y1, y2, y3, y4, y5], _, [c0, c1, c2, c3, c4, c5], _ =>
    obtain ⟨z0, rfl⟩ := int_at (n := k) (by simpa [cellsInt] using hf 0 _ rfl)
    obtain ⟨z1, rfl⟩ := int_at (n := k) (by simpa [cellsInt] using hf 1 _ rfl)
    obtain ⟨z2, rfl⟩ := int_at (n := k) (by simpa [cellsInt] using hf 2 _ rfl)
    obtain ⟨z3, rfl⟩ := int_at (n := k) (by simpa [cellsInt] using hf 3 _ rfl)
    obtain ⟨l, hl⟩ := not_at (n := k) (v := c4) (by simpa [cellsIs] using hf 4 _ rfl)
    obtain ⟨z5, rfl⟩ := int_at (n := k) (by simpa [cellsInt] using hf 5 _ rfl)
    exact ⟨(c4, ⟨z0, z1, z2, z3, l, z5⟩), rfl, hl⟩

instance : Inhabited (Value × RA) := ⟨(.int .i64 0, ⟨0, 0, 0, 0, [], 0⟩)⟩

set_option maxRecDepth 100000 in
theorem arcs_at {n : Nat} {v : Value} {x : DataW H × List MemPlace} (h : DataW.trod enc Try.prog W 0 (fun _ => true) true n 25 [v] = some x) : ∃ row, ArcsAt W [] v row := by
  rcases open_slice Try.underlying25 h with ⟨hcs, -⟩ | ⟨a, len, cap, m, k, D, Pl, hcs, _, hl, hm, hmm, -, hx⟩
  · obtain rfl : v = .slice none 0 0 := by simpa using hcs
    exact ⟨[], [], rfl, RowV.nil0 _ _ _, by simp⟩
  · obtain rfl : v = .slice (some a) len cap := by simpa using hcs
    simp only [if_true] at hmm
    have hmm' := hmm.symm
    subst hmm'
    obtain ⟨f, hf⟩ := choose_lt (α := Value × RA) (n := cap) (p := fun i p => (∀ j u, (arcC p)[j]? = some u → W.cell? (a.add (i * 6 + j)) = some u) ∧ RowV W [] p.1 p.2.not.length 1 (ints p.2.not)) (fun i hi => by
      obtain ⟨cs', h1, h2⟩ := hx i hi
      rw [cellsArc] at h1
      obtain ⟨_, hlen, hcell⟩ := World.cells?_some h1
      obtain ⟨p, rfl, hp⟩ := arc_at hlen h2
      refine ⟨p, fun j u hu => ?_, hp⟩
      have hj : j < 6 := (List.getElem?_eq_some_iff.1 hu).1
      have := hcell j hj
      rw [add_add] at this
      rw [this, hu])
    refine ⟨((List.range len).map f).map (·.2), (List.range len).map f, rfl, ⟨by rw [rowC_len]; simp, some a, cap, by simp, by simpa using hl, hm, (fun h => by cases h), fun i u hu => ?_⟩, fun p hp => ?_⟩
    · have hi : i < len * 6 := by
        have := (List.getElem?_eq_some_iff.1 hu).1
        rw [rowC_len] at this
        simpa using this
      have hq : i / 6 < len := by omega
      have e := rowC_get (l := (List.range len).map f) (i := i / 6) (p := f (i / 6)) (by simp [hq]) (i % 6) (Nat.mod_lt _ (by decide))
      rw [show i / 6 * 6 + i % 6 = i by omega] at e
      rw [e] at hu
      have hc := (hf (i / 6) (by omega)).1 _ _ hu
      rw [show i / 6 * 6 + i % 6 = i by omega] at hc
      obtain ⟨b, o, rfl, hb, hc⟩ := plain_of_cell hc ⟨_, (hf 0 (by omega)).1 0 _ rfl⟩
      exact ⟨b, o, rfl, by simp, hb, hc⟩
    · obtain ⟨i, hi, rfl⟩ := List.mem_map.1 hp
      exact (hf i (by have := List.mem_range.1 hi; omega)).2

instance : Inhabited (List RA) := ⟨[]⟩

set_option maxRecDepth 100000 in
theorem states_at {n : Nat} {v : Value} {x : DataW H × List MemPlace} (h : DataW.trod enc Try.prog W 0 (fun _ => true) true n 26 [v] = some x) : ∃ st, StatesAt W [] v st := by
  rcases open_slice1 Try.underlying26 cellsRow h with ⟨hcs, -⟩ | ⟨a, len, cap, m, k, V, D, Pl, hcs, _, hl, hm, hmm, -, hcell⟩
  · obtain rfl : v = .slice none 0 0 := by simpa using hcs
    exact ⟨[], [], rfl, RowV.nil0 _ _ _, by simp⟩
  · obtain rfl : v = .slice (some a) len cap := by simpa using hcs
    simp only [if_true] at hmm
    have hmm' := hmm.symm
    subst hmm'
    obtain ⟨f, hf⟩ := choose_lt (α := List RA) (n := cap) (p := fun i row => ArcsAt W [] (V i) row) (fun i hi => arcs_at (hcell i hi).2)
    refine ⟨((List.range len).map fun i => (V i, f i)).map (·.2), (List.range len).map fun i => (V i, f i), rfl, ⟨by simp, some a, cap, by simp, by simpa using hl, hm, (fun h => by cases h), fun i u hu => ?_⟩, fun p hp => ?_⟩
    · have hi : i < len := by
        have := (List.getElem?_eq_some_iff.1 hu).1
        simpa using this
      have hu' : V i = u := by simpa [hi] using hu
      obtain ⟨b, o, rfl, hb, hc⟩ := plain_of_cell (hcell i (by omega)).1 ⟨_, (hcell 0 (by omega)).1⟩
      exact ⟨b, o, rfl, by simp, hb, by rw [hc, hu']⟩
    · obtain ⟨i, hi, rfl⟩ := List.mem_map.1 hp
      exact hf i (by have := List.mem_range.1 hi; omega)

set_option maxRecDepth 100000 in
theorem mach_open {base : Nat} {v : Value} {d : DataW H} {ps : List MemPlace} (hv : Value.okWide Try.prog W .any base 28 v) (h : DataW.Trod enc Try.prog W 0 (fun _ => true) true 28 v d ps) :
    ∃ m sv, v = machV m sv ∧ StatesAt W [] sv m.states := by
  obtain ⟨cs, rfl, hsz⟩ := okWide_struct Try.underlying28 hv
  rw [cellsMach] at hsz
  obtain ⟨fuel, hf⟩ := h
  obtain ⟨xs, n, _, _, _, hxl, hfs⟩ := DataW.trod_struct Try.underlying28 hf
  obtain ⟨l⟩ := cs
  match xs, hxl, l, hsz with
  | [y0, y1, y2, y3], _, [c0, c1, c2, c3], _ =>
    obtain ⟨z0, rfl⟩ := int_at (n := n) (by simpa [Value.cells, cellsInt] using hfs 0 _ rfl)
    obtain ⟨z1, rfl⟩ := int_at (n := n) (by simpa [Value.cells, cellsInt] using hfs 1 _ rfl)
    obtain ⟨z2, rfl⟩ := int_at (n := n) (by simpa [Value.cells, cellsInt] using hfs 2 _ rfl)
    obtain ⟨st, hst⟩ := states_at (n := n) (v := c3) (by simpa [Value.cells, cellsRows] using hfs 3 _ rfl)
    exact ⟨⟨z0, z1, z2, st⟩, c3, rfl, hst⟩

set_option maxRecDepth 100000 in
theorem arc_open {base : Nat} {v : Value} {d : DataW H} {ps : List MemPlace} (hv : Value.okWide Try.prog W .any base 24 v) (h : DataW.Trod enc Try.prog W 0 (fun _ => true) true 24 v d ps) :
    ∃ p : Value × RA, v = .agg (arcC p).toArray ∧ RowV W [] p.1 p.2.not.length 1 (ints p.2.not) := by
  obtain ⟨cs, rfl, hsz⟩ := okWide_struct Try.underlying24 hv
  rw [cellsArc] at hsz
  obtain ⟨fuel, hf⟩ := h
  obtain ⟨l⟩ := cs
  obtain ⟨p, hp, hr⟩ := arc_at (cs := l) (by simpa using hsz) (by simpa [Value.cells] using hf)
  exact ⟨p, by rw [hp], hr⟩
end
end Go.Proofs.Ytfndgiinniibfaa.Ind
