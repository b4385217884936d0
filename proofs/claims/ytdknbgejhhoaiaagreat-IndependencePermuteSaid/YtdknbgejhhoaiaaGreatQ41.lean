/- Texts S9, R6. -/
import Derived.Test.YtdknbgejhhoaiaaGreatQ38
import Derived.Test.YtdknbgejhhoaiaaGreatQ02
import Derived.Deep.SlicePairs
/- A slice of integers opened; nil has no capacity. -/
namespace Go.Proofs.YtdknbgejhhoaiaaGreat
open Go.RowKit Go.WideShapes Go.ChangeShapes Go.Deep

set_option maxRecDepth 100000 in
theorem ints_open2 {H : Type} {enc : TypeId × Value → H} {W : World} {base : Nat} {v : Value} {d : DataW H} {ps : List MemPlace} (hv : Value.okWide Tryz.prog W .any base 22 v) (h : DataW.Trod enc Tryz.prog W 0 (fun _ => true) true 22 v d ps) :
    ∃ a cap xs, v = .slice a (List.length xs) cap ∧ Rd W.heap.size W a xs.length cap 1 (ints xs) ∧ (a = none → cap = 0) := by
  obtain ⟨a, cap, xs, rfl, h1, h2⟩ := ints_open hv h
  refine ⟨a, cap, xs, rfl, h1, fun ha => ?_⟩
  subst ha
  obtain ⟨fuel, hf⟩ := h
  rcases open_ints Tryz.underlying22 Tryz.underlying3 cellsInt hf with ⟨hcs, -⟩ | ⟨a, len', cap', zs, hcs, _⟩
  · simp [Value.cells] at hcs
    exact hcs.2
  · simp [Value.cells] at hcs

end Go.Proofs.YtdknbgejhhoaiaaGreat

/- Arguments opened: a transition system. (Cut from the graph's PA.) -/
namespace Go.Proofs.YtdknbgejhhoaiaaGreat
open Go.RowKit Go.WideShapes Go.ChangeShapes Go.Deep

theorem cellsArc : Tryz.prog.cellsOf 55 = 2 := by kernel_rfl
theorem cellsRow : Tryz.prog.cellsOf 51 = 1 := by kernel_rfl
theorem cellsRows : Tryz.prog.cellsOf 23 = 1 := by kernel_rfl
theorem cellsLts : Tryz.prog.cellsOf 25 = 1 := by kernel_rfl
theorem bytesArc : Tryz.prog.bytesOf 55 = 16 := by kernel_rfl
theorem bytesRow : Tryz.prog.bytesOf 51 = 24 := by kernel_rfl

section
variable {H : Type} {enc : TypeId × Value → H} {W : World}

theorem weights_all {e : TypeId} : ∀ {ds : List (DataW H)} {d : DataW H}, d ∈ ds → ∀ n ∈ d.weights Tryz.prog e, n ∈ DataW.weightsAll Tryz.prog e ds
  | x :: r, d, hd, n, hn => by
    rw [DataW.weightsAll, List.mem_append]
    rcases List.mem_cons.1 hd with rfl | hd
    · exact .inl hn
    · exact .inr (weights_all hd n hn)

set_option maxRecDepth 100000 in
theorem row_open {n : Nat} {v : Value} {x : DataW H × List MemPlace} (h : DataW.trod enc Tryz.prog W 0 (fun _ => true) true n 51 [v] = some x) (hz : ∀ k ∈ x.1.weights Tryz.prog 51, k ≤ reachBytes) :
    ∃ ra rc row, v = .slice ra (List.length row) rc ∧ RowR W.heap.size W ra rc row := by
  rcases open_slice_pairs Tryz.underlying51 Tryz.underlying55 cellsArc rfl rfl cellsInt cellsInt h with ⟨hcs, -⟩ | ⟨a, len, cap, m, k, V0, V1, D0, D1, P0, P1, hcs, _, hl, hm, hmm, rfl, hcell⟩
  · obtain rfl : v = .slice none 0 0 := by simpa using hcs
    exact ⟨none, 0, [], rfl, by simp, by decide, by simp, fun j e t hj => by simp at hj⟩
  · obtain rfl : v = .slice (some a) len cap := by simpa using hcs
    simp only [if_true] at hmm
    have hmm' := hmm.symm
    subst hmm'
    have hV : ∀ i, i < cap → ∃ x0 x1 : Int, V0 i = .int .i64 x0 ∧ V1 i = .int .i64 x1 := fun i hi => by
      obtain ⟨_, _, h0, h1⟩ := hcell i hi
      obtain ⟨y0, e0, _⟩ := DataW.trod_int Tryz.underlying3 h0
      obtain ⟨y1, e1, _⟩ := DataW.trod_int Tryz.underlying3 h1
      exact ⟨y0, y1, by simpa using e0, by simpa using e1⟩
    obtain ⟨f, hf⟩ := choose_lt (α := Int × Int) (n := cap) (p := fun i q => V0 i = .int .i64 q.1 ∧ V1 i = .int .i64 q.2) (fun i hi => by
      obtain ⟨x0, x1, h0, h1⟩ := hV i hi
      exact ⟨(x0, x1), h0, h1⟩)
    have hw := hz ((len + (cap - len)) * 16) (by simp [DataW.weights, Tryz.underlying51, bytesArc])
    have hr : reachBytes = 140737488351232 := rfl
    have hlen : ((List.range len).map f).length = len := by simp
    refine ⟨some a, cap, (List.range len).map f, by rw [hlen], ?_⟩
    refine ⟨by rw [hlen]; exact hl, hm, by rw [hlen]; omega, fun j e t hj => ?_⟩
    have hjl : j < len := by
      have := (List.getElem?_eq_some_iff.1 hj).1
      simpa using this
    have hft : f j = (e, t) := by simpa [hjl] using hj
    obtain ⟨c0, c1, _, _⟩ := hcell j (by omega)
    obtain ⟨e0, e1⟩ := hf j (by omega)
    obtain ⟨z0, _, _, _⟩ := hcell 0 (by omega)
    rw [hft] at e0 e1
    rw [e0] at c0
    rw [e1] at c1
    obtain ⟨b, o, rfl, hb, hc⟩ := plain_of_cell c0 ⟨_, z0⟩
    rw [add_plain] at c1
    exact ⟨b, o, rfl, hb, hc, by rw [Nat.add_assoc]; exact c1⟩

set_option maxRecDepth 100000 in
theorem lts_open {base : Nat} {v : Value} {d : DataW H} {ps : List MemPlace} (hv : Value.okWide Tryz.prog W .any base 25 v) (h : DataW.Trod enc Tryz.prog W 0 (fun _ => true) true 25 v d ps) (hz : ∀ k ∈ d.weights Tryz.prog 25, k ≤ reachBytes) :
    ∃ a cap l, v = .agg #[.slice a (List.length l) cap] ∧ LAt W.heap.size W a cap l := by
  obtain ⟨cs, rfl, hsz⟩ := okWide_struct Tryz.underlying25 hv
  obtain ⟨c, rfl⟩ : ∃ c, cs = #[c] := by
    rw [cellsLts] at hsz
    exact Array.size_eq_one_iff.1 hsz
  obtain ⟨fuel, hf⟩ := h
  obtain ⟨xs, n, _, hx, _, hxl, hfs⟩ := DataW.trod_struct Tryz.underlying25 hf
  obtain ⟨y, rfl⟩ : ∃ y, xs = [y] := List.length_eq_one_iff.1 (by simpa using hxl)
  have h0 := hfs 0 _ rfl
  simp only [Prod.mk.injEq] at hx
  obtain ⟨rfl, rfl⟩ := hx
  have h1 : DataW.trod enc Tryz.prog W 0 (fun _ => true) true n 23 [c] = some y := by simpa [Value.cells, cellsRows] using h0
  have hz1 : ∀ k ∈ y.1.weights Tryz.prog 23, k ≤ reachBytes := fun k hk => hz k (by simp [DataW.weights, DataW.weightsEach, Tryz.underlying25, hk])
  rcases open_slice1 Tryz.underlying23 cellsRow h1 with ⟨hcs, -⟩ | ⟨a, len, cap, m, k, V, D, Pl, hcs, _, hl, hm, hmm, rfl, hcell⟩
  · obtain rfl : c = .slice none 0 0 := by simpa using hcs
    exact ⟨none, 0, [], rfl, ⟨Nat.le_refl _, by decide, by simp, fun i row hi => by simp at hi⟩⟩
  · obtain rfl : c = .slice (some a) len cap := by simpa using hcs
    simp only [if_true] at hmm
    have hmm' := hmm.symm
    subst hmm'
    have hw := hz1 ((len + (cap - len)) * 24) (by simp [DataW.weights, Tryz.underlying23, bytesRow])
    have hr : reachBytes = 140737488351232 := rfl
    have hV : ∀ i, i < len → ∃ q : Option Addr × Nat × List Arc, V i = .slice q.1 q.2.2.length q.2.1 ∧ RowR W.heap.size W q.1 q.2.1 q.2.2 := fun i hi => by
      obtain ⟨ra, rc, row, e, hrow⟩ := row_open (hcell i (by omega)).2 (fun k hk => hz1 k (by
        simp only [DataW.weights, Tryz.underlying23, List.mem_cons, List.mem_append]
        exact .inr (.inl (weights_all (List.mem_map.2 ⟨i, List.mem_range.2 hi, rfl⟩) k hk))))
      exact ⟨(ra, rc, row), e, hrow⟩
    obtain ⟨f, hf⟩ := choose_lt (α := Option Addr × Nat × List Arc) hV
    have hlen : ((List.range len).map fun i => (f i).2.2).length = len := by simp
    refine ⟨some a, cap, (List.range len).map fun i => (f i).2.2, by rw [hlen], ⟨by rw [hlen]; exact hl, hm, by rw [hlen]; omega, fun i row hi => ?_⟩⟩
    have hil : i < len := by
      have := (List.getElem?_eq_some_iff.1 hi).1
      simpa using this
    have hfr : (f i).2.2 = row := by simpa [hil] using hi
    obtain ⟨e1, e2⟩ := hf i hil
    obtain ⟨b, o, rfl, hb, hc⟩ := plain_of_cell (hcell i (by omega)).1 ⟨_, (hcell 0 (by omega)).1⟩
    rw [e1] at hc
    rw [hfr] at hc e2
    exact ⟨b, o, _, _, rfl, hb, hc, e2⟩
end
end Go.Proofs.YtdknbgejhhoaiaaGreat
