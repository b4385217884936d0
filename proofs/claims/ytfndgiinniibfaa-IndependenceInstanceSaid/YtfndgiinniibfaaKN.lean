/- Instance: what its loops carry; plain facts on places and arcs with four registers. -/
import Derived.Test.YtfndgiinniibfaaKM
namespace Go.Proofs.Ytfndgiinniibfaa.Ind
open Go.Shelf Go.RowKit Go.Lib Go.Sort

theorem toP_inj {x y : P5} (h : toP x = toP y) : x = y := by
  obtain ⟨s, a, b, c, d⟩ := x
  obtain ⟨s', a', b', c', d'⟩ := y
  simp [toP] at h
  simp [h]
theorem ex5 : ∀ (l : List Pl), (∀ p ∈ l, p.2.length = 4) → ∃ l5 : List P5, l5.map toP = l
  | [], _ => ⟨[], rfl⟩
  | p :: r, h => by
    obtain ⟨r5, hr⟩ := ex5 r (fun q hq => h q (List.mem_cons_of_mem _ hq))
    obtain ⟨a, b, c, d, e⟩ := four_ex (h p List.mem_cons_self)
    exact ⟨(p.1, a, b, c, d) :: r5, by rw [List.map_cons, hr, toP, ← e]⟩
theorem ex6 : ∀ (l : List Mv), (∀ x ∈ l, x.2.2.length = 4) → ∃ l6 : List M6, l6.map toM = l
  | [], _ => ⟨[], rfl⟩
  | p :: r, h => by
    obtain ⟨r5, hr⟩ := ex6 r (fun q hq => h q (List.mem_cons_of_mem _ hq))
    obtain ⟨a, b, c, d, e⟩ := four_ex (h p List.mem_cons_self)
    exact ⟨(p.1, p.2.1, a, b, c, d) :: r5, by rw [List.map_cons, hr, toM, toP, ← e]⟩
theorem mvsC_map (l : List M6) : mvsC (l.map toM) = l.flatMap enc6 := by
  rw [mvsC, List.flatMap_map]
  rfl
theorem allM_four {m : RM} {n : Nat} {p : Pl} (hv : validM m = true) (hp : GoodP m p) (hn : n ≤ 12) : ∀ x ∈ allM m n p, x.2.2.length = 4 := by
  intro x hx
  rw [allM, List.mem_flatMap] at hx
  obtain ⟨a, ha, hx⟩ := hx
  exact (moves_good (arcs_ok hv ha) hp hn hx).1
theorem compG_map (l : List M6) : (compG l).map toM = compG (l.map toM) := by
  match l with
  | [] => rfl
  | [a] => rfl
  | a :: b :: r =>
    have ih := compG_map (b :: r)
    rw [List.map_cons] at ih
    rw [compG, List.map_cons, List.map_cons, compG]
    by_cases h : a = b
    · rw [if_pos h, if_pos (by rw [h]), ih]
    · rw [if_neg h, if_neg (fun e => h (toM_inj e)), List.map_cons, ih]
/-- Sorting and striking gives the edges. -/
theorem edges_made {m : RM} {n : Nat} {p : Pl} {l6 : List M6} (h : l6.map toM = allM m n p) : (compG (l6.mergeSort fun x y => !ltOf cmp6 y x)).map toM = edgesB m n p := by
  rw [compG_map]
  refine comp_set sto_M (fun x => ?_) ?_
  · rw [← h]
    constructor
    · intro hx
      obtain ⟨y, hy, rfl⟩ := List.mem_map.1 hx
      exact List.mem_map.2 ⟨y, (List.mergeSort_perm _ _).mem_iff.1 hy, rfl⟩
    · intro hx
      obtain ⟨y, hy, rfl⟩ := List.mem_map.1 hx
      exact List.mem_map.2 ⟨y, (List.mergeSort_perm _ _).mem_iff.2 hy, rfl⟩
  · rw [List.pairwise_map]
    exact (pw_merge sto_6 l6).imp fun {a b} hab => by rw [cmp6_lt] at hab; exact hab
def encP5 (p : P5) : List Value := [.int .i64 p.1, .int .i64 p.2.1, .int .i64 p.2.2.1, .int .i64 p.2.2.2.1, .int .i64 p.2.2.2.2]
theorem infoPl : (Try.prog.info? 76).map (fun i => (i.zero, i.size, i.bytes)) = some (some (.agg #[.int .i64 0, .int .i64 0, .int .i64 0, .int .i64 0, .int .i64 0]), 5, 40) := by kernel_rfl
theorem infoAr : (Try.prog.info? 59).map (fun i => (i.zero, i.size, i.bytes)) = some (some (.agg #[.int .i64 0, .int .i64 0]), 2, 16) := by kernel_rfl
theorem infoRw : (Try.prog.info? 60).map (fun i => (i.zero, i.size, i.bytes)) = some (some (.slice none 0 0), 1, 24) := by kernel_rfl
/-- The numbers of the places. -/
def kvN (l : List P5) : List (P5 × Value) := l.zipIdx.map fun q => (q.1, .int .i64 (q.2 : Int))
theorem kvN_snoc (l : List P5) (p : P5) : kvN (l ++ [p]) = kvN l ++ [(p, .int .i64 (l.length : Int))] := by
  simp [kvN, List.zipIdx_append]
theorem getA_kvN_none {l : List P5} {p : P5} (h : p ∉ l) : getA (kvN l) p = none := by
  rw [getA_none]
  intro q hq
  obtain ⟨⟨x, i⟩, hx, rfl⟩ := List.mem_map.1 hq
  have := List.mem_zipIdx hx
  intro e
  apply h
  rw [← e]
  simp at this
  rw [this.2]
  exact List.getElem_mem _
theorem getA_kvN_some : ∀ {l : List P5} {p : P5}, p ∈ l → ∀ k : Nat, getA ((l.zipIdx k).map fun q => (q.1, Value.int .i64 (q.2 : Int))) p = some (.int .i64 ((l.idxOf p + k : Nat) : Int))
  | [], p, h, k => by cases h
  | a :: r, p, h, k => by
    rw [List.zipIdx_cons, List.map_cons, getA, List.find?_cons]
    by_cases e : a = p
    · subst e
      simp
    · have hd : decide (a = p) = false := decide_eq_false e
      rw [hd]
      have hr : p ∈ r := by
        rcases List.mem_cons.1 h with h | h
        · exact absurd h.symm e
        · exact h
      have ih := getA_kvN_some hr (k + 1)
      rw [getA] at ih
      rw [List.idxOf_cons, show (a == p) = false by simpa using e]
      simp only [cond_false]
      rw [ih]
      congr 3
      omega
theorem idx_map {l : List P5} {p : P5} : (l.map toP).idxOf (toP p) = l.idxOf p := by
  induction l with
  | nil => rfl
  | cons a r ih =>
    rw [List.map_cons, List.idxOf_cons, List.idxOf_cons, ih]
    by_cases e : a = p
    · subst e; simp
    · have h1 : (a == p) = false := by simpa using e
      have h2 : (toP a == toP p) = false := by simpa using fun h => e (toP_inj h)
      rw [h1, h2]
theorem mem_map5 {l : List P5} {p : P5} : toP p ∈ l.map toP ↔ p ∈ l := by
  constructor
  · intro h
    obtain ⟨q, hq, e⟩ := List.mem_map.1 h
    rw [← toP_inj e]; exact hq
  · exact fun h => List.mem_map.2 ⟨p, h, rfl⟩
/-- A place that has a number; a new one. -/
theorem num_old {l : List P5} {p : P5} (h : p ∈ l) : numP (l.map toP) (toP p) = (l.map toP, l.idxOf p) := by
  rw [numP, if_pos (mem_map5.2 h), idx_map]
theorem num_new {l : List P5} {p : P5} (h : p ∉ l) : numP (l.map toP) (toP p) = ((l ++ [p]).map toP, l.length) := by
  rw [numP, if_neg (fun h9 => h (mem_map5.1 h9)), List.map_append, List.length_map]
  rfl
/-- A system's rows, only read. -/
def LtsAt (w : World) (F : List Nat) (v : Value) (rows : List (List Ar)) : Prop :=
  ∃ vs : List Value, RowV w F v rows.length 1 vs ∧ ∀ (i : Nat) (r : List Ar), rows[i]? = some r → ∃ u, vs[i]? = some u ∧ RowV w F u r.length 2 (r.flatMap arE)
theorem LtsAt.step {w w' : World} {F F' fp : List Nat} {v : Value} {rows : List (List Ar)} (h : LtsAt w F v rows) (hf : Frm fp w w') (hn : ∀ k ∈ fp, k ∈ F ∨ w.heap.size ≤ k) (hF : ∀ k ∈ F', k ∈ F ∨ w.heap.size ≤ k) : LtsAt w' F' v rows := by
  obtain ⟨vs, h1, h2⟩ := h
  refine ⟨vs, h1.step hf hn hF, fun i r hr => ?_⟩
  obtain ⟨u, hu, h3⟩ := h2 i r hr
  exact ⟨u, hu, h3.step hf hn hF⟩
/-- A system's rows while they are being gathered: the outer row is the call's own. -/
def LtsOwn (w : World) (B : Nat) (F : List Nat) (v : Value) (rows : List (List Ar)) : Prop :=
  ∃ vs : List Value, w.ownsRow B 60 1 v rows.length vs ∧ (∀ k, v.ownBlock = some k → k ∈ F) ∧ (∀ u ∈ vs, u.oneCell' = true) ∧ ∀ (i : Nat) (r : List Ar), rows[i]? = some r → ∃ u, vs[i]? = some u ∧ RowV w F u r.length 2 (r.flatMap arE)

end Go.Proofs.Ytfndgiinniibfaa.Ind
