/- Texts UD, UE. -/
import Derived.Test.YtdknbgejhhoaiaaGreatQ09
import Derived.Test.YtdknbgejhhoaiaaGreatQ39
/- Plain: the moves of a machine with permuted values. -/
namespace Go.Proofs.YtdknbgejhhoaiaaGreat.Ind
open Go.RowKit

def pv (pi : List Int) (v : Int) : Int := pi[v.toNat]?.getD 0
def pp (pi : List Int) (p : Pl) : Pl := (p.1, p.2.map (pv pi))
/-- A permutation that keeps 0, of three values or of four. -/
structure PG (pi : List Int) (n : Nat) : Prop where
  n34 : n = 3 ∨ n = 4
  z : pv pi 0 = 0
  rng : ∀ v, 0 ≤ v → v < (n : Int) → 0 ≤ pv pi v ∧ pv pi v < n
  inj : ∀ u v, 0 ≤ u → u < (n : Int) → 0 ≤ v → v < (n : Int) → pv pi u = pv pi v → u = v
  sur : ∀ v, 0 ≤ v → v < (n : Int) → ∃ u, 0 ≤ u ∧ u < (n : Int) ∧ pv pi u = v
theorem pg3 (pi : List Int) (hz : pv pi 0 = 0) (h : (pv pi 1 = 1 ∧ pv pi 2 = 2) ∨ (pv pi 1 = 2 ∧ pv pi 2 = 1)) : PG pi 3 := by
  have c : ∀ v : Int, 0 ≤ v → v < ((3 : Nat) : Int) → v = 0 ∨ v = 1 ∨ v = 2 := fun v a b => by omega
  refine ⟨.inl rfl, hz, fun v a b => ?_, fun u v a b a' b' e => ?_, fun v a b => ?_⟩
  · rcases c v a b with rfl | rfl | rfl <;> omega
  · rcases c v a' b' with rfl | rfl | rfl <;> rcases c u a b with rfl | rfl | rfl <;> omega
  · rcases c v a b with rfl | rfl | rfl
    · exact ⟨0, by omega, by omega, hz⟩
    · rcases h with h | h
      · exact ⟨1, by omega, by omega, h.1⟩
      · exact ⟨2, by omega, by omega, h.2⟩
    · rcases h with h | h
      · exact ⟨2, by omega, by omega, h.2⟩
      · exact ⟨1, by omega, by omega, h.1⟩
theorem pg4 (pi : List Int) (hz : pv pi 0 = 0) (h : (pv pi 1 = 2 ∧ pv pi 2 = 1 ∧ pv pi 3 = 3) ∨ (pv pi 1 = 2 ∧ pv pi 2 = 3 ∧ pv pi 3 = 1)) : PG pi 4 := by
  have c : ∀ v : Int, 0 ≤ v → v < ((4 : Nat) : Int) → v = 0 ∨ v = 1 ∨ v = 2 ∨ v = 3 := fun v a b => by omega
  refine ⟨.inr rfl, hz, fun v a b => ?_, fun u v a b a' b' e => ?_, fun v a b => ?_⟩
  · rcases c v a b with rfl | rfl | rfl | rfl <;> omega
  · rcases c v a' b' with rfl | rfl | rfl | rfl <;> rcases c u a b with rfl | rfl | rfl | rfl <;> omega
  · rcases h with ⟨h1, h2, h3⟩ | ⟨h1, h2, h3⟩
    · rcases c v a b with rfl | rfl | rfl | rfl
      · exact ⟨0, by omega, by omega, hz⟩
      · exact ⟨2, by omega, by omega, h2⟩
      · exact ⟨1, by omega, by omega, h1⟩
      · exact ⟨3, by omega, by omega, h3⟩
    · rcases c v a b with rfl | rfl | rfl | rfl
      · exact ⟨0, by omega, by omega, hz⟩
      · exact ⟨3, by omega, by omega, h3⟩
      · exact ⟨1, by omega, by omega, h1⟩
      · exact ⟨2, by omega, by omega, h2⟩
theorem pg_a : PG [0, 2, 1] 3 := pg3 _ rfl (.inr ⟨rfl, rfl⟩)
theorem pg_b : PG [0, 1, 2] 3 := pg3 _ rfl (.inl ⟨rfl, rfl⟩)
theorem pg_c : PG [0, 2, 1, 3] 4 := pg4 _ rfl (.inl ⟨rfl, rfl, rfl⟩)
theorem pg_d : PG [0, 2, 3, 1] 4 := pg4 _ rfl (.inr ⟨rfl, rfl, rfl⟩)

/-- What the law's machines have. -/
structure Sm (m : RM) : Prop where
  regs : 0 ≤ m.regs ∧ m.regs ≤ 2
  data : m.data = 2
  plain : m.plain = 1
  few : 1 ≤ m.states.length ∧ m.states.length ≤ 3
  valid : validM m = true
structure ArcS (m : RM) (a : RA) : Prop where
  ch : (a.kind = 4 ∨ a.kind = 5) → 0 ≤ a.ch ∧ a.ch < 2
  ch3 : a.kind = 3 → 0 ≤ a.ch ∧ a.ch < 1
  reg : -1 ≤ a.reg ∧ a.reg ≤ 1
  kind : 1 ≤ a.kind ∧ a.kind ≤ 7
  tg : 0 ≤ a.to ∧ a.to < m.states.length
theorem arc_s {m : RM} {a : RA} (hm : Sm m) (h : arcB m a = true) : ArcS m a := by
  have ho := arc_ok (validM_ok hm.valid) h
  have hk0 := ho.k
  obtain ⟨kind, ch, reg, frm, not, tgt⟩ := a
  have hr := hm.regs
  have hd := hm.data
  have hp := hm.plain
  simp only [arcB, Bool.and_eq_true, below_iff, restB] at h
  obtain ⟨⟨t0, t1⟩, h⟩ := h
  have hk : 1 ≤ kind ∧ kind ≤ 7 := hk0
  by_cases h12 : kind = 1 ∨ kind = 2
  · rw [if_pos h12] at h
    simp at h
    refine ⟨?_, ?_, ?_, hk, ⟨t0, t1⟩⟩ <;> simp only <;> omega
  · rw [if_neg h12] at h
    by_cases h3 : kind = 3
    · rw [if_pos h3] at h
      simp [below_iff] at h
      refine ⟨?_, ?_, ?_, hk, ⟨t0, t1⟩⟩ <;> simp only <;> omega
    · rw [if_neg h3] at h
      by_cases h4 : kind = 4
      · rw [if_pos h4] at h
        simp [below_iff] at h
        refine ⟨?_, ?_, ?_, hk, ⟨t0, t1⟩⟩ <;> simp only <;> omega
      · rw [if_neg h4] at h
        by_cases h5 : kind = 5
        · rw [if_pos h5] at h
          simp [below_iff] at h
          refine ⟨?_, ?_, ?_, hk, ⟨t0, t1⟩⟩ <;> simp only <;> omega
        · rw [if_neg h5] at h
          by_cases h6 : kind = 6
          · rw [if_pos h6] at h
            simp [below_iff] at h
            refine ⟨?_, ?_, ?_, hk, ⟨t0, t1⟩⟩ <;> simp only <;> omega
          · rw [if_neg h6] at h
            by_cases h8 : kind = 7
            · rw [if_pos h8] at h
              simp [below_iff] at h
              refine ⟨?_, ?_, ?_, hk, ⟨t0, t1⟩⟩ <;> simp only <;> omega
            · rw [if_neg h8] at h
              cases h
/-- A place that such a machine reaches. -/
def GQ (m : RM) (n : Nat) (p : Pl) : Prop := ∃ s a b : Nat, p = ((s : Int), [(a : Int), (b : Int), 0, 0]) ∧ s < m.states.length ∧ a < n ∧ b < n
theorem GQ.val {m : RM} {n : Nat} {p : Pl} (h : GQ m n p) : ∀ v ∈ p.2, 0 ≤ v ∧ v < (n : Int) := by
  obtain ⟨s, a, b, rfl, _, ha, hb⟩ := h
  intro v hv
  simp only [List.mem_cons, List.not_mem_nil, or_false] at hv
  rcases hv with rfl | rfl | rfl | rfl <;> omega
theorem GQ.reg {m : RM} {n : Nat} {p : Pl} (hn : 0 < n) (h : GQ m n p) (r : Int) : 0 ≤ regR p.2 r ∧ regR p.2 r < (n : Int) := by
  unfold regR
  cases hr : p.2[r.toNat]? with
  | none => simp; omega
  | some v => exact h.val v (List.mem_of_getElem? hr)
theorem GQ.set {m : RM} {n : Nat} {p : Pl} (h : GQ m n p) {a : RA} (ha : ArcS m a) {v : Int} (h0 : 0 ≤ v) (h1 : v < (n : Int)) : GQ m n (a.to, setR p.2 a.reg v) := by
  obtain ⟨s, x, y, rfl, _, hx, hy⟩ := h
  have ht := ha.tg
  have hr := ha.reg
  obtain ⟨t, et⟩ : ∃ t : Nat, a.to = t := ⟨a.to.toNat, by omega⟩
  obtain ⟨u, rfl⟩ : ∃ u : Nat, v = u := ⟨v.toNat, by omega⟩
  rcases (show a.reg = -1 ∨ a.reg = 0 ∨ a.reg = 1 by omega) with e | e | e
  · exact ⟨t, x, y, by rw [e, et]; rfl, by omega, hx, hy⟩
  · exact ⟨t, u, y, by rw [e, et]; rfl, by omega, by omega, hy⟩
  · exact ⟨t, x, u, by rw [e, et]; rfl, by omega, hx, by omega⟩
theorem GQ.tg {m : RM} {n : Nat} {p : Pl} (h : GQ m n p) {a : RA} (ha : ArcS m a) : GQ m n (a.to, p.2) := by
  obtain ⟨s, x, y, rfl, _, hx, hy⟩ := h
  have ht := ha.tg
  exact ⟨a.to.toNat, x, y, by congr 1; omega, by omega, hx, hy⟩
theorem GQ.pp {m : RM} {n : Nat} {p : Pl} {pi : List Int} (h : GQ m n p) (g : PG pi n) : GQ m n (pp pi p) := by
  obtain ⟨s, x, y, rfl, hs, hx, hy⟩ := h
  have h1 := g.rng x (by omega) (by omega)
  have h2 := g.rng y (by omega) (by omega)
  refine ⟨s, (pv pi x).toNat, (pv pi y).toNat, ?_, hs, by omega, by omega⟩
  simp only [Ind.pp, List.map_cons, List.map_nil, g.z]
  rw [Int.toNat_of_nonneg h1.1, Int.toNat_of_nonneg h2.1]
section
variable {m : RM} {n : Nat} {p : Pl} {a : RA} {pi : List Int}
theorem ev_data (hm : Sm m) (g : PG pi n) (ha : ArcS m a) (hk : a.kind = 4 ∨ a.kind = 5) {v : Int} (h0 : 0 ≤ v) (h1 : v < (n : Int)) : permE (m.data * n).toNat n pi (evB m n a v) = evB m n a (pv pi v) := by
  have hc := ha.ch hk
  have e : ∀ v, evB m n a v = 2 + a.ch * n + v := fun v => by
    rw [evB, if_neg (by omega), if_neg (by omega), if_pos hk]
  rw [e, e, hm.data]
  unfold permE
  rcases g.n34 with rfl | rfl
  · have h2 : (2 + a.ch * ((3 : Nat) : Int) + v - 2) % ((3 : Nat) : Int) = v := by omega
    have h3 : (2 + a.ch * ((3 : Nat) : Int) + v - 2) / ((3 : Nat) : Int) = a.ch := by omega
    rw [if_pos ⟨by omega, by omega⟩, h2, h3]
    rfl
  · have h2 : (2 + a.ch * ((4 : Nat) : Int) + v - 2) % ((4 : Nat) : Int) = v := by omega
    have h3 : (2 + a.ch * ((4 : Nat) : Int) + v - 2) / ((4 : Nat) : Int) = a.ch := by omega
    rw [if_pos ⟨by omega, by omega⟩, h2, h3]
    rfl
theorem ev_same (hk : ¬ (a.kind = 4 ∨ a.kind = 5)) (v u : Int) : evB m n a v = evB m n a u := by
  unfold evB
  rw [if_neg hk, if_neg hk]
theorem ev_other (hm : Sm m) (g : PG pi n) (ha : ArcS m a) (hk : ¬ (a.kind = 4 ∨ a.kind = 5)) (v u : Int) : permE (m.data * n).toNat n pi (evB m n a v) = evB m n a u := by
  have hd := hm.data
  rw [ev_same hk v u]
  have hb : evB m n a u < 2 ∨ 2 + m.data * n ≤ evB m n a u := by
    unfold evB
    split
    · omega
    · split
      · rename_i h3
        have := ha.ch3 h3
        right
        omega
      · first | omega | (rw [if_neg hk]; omega)
  unfold permE
  rw [if_neg]
  rw [hd] at hb ⊢
  rcases g.n34 with rfl | rfl <;> omega
theorem ev_bnd (hm : Sm m) (g : PG pi n) (ha : ArcS m a) {v : Int} (h0 : 0 ≤ v) (h1 : v < (n : Int)) : 0 ≤ evB m n a v ∧ evB m n a v < 2 + m.data * n + m.plain := by
  have hd := hm.data
  have hp := hm.plain
  unfold evB
  rw [hd, hp]
  split
  · rcases g.n34 with rfl | rfl <;> omega
  · split
    · rename_i h3
      have := ha.ch3 h3
      rcases g.n34 with rfl | rfl <;> omega
    · split
      · rename_i h4
        have := ha.ch h4
        rcases g.n34 with rfl | rfl <;> omega
      · rcases g.n34 with rfl | rfl <;> omega
theorem reg_pp (g : PG pi n) (rs : List Int) (r : Int) : regR (rs.map (pv pi)) r = pv pi (regR rs r) := by
  unfold regR
  rw [List.getElem?_map]
  cases rs[r.toNat]? with
  | none => exact g.z.symm
  | some v => rfl
theorem set_pp (rs : List Int) (r v : Int) : setR (rs.map (pv pi)) r (pv pi v) = (setR rs r v).map (pv pi) := by
  unfold setR
  split
  · rw [List.map_set]
  · rfl
theorem free_pp (g : PG pi n) (hp : GQ m n p) {v : Int} (h0 : 0 ≤ v) (h1 : v < (n : Int)) : freeB a (p.2.map (pv pi)) (pv pi v) = freeB a p.2 v := by
  unfold freeB
  congr 1
  congr 1
  funext r
  rw [reg_pp g]
  have hr := hp.reg (by rcases g.n34 with rfl | rfl <;> omega) r
  by_cases h : regR p.2 r = v
  · rw [h, decide_eq_true rfl, decide_eq_true rfl]
  · rw [decide_eq_false h, decide_eq_false (fun e => h (g.inj _ _ hr.1 hr.2 h0 h1 e))]
theorem mem_vals {rs : List Int} {v : Int} : v ∈ valsB n a rs ↔ (0 ≤ v ∧ v < (n : Int)) ∧ freeB a rs v = true := by
  simp only [valsB, List.mem_filter, List.mem_map, List.mem_range]
  constructor
  · rintro ⟨⟨k, hk, rfl⟩, h⟩
    exact ⟨⟨Int.natCast_nonneg k, by simpa using hk⟩, h⟩
  · rintro ⟨⟨h0, h1⟩, h⟩
    exact ⟨⟨v.toNat, by omega, by simp; omega⟩, h⟩
/-- A move with its values permuted. -/
def pm (m : RM) (n : Nat) (pi : List Int) (x : Mv) : Mv := (permE (m.data * n).toNat n pi x.1, pp pi x.2)
theorem moves_pp (hm : Sm m) (g : PG pi n) (hp : GQ m n p) (ha : ArcS m a) (y : Mv) : y ∈ movesB m n (pp pi p) a ↔ ∃ x ∈ movesB m n p a, y = pm m n pi x := by
  have hn : 0 < n := by rcases g.n34 with rfl | rfl <;> omega
  unfold movesB
  by_cases h5 : a.kind = 5
  · rw [if_pos h5, if_pos h5]
    have hr := hp.reg hn a.reg
    have e : pm m n pi (evB m n a (regR p.2 a.reg), a.to, p.2) = (evB m n a (regR (pp pi p).2 a.reg), a.to, (pp pi p).2) := by
      show (permE _ _ _ _, _) = _
      rw [ev_data hm g ha (.inr h5) hr.1 hr.2]
      show (_, (_, _)) = (evB m n a (regR (p.2.map (pv pi)) a.reg), _, _)
      rw [reg_pp g]
      rfl
    simp only [List.mem_singleton, exists_eq_left]
    rw [e]
  · rw [if_neg h5, if_neg h5]
    by_cases h7 : a.kind = 7
    · rw [if_pos h7, if_pos h7]
      have e : pm m n pi (evB m n a 0, a.to, setR p.2 a.reg (regR p.2 a.frm)) = (evB m n a 0, a.to, setR (pp pi p).2 a.reg (regR (pp pi p).2 a.frm)) := by
        show (permE _ _ _ _, _) = _
        rw [ev_other hm g ha (by omega) 0 0]
        show (_, (_, _)) = (_, _, setR (p.2.map (pv pi)) a.reg (regR (p.2.map (pv pi)) a.frm))
        rw [reg_pp g, set_pp]
      simp only [List.mem_singleton, exists_eq_left]
      rw [e]
    · rw [if_neg h7, if_neg h7]
      by_cases h46 : a.kind = 4 ∨ a.kind = 6
      · rw [if_pos h46, if_pos h46]
        have e : ∀ v, 0 ≤ v → v < (n : Int) → pm m n pi (evB m n a v, a.to, setR p.2 a.reg v) = (evB m n a (pv pi v), a.to, setR (pp pi p).2 a.reg (pv pi v)) := fun v h0 h1 => by
          show (permE _ _ _ _, _) = _
          have e1 : permE (m.data * n).toNat n pi (evB m n a v) = evB m n a (pv pi v) := by
            by_cases h4 : a.kind = 4
            · exact ev_data hm g ha (.inl h4) h0 h1
            · exact ev_other hm g ha (by omega) _ _
          rw [e1]
          show (_, (_, _)) = (_, _, setR (p.2.map (pv pi)) a.reg (pv pi v))
          rw [set_pp]
        simp only [List.mem_map, mem_vals]
        constructor
        · rintro ⟨v, ⟨⟨h0, h1⟩, hf⟩, rfl⟩
          obtain ⟨u, u0, u1, rfl⟩ := g.sur v h0 h1
          refine ⟨_, ⟨u, ⟨⟨u0, u1⟩, ?_⟩, rfl⟩, (e u u0 u1).symm⟩
          rw [← free_pp g hp u0 u1]
          exact hf
        · rintro ⟨_, ⟨v, ⟨⟨h0, h1⟩, hf⟩, rfl⟩, rfl⟩
          have hr := g.rng v h0 h1
          refine ⟨pv pi v, ⟨hr, ?_⟩, (e v h0 h1).symm⟩
          show freeB a (p.2.map (pv pi)) (pv pi v) = true
          rw [free_pp g hp h0 h1]
          exact hf
      · rw [if_neg h46, if_neg h46]
        have e : pm m n pi (evB m n a 0, a.to, p.2) = (evB m n a 0, a.to, (pp pi p).2) := by
          show (permE _ _ _ _, _) = _
          rw [ev_other hm g ha (by omega) 0 0]
          rfl
        simp only [List.mem_singleton, exists_eq_left]
        rw [e]
theorem arcs_s (hm : Sm m) {x : RA} (hx : x ∈ arcsOf m p) : ArcS m x := by
  unfold arcsOf at hx
  cases hr : m.states[p.1.toNat]? with
  | none => rw [hr] at hx; cases hx
  | some row =>
    rw [hr] at hx
    exact arc_s hm (validM_arc hm.valid (List.mem_of_getElem? hr) hx)
theorem edges_pp (hm : Sm m) (g : PG pi n) (hp : GQ m n p) (y : Mv) : y ∈ edgesB m n (pp pi p) ↔ ∃ x ∈ edgesB m n p, y = pm m n pi x := by
  unfold edgesB
  simp only [mem_setG sto_M, allM, List.mem_flatMap]
  constructor
  · rintro ⟨a, ha, hy⟩
    obtain ⟨x, hx, e⟩ := (moves_pp hm g hp (arcs_s hm ha) y).1 hy
    exact ⟨x, ⟨a, ha, hx⟩, e⟩
  · rintro ⟨x, ⟨a, ha, hx⟩, e⟩
    exact ⟨a, ha, (moves_pp hm g hp (arcs_s hm (p := p) ha) y).2 ⟨x, hx, e⟩⟩
theorem moves_gq (hm : Sm m) (g : PG pi n) (hp : GQ m n p) (ha : ArcS m a) {x : Mv} (hx : x ∈ movesB m n p a) : GQ m n x.2 ∧ 0 ≤ x.1 ∧ x.1 < 2 + m.data * n + m.plain := by
  have hn : 0 < n := by rcases g.n34 with rfl | rfl <;> omega
  have hz := ev_bnd hm g ha (v := 0) (by omega) (by omega)
  unfold movesB at hx
  split at hx
  · rw [List.mem_singleton.1 hx]
    have hr := hp.reg hn a.reg
    exact ⟨hp.tg ha, ev_bnd hm g ha hr.1 hr.2⟩
  · split at hx
    · rw [List.mem_singleton.1 hx]
      have hr := hp.reg hn a.frm
      exact ⟨hp.set ha hr.1 hr.2, hz⟩
    · split at hx
      · obtain ⟨v, hv, rfl⟩ := List.mem_map.1 hx
        have hr := (mem_vals.1 hv).1
        exact ⟨hp.set ha hr.1 hr.2, ev_bnd hm g ha hr.1 hr.2⟩
      · rw [List.mem_singleton.1 hx]
        exact ⟨hp.tg ha, hz⟩
theorem edges_gq (hm : Sm m) (g : PG pi n) (hp : GQ m n p) {x : Mv} (hx : x ∈ edgesB m n p) : GQ m n x.2 ∧ 0 ≤ x.1 ∧ x.1 < 2 + m.data * n + m.plain := by
  unfold edgesB at hx
  rw [mem_setG sto_M, allM, List.mem_flatMap] at hx
  obtain ⟨a, ha, hx⟩ := hx
  exact moves_gq hm g hp (arcs_s hm ha) hx
end
end Go.Proofs.YtdknbgejhhoaiaaGreat.Ind

/- Plain: the rows of an instance, and of a canonical form. -/
namespace Go.Proofs.YtdknbgejhhoaiaaGreat.Ind
open Go.RowKit

theorem nodup_sub {α : Type} [DecidableEq α] : ∀ (l L : List α), l.Nodup → (∀ x ∈ l, x ∈ L) → l.length ≤ L.length
  | [], _, _, _ => Nat.zero_le _
  | a :: r, L, hn, hs => by
    rw [List.nodup_cons] at hn
    have ha := hs a (by simp)
    have h1 := nodup_sub r (L.erase a) hn.2 (fun x hx => by
      have h2 := hs x (List.mem_cons_of_mem _ hx)
      exact (List.mem_erase_of_ne (by rintro rfl; exact hn.1 hx)).2 h2)
    have h3 : 0 < L.length := List.length_pos_of_mem ha
    rw [List.length_erase_of_mem ha] at h1
    simp only [List.length_cons]
    omega
/-- All places of at most three states and two registers with four values. -/
def allP : List Pl := (List.range 48).map fun k => (((k / 16 : Nat) : Int), [((k / 4 % 4 : Nat) : Int), ((k % 4 : Nat) : Int), 0, 0])
theorem gq_all {m : RM} {n : Nat} {p : Pl} (hm : Sm m) (hn : n ≤ 4) (h : GQ m n p) : p ∈ allP := by
  obtain ⟨s, a, b, rfl, hs, ha, hb⟩ := h
  have := hm.few
  refine List.mem_map.2 ⟨s * 16 + a * 4 + b, by rw [List.mem_range]; omega, ?_⟩
  have e1 : (s * 16 + a * 4 + b) / 16 = s := by omega
  have e2 : (s * 16 + a * 4 + b) / 4 % 4 = a := by omega
  have e3 : (s * 16 + a * 4 + b) % 4 = b := by omega
  rw [e1, e2, e3]
/-- What holds of the places and rows of an instance under way. -/
structure IO (m : RM) (n : Nat) (s : BS) (i : Nat) : Prop where
  nodup : s.all.Nodup
  good : ∀ q ∈ s.all, GQ m n q
  head : s.all[0]? = some (0, [0, 0, 0, 0])
  rows : s.rows.length = i
  le : i ≤ s.all.length
  tot : s.tot ≤ i * 192
  row : ∀ (k : Nat) (row : List Ar), s.rows[k]? = some row → ∃ p, s.all[k]? = some p ∧ Asc ltAr row ∧ row.length ≤ 192 ∧ (∀ a ∈ row, 0 ≤ a.2 ∧ a.2 < s.all.length) ∧ (∀ e q, (e, q) ∈ edgesB m n p ↔ ∃ t : Nat, s.all[t]? = some q ∧ (e, (t : Int)) ∈ row)
theorem io_start {m : RM} {n : Nat} (hm : Sm m) (hn : 0 < n) : IO m n start0 0 := by
  have h1 := hm.few
  refine ⟨by simp [start0], fun q hq => ?_, rfl, rfl, Nat.zero_le _, Nat.zero_le _, fun k row h => by simp [start0] at h⟩
  rw [show q = (0, [0, 0, 0, 0]) by simpa [start0] using hq]
  exact ⟨0, 0, 0, rfl, by omega, hn, hn⟩
theorem IO.few {m : RM} {n : Nat} {s : BS} {i : Nat} (h : IO m n s i) (hm : Sm m) (hn : n ≤ 4) : s.all.length ≤ 48 := by
  have := nodup_sub s.all allP h.nodup (fun x hx => gq_all hm hn (h.good x hx))
  simpa [allP] using this
theorem IO.step {m : RM} {n : Nat} {pi : List Int} {s : BS} {i : Nat} (h : IO m n s i) (hm : Sm m) (g : PG pi n) (hi : i < s.all.length) : IO m n (bstep m n s i) (i + 1) := by
  have hn12 : n ≤ 12 := by rcases g.n34 with rfl | rfl <;> omega
  obtain ⟨p, hp⟩ : ∃ p, s.all[i]? = some p := ⟨_, List.getElem?_eq_getElem hi⟩
  have hg := h.good p (List.mem_of_getElem? hp)
  have hr := rf h.nodup (edgesB m n p)
  have hl := edges_len (p := p) hm.valid hn12
  obtain ⟨x, hx⟩ := hr.pre
  have hrl : (setG ltAr (rowF s.all (edgesB m n p)).2).length ≤ 192 := by
    have := setG_le ltAr (rowF s.all (edgesB m n p)).2
    have := hr.row_len
    omega
  unfold bstep
  rw [hp, Option.getD_some]
  refine ⟨hr.nodup, fun q hq => ?_, ?_, by simp [h.rows], ?_, ?_, fun k row hk => ?_⟩
  · rcases hr.mem q hq with hq | ⟨y, hy, rfl⟩
    · exact h.good q hq
    · exact (edges_gq hm g hg hy).1
  · show (rowF s.all (edgesB m n p)).1[0]? = _
    rw [hx, List.getElem?_append_left (by omega)]
    exact h.head
  · show i + 1 ≤ (rowF s.all (edgesB m n p)).1.length
    rw [hx, List.length_append]
    omega
  · show s.tot + _ ≤ (i + 1) * 192
    have := h.tot
    omega
  · show ∃ q, (rowF s.all (edgesB m n p)).1[k]? = some q ∧ _
    by_cases hki : k < i
    · have hk2 : s.rows[k]? = some row := by
        have : (s.rows ++ [setG ltAr (rowF s.all (edgesB m n p)).2])[k]? = some row := hk
        rwa [List.getElem?_append_left (by rw [h.rows]; exact hki)] at this
      obtain ⟨q, hq, h1, h2, h3, h4⟩ := h.row k row hk2
      refine ⟨q, by rw [hx, List.getElem?_append_left (List.getElem?_eq_some_iff.1 hq).1]; exact hq, h1, h2, fun a ha => ?_, fun e z => ?_⟩
      · have := h3 a ha
        show 0 ≤ a.2 ∧ a.2 < ((rowF s.all (edgesB m n p)).1.length : Int)
        rw [hx, List.length_append]
        omega
      · rw [h4]
        show _ ↔ ∃ t : Nat, (rowF s.all (edgesB m n p)).1[t]? = some z ∧ _
        constructor
        · rintro ⟨t, ht, hm⟩
          exact ⟨t, by rw [hx, List.getElem?_append_left (List.getElem?_eq_some_iff.1 ht).1]; exact ht, hm⟩
        · rintro ⟨t, ht, hm⟩
          have := h3 _ hm
          simp only at this
          rw [hx, List.getElem?_append_left (by omega)] at ht
          exact ⟨t, ht, hm⟩
    · have hk1 : (s.rows ++ [setG ltAr (rowF s.all (edgesB m n p)).2])[k]? = some row := hk
      have hke : k = i := by
        have := (List.getElem?_eq_some_iff.1 hk1).1
        rw [List.length_append, h.rows, List.length_singleton] at this
        omega
      subst hke
      rw [List.getElem?_append_right (by rw [h.rows]; exact Nat.le_refl _), h.rows, Nat.sub_self] at hk1
      simp only [List.getElem?_cons_zero, Option.some.injEq] at hk1
      subst hk1
      refine ⟨p, by rw [hx, List.getElem?_append_left hi]; exact hp, setG_asc sto_Ar _, hrl, fun a ha => hr.bnd a ((mem_setG sto_Ar).1 ha), fun e z => ?_⟩
      show _ ↔ ∃ t : Nat, (rowF s.all (edgesB m n p)).1[t]? = some z ∧ _
      constructor
      · intro hz
        rw [← hr.row] at hz
        obtain ⟨a, ha, e1⟩ := List.mem_map.1 hz
        have hb := hr.bnd a ha
        simp only [Prod.mk.injEq] at e1
        obtain ⟨e1, e2⟩ := e1
        refine ⟨a.2.toNat, ?_, (mem_setG sto_Ar).2 ?_⟩
        · obtain ⟨v, hv⟩ : ∃ v, (rowF s.all (edgesB m n p)).1[a.2.toNat]? = some v := ⟨_, List.getElem?_eq_getElem (by omega)⟩
          rw [hv] at e2 ⊢
          rw [← e2]
          rfl
        · rw [Int.toNat_of_nonneg hb.1, ← e1]
          exact ha
      · rintro ⟨t, ht, ha⟩
        rw [← hr.row]
        refine List.mem_map.2 ⟨_, (mem_setG sto_Ar).1 ha, ?_⟩
        simp only [Int.toNat_natCast, ht, Option.getD_some]
theorem inst_go {m : RM} {n : Nat} {pi : List Int} (hm : Sm m) (g : PG pi n) : ∀ (f : Nat) (s : BS) (i : Nat), IO m n s i → 49 ≤ f + i → ∃ s', instGo m n f s i = some s'.rows ∧ IO m n s' s'.all.length
  | 0, s, i, h, hf => by
    have := h.few hm (by rcases g.n34 with rfl | rfl <;> omega)
    have := h.le
    omega
  | f + 1, s, i, h, hf => by
    have h4 : n ≤ 4 := by rcases g.n34 with rfl | rfl <;> omega
    rw [instGo]
    by_cases hi : i < s.all.length
    · have hs := h.step hm g hi
      have h1 := hs.few hm h4
      have h2 := hs.tot
      have h3 := h.few hm h4
      have hfull : fullB (bstep m n s i) = false := by
        simp only [fullB, Bool.or_eq_false_iff, decide_eq_false_iff_not]
        omega
      rw [if_pos hi, hfull, if_neg (by simp)]
      exact inst_go hm g f _ _ hs (by omega)
    · rw [if_neg hi]
      have : i = s.all.length := by have := h.le; omega
      subst this
      exact ⟨s, rfl, h⟩
theorem inst_some {m : RM} {n : Nat} {pi : List Int} (hm : Sm m) (g : PG pi n) : ∃ s, instR m n = some s.rows ∧ IO m n s s.all.length :=
  inst_go hm g 16400 start0 0 (io_start hm (by rcases g.n34 with rfl | rfl <;> omega)) (by omega)

/-- What holds of a canonical form under way. -/
structure CI (l : List (List Ar)) (s : CB) (i : Nat) : Prop where
  ok : CanOk l s i
  head : s.no.2[0]? = some 0
  row : ∀ (k : Nat) (row : List Ar), s.out[k]? = some row → ∃ o : Int, s.no.2[k]? = some o ∧ Asc ltAr row ∧ row.length ≤ (l[o.toNat]?.getD []).length ∧ (∀ a ∈ row, 0 ≤ a.2 ∧ a.2 < s.no.2.length) ∧ (∀ e z, (e, z) ∈ l[o.toNat]?.getD [] ↔ ∃ t : Nat, s.no.2[t]? = some z ∧ (e, (t : Int)) ∈ row)
theorem ci_start {l : List (List Ar)} (h : 0 < l.length) : CI l (canStart l.length) 0 := ⟨can_start h, by simp [canStart], fun k row hk => by simp [canStart] at hk⟩
theorem CI.step {l : List (List Ar)} {s : CB} {i : Nat} (h : CI l s i) (hl : Into l) (hi : i < s.no.2.length) : CI l (canStep l s i) (i + 1) := by
  obtain ⟨o, ho⟩ : ∃ o, s.no.2[i]? = some o := ⟨_, List.getElem?_eq_getElem hi⟩
  have hr := rowA_ok h.ok.ok (setG ltAr (l[o.toNat]?.getD [])) (into_set hl _)
  obtain ⟨x, hx, _⟩ := hr.grow
  have hc := h.ok.step hl hi
  have e : canStep l s i = ⟨(rowA s.no (setG ltAr (l[o.toNat]?.getD []))).1, s.out ++ [setG ltAr (rowA s.no (setG ltAr (l[o.toNat]?.getD []))).2]⟩ := by
    simp only [canStep, ho, Option.getD_some]
  rw [e] at hc ⊢
  refine ⟨hc, ?_, fun k row hk => ?_⟩
  · show (rowA s.no _).1.2[0]? = _
    rw [hx, List.getElem?_append_left (by omega)]
    exact h.head
  · show ∃ o, (rowA s.no _).1.2[k]? = some o ∧ _
    have hk1 : (s.out ++ [setG ltAr (rowA s.no (setG ltAr (l[o.toNat]?.getD []))).2])[k]? = some row := hk
    by_cases hki : k < i
    · rw [List.getElem?_append_left (by rw [h.ok.out]; exact hki)] at hk1
      obtain ⟨q, hq, h1, h2, h3, h4⟩ := h.row k row hk1
      refine ⟨q, by rw [hx, List.getElem?_append_left (List.getElem?_eq_some_iff.1 hq).1]; exact hq, h1, h2, fun a ha => ?_, fun e z => ?_⟩
      · have := h3 a ha
        show 0 ≤ a.2 ∧ a.2 < ((rowA s.no _).1.2.length : Int)
        rw [hx, List.length_append]
        omega
      · rw [h4]
        show _ ↔ ∃ t : Nat, (rowA s.no _).1.2[t]? = some z ∧ _
        constructor
        · rintro ⟨t, ht, hm⟩
          exact ⟨t, by rw [hx, List.getElem?_append_left (List.getElem?_eq_some_iff.1 ht).1]; exact ht, hm⟩
        · rintro ⟨t, ht, hm⟩
          have := h3 _ hm
          simp only at this
          rw [hx, List.getElem?_append_left (by omega)] at ht
          exact ⟨t, ht, hm⟩
    · have hke : k = i := by
        have := (List.getElem?_eq_some_iff.1 hk1).1
        rw [List.length_append, h.ok.out, List.length_singleton] at this
        omega
      subst hke
      rw [List.getElem?_append_right (by rw [h.ok.out]; exact Nat.le_refl _), h.ok.out, Nat.sub_self] at hk1
      simp only [List.getElem?_cons_zero, Option.some.injEq] at hk1
      subst hk1
      have hat : ∀ b ∈ (rowA s.no (setG ltAr (l[o.toNat]?.getD []))).2, ∃ a ∈ l[o.toNat]?.getD [], b.1 = a.1 ∧ 0 ≤ b.2 ∧ (rowA s.no (setG ltAr (l[o.toNat]?.getD []))).1.2[b.2.toNat]? = some a.2 := fun b hb => by
        obtain ⟨j, hj⟩ := List.getElem?_of_mem hb
        obtain ⟨a, ha⟩ : ∃ a, (setG ltAr (l[o.toNat]?.getD []))[j]? = some a := ⟨_, List.getElem?_eq_getElem (by rw [← hr.len]; exact (List.getElem?_eq_some_iff.1 hj).1)⟩
        have := hr.at_ j a b ha hj
        exact ⟨a, (mem_setG sto_Ar).1 (List.mem_of_getElem? ha), this⟩
      refine ⟨o, by rw [hx, List.getElem?_append_left hi]; exact ho, setG_asc sto_Ar _, ?_, fun b hb => ?_, fun e z => ?_⟩
      · have h1 := setG_le ltAr (rowA s.no (setG ltAr (l[o.toNat]?.getD []))).2
        have h2 := setG_le ltAr (l[o.toNat]?.getD [])
        have h3 := hr.len
        omega
      · obtain ⟨a, _, _, h0, h1⟩ := hat b ((mem_setG sto_Ar).1 hb)
        have := (List.getElem?_eq_some_iff.1 h1).1
        show 0 ≤ b.2 ∧ b.2 < ((rowA s.no _).1.2.length : Int)
        omega
      · show _ ↔ ∃ t : Nat, (rowA s.no _).1.2[t]? = some z ∧ _
        constructor
        · intro hz
          obtain ⟨j, hj⟩ := List.getElem?_of_mem ((mem_setG sto_Ar (l := l[o.toNat]?.getD [])).2 hz)
          obtain ⟨b, hb⟩ : ∃ b, (rowA s.no (setG ltAr (l[o.toNat]?.getD []))).2[j]? = some b := ⟨_, List.getElem?_eq_getElem (by rw [hr.len]; exact (List.getElem?_eq_some_iff.1 hj).1)⟩
          obtain ⟨b1, b2, b3⟩ := hr.at_ j _ b hj hb
          refine ⟨b.2.toNat, b3, (mem_setG sto_Ar).2 ?_⟩
          rw [Int.toNat_of_nonneg b2, show (e, b.2) = b from Prod.ext b1.symm rfl]
          exact List.mem_of_getElem? hb
        · rintro ⟨t, ht, hb⟩
          obtain ⟨a, ha, b1, b2, b3⟩ := hat _ ((mem_setG sto_Ar).1 hb)
          simp only [Int.toNat_natCast] at b3
          rw [ht] at b3
          simp only [Option.some.injEq] at b3
          simp only at b1
          rw [b1, b3]
          exact ha
theorem can_go {l : List (List Ar)} (hl : Into l) : ∀ (f : Nat) (s : CB) (i : Nat), CI l s i → l.length + 1 ≤ f + i → CI l (canGo l f s i) (canGo l f s i).no.2.length
  | 0, s, i, h, hf => by
    have := h.ok.ok.few
    have := h.ok.le
    omega
  | f + 1, s, i, h, hf => by
    rw [canGo]
    by_cases hi : i < s.no.2.length
    · rw [if_pos hi]
      exact can_go hl f _ _ (h.step hl hi) (by omega)
    · rw [if_neg hi]
      have : i = s.no.2.length := by have := h.ok.le; omega
      subst this
      exact h
theorem can_all {l : List (List Ar)} (hl : Into l) (h : 0 < l.length) : CI l (canB l) (canB l).no.2.length :=
  can_go hl (l.length + 1) (canStart l.length) 0 (ci_start h) (by omega)
end Go.Proofs.YtdknbgejhhoaiaaGreat.Ind
