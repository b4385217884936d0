/- Plain: the instance of a register machine. No program. -/
import Derived.Test.YtikpcipkkhmcfaaGreatQ01
namespace Go.Proofs.YtikpcipkkhmcfaaGreat.Ind
open Go.RowKit

def evB (m : RM) (n : Int) (a : RA) (v : Int) : Int :=
 if a.kind = 2 then 1 else if a.kind = 3 then 2 + m.data * n + a.ch else if a.kind = 4 ∨ a.kind = 5 then 2 + a.ch * n + v else 0
def setR (rs : List Int) (r v : Int) : List Int := if 0 ≤ r then rs.set r.toNat v else rs
def regR (rs : List Int) (r : Int) : Int := rs[r.toNat]?.getD 0
def freeB (a : RA) (rs : List Int) (v : Int) : Bool := !(a.not.any fun r => decide (regR rs r = v))
def valsB (n : Nat) (a : RA) (rs : List Int) : List Int := ((List.range n).map Int.ofNat).filter (freeB a rs)
def movesB (m : RM) (n : Nat) (p : Pl) (a : RA) : List Mv :=
 if a.kind = 5 then [(evB m n a (regR p.2 a.reg), a.to, p.2)]
 else if a.kind = 7 then [(evB m n a 0, a.to, setR p.2 a.reg (regR p.2 a.frm))]
 else if a.kind = 4 ∨ a.kind = 6 then (valsB n a p.2).map fun v => (evB m n a v, a.to, setR p.2 a.reg v)
 else [(evB m n a 0, a.to, p.2)]
def arcsOf (m : RM) (p : Pl) : List RA := m.states[p.1.toNat]?.getD []
def allM (m : RM) (n : Nat) (p : Pl) : List Mv := (arcsOf m p).flatMap (movesB m n p)
def edgesB (m : RM) (n : Nat) (p : Pl) : List Mv := setG ltM (allM m n p)

def numP (all : List Pl) (p : Pl) : List Pl × Nat := if p ∈ all then (all, all.idxOf p) else (all ++ [p], all.length)
def addM (s : List Pl × List Ar) (x : Mv) : List Pl × List Ar := ((numP s.1 x.2).1, s.2 ++ [(x.1, ((numP s.1 x.2).2 : Int))])
def rowF (all : List Pl) (xs : List Mv) : List Pl × List Ar := xs.foldl addM (all, [])
structure BS where
 all : List Pl
 rows : List (List Ar)
 tot : Nat
def bstep (m : RM) (n : Nat) (s : BS) (i : Nat) : BS :=
 ⟨(rowF s.all (edgesB m n (s.all[i]?.getD (0, [])))).1, s.rows ++ [setG ltAr (rowF s.all (edgesB m n (s.all[i]?.getD (0, [])))).2], s.tot + (setG ltAr (rowF s.all (edgesB m n (s.all[i]?.getD (0, [])))).2).length⟩
/-- A place of an instance of m. -/
def GoodP (m : RM) (p : Pl) : Prop := p.2.length = 4 ∧ 0 ≤ p.1 ∧ p.1 < m.states.length ∧ ∀ v ∈ p.2, 0 ≤ v ∧ v < 12
theorem below_iff {n l : Int} : belowB n l = true ↔ 0 ≤ n ∧ n < l := by simp [belowB]
section
variable {m : RM} {n : Nat} {p : Pl} {a : RA}
theorem validM_arc (h : validM m = true) {row : List RA} (hr : row ∈ m.states) (ha : a ∈ row) : arcB m a = true := by
 simp only [validM, Bool.and_eq_true, List.all_eq_true] at h
 exact (h.2 row hr).2 a ha
theorem validM_row (h : validM m = true) {row : List RA} (hr : row ∈ m.states) : row.length ≤ 16 := by
 simp only [validM, Bool.and_eq_true, List.all_eq_true, decide_eq_true_eq] at h
 exact (h.2 row hr).1
structure RmOk (m : RM) : Prop where
 r0 : 0 ≤ m.regs
 r1 : m.regs ≤ 4
 d0 : 0 ≤ m.data
 d1 : m.data ≤ 8
 p0 : 0 ≤ m.plain
 p1 : m.plain ≤ 8
 s0 : 1 ≤ m.states.length
 s1 : m.states.length ≤ 64
theorem validM_ok (h : validM m = true) : RmOk m := by
 simp only [validM, Bool.and_eq_true, below_iff, decide_eq_true_eq] at h
 obtain ⟨⟨⟨⟨⟨h1, h2⟩, h3⟩, h4⟩, h5⟩, _⟩ := h
 exact ⟨h1.1, by omega, h2.1, by omega, h3.1, by omega, h4, h5⟩
/-- What holds of a valid arc. -/
structure RaOk (m : RM) (a : RA) : Prop where
 t0 : 0 ≤ a.to
 t1 : a.to < m.states.length
 k : 1 ≤ a.kind ∧ a.kind ≤ 7
 ch : 0 ≤ a.ch ∧ a.ch ≤ 8
 reg : -1 ≤ a.reg ∧ a.reg < 4
 frm : 0 ≤ a.frm ∧ a.frm < 4
 reg5 : a.kind ≠ 4 → 0 ≤ a.reg
 not : ∀ r ∈ a.not, 0 ≤ r ∧ r < 4
 not4 : a.kind ≠ 4 → a.not = []
 asc : ascB a.not = true
theorem arc_ok (hm : RmOk m) (h : arcB m a = true) : RaOk m a := by
 obtain ⟨kind, ch, reg, frm, not, tgt⟩ := a
 have := hm.r0; have := hm.r1; have := hm.d0; have := hm.d1; have := hm.p0; have := hm.p1
 simp only [arcB, Bool.and_eq_true, below_iff, restB] at h
 obtain ⟨⟨t0, t1⟩, h⟩ := h
 by_cases h12 : kind = 1 ∨ kind = 2
 ·rw [if_pos h12] at h
  simp at h
  obtain ⟨⟨⟨h1, h2⟩, h3⟩, h4⟩ := h
  exact ⟨t0, t1, by simp; omega, by simp; omega, by simp; omega, by simp; omega, by simp; omega, by simp [h4], by simp [h4], by simp [h4, ascB]⟩
 ·rw [if_neg h12] at h
  by_cases h3 : kind = 3
  ·rw [if_pos h3] at h
   simp [below_iff] at h
   obtain ⟨⟨h1, h2, h3⟩, h4⟩ := h
   exact ⟨t0, t1, by simp; omega, by simp; omega, by simp; omega, by simp; omega, by simp; omega, by simp [h4], by simp [h4], by simp [h4, ascB]⟩
  ·rw [if_neg h3] at h
   by_cases h4 : kind = 4
   ·rw [if_pos h4] at h
    simp [below_iff] at h
    obtain ⟨⟨⟨h1, h2⟩, h5⟩, h6⟩ := h
    simp only [notB, Bool.and_eq_true, List.all_eq_true, below_iff] at h5
    exact ⟨t0, t1, by simp; omega, by simp; omega, by simp; omega, by simp; omega, by simp; omega, fun r hr => by have := h5.1 r hr; omega, by simp; omega, h5.2⟩
   ·rw [if_neg h4] at h
    by_cases h5 : kind = 5
    ·rw [if_pos h5] at h
     simp [below_iff] at h
     obtain ⟨⟨⟨h1, h2⟩, h6⟩, h7⟩ := h
     exact ⟨t0, t1, by simp; omega, by simp; omega, by simp; omega, by simp; omega, by simp; omega, by simp [h7], by simp [h7], by simp [h7, ascB]⟩
    ·rw [if_neg h5] at h
     by_cases h6 : kind = 6
     ·rw [if_pos h6] at h
      simp [below_iff] at h
      obtain ⟨⟨h1, h2, h8⟩, h7⟩ := h
      exact ⟨t0, t1, by simp; omega, by simp; omega, by simp; omega, by simp; omega, by simp; omega, by simp [h7], by simp [h7], by simp [h7, ascB]⟩
     ·rw [if_neg h6] at h
      by_cases h8 : kind = 7
      ·rw [if_pos h8] at h
       simp [below_iff] at h
       obtain ⟨⟨⟨h1, h2⟩, h9⟩, h7⟩ := h
       exact ⟨t0, t1, by simp; omega, by simp; omega, by simp; omega, by simp; omega, by simp; omega, by simp [h7], by simp [h7], by simp [h7, ascB]⟩
      ·rw [if_neg h8] at h
       cases h
theorem arcs_ok (h : validM m = true) {x : RA} (hx : x ∈ arcsOf m p) : RaOk m x := by
 unfold arcsOf at hx
 cases hr : m.states[p.1.toNat]? with
 | none => rw [hr] at hx; cases hx
 | some row =>
  rw [hr] at hx
  exact arc_ok (validM_ok h) (validM_arc h (List.mem_of_getElem? hr) hx)
theorem arcs_len (h : validM m = true) : (arcsOf m p).length ≤ 16 := by
 unfold arcsOf
 cases hr : m.states[p.1.toNat]? with
 | none => simp
 | some row => exact validM_row h (List.mem_of_getElem? hr)
theorem regR_ok (hp : GoodP m p) (r : Int) : 0 ≤ regR p.2 r ∧ regR p.2 r < 12 := by
 unfold regR
 cases hr : p.2[r.toNat]? with
 | none => simp
 | some v => exact hp.2.2.2 v (List.mem_of_getElem? hr)
theorem setR_len (rs : List Int) (r v : Int) : (setR rs r v).length = rs.length := by unfold setR; split <;> simp
theorem setR_mem {rs : List Int} {r v x : Int} (h : x ∈ setR rs r v) : x ∈ rs ∨ x = v := by
 unfold setR at h
 split at h
 ·exact List.mem_or_eq_of_mem_set h
 ·exact .inl h
theorem vals_mem {v : Int} {rs : List Int} (h : v ∈ valsB n a rs) : 0 ≤ v ∧ v < n := by
 simp only [valsB, List.mem_filter, List.mem_map, List.mem_range] at h
 obtain ⟨⟨k, hk, rfl⟩, _⟩ := h
 exact ⟨Int.natCast_nonneg k, by simpa using hk⟩
theorem vals_len (rs : List Int) : (valsB n a rs).length ≤ n := by
 unfold valsB
 refine Nat.le_trans (List.length_filter_le _ _) (by simp)
theorem moves_good (ha : RaOk m a) (hp : GoodP m p) (hn : n ≤ 12) {x : Mv} (hx : x ∈ movesB m n p a) : GoodP m x.2 := by
 unfold movesB at hx
 obtain ⟨h1, h2, h3, h4⟩ := hp
 have t0 := ha.t0
 have t1 := ha.t1
 split at hx
 ·rw [List.mem_singleton.1 hx]
  exact ⟨h1, t0, t1, h4⟩
 ·split at hx
  ·rw [List.mem_singleton.1 hx]
   refine ⟨by rw [setR_len]; exact h1, t0, t1, fun v hv => ?_⟩
   rcases setR_mem hv with hv | rfl
   ·exact h4 v hv
   ·exact regR_ok (m := m) ⟨h1, h2, h3, h4⟩ _
  ·split at hx
   ·obtain ⟨v, hv, rfl⟩ := List.mem_map.1 hx
    refine ⟨by rw [setR_len]; exact h1, t0, t1, fun u hu => ?_⟩
    rcases setR_mem hu with hu | rfl
    ·exact h4 u hu
    ·have := vals_mem hv
     omega
   ·rw [List.mem_singleton.1 hx]
    exact ⟨h1, t0, t1, h4⟩
theorem moves_len (hn : n ≤ 12) : (movesB m n p a).length ≤ 12 := by
 unfold movesB
 split
 ·simp
 ·split
  ·simp
  ·split
   ·rw [List.length_map]; exact Nat.le_trans (vals_len _) hn
   ·simp
theorem flat_len {α β : Type} (f : α → List β) (k : Nat) : ∀ (l : List α), (∀ x ∈ l, (f x).length ≤ k) → (l.flatMap f).length ≤ l.length * k
 | [], _ => by simp
 | a :: r, h => by
  have h1 := h a List.mem_cons_self
  have h2 := flat_len f k r (fun x hx => h x (List.mem_cons_of_mem _ hx))
  rw [List.flatMap_cons, List.length_append, List.length_cons, Nat.succ_mul]
  omega
theorem allM_len (h : validM m = true) (hn : n ≤ 12) : (allM m n p).length ≤ 192 := by
 have h1 := flat_len (movesB m n p) 12 (arcsOf m p) (fun x _ => moves_len hn)
 have h2 := arcs_len (p := p) h
 unfold allM
 omega
theorem insG_len {α : Type} [DecidableEq α] (lt : α → α → Bool) : ∀ (l : List α) (x : α), (insG lt l x).length ≤ l.length + 1
 | [], x => by simp [insG]
 | a :: r, x => by
  rw [insG]
  have := insG_len lt r x
  split
  ·simp; omega
  ·split <;> simp
theorem setG_le {α : Type} [DecidableEq α] (lt : α → α → Bool) (l : List α) : (setG lt l).length ≤ l.length := by
 have : ∀ (l acc : List α), (l.foldl (insG lt) acc).length ≤ acc.length + l.length := fun l => by
  induction l with
  | nil => simp
  | cons x r ih =>
   intro acc
   have h1 := ih (insG lt acc x)
   have h2 := insG_len lt acc x
   simp only [List.foldl_cons, List.length_cons]
   omega
 have := this l []
 simpa [setG] using this
theorem edges_len (h : validM m = true) (hn : n ≤ 12) : (edgesB m n p).length ≤ 192 := Nat.le_trans (setG_le _ _) (allM_len h hn)
theorem edges_good (h : validM m = true) (hp : GoodP m p) (hn : n ≤ 12) {x : Mv} (hx : x ∈ edgesB m n p) : GoodP m x.2 := by
 unfold edgesB at hx
 rw [mem_setG sto_M, allM, List.mem_flatMap] at hx
 obtain ⟨a, ha, hx⟩ := hx
 exact moves_good (arcs_ok h ha) hp hn hx
end

structure RF (all : List Pl) (xs : List Mv) (s : List Pl × List Ar) : Prop where
 nodup : s.1.Nodup
 pre : ∃ r, s.1 = all ++ r
 len : s.1.length ≤ all.length + xs.length
 row : s.2.map (fun a => (a.1, s.1[a.2.toNat]?.getD (0, []))) = xs
 bnd : ∀ a ∈ s.2, 0 ≤ a.2 ∧ a.2 < s.1.length
 mem : ∀ q ∈ s.1, q ∈ all ∨ ∃ x ∈ xs, x.2 = q
theorem num_ok (all : List Pl) (p : Pl) (h : all.Nodup) : (numP all p).1.Nodup ∧ (∃ r, (numP all p).1 = all ++ r ∧ r.length ≤ 1 ∧ ∀ q ∈ r, q = p) ∧ (numP all p).1[(numP all p).2]? = some p ∧ (numP all p).2 < (numP all p).1.length := by
 unfold numP
 split
 ·rename_i hp
  have h1 := List.idxOf_lt_length_of_mem hp
  refine ⟨h, ⟨[], by simp, by simp, by simp⟩, ?_, h1⟩
  show all[all.idxOf p]? = some p
  rw [List.getElem?_eq_getElem h1, List.getElem_idxOf]
 ·rename_i hp
  refine ⟨?_, ⟨[p], rfl, by simp, by simp⟩, by simp, by simp⟩
  rw [List.nodup_append]
  exact ⟨h, by simp, fun a ha b hb => by rw [List.mem_singleton.1 hb]; exact fun e => hp (e ▸ ha)⟩
theorem RF.snoc {all : List Pl} {xs : List Mv} {s : List Pl × List Ar} (h : RF all xs s) (x : Mv) : RF all (xs ++ [x]) (addM s x) := by
 obtain ⟨h1, ⟨r0, h2⟩, h3, h4, h5, h6⟩ := h
 obtain ⟨n1, ⟨r, n2, n3, n4⟩, n5, n6⟩ := num_ok s.1 x.2 h1
 unfold addM
 refine ⟨n1, ⟨r0 ++ r, by rw [n2, h2, List.append_assoc]⟩, ?_, ?_, ?_, ?_⟩
 ·show (numP s.1 x.2).1.length ≤ _
  rw [n2, List.length_append, List.length_append]
  simp only [List.length_cons, List.length_nil]
  omega
 ·show List.map _ (s.2 ++ [(x.1, ((numP s.1 x.2).2 : Int))]) = _
  rw [List.map_append]
  congr 1
  ·rw [← h4]
   refine List.map_congr_left fun a ha => ?_
   have hb := h5 a ha
   show (a.1, (numP s.1 x.2).1[a.2.toNat]?.getD (0, [])) = _
   rw [n2, List.getElem?_append_left (by omega)]
  ·show [(x.1, (numP s.1 x.2).1[(((numP s.1 x.2).2 : Int)).toNat]?.getD (0, []))] = _
   rw [Int.toNat_natCast, n5]
   rfl
 ·intro a ha
  show 0 ≤ a.2 ∧ a.2 < ((numP s.1 x.2).1.length : Int)
  rcases List.mem_append.1 ha with ha | ha
  ·have hb := h5 a ha
   rw [n2, List.length_append]
   omega
  ·rw [List.mem_singleton.1 ha]
   exact ⟨by simp, by simpa using n6⟩
 ·intro q hq
  have hq2 : q ∈ s.1 ++ r := by rw [← n2]; exact hq
  rcases List.mem_append.1 hq2 with hq2 | hq2
  ·rcases h6 q hq2 with h7 | ⟨y, hy, e⟩
   ·exact .inl h7
   ·exact .inr ⟨y, List.mem_append_left _ hy, e⟩
  ·exact .inr ⟨x, by simp, (n4 q hq2).symm⟩
theorem rf_go {all : List Pl} : ∀ (ys xs : List Mv) (s : List Pl × List Ar), RF all xs s → RF all (xs ++ ys) (ys.foldl addM s)
 | [], xs, s, h => by simpa using h
 | y :: r, xs, s, h => by
  have := rf_go r (xs ++ [y]) (addM s y) (h.snoc y)
  simpa using this
theorem rf {all : List Pl} (h : all.Nodup) (xs : List Mv) : RF all xs (rowF all xs) := by
 have := rf_go (all := all) xs [] (all, []) ⟨h, ⟨[], by simp⟩, by simp, rfl, by simp, fun q hq => .inl hq⟩
 simpa [rowF] using this
theorem RF.row_len {all : List Pl} {xs : List Mv} {s : List Pl × List Ar} (h : RF all xs s) : s.2.length = xs.length := by
 have := congrArg List.length h.row
 simpa using this
/-- What holds of the states and rows that have been gathered. -/
structure BsOk (m : RM) (n : Nat) (s : BS) (i : Nat) : Prop where
 nodup : s.all.Nodup
 good : ∀ q ∈ s.all, GoodP m q
 rows : s.rows.length = i
 row : ∀ r ∈ s.rows, r.length ≤ 192
theorem BsOk.at_ {m : RM} {n : Nat} {s : BS} {i : Nat} (h : BsOk m n s i) {k : Nat} (hk : k < s.all.length) : ∃ p, s.all[k]? = some p ∧ GoodP m p :=
 ⟨_, List.getElem?_eq_getElem hk, h.good _ (List.getElem_mem hk)⟩
theorem BsOk.step {m : RM} {n : Nat} {s : BS} {i : Nat} (h : BsOk m n s i) (hv : validM m = true) (hn : n ≤ 12) (hi : i < s.all.length) : BsOk m n (bstep m n s i) (i + 1) ∧ (bstep m n s i).all.length ≤ s.all.length + 192 := by
 obtain ⟨p, hp, hg⟩ := h.at_ hi
 have hr := rf h.nodup (edgesB m n p)
 have hl := edges_len (p := p) hv hn
 unfold bstep
 rw [hp, Option.getD_some]
 refine ⟨⟨hr.nodup, fun q hq => ?_, by simp [h.rows], fun r hr2 => ?_⟩, by have := hr.len; show (rowF s.all (edgesB m n p)).1.length ≤ _; omega⟩
 ·rcases hr.mem q hq with hq | ⟨x, hx, rfl⟩
  ·exact h.good q hq
  ·exact edges_good hv hg hn hx
 ·rcases List.mem_append.1 hr2 with hr2 | hr2
  ·exact h.row r hr2
  ·rw [List.mem_singleton.1 hr2]
   have := setG_le ltAr (rowF s.all (edgesB m n p)).2
   have := hr.row_len
   omega

end Go.Proofs.YtikpcipkkhmcfaaGreat.Ind
