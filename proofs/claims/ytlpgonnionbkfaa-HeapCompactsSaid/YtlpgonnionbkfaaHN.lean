/- Plain: compaction, step by step and as a whole. No program. -/
import Derived.Test.YtlpgonnionbkfaaHI
namespace Go.Proofs.Ytlpgonnionbkfaa

theorem cellAt_none {cs : List HC} {i : Nat} (h : cs.length ≤ i) : cs[i]? = none := List.getElem?_eq_none h
theorem hc_ext {a b : List HC} (hl : a.length = b.length) (h : ∀ j, j < a.length → cellAt a j = cellAt b j) : a = b := by
  refine List.ext_getElem? fun j => ?_
  by_cases hj : j < a.length
  · rw [cellAt_get hj, cellAt_get (by omega), h j hj]
  · rw [cellAt_none (by omega), cellAt_none (by omega)]

/-! Rewriting the references of a row of cells in place. -/
def parR (f : Int → Int) (k : Nat) (c : HC) : HC := ⟨c.kind, c.num, (c.refs.take k).map f ++ c.refs.drop k⟩
def midL (T : HC → HC) (f : Int → Int) (cs : List HC) (i k : Nat) : List HC := (List.range cs.length).map fun j => if j < i then T (cellAt cs j) else if j = i then parR f k (cellAt cs j) else cellAt cs j
section
variable {T : HC → HC} {f : Int → Int} {cs : List HC} {i k : Nat}
theorem midL_len : (midL T f cs i k).length = cs.length := by simp [midL]
theorem midL_at {j : Nat} (hj : j < cs.length) : cellAt (midL T f cs i k) j = if j < i then T (cellAt cs j) else if j = i then parR f k (cellAt cs j) else cellAt cs j := by
  refine cellAt_of ?_
  rw [midL, List.getElem?_map, List.getElem?_range hj]
  rfl
theorem midL_get (hi : i < cs.length) : (midL T f cs i k)[i]? = some (parR f k (cellAt cs i)) := by
  rw [cellAt_get (by rw [midL_len]; exact hi), midL_at hi, if_neg (by omega), if_pos rfl]
theorem parR_zero (c : HC) : parR f 0 c = c := by simp [parR]
theorem parR_all {c : HC} (h : c.refs.length ≤ k) : parR f k c = mapR f c := by simp [parR, mapR, List.take_of_length_le h, List.drop_eq_nil_of_le h]
theorem parR_len (c : HC) : (parR f k c).refs.length = c.refs.length := by simp [parR]; omega
theorem parR_at {c : HC} {r : Int} (h : c.refs[k]? = some r) : (parR f k c).refs[k]? = some r := by
  have hk := (List.getElem?_eq_some_iff.1 h).1
  rw [parR, List.getElem?_append_right (by simp; omega)]
  simp only [List.length_map, List.length_take]
  rw [show k - min k c.refs.length = 0 by omega, List.getElem?_drop, Nat.add_zero, h]
theorem parR_put {c : HC} {r : Int} (h : c.refs[k]? = some r) : (⟨(parR f k c).kind, (parR f k c).num, (parR f k c).refs.set k (f r)⟩ : HC) = parR f (k + 1) c := by
  have hk := (List.getElem?_eq_some_iff.1 h).1
  have e : c.refs.drop k = r :: c.refs.drop (k + 1) := by
    rw [List.drop_eq_getElem_cons hk]
    have := (List.getElem?_eq_some_iff.1 h).2
    rw [this]
  simp only [parR, HC.mk.injEq, true_and]
  rw [e, List.set_append_right _ _ (by simp; omega)]
  simp only [List.length_map, List.length_take]
  rw [show k - min k c.refs.length = 0 by omega, List.set_cons_zero, List.take_add_one, h]
  simp
theorem midL_zero : midL T f cs 0 0 = cs := hc_ext midL_len fun j hj => by
  rw [midL_len] at hj
  rw [midL_at hj, if_neg (by omega)]
  split
  · exact parR_zero _
  · rfl
theorem midL_next (hi : i < cs.length) (h : parR f k (cellAt cs i) = T (cellAt cs i)) : midL T f cs i k = midL T f cs (i + 1) 0 := hc_ext (by rw [midL_len, midL_len]) fun j hj => by
  rw [midL_len] at hj
  rw [midL_at hj, midL_at hj]
  by_cases hji : j < i
  · rw [if_pos hji, if_pos (by omega)]
  · rw [if_neg hji]
    by_cases he : j = i
    · subst he
      rw [if_pos rfl, if_pos (by omega), h]
    · rw [if_neg he, if_neg (by omega)]
      split
      · rw [parR_zero]
      · rfl
theorem midL_put (_hi : i < cs.length) {r : Int} (h : (cellAt cs i).refs[k]? = some r) : (midL T f cs i k).set i ⟨(parR f k (cellAt cs i)).kind, (parR f k (cellAt cs i)).num, (parR f k (cellAt cs i)).refs.set k (f r)⟩ = midL T f cs i (k + 1) := by
  rw [parR_put h]
  refine List.ext_getElem? fun j => ?_
  by_cases hj : j < cs.length
  · rw [cellAt_get (cs := midL T f cs i (k + 1)) (by rw [midL_len]; exact hj), midL_at hj]
    by_cases hij : i = j
    · subst hij
      rw [List.getElem?_set_self (by rw [midL_len]; exact hj), if_neg (by omega), if_pos rfl]
    · rw [List.getElem?_set_ne hij, cellAt_get (by rw [midL_len]; exact hj), midL_at hj]
      by_cases h1 : j < i
      · rw [if_pos h1, if_pos h1]
      · rw [if_neg h1, if_neg h1, if_neg (fun e => hij e.symm), if_neg (fun e => hij e.symm)]
  · rw [cellAt_none (by rw [List.length_set, midL_len]; omega), cellAt_none (by rw [midL_len]; omega)]
theorem midL_done (hi : cs.length ≤ i) : midL T f cs i k = cs.map T := hc_ext (by rw [midL_len, List.length_map]) fun j hj => by
  rw [midL_len] at hj
  rw [midL_at hj, if_pos (by omega)]
  refine (cellAt_of ?_).symm
  rw [List.getElem?_map, cellAt_get hj]
  rfl
end

/-- References of cells that are no links do not count for the links. -/
theorem fol_same {cs cs' : List HC} (hl : cs'.length = cs.length) (hk : ∀ j, j < cs.length → (cellAt cs' j).kind = (cellAt cs j).kind ∧ ((cellAt cs j).kind = 3 → cellAt cs' j = cellAt cs j)) : ∀ (n r : Nat), fol cs' n r = fol cs n r
  | 0, _ => rfl
  | n + 1, r => by
    rw [fol, fol]
    by_cases hr : r < cs.length
    · rw [cellAt_get hr, cellAt_get (by omega)]
      have := hk r hr
      by_cases h3 : (cellAt cs r).kind = 3
      · rw [this.2 h3]
        simp only [h3, if_true]
        split
        · split
          · exact fol_same hl hk n _
          · rfl
        · rfl
      · have h4 : ¬ (cellAt cs' r).kind = 3 := by rw [this.1]; exact h3
        simp only [h3, h4, if_false]
    · rw [cellAt_none (by omega), cellAt_none (by omega)]

def thrT (cs : List HC) (c : HC) : HC := if c.kind = 3 then c else mapR (folI cs) c
theorem thr_eq (cs : List HC) : thr cs = cs.map (thrT cs) := rfl
theorem thr_len (cs : List HC) : (thr cs).length = cs.length := by simp [thr]
theorem thr_at {cs : List HC} {v : Nat} (hv : v < cs.length) : cellAt (thr cs) v = thrT cs (cellAt cs v) := by
  refine cellAt_of ?_
  rw [thr_eq, List.getElem?_map, cellAt_get hv]
  rfl
theorem thrT_kind (cs : List HC) (c : HC) : (thrT cs c).kind = c.kind := by
  unfold thrT
  split <;> rfl
theorem thrT_num (cs : List HC) (c : HC) : (thrT cs c).num = c.num := by
  unfold thrT
  split <;> rfl
theorem thrT_len (cs : List HC) (c : HC) : (thrT cs c).refs.length = c.refs.length := by
  unfold thrT
  split
  · rfl
  · simp [mapR]
/-- While the references are led past the links, the links lead where they led. -/
theorem fol_mid (cs : List HC) {i k : Nat} (h : k = 0 ∨ (cellAt cs i).kind ≠ 3) (n r : Nat) : fol (midL (thrT cs) (folI cs) cs i k) n r = fol cs n r := by
  refine fol_same midL_len (fun j hj => ?_) n r
  rw [midL_at hj]
  split
  · exact ⟨thrT_kind _ _, fun h3 => by rw [thrT, if_pos h3]⟩
  · split
    · rename_i he
      subst he
      refine ⟨rfl, fun h3 => ?_⟩
      rcases h with rfl | h
      · exact parR_zero _
      · exact absurd h3 h
    · exact ⟨rfl, fun _ => rfl⟩
theorem fol_thr (cs : List HC) (n r : Nat) : fol (thr cs) n r = fol cs n r := by
  rw [thr_eq, ← midL_done (T := thrT cs) (f := folI cs) (k := 0) (Nat.le_refl _)]
  exact fol_mid cs (.inl rfl) n r

section
variable {cs : List HC} (h : HOk cs)
include h
theorem folI_in {r : Int} (hr : inL cs r = true) : inL cs (folI cs r) = true := by
  obtain ⟨k, rfl, hk⟩ := inL_nat hr
  have := h.tgt_lt hk
  unfold inL folI
  rw [decide_eq_true_eq, Int.toNat_natCast]
  omega
theorem folI_nl {r : Int} (hr : inL cs r = true) : (cellAt cs (folI cs r).toNat).kind ≠ 3 := by
  obtain ⟨k, rfl, hk⟩ := inL_nat hr
  obtain ⟨_, _, c, hc, hk3⟩ := fol_lt (h.tgt hk)
  simp only [folI, Int.toNat_natCast]
  rw [cellAt_of hc]
  exact hk3
theorem HOk.ref_in {v : Nat} (hv : v < cs.length) {r : Int} (hr : r ∈ (cellAt cs v).refs) : inL cs r = true := by
  have := h.ref hv r hr
  simp only [inL, decide_eq_true_eq]
  omega
theorem thr_ok : HOk (thr cs) where
  refs := fun c hc r hr => by
    rw [thr_len]
    rw [thr_eq] at hc
    obtain ⟨c0, hc0, rfl⟩ := List.mem_map.1 hc
    obtain ⟨v, hv⟩ := List.getElem?_of_mem hc0
    have hvl := (List.getElem?_eq_some_iff.1 hv).1
    have hcv := cellAt_of hv
    unfold thrT at hr
    split at hr
    · exact h.refs _ hc0 r hr
    · simp only [mapR, List.mem_map] at hr
      obtain ⟨x, hx, rfl⟩ := hr
      have := folI_in h (h.ref_in hvl (by rw [hcv]; exact hx))
      simpa [inL] using this
  two := fun c hc => by
    rw [thr_eq] at hc
    obtain ⟨c0, hc0, rfl⟩ := List.mem_map.1 hc
    rw [thrT_len]
    exact h.two _ hc0
  ter := fun r hr => by
    rw [thr_len] at hr ⊢
    rw [fol_thr]
    exact h.ter r hr
end

/-! The set that is reached. -/
theorem rset_start {cs : List HC} {fr : List Nat} {u : Nat} (hu : u ∈ fr) (hl : u < cs.length) : u ∈ rset cs fr := mem_rset.2 ⟨hl, u, hu, .refl u⟩
theorem rset_lt {cs : List HC} {fr : List Nat} {u : Nat} (hu : u ∈ rset cs fr) : u < cs.length := (mem_rset.1 hu).1
theorem rset_closed {cs : List HC} (h : HOk cs) {fr : List Nat} {u v : Nat} (hu : u ∈ rset cs fr) (hv : v ∈ Ed cs u) : v ∈ rset cs fr := by
  obtain ⟨h1, x, hx, hp⟩ := mem_rset.1 hu
  exact mem_rset.2 ⟨h.ed u v h1 hv, x, hx, hp.snoc hv⟩
theorem rset_nodup (cs : List HC) (fr : List Nat) : (rset cs fr).Nodup := (rset_asc cs fr).imp (fun h => Nat.ne_of_lt h)

section
variable {cs : List HC} (h : HOk cs) (rs : List Int)
include h
theorem outs_mem {x : Int} (hx : x ∈ outs cs rs) (hin : inL cs x = true) : ∃ r ∈ rs, inL cs r = true ∧ x = folI cs r := by
  have _ := h
  obtain ⟨r, hr, rfl⟩ := List.mem_map.1 hx
  split at hin
  · rename_i h1
    exact ⟨r, hr, h1, by rw [if_pos h1]⟩
  · simp [inL] at hin
theorem kept_nl {v : Nat} (hv : v ∈ kept cs rs) : (cellAt (thr cs) v).kind ≠ 3 := by
  obtain ⟨hl, u, hu, hp⟩ := mem_rset.1 hv
  have h1 := mem_rts.1 hu
  rw [thr_len] at h1
  obtain ⟨r, hr, hin, he⟩ := outs_mem h rs h1.2 (by simp [inL]; omega)
  refine (hp.closed (P := fun v => v < cs.length ∧ (cellAt (thr cs) v).kind ≠ 3) (fun a b ha hb => ?_) ?_).2
  · obtain ⟨ha1, ha2⟩ := ha
    rw [thr_at ha1, thrT_kind] at ha2
    obtain ⟨x, hx, rfl⟩ := List.mem_map.1 hb
    rw [thr_at ha1, thrT, if_neg ha2] at hx
    obtain ⟨y, hy, rfl⟩ := List.mem_map.1 hx
    have hyin := h.ref_in ha1 hy
    have h3 := folI_in h hyin
    obtain ⟨k, hk, hkl⟩ := inL_nat h3
    have h4 := folI_nl h hyin
    rw [hk, Int.toNat_natCast] at h4 ⊢
    exact ⟨hkl, by rw [thr_at hkl, thrT_kind]; exact h4⟩
  · have h4 := folI_nl h hin
    rw [← he, Int.toNat_natCast] at h4
    exact ⟨h1.1, by rw [thr_at h1.1, thrT_kind]; exact h4⟩
theorem kept_lt {v : Nat} (hv : v ∈ kept cs rs) : v < cs.length := by
  have _ := h
  have := rset_lt hv
  rwa [thr_len] at this
theorem kept_ref {v : Nat} (hv : v ∈ kept cs rs) {r : Int} (hr : r ∈ (cellAt (thr cs) v).refs) : 0 ≤ r ∧ r.toNat ∈ kept cs rs := by
  have hl := kept_lt h rs hv
  exact ⟨((thr_ok h).ref (by rw [thr_len]; exact hl) r hr).1, rset_closed (thr_ok h) hv (List.mem_map.2 ⟨r, hr, rfl⟩)⟩
theorem kept_root {r : Int} (hr : r ∈ rs) (hin : inL cs r = true) : (folI cs r).toNat ∈ kept cs rs := by
  have h3 := folI_in h hin
  obtain ⟨k, hk, hkl⟩ := inL_nat h3
  rw [hk, Int.toNat_natCast]
  refine rset_start (mem_rts.2 ⟨by rw [thr_len]; exact hkl, ?_⟩) (by rw [thr_len]; exact hkl)
  rw [← hk]
  exact List.mem_map.2 ⟨r, hr, by rw [if_pos hin]⟩
theorem compC_len : (compC cs rs).length = (kept cs rs).length := by have _ := h; simp [compC]
theorem compC_at {v : Nat} (hv : v ∈ kept cs rs) : cellAt (compC cs rs) ((kept cs rs).idxOf v) = mapR (numI cs rs) (cellAt (thr cs) v) := by
  have _ := h
  refine cellAt_of ?_
  have hl := List.idxOf_lt_length_of_mem hv
  rw [compC, List.getElem?_map, List.getElem?_eq_getElem hl, List.getElem_idxOf hl]
  rfl
theorem compC_nl {c : HC} (hc : c ∈ compC cs rs) : c.kind ≠ 3 := by
  obtain ⟨v, hv, rfl⟩ := List.mem_map.1 hc
  exact kept_nl h rs hv
theorem numI_lt {r : Int} (hr : r.toNat ∈ kept cs rs) : 0 ≤ numI cs rs r ∧ numI cs rs r < ((compC cs rs).length : Int) := by
  have := List.idxOf_lt_length_of_mem hr
  rw [compC_len h, numI]
  omega
theorem compC_ok : HOk (compC cs rs) where
  refs := fun c hc r hr => by
    obtain ⟨v, hv, rfl⟩ := List.mem_map.1 hc
    obtain ⟨x, hx, rfl⟩ := List.mem_map.1 hr
    exact numI_lt h rs (kept_ref h rs hv hx).2
  two := fun c hc => by
    obtain ⟨v, hv, rfl⟩ := List.mem_map.1 hc
    have := (thr_ok h).few (v := v) (by rw [thr_len]; exact kept_lt h rs hv)
    simpa [mapR] using this
  ter := fun r hr => by
    have h1 := cellAt_get hr
    have h2 := compC_nl h rs (List.mem_of_getElem? h1)
    exact ⟨r, fol_len (fol_s.2 ⟨_, h1, .inl ⟨h2, rfl⟩⟩ : fol _ 1 r = some r)⟩
theorem compC_small : (compC cs rs).length ≤ cs.length := by
  rw [compC_len h]
  have := rset_len (thr cs) (rts (thr cs) (outs cs rs))
  rw [thr_len] at this
  exact this
end

end Go.Proofs.Ytlpgonnionbkfaa
