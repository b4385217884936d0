/- Plain: what compaction keeps; a second one changes nothing. No program. -/
import Derived.Test.YtlpgonnionbkfaaHN
namespace Go.Proofs.Ytlpgonnionbkfaa

theorem idx_range {n r : Nat} (h : r < n) : (List.range n).idxOf r = r := by
  have h1 : (List.range n).idxOf r < (List.range n).length := List.idxOf_lt_length_of_mem (List.mem_range.2 h)
  have h2 := List.getElem_idxOf h1
  rw [List.getElem_range] at h2
  exact h2
theorem tgt_nl {cs : List HC} (h : ∀ c ∈ cs, c.kind ≠ 3) {r : Nat} (hr : r < cs.length) : tgt cs r = r :=
  tgt_of (n := 1) (fol_s.2 ⟨_, cellAt_get hr, .inl ⟨h _ (List.mem_of_getElem? (cellAt_get hr)), rfl⟩⟩)
theorem folI_id {cs : List HC} (h : ∀ c ∈ cs, c.kind ≠ 3) {r : Int} (hr : inL cs r = true) : folI cs r = r := by
  obtain ⟨k, rfl, hk⟩ := inL_nat hr
  rw [folI, Int.toNat_natCast, tgt_nl h hk]
theorem thr_id {cs : List HC} (ho : HOk cs) (h : ∀ c ∈ cs, c.kind ≠ 3) : thr cs = cs := by
  rw [thr_eq]
  refine (List.map_congr_left (fun c hc => ?_)).trans (List.map_id _)
  rw [thrT, if_neg (h c hc), mapR]
  have : c.refs.map (folI cs) = c.refs := by
    refine (List.map_congr_left (fun r hr => ?_)).trans (List.map_id _)
    have := ho.refs c hc r hr
    exact folI_id h (by simp only [inL, decide_eq_true_eq]; exact this)
  rw [this]
  rfl

section
variable {cs : List HC} (h : HOk cs) (rs : List Int)
include h
theorem compC_no : ∀ c ∈ compC cs rs, c.kind ≠ 3 := fun _ hc => compC_nl h rs hc
theorem num_path {u v : Nat} (hp : Path (Ed (thr cs)) u v) (hu : u ∈ kept cs rs) : Path (Ed (compC cs rs)) ((kept cs rs).idxOf u) ((kept cs rs).idxOf v) := by
  induction hp with
  | refl => exact .refl _
  | step e _ ih =>
    have hb := rset_closed (thr_ok h) hu e
    refine .step ?_ (ih hb)
    rw [Ed, compC_at h rs hu, mapR]
    obtain ⟨x, hx, rfl⟩ := List.mem_map.1 e
    refine List.mem_map.2 ⟨numI cs rs x, List.mem_map.2 ⟨x, hx, rfl⟩, ?_⟩
    rw [numI, Int.toNat_natCast]
theorem compO_in {x : Int} (hx : x ∈ compO cs rs) : x = -1 ∨ inL (compC cs rs) x = true := by
  obtain ⟨r, hr, rfl⟩ := List.mem_map.1 hx
  split
  · rename_i hin
    have := numI_lt h rs (kept_root h rs hr hin)
    exact .inr (by simp only [inL, decide_eq_true_eq]; exact this)
  · exact .inl rfl
theorem comp_all {i : Nat} (hi : i < (compC cs rs).length) : i ∈ rset (compC cs rs) (rts (compC cs rs) (compO cs rs)) := by
  rw [compC_len h] at hi
  have hv : (kept cs rs)[i] ∈ kept cs rs := List.getElem_mem hi
  have hix : (kept cs rs).idxOf (kept cs rs)[i] = i := (rset_nodup _ _).idxOf_getElem i hi
  obtain ⟨hl, u, hu, hp⟩ := mem_rset.1 hv
  have h1 := mem_rts.1 hu
  rw [thr_len] at h1
  obtain ⟨r, hr, hin, he⟩ := outs_mem h rs h1.2 (by simp [inL]; omega)
  have huk : u ∈ kept cs rs := rset_start hu (by rw [thr_len]; exact h1.1)
  have hp2 := num_path h rs hp huk
  rw [hix] at hp2
  refine mem_rset.2 ⟨by rw [compC_len h]; exact hi, _, mem_rts.2 ⟨?_, ?_⟩, hp2⟩
  · rw [compC_len h]; exact List.idxOf_lt_length_of_mem huk
  · refine List.mem_map.2 ⟨r, hr, ?_⟩
    rw [if_pos hin, ← he, numI, Int.toNat_natCast]
theorem comp_rset : rset (compC cs rs) (rts (compC cs rs) (compO cs rs)) = List.range (compC cs rs).length := by
  refine asc_unique (rset_asc _ _) List.pairwise_lt_range (fun v => ?_)
  rw [List.mem_range]
  exact ⟨rset_lt, comp_all h rs⟩
variable (hall : ∀ r ∈ rs, inL cs r = true)
include hall
theorem compO_all : ∀ x ∈ compO cs rs, inL (compC cs rs) x = true := fun x hx => by
  obtain ⟨r, hr, rfl⟩ := List.mem_map.1 hx
  rw [if_pos (hall r hr)]
  have := numI_lt h rs (kept_root h rs hr (hall r hr))
  simp only [inL, decide_eq_true_eq]
  exact this
theorem comp_outs : outs (compC cs rs) (compO cs rs) = compO cs rs := by
  refine (List.map_congr_left (fun x hx => ?_)).trans (List.map_id _)
  have h1 := compO_all h rs hall x hx
  rw [if_pos h1, folI_id (compC_no h rs) h1]
  rfl
theorem comp_kept : kept (compC cs rs) (compO cs rs) = List.range (compC cs rs).length := by
  rw [kept, thr_id (compC_ok h rs) (compC_no h rs), comp_outs h rs hall, comp_rset h rs]
theorem comp_len2 : (compC (compC cs rs) (compO cs rs)).length = (compC cs rs).length := by
  rw [compC_len (compC_ok h rs), comp_kept h rs hall, List.length_range]
theorem comp_out2 : compO (compC cs rs) (compO cs rs) = compO cs rs := by
  have hk := comp_kept h rs hall
  have ha := compO_all h rs hall
  generalize compO cs rs = xs at hk ha ⊢
  refine (List.map_congr_left (fun x hx => ?_)).trans (List.map_id _)
  have h1 := ha x hx
  rw [if_pos h1, folI_id (compC_no h rs) h1, numI, hk]
  obtain ⟨k, rfl, hk⟩ := inL_nat h1
  rw [Int.toNat_natCast, idx_range hk]
  rfl
end

/-- What is read along a path. -/
def walkM (cs : List HC) : Int → List Nat → List Int
  | _, [] => []
  | r, p :: ps => let d := readM cs r
    d.1.kind :: d.1.num :: (d.1.refs.length : Int) :: d.2.2 :: (if d.1.refs.length = 0 then [] else walkM cs (d.1.refs.getD (p % d.1.refs.length) 0) ps)
theorem walk_keep {cs : List HC} (h : HOk cs) (rs : List Int) : ∀ (path : List Nat) (r : Int), inL cs r = true → (folI cs r).toNat ∈ kept cs rs → walkM (compC cs rs) (numI cs rs (folI cs r)) path = walkM cs r path
  | [], _, _, _ => rfl
  | p :: ps, r, hin, hk => by
    obtain ⟨k, rfl, hkl⟩ := inL_nat hin
    have hnl := folI_nl h hin
    have hlt := numI_lt h rs hk
    have hin2 : inL (compC cs rs) (numI cs rs (folI cs k)) = true := by simp only [inL, decide_eq_true_eq]; exact hlt
    have hf2 := folI_id (compC_no h rs) hin2
    have hft : (folI cs (k : Int)).toNat = tgt cs k := by simp [folI]
    have htl := h.tgt_lt hkl
    have e1 : readM cs (k : Int) = (cellAt cs (tgt cs k), ((tgt cs k : Nat) : Int), (0 : Int)) := by rw [readM, if_pos hin, Int.toNat_natCast]
    have e2 : readM (compC cs rs) (numI cs rs (folI cs k)) = (mapR (numI cs rs) (mapR (folI cs) (cellAt cs (tgt cs k))), numI cs rs (folI cs k), (0 : Int)) := by
      have h9 : (tgt (compC cs rs) (numI cs rs (folI cs k)).toNat : Int) = numI cs rs (folI cs k) := hf2
      have h8 : tgt (compC cs rs) (numI cs rs (folI cs k)).toNat = (kept cs rs).idxOf (folI cs k).toNat := by
        rw [numI] at h9 ⊢
        omega
      rw [readM, if_pos hin2, h9, h8, compC_at h rs hk, hft, thr_at htl, thrT, if_neg (by rw [← hft]; exact hnl)]
    simp only [walkM, e1, e2, mapR, List.length_map]
    by_cases h0 : (cellAt cs (tgt cs k)).refs.length = 0
    · simp [h0]
    · have hp : p % (cellAt cs (tgt cs k)).refs.length < (cellAt cs (tgt cs k)).refs.length := Nat.mod_lt _ (by omega)
      rw [if_neg h0, if_neg h0]
      obtain ⟨x, hx⟩ : ∃ x, (cellAt cs (tgt cs k)).refs[p % (cellAt cs (tgt cs k)).refs.length]? = some x := ⟨_, List.getElem?_eq_getElem hp⟩
      have hxm := List.mem_of_getElem? hx
      have hr := kept_ref h rs hk (r := folI cs x) (by rw [hft, thr_at htl, thrT, if_neg (by rw [← hft]; exact hnl)]; exact List.mem_map.2 ⟨x, hxm, rfl⟩)
      simp only [List.getD_eq_getElem?_getD, List.getElem?_map, hx, Option.map_some, Option.getD_some]
      rw [walk_keep h rs ps x (h.ref_in htl hxm) hr.2]

end Go.Proofs.Ytlpgonnionbkfaa
