/- Contract of Distances of the reference. -/
import Derived.Test.YtknfdpkfomlckaaB9
namespace Go.Proofs.Ytknfdpkfomlckaa
open Go.RowKit

theorem addI_asc : ∀ (r : List Int) (x : Int), r.Pairwise (· < ·) → (addI r x).Pairwise (· < ·)
  | [], x, _ => by rw [addI_nil]; simp
  | a :: r, x, h => by
    have h1 := List.pairwise_cons.1 h
    rw [addI_cons]
    split
    · refine List.pairwise_cons.2 ⟨fun y hy => ?_, addI_asc r x h1.2⟩
      rcases (mem_addI r x y).1 hy with rfl | hy
      · assumption
      · exact h1.1 y hy
    · split
      · exact h
      · refine List.pairwise_cons.2 ⟨fun y hy => ?_, h⟩
        rcases List.mem_cons.1 hy with rfl | hy
        · omega
        · have := h1.1 y hy; omega
/-- Add to a list of states. -/
theorem add_nat {nx : List Nat} {m : Nat} (ha : nx.Pairwise (· < ·)) : ∃ nx2 : List Nat, addI (natI nx) (m : Int) = natI nx2 ∧ nx2.Pairwise (· < ·) ∧ ∀ v, v ∈ nx2 ↔ v = m ∨ v ∈ nx := by
  have hint : (natI nx).Pairwise (· < ·) := List.pairwise_map.2 (ha.imp (fun h => by omega))
  have hasc := addI_asc (natI nx) (m : Int) hint
  have hmem : ∀ y, y ∈ addI (natI nx) (m : Int) ↔ y = (m : Int) ∨ ∃ v ∈ nx, (v : Int) = y := fun y => by
    rw [mem_addI, natI, List.mem_map]
  obtain ⟨ys, hys⟩ : ∃ ys, addI (natI nx) (m : Int) = ys := ⟨_, rfl⟩
  rw [hys] at hasc hmem ⊢
  have hpos : ∀ y ∈ ys, ∃ v : Nat, y = (v : Int) := fun y hy => by
    rcases (hmem y).1 hy with h | ⟨v, _, h⟩
    · exact ⟨m, h⟩
    · exact ⟨v, h.symm⟩
  have hnat : ys = natI (ys.map Int.toNat) := by
    rw [natI, List.map_map]
    refine (List.map_id ys).symm.trans (List.map_congr_left (fun x hx => ?_))
    obtain ⟨v, rfl⟩ := hpos x hx
    simp
  refine ⟨ys.map Int.toNat, hnat, List.pairwise_map.2 (hasc.imp_of_mem (fun {x y} hx hy hxy => ?_)), fun v => ?_⟩
  · obtain ⟨u, rfl⟩ := hpos x hx
    obtain ⟨v, rfl⟩ := hpos y hy
    simp
    omega
  · rw [List.mem_map]
    constructor
    · rintro ⟨x, hx, rfl⟩
      rcases (hmem x).1 hx with h | ⟨u, hu, h⟩
      · left; omega
      · right; rw [← h]; simpa using hu
    · rintro (rfl | hv)
      · exact ⟨_, (hmem _).2 (.inl rfl), by simp⟩
      · exact ⟨(v : Int), (hmem _).2 (.inr ⟨v, hv, rfl⟩), by simp⟩
theorem asc_few {nx : List Nat} {n : Nat} (ha : nx.Pairwise (· < ·)) (h : ∀ v ∈ nx, v < n) : nx.length ≤ n := by
  have hnd : nx.Nodup := ha.imp (fun hab => Nat.ne_of_lt hab)
  have := hnd.length_le_of_subset (l₂ := List.range n) (fun v hv => List.mem_range.2 (h v hv))
  simpa using this
theorem own_nilcap {w : World} {B n c : Nat} {xs : List Value} {a : Option Addr} (h : w.ownsRow B 3 1 (.slice a n c) n xs) (ha : a = none) : c = 0 := by
  subst ha
  rcases h.2 with ⟨h0, _⟩ | ⟨g', cp', cur, h0, _⟩
  · cases h0; rfl
  · cases h0

/-- The states that are still new, in ascending order. -/
def freshL (out : List Int) (rs : List Nat) : List Nat := rs.filter fun v => decide (Tj.ix out v < 0)
theorem mem_fresh {out : List Int} {rs : List Nat} {v : Nat} : v ∈ freshL out rs ↔ v ∈ rs ∧ Tj.ix out v < 0 := by simp [freshL]
theorem Part.wide {out o : List Int} {d : Nat} {rs : List Nat} (h : Part out o d (freshL out rs) (freshL out rs)) : Part out o d rs (freshL out rs) :=
  ⟨fun v => by
    rw [h.ix v]
    have : (v ∈ freshL out rs ∧ Tj.ix out v < 0) ↔ (v ∈ rs ∧ Tj.ix out v < 0) := by rw [mem_fresh]; exact ⟨fun h => ⟨h.1.1, h.2⟩, fun h => ⟨h, h.2⟩⟩
    simp only [this], h.len, fun v => mem_fresh, h.cnt⟩
theorem Part.all {out o : List Int} {d k s : Nat} {rs : List Nat} (h : Part out o d ((freshL out rs).take k) ((freshL out rs).take k)) (hn : (freshL out rs).Nodup) (hs : (freshL out rs)[k]? = some s) (hl : s < out.length) : Part out (o.set s (d : Int)) d ((freshL out rs).take (k + 1)) ((freshL out rs).take (k + 1)) := by
  have htk : (freshL out rs).take (k + 1) = (freshL out rs).take k ++ [s] := by rw [List.take_add_one, hs]; rfl
  have hnew : s ∉ (freshL out rs).take k := by
    intro hm
    have h1 : ((freshL out rs).take (k + 1)).Nodup := List.Nodup.sublist (List.take_sublist _ _) hn
    rw [htk, List.nodup_append] at h1
    exact h1.2.2 s hm s (by simp) rfl
  have hneg := (mem_fresh.1 (List.mem_of_getElem? hs)).2
  rw [htk]
  refine h.yes hl ?_
  rw [h.ix s, if_neg (fun h9 => hnew h9.1)]
  exact hneg

/-- At the head of a round. -/
def RHead (l : Lts) (B go : Nat) (w3 : World) (q : Nat) (s5 s6 : Value) (wr : World) : Prop :=
  ∃ (d : Nat) (out : List Int) (next rs : List Nat) (a5 : Option Addr) (c5 : Nat), q = cneg out ∧ s5 = .slice a5 (freshL out rs).length c5 ∧ s6 = .int .i64 (d : Int) ∧ VD (Esel l true) (Vis l) l.length out d ∧ Nx (Esel l true) (Vis l) l.length out d next ∧ IsReach (Esel l true) next rs ∧
    wr.ownsRow w3.heap.size 3 1 (.slice a5 (freshL out rs).length c5) (freshL out rs).length (ints (natI (freshL out rs))) ∧ wr.ownsRow B 3 1 (.slice (some ⟨go, 0, none⟩) l.length l.length) l.length (ints out) ∧ Frm [go] w3 wr

theorem set_neg {out : List Int} {n k : Nat} (h : ∀ v, v < n → Tj.ix out v = if v < k then -1 else 0) (hl : out.length = n) (hk : k < n) : ∀ v, v < n → Tj.ix (out.set k (-1)) v = if v < k + 1 then -1 else 0 := fun v hv => by
  rw [Tj.ix_set _ _ _ _ (by omega), h v hv]
  by_cases h1 : v = k
  · subst h1; simp
  · rw [if_neg h1]
    by_cases h2 : v < k
    · rw [if_pos h2, if_pos (by omega)]
    · rw [if_neg h2, if_neg (by omega)]
theorem all_neg {out : List Int} {n : Nat} (h : ∀ v, v < n → Tj.ix out v = if v < n then -1 else 0) (hl : out.length = n) : out = List.replicate n (-1) := by
  refine List.ext_getElem (by simp [hl]) (fun v h1 h2 => ?_)
  have e1 : Tj.ix out v = out[v] := by simp [Tj.ix, List.getD_eq_getElem?_getD, h1]
  rw [← e1, h v (by omega), if_pos (by omega)]
  simp

end Go.Proofs.Ytknfdpkfomlckaa
