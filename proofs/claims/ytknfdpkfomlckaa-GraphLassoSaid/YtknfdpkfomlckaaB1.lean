/- slices.Sort of a row that the call has made; flow.New. -/
import Derived.Test.YtknfdpkfomlckaaA8
import Derived.Test.YtknfdpkfomlckaaAC
import Derived.Sort.OwnSortedInts
namespace Go.Proofs.Ytknfdpkfomlckaa
open Go.RowKit Go.Sort

theorem sort_any (B : Nat) (a : Option Addr) (cap n : Nat) (xs : List Int) (w : World) (h : w.ownsRow B 3 1 (.slice a n cap) n (ints xs)) (hn : n ≤ 10000000) :
    Calls Try.prog 79 #[.slice a n cap] w fun e w' => (e = .returned (.tuple #[]) ∧ w'.ownsRow B 3 1 (.slice a n cap) n (ints (xs.mergeSort fun x y => decide (x ≤ y)))) ∧ Frm (Value.slice a n cap).ownBlock.toList w w' := by
  have hl : xs.length = n := by have := h.1; rw [ints_len] at this; omega
  subst hl
  rcases h.2 with ⟨h0, h1⟩ | ⟨g, cp, cur, h0, hb, hg, h1, h2, h3, h4⟩
  · have hx : xs = [] := List.eq_nil_of_length_eq_zero h1
    subst hx
    refine (Try.slices_Sort_int_none a cap w).mono ?_
    rintro e w' ⟨rfl, rfl⟩
    refine ⟨⟨rfl, ?_⟩, Frm.refl _ _⟩
    rw [List.mergeSort_nil]
    exact h
  · obtain ⟨rfl, rfl⟩ : a = some ⟨g, 0, none⟩ ∧ cap = cp := by simpa using h0
    rw [Nat.mul_one] at h4
    refine (Try.slices_Sort_int g 0 cap xs w (holds_of_blockI hg h4) (Array.getElem?_eq_some_iff.1 hg).1 (by omega)).mono ?_
    rintro e w' ⟨rfl, k, os, rfl⟩
    refine ⟨⟨rfl, ?_⟩, ?_⟩
    · exact ownsRow_sortedI (List.length_mergeSort _) hb hg h1 h2 h3
    · exact (Frm.refl _ w).grown (grownBy_sortedI _) (fun q hq => .inl (by simpa [Value.ownBlock] using hq.symm))

/-- What a row of distinct numbers becomes. -/
theorem sorted_nat {out : List Nat} (hd : out.Nodup) : ∃ vs : List Nat, (natI out).mergeSort (fun x y => decide (x ≤ y)) = natI vs ∧ vs.length = out.length ∧ vs.Pairwise (· < ·) ∧ ∀ v, v ∈ vs ↔ v ∈ out := by
  obtain ⟨ys, hys⟩ : ∃ ys, (natI out).mergeSort (fun x y => decide (x ≤ y)) = ys := ⟨_, rfl⟩
  have hp : ys.Perm (natI out) := by rw [← hys]; exact List.mergeSort_perm _ _
  have hs : ys.Pairwise (fun x y => decide (x ≤ y) = true) := by
    rw [← hys]
    exact List.pairwise_mergeSort (fun a b c h1 h2 => by simp at *; omega) (fun a b => by simp; omega) _
  have hmem : ∀ x, x ∈ ys ↔ ∃ v ∈ out, (v : Int) = x := fun x => by
    rw [hp.mem_iff, natI, List.mem_map]
  have hnat : ys = natI (ys.map Int.toNat) := by
    rw [natI, List.map_map]
    refine (List.map_id ys).symm.trans (List.map_congr_left (fun x hx => ?_))
    obtain ⟨v, _, rfl⟩ := (hmem x).1 hx
    simp
  have hnd : ys.Nodup := hp.nodup_iff.2 (List.Pairwise.map _ (fun a b hab e => hab (by omega)) hd)
  refine ⟨ys.map Int.toNat, by rw [hys]; exact hnat, by rw [List.length_map, hp.length_eq, natI_len], ?_, fun v => ?_⟩
  · have h1 := List.Pairwise.and hs hnd
    refine List.pairwise_map.2 (h1.imp_of_mem (fun {x y} hx hy hxy => ?_))
    obtain ⟨u, _, rfl⟩ := (hmem x).1 hx
    obtain ⟨v, _, rfl⟩ := (hmem y).1 hy
    have h2 : (u : Int) ≤ v := by simpa using hxy.1
    have h3 := hxy.2
    simp
    omega
  · rw [List.mem_map]
    constructor
    · rintro ⟨x, hx, rfl⟩
      obtain ⟨u, hu, rfl⟩ := (hmem x).1 hx
      simpa using hu
    · intro hv
      exact ⟨(v : Int), (hmem _).2 ⟨v, hv, rfl⟩, by simp⟩

/-- A Walker in memory: its system, what it has seen, its round. -/
structure WkAt (B : Nat) (w : World) (wb gs : Nat) (a : Option Addr) (cap n r : Nat) (seen : List Int) : Prop where
  row : RowAt w wb 86 [.slice a n cap, .slice (some ⟨gs, 0, none⟩) n n, .int .i64 (r : Int)]
  own : w.ownsRow B 3 1 (.slice (some ⟨gs, 0, none⟩) n n) n (ints seen)
  ne : wb ≠ gs
  lo : B ≤ wb
  le : ∀ v, v < n → Tj.ix seen v ≤ r
theorem WkAt.frm {B : Nat} {fp : List Nat} {w w' : World} {wb gs : Nat} {a : Option Addr} {cap n r : Nat} {seen : List Int} (h : WkAt B w wb gs a cap n r seen) (hf : Frm fp w w') (h1 : wb ∉ fp) (h2 : gs ∉ fp) : WkAt B w' wb gs a cap n r seen :=
  ⟨h.row.frm hf h1, own_frm_out h.own hf h2, h.ne, h.lo, h.le⟩
theorem WkAt.nil {B : Nat} {w w' : World} {wb gs : Nat} {a : Option Addr} {cap n r : Nat} {seen : List Int} (h : WkAt B w wb gs a cap n r seen) (hf : Frm [] w w') : WkAt B w' wb gs a cap n r seen := h.frm hf (by simp) (by simp)
theorem WkAt.len {B : Nat} {w : World} {wb gs : Nat} {a : Option Addr} {cap n r : Nat} {seen : List Int} (h : WkAt B w wb gs a cap n r seen) : seen.length = n := by have := h.own.1; rw [ints_len] at this; omega

end Go.Proofs.Ytknfdpkfomlckaa
