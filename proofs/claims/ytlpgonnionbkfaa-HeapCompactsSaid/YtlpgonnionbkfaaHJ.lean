/- Contract of Reach of the program's heap. -/
import Derived.Test.YtlpgonnionbkfaaHH
import Derived.Test.YtlpgonnionbkfaaHI
import Derived.Test.YtlpgonnionbkfaaSH
import Derived.Sort.OwnSortedInts
namespace Go.Proofs.Ytlpgonnionbkfaa
open Go.RowKit Go.Sort

def bools (bs : List Bool) : List Value := bs.map Value.bool
theorem bools_get {bs : List Bool} {i : Nat} {b : Bool} (h : bs[i]? = some b) : (bools bs)[i]? = some (.bool b) := by simp [bools, h]
theorem bools_set (bs : List Bool) (i : Nat) (b : Bool) : bools (bs.set i b) = (bools bs).set i (.bool b) := by simp [bools, List.map_set]
theorem ints_get {xs : List Int} {i : Nat} {x : Int} (h : xs[i]? = some x) : (ints xs)[i]? = some (.int .i64 x) := by simp [ints, h]
theorem ints_len (xs : List Int) : (ints xs).length = xs.length := by simp [ints]
theorem ints_set (xs : List Int) (i : Nat) (x : Int) : ints (xs.set i x) = (ints xs).set i (.int .i64 x) := by simp [ints, List.map_set]
theorem Try.infoBool : (Try.prog.info? 4).map (fun i => (i.zero, i.size, i.bytes)) = some (some (.bool false), 1, 1) := by kernel_rfl

theorem wpl_make_b (w : World) {ops : Array Oper} {rest : List Oper} {o : Oper} {a : Act} {Q : Exit → Act → World → Prop}
    (hg : o.guard = none) (l : Operand) (hop : o.op = Op.makeSlice 72 l l) (L : Int) (n : Nat) (hl : a.eval l = .int .i64 L) (hL : L = (n : Int)) (hn : n ≤ 1000000)
    (hK : ∀ w', w'.ownsRow w.heap.size 4 1 (.slice (some ⟨w.heap.size, 0, none⟩) n n) n (bools (List.replicate n false)) → Frm [] w w' → wpList Try.prog ops Q rest (a.put o.dst (.slice (some ⟨w.heap.size, 0, none⟩) n n)) w') :
    wpList Try.prog ops Q (o :: rest) a w := by
  obtain ⟨i0, hi, hz0, hz1, hz2⟩ := info_parts Try.infoBool
  refine wpList_make_full w hg l l 72 hop w.heap.size 4 i0 (.bool false) 1 Try.underlying72 hi hz0 hz1 .i64 .i64 L L n hl hl hL hL (by rw [hz2]; omega) (by unfold maxLen; omega) (Nat.le_refl _) ?_
  intro w' hown hgr
  refine hK w' ?_ ((Frm.refl [] w).grown hgr (by simp))
  have hm : (madeCells (Value.bool false).cells (n * 1)).toList = bools (List.replicate n false) := by
    rw [Nat.mul_one]
    exact (toList_madeCells_one _ _).trans (by simp [bools])
  rw [hm] at hown
  exact hown
theorem own_rowg2 {B : Nat} {w : World} {e size g n cap : Nat} {xs : List Value} (h : w.ownsRow B e size (.slice (some ⟨g, 0, none⟩) n cap) n xs) : RowAt w g e xs := by
  rcases h.2 with ⟨h0, _⟩ | ⟨g', cp', cur, h0, hb, hg, h1, h2, h3, h4⟩
  · cases h0
  · obtain ⟨rfl, rfl⟩ : g = g' ∧ cap = cp' := by simpa using h0
    exact ⟨cur, hg, by have := h.1; rw [this]; exact h4⟩
theorem owns_prefix {w : World} {B e size n cap m : Nat} {a : Option Addr} {xs : List Value} (h : w.ownsRow B e size (.slice a n cap) n xs) (hm : m ≤ n) (ha : a ≠ none) : w.ownsRow B e size (.slice a m cap) m (xs.take (m * size)) := by
  have hlen := h.1
  have hms : m * size ≤ n * size := Nat.mul_le_mul_right _ hm
  refine ⟨by rw [List.length_take]; omega, ?_⟩
  rcases h.2 with ⟨h0, _⟩ | ⟨g, cp, cur, h0, hb, hg, h1, h2, h3, h4⟩
  · cases h0; exact absurd rfl ha
  · obtain ⟨rfl, rfl⟩ : a = some ⟨g, 0, none⟩ ∧ cap = cp := by simpa using h0
    refine .inr ⟨g, cap, cur, rfl, hb, hg, by omega, h2, h3, ?_⟩
    rw [← h4, List.take_take, Nat.min_eq_left hms]
theorem own_ty {w : World} {B1 B2 e1 e2 s1 s2 n1 n2 : Nat} {v1 v2 : Value} {x1 x2 : List Value} (h1 : w.ownsRow B1 e1 s1 v1 n1 x1) (h2 : w.ownsRow B2 e2 s2 v2 n2 x2) {k : Nat} (hk1 : v1.ownBlock = some k) (hk2 : v2.ownBlock = some k) : e1 = e2 := by
  rcases h1.2 with ⟨rfl, _⟩ | ⟨g, cap, cur, rfl, _, hg, _⟩
  · simp [Value.ownBlock] at hk1
  · rcases h2.2 with ⟨rfl, _⟩ | ⟨g', cap', cur', rfl, _, hg', _⟩
    · simp [Value.ownBlock] at hk2
    · simp only [Value.ownBlock, Option.some.injEq] at hk1 hk2
      subst hk1 hk2
      rw [hg] at hg'
      cases hg'
      rfl
theorem owns_cast {w : World} {B e size n : Nat} {v : Value} {xs ys : List Value} (h : w.ownsRow B e size v n xs) (he : xs = ys) : w.ownsRow B e size v n ys := he ▸ h

theorem sort_any (B : Nat) (a : Option Addr) (cap n : Nat) (xs : List Int) (w : World) (h : w.ownsRow B 3 1 (.slice a n cap) n (ints xs)) (hn : n ≤ 10000000) :
    Calls Try.prog 43 #[.slice a n cap] w fun e w' => (e = .returned (.tuple #[]) ∧ w'.ownsRow B 3 1 (.slice a n cap) n (ints (xs.mergeSort fun x y => decide (x ≤ y)))) ∧ Frm (Value.slice a n cap).ownBlock.toList w w' := by
  have hl : xs.length = n := by have := h.1; rw [ints_len] at this; omega
  subst hl
  rcases h.2 with ⟨h0, h1⟩ | ⟨g, cp, cur, h0, hb, hg, h1, h2, h3, h4⟩
  · have hx : xs = [] := List.eq_nil_of_length_eq_zero h1
    subst hx
    refine (Try.slices_Sort_int_none a cap w).mono ?_
    rintro e w' ⟨rfl, rfl⟩
    refine ⟨⟨rfl, ?_⟩, Frm.refl _ _⟩
    rw [List.mergeSort_nil]
    exact h
  · obtain ⟨rfl, rfl⟩ : a = some ⟨g, 0, none⟩ ∧ cap = cp := by simpa using h0
    rw [Nat.mul_one] at h4
    refine (Try.slices_Sort_int g 0 cap xs w (holds_of_blockI hg h4) (Array.getElem?_eq_some_iff.1 hg).1 (by omega)).mono ?_
    rintro e w' ⟨rfl, k, os, rfl⟩
    refine ⟨⟨rfl, ?_⟩, ?_⟩
    · exact ownsRow_sortedI (List.length_mergeSort _) hb hg h1 h2 h3
    · exact (Frm.refl _ w).grown (grownBy_sortedI _) (fun q hq => .inl (by simpa [Value.ownBlock] using hq.symm))

/-- What a row of distinct numbers becomes. -/
theorem sorted_nat {out : List Nat} (hd : out.Nodup) : ∃ vs : List Nat, (natI out).mergeSort (fun x y => decide (x ≤ y)) = natI vs ∧ vs.length = out.length ∧ vs.Pairwise (· < ·) ∧ ∀ v, v ∈ vs ↔ v ∈ out := by
  obtain ⟨ys, hys⟩ : ∃ ys, (natI out).mergeSort (fun x y => decide (x ≤ y)) = ys := ⟨_, rfl⟩
  have hp : ys.Perm (natI out) := by rw [← hys]; exact List.mergeSort_perm _ _
  have hs : ys.Pairwise (fun x y => decide (x ≤ y) = true) := by
    rw [← hys]
    exact List.pairwise_mergeSort (fun a b c h1 h2 => by simp at *; omega) (fun a b => by simp; omega) _
  have hmem : ∀ x, x ∈ ys ↔ ∃ v ∈ out, (v : Int) = x := fun x => by
    rw [hp.mem_iff, natI, List.mem_map]
    rfl
  have hnat : ys = natI (ys.map Int.toNat) := by
    rw [natI, List.map_map]
    refine (List.map_id ys).symm.trans (List.map_congr_left (fun x hx => ?_))
    obtain ⟨v, _, rfl⟩ := (hmem x).1 hx
    simp
  have hnd : ys.Nodup := hp.nodup_iff.2 (List.Pairwise.map _ (fun a b hab e => hab (by have h9 : (a : Int) = (b : Int) := e; omega)) hd)
  refine ⟨ys.map Int.toNat, by rw [hys]; exact hnat, by rw [List.length_map, hp.length_eq, natI_len], ?_, fun v => ?_⟩
  · have h1 := List.Pairwise.and hs hnd
    refine List.pairwise_map.2 (h1.imp_of_mem (fun {x y} hx hy hxy => ?_))
    obtain ⟨u, _, rfl⟩ := (hmem x).1 hx
    obtain ⟨v, _, rfl⟩ := (hmem y).1 hy
    have h2 : (u : Int) ≤ v := by simpa using hxy.1
    have h3 := hxy.2
    simp
    omega
  · rw [List.mem_map]
    constructor
    · rintro ⟨x, hx, rfl⟩
      obtain ⟨u, hu, rfl⟩ := (hmem x).1 hx
      simpa using hu
    · intro hv
      exact ⟨(v : Int), (hmem _).2 ⟨v, hv, rfl⟩, by simp⟩

theorem clip_any (a : Option Addr) (n cap : Nat) (w : World) (hn : n ≤ cap) (hc : cap ≤ maxLen) :
    Calls Try.prog 42 #[.slice a n cap] w fun e w' => e = .returned (.slice a n n) ∧ w = w' := by
  have i1 : (n : Int) ≤ (cap : Int) := by omega
  have i2 : (cap : Int) ≤ 9223372036854775807 := by unfold maxLen at hc; omega
  cases a with
  | none =>
    go_enter Try.func42, Try.ntmps42
    go_wp2
    go_ret
    exact ⟨rfl, rfl⟩
  | some b =>
    go_enter Try.func42, Try.ntmps42
    go_wp2
    go_ret
    exact ⟨rfl, rfl⟩

end Go.Proofs.Ytlpgonnionbkfaa
