/- Texts B8, B1. -/
import Derived.Test.YtikpcipkkhmcfaaGreatQ15
import Derived.Test.YtikpcipkkhmcfaaGreatQ13
import Derived.Sort.OwnSortedInts
/- Plain law: the least number of visible events on a path from state 0. No program. -/
namespace Go.Proofs.YtikpcipkkhmcfaaGreat

/-- Reached from state 0 with k visible arcs. -/
inductive VR (S V : Nat → List Nat) : Nat → Nat → Prop
 | start : VR S V 0 0
 | sil {k a b : Nat} : VR S V k a → b ∈ S a → VR S V k b
 | vis {k a b : Nat} : VR S V k a → b ∈ V a → VR S V (k + 1) b
theorem VR.path {S V : Nat → List Nat} {k a b : Nat} (h : VR S V k a) (hp : Path S a b) : VR S V k b := by
 induction hp with
 | refl => exact h
 | step e _ ih => exact ih (.sil h e)
theorem VR.lt {S V : Nat → List Nat} {n k v : Nat} (hn : 0 < n) (hS : ∀ a b, a < n → b ∈ S a → b < n) (hV : ∀ a b, a < n → b ∈ V a → b < n) (h : VR S V k v) : v < n := by
 induction h with
 | start => exact hn
 | sil _ e ih => exact hS _ _ ih e
 | vis _ e ih => exact hV _ _ ih e

structure IsVD (S V : Nat → List Nat) (n : Nat) (out : List Int) : Prop where
 len : out.length = n
 neg : ∀ v, v < n → Tj.ix out v < 0 → Tj.ix out v = -1 ∧ ∀ k, ¬ VR S V k v
 ok : ∀ v, v < n → 0 ≤ Tj.ix out v → ∃ k : Nat, Tj.ix out v = k ∧ VR S V k v ∧ ∀ j, VR S V j v → k ≤ j
 bnd : ∀ v, v < n → Tj.ix out v < n
theorem IsVD.unique {S V : Nat → List Nat} {n : Nat} {a b : List Int} (ha : IsVD S V n a) (hb : IsVD S V n b) : a = b := by
 refine List.ext_getElem (by rw [ha.len, hb.len]) (fun v h1 h2 => ?_)
 have hv : v < n := by rw [← ha.len]; exact h1
 have e1 : Tj.ix a v = a[v] := by simp [Tj.ix, List.getD_eq_getElem?_getD, h1]
 have e2 : Tj.ix b v = b[v] := by simp [Tj.ix, List.getD_eq_getElem?_getD, h2]
 rw [← e1, ← e2]
 rcases (show Tj.ix a v < 0 ∨ 0 ≤ Tj.ix a v by omega) with h3 | h3
 ·rcases (show Tj.ix b v < 0 ∨ 0 ≤ Tj.ix b v by omega) with h4 | h4
  ·rw [(ha.neg v hv h3).1, (hb.neg v hv h4).1]
  ·obtain ⟨k, _, hk, _⟩ := hb.ok v hv h4
   exact absurd hk ((ha.neg v hv h3).2 k)
 ·rcases (show Tj.ix b v < 0 ∨ 0 ≤ Tj.ix b v by omega) with h4 | h4
  ·obtain ⟨k, _, hk, _⟩ := ha.ok v hv h3
   exact absurd hk ((hb.neg v hv h4).2 k)
  ·obtain ⟨k, e3, hk, hkm⟩ := ha.ok v hv h3
   obtain ⟨j, e4, hj, hjm⟩ := hb.ok v hv h4
   have := hkm j hj
   have := hjm k hk
   omega

def cneg (out : List Int) : Nat := out.countP fun x => decide (x < 0)
theorem cneg_set {out : List Int} {s : Nat} {x : Int} (hs : s < out.length) (h : Tj.ix out s < 0) (hx : 0 ≤ x) : cneg (out.set s x) + 1 = cneg out := by
 induction out generalizing s with
 | nil => simp at hs
 | cons a r ih =>
  cases s with
  | zero =>
   have ha : a < 0 := by simpa [Tj.ix] using h
   have hx' : ¬ x < 0 := by omega
   simp [cneg, ha, hx']
  | succ s =>
   have h' : Tj.ix r s < 0 := by simpa [Tj.ix] using h
   have := ih (by simpa using hs) h'
   simp only [cneg, List.set_cons_succ, List.countP_cons] at this ⊢
   omega
theorem cneg_rep (n : Nat) : cneg (List.replicate n (-1)) = n := by simp [cneg, List.countP_replicate]

/-- All that is reached with fewer than d visible arcs is settled. -/
structure VD (S V : Nat → List Nat) (n : Nat) (out : List Int) (d : Nat) : Prop where
 len : out.length = n
 neg : ∀ v, v < n → Tj.ix out v < 0 → Tj.ix out v = -1
 ok : ∀ v, v < n → 0 ≤ Tj.ix out v → ∃ k : Nat, Tj.ix out v = k ∧ k < d ∧ VR S V k v ∧ ∀ j, VR S V j v → k ≤ j
 all : ∀ k v, k < d → VR S V k v → 0 ≤ Tj.ix out v
 cnt : d + cneg out ≤ n
structure Nx (S V : Nat → List Nat) (n : Nat) (out : List Int) (d : Nat) (next : List Nat) : Prop where
 fwd : ∀ s ∈ next, s < n ∧ VR S V d s ∧ Tj.ix out s < 0
 cmp : ∀ v, VR S V d v → 0 ≤ Tj.ix out v ∨ ∃ s ∈ next, Path S s v

theorem VD.start {S V : Nat → List Nat} {n : Nat} : VD S V n (List.replicate n (-1)) 0 := by
 have h1 : ∀ v, v < n → Tj.ix (List.replicate n (-1 : Int)) v = -1 := fun v hv => by
  rw [Tj.ix, List.getD_eq_getElem?_getD, List.getElem?_replicate, if_pos hv]; rfl
 exact ⟨by simp, fun v hv _ => h1 v hv, fun v hv h => by rw [h1 v hv] at h; omega, fun k v hk => absurd hk (Nat.not_lt_zero _), by rw [cneg_rep]; omega⟩
theorem Nx.start {S V : Nat → List Nat} {n : Nat} (hn : 0 < n) : Nx S V n (List.replicate n (-1)) 0 [0] := by
 refine ⟨fun s hs => ?_, fun v hv => .inr ⟨0, by simp, ?_⟩⟩
 ·rw [List.mem_singleton] at hs
  subst hs
  refine ⟨hn, .start, ?_⟩
  rw [Tj.ix, List.getD_eq_getElem?_getD, List.getElem?_replicate, if_pos hn]; decide
 ·have key : ∀ k v, VR S V k v → k = 0 → Path S 0 v := by
   intro k v h
   induction h with
   | start => exact fun _ => .refl 0
   | sil _ e ih => exact fun h0 => (ih h0).snoc e
   | vis _ _ _ => exact fun h0 => by omega
  exact key 0 v hv rfl

/-- Within the round d: those of rs that are new are settled. -/
structure Part (out o : List Int) (d : Nat) (rs : List Nat) (lev : List Nat) : Prop where
 ix : ∀ v, Tj.ix o v = if v ∈ rs ∧ Tj.ix out v < 0 then (d : Int) else Tj.ix out v
 len : o.length = out.length
 lvl : ∀ v, v ∈ lev ↔ v ∈ rs ∧ Tj.ix out v < 0
 cnt : cneg o + lev.length = cneg out
theorem Part.start (out : List Int) (d : Nat) : Part out out d [] [] := ⟨fun v => by simp, rfl, fun v => by simp, by simp⟩
theorem Part.yes {out o : List Int} {d s : Nat} {rs lev : List Nat} (h : Part out o d rs lev) (hs : s < out.length) (hn : Tj.ix o s < 0) : Part out (o.set s (d : Int)) d (rs ++ [s]) (lev ++ [s]) := by
 have hso : s < o.length := by rw [h.len]; exact hs
 have h1 := h.ix s
 have hold : Tj.ix out s < 0 := by
  rw [h1] at hn
  split at hn
  ·omega
  ·exact hn
 refine ⟨fun v => ?_, by rw [List.length_set]; exact h.len, fun v => ?_, ?_⟩
 ·rw [Tj.ix_set _ _ _ _ hso, h.ix v]
  by_cases hv : v = s
  ·subst hv; simp [hold]
  ·simp [hv]
 ·rw [List.mem_append, h.lvl v, List.mem_append, List.mem_singleton]
  constructor
  ·rintro (⟨h2, h3⟩ | rfl)
   ·exact ⟨.inl h2, h3⟩
   ·exact ⟨.inr rfl, hold⟩
  ·rintro ⟨h2 | rfl, h3⟩
   ·exact .inl ⟨h2, h3⟩
   ·exact .inr rfl
 ·have := cneg_set hso hn (Int.natCast_nonneg d)
  have := h.cnt
  rw [List.length_append, List.length_singleton]
  omega
theorem Part.no {out o : List Int} {d s : Nat} {rs lev : List Nat} (h : Part out o d rs lev) (hn : 0 ≤ Tj.ix o s) : Part out o d (rs ++ [s]) lev := by
 have key : ∀ v, (v ∈ rs ++ [s] ∧ Tj.ix out v < 0) ↔ (v ∈ rs ∧ Tj.ix out v < 0) := fun v => by
  rw [List.mem_append, List.mem_singleton]
  constructor
  ·rintro ⟨h2 | rfl, h3⟩
   ·exact ⟨h2, h3⟩
   ·have h4 := h.ix v
    by_cases hm : v ∈ rs
    ·exact ⟨hm, h3⟩
    ·rw [if_neg (fun h9 => hm h9.1)] at h4
     omega
  ·rintro ⟨h2, h3⟩
   exact ⟨.inl h2, h3⟩
 exact ⟨fun v => by rw [h.ix v]; simp only [key v], h.len, fun v => by rw [h.lvl v]; exact (key v).symm, h.cnt⟩
/-- The round is over. -/
theorem VD.round {S V : Nat → List Nat} {n : Nat} {out o : List Int} {d : Nat} {next rs lev : List Nat} (h : VD S V n out d) (hx : Nx S V n out d next) (hr : IsReach S next rs) (hp : Part out o d rs lev) (hne : next ≠ []) : VD S V n o (d + 1) := by
 have hrs : ∀ v ∈ rs, VR S V d v := fun v hv => by
  obtain ⟨s, hs, hp⟩ := (hr.mem v).1 hv
  exact (hx.fwd s hs).2.1.path hp
 refine ⟨by rw [hp.len]; exact h.len, fun v hv hn => ?_, fun v hv hn => ?_, fun k v hk hv => ?_, ?_⟩
 ·rw [hp.ix v] at hn ⊢
  split at hn
  ·omega
  ·rename_i h9; rw [if_neg h9]; exact h.neg v hv hn
 ·have h1 := hp.ix v
  by_cases h9 : v ∈ rs ∧ Tj.ix out v < 0
  ·rw [if_pos h9] at h1
   refine ⟨d, h1, by omega, hrs v h9.1, fun j hj => ?_⟩
   rcases Nat.lt_or_ge j d with h8 | h8
   ·have := h.all j v h8 hj; omega
   ·exact h8
  ·rw [if_neg h9] at h1
   obtain ⟨k, e1, e2, e3, e4⟩ := h.ok v hv (by omega)
   exact ⟨k, by omega, by omega, e3, e4⟩
 ·have h1 := hp.ix v
  rcases Nat.lt_or_ge k d with h8 | h8
  ·have h2 := h.all k v h8 hv
   rw [if_neg (fun h9 => by omega)] at h1
   omega
  ·obtain rfl : k = d := by omega
   by_cases h9 : v ∈ rs ∧ Tj.ix out v < 0
   ·rw [if_pos h9] at h1; omega
   ·rw [if_neg h9] at h1
    rcases hx.cmp v hv with h2 | ⟨s, hs, hp2⟩
    ·omega
    ·have h3 : v ∈ rs := (hr.mem v).2 ⟨s, hs, hp2⟩
     have : ¬ Tj.ix out v < 0 := fun h4 => h9 ⟨h3, h4⟩
     omega
 ·obtain ⟨s, hs⟩ := List.exists_mem_of_ne_nil next hne
  have h1 := hx.fwd s hs
  have h2 : s ∈ lev := (hp.lvl s).2 ⟨(hr.mem s).2 ⟨s, hs, .refl s⟩, h1.2.2⟩
  have h3 := List.length_pos_of_mem h2
  have := hp.cnt
  have := h.cnt
  omega
/-- The next round's beginnings. -/
theorem VD.next {S V : Nat → List Nat} {n : Nat} {out o : List Int} {d : Nat} {next rs lev nx : List Nat} (h : VD S V n out d) (h' : VD S V n o (d + 1)) (hx : Nx S V n out d next) (hr : IsReach S next rs) (hp : Part out o d rs lev) (hlt : ∀ k v, VR S V k v → v < n)
  (hf : ∀ t ∈ nx, ∃ s ∈ lev, t ∈ V s ∧ Tj.ix o t < 0) (hc : ∀ s ∈ lev, ∀ t ∈ V s, 0 ≤ Tj.ix o t ∨ t ∈ nx) : Nx S V n o (d + 1) nx := by
 have hlev : ∀ s ∈ lev, VR S V d s := fun s hs => by
  obtain ⟨u, hu, hp2⟩ := (hr.mem s).1 ((hp.lvl s).1 hs).1
  exact (hx.fwd u hu).2.1.path hp2
 refine ⟨fun t ht => ?_, ?_⟩
 ·obtain ⟨s, hs, hv, hn⟩ := hf t ht
  have := VR.vis (hlev s hs) hv
  exact ⟨hlt _ _ this, this, hn⟩
 ·have key : ∀ k v, VR S V k v → k = d + 1 → 0 ≤ Tj.ix o v ∨ ∃ s ∈ nx, Path S s v := by
   intro k v hv
   induction hv with
   | start => intro h0; omega
   | sil hv' e ih =>
    rename_i k a b
    intro h0
    rcases ih h0 with h1 | ⟨s, hs, hp2⟩
    ·obtain ⟨j, _, hj, hvr, _⟩ := h'.ok a (hlt _ _ hv') h1
     exact .inl (h'.all j b hj (.sil hvr e))
    ·exact .inr ⟨s, hs, hp2.snoc e⟩
   | vis hv' e ih9 =>
    rename_i k a b
    intro h0
    obtain rfl : k = d := by omega
    have h1 := h'.all k a (by omega) hv'
    have ha := hlt _ _ hv'
    obtain ⟨j, hj1, hj, hvr, hmin⟩ := h'.ok a ha h1
    rcases Nat.lt_or_ge j k with h8 | h8
    ·exact .inl (h'.all (j + 1) b (by omega) (.vis hvr e))
    ·obtain rfl : j = k := by omega
     have h2 := hp.ix a
     by_cases h9 : a ∈ rs ∧ Tj.ix out a < 0
     ·rcases hc a ((hp.lvl a).2 h9) b e with h3 | h3
      ·exact .inl h3
      ·exact .inr ⟨b, h3, .refl b⟩
     ·rw [if_neg h9] at h2
      obtain ⟨i, hi1, hi2, _, _⟩ := h.ok a ha (by omega)
      omega
  exact fun v hv => key _ v hv rfl
theorem VD.finish {S V : Nat → List Nat} {n : Nat} {out : List Int} {d : Nat} (h : VD S V n out d) (hx : Nx S V n out d []) (hlt : ∀ k v, VR S V k v → v < n) : IsVD S V n out := by
 have hall : ∀ k v, VR S V k v → 0 ≤ Tj.ix out v := by
  intro k v hv
  induction hv with
  | start =>
   rcases Nat.eq_zero_or_pos d with h0 | h0
   ·subst h0
    rcases hx.cmp 0 .start with h1 | ⟨s, hs, _⟩
    ·exact h1
    ·cases hs
   ·exact h.all 0 0 h0 .start
  | sil hv' e ih =>
   rename_i k a b
   obtain ⟨j, _, hj, hvr, _⟩ := h.ok a (hlt _ _ hv') ih
   exact h.all j b hj (.sil hvr e)
  | vis hv' e ih =>
   rename_i k a b
   obtain ⟨j, _, hj, hvr, _⟩ := h.ok a (hlt _ _ hv') ih
   rcases Nat.lt_or_ge (j + 1) d with h8 | h8
   ·exact h.all (j + 1) b h8 (.vis hvr e)
   ·have : j + 1 = d := by omega
    rcases hx.cmp b (this ▸ .vis hvr e) with h1 | ⟨s, hs, _⟩
    ·exact h1
    ·cases hs
 exact ⟨h.len, fun v hv hn => ⟨h.neg v hv hn, fun k hk => by have := hall k v hk; omega⟩, fun v hv h0 => by
  obtain ⟨k, h1, _, h2, h3⟩ := h.ok v hv h0
  exact ⟨k, h1, h2, h3⟩, fun v hv => by
  rcases (show Tj.ix out v < 0 ∨ 0 ≤ Tj.ix out v by omega) with h9 | h9
  ·omega
  ·obtain ⟨k, h1, h2, _, _⟩ := h.ok v hv h9
   have := h.cnt
   omega⟩

theorem Part.less {S V : Nat → List Nat} {n : Nat} {out o : List Int} {d : Nat} {next rs lev : List Nat} (hx : Nx S V n out d next) (hr : IsReach S next rs) (hp : Part out o d rs lev) (hne : next ≠ []) : cneg o < cneg out := by
 obtain ⟨s, hs⟩ := List.exists_mem_of_ne_nil next hne
 have h2 : s ∈ lev := (hp.lvl s).2 ⟨(hr.mem s).2 ⟨s, hs, .refl s⟩, (hx.fwd s hs).2.2⟩
 have h3 := List.length_pos_of_mem h2
 have := hp.cnt
 omega

end Go.Proofs.YtikpcipkkhmcfaaGreat

/- slices.Sort of a row that the call has made; flow.New. -/
namespace Go.Proofs.YtikpcipkkhmcfaaGreat
open Go.RowKit Go.Sort

theorem sort_any (B : Nat) (a : Option Addr) (cap n : Nat) (xs : List Int) (w : World) (h : w.ownsRow B 3 1 (.slice a n cap) n (ints xs)) (hn : n ≤ 10000000) :
  Calls Tryz.prog 90 #[.slice a n cap] w fun e w' => (e = .returned (.tuple #[]) ∧ w'.ownsRow B 3 1 (.slice a n cap) n (ints (xs.mergeSort fun x y => decide (x ≤ y)))) ∧ Frm (Value.slice a n cap).ownBlock.toList w w' := by
 have hl : xs.length = n := by have := h.1; rw [ints_len] at this; omega
 subst hl
 rcases h.2 with ⟨h0, h1⟩ | ⟨g, cp, cur, h0, hb, hg, h1, h2, h3, h4⟩
 ·have hx : xs = [] := List.eq_nil_of_length_eq_zero h1
  subst hx
  refine (Tryz.slices_Sort_int_none a cap w).mono ?_
  rintro e w' ⟨rfl, rfl⟩
  refine ⟨⟨rfl, ?_⟩, Frm.refl _ _⟩
  rw [List.mergeSort_nil]
  exact h
 ·obtain ⟨rfl, rfl⟩ : a = some ⟨g, 0, none⟩ ∧ cap = cp := by simpa using h0
  rw [Nat.mul_one] at h4
  refine (Tryz.slices_Sort_int g 0 cap xs w (holds_of_blockI hg h4) (Array.getElem?_eq_some_iff.1 hg).1 (by omega)).mono ?_
  rintro e w' ⟨rfl, k, os, rfl⟩
  refine ⟨⟨rfl, ?_⟩, ?_⟩
  ·exact ownsRow_sortedI (List.length_mergeSort _) hb hg h1 h2 h3
  ·exact (Frm.refl _ w).grown (grownBy_sortedI _) (fun q hq => .inl (by simpa [Value.ownBlock] using hq.symm))

/-- What a row of distinct numbers becomes. -/
theorem sorted_nat {out : List Nat} (hd : out.Nodup) : ∃ vs : List Nat, (natI out).mergeSort (fun x y => decide (x ≤ y)) = natI vs ∧ vs.length = out.length ∧ vs.Pairwise (· < ·) ∧ ∀ v, v ∈ vs ↔ v ∈ out := by
 obtain ⟨ys, hys⟩ : ∃ ys, (natI out).mergeSort (fun x y => decide (x ≤ y)) = ys := ⟨_, rfl⟩
 have hp : ys.Perm (natI out) := by rw [← hys]; exact List.mergeSort_perm _ _
 have hs : ys.Pairwise (fun x y => decide (x ≤ y) = true) := by
  rw [← hys]
  exact List.pairwise_mergeSort (fun a b c h1 h2 => by simp at *; omega) (fun a b => by simp; omega) _
 have hmem : ∀ x, x ∈ ys ↔ ∃ v ∈ out, (v : Int) = x := fun x => by
  rw [hp.mem_iff, natI, List.mem_map]
 have hnat : ys = natI (ys.map Int.toNat) := by
  rw [natI, List.map_map]
  refine (List.map_id ys).symm.trans (List.map_congr_left (fun x hx => ?_))
  obtain ⟨v, _, rfl⟩ := (hmem x).1 hx
  simp
 have hnd : ys.Nodup := hp.nodup_iff.2 (List.Pairwise.map _ (fun a b hab e => hab (by omega)) hd)
 refine ⟨ys.map Int.toNat, by rw [hys]; exact hnat, by rw [List.length_map, hp.length_eq, natI_len], ?_, fun v => ?_⟩
 ·have h1 := List.Pairwise.and hs hnd
  refine List.pairwise_map.2 (h1.imp_of_mem (fun {x y} hx hy hxy => ?_))
  obtain ⟨u, _, rfl⟩ := (hmem x).1 hx
  obtain ⟨v, _, rfl⟩ := (hmem y).1 hy
  have h2 : (u : Int) ≤ v := by simpa using hxy.1
  have h3 := hxy.2
  simp
  omega
 ·rw [List.mem_map]
  constructor
  ·rintro ⟨x, hx, rfl⟩
   obtain ⟨u, hu, rfl⟩ := (hmem x).1 hx
   simpa using hu
  ·intro hv
   exact ⟨(v : Int), (hmem _).2 ⟨v, hv, rfl⟩, by simp⟩

/-- A Walker in memory: its system, what it has seen, its round. -/
structure WkAt (B : Nat) (w : World) (wb gs : Nat) (a : Option Addr) (cap n r : Nat) (seen : List Int) : Prop where
 row : RowAt w wb 114 [.slice a n cap, .slice (some ⟨gs, 0, none⟩) n n, .int .i64 (r : Int)]
 own : w.ownsRow B 3 1 (.slice (some ⟨gs, 0, none⟩) n n) n (ints seen)
 ne : wb ≠ gs
 lo : B ≤ wb
 le : ∀ v, v < n → Tj.ix seen v ≤ r
theorem WkAt.frm {B : Nat} {fp : List Nat} {w w' : World} {wb gs : Nat} {a : Option Addr} {cap n r : Nat} {seen : List Int} (h : WkAt B w wb gs a cap n r seen) (hf : Frm fp w w') (h1 : wb ∉ fp) (h2 : gs ∉ fp) : WkAt B w' wb gs a cap n r seen :=
 ⟨h.row.frm hf h1, own_frm_out h.own hf h2, h.ne, h.lo, h.le⟩
theorem WkAt.nil {B : Nat} {w w' : World} {wb gs : Nat} {a : Option Addr} {cap n r : Nat} {seen : List Int} (h : WkAt B w wb gs a cap n r seen) (hf : Frm [] w w') : WkAt B w' wb gs a cap n r seen := h.frm hf (by simp) (by simp)
theorem WkAt.len {B : Nat} {w : World} {wb gs : Nat} {a : Option Addr} {cap n r : Nat} {seen : List Int} (h : WkAt B w wb gs a cap n r seen) : seen.length = n := by have := h.own.1; rw [ints_len] at this; omega

end Go.Proofs.YtikpcipkkhmcfaaGreat
