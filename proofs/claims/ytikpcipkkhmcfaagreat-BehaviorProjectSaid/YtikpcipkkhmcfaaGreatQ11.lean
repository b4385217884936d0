/- Merged text: GN, GO of the notes. -/
import Derived.Test.YtikpcipkkhmcfaaGreatQ10
import Derived.Test.YtikpcipkkhmcfaaGreatQ02
import Derived.Deep.DeepCutAuto
/- Contract of Copy. -/
namespace Go.Proofs.YtikpcipkkhmcfaaGreat
open Go.RowKit

/-- A system that the call has made, each row in a block of its own. -/
structure SysO (B : Nat) (w : World) (a : Option Addr) (cap : Nat) (l : Lts) (xs : List Value) : Prop where
 out : w.ownsRow B 63 1 (.slice a l.length cap) l.length xs
 row : ∀ (i : Nat) (row : List Arc), l[i]? = some row → ∃ g rc, xs[i]? = some (.slice (some ⟨g, 0, none⟩) row.length rc) ∧ OwnR B w (.slice (some ⟨g, 0, none⟩) row.length rc) row
 sep : ∀ (i : Nat) (u : Value), xs[i]? = some u → ∀ k, u.ownBlock = some k → (Value.slice a l.length cap).ownBlock ≠ some k
 dis : ∀ (i j : Nat) (u v : Value), xs[i]? = some u → xs[j]? = some v → ∀ k, u.ownBlock = some k → v.ownBlock = some k → i = j
theorem SysO.nil (B : Nat) (w : World) : SysO B w none 0 [] [] := ⟨⟨rfl, .inl ⟨rfl, rfl⟩⟩, by simp, by simp, by simp⟩

def CopyEnd (B : Nat) (l : Lts) (w' : World) (e : Ending) : Prop := ∃ a' cp xs, e = .returned (.agg #[.slice a' l.length cp]) ∧ SysO B w' a' cp l xs

/-! ### steps of drawn regions: appends -/
theorem RowR.src {B : Nat} {w : World} {a : Addr} {cap : Nat} {row : List Arc} (h : RowR B w (some a) cap row) : ∀ (j : Nat) (u : Value), (flatA row)[j]? = some u → w.cell? (a.add j) = some u := by
 intro j u hu
 have hj : j < row.length * 2 := by rw [← flatA_len]; exact (List.getElem?_eq_some_iff.1 hu).1
 obtain ⟨⟨e, t⟩, hy⟩ : ∃ y, row[j / 2]? = some y := ⟨_, List.getElem?_eq_getElem (by omega)⟩
 obtain ⟨b, o, ha, _, c1, c2⟩ := h.2.2.2 (j / 2) e t hy
 cases ha
 rw [Addr.add_lit]
 have hg := flatA_get row (j / 2) e t hy
 rcases Nat.mod_two_eq_zero_or_one j with h0 | h0
 ·have hj2 : j = j / 2 * 2 := by omega
  rw [hj2, hg.1] at hu
  cases hu
  rw [hj2]
  simpa using c1
 ·have hj2 : j = j / 2 * 2 + 1 := by omega
  rw [hj2, hg.2] at hu
  cases hu
  rw [hj2]
  simpa [Nat.add_assoc] using c2

theorem OwnR.blk {B : Nat} {w : World} {v : Value} {row : List Arc} (h : OwnR B w v row) {k : Nat} (hk : v.ownBlock = some k) : k < w.heap.size := (h.lt k hk).2

theorem SysO.frm {B : Nat} {fp : List Nat} {w w' : World} {a : Option Addr} {cap : Nat} {l : Lts} {xs : List Value} (h : SysO B w a cap l xs) (hf : Frm fp w w') (hn : ∀ q ∈ fp, q < B) : SysO B w' a cap l xs :=
 ⟨ownsB_frm h.out hf (fun k hk hm => by have := (h.out.lt k hk).1; have := hn k hm; omega), fun i row hi => by
  obtain ⟨ra, rc, h1, h2⟩ := h.row i row hi
  exact ⟨ra, rc, h1, ownsB_frm h2 hf (fun k hk hm => by have := (h2.lt k hk).1; have := hn k hm; omega)⟩, h.sep, h.dis⟩
theorem SysO.mono {B C : Nat} {w : World} {a : Option Addr} {cap : Nat} {l : Lts} {xs : List Value} (h : SysO B w a cap l xs) (hc : C ≤ B) : SysO C w a cap l xs :=
 ⟨ownsB_mono h.out hc, fun i row hi => by
  obtain ⟨ra, rc, h1, h2⟩ := h.row i row hi
  exact ⟨ra, rc, h1, ownsB_mono h2 hc⟩, h.sep, h.dis⟩

theorem SysO.snoc {B : Nat} {w w' : World} {a' : Option Addr} {k cp : Nat} {l : Lts} {xs : List Value} {row : List Arc} {g8 cp8 g10 cp10 : Nat} (hs : SysO B w a' cp (l.take k) xs) (hk : l[k]? = some row) (h8 : w.heap.size ≤ g8)
  (hrow8 : OwnR B w' (.slice (some ⟨g8, 0, none⟩) row.length cp8) row) (hout : w'.ownsRow B 63 1 (.slice (some ⟨g10, 0, none⟩) (k + 1) cp10) (k + 1) (xs ++ [.slice (some ⟨g8, 0, none⟩) row.length cp8]))
  (hf : Frm ((Value.slice a' k cp).ownBlock.toList) w w') (hg : (Value.slice a' k cp).ownBlock = some g10 ∨ (w.heap.size ≤ g10 ∧ g10 ≠ g8)) :
  SysO B w' (some ⟨g10, 0, none⟩) cp10 (l.take (k + 1)) (xs ++ [.slice (some ⟨g8, 0, none⟩) row.length cp8]) := by
 have hkl : k < l.length := (List.getElem?_eq_some_iff.1 hk).1
 have hlen : (l.take (k + 1)).length = k + 1 := by rw [List.length_take]; omega
 have hlen0 : (l.take k).length = k := by rw [List.length_take]; omega
 have hxl : xs.length = k := by have := hs.out.1; rw [hlen0] at this; omega
 have hblk : (Value.slice a' (l.take k).length cp).ownBlock = (Value.slice a' k cp).ownBlock := by rw [hlen0]
 have hob : ∀ q, (Value.slice a' k cp).ownBlock = some q → q < w.heap.size := fun q hq => by
  have := hs.out.lt q (by rw [hblk]; exact hq)
  exact this.2
 have hold : ∀ (i : Nat) (u : Value), xs[i]? = some u → ∀ q, u.ownBlock = some q → q < w.heap.size := fun i u hu q hq => by
  have hi : i < k := by have := (List.getElem?_eq_some_iff.1 hu).1; omega
  obtain ⟨r, hr⟩ : ∃ r, (l.take k)[i]? = some r := ⟨_, List.getElem?_eq_getElem (by omega)⟩
  obtain ⟨ra, rc, h1, h2⟩ := hs.row i r hr
  rw [hu] at h1
  cases h1
  exact h2.blk hq
 have hget : ∀ (i : Nat) (u : Value), (xs ++ [Value.slice (some ⟨g8, 0, none⟩) row.length cp8])[i]? = some u → (i < k ∧ xs[i]? = some u) ∨ (i = k ∧ u = .slice (some ⟨g8, 0, none⟩) row.length cp8) := fun i u hu => by
  rcases Nat.lt_or_ge i k with h1 | h1
  ·rw [List.getElem?_append_left (by omega)] at hu
   exact .inl ⟨h1, hu⟩
  ·rw [List.getElem?_append_right (by omega)] at hu
   have h2 : i - xs.length = 0 := by
    rcases Nat.eq_zero_or_pos (i - xs.length) with h3 | h3
    ·exact h3
    ·rw [List.getElem?_eq_none (by simp; omega)] at hu; cases hu
   rw [h2] at hu
   simp at hu
   exact .inr ⟨by omega, hu.symm⟩
 refine ⟨by rw [hlen]; exact hout, fun i r hr => ?_, fun i u hu q hq => ?_, fun i j u v hu hv q hq hq' => ?_⟩
 ·rcases Nat.lt_or_ge i k with h1 | h1
  ·rw [List.getElem?_take_of_lt (by omega)] at hr
   obtain ⟨ra, rc, h2, h3⟩ := hs.row i r (by rw [List.getElem?_take_of_lt h1]; exact hr)
   refine ⟨ra, rc, by rw [List.getElem?_append_left (by omega)]; exact h2, ownsB_frm h3 hf (fun q hq hm => ?_)⟩
   simp only [Option.mem_toList] at hm
   exact hs.sep i _ h2 q hq (by rw [hblk]; exact hm)
  ·have h2 : i = k := by
    have := (List.getElem?_eq_some_iff.1 hr).1
    omega
   subst h2
   rw [List.getElem?_take_of_lt (by omega), hk] at hr
   cases hr
   exact ⟨g8, cp8, by rw [List.getElem?_append_right (by omega), hxl, Nat.sub_self]; rfl, hrow8⟩
 ·simp only [Value.ownBlock, Option.some.injEq, ne_eq]
  rintro rfl
  rcases hget i u hu with ⟨h1, h2⟩ | ⟨h1, rfl⟩
  ·have h3 := hold i u h2 _ hq
   rcases hg with hg | ⟨hg, _⟩
   ·exact hs.sep i u h2 _ hq (by rw [hblk]; exact hg)
   ·omega
  ·simp only [Value.ownBlock, Option.some.injEq] at hq
   subst hq
   rcases hg with hg | ⟨_, hg⟩
   ·have := hob _ hg; omega
   ·exact hg rfl
 ·rcases hget i u hu with ⟨h1, h2⟩ | ⟨h1, rfl⟩
  ·rcases hget j v hv with ⟨h3, h4⟩ | ⟨h3, rfl⟩
   ·exact hs.dis i j u v h2 h4 q hq hq'
   ·simp only [Value.ownBlock, Option.some.injEq] at hq'
    have := hold i u h2 q hq
    omega
  ·simp only [Value.ownBlock, Option.some.injEq] at hq
   rcases hget j v hv with ⟨h3, h4⟩ | ⟨h3, rfl⟩
   ·have := hold j v h4 q hq'
    omega
   ·omega

end Go.Proofs.YtikpcipkkhmcfaaGreat

/- Systems that Copy has made: a row put anew; appends of rows of arcs as steps of drawn regions. Plain beside the program's numbers. -/
namespace Go.Proofs.YtikpcipkkhmcfaaGreat
open Go.RowKit

theorem owns_drew {B : Nat} {w : World} {e size n : Nat} {v : Value} {xs : List Value} (h : w.ownsRow B e size v n xs) : w.drew.ownsRow B e size v n xs := h

theorem ownsB_setCellG {w : World} {B : Nat} {e : TypeId} {size : Nat} {v : Value} {n : Nat} {xs : List Value} {g : Nat} (h : w.ownsRow B e size v n xs) (hg : v.ownBlock = some g) (i : Nat) (u : Value) :
  (w.setCell ⟨g, i, none⟩ u).ownsRow B e size v n (xs.set i u) := by
 refine ⟨by rw [List.length_set]; exact h.1, ?_⟩
 rcases h.2 with ⟨rfl, _⟩ | ⟨g', cap, cur, rfl, h0, hgg, h1, h2, h3, h4⟩
 ·simp [Value.ownBlock] at hg
 ·simp [Value.ownBlock] at hg
  subst hg
  refine .inr ⟨g', cap, cur.setIfInBounds i u, rfl, h0, by simp [World.setCell, Array.getElem?_modify, hgg], h1, h2, by simpa using h3, ?_⟩
  rw [Array.toList_setIfInBounds, List.take_set, h4]

theorem SysO.put {B : Nat} {w w' : World} {go cp : Nat} {l : Lts} {xs : List Value} {s : Nat} {row row' : List Arc} {g rc g9 cp9 : Nat} (hs : SysO B w (some ⟨go, 0, none⟩) cp l xs) (hrow : l[s]? = some row)
  (hx : xs[s]? = some (.slice (some ⟨g, 0, none⟩) row.length rc)) (hown : OwnR B w' (.slice (some ⟨g9, 0, none⟩) row'.length cp9) row') (hf : Frm [g] w w') (hg : g9 = g ∨ w.heap.size ≤ g9) :
  SysO B (w'.setCell ⟨go, s, none⟩ (.slice (some ⟨g9, 0, none⟩) row'.length cp9)) (some ⟨go, 0, none⟩) cp (l.set s row') (xs.set s (.slice (some ⟨g9, 0, none⟩) row'.length cp9)) := by
 have hsl : s < l.length := (List.getElem?_eq_some_iff.1 hrow).1
 have hgo : go < w.heap.size := (hs.out.lt go rfl).2
 have hne : go ≠ g := fun e => hs.sep s _ hx g rfl (by rw [← e]; rfl)
 have hxl : xs.length = l.length := by have := hs.out.1; omega
 have hold : ∀ (i : Nat) (u : Value), xs[i]? = some u → ∀ q, u.ownBlock = some q → q < w.heap.size := fun i u hu q hq => by
  have hi : i < xs.length := (List.getElem?_eq_some_iff.1 hu).1
  obtain ⟨r, hr⟩ : ∃ r, l[i]? = some r := ⟨_, List.getElem?_eq_getElem (by omega)⟩
  obtain ⟨ra, rc, h1, h2⟩ := hs.row i r hr
  rw [hu] at h1
  cases h1
  exact h2.blk hq
 have hneg : go ≠ g9 := by
  rcases hg with rfl | hg
  ·exact hne
  ·omega
 have hget : ∀ (i : Nat) (u : Value), (xs.set s (Value.slice (some ⟨g9, 0, none⟩) row'.length cp9))[i]? = some u → (i ≠ s ∧ xs[i]? = some u) ∨ (i = s ∧ u = .slice (some ⟨g9, 0, none⟩) row'.length cp9) := fun i u hu => by
  rw [List.getElem?_set] at hu
  split at hu
  ·rename_i h1
   subst h1
   split at hu
   ·cases hu; exact .inr ⟨rfl, rfl⟩
   ·cases hu
  ·rename_i h1
   exact .inl ⟨fun e => h1 e.symm, hu⟩
 refine ⟨?_, fun i r hr => ?_, fun i u hu q hq => ?_, fun i j u v hu hv q hq hq' => ?_⟩
 ·rw [List.length_set]
  exact ownsB_setCellG (ownsB_frm hs.out hf (fun k hk hm => by
   simp only [Value.ownBlock, Option.some.injEq] at hk
   simp only [List.mem_singleton] at hm
   omega)) rfl s _
 ·rw [List.getElem?_set] at hr
  split at hr
  ·rename_i h1
   subst h1
   first | cases hr | (rw [if_pos hsl] at hr; cases hr)
   exact ⟨g9, cp9, by rw [List.getElem?_set_self (by omega)], ownsB_frm hown (((Frm.refl [go] _).setCell (.inl (by simp)) _)) (fun k hk hm => by
    simp only [Value.ownBlock, Option.some.injEq] at hk
    simp only [List.mem_singleton] at hm
    omega)⟩
  ·rename_i h1
   obtain ⟨ra, rc2, h2, h3⟩ := hs.row i r hr
   refine ⟨ra, rc2, by rw [List.getElem?_set_ne h1]; exact h2, ?_⟩
   refine ownsB_frm (ownsB_frm h3 hf (fun k hk hm => ?_)) (((Frm.refl [go] _).setCell (.inl (by simp)) _)) (fun k hk hm => ?_)
   ·simp only [List.mem_singleton] at hm
    subst hm
    exact h1 ((hs.dis i s _ _ h2 hx k hk rfl).symm)
   ·simp only [List.mem_singleton] at hm
    subst hm
    exact hs.sep i _ h2 k hk rfl
 ·simp only [Value.ownBlock, Option.some.injEq, ne_eq]
  rintro rfl
  rcases hget i u hu with ⟨h1, h2⟩ | ⟨h1, rfl⟩
  ·exact hs.sep i u h2 _ hq rfl
  ·simp only [Value.ownBlock, Option.some.injEq] at hq
   exact hneg hq.symm
 ·rcases hget i u hu with ⟨h1, h2⟩ | ⟨h1, rfl⟩
  ·rcases hget j v hv with ⟨h3, h4⟩ | ⟨h3, rfl⟩
   ·exact hs.dis i j u v h2 h4 q hq hq'
   ·simp only [Value.ownBlock, Option.some.injEq] at hq'
    subst hq'
    rcases hg with rfl | hg
    ·exact hs.dis i j u _ h2 (by rw [h3]; exact hx) _ hq rfl
    ·have := hold i u h2 _ hq
     omega
  ·simp only [Value.ownBlock, Option.some.injEq] at hq
   subst hq
   rcases hget j v hv with ⟨h3, h4⟩ | ⟨h3, rfl⟩
   ·rcases hg with rfl | hg
    ·exact hs.dis i j _ v (by rw [h1]; exact hx) h4 _ rfl hq'
    ·have := hold j v h4 _ hq'
     omega
   ·omega

theorem SysO.lat {B : Nat} {w : World} {a : Option Addr} {cap : Nat} {l : Lts} {xs : List Value} (h : SysO B w a cap l xs) (hl : l.length ≤ 140737488355328) (hr : ∀ row ∈ l, row.length ≤ 140737488355328) : LAt w.heap.size w a cap l := by
 have hrd := rd_of_owns h.out (Nat.le_refl _)
 refine ⟨hrd.le, hrd.max, hl, fun i row hi => ?_⟩
 obtain ⟨g, rc, h1, h2⟩ := h.row i row hi
 obtain ⟨b, o, ha, hb, hc⟩ := hrd.cell i _ h1
 exact ⟨b, o, some ⟨g, 0, none⟩, rc, ha, hb, hc, rowR_of_own (ownsB_mono h2 (Nat.zero_le _)) (Nat.le_refl _) (hr row (List.mem_of_getElem? hi))⟩

theorem OwnR.src {B : Nat} {w : World} {g cap : Nat} {row : List Arc} (h : OwnR B w (.slice (some ⟨g, 0, none⟩) row.length cap) row) : ∀ (j : Nat) (u : Value), (flatA row)[j]? = some u → w.cell? ((⟨g, 0, none⟩ : Addr).add j) = some u := by
 rcases h.2 with ⟨h0, _⟩ | ⟨g', cp', cur, h0, hb, hg, h1, h2, h3, h4⟩
 ·cases h0
 ·obtain ⟨rfl, rfl⟩ : g = g' ∧ cap = cp' := by simpa using h0
  intro j u hu
  rw [Addr.add_lit, Nat.zero_add]
  exact RowAt.cell (xs := flatA row) ⟨cur, hg, by rw [flatA_len]; exact h4⟩ hu

def SpoilEnd (w' : World) (e : Ending) : Prop := ∃ (a' : Option Addr) (cp : Nat) (l' : Lts), e = .returned (.agg #[.slice a' l'.length cp]) ∧ LAt w'.heap.size w' a' cp l'

end Go.Proofs.YtikpcipkkhmcfaaGreat
