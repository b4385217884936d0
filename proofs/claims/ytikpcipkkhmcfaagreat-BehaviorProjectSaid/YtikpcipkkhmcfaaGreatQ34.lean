/- append(s, y...) of a row of the call's own, as a step of a drawn region: the old row's cells stay as they are. -/
import Derived.Test.YtikpcipkkhmcfaaGreatQ22
namespace Go.Proofs.YtikpcipkkhmcfaaGreat
open Go.RowKit

/-- The cells of the old row hold what they held. -/
def KeepsRow (v : Value) (xs : List Value) (w' : World) : Prop := ∀ g, v.ownBlock = some g → ∀ (j : Nat) (u : Value), xs[j]? = some u → w'.cell? ⟨g, j, none⟩ = some u
theorem own_cell {w : World} {B e size n g : Nat} {v : Value} {xs : List Value} (h : w.ownsRow B e size v n xs) (hg : v.ownBlock = some g) {j : Nat} {u : Value} (hu : xs[j]? = some u) : w.cell? ⟨g, j, none⟩ = some u := by
 rcases h.2 with ⟨rfl, _⟩ | ⟨g', cap, cur, rfl, _, hgg, _, _, _, h4⟩
 ·simp [Value.ownBlock] at hg
 ·simp [Value.ownBlock] at hg
  subst hg
  exact RowAt.cell (xs := xs) (e := e) ⟨cur, hgg, by rw [h.1]; exact h4⟩ hu
theorem run_app_keep {w : World} (t ty e : TypeId) (z : Value) (size bytes : Nat) (ht : Tryz.prog.underlying t = some (.slice e))
  (hinfo : (Tryz.prog.info? e).map (fun i => (i.zero, i.size, i.bytes)) = some (some z, size, bytes)) (hzs : z.cells.size = size) (hsz : 0 < size)
  (B n : Nat) (v : Value) (xs : List Value) (hown : w.ownsRow B e size v n xs) (u : Value) (m : Nat) (ys : List Value) (F : List Nat) (hy : RowV w F u m size ys) (h1 : ∀ u ∈ ys, u.oneCell' = true)
  (N : Nat) (hN : n + m = N) (hb : N * bytes ≤ 140737488355328) (hm9 : N ≤ 140737488355328) (hB : B ≤ w.heap.size) :
  ∃ a' cp w', (Builtin.append_ #[t, t] ty #[v, u]).run Tryz.prog w = .ok (.slice a' N cp) w' ∧ w'.ownsRow B e size (.slice a' N cp) N (xs ++ ys) ∧ Frm v.ownBlock.toList w w' ∧ (∀ k, (Value.slice a' N cp).ownBlock = some k → v.ownBlock = some k ∨ k = w.heap.size) ∧ KeepsRow v xs w' := by
 obtain ⟨i0, hi, hz0, hz1, hz2⟩ := info_parts hinfo
 obtain ⟨hl, ad, c, rfl, hmc, hcm, hnil, hcell⟩ := hy
 subst hN
 cases ad with
 | none =>
  have h0 := hnil rfl
  subst h0
  have hm : m = 0 := by omega
  subst hm
  have hys : ys = [] := List.eq_nil_of_length_eq_zero (by rw [hl, Nat.zero_mul])
  subst hys
  obtain ⟨a', cp, rfl, _⟩ := owns_shape (ownsB_mono hown (Nat.zero_le _))
  have hrun := run_append_owned_none (P := Tryz.prog) (w := w) B t ty e i0 size ht hi _ n xs hown
  exact ⟨a', cp, w, hrun, by rw [List.append_nil]; exact hown, Frm.refl _ _, fun k hk => .inl hk, fun g hg j u hu => own_cell hown hg hu⟩
 | some p =>
  have hnews : ∀ (j : Nat) (u : Value), ys[j]? = some u → w.cell? (p.add j) = some u := fun j u hj => by
   obtain ⟨b, o', e9, _, _, hc⟩ := hcell j u hj
   cases e9
   rw [Addr.add_lit]
   exact hc
  obtain ⟨v', w', hr, hown', hgr, _, hloc⟩ := run_append_own_at (P := Tryz.prog) w B t ty e i0 z size bytes ht hi hz0 hz1 hz2 hzs hsz v n xs hown p m c ys hl hnews h1 (by unfold maxLen; omega) hb hB
  have hkeep : KeepsRow v xs w' := by
   intro g hg j u hu
   by_cases hvv : v'.ownBlock = some g
   ·exact own_cell hown' hvv (by rw [List.getElem?_append_left (List.getElem?_eq_some_iff.1 hu).1]; exact hu)
   ·have holds : ∀ (j : Nat) (u : Value), xs[j]? = some u → w.cell? ((⟨g, 0, none⟩ : Addr).add j) = some u := fun j u hu => by
     rw [Addr.add_lit, Nat.zero_add]
     exact own_cell hown hg hu
    obtain ⟨cap, rfl⟩ : ∃ cap, v = .slice (some ⟨g, 0, none⟩) n cap := by
     rcases hown.2 with ⟨rfl, _⟩ | ⟨g', cap, cur, rfl, _⟩
     ·simp [Value.ownBlock] at hg
     ·simp [Value.ownBlock] at hg
      subst hg
      exact ⟨cap, rfl⟩
    by_cases hroom : n + m ≤ cap
    ·exfalso
     rcases hown.2 with ⟨h9, _⟩ | ⟨g', cap', cur, h9, _, hgg, _, _, hcs, _⟩
     ·cases h9
     ·cases h9
      have hfit : n * i0.size + ys.length ≤ cur.size := by rw [hz1, hl, hcs, ← Nat.add_mul]; exact Nat.mul_le_mul_right _ hroom
      have hr2 := run_append_room (P := Tryz.prog) w t ty e i0 ht hi g n cap cur hgg p m c ys (by rw [hz1]; exact hl) hnews h1 hroom hfit
      rw [hr] at hr2
      cases hr2
      exact hvv rfl
    ·have hr2 := run_append_grow (P := Tryz.prog) w t ty e i0 z ht hi hz0 ⟨g, 0, none⟩ n cap xs (by rw [hz1]; exact hown.1) holds p m c ys (by rw [hz1]; exact hl) hnews (by omega) (by omega) (growslice_fits (by omega) (by rw [hz2]; exact hb))
     rw [hr] at hr2
     cases hr2
     have hc := own_cell hown hg hu
     have hlt := World.block_lt_of_cell? _ _ hc
     rw [World.cell?_alloc_lt w.drew _ _ hlt]
     exact hc
  obtain ⟨a', cp, rfl, _⟩ := owns_shape (ownsB_mono hown' (Nat.zero_le _))
  refine ⟨a', cp, w', hr, hown', (Frm.refl _ _).grown hgr (fun k hk => .inl (by simp [hk])), fun k hk => ?_, hkeep⟩
  rcases hloc with h9 | h9
  ·exact .inl (by rw [← h9]; exact hk)
  ·rw [h9] at hk
   exact .inr (by simpa using hk.symm)
theorem step_app_rowK {w : World} {ops : Array Oper} {o : Oper} {a : Act} {K : Act → World → Prop} {Q : Exit → Act → World → Prop} {E : Prop} (hgd : o.guard = none) (s x : Operand) (t e : TypeId) (z : Value) (size bytes : Nat)
  (ho : o.op = .call { callee := .builtin .append, args := #[s, x], argTypes := #[t, t] }) (ht : Tryz.prog.underlying t = some (.slice e))
  (hinfo : (Tryz.prog.info? e).map (fun i => (i.zero, i.size, i.bytes)) = some (some z, size, bytes)) (hzs : z.cells.size = size) (hsz : 0 < size)
  (B n : Nat) (v : Value) (xs : List Value) (hs : a.eval s = v) (hown : w.ownsRow B e size v n xs) (u : Value) (m : Nat) (ys : List Value) (F : List Nat) (hx : a.eval x = u) (hy : RowV w F u m size ys) (h1 : ∀ u ∈ ys, u.oneCell' = true)
  (N : Nat) (hN : n + m = N) (hb : N * bytes ≤ 140737488355328) (hm9 : N ≤ 140737488355328) (hB : B ≤ w.heap.size)
  (h : ∀ a' cp w', w'.ownsRow B e size (.slice a' N cp) N (xs ++ ys) → Frm v.ownBlock.toList w w' → (∀ k, (Value.slice a' N cp).ownBlock = some k → v.ownBlock = some k ∨ k = w.heap.size) → KeepsRow v xs w' → K (a.put o.dst (.slice a' N cp)) w') :
  if Region.wanted o (yielded ops a.tmps) = true then Oper.wp Tryz.prog o a w K Q else E := by
 have hw : Region.wanted o (yielded ops a.tmps) = true := by simp [Region.wanted, hgd]
 rw [if_pos hw]
 obtain ⟨a', cp, w', hr, h2, h3, h4, h5⟩ := run_app_keep t o.type e z size bytes ht hinfo hzs hsz B n v xs hown u m ys F hy h1 N hN hb hm9 hB
 unfold Oper.wp execOp
 simp only [ho, resolve, invoke, builtin, Sem.run_bind, Sem.run_pure, Result.andThen_ok, List.map_toArray, List.map_cons, List.map_nil, hs, hx, hr]
 exact h a' cp w' h2 h3 h4 h5
end Go.Proofs.YtikpcipkkhmcfaaGreat
