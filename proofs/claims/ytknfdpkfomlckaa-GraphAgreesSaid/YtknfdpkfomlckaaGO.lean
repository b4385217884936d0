/- Systems that Copy has made: a row put anew; appends of rows of arcs as steps of drawn regions. Plain beside the program's numbers. -/
import Derived.Test.YtknfdpkfomlckaaGN
import Derived.Deep.DeepCutAuto
namespace Go.Proofs.Ytknfdpkfomlckaa
open Go.RowKit

theorem step_app_arcs {w : World} {ops : Array Oper} {o : Oper} {a : Act} {K : Act → World → Prop} {Q : Exit → Act → World → Prop} {E : Prop} (hgd : o.guard = none) (s x : Operand)
    (ho : o.op = .call { callee := .builtin .append, args := #[s, x], argTypes := #[49, 49] })
    (B n N : Nat) (v : Value) (row : List Arc) (hs : a.eval s = v) (hown : OwnR B w v row) (hn : row.length = n) (ad : Addr) (m c : Nat) (r2 : List Arc) (hx : a.eval x = .slice (some ad) m c) (hm : r2.length = m)
    (hnews : ∀ (j : Nat) (u : Value), (flatA r2)[j]? = some u → w.cell? (ad.add j) = some u) (hN : n + m = N) (hb : N ≤ 4000000) (hB : B ≤ w.heap.size) (hv : v ≠ .slice none 0 0) (H : Nat) (hH : w.heap.size = H)
    (h : ∀ g cp w', OwnR B w' (.slice (some ⟨g, 0, none⟩) N cp) (row ++ r2) → (∀ fp (w0 : World), (∀ k, v.ownBlock = some k → k ∈ fp ∨ w0.heap.size ≤ k) → Frm fp w0 w → Frm fp w0 w') → (v.ownBlock = some g ∨ g = H) → g < w'.heap.size → K (a.put o.dst (.slice (some ⟨g, 0, none⟩) N cp)) w') :
    if Region.wanted o (yielded ops a.tmps) = true then Oper.wp Try.prog o a w K Q else E := by
  obtain ⟨i0, hi, hz0, hz1, hz2⟩ := info_parts infoArc
  subst hm hn hN
  have hw : Region.wanted o (yielded ops a.tmps) = true := by simp [Region.wanted, hgd]
  rw [if_pos hw]
  obtain ⟨v', w', hr, h2, h3, h4, h5⟩ := run_append_own_at (P := Try.prog) w B 49 o.type 51 i0 (.agg #[.int .i64 0, .int .i64 0]) 2 16 Try.underlying49 hi hz0 hz1 hz2 rfl (by decide) v row.length (flatA row) hown ad r2.length c (flatA r2) (flatA_len r2) hnews (flatA_one r2) (by unfold maxLen; omega) (by omega) hB
  unfold Oper.wp execOp
  simp only [ho, resolve, invoke, builtin, Sem.run_bind, Sem.run_pure, Result.andThen_ok, List.map_toArray, List.map_cons, List.map_nil, hs, hx, hr]
  obtain ⟨g, cp, rfl, hlt⟩ : ∃ g cp, v' = .slice (some (⟨g, 0, none⟩ : Addr)) (row.length + r2.length) cp ∧ g < w'.heap.size := by
    rcases h2.2 with ⟨h6, _⟩ | ⟨g, cp, cur, h6, _, hg, _⟩
    · exact absurd (h4.1 h6).1 hv
    · exact ⟨g, cp, h6, (Array.getElem?_eq_some_iff.1 hg).1⟩
  refine h g cp w' ?_ (fun fp w0 hk hF => hF.grown h3 hk) ?_ hlt
  · have : (row ++ r2).length = row.length + r2.length := List.length_append
    unfold OwnR
    rw [this, flatA_app]
    exact h2
  · rcases h5 with h5 | h5
    · exact .inl (by rw [← h5]; rfl)
    · right
      have : g = w.heap.size := by simpa [Value.ownBlock] using h5
      rw [this, hH]

theorem owns_drew {B : Nat} {w : World} {e size n : Nat} {v : Value} {xs : List Value} (h : w.ownsRow B e size v n xs) : w.drew.ownsRow B e size v n xs := h

theorem ownsB_setCell {w : World} {B : Nat} {e : TypeId} {size : Nat} {v : Value} {n : Nat} {xs : List Value} {g : Nat} (h : w.ownsRow B e size v n xs) (hg : v.ownBlock = some g) (i : Nat) (u : Value) :
    (w.setCell ⟨g, i, none⟩ u).ownsRow B e size v n (xs.set i u) := by
  refine ⟨by rw [List.length_set]; exact h.1, ?_⟩
  rcases h.2 with ⟨rfl, _⟩ | ⟨g', cap, cur, rfl, h0, hgg, h1, h2, h3, h4⟩
  · simp [Value.ownBlock] at hg
  · simp [Value.ownBlock] at hg
    subst hg
    refine .inr ⟨g', cap, cur.setIfInBounds i u, rfl, h0, by simp [World.setCell, Array.getElem?_modify, hgg], h1, h2, by simpa using h3, ?_⟩
    rw [Array.toList_setIfInBounds, List.take_set, h4]

theorem SysO.put {B : Nat} {w w' : World} {go cp : Nat} {l : Lts} {xs : List Value} {s : Nat} {row row' : List Arc} {g rc g9 cp9 : Nat} (hs : SysO B w (some ⟨go, 0, none⟩) cp l xs) (hrow : l[s]? = some row)
    (hx : xs[s]? = some (.slice (some ⟨g, 0, none⟩) row.length rc)) (hown : OwnR B w' (.slice (some ⟨g9, 0, none⟩) row'.length cp9) row') (hf : Frm [g] w w') (hg : g9 = g ∨ w.heap.size ≤ g9) :
    SysO B (w'.setCell ⟨go, s, none⟩ (.slice (some ⟨g9, 0, none⟩) row'.length cp9)) (some ⟨go, 0, none⟩) cp (l.set s row') (xs.set s (.slice (some ⟨g9, 0, none⟩) row'.length cp9)) := by
  have hsl : s < l.length := (List.getElem?_eq_some_iff.1 hrow).1
  have hgo : go < w.heap.size := (hs.out.lt go rfl).2
  have hne : go ≠ g := fun e => hs.sep s _ hx g rfl (by rw [← e]; rfl)
  have hxl : xs.length = l.length := by have := hs.out.1; omega
  have hold : ∀ (i : Nat) (u : Value), xs[i]? = some u → ∀ q, u.ownBlock = some q → q < w.heap.size := fun i u hu q hq => by
    have hi : i < xs.length := (List.getElem?_eq_some_iff.1 hu).1
    obtain ⟨r, hr⟩ : ∃ r, l[i]? = some r := ⟨_, List.getElem?_eq_getElem (by omega)⟩
    obtain ⟨ra, rc, h1, h2⟩ := hs.row i r hr
    rw [hu] at h1
    cases h1
    exact h2.blk hq
  have hneg : go ≠ g9 := by
    rcases hg with rfl | hg
    · exact hne
    · omega
  have hget : ∀ (i : Nat) (u : Value), (xs.set s (Value.slice (some ⟨g9, 0, none⟩) row'.length cp9))[i]? = some u → (i ≠ s ∧ xs[i]? = some u) ∨ (i = s ∧ u = .slice (some ⟨g9, 0, none⟩) row'.length cp9) := fun i u hu => by
    rw [List.getElem?_set] at hu
    split at hu
    · rename_i h1
      subst h1
      split at hu
      · cases hu; exact .inr ⟨rfl, rfl⟩
      · cases hu
    · rename_i h1
      exact .inl ⟨fun e => h1 e.symm, hu⟩
  refine ⟨?_, fun i r hr => ?_, fun i u hu q hq => ?_, fun i j u v hu hv q hq hq' => ?_⟩
  · rw [List.length_set]
    exact ownsB_setCell (ownsB_frm hs.out hf (fun k hk hm => by
      simp only [Value.ownBlock, Option.some.injEq] at hk
      simp only [List.mem_singleton] at hm
      omega)) rfl s _
  · rw [List.getElem?_set] at hr
    split at hr
    · rename_i h1
      subst h1
      first | cases hr | (rw [if_pos hsl] at hr; cases hr)
      exact ⟨g9, cp9, by rw [List.getElem?_set_self (by omega)], ownsB_frm hown (((Frm.refl [go] _).setCell (.inl (by simp)) _)) (fun k hk hm => by
        simp only [Value.ownBlock, Option.some.injEq] at hk
        simp only [List.mem_singleton] at hm
        omega)⟩
    · rename_i h1
      obtain ⟨ra, rc2, h2, h3⟩ := hs.row i r hr
      refine ⟨ra, rc2, by rw [List.getElem?_set_ne h1]; exact h2, ?_⟩
      refine ownsB_frm (ownsB_frm h3 hf (fun k hk hm => ?_)) (((Frm.refl [go] _).setCell (.inl (by simp)) _)) (fun k hk hm => ?_)
      · simp only [List.mem_singleton] at hm
        subst hm
        exact h1 ((hs.dis i s _ _ h2 hx k hk rfl).symm)
      · simp only [List.mem_singleton] at hm
        subst hm
        exact hs.sep i _ h2 k hk rfl
  · simp only [Value.ownBlock, Option.some.injEq, ne_eq]
    rintro rfl
    rcases hget i u hu with ⟨h1, h2⟩ | ⟨h1, rfl⟩
    · exact hs.sep i u h2 _ hq rfl
    · simp only [Value.ownBlock, Option.some.injEq] at hq
      exact hneg hq.symm
  · rcases hget i u hu with ⟨h1, h2⟩ | ⟨h1, rfl⟩
    · rcases hget j v hv with ⟨h3, h4⟩ | ⟨h3, rfl⟩
      · exact hs.dis i j u v h2 h4 q hq hq'
      · simp only [Value.ownBlock, Option.some.injEq] at hq'
        subst hq'
        rcases hg with rfl | hg
        · exact hs.dis i j u _ h2 (by rw [h3]; exact hx) _ hq rfl
        · have := hold i u h2 _ hq
          omega
    · simp only [Value.ownBlock, Option.some.injEq] at hq
      subst hq
      rcases hget j v hv with ⟨h3, h4⟩ | ⟨h3, rfl⟩
      · rcases hg with rfl | hg
        · exact hs.dis i j _ v (by rw [h1]; exact hx) h4 _ rfl hq'
        · have := hold j v h4 _ hq'
          omega
      · omega

theorem SysO.lat {B : Nat} {w : World} {a : Option Addr} {cap : Nat} {l : Lts} {xs : List Value} (h : SysO B w a cap l xs) (hl : l.length ≤ 140737488355328) (hr : ∀ row ∈ l, row.length ≤ 140737488355328) : LAt w.heap.size w a cap l := by
  have hrd := rd_of_owns h.out (Nat.le_refl _)
  refine ⟨hrd.le, hrd.max, hl, fun i row hi => ?_⟩
  obtain ⟨g, rc, h1, h2⟩ := h.row i row hi
  obtain ⟨b, o, ha, hb, hc⟩ := hrd.cell i _ h1
  exact ⟨b, o, some ⟨g, 0, none⟩, rc, ha, hb, hc, rowR_of_own (ownsB_mono h2 (Nat.zero_le _)) (Nat.le_refl _) (hr row (List.mem_of_getElem? hi))⟩

theorem OwnR.src {B : Nat} {w : World} {g cap : Nat} {row : List Arc} (h : OwnR B w (.slice (some ⟨g, 0, none⟩) row.length cap) row) : ∀ (j : Nat) (u : Value), (flatA row)[j]? = some u → w.cell? ((⟨g, 0, none⟩ : Addr).add j) = some u := by
  rcases h.2 with ⟨h0, _⟩ | ⟨g', cp', cur, h0, hb, hg, h1, h2, h3, h4⟩
  · cases h0
  · obtain ⟨rfl, rfl⟩ : g = g' ∧ cap = cp' := by simpa using h0
    intro j u hu
    rw [Addr.add_lit, Nat.zero_add]
    exact RowAt.cell (xs := flatA row) ⟨cur, hg, by rw [flatA_len]; exact h4⟩ hu

def SpoilEnd (w' : World) (e : Ending) : Prop := ∃ (a' : Option Addr) (cp : Nat) (l' : Lts), e = .returned (.agg #[.slice a' l'.length cp]) ∧ LAt w'.heap.size w' a' cp l'

end Go.Proofs.Ytknfdpkfomlckaa
