/- Plain law: a component is closed. No program. -/
import Derived.Test.YtknfdpkfomlckaaV2
namespace Go.Proofs.Ytknfdpkfomlckaa
namespace Tj

theorem PathOk.keep {E : Nat → List Nat} {st st' : St} : ∀ {c : Option Nat} {l : List (Nat × Nat)}, (∀ q ∈ l, ∀ k, Done E st q.1 k → Done E st' q.1 k) → (∀ q ∈ l, q.1 ∈ st'.opn) → (∀ q ∈ l, ix st'.idx q.1 = ix st.idx q.1) → PathOk E st c l → PathOk E st' c l
  | _, [], _, _, _, _ => by simp [PathOk]
  | none, (s, k) :: r, hd, ho, hi, h => ⟨ho (s, k) (List.mem_cons_self ..), hd (s, k) (List.mem_cons_self ..) k h.2.1, fun q hq => by
      have h1 := hi q (List.mem_cons_of_mem _ hq)
      have h2 := hi (s, k) (List.mem_cons_self ..)
      simp only at h2
      rw [h1, h2]; exact h.2.2.1 q hq, h.2.2.2.keep (fun q hq => hd q (List.mem_cons_of_mem _ hq)) (fun q hq => ho q (List.mem_cons_of_mem _ hq)) (fun q hq => hi q (List.mem_cons_of_mem _ hq))⟩
  | some t, (s, k) :: r, hd, ho, hi, h => ⟨ho (s, k) (List.mem_cons_self ..), ⟨h.2.1.1, h.2.1.2.1, hd (s, k) (List.mem_cons_self ..) _ h.2.1.2.2⟩, fun q hq => by
      have h1 := hi q (List.mem_cons_of_mem _ hq)
      have h2 := hi (s, k) (List.mem_cons_self ..)
      simp only at h2
      rw [h1, h2]; exact h.2.2.1 q hq, h.2.2.2.keep (fun q hq => hd q (List.mem_cons_of_mem _ hq)) (fun q hq => ho q (List.mem_cons_of_mem _ hq)) (fun q hq => hi q (List.mem_cons_of_mem _ hq))⟩
termination_by structural _ l => l

theorem Inv.seg {E : Nat → List Nat} {n : Nat} {st : St} {c : Option Nat} (h : Inv E n st c) {s p : Nat} (hs : st.opn[p]? = some s) (v : Nat) : (v ∈ st.opn.drop p ↔ v ∈ st.opn ∧ ix st.idx s ≤ ix st.idx v) ∧ (v ∈ st.opn.take p ↔ v ∈ st.opn ∧ ix st.idx v < ix st.idx s) := by
  have hsplit : st.opn = st.opn.take p ++ st.opn.drop p := (List.take_append_drop p st.opn).symm
  have hd : st.opn.drop p = s :: st.opn.drop (p + 1) := by
    obtain ⟨hi, rfl⟩ := List.getElem?_eq_some_iff.1 hs
    exact List.drop_eq_getElem_cons hi
  have hasc := h.asc
  rw [hsplit, List.pairwise_append, hd] at hasc
  have h1 : ∀ u ∈ st.opn.drop p, ix st.idx s ≤ ix st.idx u := fun u hu => by
    rw [hd] at hu
    rcases List.mem_cons.1 hu with rfl | hu
    · exact Int.le_refl _
    · have := (List.pairwise_cons.1 hasc.2.1).1 u hu; omega
  have h2 : ∀ u ∈ st.opn.take p, ix st.idx u < ix st.idx s := fun u hu => hasc.2.2 u hu s (List.mem_cons_self ..)
  have hm : v ∈ st.opn ↔ v ∈ st.opn.take p ∨ v ∈ st.opn.drop p := by
    rw [← List.mem_append, List.take_append_drop]
  constructor
  · constructor
    · intro hv; exact ⟨hm.2 (.inr hv), h1 v hv⟩
    · rintro ⟨hv, hle⟩
      rcases hm.1 hv with hv | hv
      · have := h2 v hv; omega
      · exact hv
  · constructor
    · intro hv; exact ⟨hm.2 (.inl hv), h2 v hv⟩
    · rintro ⟨hv, hle⟩
      rcases hm.1 hv with hv | hv
      · exact hv
      · have := h1 v hv; omega

theorem Inv.close {E : Nat → List Nat} {n : Nat} {st : St} (h : Inv E n st none) {s k p : Nat} {r : List (Nat × Nat)} (hp : st.path = (s, k) :: r) (hk : (E s).length ≤ k) (heq : ix st.low s = ix st.idx s) (hs : st.opn[p]? = some s)
    (out' : List Int) (L : Int) (hlen : out'.length = n) (hout : ∀ v, v < n → ix out' v = if v ∈ st.opn.drop p then L else ix st.out v) (hL1 : ∃ m ∈ st.opn.drop p, L = (m : Int)) (hL2 : ∀ m ∈ st.opn.drop p, L ≤ (m : Int)) :
    Inv E n { st with out := out', opn := st.opn.take p, path := r } none := by
  have hok := h.path
  rw [hp] at hok
  have hseg := fun v => (h.seg hs v).1
  have hpre := fun v => (h.seg hs v).2
  have hn : ∀ v ∈ st.opn, v < n := fun v hv => ((h.opn v).1 hv).1
  have hsp : onPath st s := ⟨(s, k), by rw [hp]; exact List.mem_cons_self .., rfl⟩
  have hon : ∀ v, onPath st v ↔ v = s ∨ ∃ q ∈ r, q.1 = v := fun v => by
    unfold onPath
    rw [hp]
    simp [eq_comm]
  have hrlt : ∀ q ∈ r, ix st.idx q.1 < ix st.idx s := hok.2.2.1
  have hA1 : ∀ v ∈ st.opn.drop p, Path E s v := fun v hv => h.rch s v hsp ((hseg v).1 hv).1 ((hseg v).1 hv).2
  have hnp : ∀ v ∈ st.opn.drop p, v ≠ s → ¬ onPath st v := fun v hv hne hh => by
    rcases (hon v).1 hh with e | ⟨q, hq, rfl⟩
    · exact hne e
    · have := hrlt q hq
      have := ((hseg q.1).1 hv).2
      omega
  have hA2 : ∀ v ∈ st.opn.drop p, ix st.idx s ≤ ix st.low v := fun v hv => by
    by_cases hvs : v = s
    · rw [hvs, heq]; exact Int.le_refl _
    · have h1 := (hseg v).1 hv
      have hlt : ix st.idx s < ix st.idx v := by
        rcases (show ix st.idx s < ix st.idx v ∨ ix st.idx v = ix st.idx s by omega) with h2 | h2
        · exact h2
        · exact absurd (h.distinct h1.1 hok.1 h2) hvs
      rw [← heq]
      refine h.last v h1.1 (hnp v hv hvs) s hsp hlt (fun q hq _ => ?_)
      rcases (hon q).1 hq with rfl | ⟨q', hq', rfl⟩
      · exact Int.le_refl _
      · have := hrlt q' hq'; omega
  have hA3 : ∀ (d : Nat) (v : Nat), v ∈ st.opn.drop p → (ix st.idx v).toNat ≤ d → Path E v s := by
    intro d
    induction d with
    | zero =>
      intro v hv hd
      have := ((h.opn v).1 ((hseg v).1 hv).1).2.1
      omega
    | succ d ih =>
      intro v hv hd
      by_cases hvs : v = s
      · rw [hvs]; exact .refl _
      · have h1 := (hseg v).1 hv
        have h2 := h.fin v h1.1 (hnp v hv hvs)
        obtain ⟨_, w, hw, hwi, hwr⟩ := h.low v h1.1
        have h3 := hA2 v hv
        have hws : w ∈ st.opn.drop p := (hseg w).2 ⟨hw, by omega⟩
        have := ((h.opn w).1 hw).2.1
        exact hwr.trans (ih w hws (by omega))
  have hA3' : ∀ v ∈ st.opn.drop p, Path E v s := fun v hv => hA3 _ v hv (Nat.le_refl _)
  have hdone : ∀ v ∈ st.opn.drop p, Done E st v (E v).length := fun v hv => by
    by_cases hvs : v = s
    · subst hvs
      exact fun i w hi hw => hok.2.1 i w (by omega) hw
    · exact (h.fin v ((hseg v).1 hv).1 (hnp v hv hvs)).1
  have hA4 : ∀ a b, (a < n ∧ (a ∈ st.opn.drop p ∨ 0 ≤ ix st.out a)) → b ∈ E a → (b < n ∧ (b ∈ st.opn.drop p ∨ 0 ≤ ix st.out b)) := by
    rintro a b ⟨han, ha | ha⟩ hb
    · refine ⟨h.edge a b han hb, ?_⟩
      obtain ⟨i, hi, rfl⟩ := List.getElem_of_mem hb
      have h1 := hdone a ha i _ hi (List.getElem?_eq_getElem hi)
      rcases (show ix st.out (E a)[i] < 0 ∨ 0 ≤ ix st.out (E a)[i] by omega) with h2 | h2
      · have h3 := (h.opn _).2 ⟨h.edge a _ han hb, h1.1, h2⟩
        exact .inl ((hseg _).2 ⟨h3, Int.le_trans (hA2 a ha) (h1.2 h3)⟩)
      · exact .inr h2
    · exact ⟨h.edge a b han hb, .inr ((h.clo a han ha).2.1 b hb)⟩
  have hL0 : 0 ≤ L := by obtain ⟨m, _, hm⟩ := hL1; omega
  have hge : ∀ v, v < n → (v ∈ st.opn.drop p ∨ 0 ≤ ix st.out v) → 0 ≤ ix out' v := fun v hv hc => by
    rw [hout v hv]
    split
    · exact hL0
    · rename_i h1
      exact hc.resolve_left h1
  have hpreout : ∀ v ∈ st.opn.take p, v ∉ st.opn.drop p := fun v hv hd => by
    have := ((hpre v).1 hv).2
    have := ((hseg v).1 hd).2
    omega
  have hmonod : ∀ a j, Done E st a j → Done E { st with out := out', opn := st.opn.take p, path := r } a j := fun a j hd i w hi hw => ⟨(hd i w hi hw).1, fun hm => (hd i w hi hw).2 ((hpre w).1 hm).1⟩
  have hronp : ∀ q ∈ r, q.1 ∈ st.opn.take p := fun q hq => (hpre q.1).2 ⟨hok.2.2.2.opn q hq, hrlt q hq⟩
  refine ⟨h.li, h.ll, hlen, h.edge, fun v => ?_, h.asc.sublist (List.take_sublist _ _), h.cnt, h.pos, fun v hv => ?_, fun v hv hnv => ?_, fun a v ha hv => h.rch a v ((hon a).2 (.inr ha)) ((hpre v).1 hv).1, fun v hv hnv a ha hlt hmax => ?_, ?_, fun v hv => ?_, fun v hv hc => ?_, fun t e => by cases e⟩
  · show v ∈ st.opn.take p ↔ v < n ∧ 0 < ix st.idx v ∧ ix out' v < 0
    constructor
    · intro hv
      have h1 := (hpre v).1 hv
      have h2 := (h.opn v).1 h1.1
      refine ⟨h2.1, h2.2.1, ?_⟩
      rw [hout v h2.1, if_neg (hpreout v hv)]
      exact h2.2.2
    · rintro ⟨h1, h2, h3⟩
      rw [hout v h1] at h3
      split at h3
      · omega
      · rename_i h4
        have h5 := (h.opn v).2 ⟨h1, h2, h3⟩
        refine (hpre v).2 ⟨h5, ?_⟩
        rcases (show ix st.idx v < ix st.idx s ∨ ix st.idx s ≤ ix st.idx v by omega) with h6 | h6
        · exact h6
        · exact absurd ((hseg v).2 ⟨h5, h6⟩) h4
  · have h1 := (hpre v).1 hv
    obtain ⟨h2, w, hw, hwi, hwr⟩ := h.low v h1.1
    exact ⟨h2, w, (hpre w).2 ⟨hw, by omega⟩, hwi, hwr⟩
  · have h1 := (hpre v).1 hv
    have h2 := h.fin v h1.1 (fun hh => by
      rcases (hon v).1 hh with rfl | hh
      · omega
      · exact hnv hh)
    exact ⟨hmonod v _ h2.1, h2.2⟩
  · have h1 := (hpre v).1 hv
    refine h.last v h1.1 (fun hh => ?_) a ((hon a).2 (.inr ha)) hlt (fun q hq hqv => ?_)
    · rcases (hon v).1 hh with rfl | hh
      · omega
      · exact hnv hh
    · rcases (hon q).1 hq with rfl | hq
      · omega
      · exact hmax q hq hqv
  · cases r with
    | nil => simp [PathOk]
    | cons a r' =>
      obtain ⟨u, j⟩ := a
      have h3 := hok.2.2.2
      have h4 := PathOk.keep (st' := { st with out := out', opn := st.opn.take p, path := (u, j) :: r' }) (fun q _ j' hd => hmonod q.1 j' hd) hronp (fun q _ => rfl) h3
      refine ⟨h4.1, ?_, h4.2.2.1, h4.2.2.2⟩
      intro i w hi hw
      rcases Nat.lt_or_ge i (j - 1) with h5 | h5
      · exact h4.2.1.2.2 i w h5 hw
      · have h6 : i = j - 1 := by omega
        subst h6
        rw [h4.2.1.2.1] at hw
        cases hw
        exact ⟨((h.opn s).1 hok.1).2.1, fun hm => by have := ((hpre s).1 hm).2; omega⟩
  · have h1 := (hpre v).1 hv
    obtain ⟨a, ha, hle⟩ := h.first v h1.1
    rcases (hon a).1 ha with rfl | ha
    · omega
    · exact ⟨a, ha, hle⟩
  · have hc' : 0 ≤ ix out' v := hc
    by_cases hvs : v ∈ st.opn.drop p
    · have hvo := (h.opn v).1 ((hseg v).1 hvs).1
      obtain ⟨m, hm, hLm⟩ := hL1
      refine ⟨hvo.2.1, fun w hw => ?_, ⟨m, ?_, hn m ((hseg m).1 hm).1, (hA3' v hvs).trans (hA1 m hm), (hA3' m hm).trans (hA1 v hvs)⟩, fun u hu1 hu2 => ?_⟩
      · have := hA4 v w ⟨hv, .inl hvs⟩ hw
        exact hge w this.1 this.2
      · show ix out' v = m
        rw [hout v hv, if_pos hvs, hLm]
      · show ix out' v ≤ u
        rw [hout v hv, if_pos hvs]
        have h1 := hu1.closed (P := fun a => a < n ∧ (a ∈ st.opn.drop p ∨ 0 ≤ ix st.out a)) hA4 ⟨hv, .inl hvs⟩
        rcases h1.2 with h2 | h2
        · exact hL2 u h2
        · have h3 := hu2.closed (P := fun a => a < n ∧ 0 ≤ ix st.out a) (fun a b hab hb => ⟨h.edge a b hab.1 hb, (h.clo a hab.1 hab.2).2.1 b hb⟩) ⟨h1.1, h2⟩
          have := hvo.2.2
          omega
    · rw [hout v hv, if_neg hvs] at hc'
      have h1 := h.clo v hv hc'
      refine ⟨h1.1, fun w hw => ?_, ?_, ?_⟩
      · exact hge w (h.edge v w hv hw) (.inr (h1.2.1 w hw))
      · show ∃ m : Nat, ix out' v = m ∧ _
        rw [hout v hv, if_neg hvs]
        exact h1.2.2.1
      · intro u hu1 hu2
        show ix out' v ≤ u
        rw [hout v hv, if_neg hvs]
        exact h1.2.2.2 u hu1 hu2

/-- At closing, the number of the state before on the path stays. -/
theorem Inv.close_low {E : Nat → List Nat} {n : Nat} {st : St} (h : Inv E n st none) {s k u j : Nat} {r : List (Nat × Nat)} (hp : st.path = (s, k) :: (u, j) :: r) (heq : ix st.low s = ix st.idx s) : min (ix st.low u) (ix st.low s) = ix st.low u := by
  have hok := h.path
  rw [hp] at hok
  have h1 := (h.low u hok.2.2.2.1).1
  have h2 := hok.2.2.1 (u, j) (List.mem_cons_self ..)
  simp only at h2
  omega

/-- What is found at the end. -/
structure IsComp (E : Nat → List Nat) (n : Nat) (out : List Int) : Prop where
  len : out.length = n
  own : ∀ v, v < n → ∃ m : Nat, ix out v = m ∧ m < n ∧ Path E v m ∧ Path E m v
  least : ∀ v u, v < n → Path E v u → Path E u v → ix out v ≤ u

theorem Inv.comp {E : Nat → List Nat} {n : Nat} {st : St} (h : Inv E n st none) (hp : st.path = []) (hv : ∀ v, v < n → 0 < ix st.idx v) : IsComp E n st.out := by
  have ho : ∀ v, v < n → 0 ≤ ix st.out v := fun v hvn => by
    rcases (show ix st.out v < 0 ∨ 0 ≤ ix st.out v by omega) with h1 | h1
    · obtain ⟨p, ⟨q, hq, _⟩, _⟩ := h.first v ((h.opn v).2 ⟨hvn, hv v hvn, h1⟩)
      rw [hp] at hq
      cases hq
    · exact h1
  exact ⟨h.lo, fun v hvn => (h.clo v hvn (ho v hvn)).2.2.1, fun v u hvn h1 h2 => (h.clo v hvn (ho v hvn)).2.2.2 u h1 h2⟩

theorem IsComp.unique {E : Nat → List Nat} {n : Nat} {a b : List Int} (ha : IsComp E n a) (hb : IsComp E n b) : a = b := by
  refine List.ext_getElem (by rw [ha.len, hb.len]) (fun v h1 h2 => ?_)
  have hv : v < n := by rw [← ha.len]; exact h1
  have e1 : ix a v = a[v] := by simp [ix, List.getD_eq_getElem?_getD, h1]
  have e2 : ix b v = b[v] := by simp [ix, List.getD_eq_getElem?_getD, h2]
  rw [← e1, ← e2]
  obtain ⟨m, hm, _, hm1, hm2⟩ := ha.own v hv
  obtain ⟨k, hk, _, hk1, hk2⟩ := hb.own v hv
  have h3 := ha.least v k hv hk1 hk2
  have h4 := hb.least v m hv hm1 hm2
  omega

/-- The beginning. -/
theorem Inv.start (E : Nat → List Nat) (n : Nat) (hE : ∀ a b, a < n → b ∈ E a → b < n) : Inv E n { idx := List.replicate n 0, low := List.replicate n 0, out := List.replicate n (-1), cnt := 0, opn := [], path := [] } none := by
  have h0 : ∀ v, ix (List.replicate n (0 : Int)) v = 0 := fun v => by
    unfold ix
    rw [List.getD_eq_getElem?_getD, List.getElem?_replicate]
    split <;> rfl
  have h1 : ∀ v, v < n → ix (List.replicate n (-1 : Int)) v = -1 := fun v hv => by
    unfold ix
    rw [List.getD_eq_getElem?_getD, List.getElem?_replicate, if_pos hv]
    rfl
  refine ⟨by simp, by simp, by simp, hE, fun v => ?_, List.Pairwise.nil, fun v => by rw [h0]; simp, fun v _ => by rw [h0]; exact Int.le_refl _, by simp, by simp, fun p v hp => ?_, by simp, by simp [PathOk], by simp, fun v hv hc => ?_, fun t e => by cases e⟩
  · simp only [List.not_mem_nil, false_iff]
    rintro ⟨_, h2, _⟩
    rw [h0] at h2
    omega
  · obtain ⟨q, hq, _⟩ := hp
    cases hq
  · have hc' : 0 ≤ ix (List.replicate n (-1 : Int)) v := hc
    rw [h1 v hv] at hc'
    omega

end Tj
end Go.Proofs.Ytknfdpkfomlckaa
