/- Plain law: the steps of the search for components. No program. -/
import Derived.Test.YtknfdpkfomlckaaV1
namespace Go.Proofs.Ytknfdpkfomlckaa
namespace Tj

theorem PathOk.same {E : Nat → List Nat} {st : St} {c : Option Nat} {l : List (Nat × Nat)} (h : PathOk E st c l) {st' : St} (h1 : st'.idx = st.idx) (h2 : st'.low = st.low) (h3 : st'.opn = st.opn) : PathOk E st' c l :=
  h.mono (fun s k _ hd i w hi hw => by rw [h1, h2, h3]; exact hd i w hi hw) (fun s hs => by rw [h3]; exact hs) (fun s _ => by rw [h1])

/-- Another path over the same states. -/
theorem Inv.repath {E : Nat → List Nat} {n : Nat} {st : St} {c c' : Option Nat} (h : Inv E n st c) (l : List (Nat × Nat)) (hl : ∀ v, (∃ q ∈ l, q.1 = v) ↔ onPath st v) (hp : PathOk E st c' l) (hf : ∀ t, c' = some t → t < n ∧ ix st.idx t = 0) :
    Inv E n { st with path := l } c' :=
  ⟨h.li, h.ll, h.lo, h.edge, h.opn, h.asc, h.cnt, h.pos, h.low, fun v hv hn => h.fin v hv (fun hh => hn ((hl v).2 hh)), fun p v hp hv => h.rch p v ((hl p).1 hp) hv,
    fun v hv hn p hp hlt hmax => h.last v hv (fun hh => hn ((hl v).2 hh)) p ((hl p).1 hp) hlt (fun q hq => hmax q ((hl q).2 hq)), PathOk.same hp rfl rfl rfl, fun v hv => by
      obtain ⟨p, hp, hle⟩ := h.first v hv
      exact ⟨p, (hl p).2 hp, hle⟩, h.clo, hf⟩

theorem same_states {st : St} {s k k' : Nat} {r : List (Nat × Nat)} (hp : st.path = (s, k) :: r) (v : Nat) : (∃ q ∈ (s, k') :: r, q.1 = v) ↔ onPath st v := by
  unfold onPath
  rw [hp]
  simp

theorem Done.succ {E : Nat → List Nat} {st : St} {s k : Nat} (h : Done E st s k) (hk : ∀ w, (E s)[k]? = some w → 0 < ix st.idx w ∧ (w ∈ st.opn → ix st.low s ≤ ix st.idx w)) : Done E st s (k + 1) := by
  intro i w hi hw
  rcases Nat.lt_or_ge i k with h1 | h1
  · exact h i w h1 hw
  · have : i = k := by omega
    subst this
    exact hk w hw

/-- The next arc leads to a state that was not visited. -/
theorem Inv.push {E : Nat → List Nat} {n : Nat} {st : St} (h : Inv E n st none) {s k t : Nat} {r : List (Nat × Nat)} (hp : st.path = (s, k) :: r) (ht : (E s)[k]? = some t) (h0 : ix st.idx t = 0) : Inv E n { st with path := (s, k + 1) :: r } (some t) := by
  have hok := h.path
  rw [hp] at hok
  have hsn : s < n := ((h.opn s).1 hok.1).1
  refine h.repath _ (same_states hp) ⟨hok.1, ⟨by omega, by simpa using ht, by simpa using hok.2.1⟩, hok.2.2.1, hok.2.2.2⟩ (fun t' e => ?_)
  cases e
  exact ⟨h.edge s _ hsn (List.mem_of_getElem? ht), h0⟩

/-- The next arc leads to a closed state. -/
theorem Inv.skip {E : Nat → List Nat} {n : Nat} {st : St} (h : Inv E n st none) {s k t : Nat} {r : List (Nat × Nat)} (hp : st.path = (s, k) :: r) (ht : (E s)[k]? = some t) (h1 : 0 ≤ ix st.out t) : Inv E n { st with path := (s, k + 1) :: r } none := by
  have hok := h.path
  rw [hp] at hok
  have hsn : s < n := ((h.opn s).1 hok.1).1
  have htn := h.edge s _ hsn (List.mem_of_getElem? ht)
  refine h.repath _ (same_states hp) ⟨hok.1, hok.2.1.succ (fun w hw => ?_), hok.2.2.1, hok.2.2.2⟩ (fun t' e => by cases e)
  rw [ht] at hw
  cases hw
  exact ⟨(h.clo t htn h1).1, fun hm => by have := ((h.opn t).1 hm).2.2; omega⟩

/-- Lower a number of the state s on the path: to the index of an open state that s reaches. -/
theorem Inv.lower {E : Nat → List Nat} {n : Nat} {st : St} {c : Option Nat} (h : Inv E n st c) {s w : Nat} (hs : onPath st s) (hw : w ∈ st.opn) (hr : Path E s w) (x : Int) (hx : x = min (ix st.low s) (ix st.idx w)) :
    Inv E n { st with low := st.low.set s x } c := by
  have hso : s ∈ st.opn := by obtain ⟨q, hq, rfl⟩ := hs; exact h.path.opn q hq
  have hsn : s < n := ((h.opn s).1 hso).1
  have hl : ∀ u, ix (st.low.set s x) u = if u = s then x else ix st.low u := fun u => ix_set _ _ _ _ (by rw [h.ll]; exact hsn)
  have hle : ∀ u, ix (st.low.set s x) u ≤ ix st.low u := fun u => by
    rw [hl]
    split
    · rename_i e; subst e; rw [hx]; omega
    · omega
  have hdone : ∀ a k, a ∈ st.opn → Done E st a k → Done E { st with low := st.low.set s x } a k := fun a k _ hd i u hi hu => ⟨(hd i u hi hu).1, fun hm => Int.le_trans (hle a) ((hd i u hi hu).2 hm)⟩
  refine ⟨h.li, by simp [h.ll], h.lo, h.edge, h.opn, h.asc, h.cnt, h.pos, fun v hv => ?_, fun v hv hn => ⟨hdone v _ hv (h.fin v hv hn).1, Int.lt_of_le_of_lt (hle v) (h.fin v hv hn).2⟩, h.rch, fun v hv hn p hp hlt hmax => ?_, h.path.mono hdone (fun _ hs => hs) (fun _ _ => rfl), h.first, h.clo, h.fr⟩
  · refine ⟨Int.le_trans (hle v) (h.low v hv).1, ?_⟩
    show ∃ w ∈ st.opn, ix st.idx w = ix (st.low.set s x) v ∧ Path E v w
    rw [hl]
    split
    · rename_i e
      subst e
      rw [hx]
      obtain ⟨_, u, hu, h2, h3⟩ := h.low v hv
      rcases (show ix st.low v ≤ ix st.idx w ∨ ix st.idx w ≤ ix st.low v by omega) with h4 | h4
      · exact ⟨u, hu, by omega, h3⟩
      · exact ⟨w, hw, by omega, hr⟩
    · exact (h.low v hv).2
  · have hvs : v ≠ s := fun e => hn (e ▸ hs)
    show ix (st.low.set s x) p ≤ ix (st.low.set s x) v
    rw [hl v, if_neg hvs]
    exact Int.le_trans (hle p) (h.last v hv hn p hp hlt hmax)

/-- The next arc leads to an open state. -/
theorem Inv.least {E : Nat → List Nat} {n : Nat} {st : St} (h : Inv E n st none) {s k t : Nat} {r : List (Nat × Nat)} (hp : st.path = (s, k) :: r) (ht : (E s)[k]? = some t) (h0 : 0 < ix st.idx t) (h1 : ix st.out t < 0) (x : Int) (hx : x = min (ix st.low s) (ix st.idx t)) :
    Inv E n { st with low := st.low.set s x, path := (s, k + 1) :: r } none := by
  have hok := h.path
  rw [hp] at hok
  have hsn : s < n := ((h.opn s).1 hok.1).1
  have htn := h.edge s _ hsn (List.mem_of_getElem? ht)
  have hto : t ∈ st.opn := (h.opn t).2 ⟨htn, h0, h1⟩
  have h2 := h.lower (s := s) ⟨(s, k), by rw [hp]; exact List.mem_cons_self .., rfl⟩ hto (.one (List.mem_of_getElem? ht)) x hx
  have hp2 : ({ st with low := st.low.set s x } : St).path = (s, k) :: r := hp
  have hok2 := h2.path
  rw [hp2] at hok2
  refine h2.repath _ (same_states hp2) ⟨hok2.1, hok2.2.1.succ (fun w hw => ?_), hok2.2.2.1, PathOk.same hok2.2.2.2 rfl rfl rfl⟩ (fun t' e => by cases e)
  rw [ht] at hw
  cases hw
  refine ⟨h0, fun _ => ?_⟩
  show ix (st.low.set s x) s ≤ ix st.idx t
  rw [ix_set _ _ _ _ (by rw [h.ll]; exact hsn), if_pos rfl, hx]
  omega

/-- The state s is finished and not the first of its component. -/
theorem Inv.pop {E : Nat → List Nat} {n : Nat} {st : St} (h : Inv E n st none) {s k : Nat} {r : List (Nat × Nat)} (hp : st.path = (s, k) :: r) (hk : (E s).length ≤ k) (hne : ix st.low s ≠ ix st.idx s) :
    ∃ u j r', r = (u, j) :: r' ∧ ∀ x, x = min (ix st.low u) (ix st.low s) → Inv E n { st with low := st.low.set u x, path := r } none := by
  have hok := h.path
  rw [hp] at hok
  obtain ⟨hle, w, hw, hwi, hwr⟩ := h.low s hok.1
  have hlt : ix st.low s < ix st.idx s := by omega
  have hsp : onPath st s := ⟨(s, k), by rw [hp]; exact List.mem_cons_self .., rfl⟩
  cases r with
  | nil =>
    obtain ⟨p, ⟨q, hq, rfl⟩, hpl⟩ := h.first w hw
    rw [hp, List.mem_singleton] at hq
    subst hq
    simp only at hpl
    omega
  | cons a r' =>
    obtain ⟨u, j⟩ := a
    refine ⟨u, j, r', rfl, fun x hx => ?_⟩
    have hup : onPath st u := ⟨(u, j), by rw [hp]; simp, rfl⟩
    have huo : u ∈ st.opn := hok.2.2.2.1
    have hedge : s ∈ E u := List.mem_of_getElem? hok.2.2.2.2.1.2.1
    have h2 := h.lower (s := u) hup hw ((Path.one hedge).trans hwr) x (by rw [hx, hwi])
    have hp2 : ({ st with low := st.low.set u x } : St).path = (s, k) :: (u, j) :: r' := hp
    have hok2 := h2.path
    rw [hp2] at hok2
    have hun : u < n := ((h.opn u).1 huo).1
    have hus : u ≠ s := fun e => by have := hok.2.2.1 (u, j) (List.mem_cons_self ..); simp only [e] at this; omega
    have hl : ∀ v, ix (st.low.set u x) v = if v = u then x else ix st.low v := fun v => ix_set _ _ _ _ (by rw [h.ll]; exact hun)
    have hxs : x ≤ ix st.low s := by rw [hx]; omega
    have hon : ∀ v, onPath { st with low := st.low.set u x } v ↔ v = s ∨ ∃ q ∈ (u, j) :: r', q.1 = v := fun v => by
      unfold onPath
      rw [hp2]
      simp [eq_comm]
    have htop : ∀ q ∈ (u, j) :: r', ix st.idx q.1 ≤ ix st.idx u := by
      intro q hq
      rcases List.mem_cons.1 hq with rfl | hq
      · exact Int.le_refl _
      · have := hok.2.2.2.2.2.1 q hq; omega
    refine ⟨h2.li, h2.ll, h2.lo, h2.edge, h2.opn, h2.asc, h2.cnt, h2.pos, h2.low, fun v hv hn => ?_, fun p v hp' hv => h2.rch p v ((hon p).2 (.inr hp')) hv, fun v hv hn p hp' hlt' hmax => ?_, ?_, fun v hv => ?_, h2.clo, fun t e => by cases e⟩
    · by_cases hvs : v = s
      · subst hvs
        have hd : Done E { st with low := st.low.set u x } v (E v).length := fun i w' hi hw' => hok2.2.1 i w' (by omega) hw'
        refine ⟨hd, ?_⟩
        show ix (st.low.set u x) v < ix st.idx v
        rw [hl, if_neg (fun e => hus e.symm)]
        exact hlt
      · exact h2.fin v hv (fun hh => by
          rcases (hon v).1 hh with e | hh
          · exact hvs e
          · exact hn hh)
    · have hlt2 : ix st.idx p < ix st.idx v := hlt'
      have hmax2 : ∀ q, (∃ q' ∈ (u, j) :: r', q'.1 = q) → ix st.idx q < ix st.idx v → ix st.idx q ≤ ix st.idx p := hmax
      show ix (st.low.set u x) p ≤ ix (st.low.set u x) v
      by_cases hvs : v = s
      · subst hvs
        have hpu : p = u := by
          have h3 := hmax2 u ⟨(u, j), List.mem_cons_self .., rfl⟩ (by have := hok.2.2.1 (u, j) (List.mem_cons_self ..); exact this)
          obtain ⟨q, hq, rfl⟩ := hp'
          have h4 := htop q hq
          exact h.distinct (hok.2.2.2.opn q hq) huo (by omega)
        subst hpu
        rw [hl, if_pos rfl, hl, if_neg (fun e => hus e.symm)]
        exact hxs
      · have hnv : ¬ onPath { st with low := st.low.set u x } v := fun hh => by
          rcases (hon v).1 hh with e | hh
          · exact hvs e
          · exact hn hh
        by_cases hsv : ix st.idx s < ix st.idx v
        · have h3 := h2.last v hv hnv s ((hon s).2 (.inl rfl)) hsv (fun q hq hqv => by
            rcases (hon q).1 hq with rfl | ⟨q', hq', rfl⟩
            · exact Int.le_refl _
            · have h4 := htop q' hq'
              have h5 := hok.2.2.1 (u, j) (List.mem_cons_self ..)
              show ix st.idx q'.1 ≤ ix st.idx s
              simp only at h5
              omega)
          have hpu : p = u := by
            have h5 := hok.2.2.1 (u, j) (List.mem_cons_self ..)
            simp only at h5
            have h3 := hmax2 u ⟨(u, j), List.mem_cons_self .., rfl⟩ (by omega)
            obtain ⟨q, hq, rfl⟩ := hp'
            have h4 := htop q hq
            exact h.distinct (hok.2.2.2.opn q hq) huo (by omega)
          subst hpu
          change ix (st.low.set p x) s ≤ ix (st.low.set p x) v at h3
          rw [hl s, if_neg (fun e => hus e.symm)] at h3
          rw [hl p, if_pos rfl]
          omega
        · refine h2.last v hv hnv p ((hon p).2 (.inr hp')) hlt2 (fun q hq hqv => ?_)
          rcases (hon q).1 hq with rfl | hq'
          · exact absurd hqv hsv
          · exact hmax2 q hq' hqv
    · have h3 := hok2.2.2.2
      refine ⟨h3.1, ?_, h3.2.2.1, PathOk.same h3.2.2.2 rfl rfl rfl⟩
      intro i w' hi hw'
      rcases Nat.lt_or_ge i (j - 1) with h4 | h4
      · exact h3.2.1.2.2 i w' h4 hw'
      · have h5 : i = j - 1 := by omega
        subst h5
        rw [h3.2.1.2.1] at hw'
        cases hw'
        refine ⟨((h.opn s).1 hok.1).2.1, fun _ => ?_⟩
        show ix (st.low.set u x) u ≤ ix st.idx s
        rw [hl, if_pos rfl]
        omega
    · obtain ⟨p, hp', hle'⟩ := h2.first v hv
      rcases (hon p).1 hp' with rfl | hp'
      · refine ⟨u, ⟨(u, j), List.mem_cons_self .., rfl⟩, ?_⟩
        have h5 := hok.2.2.1 (u, j) (List.mem_cons_self ..)
        change ix st.idx u ≤ ix st.idx v
        change ix st.idx p ≤ ix st.idx v at hle'
        simp only at h5
        omega
      · exact ⟨p, hp', hle'⟩

end Tj
end Go.Proofs.Ytknfdpkfomlckaa
