/- Plain: heaps as lists of cells; following links; what the operations make of them. No program. -/
import Derived.Test.YtlpgonnionbkfaaX1
namespace Go.Proofs.Ytlpgonnionbkfaa
open Go.RowKit

theorem fol_s {cs : List HC} {n r t : Nat} : fol cs (n + 1) r = some t ↔ ∃ c, cs[r]? = some c ∧ ((c.kind ≠ 3 ∧ r = t) ∨ (c.kind = 3 ∧ ∃ u us, c.refs = u :: us ∧ 0 ≤ u ∧ fol cs n u.toNat = some t)) := by
  rw [fol]
  cases hc : cs[r]? with
  | none => simp
  | some c =>
    simp only [Option.some.injEq, exists_eq_left']
    by_cases hk : c.kind = 3
    · simp only [hk, if_true, ne_eq, not_true_eq_false, false_and, true_and, false_or]
      cases hr : c.refs with
      | nil => simp
      | cons u us =>
        by_cases hu : 0 ≤ u
        · simp [hu]
        · simp [hu]
    · simp [hk]
theorem fol_mono {cs : List HC} : ∀ {n r t : Nat}, fol cs n r = some t → fol cs (n + 1) r = some t
  | 0, _, _, h => by simp [fol] at h
  | n + 1, r, t, h => by
    obtain ⟨c, hc, h1 | ⟨hk, u, us, hr, hu, h2⟩⟩ := fol_s.1 h
    · exact fol_s.2 ⟨c, hc, .inl h1⟩
    · exact fol_s.2 ⟨c, hc, .inr ⟨hk, u, us, hr, hu, fol_mono h2⟩⟩
theorem fol_le {cs : List HC} {n r t : Nat} (h : fol cs n r = some t) : ∀ {m : Nat}, n ≤ m → fol cs m r = some t := by
  intro m hm
  induction m with
  | zero => obtain rfl : n = 0 := by omega
            exact h
  | succ m ih =>
    by_cases hnm : n = m + 1
    · subst hnm; exact h
    · exact fol_mono (ih (by omega))
theorem fol_det {cs : List HC} {n m r t u : Nat} (h : fol cs n r = some t) (k : fol cs m r = some u) : t = u := by
  have h1 := fol_le h (Nat.le_max_left n m)
  have h2 := fol_le k (Nat.le_max_right n m)
  rw [h1] at h2
  exact Option.some.inj h2
/-- The cells of a chain, when the fuel is the least. -/
theorem fol_chain {cs : List HC} : ∀ {n r t : Nat}, fol cs n r = some t → (∀ m, m < n → fol cs m r = none) → ∃ L : List Nat, L.Nodup ∧ L.length = n ∧ ∀ x ∈ L, x < cs.length ∧ fol cs n x ≠ none
  | 0, _, _, h, _ => by simp [fol] at h
  | n + 1, r, t, h, hm => by
    have hr := (fol_lt h).2.1
    have hfull := h
    rw [fol] at h
    split at h
    · cases h
    · rename_i c hc
      split at h
      · rename_i hk
        split at h
        · rename_i u us hu
          split at h
          · rename_i hu0
            have hmin : ∀ m, m < n → fol cs m u.toNat = none := fun m hlt => by
              have := hm (m + 1) (by omega)
              rw [fol, hc] at this
              simp only [hk, if_true, hu, hu0] at this
              exact this
            obtain ⟨L, h1, h2, h3⟩ := fol_chain h hmin
            refine ⟨r :: L, List.nodup_cons.2 ⟨fun hmem => ?_, h1⟩, by simp [h2], fun x hx => ?_⟩
            · have := (h3 r hmem).2
              exact this (hm n (by omega))
            · rcases List.mem_cons.1 hx with rfl | hx
              · exact ⟨hr, by rw [hfull]; simp⟩
              · refine ⟨(h3 x hx).1, fun he => (h3 x hx).2 ?_⟩
                cases hq : fol cs n x with
                | none => rfl
                | some y => rw [fol_mono hq] at he; cases he
          · cases h
        · cases h
      · cases n with
        | zero => exact ⟨[r], by simp, rfl, fun x hx => by rw [List.mem_singleton] at hx; subst hx; exact ⟨hr, by rw [hfull]; simp⟩⟩
        | succ n =>
          have := hm (n + 1) (by omega)
          rw [fol, hc] at this
          rename_i hk
          simp [hk] at this
theorem fol_len {cs : List HC} {n r t : Nat} (h : fol cs n r = some t) : fol cs cs.length r = some t := by
  have key : ∀ n, fol cs n r = some t → fol cs cs.length r = some t := by
    intro n
    induction n using Nat.strongRecOn with
    | _ n ih =>
      intro h
      by_cases hm : ∀ m, m < n → fol cs m r = none
      · obtain ⟨L, h1, h2, h3⟩ := fol_chain h hm
        have := h1.length_le_of_subset (l₂ := List.range cs.length) (fun x hx => List.mem_range.2 (h3 x hx).1)
        exact fol_le h (by simp at this; omega)
      · obtain ⟨m, hm⟩ := Classical.not_forall.1 hm
        obtain ⟨hlt, hne⟩ := Classical.not_imp.1 hm
        cases hq : fol cs m r with
        | none => exact absurd hq hne
        | some u =>
          obtain rfl := fol_det hq h
          exact ih m hlt hq
  exact key n h

/-- A change of a cell that is no link into one that is no link. -/
theorem fol_keep {cs : List HC} {i : Nat} {c0 c : HC} (h0 : cs[i]? = some c0) (hk0 : c0.kind ≠ 3) (hk : c.kind ≠ 3) : ∀ (n r : Nat), fol (cs.set i c) n r = fol cs n r
  | 0, _ => rfl
  | n + 1, r => by
    have hi := (List.getElem?_eq_some_iff.1 h0).1
    rw [fol, fol]
    by_cases hri : i = r
    · subst hri
      rw [List.getElem?_set_self hi, h0]
      simp [hk, hk0]
    · rw [List.getElem?_set_ne hri]
      split
      · rfl
      · split
        · split
          · split
            · exact fol_keep h0 hk0 hk n _
            · rfl
          · rfl
        · rfl
theorem fol_push {cs : List HC} (c : HC) : ∀ {n r t : Nat}, fol cs n r = some t → fol (cs ++ [c]) n r = some t
  | 0, _, _, h => by simp [fol] at h
  | n + 1, r, t, h => by
    have hr := (fol_lt h).2.1
    obtain ⟨c0, hc, h1 | ⟨hk, u, us, hr', hu, h2⟩⟩ := fol_s.1 h
    · exact fol_s.2 ⟨c0, by rw [List.getElem?_append_left hr]; exact hc, .inl h1⟩
    · exact fol_s.2 ⟨c0, by rw [List.getElem?_append_left hr]; exact hc, .inr ⟨hk, u, us, hr', hu, fol_push c h2⟩⟩
theorem fol_link_ne {cs : List HC} {i : Nat} {c0 : HC} (c : HC) (h0 : cs[i]? = some c0) (hk0 : c0.kind ≠ 3) : ∀ {n r t : Nat}, fol cs n r = some t → t ≠ i → fol (cs.set i c) n r = some t
  | 0, _, _, h, _ => by simp [fol] at h
  | n + 1, r, t, h, hne => by
    obtain ⟨c1, hc, h1⟩ := fol_s.1 h
    have hri : i ≠ r := fun e => by
      subst e
      rw [h0] at hc
      cases hc
      rcases h1 with h1 | h1
      · exact hne h1.2.symm
      · exact hk0 h1.1
    rcases h1 with h1 | ⟨hk, u, us, hr', hu, h2⟩
    · exact fol_s.2 ⟨c1, by rw [List.getElem?_set_ne hri]; exact hc, .inl h1⟩
    · exact fol_s.2 ⟨c1, by rw [List.getElem?_set_ne hri]; exact hc, .inr ⟨hk, u, us, hr', hu, fol_link_ne c h0 hk0 h2 hne⟩⟩
theorem fol_link_eq {cs : List HC} {i u m t : Nat} {c0 : HC} {c : HC} (h0 : cs[i]? = some c0) (hk0 : c0.kind ≠ 3) (hc : c.kind = 3) (hr : c.refs = [(u : Int)]) (hu : fol (cs.set i c) m u = some t) : ∀ {n r : Nat}, fol cs n r = some i → fol (cs.set i c) (n + m) r = some t
  | 0, _, h => by simp [fol] at h
  | n + 1, r, h => by
    have hi := (List.getElem?_eq_some_iff.1 h0).1
    have hn1 : n + 1 + m = (n + m) + 1 := by omega
    rw [hn1]
    by_cases hri : i = r
    · subst hri
      exact fol_s.2 ⟨c, List.getElem?_set_self hi, .inr ⟨hc, (u : Int), [], hr, by omega, by rw [Int.toNat_natCast]; exact fol_le hu (by omega)⟩⟩
    · obtain ⟨c1, hc1, h1 | ⟨hk, u1, us, hr', hu1, h2⟩⟩ := fol_s.1 h
      · exact absurd h1.2.symm hri
      · exact fol_s.2 ⟨c1, by rw [List.getElem?_set_ne hri]; exact hc1, .inr ⟨hk, u1, us, hr', hu1, fol_link_eq h0 hk0 hc hr hu h2⟩⟩

/-- What holds of every heap that the operations make. -/
structure HOk (cs : List HC) : Prop where
  refs : ∀ c ∈ cs, ∀ r ∈ c.refs, 0 ≤ r ∧ r < (cs.length : Int)
  two : ∀ c ∈ cs, c.refs.length ≤ 2
  ter : ∀ r, r < cs.length → ∃ t, fol cs cs.length r = some t
theorem HOk.nil : HOk [] := ⟨fun c h => (by cases h), fun c h => (by cases h), fun r h => (by simp at h)⟩

def tgt (cs : List HC) (r : Nat) : Nat := (fol cs cs.length r).getD 0
theorem HOk.tgt {cs : List HC} (h : HOk cs) {r : Nat} (hr : r < cs.length) : fol cs cs.length r = some (tgt cs r) := by
  obtain ⟨t, ht⟩ := h.ter r hr
  rw [Ytlpgonnionbkfaa.tgt, ht]; rfl
theorem HOk.tgt_lt {cs : List HC} (h : HOk cs) {r : Nat} (hr : r < cs.length) : Ytlpgonnionbkfaa.tgt cs r < cs.length := (fol_lt (h.tgt hr)).1
theorem tgt_of {cs : List HC} {n r t : Nat} (h : fol cs n r = some t) : tgt cs r = t := by rw [tgt, fol_len h]; rfl

def cellAt (cs : List HC) (i : Nat) : HC := cs.getD i ⟨0, 0, []⟩
theorem cellAt_of {cs : List HC} {i : Nat} {c : HC} (h : cs[i]? = some c) : cellAt cs i = c := by rw [cellAt, List.getD_eq_getElem?_getD, h]; rfl
theorem cellAt_get {cs : List HC} {i : Nat} (h : i < cs.length) : cs[i]? = some (cellAt cs i) := by rw [cellAt, List.getD_eq_getElem?_getD, List.getElem?_eq_getElem h]; rfl

theorem set_mem {cs : List HC} {i : Nat} {c x : HC} (h : x ∈ cs.set i c) : x ∈ cs ∨ x = c := List.mem_or_eq_of_mem_set h
theorem HOk.set {cs : List HC} (h : HOk cs) {i : Nat} {c0 c : HC} (h0 : cs[i]? = some c0) (hk0 : c0.kind ≠ 3) (hk : c.kind ≠ 3) (hr : ∀ r ∈ c.refs, 0 ≤ r ∧ r < (cs.length : Int)) (h2 : c.refs.length ≤ 2) : HOk (cs.set i c) where
  refs := fun x hx r hr' => by
    rw [List.length_set]
    rcases set_mem hx with hx | rfl
    · exact h.refs x hx r hr'
    · exact hr r hr'
  two := fun x hx => by
    rcases set_mem hx with hx | rfl
    · exact h.two x hx
    · exact h2
  ter := fun r hr' => by
    rw [List.length_set] at hr' ⊢
    rw [fol_keep h0 hk0 hk]
    exact h.ter r hr'
theorem HOk.link {cs : List HC} (h : HOk cs) {i u t : Nat} {c0 : HC} (num : Int) (h0 : cs[i]? = some c0) (hk0 : c0.kind ≠ 3) (hu : u < cs.length) (ht : fol cs cs.length u = some t) (hne : t ≠ i) : HOk (cs.set i ⟨3, num, [(u : Int)]⟩) where
  refs := fun x hx r hr' => by
    rw [List.length_set]
    rcases set_mem hx with hx | rfl
    · exact h.refs x hx r hr'
    · simp only [List.mem_singleton] at hr'
      subst hr'
      omega
  two := fun x hx => by
    rcases set_mem hx with hx | rfl
    · exact h.two x hx
    · simp
  ter := fun r hr' => by
    rw [List.length_set] at hr' 
    obtain ⟨y, hy⟩ := h.ter r hr'
    have hu' := fol_link_ne ⟨3, num, [(u : Int)]⟩ h0 hk0 ht hne
    by_cases hyi : y = i
    · subst hyi
      exact ⟨t, fol_len (fol_link_eq (c := ⟨3, num, [(u : Int)]⟩) h0 hk0 rfl rfl hu' hy)⟩
    · exact ⟨y, fol_len (fol_link_ne _ h0 hk0 hy hyi)⟩
theorem HOk.push {cs : List HC} (h : HOk cs) {c : HC} (hk : c.kind ≠ 3) (hr : ∀ r ∈ c.refs, 0 ≤ r ∧ r < (cs.length : Int) + 1) (h2 : c.refs.length ≤ 2) : HOk (cs ++ [c]) where
  refs := fun x hx r hr' => by
    rw [List.length_append, List.length_singleton]
    rcases List.mem_append.1 hx with hx | hx
    · have := h.refs x hx r hr'
      omega
    · rw [List.mem_singleton] at hx
      subst hx
      have := hr r hr'
      omega
  two := fun x hx => by
    rcases List.mem_append.1 hx with hx | hx
    · exact h.two x hx
    · rw [List.mem_singleton] at hx
      subst hx
      exact h2
  ter := fun r hr' => by
    rw [List.length_append, List.length_singleton] at hr'
    by_cases hrl : r < cs.length
    · obtain ⟨t, ht⟩ := h.ter r hrl
      exact ⟨t, fol_len (fol_push c ht)⟩
    · obtain rfl : r = cs.length := by omega
      refine ⟨cs.length, fol_len (n := 1) ?_⟩
      rw [fol, List.getElem?_append_right (Nat.le_refl _), Nat.sub_self]
      simp [hk]

theorem badRef_iff {lim r : Int} : badRef lim r = false ↔ 0 ≤ r ∧ r < lim := by
  simp only [badRef, Bool.or_eq_false_iff, decide_eq_false_iff_not]
  omega
theorem refersB_iff {lim : Int} {xs : List Int} : refersB lim xs = true ↔ xs.length ≤ 4096 ∧ ∀ r ∈ xs, 0 ≤ r ∧ r < lim := by
  simp only [refersB, Bool.and_eq_true, decide_eq_true_eq, Bool.not_eq_true', List.any_eq_false]
  constructor
  · rintro ⟨h1, h2⟩
    exact ⟨h1, fun r hr => badRef_iff.1 (by have := h2 r hr; simpa using this)⟩
  · rintro ⟨h1, h2⟩
    exact ⟨h1, fun r hr => by rw [badRef_iff.2 (h2 r hr)]; simp⟩

/-- The operations on the model: results and the heap behind them. -/
def zc : HC := ⟨0, 0, []⟩
def goodK (k : Int) : Bool := decide (k = 1 ∨ (4 ≤ k ∧ k ≤ 19))
def allocM (most : Int) (cs : List HC) (c : HC) : Int × Int × List HC :=
  if goodK c.kind = true ∧ refersB (cs.length + 1) c.refs = true then if (cs.length : Int) = most then (0, 10, cs) else (cs.length, 0, cs ++ [c]) else (0, 1, cs)
def inL (cs : List HC) (r : Int) : Bool := decide (0 ≤ r ∧ r < (cs.length : Int))
def readM (cs : List HC) (r : Int) : HC × Int × Int :=
  if inL cs r = true then (cellAt cs (tgt cs r.toNat), tgt cs r.toNat, 0) else (zc, 0, 21)
def enterM (cs : List HC) (r : Int) : HC × Int × List HC :=
  if inL cs r = true then
    let t := tgt cs r.toNat
    let c := cellAt cs t
    if c.kind = 1 then (c, 0, cs.set t ⟨2, c.num, []⟩) else (zc, if c.kind = 2 then 14 else 20, cs)
  else (zc, 21, cs)
def updateM (cs : List HC) (r to : Int) : Int × List HC :=
  if inL cs r = true ∧ inL cs to = true then
    if (cellAt cs r.toNat).kind = 2 then if tgt cs to.toNat = r.toNat then (14, cs) else (0, cs.set r.toNat ⟨3, (cellAt cs r.toNat).num, [to]⟩) else (20, cs)
  else (21, cs)
def restoreM (cs : List HC) (r : Int) (c : HC) : Int × List HC :=
  if inL cs r = true then
    if (cellAt cs r.toNat).kind = 2 then if c.kind = 1 ∧ refersB cs.length c.refs = true then (0, cs.set r.toNat c) else (1, cs) else (20, cs)
  else (21, cs)

theorem inL_nat {cs : List HC} {r : Int} (h : inL cs r = true) : ∃ k : Nat, r = k ∧ k < cs.length := by
  simp only [inL, decide_eq_true_eq] at h
  exact ⟨r.toNat, by omega, by omega⟩
theorem inL_no {cs : List HC} {r : Int} (h : inL cs r = false) : r < 0 ∨ (cs.length : Int) ≤ r := by
  simp only [inL, decide_eq_false_iff_not] at h
  omega
theorem goodK_yes {k : Int} (h : goodK k = true) : k = 1 ∨ (4 ≤ k ∧ k ≤ 19) := by simpa [goodK] using h
theorem goodK_ne3 {k : Int} (h : goodK k = true) : k ≠ 3 := by have := goodK_yes h; omega
theorem allocM_ok {most : Int} {cs : List HC} {c : HC} (h : HOk cs) (h2 : c.refs.length ≤ 2) : HOk (allocM most cs c).2.2 := by
  rw [allocM]
  split
  · rename_i hg
    split
    · exact h
    · exact h.push (goodK_ne3 hg.1) (refersB_iff.1 hg.2).2 h2
  · exact h
theorem enterM_ok {cs : List HC} {r : Int} (h : HOk cs) : HOk (enterM cs r).2.2 := by
  rw [enterM]
  split
  · rename_i hr
    obtain ⟨k, rfl, hk⟩ := inL_nat hr
    rw [Int.toNat_natCast]
    dsimp only
    split
    · rename_i h1
      exact h.set (cellAt_get (h.tgt_lt hk)) (by rw [h1]; decide) (show (2 : Int) ≠ 3 by decide) (fun r hr => by cases hr) (by simp)
    · exact h
  · exact h
theorem updateM_ok {cs : List HC} {r to : Int} (h : HOk cs) : HOk (updateM cs r to).2 := by
  rw [updateM]
  split
  · rename_i hr
    obtain ⟨k, rfl, hk⟩ := inL_nat hr.1
    obtain ⟨u, rfl, hu⟩ := inL_nat hr.2
    rw [Int.toNat_natCast, Int.toNat_natCast]
    split
    · rename_i h1
      split
      · exact h
      · rename_i hne
        exact h.link _ (cellAt_get hk) (by rw [h1]; decide) hu (h.tgt hu) hne
    · exact h
  · exact h
theorem restoreM_ok {cs : List HC} {r : Int} {c : HC} (h : HOk cs) (h2 : c.refs.length ≤ 2) : HOk (restoreM cs r c).2 := by
  rw [restoreM]
  split
  · rename_i hr
    obtain ⟨k, rfl, hk⟩ := inL_nat hr
    rw [Int.toNat_natCast]
    split
    · rename_i h1
      split
      · rename_i hc
        exact h.set (cellAt_get hk) (by rw [h1]; decide) (by rw [hc.1]; decide) (refersB_iff.1 hc.2).2 h2
      · exact h
    · exact h
  · exact h
theorem allocM_len {most : Int} {cs : List HC} {c : HC} (h : (cs.length : Int) ≤ most) : ((allocM most cs c).2.2.length : Int) ≤ most := by
  rw [allocM]
  split
  · split
    · exact h
    · rw [List.length_append, List.length_singleton]; omega
  · exact h
theorem enterM_len (cs : List HC) (r : Int) : (enterM cs r).2.2.length = cs.length := by
  rw [enterM]
  split
  · dsimp only; split <;> simp
  · rfl
theorem updateM_len (cs : List HC) (r to : Int) : (updateM cs r to).2.length = cs.length := by
  rw [updateM]
  split
  · split
    · split <;> simp
    · rfl
  · rfl
theorem restoreM_len (cs : List HC) (r : Int) (c : HC) : (restoreM cs r c).2.length = cs.length := by
  rw [restoreM]
  split
  · split
    · split <;> simp
    · rfl
  · rfl

end Go.Proofs.Ytlpgonnionbkfaa
