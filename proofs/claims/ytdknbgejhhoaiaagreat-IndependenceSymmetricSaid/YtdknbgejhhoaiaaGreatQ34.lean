/- The plain law of canonical forms: states numbered as they are met. -/
import Derived.Test.YtdknbgejhhoaiaaGreatQ09
namespace Go.Proofs.YtdknbgejhhoaiaaGreat.Ind

/-- The number of a state (-1: none yet); the states by their numbers. -/
abbrev NO := List Int × List Int
def numA (s : NO) (t : Int) : NO := if s.1[t.toNat]?.getD 0 < 0 then (s.1.set t.toNat s.2.length, s.2 ++ [t]) else s
def arcA (s : NO × List Ar) (a : Ar) : NO × List Ar := (numA s.1 a.2, s.2 ++ [(a.1, (numA s.1 a.2).1[a.2.toNat]?.getD 0)])
def rowA (s : NO) (l : List Ar) : NO × List Ar := l.foldl arcA (s, [])
theorem rowA_snoc (s : NO) (l : List Ar) (a : Ar) : rowA s (l ++ [a]) = arcA (rowA s l) a := by simp [rowA]
/-- What always holds of the numbers, of a system with n states. -/
structure NOk (n : Nat) (s : NO) : Prop where
  len : s.1.length = n
  old : ∀ (j : Nat) (t : Int), s.2[j]? = some t → 0 ≤ t ∧ t < n ∧ s.1[t.toNat]? = some (j : Int)
  num : ∀ (t : Nat) (k : Int), s.1[t]? = some k → 0 ≤ k → s.2[k.toNat]? = some (t : Int)
theorem NOk.put {n : Nat} {s : NO} (h : NOk n s) {t : Int} (h0 : 0 ≤ t) (h1 : t < n) : NOk n (numA s t) ∧ ∃ k : Nat, (numA s t).1[t.toNat]? = some (k : Int) ∧ (numA s t).2[k]? = some t := by
  have ht : t.toNat < s.1.length := by rw [h.len]; omega
  obtain ⟨x, hx⟩ : ∃ x, s.1[t.toNat]? = some x := ⟨_, List.getElem?_eq_getElem ht⟩
  by_cases hneg : x < 0
  · have e : numA s t = (s.1.set t.toNat s.2.length, s.2 ++ [t]) := by rw [numA, hx]; simp [hneg]
    rw [e]
    refine ⟨⟨by rw [List.length_set]; exact h.len, fun j u hj => ?_, fun u k hu hk => ?_⟩, s.2.length, by rw [List.getElem?_set_self ht], by rw [List.getElem?_append_right (Nat.le_refl _), Nat.sub_self]; rfl⟩
    · rw [List.getElem?_append] at hj
      split at hj
      · obtain ⟨a, b, c⟩ := h.old j u hj
        refine ⟨a, b, ?_⟩
        have hne : t.toNat ≠ u.toNat := by
          intro e9
          rw [← e9, hx] at c
          cases c
          omega
        rw [List.getElem?_set_ne hne]
        exact c
      · rename_i hlt
        have hj0 : j = s.2.length ∧ t = u := by
          by_cases hz : j - s.2.length = 0
          · rw [hz] at hj; simp at hj; exact ⟨by omega, hj⟩
          · rw [List.getElem?_eq_none (by simp; omega)] at hj; cases hj
        obtain ⟨rfl, rfl⟩ := hj0
        exact ⟨h0, h1, List.getElem?_set_self ht⟩
    · by_cases hut : t.toNat = u
      · subst hut
        rw [List.getElem?_set_self ht] at hu
        cases hu
        rw [Int.toNat_natCast, List.getElem?_append_right (Nat.le_refl _), Nat.sub_self]
        simp
        omega
      · rw [List.getElem?_set_ne hut] at hu
        have := h.num u k hu hk
        rw [List.getElem?_append_left (List.getElem?_eq_some_iff.1 this).1]
        exact this
  · have e : numA s t = s := by rw [numA, hx]; simp [hneg]
    rw [e]
    have h9 := h.num _ _ hx (by omega)
    refine ⟨h, x.toNat, by rw [hx]; congr 1; omega, ?_⟩
    rw [h9]
    congr 1
    omega
theorem numA_grow (s : NO) (t : Int) : ∃ r, (numA s t).2 = s.2 ++ r ∧ r.length ≤ 1 := by
  unfold numA
  split
  · exact ⟨[t], rfl, Nat.le_refl _⟩
  · exact ⟨[], by simp, Nat.zero_le _⟩
/-- What one row's arcs become. -/
structure RowOk (n : Nat) (s : NO) (l : List Ar) (r : NO × List Ar) : Prop where
  ok : NOk n r.1
  len : r.2.length = l.length
  grow : ∃ x, r.1.2 = s.2 ++ x ∧ x.length ≤ l.length
  at_ : ∀ (k : Nat) (a b : Ar), l[k]? = some a → r.2[k]? = some b → b.1 = a.1 ∧ 0 ≤ b.2 ∧ r.1.2[b.2.toNat]? = some a.2
theorem nodup_of {α : Type} {l : List α} (h : ∀ (i j : Nat) (x : α), i < j → l[i]? = some x → l[j]? = some x → False) : l.Nodup := by
  rw [List.Nodup, List.pairwise_iff_getElem]
  intro i j hi hj hij e
  exact h i j _ hij (List.getElem?_eq_getElem hi) (by rw [List.getElem?_eq_getElem hj, e])
theorem nodup_at {α : Type} {l : List α} (h : l.Nodup) {i j : Nat} {x : α} (hij : i < j) (hi : l[i]? = some x) (hj : l[j]? = some x) : False := by
  rw [List.Nodup, List.pairwise_iff_getElem] at h
  obtain ⟨a, ha⟩ := List.getElem?_eq_some_iff.1 hi
  obtain ⟨b, hb⟩ := List.getElem?_eq_some_iff.1 hj
  exact h i j a b hij (ha.trans hb.symm)
theorem nodup_le : ∀ (n : Nat) (l : List Nat), l.Nodup → (∀ x ∈ l, x < n) → l.length ≤ n
  | 0, l, _, h => by
    cases l with
    | nil => exact Nat.le_refl _
    | cons a r => exact absurd (h a (by simp)) (Nat.not_lt_zero _)
  | n + 1, l, hn, h => by
    have h1 := nodup_le n (l.erase n) (hn.erase n) (fun x hx => by
      have h2 := (hn.mem_erase_iff).1 hx
      have h3 := h x h2.2
      omega)
    rw [List.length_erase] at h1
    split at h1 <;> omega
theorem RowOk.snoc {n : Nat} {s : NO} {l : List Ar} (hi : RowOk n s l (rowA s l)) {a : Ar} (ha0 : 0 ≤ a.2) (ha1 : a.2 < n) : RowOk n s (l ++ [a]) (rowA s (l ++ [a])) := by
  obtain ⟨hok, k, hk1, hk2⟩ := hi.ok.put ha0 ha1
  rw [rowA_snoc]
  obtain ⟨g, hg, hgl⟩ := numA_grow (rowA s l).1 a.2
  obtain ⟨x, hx, hxl⟩ := hi.grow
  refine ⟨hok, by simp [arcA, hi.len], ⟨x ++ g, by simp only [arcA, hg, hx, List.append_assoc], by simp; omega⟩, fun j u v hu hv => ?_⟩
  by_cases hj : j < l.length
  · rw [List.getElem?_append_left hj] at hu
    have hv' : (rowA s l).2[j]? = some v := by
      simp only [arcA] at hv
      rwa [List.getElem?_append_left (by rw [hi.len]; exact hj)] at hv
    obtain ⟨e1, e2, e3⟩ := hi.at_ j u v hu hv'
    refine ⟨e1, e2, ?_⟩
    simp only [arcA, hg]
    rw [List.getElem?_append_left (List.getElem?_eq_some_iff.1 e3).1]
    exact e3
  · have hjl : j = l.length := by
      have := (List.getElem?_eq_some_iff.1 hu).1
      simp at this
      omega
    subst hjl
    rw [List.getElem?_append_right (Nat.le_refl _), Nat.sub_self] at hu
    simp only [List.getElem?_cons_zero, Option.some.injEq] at hu
    subst hu
    simp only [arcA] at hv
    rw [List.getElem?_append_right (by rw [hi.len]; exact Nat.le_refl _), hi.len, Nat.sub_self] at hv
    simp only [List.getElem?_cons_zero, Option.some.injEq] at hv
    subst hv
    simp only [hk1, Option.getD_some]
    exact ⟨trivial, by omega, by simpa [arcA] using hk2⟩
theorem rowA_go {n : Nat} {s : NO} : ∀ (ys xs : List Ar), RowOk n s xs (rowA s xs) → (∀ a ∈ ys, 0 ≤ a.2 ∧ a.2 < n) → RowOk n s (xs ++ ys) (rowA s (xs ++ ys))
  | [], xs, h, _ => by rwa [List.append_nil]
  | y :: ys, xs, h, hl => by
    have h1 := h.snoc (hl y (by simp)).1 (hl y (by simp)).2
    have h2 := rowA_go ys (xs ++ [y]) h1 (fun a ha => hl a (List.mem_cons_of_mem _ ha))
    rwa [List.append_assoc] at h2
theorem rowA_ok {n : Nat} {s : NO} (h : NOk n s) (l : List Ar) (hl : ∀ a ∈ l, 0 ≤ a.2 ∧ a.2 < n) : RowOk n s l (rowA s l) := by
  have := rowA_go l [] ⟨h, rfl, ⟨[], by simp [rowA], Nat.zero_le _⟩, fun k a b hk => by simp at hk⟩ hl
  simpa using this
/-- The arcs' new targets differ where the old ones do. -/
theorem rowA_nodup {n : Nat} {s : NO} (h : NOk n s) {l : List Ar} (hl : ∀ a ∈ l, 0 ≤ a.2 ∧ a.2 < n) (hn : l.Nodup) : (rowA s l).2.Nodup := by
  have hr := rowA_ok h l hl
  refine nodup_of (fun i j x hij hx hy => ?_)
  have hil : i < l.length := by rw [← hr.len]; exact (List.getElem?_eq_some_iff.1 hx).1
  have hjl : j < l.length := by rw [← hr.len]; exact (List.getElem?_eq_some_iff.1 hy).1
  obtain ⟨a, ha⟩ : ∃ a, l[i]? = some a := ⟨_, List.getElem?_eq_getElem hil⟩
  obtain ⟨b, hb⟩ : ∃ b, l[j]? = some b := ⟨_, List.getElem?_eq_getElem hjl⟩
  obtain ⟨a1, a2, a3⟩ := hr.at_ i a x ha hx
  obtain ⟨b1, b2, b3⟩ := hr.at_ j b x hb hy
  rw [a3] at b3
  have hab : a = b := Prod.ext (a1.symm.trans b1) (by simpa using b3)
  rw [← hab] at hb
  exact nodup_at hn hij ha hb
/-- One state's row in the canonical form. -/
structure CB where
  no : NO
  out : List (List Ar)
def canStep (l : List (List Ar)) (s : CB) (i : Nat) : CB :=
  let r := rowA s.no (setG ltAr (l[(s.no.2[i]?.getD 0).toNat]?.getD []))
  ⟨r.1, s.out ++ [setG ltAr r.2]⟩
def canGo (l : List (List Ar)) : Nat → CB → Nat → CB
  | 0, s, _ => s
  | f + 1, s, i => if i < s.no.2.length then canGo l f (canStep l s i) (i + 1) else s
def canStart (n : Nat) : CB := ⟨((List.replicate n (-1)).set 0 0, [0]), []⟩
/-- The canonical form of a loose system. -/
def canB (l : List (List Ar)) : CB := canGo l (l.length + 1) (canStart l.length) 0
theorem start_ok {n : Nat} (hn : 0 < n) : NOk n (canStart n).no := by
  refine ⟨by simp [canStart], fun j t h => ?_, fun t k h hk => ?_⟩
  · have : j = 0 ∧ t = 0 := by
      cases j with
      | zero => simp [canStart] at h; exact ⟨rfl, h.symm⟩
      | succ j => simp [canStart] at h
    obtain ⟨rfl, rfl⟩ := this
    refine ⟨by omega, by omega, ?_⟩
    simp [canStart, hn]
  · simp only [canStart] at h ⊢
    by_cases ht : t = 0
    · subst ht
      rw [List.getElem?_set_self (by simpa using hn)] at h
      cases h
      simp
    · rw [List.getElem?_set_ne (by omega), List.getElem?_replicate] at h
      split at h
      · cases h; omega
      · cases h
/-- All states met lie in the system, and each once. -/
theorem NOk.few {n : Nat} {s : NO} (h : NOk n s) : s.2.length ≤ n := by
  have hnd : (s.2.map Int.toNat).Nodup := nodup_of (fun i j z hij hi hj => by
    rw [List.getElem?_map] at hi hj
    obtain ⟨x, hx, e1⟩ := Option.map_eq_some_iff.1 hi
    obtain ⟨y, hy, e2⟩ := Option.map_eq_some_iff.1 hj
    obtain ⟨_, _, f1⟩ := h.old i x hx
    obtain ⟨_, _, f2⟩ := h.old j y hy
    rw [e1] at f1
    rw [e2, f1] at f2
    simp only [Option.some.injEq] at f2
    omega)
  have := nodup_le n _ hnd (fun x hx => by
    obtain ⟨t, ht, rfl⟩ := List.mem_map.1 hx
    obtain ⟨j, hj⟩ := List.getElem?_of_mem ht
    obtain ⟨a, b, _⟩ := h.old j t hj
    omega)
  simpa using this
theorem setG_idem (l : List Ar) : setG ltAr (setG ltAr l) = setG ltAr l :=
  asc_uniq sto_Ar (setG_asc sto_Ar _) (setG_asc sto_Ar _) (fun x => by rw [mem_setG sto_Ar])
theorem canStep_set (l : List (List Ar)) (s : CB) (i : Nat) : canStep (l.map (setG ltAr)) s i = canStep l s i := by
  have e : setG ltAr ((l.map (setG ltAr))[(s.no.2[i]?.getD 0).toNat]?.getD []) = setG ltAr (l[(s.no.2[i]?.getD 0).toNat]?.getD []) := by
    rw [List.getElem?_map]
    cases l[(s.no.2[i]?.getD 0).toNat]? with
    | none => rfl
    | some r => exact setG_idem r
  simp only [canStep, e]
theorem canGo_set (l : List (List Ar)) : ∀ (f : Nat) (s : CB) (i : Nat), canGo (l.map (setG ltAr)) f s i = canGo l f s i
  | 0, _, _ => rfl
  | f + 1, s, i => by
    simp only [canGo, canStep_set, canGo_set l f]
/-- Rows that are made sets first have the same canonical form. -/
theorem canB_set (l : List (List Ar)) : canB (l.map (setG ltAr)) = canB l := by
  simp only [canB, canGo_set, List.length_map]
/-- All targets lie in the system. -/
def Into (l : List (List Ar)) : Prop := ∀ row ∈ l, ∀ a ∈ row, 0 ≤ a.2 ∧ a.2 < l.length
structure CanOk (l : List (List Ar)) (s : CB) (i : Nat) : Prop where
  ok : NOk l.length s.no
  out : s.out.length = i
  le : i ≤ s.no.2.length
theorem into_at {l : List (List Ar)} (h : Into l) (k : Nat) : ∀ a ∈ l[k]?.getD [], 0 ≤ a.2 ∧ a.2 < l.length := by
  intro a ha
  cases hk : l[k]? with
  | none => rw [hk] at ha; simp at ha
  | some r => rw [hk] at ha; exact h r (List.mem_of_getElem? hk) a ha
theorem into_set {l : List (List Ar)} (h : Into l) (k : Nat) : ∀ a ∈ setG ltAr (l[k]?.getD []), 0 ≤ a.2 ∧ a.2 < l.length := fun a ha => into_at h k a ((mem_setG sto_Ar).1 ha)
theorem CanOk.step {l : List (List Ar)} {s : CB} {i : Nat} (h : CanOk l s i) (hl : Into l) (hi : i < s.no.2.length) : CanOk l (canStep l s i) (i + 1) := by
  have hr := rowA_ok h.ok (setG ltAr (l[(s.no.2[i]?.getD 0).toNat]?.getD [])) (into_set hl _)
  obtain ⟨x, hx, _⟩ := hr.grow
  refine ⟨hr.ok, by simp [canStep, h.out], ?_⟩
  simp only [canStep, hx, List.length_append]
  omega
theorem can_start {l : List (List Ar)} (h : 0 < l.length) : CanOk l (canStart l.length) 0 := ⟨start_ok h, rfl, Nat.zero_le _⟩
end Go.Proofs.YtdknbgejhhoaiaaGreat.Ind
