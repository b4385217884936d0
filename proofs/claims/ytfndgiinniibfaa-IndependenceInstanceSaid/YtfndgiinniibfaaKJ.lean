/- slices.SortFunc over rows of structs that the call has made: general, then at the arcs of an instance and at arcs. -/
import Derived.Test.YtfndgiinniibfaaKI
namespace Go.Proofs.Ytfndgiinniibfaa.Ind
open Go.Shelf Go.RowKit Go.Lib Go.Sort

section
variable {α : Type} [Inhabited α] {enc : α → List Value} {k : Nat}
omit [Inhabited α] in
theorem flatMap_len (hk : ∀ x, (enc x).length = k) : ∀ (l : List α), (l.flatMap enc).length = l.length * k
  | [] => by simp
  | a :: r => by rw [List.flatMap_cons, List.length_append, hk, flatMap_len hk r, List.length_cons, Nat.succ_mul, Nat.add_comm]
omit [Inhabited α] in
theorem flatMap_get (hk : ∀ x, (enc x).length = k) : ∀ {l : List α} {i : Nat} {x : α}, l[i]? = some x → ∀ j, j < k → (l.flatMap enc)[i * k + j]? = (enc x)[j]?
  | [], i, x, h, j, hj => by simp at h
  | q :: r, 0, x, h, j, hj => by
    simp only [List.getElem?_cons_zero, Option.some.injEq] at h
    subst h
    rw [List.flatMap_cons, Nat.zero_mul, Nat.zero_add, List.getElem?_append_left (by rw [hk]; exact hj)]
  | q :: r, i + 1, x, h, j, hj => by
    rw [List.getElem?_cons_succ] at h
    rw [List.flatMap_cons, List.getElem?_append_right (by rw [hk, Nat.succ_mul]; omega), ← flatMap_get hk h j hj]
    congr 1
    rw [hk, Nat.succ_mul]
    omega
theorem flatK_list (hk : ∀ x, (enc x).length = k) (d : Array α) : (flatK enc k d).toList = d.toList.flatMap enc := by
  apply List.ext_getElem?
  intro t
  by_cases ht : t < d.size * k
  · have hk0 : 0 < k := by
      rcases Nat.eq_zero_or_pos k with h | h
      · rw [h, Nat.mul_zero] at ht; omega
      · exact h
    have hd : t / k < d.size := Nat.div_lt_of_lt_mul (by rw [Nat.mul_comm]; exact ht)
    have hm : t % k < k := Nat.mod_lt _ hk0
    have hx : d.toList[t / k]? = some d[t / k]! := by rw [getElem!_pos d _ hd]; simp [hd]
    have hg := flatMap_get hk hx (t % k) hm
    have et : t / k * k + t % k = t := by rw [Nat.mul_comm]; exact Nat.div_add_mod t k
    rw [et] at hg
    rw [hg]
    have h1 := get_flatK enc k d t ht
    have h2 : t < (flatK enc k d).size := by rw [size_flatK]; exact ht
    rw [getElem!_pos (flatK enc k d) t h2] at h1
    have h3 : t % k < (enc d[t / k]!).length := by rw [hk]; exact hm
    rw [Array.getElem?_toList, Array.getElem?_eq_getElem h2, h1, getElem!_pos (enc d[t / k]!) (t % k) h3, List.getElem?_eq_getElem h3]
  · rw [List.getElem?_eq_none (by rw [Array.length_toList, size_flatK]; omega), List.getElem?_eq_none (by rw [flatMap_len hk, Array.length_toList]; omega)]
theorem holdsK_of {w : World} {g : Nat} {e : TypeId} {cur : Array Value} (hk : ∀ x, (enc x).length = k) (d : List α) (hb : w.heap[g]? = some (.cells cur e (0, 0))) (h4 : cur.toList.take (d.length * k) = d.flatMap enc) : HoldsK enc k w g 0 d.toArray := by
  intro j hj
  rw [size_flatK] at hj
  have hj' : j < d.length * k := by simpa using hj
  have hf := flatK_list hk d.toArray
  have hc : cur.toList[j]? = (d.flatMap enc)[j]? := by rw [← h4, List.getElem?_take, if_pos hj']
  have h2 : j < (flatK enc k d.toArray).size := by rw [size_flatK]; exact hj
  have h5 : (flatK enc k d.toArray)[j]! = ((flatK enc k d.toArray).toList)[j]'(by simpa using h2) := by rw [getElem!_pos (flatK enc k d.toArray) j h2]; rfl
  have h6 : (d.flatMap enc)[j]? = some (flatK enc k d.toArray)[j]! := by
    rw [h5, ← List.getElem?_eq_getElem]
    rw [hf]
  rw [h6] at hc
  constructor
  · simp [World.cell?, hb]
    simpa using hc
  · simp [World.frozen?, hb]
theorem heap_sortedK {w : World} {g n : Nat} {os : Array Obj} {cur : Array Value} {e : TypeId} (F : Array Value) (hb : w.heap[g]? = some (.cells cur e (0, 0))) :
    (grow (putRow id (Sort.ahead w n) g 0 F) os).heap[g]? = some (.cells (putCells id 0 F cur) e (0, 0)) := by
  have hg : g < w.heap.size := (Array.getElem?_eq_some_iff.1 hb).1
  rw [heap_grow_old _ _ (by simpa using hg)]
  simp [putRow, mapBlock, Sort.ahead, Array.getElem?_modify, hb, onCells]
theorem frm_sortedK {w : World} {g n : Nat} {os : Array Obj} (F : Array Value) : Frm [g] w (grow (putRow id (Sort.ahead w n) g 0 F) os) := by
  refine ⟨rfl, rfl, rfl, by simp, fun k hk hne => ?_⟩
  rw [heap_grow_old _ _ (by simpa using hk)]
  have : g ≠ k := fun e => hne (by simp [e])
  simp [putRow, mapBlock, Sort.ahead, Array.getElem?_modify, this]
theorem take_putCellsK (cur F : Array Value) (h : F.size ≤ cur.size) : (putCells id 0 F cur).toList.take F.size = F.toList := by
  apply List.ext_getElem?
  intro j
  by_cases hj : j < F.size
  · rw [List.getElem?_take_of_lt hj, Array.getElem?_toList]
    simp [putCells, hj, show j < cur.size by omega]
  · rw [List.getElem?_take_eq_none (by omega), List.getElem?_eq_none (by simp; omega)]
theorem owns_sortedK {w : World} {B g cap n : Nat} {e : TypeId} {os : Array Obj} {cur : Array Value} (hk : ∀ x, (enc x).length = k) (ts : List α) (hbase : B ≤ g) (hb : w.heap[g]? = some (.cells cur e (0, 0)))
    (h1 : ts.length ≤ cap) (h2 : cap ≤ maxLen) (h3 : cur.size = cap * k) :
    (sortWorldK enc k w g 0 n ts.toArray os).ownsRow B e k (.slice (some ⟨g, 0, none⟩) ts.length cap) ts.length (ts.flatMap enc) := by
  have hf := flatK_list hk ts.toArray
  have hz : (flatK enc k ts.toArray).size = ts.length * k := by simp
  refine ⟨flatMap_len hk ts, .inr ⟨g, cap, _, rfl, hbase, heap_sortedK _ hb, h1, h2, by simp [putCells, h3], ?_⟩⟩
  rw [← hz, take_putCellsK _ _ (by rw [hz, h3]; exact Nat.mul_le_mul_right k h1), hf]
end

theorem cmpI_neg {x y : Int} : cmpI x y < 0 ↔ x < y := by unfold cmpI; repeat' split <;> omega
theorem cmpI_zero {x y : Int} : cmpI x y = 0 ↔ x = y := by unfold cmpI; repeat' split <;> omega
theorem cmpL_neg : ∀ (a b : List Int), (cmpL a b < 0 ↔ ltL a b = true)
  | [], [] => by simp [cmpL, ltL]
  | [], _ :: _ => by simp [cmpL, ltL]
  | _ :: _, [] => by simp [cmpL, ltL]
  | a :: r, b :: s => by
    have ih := cmpL_neg r s
    rw [cmpL, ltL]
    simp only [Bool.or_eq_true, Bool.and_eq_true, decide_eq_true_eq]
    split
    · rename_i h
      rw [ih]
      rw [cmpI_zero] at h
      constructor
      · exact fun h2 => .inr ⟨h, h2⟩
      · rintro (h2 | h2)
        · omega
        · exact h2.2
    · rename_i h
      rw [cmpI_neg]
      rw [cmpI_zero] at h
      constructor
      · exact .inl
      · rintro (h2 | h2)
        · exact h2
        · exact absurd h2.1 h
theorem ltN_iff {β : Type} {lt : β → β → Bool} (a b : Int × β) : ltN lt a b = true ↔ a.1 < b.1 ∨ (a.1 = b.1 ∧ lt a.2 b.2 = true) := by simp [ltN]
theorem ltOf_iff {α : Type} {cf : α → α → Int} {x y : α} : ltOf cf x y = true ↔ cf x y < 0 := by simp [ltOf]
theorem cmp6_lt (x y : M6) : ltOf cmp6 x y = ltM (toM x) (toM y) := by
  obtain ⟨e, s, a, b, c, d⟩ := x
  obtain ⟨e', s', a', b', c', d'⟩ := y
  rw [Bool.eq_iff_iff, ltOf_iff]
  show orL [cmpI e e', cmpI s s', cmpL [a, b, c, d] [a', b', c', d']] < 0 ↔ ltN (ltN ltL) (e, s, [a, b, c, d]) (e', s', [a', b', c', d']) = true
  rw [ltN_iff, ltN_iff]
  simp only [orL]
  split
  · rename_i h
    rw [cmpI_zero] at h
    split
    · rename_i h2
      rw [cmpI_zero] at h2
      split
      · rename_i h3
        have := cmpL_neg [a, b, c, d] [a', b', c', d']
        rw [h3] at this
        constructor
        · intro h9; omega
        · rintro (h9 | ⟨_, h9 | ⟨_, h9⟩⟩)
          · omega
          · omega
          · exact this.2 h9
      · rw [cmpL_neg]
        constructor
        · exact fun h9 => .inr ⟨h, .inr ⟨h2, h9⟩⟩
        · rintro (h9 | ⟨_, h9 | ⟨_, h9⟩⟩)
          · omega
          · omega
          · exact h9
    · rename_i h2
      rw [cmpI_neg]
      rw [cmpI_zero] at h2
      constructor
      · exact fun h9 => .inr ⟨h, .inl h9⟩
      · rintro (h9 | ⟨_, h9 | ⟨h9, _⟩⟩)
        · omega
        · exact h9
        · exact absurd h9 h2
  · rename_i h
    rw [cmpI_neg]
    rw [cmpI_zero] at h
    constructor
    · exact .inl
    · rintro (h9 | ⟨h9, _⟩)
      · exact h9
      · exact absurd h9 h
theorem toM_inj {x y : M6} (h : toM x = toM y) : x = y := by
  obtain ⟨e, s, a, b, c, d⟩ := x
  obtain ⟨e', s', a', b', c', d'⟩ := y
  simp [toM, toP] at h
  simp [h]
theorem cmpAr_lt (x y : Ar) : ltOf cmpAr x y = ltAr x y := by
  obtain ⟨e, s⟩ := x
  obtain ⟨e', s'⟩ := y
  rw [Bool.eq_iff_iff, ltOf_iff]
  show orL [cmpI e e', cmpI s s'] < 0 ↔ ltN (fun a b : Int => decide (a < b)) (e, s) (e', s') = true
  rw [ltN_iff]
  simp only [orL, decide_eq_true_eq]
  repeat' split
  all_goals simp only [cmpI_zero, cmpI_neg] at *
  all_goals omega
theorem swo_of {α : Type} {lt : α → α → Bool} (O : STO lt) : SWO lt where
  irrefl := O.irr
  trans := O.trans
  ntrans x y z h1 h2 := by
    cases h : lt x z with
    | false => rfl
    | true =>
      cases h3 : lt y x with
      | true => have := O.trans _ _ _ h3 h; rw [h2] at this; cases this
      | false => have := O.tri _ _ h1 h3; subst this; rw [h2] at h; cases h
theorem sto_6 : STO (ltOf cmp6) :=
  ⟨fun a => by rw [cmp6_lt]; exact sto_M.irr _, fun a b c h1 h2 => by rw [cmp6_lt] at *; exact sto_M.trans _ _ _ h1 h2, fun a b h1 h2 => by rw [cmp6_lt] at *; exact toM_inj (sto_M.tri _ _ h1 h2)⟩
theorem sto_ar : STO (ltOf cmpAr) :=
  ⟨fun a => by rw [cmpAr_lt]; exact sto_Ar.irr _, fun a b c h1 h2 => by rw [cmpAr_lt] at *; exact sto_Ar.trans _ _ _ h1 h2, fun a b h1 h2 => by rw [cmpAr_lt] at *; exact sto_Ar.tri _ _ h1 h2⟩
theorem pw_merge {α : Type} {lt : α → α → Bool} (O : STO lt) (l : List α) : (l.mergeSort fun x y => !lt y x).Pairwise fun a b => lt b a = false := by
  have h := List.pairwise_mergeSort (le := fun x y => !lt y x) (fun a b c h1 h2 => by
    simp only [Bool.not_eq_true'] at *
    exact (swo_of O).ntrans _ _ _ h2 h1) (fun a b => by
    cases h1 : lt b a with
    | false => rfl
    | true =>
      cases h2 : lt a b with
      | false => rfl
      | true => have := O.trans _ _ _ h1 h2; rw [O.irr] at this; cases this) l
  exact h.imp fun {a b} hab => by simpa using hab

theorem eg47 : ∀ args w, (callFunc 47 args).run Try.prog w = .ok (.enter 47 args) w := enters_of Try.func47 (by kernel_rfl) rfl
theorem eg51 : ∀ args w, (callFunc 51 args).run Try.prog w = .ok (.enter 51 args) w := enters_of Try.func51 (by kernel_rfl) rfl
theorem one6 (x : M6) : ∀ v ∈ enc6 x, v.oneCell' = true := fun v hv => by simp [enc6] at hv; rcases hv with rfl | rfl | rfl | rfl | rfl | rfl <;> rfl
theorem oneAr (x : Ar) : ∀ v ∈ arE x, v.oneCell' = true := fun v hv => by simp [arE] at hv; rcases hv with rfl | rfl <;> rfl
theorem sortM_any (B : Nat) (a : Option Addr) (cap n : Nat) (xs : List M6) (w : World) (h : w.ownsRow B 83 6 (.slice a n cap) n (xs.flatMap enc6)) (hl : xs.length = n) (hn : n ≤ 10000000) :
    Calls Try.prog 46 #[.slice a n cap, .func (.func 47) #[] #[]] w fun e w' => (e = .returned (.tuple #[]) ∧ w'.ownsRow B 83 6 (.slice a n cap) n ((xs.mergeSort fun x y => !ltOf cmp6 y x).flatMap enc6)) ∧ Frm (Value.slice a n cap).ownBlock.toList w w' := by
  subst hl
  rcases h.2 with ⟨h0, h1⟩ | ⟨g, cp, cur, h0, hb, hg, h1, h2, h3, h4⟩
  · have hx : xs = [] := List.eq_nil_of_length_eq_zero h1
    subst hx
    refine (AnyF.slices_SortFunc_none Try.sortMv a cap _ w).mono ?_
    rintro e w' ⟨rfl, rfl⟩
    refine ⟨⟨rfl, ?_⟩, Frm.refl _ _⟩
    rw [List.mergeSort_nil]
    exact h
  · obtain ⟨rfl, rfl⟩ : a = some ⟨g, 0, none⟩ ∧ cap = cp := by simpa using h0
    have hH := holdsK_of (enc := enc6) (k := 6) (fun _ => rfl) xs hg h4
    have hgl := (Array.getElem?_eq_some_iff.1 hg).1
    refine (AnyQ.slices_SortFunc_total Try.sortMv 6 Try.isAgg83 Try.sizeOf83 enc6 (fun _ => rfl) one6 cmp6 (swo_of sto_6) 47 #[] g 0 cap xs.toArray w eg47 (fun _ _ _ _ x y => compare_any x y _) hH hgl (by simp; omega) sto_6.tri).mono ?_
    rintro e w' ⟨rfl, k, os, rfl⟩
    refine ⟨⟨rfl, ?_⟩, ?_⟩
    · have := owns_sortedK (w := w) (n := k) (os := os) (enc := enc6) (k := 6) (cap := cap) (fun _ => rfl) (xs.mergeSort fun x y => !ltOf cmp6 y x) hb hg (by rw [List.length_mergeSort]; exact h1) h2 h3
      rw [List.length_mergeSort] at this
      exact this
    · have := frm_sortedK (w := w) (g := g) (n := k) (os := os) (flatK enc6 6 (xs.mergeSort fun x y => !ltOf cmp6 y x).toArray)
      exact this.mono (by simp [Value.ownBlock])
theorem sortAr_any (B : Nat) (a : Option Addr) (cap n : Nat) (xs : List Ar) (w : World) (h : w.ownsRow B 59 2 (.slice a n cap) n (xs.flatMap arE)) (hl : xs.length = n) (hn : n ≤ 10000000) :
    Calls Try.prog 50 #[.slice a n cap, .func (.func 51) #[] #[]] w fun e w' => (e = .returned (.tuple #[]) ∧ w'.ownsRow B 59 2 (.slice a n cap) n ((xs.mergeSort fun x y => !ltOf cmpAr y x).flatMap arE)) ∧ Frm (Value.slice a n cap).ownBlock.toList w w' := by
  subst hl
  rcases h.2 with ⟨h0, h1⟩ | ⟨g, cp, cur, h0, hb, hg, h1, h2, h3, h4⟩
  · have hx : xs = [] := List.eq_nil_of_length_eq_zero h1
    subst hx
    refine (AnyF.slices_SortFunc_none Try.sortAr a cap _ w).mono ?_
    rintro e w' ⟨rfl, rfl⟩
    refine ⟨⟨rfl, ?_⟩, Frm.refl _ _⟩
    rw [List.mergeSort_nil]
    exact h
  · obtain ⟨rfl, rfl⟩ : a = some ⟨g, 0, none⟩ ∧ cap = cp := by simpa using h0
    have hH := holdsK_of (enc := arE) (k := 2) (fun _ => rfl) xs hg h4
    have hgl := (Array.getElem?_eq_some_iff.1 hg).1
    refine (AnyQ.slices_SortFunc_total Try.sortAr 2 Try.isAgg59 Try.sizeOf59 arE (fun _ => rfl) oneAr cmpAr (swo_of sto_ar) 51 #[] g 0 cap xs.toArray w eg51 (fun _ _ _ _ x y => cmpAr_any x y _) hH hgl (by simp; omega) sto_ar.tri).mono ?_
    rintro e w' ⟨rfl, k, os, rfl⟩
    refine ⟨⟨rfl, ?_⟩, ?_⟩
    · have := owns_sortedK (w := w) (n := k) (os := os) (enc := arE) (k := 2) (cap := cap) (fun _ => rfl) (xs.mergeSort fun x y => !ltOf cmpAr y x) hb hg (by rw [List.length_mergeSort]; exact h1) h2 h3
      rw [List.length_mergeSort] at this
      exact this
    · have := frm_sortedK (w := w) (g := g) (n := k) (os := os) (flatK arE 2 (xs.mergeSort fun x y => !ltOf cmpAr y x).toArray)
      exact this.mono (by simp [Value.ownBlock])

end Go.Proofs.Ytfndgiinniibfaa.Ind
