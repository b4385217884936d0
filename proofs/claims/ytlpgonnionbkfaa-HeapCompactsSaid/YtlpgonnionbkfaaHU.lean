/- Plain parts for Compact of the reference's heap. -/
import Derived.Test.YtlpgonnionbkfaaHR
namespace Go.Proofs.Ytlpgonnionbkfaa
open Go.RowKit

theorem wpl_make_i (w : World) {ops : Array Oper} {rest : List Oper} {o : Oper} {a : Act} {Q : Exit → Act → World → Prop}
    (hg : o.guard = none) (l : Operand) (hop : o.op = Op.makeSlice 30 l l) (L : Int) (n : Nat) (hl : a.eval l = .int .i64 L) (hL : L = (n : Int)) (hn : n ≤ 1000000)
    (hK : ∀ w', w'.ownsRow w.heap.size 3 1 (.slice (some ⟨w.heap.size, 0, none⟩) n n) n (ints (List.replicate n 0)) → Frm [] w w' → wpList Try.prog ops Q rest (a.put o.dst (.slice (some ⟨w.heap.size, 0, none⟩) n n)) w') :
    wpList Try.prog ops Q (o :: rest) a w := by
  obtain ⟨i0, hi, hz0, hz1, hz2⟩ := info_parts Try.infoI
  refine wpList_make_full w hg l l 30 hop w.heap.size 3 i0 (.int .i64 0) 1 Try.underlying30 hi hz0 hz1 .i64 .i64 L L n hl hl hL hL (by rw [hz2]; omega) (by unfold maxLen; omega) (Nat.le_refl _) ?_
  intro w' hown hgr
  refine hK w' ?_ ((Frm.refl [] w).grown hgr (by simp))
  have hm : (madeCells (Value.int .i64 0).cells (n * 1)).toList = ints (List.replicate n 0) := by
    rw [Nat.mul_one]
    exact (toList_madeCells_one _ _).trans (by simp [ints])
  rw [hm] at hown
  exact hown

/-- The first j entries are filled in. -/
def fillN (F : Nat → Int) (n j : Nat) : List Int := (List.range n).map fun v => if v < j then F v else 0
theorem fillN_len (F : Nat → Int) (n j : Nat) : (fillN F n j).length = n := by simp [fillN]
theorem fillN_zero (F : Nat → Int) (n : Nat) : fillN F n 0 = List.replicate n 0 := by
  refine List.ext_getElem (by simp [fillN]) (fun i h1 h2 => by simp [fillN])
theorem fillN_at {F : Nat → Int} {n j : Nat} (h : j < n) : (fillN F n j)[j]? = some 0 := by simp [fillN, h]
theorem fillN_put {F : Nat → Int} {n j : Nat} (_h : j < n) : (fillN F n j).set j (F j) = fillN F n (j + 1) := by
  refine List.ext_getElem (by simp [fillN]) (fun i h1 h2 => ?_)
  simp only [fillN, List.getElem_set, List.getElem_map, List.getElem_range]
  by_cases e : j = i
  · subst e; simp
  · rw [if_neg e]
    by_cases e2 : i < j
    · rw [if_pos e2, if_pos (by omega)]
    · rw [if_neg e2, if_neg (by omega)]
theorem fillN_get {F : Nat → Int} {n j v : Nat} (h : v < n) (hj : n ≤ j) : (fillN F n j)[v]? = some (F v) := by
  simp only [fillN, List.getElem?_map, List.getElem?_range h, Option.map_some]
  rw [if_pos (by omega)]

/-- The cells at which the roots that exist arrive. -/
def atL (cs : List HC) (rs : List Int) : List Int := (rs.filter (inL cs)).map (folI cs)
theorem atL_len (cs : List HC) (rs : List Int) : (atL cs rs).length ≤ rs.length := by
  rw [atL, List.length_map]; exact List.length_filter_le _ _
theorem atL_yes {cs : List HC} {rs : List Int} {j : Nat} {x : Int} (hx : rs[j]? = some x) (h : inL cs x = true) : atL cs (rs.take (j + 1)) = atL cs (rs.take j) ++ [folI cs x] := by
  rw [List.take_add_one, hx, atL, atL, Option.toList_some, List.filter_append, List.map_append]
  simp [h]
theorem atL_no {cs : List HC} {rs : List Int} {j : Nat} {x : Int} (hx : rs[j]? = some x) (h : inL cs x = false) : atL cs (rs.take (j + 1)) = atL cs (rs.take j) := by
  rw [List.take_add_one, hx, atL, atL, Option.toList_some, List.filter_append, List.map_append]
  simp [h]
theorem atL_rts {cs : List HC} (h : HOk cs) : ∀ rs : List Int, rts (thr cs) (atL cs rs) = rts (thr cs) (outs cs rs)
  | [] => rfl
  | x :: rs => by
    have ih := atL_rts h rs
    cases hx : inL cs x with
    | true =>
      have h1 : atL cs (x :: rs) = folI cs x :: atL cs rs := by simp [atL, hx]
      have h2 : outs cs (x :: rs) = folI cs x :: outs cs rs := by simp [outs, hx]
      rw [h1, h2]
      simp only [rts] at ih ⊢
      rw [List.filter_cons, List.filter_cons]
      split
      · rw [List.map_cons, List.map_cons, ih]
      · exact ih
    | false =>
      have h1 : atL cs (x :: rs) = atL cs rs := by simp [atL, hx]
      have h2 : outs cs (x :: rs) = -1 :: outs cs rs := by simp [outs, hx]
      rw [h1, h2, ih]
      simp only [rts]
      rw [List.filter_cons, if_neg (by simp [inL])]

/-- What the row of new numbers holds. -/
def NumK (T : List Nat) (n : Nat) (NUM : List Int) : Prop := NUM.length = n ∧ ∀ k v, T[k]? = some v → NUM[v]? = some ((k : Nat) : Int)
theorem NumK.start (n : Nat) : NumK [] n (List.replicate n 0) := ⟨by simp, fun k v h => by simp at h⟩
theorem NumK.next {T : List Nat} {n : Nat} {NUM : List Int} (h : NumK T n NUM) {v : Nat} (hv : v ∉ T) (hn : v < n) : NumK (T ++ [v]) n (NUM.set v ((T.length : Nat) : Int)) := by
  refine ⟨by rw [List.length_set]; exact h.1, fun k u hk => ?_⟩
  by_cases e : k < T.length
  · rw [List.getElem?_append_left e] at hk
    have hne : v ≠ u := fun e2 => hv (by rw [e2]; exact List.mem_of_getElem? hk)
    rw [List.getElem?_set_ne hne]
    exact h.2 k u hk
  · have hk2 : k < (T ++ [v]).length := (List.getElem?_eq_some_iff.1 hk).1
    rw [List.length_append, List.length_singleton] at hk2
    have e3 : k = T.length := by omega
    subst e3
    rw [List.getElem?_append_right (Nat.le_refl _), Nat.sub_self] at hk
    simp only [List.getElem?_cons_zero, Option.some.injEq] at hk
    subst hk
    rw [List.getElem?_set_self (by rw [h.1]; exact hn)]
def numF (NUM : List Int) (r : Int) : Int := NUM.getD r.toNat 0
theorem NumK.at {T : List Nat} {n : Nat} {NUM : List Int} (h : NumK T n NUM) {v : Nat} (hv : v ∈ T) : NUM[v]? = some ((T.idxOf v : Nat) : Int) := by
  have h1 := List.idxOf_lt_length_iff.2 hv
  exact h.2 _ _ (by rw [List.getElem?_eq_getElem h1, List.getElem_idxOf])
theorem numF_of {NUM : List Int} {v : Nat} {x : Int} (h : NUM[v]? = some x) : numF NUM (v : Int) = x := by
  rw [numF, Int.toNat_natCast, List.getD_eq_getElem?_getD, h]; rfl
theorem flat_snoc2 {cs : List HC} {vs : List Value} {T : List Nat} {v : Nat} : flat ((T ++ [v]).map (cellAt cs)) ((T ++ [v]).map (vAt vs)) = flat (T.map (cellAt cs)) (T.map (vAt vs)) ++ [.int .i64 (cellAt cs v).kind, .int .i64 (cellAt cs v).num, vAt vs v] := by
  rw [List.map_append, List.map_append]
  exact flat_snoc _ _ (by simp) _ _
noncomputable def gO (cs : List HC) (rs : List Int) (r : Int) : Int := if inL cs r = true then numI cs rs (folI cs r) else -1
theorem compO_eq (cs : List HC) (rs : List Int) : compO cs rs = rs.map (gO cs rs) := rfl
theorem take_map_snoc {f : Int → Int} {rs : List Int} {j : Nat} {x : Int} (hx : rs[j]? = some x) : (rs.take (j + 1)).map f = (rs.take j).map f ++ [f x] := by
  rw [List.take_add_one, hx, Option.toList_some, List.map_append]; rfl
theorem IntsAt.blk {w : World} {v : Value} {xs : List Int} (h : IntsAt w v xs) : ∀ k, v.ownBlock = some k → k < w.heap.size := fun k hk => by
  rcases h with ⟨rfl, _⟩ | ⟨b, o, cap, rfl, _, _, h3, _⟩
  · simp [Value.ownBlock] at hk
  · obtain rfl : b = k := by simpa [Value.ownBlock] using hk
    exact h3
theorem row_yes {w : World} {hb n cap : Nat} {most : Int} {a : Option Addr} (hd : RowAt w hb 76 [.int .i64 most, .slice a n cap]) (_hn : (n : Int) ≤ 65536) (r : Nat) (hr : r < n) :
    Calls Try.prog 48 #[.pointer (some ⟨hb, 0, none⟩), .int .i64 r] w fun e w' => e = .returned (.bool true) ∧ w = w' := by
  have h1 := hd.cell (i := 1) rfl
  go_enter Try.func48, Try.ntmps48
  go_wp2
  go_ret
  exact ⟨rfl, rfl⟩
theorem row_no {w : World} {hb n cap : Nat} {most : Int} {a : Option Addr} (hd : RowAt w hb 76 [.int .i64 most, .slice a n cap]) (hn : (n : Int) ≤ 65536) (r : Int) (hr : r < 0 ∨ (n : Int) ≤ r) :
    Calls Try.prog 48 #[.pointer (some ⟨hb, 0, none⟩), .int .i64 r] w fun e w' => e = .returned (.bool false) ∧ w = w' := by
  have h1 := hd.cell (i := 1) rfl
  rcases hr with hr | hr
  · go_enter Try.func48, Try.ntmps48
    go_wp2
    go_ret
    exact ⟨rfl, rfl⟩
  · have : 0 ≤ r := by omega
    go_enter Try.func48, Try.ntmps48
    go_wp2
    go_ret
    refine ⟨?_, rfl⟩
    show Ending.returned (.bool (decide (r < (n : Int)))) = _
    rw [decide_eq_false (by omega)]

end Go.Proofs.Ytlpgonnionbkfaa
