/- Texts KH, KI, KJ, KL. -/
import Derived.Test.YtdknbgejhhoaiaaGreatQ17
import Derived.Test.YtdknbgejhhoaiaaGreatQ18
import Derived.Laws.IdiomCopy
/- Contracts of the comparisons that Instance sorts by, and of its equality. -/
namespace Go.Proofs.YtdknbgejhhoaiaaGreat.Ind
open Go.Shelf Go.RowKit Go.Lib Go.Sort

/-- An arc of an instance, its registers one by one. -/
abbrev M6 := Int × P5
def enc6 (x : M6) : List Value := [.int .i64 x.1, .int .i64 x.2.1, .int .i64 x.2.2.1, .int .i64 x.2.2.2.1, .int .i64 x.2.2.2.2.1, .int .i64 x.2.2.2.2.2]
def toP (p : P5) : Pl := (p.1, [p.2.1, p.2.2.1, p.2.2.2.1, p.2.2.2.2])
def toM (x : M6) : Mv := (x.1, toP x.2)
def cmp6 (x y : M6) : Int := orL [cmpI x.1 y.1, cmpI x.2.1 y.2.1, cmpL [x.2.2.1, x.2.2.2.1, x.2.2.2.2.1, x.2.2.2.2.2] [y.2.2.1, y.2.2.2.1, y.2.2.2.2.1, y.2.2.2.2.2]]
theorem rd_cells4 {w : World} {b o : Nat} {a0 a1 a2 a3 : Int} (h0 : w.cell? ⟨b, o, none⟩ = some (.int .i64 a0)) (h1 : w.cell? ⟨b, o + 1, none⟩ = some (.int .i64 a1)) (h2 : w.cell? ⟨b, o + 2, none⟩ = some (.int .i64 a2)) (h3 : w.cell? ⟨b, o + 3, none⟩ = some (.int .i64 a3)) (hb : b < w.heap.size) : Rd w.heap.size w (some ⟨b, o, none⟩) 4 4 1 (ints [a0, a1, a2, a3]) := by
  refine ⟨rfl, Nat.le_refl _, by decide, fun i u hu => ⟨b, o, rfl, hb, ?_⟩⟩
  match i, hu with
  | 0, hu => simp [ints] at hu; rw [← hu]; exact h0
  | 1, hu => simp [ints] at hu; rw [← hu]; exact h1
  | 2, hu => simp [ints] at hu; rw [← hu]; exact h2
  | 3, hu => simp [ints] at hu; rw [← hu]; exact h3
  | n + 4, hu => simp [ints] at hu

theorem grow_drew_alloc {w W : World} {os : Array Obj} (h : W = grow w os) (o : Obj) : W.drew.alloc o = grow (w.drewN 1) (os ++ #[o]) := by
  rw [h, alloc_eq_grow, drew_grow, grow_grow]
  rfl
set_option linter.unusedSimpArgs false in
set_option maxRecDepth 100000 in
set_option maxHeartbeats 4000000 in
theorem compare_any (x y : M6) (w : World) :
    Calls Tryz.prog 33 #[.agg (enc6 x).toArray, .agg (enc6 y).toArray] w fun e w' => e = .returned (.int .i64 (cmp6 x y)) ∧ ∃ q os, w' = grow (w.drewN q) os := by
  obtain ⟨e, s, a, b, c, d⟩ := x
  obtain ⟨e', s', a', b', c', d'⟩ := y
  obtain ⟨R, hR⟩ : ∃ R, cmp6 (e, s, a, b, c, d) (e', s', a', b', c', d') = R := ⟨_, rfl⟩
  rw [hR]
  have HR := Lib.hid hR
  clear hR
  unfold enc6
  simp only
  have hb1 := ((RowAt.made w 74 [.int .i64 e, .int .i64 s, .int .i64 a, .int .i64 b, .int .i64 c, .int .i64 d] #[.int .i64 e, .int .i64 s, .int .i64 a, .int .i64 b, .int .i64 c, .int .i64 d] rfl).alloc (.cells #[.int .i64 e', .int .i64 s', .int .i64 a', .int .i64 b', .int .i64 c', .int .i64 d'] 74))
  have hb2 := RowAt.made (w.alloc (.cells #[.int .i64 e, .int .i64 s, .int .i64 a, .int .i64 b, .int .i64 c, .int .i64 d] 74)) 74 [.int .i64 e', .int .i64 s', .int .i64 a', .int .i64 b', .int .i64 c', .int .i64 d'] #[.int .i64 e', .int .i64 s', .int .i64 a', .int .i64 b', .int .i64 c', .int .i64 d'] rfl
  rw [show (w.alloc (.cells #[.int .i64 e, .int .i64 s, .int .i64 a, .int .i64 b, .int .i64 c, .int .i64 d] 74)).heap.size = w.heap.size + 1 from by simp] at hb2
  go_enter Tryz.func33, Tryz.ntmps33
  go_wp2_with fail
  have HW : Hid (((w.alloc (.cells #[.int .i64 e, .int .i64 s, .int .i64 a, .int .i64 b, .int .i64 c, .int .i64 d] 74)).alloc (.cells #[.int .i64 e', .int .i64 s', .int .i64 a', .int .i64 b', .int .i64 c', .int .i64 d'] 74)) = grow w #[.cells #[.int .i64 e, .int .i64 s, .int .i64 a, .int .i64 b, .int .i64 c, .int .i64 d] 74, .cells #[.int .i64 e', .int .i64 s', .int .i64 a', .int .i64 b', .int .i64 c', .int .i64 d'] 74]) := Lib.hid (by rw [alloc_eq_grow, alloc_eq_grow, grow_grow]; rfl)
  generalize hX : ((w.alloc (.cells #[.int .i64 e, .int .i64 s, .int .i64 a, .int .i64 b, .int .i64 c, .int .i64 d] 74)).alloc (.cells #[.int .i64 e', .int .i64 s', .int .i64 a', .int .i64 b', .int .i64 c', .int .i64 d'] 74)) = W at *
  have KEEP : Hid (∀ w', Frm [] W w' → w'.cell? ⟨w.heap.size, 0, none⟩ = some (.int .i64 e) ∧ w'.cell? ⟨w.heap.size, 1, none⟩ = some (.int .i64 s) ∧ w'.cell? ⟨w.heap.size, 2, none⟩ = some (.int .i64 a) ∧ w'.cell? ⟨w.heap.size, 3, none⟩ = some (.int .i64 b) ∧ w'.cell? ⟨w.heap.size, 4, none⟩ = some (.int .i64 c) ∧ w'.cell? ⟨w.heap.size, 5, none⟩ = some (.int .i64 d) ∧ w'.cell? ⟨w.heap.size + 1, 0, none⟩ = some (.int .i64 e') ∧ w'.cell? ⟨w.heap.size + 1, 1, none⟩ = some (.int .i64 s') ∧ w'.cell? ⟨w.heap.size + 1, 2, none⟩ = some (.int .i64 a') ∧ w'.cell? ⟨w.heap.size + 1, 3, none⟩ = some (.int .i64 b') ∧ w'.cell? ⟨w.heap.size + 1, 4, none⟩ = some (.int .i64 c') ∧ w'.cell? ⟨w.heap.size + 1, 5, none⟩ = some (.int .i64 d')) := Lib.hid fun w' hf => by
    have h1 := hb1.frm hf (by simp)
    have h2 := hb2.frm hf (by simp)
    exact ⟨h1.cell (i := 0) rfl, h1.cell (i := 1) rfl, h1.cell (i := 2) rfl, h1.cell (i := 3) rfl, h1.cell (i := 4) rfl, h1.cell (i := 5) rfl, h2.cell (i := 0) rfl, h2.cell (i := 1) rfl, h2.cell (i := 2) rfl, h2.cell (i := 3) rfl, h2.cell (i := 4) rfl, h2.cell (i := 5) rfl⟩
  have RX : Hid (Rd W.drew.heap.size W.drew (some ⟨w.heap.size, 2, none⟩) 4 4 1 (ints [a, b, c, d])) := Lib.hid (rd_cells4 (hb1.cell (i := 2) rfl) (hb1.cell (i := 3) rfl) (hb1.cell (i := 4) rfl) (hb1.cell (i := 5) rfl) hb1.lt)
  have RY : Hid (Rd W.drew.heap.size W.drew (some ⟨w.heap.size + 1, 2, none⟩) 4 4 1 (ints [a', b', c', d'])) := Lib.hid (rd_cells4 (hb2.cell (i := 2) rfl) (hb2.cell (i := 3) rfl) (hb2.cell (i := 4) rfl) (hb2.cell (i := 5) rfl) hb2.lt)
  clear hb1 hb2
  go_region_held3 (fun w' => w'.cell? ⟨w.heap.size, 0, none⟩ = some (.int .i64 e) ∧ w'.cell? ⟨w.heap.size, 1, none⟩ = some (.int .i64 s) ∧ w'.cell? ⟨w.heap.size, 2, none⟩ = some (.int .i64 a) ∧ w'.cell? ⟨w.heap.size, 3, none⟩ = some (.int .i64 b) ∧ w'.cell? ⟨w.heap.size, 4, none⟩ = some (.int .i64 c) ∧ w'.cell? ⟨w.heap.size, 5, none⟩ = some (.int .i64 d) ∧ w'.cell? ⟨w.heap.size + 1, 0, none⟩ = some (.int .i64 e') ∧ w'.cell? ⟨w.heap.size + 1, 1, none⟩ = some (.int .i64 s') ∧ w'.cell? ⟨w.heap.size + 1, 2, none⟩ = some (.int .i64 a') ∧ w'.cell? ⟨w.heap.size + 1, 3, none⟩ = some (.int .i64 b') ∧ w'.cell? ⟨w.heap.size + 1, 4, none⟩ = some (.int .i64 c') ∧ w'.cell? ⟨w.heap.size + 1, 5, none⟩ = some (.int .i64 d'))
    (first | exact KEEP.out _ (Frm.refl [] W).drew | exact KEEP.out _ ((Frm.refl [] W).drew.alloc _))
    (first | (go_at_call 39; refine (cmpI_any _ _ _).mono ?_; rintro e1 w1 ⟨rfl, rfl⟩) | (go_at_call 63; refine (cmpL_any _ _ _ _ _ [a, b, c, d] [a', b', c', d'] _ RX.out RY.out).mono ?_; rintro e1 w1 ⟨rfl, rfl⟩) | (go_at_call 38; refine (orL_any _ _ _ [cmpI e e', cmpI s s', cmpL [a, b, c, d] [a', b', c', d']] _ (rd_of_owns (owns_fullB W.drew 0 _ 1 3 _ _ rfl rfl (by decide) (Nat.zero_le _)) (Nat.le_refl _))).mono ?_; rintro e1 w1 ⟨rfl, rfl⟩))
  go_wp2_with fail
  go_ret
  refine ⟨?_, ⟨1, ⟨_, grow_drew_alloc HW.out _⟩⟩⟩
  rw [← HR.out]
  rfl

end Go.Proofs.YtdknbgejhhoaiaaGreat.Ind

/- Contracts of the comparison of arcs and of the equality that Instance strikes doubles by. -/
namespace Go.Proofs.YtdknbgejhhoaiaaGreat.Ind
open Go.Shelf Go.RowKit Go.Lib Go.Sort

def cmpAr (x y : Ar) : Int := orL [cmpI x.1 y.1, cmpI x.2 y.2]
def arE (x : Ar) : List Value := [.int .i64 x.1, .int .i64 x.2]
set_option linter.unusedSimpArgs false in
set_option maxRecDepth 100000 in
set_option maxHeartbeats 4000000 in
theorem cmpAr_any (x y : Ar) (w : World) :
    Calls Tryz.prog 37 #[.agg (arE x).toArray, .agg (arE y).toArray] w fun e w' => e = .returned (.int .i64 (cmpAr x y)) ∧ ∃ q os, w' = grow (w.drewN q) os := by
  obtain ⟨e, s⟩ := x
  obtain ⟨e', s'⟩ := y
  obtain ⟨R, hR⟩ : ∃ R, cmpAr (e, s) (e', s') = R := ⟨_, rfl⟩
  rw [hR]
  have HR := Lib.hid hR
  clear hR
  unfold arE
  simp only
  have hb1 := ((RowAt.made w 55 [.int .i64 e, .int .i64 s] #[.int .i64 e, .int .i64 s] rfl).alloc (.cells #[.int .i64 e', .int .i64 s'] 55))
  have hb2 := RowAt.made (w.alloc (.cells #[.int .i64 e, .int .i64 s] 55)) 55 [.int .i64 e', .int .i64 s'] #[.int .i64 e', .int .i64 s'] rfl
  rw [show (w.alloc (.cells #[.int .i64 e, .int .i64 s] 55)).heap.size = w.heap.size + 1 from by simp] at hb2
  go_enter Tryz.func37, Tryz.ntmps37
  go_wp2_with fail
  have HW : Hid (((w.alloc (.cells #[.int .i64 e, .int .i64 s] 55)).alloc (.cells #[.int .i64 e', .int .i64 s'] 55)) = grow w #[.cells #[.int .i64 e, .int .i64 s] 55, .cells #[.int .i64 e', .int .i64 s'] 55]) := Lib.hid (by rw [alloc_eq_grow, alloc_eq_grow, grow_grow]; rfl)
  generalize hX : ((w.alloc (.cells #[.int .i64 e, .int .i64 s] 55)).alloc (.cells #[.int .i64 e', .int .i64 s'] 55)) = W at *
  have KEEP : Hid (∀ w', Frm [] W w' → w'.cell? ⟨w.heap.size, 0, none⟩ = some (.int .i64 e) ∧ w'.cell? ⟨w.heap.size, 1, none⟩ = some (.int .i64 s) ∧ w'.cell? ⟨w.heap.size + 1, 0, none⟩ = some (.int .i64 e') ∧ w'.cell? ⟨w.heap.size + 1, 1, none⟩ = some (.int .i64 s')) := Lib.hid fun w' hf => by
    have h1 := hb1.frm hf (by simp)
    have h2 := hb2.frm hf (by simp)
    exact ⟨h1.cell (i := 0) rfl, h1.cell (i := 1) rfl, h2.cell (i := 0) rfl, h2.cell (i := 1) rfl⟩
  clear hb1 hb2
  go_region_held3 (fun w' => w'.cell? ⟨w.heap.size, 0, none⟩ = some (.int .i64 e) ∧ w'.cell? ⟨w.heap.size, 1, none⟩ = some (.int .i64 s) ∧ w'.cell? ⟨w.heap.size + 1, 0, none⟩ = some (.int .i64 e') ∧ w'.cell? ⟨w.heap.size + 1, 1, none⟩ = some (.int .i64 s'))
    (first | exact KEEP.out _ (Frm.refl [] W).drew | exact KEEP.out _ ((Frm.refl [] W).drew.alloc _))
    (first | (go_at_call 39; refine (cmpI_any _ _ _).mono ?_; rintro e1 w1 ⟨rfl, rfl⟩) | (go_at_call 38; refine (orL_any _ _ _ [cmpI e e', cmpI s s'] _ (rd_of_owns (owns_fullB W.drew 0 _ 1 2 _ _ rfl rfl (by decide) (Nat.zero_le _)) (Nat.le_refl _))).mono ?_; rintro e1 w1 ⟨rfl, rfl⟩))
  go_wp2_with fail
  go_ret
  refine ⟨?_, ⟨1, ⟨_, grow_drew_alloc HW.out _⟩⟩⟩
  rw [← HR.out]
  rfl

theorem arr4_eql (w : World) (a0 a1 a2 a3 b0 b1 b2 b3 : Int) :
    (Op.equalIn 10000 65 (.agg #[.int .i64 a0, .int .i64 a1, .int .i64 a2, .int .i64 a3]) (.agg #[.int .i64 b0, .int .i64 b1, .int .i64 b2, .int .i64 b3])).run Tryz.prog w = .ok (decide (a0 = b0) && (decide (a1 = b1) && (decide (a2 = b2) && decide (a3 = b3)))) w := by
  obtain ⟨n, hn⟩ : ∃ n, 10000 = n + 1 + 1 := ⟨9998, rfl⟩
  rw [hn]
  exact arr4_eq w n a0 a1 a2 a3 b0 b1 b2 b3
theorem guard4 : Tryz.prog.eqGuardType Tryz.prog.depth 65 = false := by kernel_rfl
set_option linter.unusedSimpArgs false in
set_option maxRecDepth 100000 in
set_option maxHeartbeats 4000000 in
theorem eqM_any (x y : M6) (w : World) :
    Calls Tryz.prog 35 #[.agg (enc6 x).toArray, .agg (enc6 y).toArray] w fun e w' => e = .returned (.bool (decide (x = y))) ∧ Frm [] w w' := by
  obtain ⟨e, s, a, b, c, d⟩ := x
  obtain ⟨e', s', a', b', c', d'⟩ := y
  have hv := fun w => arr4_eql w a b c d a' b' c' d'
  have hg := guard4
  unfold enc6
  simp only
  have f0 : Frm [] w ((w.alloc (.cells #[.int .i64 e, .int .i64 s, .int .i64 a, .int .i64 b, .int .i64 c, .int .i64 d] 74)).alloc (.cells #[.int .i64 e', .int .i64 s', .int .i64 a', .int .i64 b', .int .i64 c', .int .i64 d'] 74)) := ((Frm.refl [] w).alloc _).alloc _
  by_cases h1 : e = e'
  · by_cases h2 : s = s'
    · subst h1 h2
      obtain ⟨R, hR⟩ : ∃ R, (decide (a = a') && (decide (b = b') && (decide (c = c') && decide (d = d')))) = R := ⟨_, rfl⟩
      rw [hR] at hv
      have HR : Hid (decide ((e, s, a, b, c, d) = (e, s, a', b', c', d')) = R) := Lib.hid (by rw [← hR, Bool.eq_iff_iff]; simp)
      clear hR
      go_enter Tryz.func35, Tryz.ntmps35
      go_wp2_with fail
      go_ret
      exact ⟨by rw [HR.out]; rfl, f0⟩
    · have HR : Hid (decide ((e, s, a, b, c, d) = (e', s', a', b', c', d')) = false) := Lib.hid (decide_eq_false (by simp [h2]))
      have j2 : (s == s') = false := by simpa using h2
      subst h1
      go_enter Tryz.func35, Tryz.ntmps35
      go_wp2_with fail
      go_ret
      exact ⟨by rw [HR.out]; rfl, f0⟩
  · have HR : Hid (decide ((e, s, a, b, c, d) = (e', s', a', b', c', d')) = false) := Lib.hid (decide_eq_false (by simp [h1]))
    have j1 : (e == e') = false := by simpa using h1
    go_enter Tryz.func35, Tryz.ntmps35
    go_wp2_with fail
    go_ret
    exact ⟨by rw [HR.out]; rfl, f0⟩

end Go.Proofs.YtdknbgejhhoaiaaGreat.Ind

/- slices.SortFunc over rows of structs that the call has made: general, then at the arcs of an instance and at arcs. -/
namespace Go.Proofs.YtdknbgejhhoaiaaGreat.Ind
open Go.Shelf Go.RowKit Go.Lib Go.Sort

section
variable {α : Type} [Inhabited α] {enc : α → List Value} {k : Nat}
omit [Inhabited α] in
theorem flatMap_len (hk : ∀ x, (enc x).length = k) : ∀ (l : List α), (l.flatMap enc).length = l.length * k
  | [] => by simp
  | a :: r => by rw [List.flatMap_cons, List.length_append, hk, flatMap_len hk r, List.length_cons, Nat.succ_mul, Nat.add_comm]
omit [Inhabited α] in
theorem flatMap_get (hk : ∀ x, (enc x).length = k) : ∀ {l : List α} {i : Nat} {x : α}, l[i]? = some x → ∀ j, j < k → (l.flatMap enc)[i * k + j]? = (enc x)[j]?
  | [], i, x, h, j, hj => by simp at h
  | q :: r, 0, x, h, j, hj => by
    simp only [List.getElem?_cons_zero, Option.some.injEq] at h
    subst h
    rw [List.flatMap_cons, Nat.zero_mul, Nat.zero_add, List.getElem?_append_left (by rw [hk]; exact hj)]
  | q :: r, i + 1, x, h, j, hj => by
    rw [List.getElem?_cons_succ] at h
    rw [List.flatMap_cons, List.getElem?_append_right (by rw [hk, Nat.succ_mul]; omega), ← flatMap_get hk h j hj]
    congr 1
    rw [hk, Nat.succ_mul]
    omega
theorem flatK_list (hk : ∀ x, (enc x).length = k) (d : Array α) : (flatK enc k d).toList = d.toList.flatMap enc := by
  apply List.ext_getElem?
  intro t
  by_cases ht : t < d.size * k
  · have hk0 : 0 < k := by
      rcases Nat.eq_zero_or_pos k with h | h
      · rw [h, Nat.mul_zero] at ht; omega
      · exact h
    have hd : t / k < d.size := Nat.div_lt_of_lt_mul (by rw [Nat.mul_comm]; exact ht)
    have hm : t % k < k := Nat.mod_lt _ hk0
    have hx : d.toList[t / k]? = some d[t / k]! := by rw [getElem!_pos d _ hd]; simp [hd]
    have hg := flatMap_get hk hx (t % k) hm
    have et : t / k * k + t % k = t := by rw [Nat.mul_comm]; exact Nat.div_add_mod t k
    rw [et] at hg
    rw [hg]
    have h1 := get_flatK enc k d t ht
    have h2 : t < (flatK enc k d).size := by rw [size_flatK]; exact ht
    rw [getElem!_pos (flatK enc k d) t h2] at h1
    have h3 : t % k < (enc d[t / k]!).length := by rw [hk]; exact hm
    rw [Array.getElem?_toList, Array.getElem?_eq_getElem h2, h1, getElem!_pos (enc d[t / k]!) (t % k) h3, List.getElem?_eq_getElem h3]
  · rw [List.getElem?_eq_none (by rw [Array.length_toList, size_flatK]; omega), List.getElem?_eq_none (by rw [flatMap_len hk, Array.length_toList]; omega)]
theorem holdsK_of {w : World} {g : Nat} {e : TypeId} {cur : Array Value} (hk : ∀ x, (enc x).length = k) (d : List α) (hb : w.heap[g]? = some (.cells cur e (0, 0))) (h4 : cur.toList.take (d.length * k) = d.flatMap enc) : HoldsK enc k w g 0 d.toArray := by
  intro j hj
  rw [size_flatK] at hj
  have hj' : j < d.length * k := by simpa using hj
  have hf := flatK_list hk d.toArray
  have hc : cur.toList[j]? = (d.flatMap enc)[j]? := by rw [← h4, List.getElem?_take, if_pos hj']
  have h2 : j < (flatK enc k d.toArray).size := by rw [size_flatK]; exact hj
  have h5 : (flatK enc k d.toArray)[j]! = ((flatK enc k d.toArray).toList)[j]'(by simpa using h2) := by rw [getElem!_pos (flatK enc k d.toArray) j h2]; rfl
  have h6 : (d.flatMap enc)[j]? = some (flatK enc k d.toArray)[j]! := by
    rw [h5, ← List.getElem?_eq_getElem]
    rw [hf]
  rw [h6] at hc
  constructor
  · simp [World.cell?, hb]
    simpa using hc
  · simp [World.frozen?, hb]
theorem heap_sortedK {w : World} {g n : Nat} {os : Array Obj} {cur : Array Value} {e : TypeId} (F : Array Value) (hb : w.heap[g]? = some (.cells cur e (0, 0))) :
    (grow (putRow id (Sort.ahead w n) g 0 F) os).heap[g]? = some (.cells (putCells id 0 F cur) e (0, 0)) := by
  have hg : g < w.heap.size := (Array.getElem?_eq_some_iff.1 hb).1
  rw [heap_grow_old _ _ (by simpa using hg)]
  simp [putRow, mapBlock, Sort.ahead, Array.getElem?_modify, hb, onCells]
theorem frm_sortedK {w : World} {g n : Nat} {os : Array Obj} (F : Array Value) : Frm [g] w (grow (putRow id (Sort.ahead w n) g 0 F) os) := by
  refine ⟨rfl, rfl, rfl, by simp, fun k hk hne => ?_⟩
  rw [heap_grow_old _ _ (by simpa using hk)]
  have : g ≠ k := fun e => hne (by simp [e])
  simp [putRow, mapBlock, Sort.ahead, Array.getElem?_modify, this]
theorem take_putCellsK (cur F : Array Value) (h : F.size ≤ cur.size) : (putCells id 0 F cur).toList.take F.size = F.toList := by
  apply List.ext_getElem?
  intro j
  by_cases hj : j < F.size
  · rw [List.getElem?_take_of_lt hj, Array.getElem?_toList]
    simp [putCells, hj, show j < cur.size by omega]
  · rw [List.getElem?_take_eq_none (by omega), List.getElem?_eq_none (by simp; omega)]
theorem owns_sortedK {w : World} {B g cap n : Nat} {e : TypeId} {os : Array Obj} {cur : Array Value} (hk : ∀ x, (enc x).length = k) (ts : List α) (hbase : B ≤ g) (hb : w.heap[g]? = some (.cells cur e (0, 0)))
    (h1 : ts.length ≤ cap) (h2 : cap ≤ maxLen) (h3 : cur.size = cap * k) :
    (sortWorldK enc k w g 0 n ts.toArray os).ownsRow B e k (.slice (some ⟨g, 0, none⟩) ts.length cap) ts.length (ts.flatMap enc) := by
  have hf := flatK_list hk ts.toArray
  have hz : (flatK enc k ts.toArray).size = ts.length * k := by simp
  refine ⟨flatMap_len hk ts, .inr ⟨g, cap, _, rfl, hbase, heap_sortedK _ hb, h1, h2, by simp [putCells, h3], ?_⟩⟩
  rw [← hz, take_putCellsK _ _ (by rw [hz, h3]; exact Nat.mul_le_mul_right k h1), hf]
end

theorem cmpI_neg {x y : Int} : cmpI x y < 0 ↔ x < y := by unfold cmpI; repeat' split <;> omega
theorem cmpI_zero {x y : Int} : cmpI x y = 0 ↔ x = y := by unfold cmpI; repeat' split <;> omega
theorem cmpL_neg : ∀ (a b : List Int), (cmpL a b < 0 ↔ ltL a b = true)
  | [], [] => by simp [cmpL, ltL]
  | [], _ :: _ => by simp [cmpL, ltL]
  | _ :: _, [] => by simp [cmpL, ltL]
  | a :: r, b :: s => by
    have ih := cmpL_neg r s
    rw [cmpL, ltL]
    simp only [Bool.or_eq_true, Bool.and_eq_true, decide_eq_true_eq]
    split
    · rename_i h
      rw [ih]
      rw [cmpI_zero] at h
      constructor
      · exact fun h2 => .inr ⟨h, h2⟩
      · rintro (h2 | h2)
        · omega
        · exact h2.2
    · rename_i h
      rw [cmpI_neg]
      rw [cmpI_zero] at h
      constructor
      · exact .inl
      · rintro (h2 | h2)
        · exact h2
        · exact absurd h2.1 h
theorem ltN_iff {β : Type} {lt : β → β → Bool} (a b : Int × β) : ltN lt a b = true ↔ a.1 < b.1 ∨ (a.1 = b.1 ∧ lt a.2 b.2 = true) := by simp [ltN]
theorem ltOf_iff {α : Type} {cf : α → α → Int} {x y : α} : ltOf cf x y = true ↔ cf x y < 0 := by simp [ltOf]
theorem cmp6_lt (x y : M6) : ltOf cmp6 x y = ltM (toM x) (toM y) := by
  obtain ⟨e, s, a, b, c, d⟩ := x
  obtain ⟨e', s', a', b', c', d'⟩ := y
  rw [Bool.eq_iff_iff, ltOf_iff]
  show orL [cmpI e e', cmpI s s', cmpL [a, b, c, d] [a', b', c', d']] < 0 ↔ ltN (ltN ltL) (e, s, [a, b, c, d]) (e', s', [a', b', c', d']) = true
  rw [ltN_iff, ltN_iff]
  simp only [orL]
  split
  · rename_i h
    rw [cmpI_zero] at h
    split
    · rename_i h2
      rw [cmpI_zero] at h2
      split
      · rename_i h3
        have := cmpL_neg [a, b, c, d] [a', b', c', d']
        rw [h3] at this
        constructor
        · intro h9; omega
        · rintro (h9 | ⟨_, h9 | ⟨_, h9⟩⟩)
          · omega
          · omega
          · exact this.2 h9
      · rw [cmpL_neg]
        constructor
        · exact fun h9 => .inr ⟨h, .inr ⟨h2, h9⟩⟩
        · rintro (h9 | ⟨_, h9 | ⟨_, h9⟩⟩)
          · omega
          · omega
          · exact h9
    · rename_i h2
      rw [cmpI_neg]
      rw [cmpI_zero] at h2
      constructor
      · exact fun h9 => .inr ⟨h, .inl h9⟩
      · rintro (h9 | ⟨_, h9 | ⟨h9, _⟩⟩)
        · omega
        · exact h9
        · exact absurd h9 h2
  · rename_i h
    rw [cmpI_neg]
    rw [cmpI_zero] at h
    constructor
    · exact .inl
    · rintro (h9 | ⟨h9, _⟩)
      · exact h9
      · exact absurd h9 h
theorem toM_inj {x y : M6} (h : toM x = toM y) : x = y := by
  obtain ⟨e, s, a, b, c, d⟩ := x
  obtain ⟨e', s', a', b', c', d'⟩ := y
  simp [toM, toP] at h
  simp [h]
theorem cmpAr_lt (x y : Ar) : ltOf cmpAr x y = ltAr x y := by
  obtain ⟨e, s⟩ := x
  obtain ⟨e', s'⟩ := y
  rw [Bool.eq_iff_iff, ltOf_iff]
  show orL [cmpI e e', cmpI s s'] < 0 ↔ ltN (fun a b : Int => decide (a < b)) (e, s) (e', s') = true
  rw [ltN_iff]
  simp only [orL, decide_eq_true_eq]
  repeat' split
  all_goals simp only [cmpI_zero, cmpI_neg] at *
  all_goals omega
theorem swo_of {α : Type} {lt : α → α → Bool} (O : STO lt) : SWO lt where
  irrefl := O.irr
  trans := O.trans
  ntrans x y z h1 h2 := by
    cases h : lt x z with
    | false => rfl
    | true =>
      cases h3 : lt y x with
      | true => have := O.trans _ _ _ h3 h; rw [h2] at this; cases this
      | false => have := O.tri _ _ h1 h3; subst this; rw [h2] at h; cases h
theorem sto_6 : STO (ltOf cmp6) :=
  ⟨fun a => by rw [cmp6_lt]; exact sto_M.irr _, fun a b c h1 h2 => by rw [cmp6_lt] at *; exact sto_M.trans _ _ _ h1 h2, fun a b h1 h2 => by rw [cmp6_lt] at *; exact toM_inj (sto_M.tri _ _ h1 h2)⟩
theorem sto_ar : STO (ltOf cmpAr) :=
  ⟨fun a => by rw [cmpAr_lt]; exact sto_Ar.irr _, fun a b c h1 h2 => by rw [cmpAr_lt] at *; exact sto_Ar.trans _ _ _ h1 h2, fun a b h1 h2 => by rw [cmpAr_lt] at *; exact sto_Ar.tri _ _ h1 h2⟩
theorem pw_merge {α : Type} {lt : α → α → Bool} (O : STO lt) (l : List α) : (l.mergeSort fun x y => !lt y x).Pairwise fun a b => lt b a = false := by
  have h := List.pairwise_mergeSort (le := fun x y => !lt y x) (fun a b c h1 h2 => by
    simp only [Bool.not_eq_true'] at *
    exact (swo_of O).ntrans _ _ _ h2 h1) (fun a b => by
    cases h1 : lt b a with
    | false => rfl
    | true =>
      cases h2 : lt a b with
      | false => rfl
      | true => have := O.trans _ _ _ h1 h2; rw [O.irr] at this; cases this) l
  exact h.imp fun {a b} hab => by simpa using hab

theorem eg47 : ∀ args w, (callFunc 33 args).run Tryz.prog w = .ok (.enter 33 args) w := enters_of Tryz.func33 (by kernel_rfl) rfl
theorem eg51 : ∀ args w, (callFunc 37 args).run Tryz.prog w = .ok (.enter 37 args) w := enters_of Tryz.func37 (by kernel_rfl) rfl
theorem one6 (x : M6) : ∀ v ∈ enc6 x, v.oneCell' = true := fun v hv => by simp [enc6] at hv; rcases hv with rfl | rfl | rfl | rfl | rfl | rfl <;> rfl
theorem oneAr (x : Ar) : ∀ v ∈ arE x, v.oneCell' = true := fun v hv => by simp [arE] at hv; rcases hv with rfl | rfl <;> rfl
theorem sortM_any (B : Nat) (a : Option Addr) (cap n : Nat) (xs : List M6) (w : World) (h : w.ownsRow B 74 6 (.slice a n cap) n (xs.flatMap enc6)) (hl : xs.length = n) (hn : n ≤ 10000000) :
    Calls Tryz.prog 32 #[.slice a n cap, .func (.func 33) #[] #[]] w fun e w' => (e = .returned (.tuple #[]) ∧ w'.ownsRow B 74 6 (.slice a n cap) n ((xs.mergeSort fun x y => !ltOf cmp6 y x).flatMap enc6)) ∧ Frm (Value.slice a n cap).ownBlock.toList w w' := by
  subst hl
  rcases h.2 with ⟨h0, h1⟩ | ⟨g, cp, cur, h0, hb, hg, h1, h2, h3, h4⟩
  · have hx : xs = [] := List.eq_nil_of_length_eq_zero h1
    subst hx
    refine (AnyF.slices_SortFunc_none Tryz.sortMv a cap _ w).mono ?_
    rintro e w' ⟨rfl, rfl⟩
    refine ⟨⟨rfl, ?_⟩, Frm.refl _ _⟩
    rw [List.mergeSort_nil]
    exact h
  · obtain ⟨rfl, rfl⟩ : a = some ⟨g, 0, none⟩ ∧ cap = cp := by simpa using h0
    have hH := holdsK_of (enc := enc6) (k := 6) (fun _ => rfl) xs hg h4
    have hgl := (Array.getElem?_eq_some_iff.1 hg).1
    refine (AnyQ.slices_SortFunc_total Tryz.sortMv 6 Tryz.isAgg74 Tryz.sizeOf74 enc6 (fun _ => rfl) one6 cmp6 (swo_of sto_6) 33 #[] g 0 cap xs.toArray w eg47 (fun _ _ _ _ x y => compare_any x y _) hH hgl (by simp; omega) sto_6.tri).mono ?_
    rintro e w' ⟨rfl, k, os, rfl⟩
    refine ⟨⟨rfl, ?_⟩, ?_⟩
    · have := owns_sortedK (w := w) (n := k) (os := os) (enc := enc6) (k := 6) (cap := cap) (fun _ => rfl) (xs.mergeSort fun x y => !ltOf cmp6 y x) hb hg (by rw [List.length_mergeSort]; exact h1) h2 h3
      rw [List.length_mergeSort] at this
      exact this
    · have := frm_sortedK (w := w) (g := g) (n := k) (os := os) (flatK enc6 6 (xs.mergeSort fun x y => !ltOf cmp6 y x).toArray)
      exact this.mono (by simp [Value.ownBlock])
theorem sortAr_any (B : Nat) (a : Option Addr) (cap n : Nat) (xs : List Ar) (w : World) (h : w.ownsRow B 55 2 (.slice a n cap) n (xs.flatMap arE)) (hl : xs.length = n) (hn : n ≤ 10000000) :
    Calls Tryz.prog 36 #[.slice a n cap, .func (.func 37) #[] #[]] w fun e w' => (e = .returned (.tuple #[]) ∧ w'.ownsRow B 55 2 (.slice a n cap) n ((xs.mergeSort fun x y => !ltOf cmpAr y x).flatMap arE)) ∧ Frm (Value.slice a n cap).ownBlock.toList w w' := by
  subst hl
  rcases h.2 with ⟨h0, h1⟩ | ⟨g, cp, cur, h0, hb, hg, h1, h2, h3, h4⟩
  · have hx : xs = [] := List.eq_nil_of_length_eq_zero h1
    subst hx
    refine (AnyF.slices_SortFunc_none Tryz.sortAr a cap _ w).mono ?_
    rintro e w' ⟨rfl, rfl⟩
    refine ⟨⟨rfl, ?_⟩, Frm.refl _ _⟩
    rw [List.mergeSort_nil]
    exact h
  · obtain ⟨rfl, rfl⟩ : a = some ⟨g, 0, none⟩ ∧ cap = cp := by simpa using h0
    have hH := holdsK_of (enc := arE) (k := 2) (fun _ => rfl) xs hg h4
    have hgl := (Array.getElem?_eq_some_iff.1 hg).1
    refine (AnyQ.slices_SortFunc_total Tryz.sortAr 2 Tryz.isAgg55 Tryz.sizeOf55 arE (fun _ => rfl) oneAr cmpAr (swo_of sto_ar) 37 #[] g 0 cap xs.toArray w eg51 (fun _ _ _ _ x y => cmpAr_any x y _) hH hgl (by simp; omega) sto_ar.tri).mono ?_
    rintro e w' ⟨rfl, k, os, rfl⟩
    refine ⟨⟨rfl, ?_⟩, ?_⟩
    · have := owns_sortedK (w := w) (n := k) (os := os) (enc := arE) (k := 2) (cap := cap) (fun _ => rfl) (xs.mergeSort fun x y => !ltOf cmpAr y x) hb hg (by rw [List.length_mergeSort]; exact h1) h2 h3
      rw [List.length_mergeSort] at this
      exact this
    · have := frm_sortedK (w := w) (g := g) (n := k) (os := os) (flatK arE 2 (xs.mergeSort fun x y => !ltOf cmpAr y x).toArray)
      exact this.mono (by simp [Value.ownBlock])

end Go.Proofs.YtdknbgejhhoaiaaGreat.Ind

/- Contract of slices.CompactFunc over the arcs of an instance. -/
namespace Go.Proofs.YtdknbgejhhoaiaaGreat.Ind
open Go.Shelf Go.RowKit Go.Lib Go.Sort

theorem owns_cut {w : World} {B e size n k cap : Nat} {a : Option Addr} {xs : List Value} (h : w.ownsRow B e size (.slice a n cap) n xs) (hk : k ≤ n) (h0 : 0 < n) : w.ownsRow B e size (.slice a k cap) k (xs.take (k * size)) := by
  have hl := h.1
  have hle : k * size ≤ n * size := Nat.mul_le_mul_right size hk
  refine ⟨by rw [List.length_take, hl]; omega, ?_⟩
  rcases h.2 with ⟨h1, h2⟩ | ⟨g, cp, cur, h1, hb, hg, h2, h3, h4, h5⟩
  · omega
  · obtain ⟨rfl, rfl⟩ : a = some ⟨g, 0, none⟩ ∧ cap = cp := by simpa using h1
    refine .inr ⟨g, cap, cur, rfl, hb, hg, Nat.le_trans hk h2, h3, h4, ?_⟩
    rw [← h5, List.take_take, Nat.min_eq_left hle]
/-- Cells set one behind the other. -/
def setL (xs : List Value) (o : Nat) : List Value → List Value
  | [] => xs
  | v :: r => setL (xs.set o v) (o + 1) r
theorem setL_take : ∀ (vs xs : List Value) (o k : Nat), k ≤ o → (setL xs o vs).take k = xs.take k
  | [], _, _, _, _ => rfl
  | v :: r, xs, o, k, h => by
    rw [setL, setL_take r _ (o + 1) k (by omega)]
    apply List.ext_getElem?
    intro i
    rw [List.getElem?_take, List.getElem?_take, List.getElem?_set]
    split
    · split
      · omega
      · rfl
    · rfl
theorem owns_setCells {B e size n : Nat} {v : Value} {g : Nat} (hg : v.ownBlock = some g) : ∀ (vs : List Value) (o : Nat) (w : World) (xs : List Value), w.ownsRow B e size v n xs → (w.setCells g o vs).ownsRow B e size v n (setL xs o vs)
  | [], _, _, _, h => h
  | u :: r, o, w, xs, h => by
    rw [World.setCells, setL]
    exact owns_setCells hg r (o + 1) _ _ (ownsB_setCell h hg o u)
theorem frm_setCells {g : Nat} : ∀ (vs : List Value) (o : Nat) (w : World), Frm [g] w (w.setCells g o vs)
  | [], _, _ => Frm.refl _ _
  | u :: r, o, w => by
    rw [World.setCells]
    exact ((Frm.refl [g] w).setCell (p := ⟨g, o, none⟩) (.inl (by simp)) u).trans (frm_setCells r (o + 1) _) (fun x hx => .inl hx)
theorem set6 (l : List M6) : ∀ (k : Nat) (x : M6), k < l.length → (l.set k x).flatMap enc6 = setL (l.flatMap enc6) (k * 6) (enc6 x) := by
  intro k x hk
  apply List.ext_getElem?
  intro t
  have hs : ∀ (vs xs : List Value) (o : Nat), o + vs.length ≤ xs.length → (setL xs o vs)[t]? = if o ≤ t ∧ t < o + vs.length then vs[t - o]? else xs[t]? := by
    intro vs
    induction vs with
    | nil => intro xs o _; rw [setL, if_neg (by rintro ⟨h1, h2⟩; rw [List.length_nil] at h2; omega)]
    | cons v r ih =>
      intro xs o ho
      rw [List.length_cons] at ho ⊢
      rw [setL, ih _ _ (by rw [List.length_set]; omega), List.getElem?_set]
      by_cases h1 : o = t
      · subst h1
        rw [if_neg (by omega), if_pos rfl, if_pos (by omega), if_pos (by omega), Nat.sub_self]
        rfl
      · by_cases h2 : o + 1 ≤ t ∧ t < o + 1 + r.length
        · rw [if_pos h2, if_pos (by omega), show t - o = (t - (o + 1)) + 1 by omega]
          rfl
        · rw [if_neg h2, if_neg h1, if_neg (by omega)]
  have hlen := flatMap_len (enc := enc6) (k := 6) (fun _ => rfl)
  have h6 : (enc6 x).length = 6 := rfl
  rw [hs _ _ _ (by rw [hlen, h6]; omega), h6]
  by_cases ht : t < l.length * 6
  · have hd : t / 6 < l.length := by omega
    have hm : t % 6 < 6 := Nat.mod_lt _ (by decide)
    have et : t / 6 * 6 + t % 6 = t := by omega
    have h1 := flatMap_get (enc := enc6) (k := 6) (fun _ => rfl) (l := l) (List.getElem?_eq_getElem hd) (t % 6) hm
    have hd2 : t / 6 < (l.set k x).length := by rw [List.length_set]; exact hd
    have h2 := flatMap_get (enc := enc6) (k := 6) (fun _ => rfl) (l := l.set k x) (List.getElem?_eq_getElem hd2) (t % 6) hm
    rw [et] at h1 h2
    rw [h2, h1, List.getElem_set]
    by_cases hkt : k = t / 6
    · rw [if_pos hkt, if_pos (by omega)]
      congr 1
      omega
    · rw [if_neg hkt, if_neg (by omega)]
  · rw [List.getElem?_eq_none (by rw [hlen, List.length_set]; omega), if_neg (by omega), List.getElem?_eq_none (by rw [hlen]; omega)]
theorem compG_snoc {α : Type} [DecidableEq α] : ∀ (l : List α) (x : α), compG (l ++ [x]) = if l.getLast? = some x then compG l else compG l ++ [x]
  | [], x => by simp [compG]
  | [a], x => by
    by_cases h : a = x <;> simp [compG, h]
  | a :: b :: r, x => by
    have ih := compG_snoc (b :: r) x
    rw [List.cons_append] at ih
    rw [List.cons_append, List.cons_append, List.getLast?_cons_cons, compG, ih, compG]
    by_cases h : a = b
    · rw [if_pos h, if_pos h]
    · rw [if_neg h, if_neg h]
      split <;> rfl
theorem compG_len {α : Type} [DecidableEq α] : ∀ (l : List α), (compG l).length ≤ l.length
  | [] => by simp [compG]
  | [a] => by simp [compG]
  | a :: b :: r => by
    have ih := compG_len (b :: r)
    rw [compG]
    split
    · simp only [List.length_cons] at *; omega
    · simp only [List.length_cons] at *; omega
theorem take_last {α : Type} {l : List α} {k : Nat} {x : α} (h : l[k]? = some x) : (l.take (k + 1)).getLast? = some x := by
  rw [take_snoc h]; simp

end Go.Proofs.YtdknbgejhhoaiaaGreat.Ind
