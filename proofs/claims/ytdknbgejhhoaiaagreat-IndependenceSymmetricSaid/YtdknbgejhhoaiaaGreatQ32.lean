/- Contract of slices.Repeat for a slice of one integer. (Cut from the graph's A8.) -/
import Derived.Test.YtdknbgejhhoaiaaGreatQ03
import Derived.Test.YtdknbgejhhoaiaaGreatQ18
import Derived.Laws.CopyOwn
import Derived.Deep.DeepCutAuto
namespace Go.Proofs.YtdknbgejhhoaiaaGreat
open Go.RowKit

theorem setRow_frm (w : World) (g : Nat) (cs : Array Value) : Frm [g] w (w.setRow g cs) :=
  ⟨rfl, rfl, rfl, by simp [World.setRow], fun k _ hn => setRow_other w g k cs (by simpa using hn)⟩

theorem copy_i {w : World} {o : Oper} {a : Act} {K : Act → World → Prop} {Q : Exit → Act → World → Prop} (d s : Operand)
    (ho : o.op = .call { callee := .builtin .copy, args := #[d, s], argTypes := #[22, 22] })
    (g off dLen dCap : Nat) (ad : Addr) (sLen sCap : Nat) (hd : a.eval d = .slice (some ⟨g, off, none⟩) dLen dCap) (hs : a.eval s = .slice (some ad) sLen sCap)
    (cur : List Value) (hg : w.heap[g]? = some (.cells cur.toArray 3 (0, 0))) (cs : List Value) (m : Nat) (hm : cs.length = m) (hn : m = Nat.min sLen dLen)
    (hsrc : ∀ j v, cs[j]? = some v → w.cell? (ad.add j) = some v) (hfit : off + m ≤ cur.length) (h1 : ∀ v ∈ cs, v.oneCell' = true)
    (h : ∀ w', w'.heap[g]? = some (.cells (splice cur off cs).toArray 3 (0, 0)) → Frm [g] w w' → K (a.put o.dst (.int .i64 m)) w') : Oper.wp Tryz.prog o a w K Q := by
  subst hm
  have hsz : (Tryz.prog.info? 3).map (·.size) = some 1 := by
    obtain ⟨i0, hi, hz0, hz1, hz2⟩ := info_parts infoInt
    rw [hi]; simp [hz1]
  have hrun := run_copy_row (P := Tryz.prog) w 22 22 o.type 3 g off dLen dCap ad sLen sCap cur.toArray 3 cs Tryz.underlying22 hsz hg hn hsrc (by simpa using hfit) h1
  unfold Oper.wp
  simp [execOp, ho, resolve, invoke, builtin, hd, hs, hrun, Result.andThen]
  exact h _ (by simpa [splice] using setRow_heap w g _ _ _ _ hg) (setRow_frm w g _)

theorem step_copy_i {w : World} {ops : Array Oper} {o : Oper} {a : Act} {K : Act → World → Prop} {Q : Exit → Act → World → Prop} {E : Prop} (hgd : o.guard = none) (d s : Operand)
    (ho : o.op = .call { callee := .builtin .copy, args := #[d, s], argTypes := #[22, 22] })
    (g off dLen dCap : Nat) (ad : Addr) (sLen sCap : Nat) (hd : a.eval d = .slice (some ⟨g, off, none⟩) dLen dCap) (hs : a.eval s = .slice (some ad) sLen sCap)
    (cur : List Value) (hg : w.heap[g]? = some (.cells cur.toArray 3 (0, 0))) (cs : List Value) (m : Nat) (hm : cs.length = m) (hn : m = Nat.min sLen dLen)
    (hsrc : ∀ j v, cs[j]? = some v → w.cell? (ad.add j) = some v) (hfit : off + m ≤ cur.length) (h1 : ∀ v ∈ cs, v.oneCell' = true)
    (h : ∀ w', w'.heap[g]? = some (.cells (splice cur off cs).toArray 3 (0, 0)) → Frm [g] w w' → K (a.put o.dst (.int .i64 m)) w') :
    if Region.wanted o (yielded ops a.tmps) = true then Oper.wp Tryz.prog o a w K Q else E := by
  have hw : Region.wanted o (yielded ops a.tmps) = true := by simp [Region.wanted, hgd]
  rw [if_pos hw]
  exact copy_i d s ho g off dLen dCap ad sLen sCap hd hs cur hg cs m hm hn hsrc hfit h1 h

theorem wpl_copy_i {w : World} {ops : Array Oper} {rest : List Oper} {o : Oper} {a : Act} {Q : Exit → Act → World → Prop} (hgd : o.guard = none) (d s : Operand)
    (ho : o.op = .call { callee := .builtin .copy, args := #[d, s], argTypes := #[22, 22] })
    (g off dLen dCap : Nat) (ad : Addr) (sLen sCap : Nat) (hd : a.eval d = .slice (some ⟨g, off, none⟩) dLen dCap) (hs : a.eval s = .slice (some ad) sLen sCap)
    (cur : List Value) (hg : w.heap[g]? = some (.cells cur.toArray 3 (0, 0))) (cs : List Value) (m : Nat) (hm : cs.length = m) (hn : m = Nat.min sLen dLen)
    (hsrc : ∀ j v, cs[j]? = some v → w.cell? (ad.add j) = some v) (hfit : off + m ≤ cur.length) (h1 : ∀ v ∈ cs, v.oneCell' = true)
    (h : ∀ w', w'.heap[g]? = some (.cells (splice cur off cs).toArray 3 (0, 0)) → Frm [g] w w' → wpList Tryz.prog ops Q rest (a.put o.dst (.int .i64 m)) w') :
    wpList Tryz.prog ops Q (o :: rest) a w :=
  wpList_plain hgd fun _ hK => copy_i d s ho g off dLen dCap ad sLen sCap hd hs cur hg cs m hm hn hsrc hfit h1 fun w' h1 h2 => hK _ _ (h w' h1 h2)

theorem wpl_make_i (w : World) {ops : Array Oper} {rest : List Oper} {o : Oper} {a : Act} {Q : Exit → Act → World → Prop}
    (hg : o.guard = none) (l : Operand) (hop : o.op = Op.makeSlice 22 l l) (L : Int) (n : Nat) (hl : a.eval l = .int .i64 L) (hL : L = (n : Int)) (hn : n ≤ 1000000)
    (hK : ∀ w', w'.ownsRow w.heap.size 3 1 (.slice (some ⟨w.heap.size, 0, none⟩) n n) n (ints (List.replicate n 0)) → Frm [] w w' → wpList Tryz.prog ops Q rest (a.put o.dst (.slice (some ⟨w.heap.size, 0, none⟩) n n)) w') :
    wpList Tryz.prog ops Q (o :: rest) a w := by
  obtain ⟨i0, hi, hz0, hz1, hz2⟩ := info_parts infoInt
  refine wpList_make_full w hg l l 22 hop w.heap.size 3 i0 (.int .i64 0) 1 Tryz.underlying22 hi hz0 hz1 .i64 .i64 L L n hl hl hL hL (by rw [hz2]; omega) (by unfold maxLen; omega) (Nat.le_refl _) ?_
  intro w' hown hgr
  refine hK w' ?_ ((Frm.refl [] w).grown hgr (by simp))
  have hm : (madeCells (Value.int .i64 0).cells (n * 1)).toList = ints (List.replicate n 0) := by
    rw [Nat.mul_one]
    exact (toList_madeCells_one _ _).trans (by simp [ints])
  rw [hm] at hown
  exact hown

theorem owns_cur {B : Nat} {w : World} {g cap n : Nat} {xs : List Value} (h : w.ownsRow B 3 1 (.slice (some ⟨g, 0, none⟩) n cap) n xs) : ∃ cur : List Value, w.heap[g]? = some (.cells cur.toArray 3 (0, 0)) ∧ n ≤ cur.length ∧ cur.take n = xs ∧ B ≤ g ∧ cur.length = cap := by
  rcases h.2 with ⟨h0, _⟩ | ⟨g', cp', cur, h0, hb, hg, h1, h2, h3, h4⟩
  · cases h0
  · obtain ⟨rfl, rfl⟩ : g = g' ∧ cap = cp' := by simpa using h0
    have h5 : cur.toList.length = cap := by have := h3; simpa using this
    exact ⟨cur.toList, by simpa using hg, by omega, by simpa using h4, hb, h5⟩

theorem one_src {w : World} {b o : Nat} {u : Value} (h : w.cell? ⟨b, o, none⟩ = some u) : ∀ (j : Nat) (v : Value), [u][j]? = some v → w.cell? ((⟨b, o, none⟩ : Addr).add j) = some v := by
  intro j v hj
  cases j with
  | zero => simp at hj; subst hj; rw [Addr.add_lit]; exact h
  | succ j => simp at hj

theorem splice_rep (cur : List Value) (j m : Nat) (v : Value) (h : cur.take j = List.replicate j v) : (splice cur j (List.replicate m v)).take (j + m) = List.replicate (j + m) v := by
  unfold splice
  rw [h, ← List.append_assoc, List.replicate_append_replicate, List.take_append_of_le_length (by simp), List.take_of_length_le (by simp)]

set_option linter.unusedSimpArgs false in
set_option maxRecDepth 100000 in
set_option maxHeartbeats 1000000 in
theorem repeat_any (b o c n : Nat) (v : Int) (w : World) (h : w.cell? ⟨b, o, none⟩ = some (.int .i64 v)) (hn : 1 ≤ n) (hn2 : n ≤ 1000000) :
    Calls Tryz.prog 51 #[.slice (some ⟨b, o, none⟩) 1 c, .int .i64 (n : Int)] w fun e w' => ∃ g, e = .returned (.slice (some ⟨g, 0, none⟩) n n) ∧ w'.ownsRow w.heap.size 3 1 (.slice (some ⟨g, 0, none⟩) n n) n (ints (List.replicate n v)) ∧ Frm [] w w' := by
  obtain ⟨i0, hi, hz0, hz1, hz2⟩ := info_parts infoInt
  have hmul := Tryz.bits_Mul 1 n (by omega) (by omega) w
  have d1 : 1 * n / 18446744073709551616 = 0 := by omega
  have d2 : 1 * n % 18446744073709551616 = n := by omega
  rw [d1, d2] at hmul
  have HMUL := Lib.hid hmul
  have i1 : (1 : Int) ≤ (n : Int) := by omega
  have z0 : decide ((n : Int) < 0) = false := by simp
  have z1 : decide ((9223372036854775807 : Int) < (n : Int)) = false := by simp; omega
  have i2 : (n : Int) ≤ 1000000 := by omega
  have H := Lib.hid h
  clear hmul d1 d2 h
  go_enter Tryz.func51, Tryz.ntmps51
  go_wp2_with fail
  refine HMUL.out.mono ?_
  rintro e1 w1 ⟨rfl, rfl⟩
  clear HMUL
  go_wp2_with (first | (at_make; refine wpl_make_i _ rfl (.tmp 29) rfl _ n rfl rfl (by omega) ?_) | (at_make; fail))
  intro w2 hown2 hf2
  obtain ⟨cur, hcur, hcl, hct, hB, hcc⟩ := owns_cur hown2
  have hc2 := hf2.cell H.out (by simp)
  have HCUR := Lib.hid hcur
  have HCT := Lib.hid hct
  have HCC := Lib.hid hcc
  have HC2 := Lib.hid hc2
  clear hcur hct hc2 hown2 hcc
  go_wp2_with (with_reducible refine wpl_copy_i rfl (.tmp 31) (.tmp 32) rfl w1.heap.size 0 n n ⟨b, o, none⟩ 1 c rfl rfl cur HCUR.out [.int .i64 v] 1 rfl (by show 1 = min 1 n; omega) (one_src HC2.out) (by omega) (by simp [Value.oneCell']) ?_)
  intro w3 hcur3 hf3
  have hs3 : (splice cur 0 [Value.int .i64 v]).take 1 = List.replicate 1 (Value.int .i64 v) := splice_rep cur 0 1 (.int .i64 v) (by simp)
  have hl3 : (splice cur 0 [Value.int .i64 v]).length = n := by rw [length_splice _ _ _ (by simp; omega), HCC.out]
  have HS3 := Lib.hid hs3
  have HL3 := Lib.hid hl3
  have HC3 := Lib.hid hcur3
  have HF3 := Lib.hid ((hf2.mono (fq := [w1.heap.size]) (by simp)).trans hf3 (by simp))
  have F3 : Frm [] w1 w3 := hf2.trans hf3 (by simp)
  have HFF3 := Lib.hid F3
  clear hs3 hl3 hcur3 hf3 hf2 F3
  go_wp2_with fail
  go_loopg [8] (n - 1) (fun q i wr => ∃ (j : Nat) (cu : List Value), q = n - j ∧ 1 ≤ j ∧ j ≤ n ∧ i = .int .i64 j ∧ wr.heap[w1.heap.size]? = some (.cells cu.toArray 3 (0, 0)) ∧ cu.length = n ∧ cu.take j = List.replicate j (Value.int .i64 v) ∧ Frm [] w1 wr)
  case atStart => exact ⟨1, splice cur 0 [Value.int .i64 v], rfl, Nat.le_refl _, by omega, rfl, HC3.out, HL3.out, HS3.out, HFF3.out⟩
  case round =>
    obtain ⟨j, cu, rfl, hj1, hj2, rfl, hcu, hcl2, hrep, hF⟩ := hrel
    have HCU := Lib.hid hcu
    have HCL2 := Lib.hid hcl2
    have HREP := Lib.hid hrep
    have HF := Lib.hid hF
    have i4 : (0 : Int) ≤ (j : Int) := by omega
    have i5 : (j : Int) ≤ (n : Int) := by omega
    clear hcu hcl2 hrep hF
    by_cases hlt : j < n
    · have i6 : (j : Int) < (n : Int) := by omega
      have hne : ¬ j = n := by omega
      have hne2 : ¬ n = j := by omega
      obtain ⟨m, hm⟩ : ∃ m, m = Nat.min j (n - j) := ⟨_, rfl⟩
      have hm1 : 1 ≤ m := by rw [hm, Nat.le_min]; omega
      have hm2 : j + m ≤ n := by
        have : m ≤ n - j := by rw [hm]; exact Nat.min_le_right _ _
        omega
      have hwr : IntKind.i64.wrap ((j : Int) + (m : Int)) = (j : Int) + (m : Int) := IntWalk.i64_in _ (by omega)
      have HM := Lib.hid hm
      have hmj : m ≤ j := by rw [hm]; exact Nat.min_le_left _ _
      have hsrc : ∀ (q : Nat) (u : Value), (List.replicate m (Value.int .i64 v))[q]? = some u → wr.drew.cell? ((⟨w1.heap.size, 0, none⟩ : Addr).add q) = some u := by
        intro q u hq
        rw [List.getElem?_replicate] at hq
        split at hq
        · cases hq
          rw [Addr.add_lit, Nat.zero_add]
          refine RowAt.cell (xs := List.replicate j (Value.int .i64 v)) (e := 3) ⟨cu.toArray, HCU.out, by simpa using HREP.out⟩ ?_
          rw [List.getElem?_replicate, if_pos (by omega)]
        · cases hq
      have HSRC := Lib.hid hsrc
      clear hm hsrc
      go_wp2_with fail
      refine wp_region_held_drew (S := fun _ => True) (by kernel_rfl) (trivial) ?_
      intro hHeld
      refine wpAnyH_take (i := 0) (v := ?_) rfl (by kernel_rfl) (by kernel_rfl) (by kernel_rfl) (fun _ _ _ h => h) (Or.inl ⟨by rfl, ?_⟩) (by assumption) ?_
      rotate_left
      · intro w9 hS9
        try dsimp only at hS9
        go_split_ands
        go_simp
        try with_reducible rfl
      try simp only [Act.put, List.getElem_toArray, List.getElem_cons_succ, List.getElem_cons_zero, List.setIfInBounds_toArray, List.set_cons_zero, List.set_cons_succ]
      refine wpAnyH_take (i := 1) (v := ?_) rfl (by kernel_rfl) (by kernel_rfl) (by kernel_rfl) (fun _ _ _ h => h) (Or.inl ⟨by rfl, ?_⟩) (by assumption) ?_
      rotate_left
      · intro w9 hS9
        try dsimp only at hS9
        go_split_ands
        go_simp
        try with_reducible rfl
      try simp only [Act.put, List.getElem_toArray, List.getElem_cons_succ, List.getElem_cons_zero, List.setIfInBounds_toArray, List.set_cons_zero, List.set_cons_succ]
      refine wpAnyH_take (i := 2) (v := ?_) rfl (by kernel_rfl) (by kernel_rfl) (by kernel_rfl) (fun _ _ _ h => h) (Or.inl ⟨by rfl, ?_⟩) (by assumption) ?_
      rotate_left
      · intro w9 hS9
        try dsimp only at hS9
        go_split_ands
        go_simp
        try with_reducible rfl
      try simp only [Act.put, List.getElem_toArray, List.getElem_cons_succ, List.getElem_cons_zero, List.setIfInBounds_toArray, List.set_cons_zero, List.set_cons_succ]
      refine wpAnyH_take (i := 3) (v := ?_) rfl (by kernel_rfl) (by kernel_rfl) (by kernel_rfl) (fun _ _ _ h => h) (Or.inl ⟨by rfl, ?_⟩) (by assumption) ?_
      rotate_left
      · intro w9 hS9
        try dsimp only at hS9
        go_split_ands
        go_simp
        try with_reducible rfl
      try simp only [Act.put, List.getElem_toArray, List.getElem_cons_succ, List.getElem_cons_zero, List.setIfInBounds_toArray, List.set_cons_zero, List.set_cons_succ]
      refine wpAnyH_take (i := 4) (v := ?_) rfl (by kernel_rfl) (by kernel_rfl) (by kernel_rfl) (fun _ _ _ h => h) (Or.inl ⟨by rfl, ?_⟩) (by assumption) ?_
      rotate_left
      · intro w9 hS9
        try dsimp only at hS9
        go_split_ands
        go_simp
        try with_reducible rfl
      try simp only [Act.put, List.getElem_toArray, List.getElem_cons_succ, List.getElem_cons_zero, List.setIfInBounds_toArray, List.set_cons_zero, List.set_cons_succ]
      refine wpAnyH_take (i := 5) (v := ?_) rfl (by kernel_rfl) (by kernel_rfl) (by kernel_rfl) (fun _ _ _ h => h) (Or.inl ⟨by rfl, ?_⟩) (by assumption) ?_
      rotate_left
      · intro w9 hS9
        try dsimp only at hS9
        go_split_ands
        go_simp
        try with_reducible rfl
      try simp only [Act.put, List.getElem_toArray, List.getElem_cons_succ, List.getElem_cons_zero, List.setIfInBounds_toArray, List.set_cons_zero, List.set_cons_succ]
      refine wpAnyH_take (i := 6) (v := ?_) rfl (by kernel_rfl) (by kernel_rfl) (by kernel_rfl) (fun _ _ _ h => h) (Or.inl ⟨by rfl, ?_⟩) (by assumption) ?_
      rotate_left
      · intro w9 hS9
        try dsimp only at hS9
        go_split_ands
        go_simp
        try with_reducible rfl
      try simp only [Act.put, List.getElem_toArray, List.getElem_cons_succ, List.getElem_cons_zero, List.setIfInBounds_toArray, List.set_cons_zero, List.set_cons_succ]
      refine wpAnyH_ready (rs := [7]) (by kernel_rfl) (by simp) ?_
      refine AllReadyH.cons rfl (fun K hK => ?_) AllReadyH.nil
      refine step_copy_i rfl (.tmp 41) (.tmp 44) rfl w1.heap.size j (n - j) (n - j) ⟨w1.heap.size, 0, none⟩ j n rfl rfl cu HCU.out (List.replicate m (Value.int .i64 v)) m (List.length_replicate ..) HM.out HSRC.out (by rw [HCL2.out]; omega) (by intro u hu; rw [List.eq_of_mem_replicate hu]; rfl) ?_
      intro w5 hcu5 hf5
      refine hK.out _ _ ?_ (fun hHeld => ?_)
      · trivial
      clear hK K
      try simp only [Act.put, List.getElem_toArray, List.getElem_cons_succ, List.getElem_cons_zero, List.setIfInBounds_toArray, List.set_cons_zero, List.set_cons_succ]
      refine wpAnyH_take (i := 8) (v := ?_) rfl (by kernel_rfl) (by kernel_rfl) (by kernel_rfl) (fun _ _ _ h => h) (Or.inl ⟨by rfl, ?_⟩) (by assumption) ?_
      rotate_left
      · intro w9 hS9
        try dsimp only at hS9
        go_split_ands
        go_simp
        try with_reducible rfl
      try simp only [Act.put, List.getElem_toArray, List.getElem_cons_succ, List.getElem_cons_zero, List.setIfInBounds_toArray, List.set_cons_zero, List.set_cons_succ]
      refine wpAnyH_take (i := 9) (v := ?_) rfl (by kernel_rfl) (by kernel_rfl) (by kernel_rfl) (fun _ _ _ h => h) (Or.inl ⟨by rfl, ?_⟩) (by assumption) ?_
      rotate_left
      · intro w9 hS9
        try dsimp only at hS9
        go_split_ands
        go_simp
        try with_reducible rfl
      try simp only [Act.put, List.getElem_toArray, List.getElem_cons_succ, List.getElem_cons_zero, List.setIfInBounds_toArray, List.set_cons_zero, List.set_cons_succ]
      refine wpAnyH_done (by kernel_rfl) ?_ _
      go_wp2_with fail
      go_roundg (n - (j + m))
      case rel => exact ⟨j + m, splice cu j (List.replicate m (Value.int .i64 v)), rfl, by omega, by omega, by go_num, hcu5, by rw [length_splice _ _ _ (by rw [List.length_replicate, HCL2.out]; omega), HCL2.out], splice_rep cu j m _ HREP.out, HF.out.drew.trans hf5 (by simp)⟩
      case measure => omega
    · have hjn : j = n := by omega
      subst hjn
      have i6 : ¬ (j : Int) < (j : Int) := by omega
      go_wp2_with fail
      go_ret
      refine ⟨w1.heap.size, rfl, ⟨by simp [ints], .inr ⟨w1.heap.size, j, cu.toArray, rfl, Nat.le_refl _, HCU.out, Nat.le_refl _, by unfold maxLen; omega, by simp [HCL2.out], ?_⟩⟩, HF.out⟩
      simp only [Nat.mul_one]
      rw [HREP.out]
      simp [ints]

theorem ints_set (xs : List Int) (i : Nat) (v : Int) : ints (xs.set i v) = (ints xs).set i (.int .i64 v) := by
  simp [ints, List.map_set]
theorem ints_get {xs : List Int} {i : Nat} {x : Int} (h : xs[i]? = some x) : (ints xs)[i]? = some (.int .i64 x) := by simp [ints, h]
end Go.Proofs.YtdknbgejhhoaiaaGreat
