/- Merged text: GR, GT, GU of the notes. -/
import Derived.Test.YtikpcipkkhmcfaaGreatQ00
import Derived.Test.YtikpcipkkhmcfaaGreatQ11
import Derived.Test.YtikpcipkkhmcfaaGreatQ12
import Derived.Laws.CopyOwn
/- Contract of slices.Repeat for a slice of one integer. -/
namespace Go.Proofs.YtikpcipkkhmcfaaGreat
open Go.RowKit

theorem setRow_frm (w : World) (g : Nat) (cs : Array Value) : Frm [g] w (w.setRow g cs) :=
 ⟨rfl, rfl, rfl, by simp [World.setRow], fun k _ hn => setRow_other w g k cs (by simpa using hn)⟩

theorem copy_i {w : World} {o : Oper} {a : Act} {K : Act → World → Prop} {Q : Exit → Act → World → Prop} (d s : Operand)
  (ho : o.op = .call { callee := .builtin .copy, args := #[d, s], argTypes := #[22, 22] })
  (g off dLen dCap : Nat) (ad : Addr) (sLen sCap : Nat) (hd : a.eval d = .slice (some ⟨g, off, none⟩) dLen dCap) (hs : a.eval s = .slice (some ad) sLen sCap)
  (cur : List Value) (hg : w.heap[g]? = some (.cells cur.toArray 3 (0, 0))) (cs : List Value) (m : Nat) (hm : cs.length = m) (hn : m = Nat.min sLen dLen)
  (hsrc : ∀ j v, cs[j]? = some v → w.cell? (ad.add j) = some v) (hfit : off + m ≤ cur.length) (h1 : ∀ v ∈ cs, v.oneCell' = true)
  (h : ∀ w', w'.heap[g]? = some (.cells (splice cur off cs).toArray 3 (0, 0)) → Frm [g] w w' → K (a.put o.dst (.int .i64 m)) w') : Oper.wp Tryz.prog o a w K Q := by
 subst hm
 have hsz : (Tryz.prog.info? 3).map (·.size) = some 1 := by
  obtain ⟨i0, hi, hz0, hz1, hz2⟩ := info_parts infoInt
  rw [hi]; simp [hz1]
 have hrun := run_copy_row (P := Tryz.prog) w 22 22 o.type 3 g off dLen dCap ad sLen sCap cur.toArray 3 cs Tryz.underlying22 hsz hg hn hsrc (by simpa using hfit) h1
 unfold Oper.wp
 simp [execOp, ho, resolve, invoke, builtin, hd, hs, hrun, Result.andThen]
 exact h _ (by simpa [splice] using setRow_heap w g _ _ _ _ hg) (setRow_frm w g _)

theorem step_copy_i {w : World} {ops : Array Oper} {o : Oper} {a : Act} {K : Act → World → Prop} {Q : Exit → Act → World → Prop} {E : Prop} (hgd : o.guard = none) (d s : Operand)
  (ho : o.op = .call { callee := .builtin .copy, args := #[d, s], argTypes := #[22, 22] })
  (g off dLen dCap : Nat) (ad : Addr) (sLen sCap : Nat) (hd : a.eval d = .slice (some ⟨g, off, none⟩) dLen dCap) (hs : a.eval s = .slice (some ad) sLen sCap)
  (cur : List Value) (hg : w.heap[g]? = some (.cells cur.toArray 3 (0, 0))) (cs : List Value) (m : Nat) (hm : cs.length = m) (hn : m = Nat.min sLen dLen)
  (hsrc : ∀ j v, cs[j]? = some v → w.cell? (ad.add j) = some v) (hfit : off + m ≤ cur.length) (h1 : ∀ v ∈ cs, v.oneCell' = true)
  (h : ∀ w', w'.heap[g]? = some (.cells (splice cur off cs).toArray 3 (0, 0)) → Frm [g] w w' → K (a.put o.dst (.int .i64 m)) w') :
  if Region.wanted o (yielded ops a.tmps) = true then Oper.wp Tryz.prog o a w K Q else E := by
 have hw : Region.wanted o (yielded ops a.tmps) = true := by simp [Region.wanted, hgd]
 rw [if_pos hw]
 exact copy_i d s ho g off dLen dCap ad sLen sCap hd hs cur hg cs m hm hn hsrc hfit h1 h

theorem wpl_copy_i {w : World} {ops : Array Oper} {rest : List Oper} {o : Oper} {a : Act} {Q : Exit → Act → World → Prop} (hgd : o.guard = none) (d s : Operand)
  (ho : o.op = .call { callee := .builtin .copy, args := #[d, s], argTypes := #[22, 22] })
  (g off dLen dCap : Nat) (ad : Addr) (sLen sCap : Nat) (hd : a.eval d = .slice (some ⟨g, off, none⟩) dLen dCap) (hs : a.eval s = .slice (some ad) sLen sCap)
  (cur : List Value) (hg : w.heap[g]? = some (.cells cur.toArray 3 (0, 0))) (cs : List Value) (m : Nat) (hm : cs.length = m) (hn : m = Nat.min sLen dLen)
  (hsrc : ∀ j v, cs[j]? = some v → w.cell? (ad.add j) = some v) (hfit : off + m ≤ cur.length) (h1 : ∀ v ∈ cs, v.oneCell' = true)
  (h : ∀ w', w'.heap[g]? = some (.cells (splice cur off cs).toArray 3 (0, 0)) → Frm [g] w w' → wpList Tryz.prog ops Q rest (a.put o.dst (.int .i64 m)) w') :
  wpList Tryz.prog ops Q (o :: rest) a w :=
 wpList_plain hgd fun _ hK => copy_i d s ho g off dLen dCap ad sLen sCap hd hs cur hg cs m hm hn hsrc hfit h1 fun w' h1 h2 => hK _ _ (h w' h1 h2)

theorem wpl_make_i (w : World) {ops : Array Oper} {rest : List Oper} {o : Oper} {a : Act} {Q : Exit → Act → World → Prop}
  (hg : o.guard = none) (l : Operand) (hop : o.op = Op.makeSlice 22 l l) (L : Int) (n : Nat) (hl : a.eval l = .int .i64 L) (hL : L = (n : Int)) (hn : n ≤ 1000000)
  (hK : ∀ w', w'.ownsRow w.heap.size 3 1 (.slice (some ⟨w.heap.size, 0, none⟩) n n) n (ints (List.replicate n 0)) → Frm [] w w' → wpList Tryz.prog ops Q rest (a.put o.dst (.slice (some ⟨w.heap.size, 0, none⟩) n n)) w') :
  wpList Tryz.prog ops Q (o :: rest) a w := by
 obtain ⟨i0, hi, hz0, hz1, hz2⟩ := info_parts infoInt
 refine wpList_make_full w hg l l 22 hop w.heap.size 3 i0 (.int .i64 0) 1 Tryz.underlying22 hi hz0 hz1 .i64 .i64 L L n hl hl hL hL (by rw [hz2]; omega) (by unfold maxLen; omega) (Nat.le_refl _) ?_
 intro w' hown hgr
 refine hK w' ?_ ((Frm.refl [] w).grown hgr (by simp))
 have hm : (madeCells (Value.int .i64 0).cells (n * 1)).toList = ints (List.replicate n 0) := by
  rw [Nat.mul_one]
  exact (toList_madeCells_one _ _).trans (by simp [ints])
 rw [hm] at hown
 exact hown

theorem owns_cur {B : Nat} {w : World} {g cap n : Nat} {xs : List Value} (h : w.ownsRow B 3 1 (.slice (some ⟨g, 0, none⟩) n cap) n xs) : ∃ cur : List Value, w.heap[g]? = some (.cells cur.toArray 3 (0, 0)) ∧ n ≤ cur.length ∧ cur.take n = xs ∧ B ≤ g ∧ cur.length = cap := by
 rcases h.2 with ⟨h0, _⟩ | ⟨g', cp', cur, h0, hb, hg, h1, h2, h3, h4⟩
 ·cases h0
 ·obtain ⟨rfl, rfl⟩ : g = g' ∧ cap = cp' := by simpa using h0
  have h5 : cur.toList.length = cap := by have := h3; simpa using this
  exact ⟨cur.toList, by simpa using hg, by omega, by simpa using h4, hb, h5⟩

theorem one_src {w : World} {b o : Nat} {u : Value} (h : w.cell? ⟨b, o, none⟩ = some u) : ∀ (j : Nat) (v : Value), [u][j]? = some v → w.cell? ((⟨b, o, none⟩ : Addr).add j) = some v := by
 intro j v hj
 cases j with
 | zero => simp at hj; subst hj; rw [Addr.add_lit]; exact h
 | succ j => simp at hj

theorem splice_rep (cur : List Value) (j m : Nat) (v : Value) (h : cur.take j = List.replicate j v) : (splice cur j (List.replicate m v)).take (j + m) = List.replicate (j + m) v := by
 unfold splice
 rw [h, ← List.append_assoc, List.replicate_append_replicate, List.take_append_of_le_length (by simp), List.take_of_length_le (by simp)]

set_option linter.unusedSimpArgs false in
set_option maxRecDepth 100000 in
set_option maxHeartbeats 1000000 in
theorem repeat_any (b o c n : Nat) (v : Int) (w : World) (h : w.cell? ⟨b, o, none⟩ = some (.int .i64 v)) (hn : 1 ≤ n) (hn2 : n ≤ 1000000) :
  Calls Tryz.prog 109 #[.slice (some ⟨b, o, none⟩) 1 c, .int .i64 (n : Int)] w fun e w' => ∃ g, e = .returned (.slice (some ⟨g, 0, none⟩) n n) ∧ w'.ownsRow w.heap.size 3 1 (.slice (some ⟨g, 0, none⟩) n n) n (ints (List.replicate n v)) ∧ Frm [] w w' := by
 obtain ⟨i0, hi, hz0, hz1, hz2⟩ := info_parts infoInt
 have hmul := Tryz.bits_Mul 1 n (by omega) (by omega) w
 have d1 : 1 * n / 18446744073709551616 = 0 := by omega
 have d2 : 1 * n % 18446744073709551616 = n := by omega
 rw [d1, d2] at hmul
 have HMUL := Lib.hid hmul
 have i1 : (1 : Int) ≤ (n : Int) := by omega
 have z0 : decide ((n : Int) < 0) = false := by simp
 have z1 : decide ((9223372036854775807 : Int) < (n : Int)) = false := by simp; omega
 have i2 : (n : Int) ≤ 1000000 := by omega
 have H := Lib.hid h
 clear hmul d1 d2 h
 go_enter Tryz.func109, Tryz.ntmps109
 go_wp2_with fail
 refine HMUL.out.mono ?_
 rintro e1 w1 ⟨rfl, rfl⟩
 clear HMUL
 go_wp2_with (first | (at_make; refine wpl_make_i _ rfl (.tmp 29) rfl _ n rfl rfl (by omega) ?_) | (at_make; fail))
 intro w2 hown2 hf2
 obtain ⟨cur, hcur, hcl, hct, hB, hcc⟩ := owns_cur hown2
 have hc2 := hf2.cell H.out (by simp)
 have HCUR := Lib.hid hcur
 have HCT := Lib.hid hct
 have HCC := Lib.hid hcc
 have HC2 := Lib.hid hc2
 clear hcur hct hc2 hown2 hcc
 go_wp2_with (with_reducible refine wpl_copy_i rfl (.tmp 31) (.tmp 32) rfl w1.heap.size 0 n n ⟨b, o, none⟩ 1 c rfl rfl cur HCUR.out [.int .i64 v] 1 rfl (by show 1 = min 1 n; omega) (one_src HC2.out) (by omega) (by simp [Value.oneCell']) ?_)
 intro w3 hcur3 hf3
 have hs3 : (splice cur 0 [Value.int .i64 v]).take 1 = List.replicate 1 (Value.int .i64 v) := splice_rep cur 0 1 (.int .i64 v) (by simp)
 have hl3 : (splice cur 0 [Value.int .i64 v]).length = n := by rw [length_splice _ _ _ (by simp; omega), HCC.out]
 have HS3 := Lib.hid hs3
 have HL3 := Lib.hid hl3
 have HC3 := Lib.hid hcur3
 have HF3 := Lib.hid ((hf2.mono (fq := [w1.heap.size]) (by simp)).trans hf3 (by simp))
 have F3 : Frm [] w1 w3 := hf2.trans hf3 (by simp)
 have HFF3 := Lib.hid F3
 clear hs3 hl3 hcur3 hf3 hf2 F3
 go_wp2_with fail
 go_loopg [8] (n - 1) (fun q i wr => ∃ (j : Nat) (cu : List Value), q = n - j ∧ 1 ≤ j ∧ j ≤ n ∧ i = .int .i64 j ∧ wr.heap[w1.heap.size]? = some (.cells cu.toArray 3 (0, 0)) ∧ cu.length = n ∧ cu.take j = List.replicate j (Value.int .i64 v) ∧ Frm [] w1 wr)
 case atStart => exact ⟨1, splice cur 0 [Value.int .i64 v], rfl, Nat.le_refl _, by omega, rfl, HC3.out, HL3.out, HS3.out, HFF3.out⟩
 case round =>
  obtain ⟨j, cu, rfl, hj1, hj2, rfl, hcu, hcl2, hrep, hF⟩ := hrel
  have HCU := Lib.hid hcu
  have HCL2 := Lib.hid hcl2
  have HREP := Lib.hid hrep
  have HF := Lib.hid hF
  have i4 : (0 : Int) ≤ (j : Int) := by omega
  have i5 : (j : Int) ≤ (n : Int) := by omega
  clear hcu hcl2 hrep hF
  by_cases hlt : j < n
  ·have i6 : (j : Int) < (n : Int) := by omega
   have hne : ¬ j = n := by omega
   have hne2 : ¬ n = j := by omega
   obtain ⟨m, hm⟩ : ∃ m, m = Nat.min j (n - j) := ⟨_, rfl⟩
   have hm1 : 1 ≤ m := by rw [hm, Nat.le_min]; omega
   have hm2 : j + m ≤ n := by
    have : m ≤ n - j := by rw [hm]; exact Nat.min_le_right _ _
    omega
   have hwr : IntKind.i64.wrap ((j : Int) + (m : Int)) = (j : Int) + (m : Int) := IntWalk.i64_in _ (by omega)
   have HM := Lib.hid hm
   have hmj : m ≤ j := by rw [hm]; exact Nat.min_le_left _ _
   have hsrc : ∀ (q : Nat) (u : Value), (List.replicate m (Value.int .i64 v))[q]? = some u → wr.drew.cell? ((⟨w1.heap.size, 0, none⟩ : Addr).add q) = some u := by
    intro q u hq
    rw [List.getElem?_replicate] at hq
    split at hq
    ·cases hq
     rw [Addr.add_lit, Nat.zero_add]
     refine RowAt.cell (xs := List.replicate j (Value.int .i64 v)) (e := 3) ⟨cu.toArray, HCU.out, by simpa using HREP.out⟩ ?_
     rw [List.getElem?_replicate, if_pos (by omega)]
    ·cases hq
   have HSRC := Lib.hid hsrc
   clear hm hsrc
   go_wp2_with fail
   refine wp_region_held_drew (S := fun _ => True) (by kernel_rfl) (trivial) ?_
   intro hHeld
   refine qtk 0 (v := ?_) rfl (by kernel_rfl) (fun _ _ _ h => h) (by rfl) (by assumption) ?_ ?_
   rotate_left
   ·(intro w9 hS9; (try dsimp only at hS9); go_split_ands; go_simp; try with_reducible rfl)
   try simp only [Act.put, qgA, qgS, qg0, qsA, qs0, qsS]
   refine qtk 1 (v := ?_) rfl (by kernel_rfl) (fun _ _ _ h => h) (by rfl) (by assumption) ?_ ?_
   rotate_left
   ·(intro w9 hS9; (try dsimp only at hS9); go_split_ands; go_simp; try with_reducible rfl)
   try simp only [Act.put, qgA, qgS, qg0, qsA, qs0, qsS]
   refine qtk 2 (v := ?_) rfl (by kernel_rfl) (fun _ _ _ h => h) (by rfl) (by assumption) ?_ ?_
   rotate_left
   ·(intro w9 hS9; (try dsimp only at hS9); go_split_ands; go_simp; try with_reducible rfl)
   try simp only [Act.put, qgA, qgS, qg0, qsA, qs0, qsS]
   refine qtk 3 (v := ?_) rfl (by kernel_rfl) (fun _ _ _ h => h) (by rfl) (by assumption) ?_ ?_
   rotate_left
   ·(intro w9 hS9; (try dsimp only at hS9); go_split_ands; go_simp; try with_reducible rfl)
   try simp only [Act.put, qgA, qgS, qg0, qsA, qs0, qsS]
   refine qtk 4 (v := ?_) rfl (by kernel_rfl) (fun _ _ _ h => h) (by rfl) (by assumption) ?_ ?_
   rotate_left
   ·(intro w9 hS9; (try dsimp only at hS9); go_split_ands; go_simp; try with_reducible rfl)
   try simp only [Act.put, qgA, qgS, qg0, qsA, qs0, qsS]
   refine qtk 5 (v := ?_) rfl (by kernel_rfl) (fun _ _ _ h => h) (by rfl) (by assumption) ?_ ?_
   rotate_left
   ·(intro w9 hS9; (try dsimp only at hS9); go_split_ands; go_simp; try with_reducible rfl)
   try simp only [Act.put, qgA, qgS, qg0, qsA, qs0, qsS]
   refine qtk 6 (v := ?_) rfl (by kernel_rfl) (fun _ _ _ h => h) (by rfl) (by assumption) ?_ ?_
   rotate_left
   ·(intro w9 hS9; (try dsimp only at hS9); go_split_ands; go_simp; try with_reducible rfl)
   try simp only [Act.put, qgA, qgS, qg0, qsA, qs0, qsS]
   refine wpAnyH_ready (rs := [7]) (by kernel_rfl) (by simp) ?_
   refine AllReadyH.cons rfl (fun K hK => ?_) AllReadyH.nil
   refine step_copy_i rfl (.tmp 41) (.tmp 44) rfl w1.heap.size j (n - j) (n - j) ⟨w1.heap.size, 0, none⟩ j n rfl rfl cu HCU.out (List.replicate m (Value.int .i64 v)) m (List.length_replicate ..) HM.out HSRC.out (by rw [HCL2.out]; omega) (by intro u hu; rw [List.eq_of_mem_replicate hu]; rfl) ?_
   intro w5 hcu5 hf5
   refine hK.out _ _ ?_ (fun hHeld => ?_)
   ·trivial
   clear hK K
   try simp only [Act.put, qgA, qgS, qg0, qsA, qs0, qsS]
   refine qtk 8 (v := ?_) rfl (by kernel_rfl) (fun _ _ _ h => h) (by rfl) (by assumption) ?_ ?_
   rotate_left
   ·(intro w9 hS9; (try dsimp only at hS9); go_split_ands; go_simp; try with_reducible rfl)
   try simp only [Act.put, qgA, qgS, qg0, qsA, qs0, qsS]
   refine qtk 9 (v := ?_) rfl (by kernel_rfl) (fun _ _ _ h => h) (by rfl) (by assumption) ?_ ?_
   rotate_left
   ·(intro w9 hS9; (try dsimp only at hS9); go_split_ands; go_simp; try with_reducible rfl)
   try simp only [Act.put, qgA, qgS, qg0, qsA, qs0, qsS]
   refine wpAnyH_done (by kernel_rfl) ?_ _
   go_wp2_with fail
   go_roundg (n - (j + m))
   case rel => exact ⟨j + m, splice cu j (List.replicate m (Value.int .i64 v)), rfl, by omega, by omega, by go_num, hcu5, by rw [length_splice _ _ _ (by rw [List.length_replicate, HCL2.out]; omega), HCL2.out], splice_rep cu j m _ HREP.out, HF.out.drew.trans hf5 (by simp)⟩
   case measure => omega
  ·have hjn : j = n := by omega
   subst hjn
   have i6 : ¬ (j : Int) < (j : Int) := by omega
   go_wp2_with fail
   go_ret
   refine ⟨w1.heap.size, rfl, ⟨by simp [ints], .inr ⟨w1.heap.size, j, cu.toArray, rfl, Nat.le_refl _, HCU.out, Nat.le_refl _, by unfold maxLen; omega, by simp [HCL2.out], ?_⟩⟩, HF.out⟩
   simp only [Nat.mul_one]
   rw [HREP.out]
   simp [ints]

end Go.Proofs.YtikpcipkkhmcfaaGreat

/- Contracts of closeComponent and of graph.arcs. -/
namespace Go.Proofs.YtikpcipkkhmcfaaGreat
open Go.RowKit

/-- A list of numbers, one value put at each of the places l. -/
def setAll (out l : List Int) (v : Int) : List Int := l.foldl (fun o t => o.set t.toNat v) out
theorem setAll_len (out l : List Int) (v : Int) : (setAll out l v).length = out.length := by
 induction l generalizing out with
 | nil => rfl
 | cons a r ih => simp only [setAll, List.foldl_cons] at ih ⊢; rw [ih]; simp
theorem setAll_snoc (out l : List Int) (x v : Int) : setAll out (l ++ [x]) v = (setAll out l v).set x.toNat v := by
 simp [setAll]
theorem ints_set (xs : List Int) (i : Nat) (v : Int) : ints (xs.set i v) = (ints xs).set i (.int .i64 v) := by
 simp [ints, List.map_set]
theorem ints_get {xs : List Int} {i : Nat} {x : Int} (h : xs[i]? = some x) : (ints xs)[i]? = some (.int .i64 x) := by simp [ints, h]
theorem own_row {B : Nat} {w : World} {e g n cap : Nat} {xs : List Value} (h : w.ownsRow B e 1 (.slice (some ⟨g, 0, none⟩) n cap) n xs) : RowAt w g e xs := by
 rcases h.2 with ⟨h0, _⟩ | ⟨g', cp', cur, h0, hb, hg, h1, h2, h3, h4⟩
 ·cases h0
 ·obtain ⟨rfl, rfl⟩ : g = g' ∧ cap = cp' := by simpa using h0
  exact ⟨cur, hg, by have := h.1; rw [this]; exact h4⟩
theorem own_frm_out {B : Nat} {w w' : World} {e size g n cap : Nat} {xs : List Value} {fp : List Nat} (h : w.ownsRow B e size (.slice (some ⟨g, 0, none⟩) n cap) n xs) (hf : Frm fp w w') (hn : g ∉ fp) : w'.ownsRow B e size (.slice (some ⟨g, 0, none⟩) n cap) n xs :=
 ownsB_frm h hf (fun k hk hm => by simp only [Value.ownBlock, Option.some.injEq] at hk; subst hk; exact hn hm)

set_option maxRecDepth 100000 in
set_option maxHeartbeats 1000000 in
theorem close_any (B C g cap go n m p : Nat) (xs out : List Int) (s : Int) (w : World) (hop : w.ownsRow B 3 1 (.slice (some ⟨g, 0, none⟩) n cap) n (ints xs)) (hnx : xs.length = n) (hout : w.ownsRow C 3 1 (.slice (some ⟨go, 0, none⟩) m m) m (ints out)) (hgo : go ≠ g)
  (hp : xs[p]? = some s) (hlast : ∀ i : Nat, p < i → xs[i]? ≠ some s) (hin : ∀ (i : Nat) (x : Int), p ≤ i → xs[i]? = some x → 0 ≤ x ∧ x < (m : Int)) (hn : n ≤ 1000000) :
  Calls Tryz.prog 110 #[.slice (some ⟨g, 0, none⟩) n cap, .int .i64 s, .slice (some ⟨go, 0, none⟩) m m] w fun e w' => e = .returned (.slice (some ⟨g, 0, none⟩) p cap) ∧ w'.ownsRow C 3 1 (.slice (some ⟨go, 0, none⟩) m m) m (ints (setAll out (xs.drop p) (Lib.minOf (xs.drop p)))) ∧ Frm [go] w w' := by
 have hrow := own_row hop
 have hpn : p < n := by have := (List.getElem?_eq_some_iff.1 hp).1; omega
 have hcap : n ≤ cap ∧ cap ≤ maxLen := by
  have := (OwnI.rd (xs := xs) (a := some ⟨g, 0, none⟩) (cap := cap) (by rw [OwnI, hnx]; exact hop) (Nat.le_refl _))
  have h1 := this.le
  exact ⟨by omega, this.max⟩
 obtain ⟨hcap, hcm⟩ := hcap
 have hmm : m ≤ maxLen := by
  rcases hout.2 with ⟨h0, _⟩ | ⟨g', cp', cur, h0, hb, hg, h1, h2, h3, h4⟩
  ·cases h0
  ·obtain ⟨rfl, rfl⟩ : go = g' ∧ m = cp' := by simpa using h0
   exact h2
 unfold maxLen at hmm hcm
 have HX := Lib.hid hnx
 have HR := Lib.hid hrow
 have HP := Lib.hid hp
 have HL := Lib.hid hlast
 have HIN := Lib.hid hin
 have HO := Lib.hid hout
 have i0 : (n : Int) ≤ 1000000 := by omega
 have i1 : (p : Int) < (n : Int) := by omega
 clear hop hnx hout hrow hp hlast hin
 go_enter Tryz.func110, Tryz.ntmps110
 go_wp2_with fail
 go_loopg [7] n (fun q i wr => ∃ (k : Nat), q = k + 1 ∧ p ≤ k ∧ k < n ∧ i = .int .i64 (k : Int) ∧ wr = w)
 case atStart => exact ⟨n - 1, by omega, by omega, by omega, by rw [show ((n - 1 : Nat) : Int) = (n : Int) - 1 by omega], rfl⟩
 case round =>
  obtain ⟨k, rfl, hk1, hk2, rfl, rfl⟩ := hrel
  have i4 : (0 : Int) ≤ (k : Int) := by omega
  have i5 : (k : Int) < (n : Int) := by omega
  obtain ⟨x, hx⟩ : ∃ x, xs[k]? = some x := ⟨_, List.getElem?_eq_getElem (by rw [HX.out]; exact hk2)⟩
  have d1 := HR.out.cell (ints_get hx)
  by_cases hkp : k = p
  ·subst hkp
   have hxs : x = s := by have := HP.out; rw [hx] at this; simpa using this
   subst hxs
   have hkc : ¬ k = cap := by omega
   have hkc2 : ¬ cap = k := by omega
   have hmin := Tryz.slices_Min_int g k (n - k) (cap - k) (xs.drop k) wr (by omega) (by rw [List.length_drop, HX.out]; omega) (by omega) (fun j hj => by
    rw [List.length_drop, HX.out] at hj
    have : (xs.drop k).getD j 0 = xs[k + j]'(by rw [HX.out]; omega) := by
     rw [List.getD_eq_getElem?_getD, List.getElem?_drop, List.getElem?_eq_getElem (by rw [HX.out]; omega)]; rfl
    rw [this]
    exact HR.out.cell (ints_get (List.getElem?_eq_getElem (by rw [HX.out]; omega))))
   rw [List.take_of_length_le (by rw [List.length_drop, HX.out]; omega)] at hmin
   have HMIN := Lib.hid hmin
   clear hx hmin
   obtain ⟨L, hL⟩ : ∃ L, Lib.minOf (xs.drop k) = L := ⟨_, rfl⟩
   have HLL := Lib.hid hL
   clear hL
   go_wp2_with fail
   refine HMIN.out.mono ?_
   rintro e1 w1 ⟨rfl, rfl⟩
   rw [HLL.out]
   clear HMIN
   go_wp2_with fail
   go_loopg [30] (n - k) (fun q i wr => ∃ (j : Nat), q = n - k - j ∧ k + j ≤ n ∧ i = .int .i64 (j : Int) ∧ wr.ownsRow C 3 1 (.slice (some ⟨go, 0, none⟩) m m) m (ints (setAll out ((xs.drop k).take j) L)) ∧ Frm [go] w1 wr)
   case atStart => exact ⟨0, rfl, by omega, rfl, HO.out, Frm.refl _ _⟩
   case round =>
    obtain ⟨j, rfl, hj, rfl, hown, hF⟩ := hrel
    have HF := Lib.hid hF
    have HW := Lib.hid hown
    have i6 : (0 : Int) ≤ (j : Int) := by omega
    clear hF hown
    by_cases hlt : j < n - k
    ·have i7 : (j : Int) < (n : Int) - (k : Int) := by omega
     have i8 : (j : Int) < ((n - k : Nat) : Int) := by omega
     obtain ⟨y, hy⟩ : ∃ y, xs[k + j]? = some y := ⟨_, List.getElem?_eq_getElem (by rw [HX.out]; omega)⟩
     obtain ⟨hy0, hym⟩ := HIN.out (k + j) y (by omega) hy
     obtain ⟨t, rfl⟩ : ∃ t : Nat, y = (t : Int) := ⟨y.toNat, by omega⟩
     have e1 := HF.out.cell (HR.out.cell (ints_get hy)) (by simp; exact fun h => hgo h.symm)
     have e2 : wr.frozen? ⟨go, t, none⟩ = false := (own_row HW.out).frozen t
     obtain ⟨z, hz⟩ : ∃ z, (setAll out ((xs.drop k).take j) L)[t]? = some z := ⟨_, List.getElem?_eq_getElem (by
      have := HW.out.1
      rw [ints_len] at this
      omega)⟩
     have e3 := (own_row HW.out).cell (ints_get hz)
     have HY := Lib.hid hy
     clear hy hz
     go_wp2_with fail
     go_roundg (n - k - (j + 1))
     case rel =>
      refine ⟨j + 1, rfl, by omega, by go_num, ?_, HF.out.setCell (.inl (by simp)) _⟩
      have h9 : (xs.drop k).take (j + 1) = (xs.drop k).take j ++ [(t : Int)] := by
       rw [List.take_add_one, List.getElem?_drop, HY.out]; rfl
      rw [h9, setAll_snoc, ints_set, Int.toNat_natCast]
      exact ownsB_setCellG HW.out rfl t _
     case measure => omega
    ·have hjn : j = n - k := by omega
     subst hjn
     have i8 : ¬ ((n - k : Nat) : Int) < ((n - k : Nat) : Int) := by omega
     go_wp2_with fail
     go_ret
     refine ⟨rfl, ?_, HF.out⟩
     have := HW.out
     rw [List.take_of_length_le (by rw [List.length_drop, HX.out]; omega)] at this
     rw [HLL.out]
     exact this
  ·have hne : (x != s) = true := by
    rw [bne_iff_ne]
    rintro rfl
    exact HL.out k (by omega) hx
   have hpk : p < k := by omega
   have i6 : (1 : Int) ≤ (k : Int) := by omega
   clear hx hkp
   go_wp2_with fail
   go_roundg k
   case rel => exact ⟨k - 1, by omega, by omega, by omega, by rw [show ((k - 1 : Nat) : Int) = (k : Int) - 1 by omega], rfl⟩
   case measure => omega

end Go.Proofs.YtikpcipkkhmcfaaGreat

/- Contract of graph.arcs. -/
namespace Go.Proofs.YtikpcipkkhmcfaaGreat
open Go.RowKit

def isTau (a : Arc) : Bool := decide (a.1 = 0)
def sel (row : List Arc) (silent : Bool) : List Arc := if silent = true then row.takeWhile isTau else row
theorem RowR.take {B : Nat} {w : World} {a : Option Addr} {cap : Nat} {row : List Arc} (h : RowR B w a cap row) (k : Nat) : RowR B w a cap (row.take k) :=
 ⟨by have := h.1; have := List.length_take_le' k row; omega, h.2.1, by have := h.2.2.1; have := List.length_take_le' k row; omega, fun j e t hj => by
  rw [List.getElem?_take] at hj
  split at hj
  ·exact h.2.2.2 j e t hj
  ·cases hj⟩
theorem sel_take (row : List Arc) (silent : Bool) : ∃ k, sel row silent = row.take k := by
 unfold sel
 split
 ·exact ⟨_, (List.prefix_iff_eq_take.1 (List.takeWhile_prefix isTau))⟩
 ·exact ⟨row.length, by simp⟩
theorem sel_len (row : List Arc) (silent : Bool) : (sel row silent).length ≤ row.length := by
 obtain ⟨k, h⟩ := sel_take row silent
 rw [h, List.length_take]
 omega
theorem tw_go {row : List Arc} {i : Nat} (h : i ≤ (row.takeWhile isTau).length) {y : Arc} (hy : row[i]? = some y) : (y.1 = 0 → i + 1 ≤ (row.takeWhile isTau).length) ∧ (y.1 ≠ 0 → (row.takeWhile isTau).length = i) := by
 induction row generalizing i with
 | nil => simp at hy
 | cons a r ih =>
  cases i with
  | zero =>
   simp at hy
   subst hy
   constructor
   ·intro hl; simp [isTau, hl]
   ·intro hl; simp [isTau, hl]
  | succ i =>
   simp at hy
   by_cases ha : isTau a = true
   ·simp only [List.takeWhile_cons, ha, if_true, List.length_cons] at h ⊢
    have := ih (i := i) (by omega) hy
    constructor
    ·intro hl; have := this.1 hl; omega
    ·intro hl; have := this.2 hl; omega
   ·simp [ha] at h

def ArcsEnd (B : Nat) (w' : World) (row : List Arc) (e : Ending) : Prop := ∃ ra rc, e = .returned (.slice ra row.length rc) ∧ RowR B w' ra rc row

set_option maxRecDepth 100000 in
set_option maxHeartbeats 1000000 in
theorem arcs_any (B : Nat) (a : Option Addr) (cap : Nat) (l : Lts) (s : Nat) (row : List Arc) (silent : Bool) (w : World) (h : LAt B w a cap l) (hs : l[s]? = some row) :
  Calls Tryz.prog 108 #[.agg #[.slice a l.length cap], .int .i64 (s : Int), .bool silent] w fun e w' => ArcsEnd B w' (sel row silent) e ∧ Frm [] w w' := by
 have f0 : Frm [] w (w.alloc (.cells #[.slice a l.length cap] 25)) := (Frm.refl [] w).alloc _
 have hl := h.lt
 have h' := h.nil f0 rfl
 have hsl : s < l.length := (List.getElem?_eq_some_iff.1 hs).1
 obtain ⟨b, o, ra, rc, rfl, hb, hc, hrr⟩ := h'.cell s row hs
 have i1 : (s : Int) < (l.length : Int) := by omega
 have i2 : (0 : Int) ≤ (s : Int) := by omega
 have hrl := hrr.lt
 have hcap := hrr.1
 have hcm := hrr.2.1
 unfold maxLen at hcm
 have H := Lib.hid hrr
 clear h h' hs hrr
 cases silent with
 | false =>
  go_enter Tryz.func108, Tryz.ntmps108
  go_wp2_with fail
  go_ret
  exact ⟨⟨ra, rc, rfl, H.out⟩, f0⟩
 | true =>
  obtain ⟨R, hR⟩ : ∃ R, (row.takeWhile isTau).length = R := ⟨_, rfl⟩
  have HR : Hid (sel row true = row.take R) := Lib.hid (by rw [← hR]; exact List.prefix_iff_eq_take.1 (List.takeWhile_prefix isTau))
  have HRR := Lib.hid hR
  have hRl : R ≤ row.length := by rw [← hR]; exact (List.takeWhile_prefix isTau).length_le
  have hRlen : (row.take R).length = R := by rw [List.length_take]; omega
  have HRL := Lib.hid hRlen
  clear hR hRlen
  go_enter Tryz.func108, Tryz.ntmps108
  go_wp2_with fail
  go_loopg [8] row.length (fun q i wr => ∃ (k : Nat), q = row.length - k ∧ k ≤ R ∧ i = .int .i64 (k : Int) ∧ wr = w.alloc (.cells #[.slice (some ⟨b, o, none⟩) l.length cap] 25))
  case atStart => exact ⟨0, rfl, Nat.zero_le _, rfl, rfl⟩
  case round =>
   obtain ⟨k, rfl, hk, rfl, rfl⟩ := hrel
   have i4 : (0 : Int) ≤ (k : Int) := by omega
   have i7 : (k : Int) ≤ (row.length : Int) := by omega
   by_cases hlt : k < row.length
   ·have i5 : (k : Int) < (row.length : Int) := by omega
    obtain ⟨⟨e, t⟩, hy⟩ : ∃ y, row[k]? = some y := ⟨_, List.getElem?_eq_getElem hlt⟩
    obtain ⟨g1, o1, rfl, _, d1, d2⟩ := H.out.2.2.2 k e t hy
    have hgo := tw_go (i := k) (by rw [HRR.out]; exact hk) hy
    rw [HRR.out] at hgo
    clear hy
    by_cases he : e = 0
    ·have h3 := hgo.1 he
     subst he
     clear hgo
     go_wp2_with fail
     go_roundg (row.length - (k + 1))
     case rel => exact ⟨k + 1, rfl, h3, by go_num, rfl⟩
     case measure => omega
    ·have h3 := hgo.2 he
     subst h3
     have he2 : (e == 0) = false := by simpa using he
     clear hgo he
     go_wp2_with fail
     go_ret
     exact ⟨⟨some ⟨g1, o1, none⟩, rc, by rw [HR.out, HRL.out]; rfl, by rw [HR.out]; exact H.out.take _⟩, f0⟩
   ·have hkr : k = R := by omega
    subst hkr
    have i5 : ¬ (k : Int) < (row.length : Int) := by omega
    cases ra with
    | none =>
     go_wp2_with fail
     go_ret
     exact ⟨⟨none, rc, by rw [HR.out, HRL.out]; rfl, by rw [HR.out]; exact H.out.take _⟩, f0⟩
    | some ra =>
     go_wp2_with fail
     go_ret
     exact ⟨⟨some ra, rc, by rw [HR.out, HRL.out]; rfl, by rw [HR.out]; exact H.out.take _⟩, f0⟩

end Go.Proofs.YtikpcipkkhmcfaaGreat
