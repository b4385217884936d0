/- Contract of strong.signature. (Printed by wip/tools/u5.py.) -/
import Derived.Test.YtdknbgejhhoaiaaGreatQ25
import Derived.Test.YtdknbgejhhoaiaaGreatQ28
namespace Go.Proofs.YtdknbgejhhoaiaaGreat.Ind
open Go.Shelf Go.RowKit Go.Lib Go.Sort Go.Proofs.YtdknbgejhhoaiaaGreat.Beh

/-- The marks of a row. -/
def mkL (cls : List Int) (row : List Ar) : List Ar := row.map fun a => (a.1, cls[a.2.toNat]?.getD 0)
def sigB (cls : List Int) (row : List Ar) : List Ar := setG ltAr (mkL cls row)
theorem mkL_snoc {cls : List Int} {row : List Ar} {k : Nat} {x : Ar} (h : row[k]? = some x) : mkL cls (row.take (k + 1)) = mkL cls (row.take k) ++ [(x.1, cls[x.2.toNat]?.getD 0)] := by
  rw [take_snoc h]; simp [mkL]
theorem mkL_len (cls : List Int) (row : List Ar) : (mkL cls row).length = row.length := by simp [mkL]
theorem compG_last {α : Type} [DecidableEq α] : ∀ (l : List α), (compG l).getLast? = l.getLast?
  | [] => rfl
  | [_] => rfl
  | a :: b :: r => by
    have ih := compG_last (b :: r)
    rw [compG]
    split
    · rw [ih, List.getLast?_cons_cons]
    · rw [List.getLast?_cons_cons, ← ih]
      cases hc : compG (b :: r) with
      | nil =>
        rw [hc] at ih
        exact absurd ih.symm (by simp)
      | cons x y => rw [List.getLast?_cons_cons]
def SigEnd (w : World) (cls : List Int) (row : List Ar) (e : Ending) (w' : World) : Prop :=
  (∃ v, e = .returned v ∧ RowV w' [] v (sigB cls row).length 2 ((sigB cls row).flatMap arE)) ∧ Frm [] w w'

set_option linter.unusedSimpArgs false in
set_option maxRecDepth 100000 in
set_option maxHeartbeats 8000000 in
theorem signature_any (w : World) (rv cv : Value) (row : List Ar) (cls : List Int) (hr : RowV w [] rv row.length 2 (row.flatMap arE)) (hc : RowV w [] cv cls.length 1 (ints cls)) (hin : ∀ a ∈ row, 0 ≤ a.2 ∧ a.2 < cls.length) (hl : row.length ≤ 1000000) :
    Calls Tryz.prog 94 #[rv, cv] w (SigEnd w cls row) := by
  obtain ⟨ra, rc, rfl⟩ := RowV.shape hr
  obtain ⟨ca, cc, rfl⟩ := RowV.shape hc
  have hgd := guardMk
  have hlr : (row.length : Int) ≤ (rc : Int) := by
    obtain ⟨_, a', c', e, h2, _⟩ := hr
    cases e
    omega
  have hcl := hc.rd.lt
  have HR := Lib.hid hr
  have HC := Lib.hid hc
  have HIN := Lib.hid hin
  clear hr hc hin
  go_enter Tryz.func94, Tryz.ntmps94
  go_wp2_with fail
  have S0 := Lib.hid ((Sep.start w).add (ownC 147 2 (.slice none 0 0) 0 []) (Frm.refl [] w) (ownC_nil _ _ _) (by simp [ownC, Value.ownBlock]))
  go_loopg [5, 13] row.length (fun q t5 t13 wr => ∃ (k : Nat) (ma : Option Addr) (mc : Nat), q = row.length - k ∧ k ≤ row.length ∧ t13 = .int .i64 k ∧ t5 = .slice ma k mc ∧ Sep w wr [ownC 147 2 (.slice ma k mc) k ((mkL cls (row.take k)).flatMap arE)])
  case atStart => exact ⟨0, none, 0, rfl, Nat.zero_le _, rfl, rfl, S0.out⟩
  case round =>
    clear S0
    obtain ⟨k, ma, mc, hq, hk, rfl, rfl, hs⟩ := hrel
    have HQ := Lib.hid hq
    have S := Lib.hid hs
    have i4 : (0 : Int) ≤ (k : Int) := by omega
    clear hq hs
    by_cases hlt : k < row.length
    · have i5 : (k : Int) < (row.length : Int) := by omega
      obtain ⟨⟨ev, t⟩, hx⟩ : ∃ x, row[k]? = some x := ⟨_, List.getElem?_eq_getElem hlt⟩
      obtain ⟨t0, t1⟩ := HIN.out _ (List.mem_of_getElem? hx)
      simp only at t0 t1
      obtain ⟨tt, rfl⟩ : ∃ tt : Nat, t = tt := ⟨t.toNat, by omega⟩
      obtain ⟨_, a', c', e', _, _, _, hcell⟩ := HR.out
      obtain ⟨rfl, rfl⟩ : ra = a' ∧ rc = c' := by simpa using e'
      have g0 := flatMap_get (enc := arE) (k := 2) (fun _ => rfl) hx 0 (by decide)
      have g1 := flatMap_get (enc := arE) (k := 2) (fun _ => rfl) hx 1 (by decide)
      obtain ⟨b, o, rfl, _, hbl, hc0⟩ := hcell (k * 2) (.int .i64 ev) (by rw [Nat.add_zero] at g0; rw [g0]; rfl)
      obtain ⟨b', o', e2, _, _, hc1⟩ := hcell (k * 2 + 1) (.int .i64 tt) (by rw [g1]; rfl)
      obtain ⟨rfl, rfl⟩ : b = b' ∧ o = o' := by simpa using e2
      rw [← Nat.add_assoc] at hc1
      have c0 := S.out.frm.cell hc0 (by simp)
      have c1 := S.out.frm.cell hc1 (by simp)
      obtain ⟨cv, hcv⟩ : ∃ v, cls[tt]? = some v := ⟨_, List.getElem?_eq_getElem (by omega)⟩
      obtain ⟨_, a9, c9, e9, _, _, _, hcell2⟩ := HC.out
      obtain ⟨rfl, rfl⟩ : ca = a9 ∧ cc = c9 := by simpa using e9
      obtain ⟨cb, co, rfl, _, hcb, hc2⟩ := hcell2 tt (.int .i64 cv) (by simp [ints, hcv])
      have HC2 := Lib.hid (S.out.frm.cell hc2 (by simp))
      have HX := Lib.hid hx
      have HCV := Lib.hid hcv
      clear hcell hcell2 hc0 hc1 hc2 e' e2 e9 hx g0 g1 hcv
      go_wp2_with fail
      obtain ⟨W, hW⟩ : ∃ W, W = wr.alloc (.cells #[.int .i64 ev, .int .i64 tt] 55) := ⟨_, rfl⟩
      have S3 : Hid (Sep w W [boxC wr.heap.size 55 [.int .i64 ev, .int .i64 tt], ownC 147 2 (.slice ma k mc) k ((mkL cls (row.take k)).flatMap arE)]) := Lib.hid (by
        rw [hW]
        exact S.out.add (boxC wr.heap.size 55 [.int .i64 ev, .int .i64 tt]) ((Frm.refl [] wr).alloc _) (RowAt.made wr _ _ _ rfl) (by simp [boxC]))
      have HC3 : Hid (W.cell? ⟨cb, co + tt, none⟩ = some (.int .i64 cv)) := Lib.hid (by rw [hW]; exact ((Frm.refl [] wr).alloc _).cell HC2.out (by simp))
      rw [← hW]
      generalize wr.heap.size = xb at *
      clear hW S HC2 c0 c1
      have KEEP : Hid (∀ (fp : List Nat) (w' : World), Frm fp W w' → (∀ z ∈ fp, z ∈ (Value.slice ma k mc).ownBlock.toList) → w'.cell? ⟨xb, 0, none⟩ = some (.int .i64 ev) ∧ w'.cell? ⟨xb, 1, none⟩ = some (.int .i64 tt) ∧ w'.cell? ⟨cb, co + tt, none⟩ = some (.int .i64 cv)) := Lib.hid fun fp w' hf hz => by
        have hx := (show RowAt W xb 55 [.int .i64 ev, .int .i64 tt] from S3.out.at_ 0 rfl).frm hf (fun hm => S3.out.ne 0 1 rfl rfl (by omega) (k := xb) (by simp [boxC]) (hz _ hm) rfl)
        exact ⟨hx.cell (i := 0) rfl, hx.cell (i := 1) rfl, hf.cell HC3.out (fun hm => by have h7 := S3.out.le 1 rfl (hz _ hm); simp at h7; omega)⟩
      have HD : Hid (Frm [] W W.drew) := Lib.hid (Frm.refl [] W).drew
      refine wp_region_held_drew (S := fun w' => w'.cell? ⟨xb, 0, none⟩ = some (.int .i64 ev) ∧ w'.cell? ⟨xb, 1, none⟩ = some (.int .i64 tt) ∧ w'.cell? ⟨cb, co + tt, none⟩ = some (.int .i64 cv)) (by kernel_rfl) (KEEP.out [] _ HD.out (by simp)) ?_
      intro hHeld
      refine wpAnyH_take (i := 0) (v := ?_) rfl (by kernel_rfl) (by kernel_rfl) (by kernel_rfl) (fun _ _ _ h => h) (Or.inl ⟨by rfl, ?_⟩) (by assumption) ?_
      rotate_left
      · intro w9 hS9
        try dsimp only at hS9
        go_split_ands
        go_simp
        try with_reducible rfl
      try simp only [Act.put, List.getElem_toArray, List.getElem_cons_succ, List.getElem_cons_zero, List.setIfInBounds_toArray, List.set_cons_zero, List.set_cons_succ]
      refine wpAnyH_take (i := 1) (v := ?_) rfl (by kernel_rfl) (by kernel_rfl) (by kernel_rfl) (fun _ _ _ h => h) (Or.inl ⟨by rfl, ?_⟩) (by assumption) ?_
      rotate_left
      · intro w9 hS9
        try dsimp only at hS9
        go_split_ands
        go_simp
        try with_reducible rfl
      try simp only [Act.put, List.getElem_toArray, List.getElem_cons_succ, List.getElem_cons_zero, List.setIfInBounds_toArray, List.set_cons_zero, List.set_cons_succ]
      refine wpAnyH_take (i := 2) (v := ?_) rfl (by kernel_rfl) (by kernel_rfl) (by kernel_rfl) (fun _ _ _ h => h) (Or.inl ⟨by rfl, ?_⟩) (by assumption) ?_
      rotate_left
      · intro w9 hS9
        try dsimp only at hS9
        go_split_ands
        go_simp
        try with_reducible rfl
      try simp only [Act.put, List.getElem_toArray, List.getElem_cons_succ, List.getElem_cons_zero, List.setIfInBounds_toArray, List.set_cons_zero, List.set_cons_succ]
      refine wpAnyH_take (i := 3) (v := ?_) rfl (by kernel_rfl) (by kernel_rfl) (by kernel_rfl) (fun _ _ _ h => h) (Or.inl ⟨by rfl, ?_⟩) (by assumption) ?_
      rotate_left
      · intro w9 hS9
        try dsimp only at hS9
        go_split_ands
        go_simp
        try with_reducible rfl
      try simp only [Act.put, List.getElem_toArray, List.getElem_cons_succ, List.getElem_cons_zero, List.setIfInBounds_toArray, List.set_cons_zero, List.set_cons_succ]
      refine wpAnyH_take (i := 4) (v := ?_) rfl (by kernel_rfl) (by kernel_rfl) (by kernel_rfl) (fun _ _ _ h => h) (Or.inl ⟨by rfl, ?_⟩) (by assumption) ?_
      rotate_left
      · intro w9 hS9
        try dsimp only at hS9
        go_split_ands
        go_simp
        try with_reducible rfl
      try simp only [Act.put, List.getElem_toArray, List.getElem_cons_succ, List.getElem_cons_zero, List.setIfInBounds_toArray, List.set_cons_zero, List.set_cons_succ]
      refine wpAnyH_take (i := 5) (v := ?_) rfl (by kernel_rfl) (by kernel_rfl) (by kernel_rfl) (fun _ _ _ h => h) (Or.inl ⟨by rfl, ?_⟩) (by assumption) ?_
      rotate_left
      · intro w9 hS9
        try dsimp only at hS9
        go_split_ands
        go_simp
        try with_reducible rfl
      try simp only [Act.put, List.getElem_toArray, List.getElem_cons_succ, List.getElem_cons_zero, List.setIfInBounds_toArray, List.set_cons_zero, List.set_cons_succ]
      refine wpAnyH_take (i := 6) (v := ?_) rfl (by kernel_rfl) (by kernel_rfl) (by kernel_rfl) (fun _ _ _ h => h) (Or.inl ⟨by rfl, ?_⟩) (by assumption) ?_
      rotate_left
      · intro w9 hS9
        try dsimp only at hS9
        go_split_ands
        go_simp
        try with_reducible rfl
      try simp only [Act.put, List.getElem_toArray, List.getElem_cons_succ, List.getElem_cons_zero, List.setIfInBounds_toArray, List.set_cons_zero, List.set_cons_succ]
      refine wpAnyH_take (i := 7) (v := ?_) rfl (by kernel_rfl) (by kernel_rfl) (by kernel_rfl) (fun _ _ _ h => h) (Or.inl ⟨by rfl, ?_⟩) (by assumption) ?_
      rotate_left
      · intro w9 hS9
        try dsimp only at hS9
        go_split_ands
        go_simp
        try with_reducible rfl
      try simp only [Act.put, List.getElem_toArray, List.getElem_cons_succ, List.getElem_cons_zero, List.setIfInBounds_toArray, List.set_cons_zero, List.set_cons_succ]
      refine wpAnyH_take (i := 8) (v := ?_) rfl (by kernel_rfl) (by kernel_rfl) (by kernel_rfl) (fun _ _ _ h => h) (Or.inl ⟨by rfl, ?_⟩) (by assumption) ?_
      rotate_left
      · intro w9 hS9
        try dsimp only at hS9
        go_split_ands
        go_simp
        try with_reducible rfl
      try simp only [Act.put, List.getElem_toArray, List.getElem_cons_succ, List.getElem_cons_zero, List.setIfInBounds_toArray, List.set_cons_zero, List.set_cons_succ]
      refine wpAnyH_ready (rs := [9]) (by kernel_rfl) (by simp) ?_
      refine AllReadyH.cons rfl (fun K hK => ?_) AllReadyH.nil
      go_simp
      have F9 : Frm [] W (W.drew.alloc (.cells #[.int .i64 ev, .int .i64 cv] 147)) := (Frm.refl [] W).drew.alloc _
      have hr9 := RowAt.made W.drew 147 [.int .i64 ev, .int .i64 cv] #[.int .i64 ev, .int .i64 cv] rfl
      refine hK.out _ _ ?_ (fun hHeld => ?_)
      · exact KEEP.out [] _ F9 (by simp)
      clear hK K
      try simp only [Act.put, List.getElem_toArray, List.getElem_cons_succ, List.getElem_cons_zero, List.setIfInBounds_toArray, List.set_cons_zero, List.set_cons_succ]
      refine wpAnyH_ready (rs := [10]) (by kernel_rfl) (by simp) ?_
      refine AllReadyH.cons rfl (fun K hK => ?_) AllReadyH.nil
      refine step_app_rowL rfl (.tmp 17) (.tmp 26) 130 147 _ 2 16 rfl Tryz.underlying130 infoMk rfl (by decide) (by decide) 0 k _ ((mkL cls (row.take k)).flatMap arE) rfl ((S3.out.nil F9).at_ 1 rfl) _ 1 [.int .i64 ev, .int .i64 cv] [] rfl (rowV_cells (size := 2) hr9 rfl (Nat.le_refl _) (by decide) (by simp)) (by simp [Value.oneCell']) (k + 1) rfl (by omega) (Nat.zero_le _) ?_
      intro a7 c7 w7 own7 hf7 hloc7
      have F7 : Frm (Value.slice ma k mc).ownBlock.toList W w7 := (F9.mono (by simp)).trans hf7 (fun x hx => .inl hx)
      refine hK.out _ _ ?_ (fun hHeld => ?_)
      · exact KEEP.out _ _ F7 (fun z hz => hz)
      clear hK K
      try simp only [Act.put, List.getElem_toArray, List.getElem_cons_succ, List.getElem_cons_zero, List.setIfInBounds_toArray, List.set_cons_zero, List.set_cons_succ]
      refine wpAnyH_take (i := 11) (v := ?_) rfl (by kernel_rfl) (by kernel_rfl) (by kernel_rfl) (fun _ _ _ h => h) (Or.inl ⟨by rfl, ?_⟩) (by assumption) ?_
      rotate_left
      · intro w9 hS9
        try dsimp only at hS9
        go_split_ands
        go_simp
        try with_reducible rfl
      try simp only [Act.put, List.getElem_toArray, List.getElem_cons_succ, List.getElem_cons_zero, List.setIfInBounds_toArray, List.set_cons_zero, List.set_cons_succ]
      refine wpAnyH_done (by kernel_rfl) ?_ _
      have S7 := Lib.hid ((S3.out.nil F9).step 1 (ownC 147 2 (.slice a7 (k + 1) c7) (k + 1) ((mkL cls (row.take (k + 1))).flatMap arE)) rfl hf7 (fun z hz => .inl hz) (by
        rw [mkL_snoc HX.out, List.flatMap_append]
        have h9 := own7
        simp only [Int.toNat_natCast, HCV.out, Option.getD_some]
        exact h9) (fresh_own hloc7)).tail
      clear hf7 hloc7 F7 F9 hr9 own7 hHeld KEEP HD S3 HC3
      go_wp2_with fail
      go_roundg (row.length - (k + 1))
      case rel => exact ⟨k + 1, a7, c7, rfl, by omega, by go_num, rfl, S7.out⟩
      case measure => have := HQ.out; omega
    · have i5 : ¬ (k : Int) < (row.length : Int) := by omega
      have hkl : k = row.length := by omega
      have hsS := S.out
      rw [show row.take k = row by rw [hkl, List.take_length]] at hsS
      have S8 := Lib.hid hsS
      have hml := mkL_len cls row
      have hsr := sortMk_any 0 ma mc k (mkL cls row) wr (S8.out.at_ 0 rfl) (by rw [hml, hkl]) (by omega)
      obtain ⟨ss, hss⟩ : ∃ ss, ss = (mkL cls row).mergeSort fun x y => !ltOf cmpAr y x := ⟨_, rfl⟩
      rw [← hss] at hsr
      have hsl : ss.length = k := by rw [hss, List.length_mergeSort, hml, hkl]
      have hcg : compG ss = sigB cls row := by
        rw [hss]
        exact comp_set sto_Ar (fun x => (List.mergeSort_perm _ _).mem_iff) ((pw_merge sto_ar _).imp fun {a b} hab => by rw [cmpAr_lt] at hab; exact hab)
      have HSR := Lib.hid hsr
      have HSL := Lib.hid hsl
      have HCG := Lib.hid hcg
      clear hsS S hml hss hsr hsl hcg hkl
      go_wp2_with (first
        | (go_at_call 109; refine HSR.out.mono ?_; rintro e9 w9 ⟨⟨rfl, own9⟩, hf9⟩; have S9 := Lib.hid (S8.out.step 0 (ownC 147 2 (.slice ma k mc) k (ss.flatMap arE)) rfl hf9 (fun z hz => .inl hz) own9 (fun z hz => .inl hz)); clear own9 hf9)
        | fail)
      have hcapm : (k : Int) ≤ (mc : Int) ∧ (mc : Int) ≤ 9223372036854775807 := by
        rcases (show w9.ownsRow 0 147 2 (.slice ma k mc) k (ss.flatMap arE) from S9.out.at_ 0 rfl).2 with ⟨h1, h2⟩ | ⟨g1, cp1, cur1, h1, _, _, h3, h4, _⟩
        · cases h1; constructor <;> omega
        · cases h1
          unfold maxLen at h4
          constructor <;> omega
      obtain ⟨hcm1, hcm2⟩ := hcapm
      obtain ⟨V, hV⟩ : ∃ V, V = w9 := ⟨w9, rfl⟩
      rw [← hV] at S9 ⊢
      clear hV S8 HSR
      go_loopg [8, 33] k (fun q t8 t33 wr => ∃ (i n : Nat) (cur : List Ar), q = k - i ∧ i ≤ k ∧ n ≤ i ∧ (0 < i → 0 < n) ∧ t33 = .int .i64 i ∧ t8 = .int .i64 n ∧ cur.length = k ∧ cur.take n = compG (ss.take i) ∧ (∀ j, i ≤ j → cur[j]? = ss[j]?) ∧ Sep w wr [ownC 147 2 (.slice ma k mc) k (cur.flatMap arE)])
      case atStart => exact ⟨0, 0, ss, rfl, Nat.zero_le _, Nat.le_refl _, fun h => h, rfl, rfl, HSL.out, rfl, fun _ _ => rfl, S9.out⟩
      case round =>
        clear S9
        obtain ⟨i, n, cur, hq, hi, hni, hn0, rfl, rfl, hcl, hct, hcx, hs⟩ := hrel
        have HQ2 := Lib.hid hq
        have S := Lib.hid hs
        have HCL := Lib.hid hcl
        have HCT := Lib.hid hct
        have HCX := Lib.hid hcx
        have HNI := Lib.hid hni
        have HN0 := Lib.hid hn0
        have i7 : (0 : Int) ≤ (i : Int) := by omega
        have i8 : (0 : Int) ≤ (n : Int) := by omega
        clear hq hs hcl hct hcx hn0
        by_cases hik : i < k
        · have i9 : (i : Int) < (k : Int) := by omega
          have i10 : (n : Int) < (k : Int) := by omega
          obtain ⟨⟨x, y⟩, hx⟩ : ∃ x, ss[i]? = some x := ⟨_, List.getElem?_eq_getElem (by rw [HSL.out]; exact hik)⟩
          obtain ⟨g, mc', e0, _, _⟩ := ownC_some (S.out.at_ 0 rfl) (by omega)
          obtain ⟨rfl, rfl⟩ : ma = some ⟨g, 0, none⟩ ∧ mc = mc' := by simpa using e0
          have hxc : cur[i]? = some (x, y) := by rw [HCX.out i (Nat.le_refl _)]; exact hx
          have g0 := flatMap_get (enc := arE) (k := 2) (fun _ => rfl) hxc 0 (by decide)
          have g1 := flatMap_get (enc := arE) (k := 2) (fun _ => rfl) hxc 1 (by decide)
          have c0 : wr.cell? ⟨g, i * 2, none⟩ = some (.int .i64 x) := ownC_cell (S.out.at_ 0 rfl) (by rw [Nat.add_zero] at g0; rw [g0]; rfl)
          have c1 : wr.cell? ⟨g, i * 2 + 1, none⟩ = some (.int .i64 y) := ownC_cell (S.out.at_ 0 rfl) (by rw [g1]; rfl)
          have lg : g < wr.heap.size := S.out.lt 0 rfl (by simp [ownC, Value.ownBlock])
          have hsn := compG_snoc (ss.take i) (x, y)
          rw [← take_snoc hx] at hsn
          have HSN := Lib.hid hsn
          have hwrx : Hid (∀ V, V = wr.alloc (.cells #[.int .i64 x, .int .i64 y] 147) → Sep w V [boxC wr.heap.size 147 [.int .i64 x, .int .i64 y], ownC 147 2 (.slice (some ⟨g, 0, none⟩) k mc) k (cur.flatMap arE)]) := Lib.hid fun V hV => by
            rw [hV]
            exact S.out.add (boxC wr.heap.size 147 [.int .i64 x, .int .i64 y]) ((Frm.refl [] wr).alloc _) (RowAt.made wr _ _ _ rfl) (by simp [boxC])
          clear e0 g0 g1 hsn hxc
          by_cases hi0 : i = 0
          · subst hi0
            obtain rfl : n = 0 := by omega
            have HG : Hid (compG (ss.take 1) = [(x, y)]) := Lib.hid (by
              have := HSN.out
              simpa [compG] using this)
            go_wp2_with fail
            go_quiet (fail)
            obtain ⟨W, hW⟩ : ∃ W, W = (wr.alloc (.cells #[.int .i64 x, .int .i64 y] 147)).drewN nq := ⟨_, rfl⟩
            have S3 := Lib.hid ((hwrx.out _ rfl).nil ((Frm.refl [] _).drewN nq))
            rw [← hW] at S3 ⊢
            generalize wr.heap.size = xb at *
            have bx := (show RowAt W xb 147 [.int .i64 x, .int .i64 y] from S3.out.at_ 0 rfl)
            have d0 := bx.cell (i := 0) rfl
            have d1 := bx.cell (i := 1) rfl
            have lbx := bx.lt
            obtain ⟨⟨zx, zy⟩, hz⟩ : ∃ z, cur[0]? = some z := ⟨_, List.getElem?_eq_getElem (by rw [HCL.out]; omega)⟩
            have f0 := flatMap_get (enc := arE) (k := 2) (fun _ => rfl) hz 0 (by decide)
            have f1 := flatMap_get (enc := arE) (k := 2) (fun _ => rfl) hz 1 (by decide)
            have b0 : W.cell? ⟨g, 0 * 2, none⟩ = some (.int .i64 zx) := ownC_cell (S3.out.at_ 1 rfl) (by rw [Nat.add_zero] at f0; rw [f0]; rfl)
            have b1' : W.cell? ⟨g, 0 * 2 + 1, none⟩ = some (.int .i64 zy) := ownC_cell (S3.out.at_ 1 rfl) (by rw [f1]; rfl)
            have q0 : W.frozen? ⟨g, 0 * 2, none⟩ = false := ownC_frozen (S3.out.at_ 1 rfl) _
            have q1 : W.frozen? ⟨g, 0 * 2 + 1, none⟩ = false := ownC_frozen (S3.out.at_ 1 rfl) _
            have hnk : 0 < cur.length := by rw [HCL.out]; omega
            have S4 := Lib.hid ((S3.out.step 1 (ownC 147 2 (.slice (some ⟨g, 0, none⟩) k mc) k ((cur.set 0 (x, y)).flatMap arE)) rfl (frm_setCells (g := g) (arE (x, y)) (0 * 2) W) (fun z hz => .inl (by rw [List.mem_singleton.1 hz]; simp [ownC, Value.ownBlock])) (by rw [setA2 cur 0 (x, y) hnk]; exact owns_setCells (v := .slice (some ⟨g, 0, none⟩) k mc) rfl (arE (x, y)) (0 * 2) W _ (S3.out.at_ 1 rfl)) (fun z hz => .inl hz)).tail)
            clear hW S hz f0 f1 c0 c1
            go_wp2_with fail
            go_roundg (k - (0 + 1))
            case rel =>
              refine ⟨0 + 1, 0 + 1, cur.set 0 (x, y), rfl, by omega, by omega, fun _ => by omega, by go_num, by go_num, by rw [List.length_set]; exact HCL.out, ?_, fun j hj => ?_, S4.out⟩
              · rw [take_set_snoc hnk, HCT.out]
                exact (HG.out.trans (by simp [compG])).symm
              · rw [List.getElem?_set_ne (by omega)]
                exact HCX.out j (by omega)
            case measure => have := HQ2.out; omega
          · obtain ⟨i', hi'⟩ : ∃ i', i = i' + 1 := ⟨i - 1, by omega⟩
            obtain ⟨n', hn'⟩ : ∃ n', n = n' + 1 := ⟨n - 1, by have := HN0.out (by omega); omega⟩
            obtain ⟨⟨px, py⟩, hp⟩ : ∃ z, cur[n']? = some z := ⟨_, List.getElem?_eq_getElem (by rw [HCL.out]; omega)⟩
            have hlast : (ss.take i).getLast? = some (px, py) := by
              rw [← compG_last, ← HCT.out, hn']
              exact take_last hp
            have p0' := flatMap_get (enc := arE) (k := 2) (fun _ => rfl) hp 0 (by decide)
            have p1' := flatMap_get (enc := arE) (k := 2) (fun _ => rfl) hp 1 (by decide)
            have e0 : wr.cell? ⟨g, n' * 2, none⟩ = some (.int .i64 px) := ownC_cell (S.out.at_ 0 rfl) (by rw [Nat.add_zero] at p0'; rw [p0']; rfl)
            have e1 : wr.cell? ⟨g, n' * 2 + 1, none⟩ = some (.int .i64 py) := ownC_cell (S.out.at_ 0 rfl) (by rw [p1']; rfl)
            have b1 : ((i : Int) == 0) = false := by simp; omega
            have i3 : IntKind.i64.wrap ((n : Int) - 1) = (n' : Int) := by rw [IntWalk.i64_in _ (by omega)]; omega
            have i2 : (0 : Int) ≤ (n' : Int) := by omega
            have i1 : (n' : Int) < (k : Int) := by omega
            have heq := fun W => eqMk W (x, y) (px, py)
            have hsn := HSN.out
            rw [hlast] at hsn
            have HHI := Lib.hid hi'
            have HHN := Lib.hid hn'
            clear hp p0' p1' hlast hi' hn'
            by_cases hxy : (x, y) = (px, py)
            · rw [decide_eq_true hxy] at heq
              rw [if_pos (by rw [hxy])] at hsn
              have HSN2 := Lib.hid hsn
              clear hsn
              unfold arE at heq
              simp only at heq
              clear hxy
              go_wp2_with fail
              go_quiet (fail)
              have S4 := Lib.hid ((hwrx.out _ rfl).nil ((Frm.refl [] _).drewN nq)).tail
              go_wp2_with fail
              go_roundg (k - (i + 1))
              case rel =>
                refine ⟨i + 1, n, cur, rfl, by omega, by omega, fun _ => by have := HHN.out; omega, by go_num, rfl, HCL.out, ?_, fun j hj => HCX.out j (by omega), S4.out⟩
                rw [HCT.out]
                exact HSN2.out.symm
              case measure => have := HQ2.out; omega
            · rw [decide_eq_false hxy] at heq
              rw [if_neg (fun h => hxy (Option.some.inj h).symm)] at hsn
              have HSN2 := Lib.hid hsn
              clear hsn
              unfold arE at heq
              simp only at heq
              clear hxy
              go_wp2_with fail
              go_quiet (fail)
              clear heq e0 e1
              obtain ⟨W, hW⟩ : ∃ W, W = (wr.alloc (.cells #[.int .i64 x, .int .i64 y] 147)).drewN nq := ⟨_, rfl⟩
              have S3 := Lib.hid ((hwrx.out _ rfl).nil ((Frm.refl [] _).drewN nq))
              rw [← hW] at S3 ⊢
              generalize wr.heap.size = xb at *
              have bx := (show RowAt W xb 147 [.int .i64 x, .int .i64 y] from S3.out.at_ 0 rfl)
              have d0 := bx.cell (i := 0) rfl
              have d1 := bx.cell (i := 1) rfl
              have lbx := bx.lt
              obtain ⟨⟨zx, zy⟩, hz⟩ : ∃ z, cur[n]? = some z := ⟨_, List.getElem?_eq_getElem (by rw [HCL.out]; omega)⟩
              have f0 := flatMap_get (enc := arE) (k := 2) (fun _ => rfl) hz 0 (by decide)
              have f1 := flatMap_get (enc := arE) (k := 2) (fun _ => rfl) hz 1 (by decide)
              have b0 : W.cell? ⟨g, n * 2, none⟩ = some (.int .i64 zx) := ownC_cell (S3.out.at_ 1 rfl) (by rw [Nat.add_zero] at f0; rw [f0]; rfl)
              have b1' : W.cell? ⟨g, n * 2 + 1, none⟩ = some (.int .i64 zy) := ownC_cell (S3.out.at_ 1 rfl) (by rw [f1]; rfl)
              have q0 : W.frozen? ⟨g, n * 2, none⟩ = false := ownC_frozen (S3.out.at_ 1 rfl) _
              have q1 : W.frozen? ⟨g, n * 2 + 1, none⟩ = false := ownC_frozen (S3.out.at_ 1 rfl) _
              have hnk : n < cur.length := by rw [HCL.out]; omega
              have S4 := Lib.hid ((S3.out.step 1 (ownC 147 2 (.slice (some ⟨g, 0, none⟩) k mc) k ((cur.set n (x, y)).flatMap arE)) rfl (frm_setCells (g := g) (arE (x, y)) (n * 2) W) (fun z hz => .inl (by rw [List.mem_singleton.1 hz]; simp [ownC, Value.ownBlock])) (by rw [setA2 cur n (x, y) hnk]; exact owns_setCells (v := .slice (some ⟨g, 0, none⟩) k mc) rfl (arE (x, y)) (n * 2) W _ (S3.out.at_ 1 rfl)) (fun z hz => .inl hz)).tail)
              clear hW S hz f0 f1 c0 c1
              go_wp2_with fail
              go_roundg (k - (i + 1))
              case rel =>
                refine ⟨i + 1, n + 1, cur.set n (x, y), rfl, by omega, by omega, fun _ => by omega, by go_num, by go_num, by rw [List.length_set]; exact HCL.out, ?_, fun j hj => ?_, S4.out⟩
                · rw [take_set_snoc hnk, HCT.out]
                  exact (HSN2.out).symm
                · rw [List.getElem?_set_ne (by omega)]
                  exact HCX.out j (by omega)
              case measure => have := HQ2.out; omega
        · have i9 : ¬ (i : Int) < (k : Int) := by omega
          have hik2 : i = k := by omega
          have hct := HCT.out
          rw [show ss.take i = ss from by rw [hik2, ← HSL.out, List.take_length], HCG.out] at hct
          have hnl : (sigB cls row).length = n := by
            rw [← hct, List.length_take, HCL.out]
            have := HNI.out
            omega
          have hrv : RowV wr [] (.slice ma n mc) (sigB cls row).length 2 ((sigB cls row).flatMap arE) := by
            have hown := (show wr.ownsRow 0 147 2 (.slice ma k mc) k (cur.flatMap arE) from S.out.at_ 0 rfl)
            rw [hnl, ← hct]
            rcases Nat.eq_zero_or_pos k with h0 | h0
            · have hn00 : n = 0 := by have := HNI.out; omega
              subst hn00
              rw [h0] at hown
              have hc0 : cur = [] := List.eq_nil_of_length_eq_zero (by rw [HCL.out, h0])
              rw [hc0] at hown ⊢
              exact rowV_of_owns hown (by simp)
            · have hcut := owns_cut hown (show n ≤ k by have := HNI.out; omega) h0
              rw [flatMap_takeA cur n] at hcut
              exact rowV_of_owns hcut (by simp)
          have HRV := Lib.hid hrv
          have HFR := Lib.hid S.out.frm
          have HNL := Lib.hid hnl
          have i11 : (n : Int) ≤ (mc : Int) := by have := HNI.out; omega
          have i12 : (n : Int) ≤ (k : Int) := by have := HNI.out; omega
          clear hik2 hct hnl hrv S
          go_wp2_with fail
          go_ret
          exact ⟨⟨_, rfl, HRV.out⟩, HFR.out⟩
end Go.Proofs.YtdknbgejhhoaiaaGreat.Ind
