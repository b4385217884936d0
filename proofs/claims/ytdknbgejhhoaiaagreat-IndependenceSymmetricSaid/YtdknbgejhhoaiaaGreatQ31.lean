/- Texts KV, KW, KX, KY. -/
import Derived.Test.YtdknbgejhhoaiaaGreatQ22
import Derived.Deep.RegionHeld3
/- Contract of the reference's values. (Printed by wip/tools/kv.py.) -/
namespace Go.Proofs.YtdknbgejhhoaiaaGreat.Ind
open Go.Shelf Go.RowKit Go.Lib

/-- The values with which an arc can be taken. -/
def valsR (n : Nat) (a : RA) (rs : List Int) : List Int := if a.kind = 5 then [regR rs a.reg] else if a.kind = 7 then [regR rs a.frm] else if a.kind = 4 ∨ a.kind = 6 then valsB n a rs else [0]
def vK (a : RA) (rs : List Int) (k : Nat) : List Int := ((List.range k).map Int.ofNat).filter (freeB a rs)
theorem vK_succ (a : RA) (rs : List Int) (k : Nat) : vK a rs (k + 1) = vK a rs k ++ if freeB a rs k = true then [(k : Int)] else [] := by
  unfold vK
  rw [List.range_succ, List.map_append, List.filter_append]
  congr 1
  show List.filter _ [(k : Int)] = _
  cases h : freeB a rs k <;> simp [h]
theorem vK_len (a : RA) (rs : List Int) (k : Nat) : (vK a rs k).length ≤ k := by
  unfold vK
  exact Nat.le_trans (List.length_filter_le _ _) (by simp)
def ValsEnd (w : World) (l : List Int) (e : Ending) (w' : World) : Prop :=
  (∃ ad cp, e = .returned (.slice ad l.length cp) ∧ w'.ownsRow w.heap.size 3 1 (.slice ad l.length cp) l.length (ints l)) ∧ Frm [] w w'
theorem one_int (k : Int) : ∀ u ∈ [Value.int .i64 k], u.oneCell' = true := by simp [Value.oneCell']

end Go.Proofs.YtdknbgejhhoaiaaGreat.Ind

/- Contract of the reference's edges. (Printed by wip/tools/kw.py.) -/
namespace Go.Proofs.YtdknbgejhhoaiaaGreat.Ind
open Go.Shelf Go.RowKit Go.Lib

theorem insG_ne {α : Type} [DecidableEq α] {lt : α → α → Bool} (l : List α) (x : α) : insG lt l x ≠ [] := by
  cases l with
  | nil => simp [insG]
  | cons a r => unfold insG; repeat (first | split | simp)
theorem insG_le {α : Type} [DecidableEq α] {lt : α → α → Bool} (l : List α) (x : α) : (insG lt l x).length ≤ l.length + 1 := by
  induction l with
  | nil => simp [insG]
  | cons a r ih =>
    unfold insG
    repeat (first | split | (simp only [List.length_cons]; omega))
def toR (a : RA) (rs : List Int) (v : Int) : List Int := if a.kind = 4 ∨ a.kind = 6 ∨ a.kind = 7 then setR rs a.reg v else rs
def mkM (m : RM) (n : Nat) (a : RA) (rs : List Int) (v : Int) : Mv := (evB m n a v, a.to, toR a rs v)
theorem moves_vals (m : RM) (n : Nat) (p : Pl) (a : RA) : movesB m n p a = (valsR n a p.2).map (mkM m n a p.2) := by
  unfold movesB valsR
  by_cases h5 : a.kind = 5
  · rw [if_pos h5, if_pos h5]
    simp [mkM, toR, h5]
  · rw [if_neg h5, if_neg h5]
    by_cases h7 : a.kind = 7
    · rw [if_pos h7, if_pos h7]
      simp only [List.map_cons, List.map_nil, mkM, toR]
      rw [if_pos (by omega), evT m n a 0 (regR p.2 a.frm) (by omega) h5]
    · rw [if_neg h7, if_neg h7]
      by_cases h46 : a.kind = 4 ∨ a.kind = 6
      · rw [if_pos h46, if_pos h46]
        refine List.map_congr_left fun v _ => ?_
        simp only [mkM, toR]
        rw [if_pos (by omega)]
      · rw [if_neg h46, if_neg h46]
        simp only [List.map_cons, List.map_nil, mkM, toR]
        rw [if_neg (by omega)]
theorem valsR_len {n : Nat} {a : RA} {rs : List Int} (hn : n ≤ 12) : (valsR n a rs).length ≤ 12 := by
  unfold valsR
  split
  · simp
  · split
    · simp
    · split
      · exact Nat.le_trans (vK_len a rs n) hn
      · simp
theorem valsR_bd {m : RM} {p : Pl} {n : Nat} {a : RA} {v : Int} (hp : GoodP m p) (hn : n ≤ 12) (h : v ∈ valsR n a p.2) : 0 ≤ v ∧ v ≤ 12 := by
  unfold valsR at h
  split at h
  · rw [List.mem_singleton] at h; subst h; have := regR_ok hp a.reg; omega
  · split at h
    · rw [List.mem_singleton] at h; subst h; have := regR_ok hp a.frm; omega
    · split at h
      · have := vals_mem h; omega
      · rw [List.mem_singleton] at h; omega
end Go.Proofs.YtdknbgejhhoaiaaGreat.Ind

/- Contract of the reference's Instance. (Printed by wip/tools/kx.py from the program's.) -/
namespace Go.Proofs.YtdknbgejhhoaiaaGreat.Ind
open Go.Shelf Go.RowKit Go.Lib Go.Sort Go.Maps

/-- The blocks that turn. -/
def turnR (r x : Nat) (sv ov : Value) : List Nat := r :: (x + 1) :: (x + 1 + 1) :: (sv.ownBlock.toList ++ ov.ownBlock.toList)
end Go.Proofs.YtdknbgejhhoaiaaGreat.Ind

/- Contracts of SameRow and Same. -/
namespace Go.Proofs.YtdknbgejhhoaiaaGreat.Ind
open Go.Shelf Go.RowKit Go.Lib Go.Sort

theorem arAt {w : World} {F : List Nat} {a : Option Addr} {n c : Nat} {l : List Ar} (h : RowV w F (.slice a n c) n 2 (l.flatMap arE)) {i : Nat} {x : Ar} (hx : l[i]? = some x) :
    ∃ b o, a = some ⟨b, o, none⟩ ∧ b < w.heap.size ∧ w.cell? ⟨b, o + i * 2, none⟩ = some (.int .i64 x.1) ∧ w.cell? ⟨b, o + i * 2 + 1, none⟩ = some (.int .i64 x.2) := by
  obtain ⟨h1, a', c', e, h2, h3, h5, h4⟩ := h
  cases e
  obtain ⟨b, o, e1, _, hb, c0⟩ := h4 (i * 2 + 0) (.int .i64 x.1) (by rw [flatMap_get (enc := arE) (k := 2) (fun _ => rfl) hx 0 (by omega)]; rfl)
  obtain ⟨b', o', e2, _, _, c1⟩ := h4 (i * 2 + 1) (.int .i64 x.2) (by rw [flatMap_get (enc := arE) (k := 2) (fun _ => rfl) hx 1 (by omega)]; rfl)
  rw [e1] at e2
  cases e2
  exact ⟨b, o, e1, hb, by rw [Nat.add_zero] at c0; exact c0, by rw [← Nat.add_assoc] at c1; exact c1⟩
theorem rowV_few {w : World} {F : List Nat} {v : Value} {n size : Nat} {xs : List Value} (h : RowV w F v n size xs) : (n : Int) ≤ 9223372036854775807 := by
  obtain ⟨_, a, c, _, h2, h3, _⟩ := h
  unfold maxLen at h3
  omega
theorem take_next {α : Type} {l1 l2 : List α} {k : Nat} {x : α} (h : l1.take k = l2.take k) (h1 : l1[k]? = some x) (h2 : l2[k]? = some x) : l1.take (k + 1) = l2.take (k + 1) := by
  rw [List.take_add_one, List.take_add_one, h, h1, h2]

set_option linter.unusedSimpArgs false in
set_option maxRecDepth 100000 in
set_option maxHeartbeats 4000000 in
theorem sameRow_any {F : List Nat} (w : World) (v1 v2 : Value) (l1 l2 : List Ar) (h1 : RowV w F v1 l1.length 2 (l1.flatMap arE)) (h2 : RowV w F v2 l2.length 2 (l2.flatMap arE)) :
    Calls Tryz.prog 28 #[v1, v2] w fun e w' => e = .returned (.bool (decide (l1 = l2))) ∧ Frm [] w w' := by
  obtain ⟨a1, c1, rfl⟩ := h1.shape
  obtain ⟨a2, c2, rfl⟩ := h2.shape
  have f1 := rowV_few h1
  have f2 := rowV_few h2
  have H1 := Lib.hid h1
  have H2 := Lib.hid h2
  clear h1 h2
  by_cases hl : l1.length = l2.length
  · have jl : (l1.length == l2.length) = true := by simpa using hl
    have HL := Lib.hid hl
    have heq := fun w x y => eqAr w x y
    have hgd := guardAr
    unfold arE at heq
    have HEQ := Lib.hid heq
    have HGD := Lib.hid hgd
    have jn : ((l1.length : Int) != (l2.length : Int)) = false := by rw [hl]; simp
    clear hl heq hgd
    go_enter Tryz.func28, Tryz.ntmps28
    go_wp2_with fail
    go_loopg [5] l1.length (fun q t wr => ∃ (k : Nat), q = l1.length - k ∧ k ≤ l1.length ∧ t = .int .i64 k ∧ l1.take k = l2.take k ∧ Frm [] w wr)
    case atStart => exact ⟨0, rfl, Nat.zero_le _, rfl, rfl, Frm.refl _ _⟩
    case round =>
      obtain ⟨k, hq, hk, rfl, htk, hF⟩ := hrel
      have HQ := Lib.hid hq
      have HF := Lib.hid hF
      have HT := Lib.hid htk
      have i4 : (0 : Int) ≤ (k : Int) := by omega
      clear hq hF htk
      by_cases hlt : k < l1.length
      · have i5 : (k : Int) < (l1.length : Int) := by omega
        have hlt2 : k < l2.length := by have := HL.out; omega
        have i6 : (k : Int) < (l2.length : Int) := by omega
        obtain ⟨x, hx⟩ : ∃ x, l1[k]? = some x := ⟨_, List.getElem?_eq_getElem hlt⟩
        obtain ⟨y, hy⟩ : ∃ y, l2[k]? = some y := ⟨_, List.getElem?_eq_getElem hlt2⟩
        obtain ⟨b, o, rfl, _, d0, d1⟩ := arAt H1.out hx
        obtain ⟨b', o', rfl, _, d2, d3⟩ := arAt H2.out hy
        have e0 := HF.out.cell d0 (by simp)
        have e1 := HF.out.cell d1 (by simp)
        have e2 := HF.out.cell d2 (by simp)
        have e3 := HF.out.cell d3 (by simp)
        have HX := Lib.hid hx
        have HY := Lib.hid hy
        clear d0 d1 d2 d3 hx hy
        by_cases hxy : x = y
        · have heq2 := fun (W : World) => HEQ.out W x y
          rw [decide_eq_true hxy] at heq2
          have hgd2 := HGD.out
          have HXY := Lib.hid hxy
          clear hxy
          go_wp2_with fail
          go_quiet (fail)
          go_wp2_with fail
          go_roundg (l1.length - (k + 1))
          case rel => exact ⟨k + 1, rfl, by omega, by go_num, take_next HT.out HX.out (by rw [HXY.out]; exact HY.out), HF.out.drewN _⟩
          case measure => have := HQ.out; omega
        · have heq2 := fun (W : World) => HEQ.out W x y
          rw [decide_eq_false hxy] at heq2
          have hgd2 := HGD.out
          have HR : Hid (decide (l1 = l2) = false) := Lib.hid (by
            rw [decide_eq_false_iff_not]
            intro h9
            have h8 := HX.out
            rw [h9, HY.out] at h8
            exact hxy (by cases h8; rfl))
          clear hxy
          go_wp2_with fail
          go_quiet (fail)
          go_wp2_with fail
          go_ret
          exact ⟨by rw [HR.out]; rfl, HF.out.drewN _⟩
      · have i5 : ¬ (k : Int) < (l1.length : Int) := by omega
        have HR : Hid (decide (l1 = l2) = true) := Lib.hid (by
          rw [decide_eq_true_eq]
          have h := HT.out
          have := HL.out
          rwa [List.take_of_length_le (by omega), List.take_of_length_le (by omega)] at h)
        go_wp2_with fail
        go_ret
        exact ⟨by rw [HR.out]; rfl, HF.out⟩
  · have jn : ((l1.length : Int) != (l2.length : Int)) = true := by simp; omega
    have HR : Hid (decide (l1 = l2) = false) := Lib.hid (by
      rw [decide_eq_false_iff_not]
      intro h9
      exact hl (by rw [h9]))
    clear hl
    go_enter Tryz.func28, Tryz.ntmps28
    go_wp2_with fail
    go_ret
    exact ⟨by rw [HR.out]; rfl, Frm.refl _ _⟩

theorem ltsAt {w : World} {F : List Nat} {a : Option Addr} {n c : Nat} {rows : List (List Ar)} (h : LtsAt w F (.slice a n c) rows) {i : Nat} {r : List Ar} (hr : rows[i]? = some r) :
    ∃ b o a' c', a = some ⟨b, o, none⟩ ∧ b < w.heap.size ∧ w.cell? ⟨b, o + i, none⟩ = some (.slice a' r.length c') ∧ RowV w F (.slice a' r.length c') r.length 2 (r.flatMap arE) := by
  obtain ⟨vs, ⟨_, a2, c2, e, _, _, _, h4⟩, h2⟩ := h
  cases e
  obtain ⟨u, hu, h3⟩ := h2 i r hr
  obtain ⟨a', c', rfl⟩ := h3.shape
  obtain ⟨b, o, e1, _, hb, c0⟩ := h4 i _ hu
  exact ⟨b, o, a', c', e1, hb, c0, h3⟩
theorem ltsShape {w : World} {F : List Nat} {v : Value} {rows : List (List Ar)} (h : LtsAt w F v rows) : ∃ a c, v = .slice a rows.length c ∧ (rows.length : Int) ≤ 9223372036854775807 := by
  obtain ⟨vs, h1, _⟩ := h
  obtain ⟨a, c, e⟩ := h1.shape
  exact ⟨a, c, e, rowV_few h1⟩
theorem LtsAt.nil {w w' : World} {F : List Nat} {v : Value} {rows : List (List Ar)} (h : LtsAt w F v rows) (hf : Frm [] w w') : LtsAt w' F v rows := h.step hf (by simp) (fun _ hk => .inl hk)

set_option linter.unusedSimpArgs false in
set_option maxRecDepth 100000 in
set_option maxHeartbeats 4000000 in
theorem sameLts_any {F : List Nat} (w : World) (v1 v2 : Value) (r1 r2 : List (List Ar)) (h1 : LtsAt w F v1 r1) (h2 : LtsAt w F v2 r2) :
    Calls Tryz.prog 11 #[.agg #[v1], .agg #[v2]] w fun e w' => e = .returned (.bool (decide (r1 = r2))) ∧ Frm [] w w' := by
  obtain ⟨a1, c1, rfl, f1⟩ := ltsShape h1
  obtain ⟨a2, c2, rfl, f2⟩ := ltsShape h2
  have H1 := Lib.hid h1
  have H2 := Lib.hid h2
  clear h1 h2
  have hb1 := (RowAt.made w 25 [.slice a1 r1.length c1] #[.slice a1 r1.length c1] rfl).alloc (.cells #[.slice a2 r2.length c2] 25)
  have hb2 := row_made1 w (.cells #[.slice a1 r1.length c1] 25) 25 [.slice a2 r2.length c2] #[.slice a2 r2.length c2] rfl
  have f0 : Frm [] w ((w.alloc (.cells #[.slice a1 r1.length c1] 25)).alloc (.cells #[.slice a2 r2.length c2] 25)) := ((Frm.refl [] w).alloc _).alloc _
  by_cases hl : r1.length = r2.length
  · have HL := Lib.hid hl
    have jn : ((r1.length : Int) != (r2.length : Int)) = false := by rw [hl]; simp
    have HB1 := Lib.hid hb1
    have HB2 := Lib.hid hb2
    have F0 := Lib.hid f0
    clear hl hb1 hb2 f0
    go_enter Tryz.func11, Tryz.ntmps11
    go_wp2_with fail
    generalize hW2 : World.alloc (World.alloc _ _) _ = W2 at *
    clear hW2
    go_loopg [5] r1.length (fun q t wr => ∃ (k : Nat), q = r1.length - k ∧ k ≤ r1.length ∧ t = .int .i64 k ∧ r1.take k = r2.take k ∧ Frm [] W2 wr)
    case atStart => exact ⟨0, rfl, Nat.zero_le _, rfl, rfl, Frm.refl _ _⟩
    case round =>
      obtain ⟨k, hq, hk, rfl, htk, hF⟩ := hrel
      have HQ := Lib.hid hq
      have HF := Lib.hid hF
      have HT := Lib.hid htk
      have B1 := Lib.hid (HB1.out.frm hF (by simp))
      have B2 := Lib.hid (HB2.out.frm hF (by simp))
      have i4 : (0 : Int) ≤ (k : Int) := by omega
      clear hq hF htk
      have d1 := B1.out.cell (i := 0) rfl
      by_cases hlt : k < r1.length
      · have i5 : (k : Int) < (r1.length : Int) := by omega
        have hlt2 : k < r2.length := by have := HL.out; omega
        have i6 : (k : Int) < (r2.length : Int) := by omega
        obtain ⟨x, hx⟩ : ∃ x, r1[k]? = some x := ⟨_, List.getElem?_eq_getElem hlt⟩
        obtain ⟨y, hy⟩ : ∃ y, r2[k]? = some y := ⟨_, List.getElem?_eq_getElem hlt2⟩
        obtain ⟨b1, o1, a3, c3, rfl, _, x1, x2⟩ := ltsAt H1.out hx
        obtain ⟨b2, o2, a4, c4, rfl, _, y1, y2⟩ := ltsAt H2.out hy
        have HX := Lib.hid hx
        have HY := Lib.hid hy
        have FW := Lib.hid (F0.out.trans HF.out (by simp))
        have X1 := Lib.hid (FW.out.cell x1 (by simp))
        have Y1 := Lib.hid (FW.out.cell y1 (by simp))
        have HC : Hid (∀ W, Frm [] wr W → Calls Tryz.prog 28 #[.slice a3 x.length c3, .slice a4 y.length c4] W fun e w' => e = .returned (.bool (decide (x = y))) ∧ Frm [] W w') := Lib.hid fun W hf => sameRow_any W _ _ x y ((x2.nil FW.out).nil hf) ((y2.nil FW.out).nil hf)
        have KEEP : Hid (∀ w', Frm [] wr w' → w'.cell? ⟨w.heap.size, 0, none⟩ = some (.slice (some ⟨b1, o1, none⟩) r1.length c1) ∧ w'.cell? ⟨w.heap.size + 1, 0, none⟩ = some (.slice (some ⟨b2, o2, none⟩) r2.length c2) ∧ w'.cell? ⟨b1, o1 + k, none⟩ = some (.slice a3 x.length c3) ∧ w'.cell? ⟨b2, o2 + k, none⟩ = some (.slice a4 y.length c4)) := Lib.hid fun w' hf => ⟨(B1.out.frm hf (by simp)).cell (i := 0) rfl, (B2.out.frm hf (by simp)).cell (i := 0) rfl, hf.cell X1.out (by simp), hf.cell Y1.out (by simp)⟩
        clear x1 x2 y1 y2 hx hy
        go_wp2_with fail
        clear d1
        by_cases hxy : x = y
        · have HXY := Lib.hid hxy
          have hc := HC.out
          rw [decide_eq_true hxy] at hc
          have HC2 := Lib.hid hc
          clear hxy hc HC
          go_region_held3 (fun w' => w'.cell? ⟨w.heap.size, 0, none⟩ = some (.slice (some ⟨b1, o1, none⟩) r1.length c1) ∧ w'.cell? ⟨w.heap.size + 1, 0, none⟩ = some (.slice (some ⟨b2, o2, none⟩) r2.length c2) ∧ w'.cell? ⟨b1, o1 + k, none⟩ = some (.slice a3 x.length c3) ∧ w'.cell? ⟨b2, o2 + k, none⟩ = some (.slice a4 y.length c4))
            (first | exact KEEP.out _ (Frm.refl [] wr).drew | exact KEEP.out _ hy5)
            (first | (go_at_call 28; refine (HC2.out _ (Frm.refl [] wr).drew).mono ?_; rintro e5 w5 ⟨rfl, hf5⟩; have hy5 := (Frm.refl [] wr).drew.trans hf5 (by simp)))
          go_wp2_with fail
          go_roundg (r1.length - (k + 1))
          case rel => exact ⟨k + 1, rfl, by omega, by go_num, take_next HT.out HX.out (by rw [HXY.out]; exact HY.out), HF.out.trans hy5 (by simp)⟩
          case measure => have := HQ.out; omega
        · have hc := HC.out
          rw [decide_eq_false hxy] at hc
          have HC2 := Lib.hid hc
          have HR : Hid (decide (r1 = r2) = false) := Lib.hid (by
            rw [decide_eq_false_iff_not]
            intro h9
            have h8 := HX.out
            rw [h9, HY.out] at h8
            exact hxy (by cases h8; rfl))
          clear hxy hc HC
          go_region_held3 (fun w' => w'.cell? ⟨w.heap.size, 0, none⟩ = some (.slice (some ⟨b1, o1, none⟩) r1.length c1) ∧ w'.cell? ⟨w.heap.size + 1, 0, none⟩ = some (.slice (some ⟨b2, o2, none⟩) r2.length c2) ∧ w'.cell? ⟨b1, o1 + k, none⟩ = some (.slice a3 x.length c3) ∧ w'.cell? ⟨b2, o2 + k, none⟩ = some (.slice a4 y.length c4))
            (first | exact KEEP.out _ (Frm.refl [] wr).drew | exact KEEP.out _ hy5)
            (first | (go_at_call 28; refine (HC2.out _ (Frm.refl [] wr).drew).mono ?_; rintro e5 w5 ⟨rfl, hf5⟩; have hy5 := (Frm.refl [] wr).drew.trans hf5 (by simp)))
          go_wp2_with fail
          go_ret
          exact ⟨by rw [HR.out]; rfl, FW.out.trans hy5 (by simp)⟩
      · have i5 : ¬ (k : Int) < (r1.length : Int) := by omega
        have HR : Hid (decide (r1 = r2) = true) := Lib.hid (by
          rw [decide_eq_true_eq]
          have h := HT.out
          have := HL.out
          rwa [List.take_of_length_le (by omega), List.take_of_length_le (by omega)] at h)
        go_wp2_with fail
        go_ret
        exact ⟨by rw [HR.out]; rfl, F0.out.trans HF.out (by simp)⟩
  · have jn : ((r1.length : Int) != (r2.length : Int)) = true := by simp; omega
    have HR : Hid (decide (r1 = r2) = false) := Lib.hid (by
      rw [decide_eq_false_iff_not]
      intro h9
      exact hl (by rw [h9]))
    clear hl
    go_enter Tryz.func11, Tryz.ntmps11
    go_wp2_with fail
    go_ret
    exact ⟨by rw [HR.out]; rfl, f0⟩

end Go.Proofs.YtdknbgejhhoaiaaGreat.Ind
