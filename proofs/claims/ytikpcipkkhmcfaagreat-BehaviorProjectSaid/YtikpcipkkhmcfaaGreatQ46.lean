/- Texts FF, FG. -/
import Derived.Test.YtikpcipkkhmcfaaGreatQ00
import Derived.Test.YtikpcipkkhmcfaaGreatQ28
import Derived.Test.YtikpcipkkhmcfaaGreatQ33
import Derived.Test.YtikpcipkkhmcfaaGreatQ45
import Derived.Test.YtikpcipkkhmcfaaGreatQ07
/- slices.EqualFunc of two lists of sets by slices.Equal; validEntry. -/
namespace Go.Proofs.YtikpcipkkhmcfaaGreat.Beh
open Go.Shelf Go.RowKit Go.Lib Go.Sort Go.Maps Go.Proofs.YtikpcipkkhmcfaaGreat Go.Proofs.YtikpcipkkhmcfaaGreat.Ind

set_option linter.unusedSimpArgs false in
set_option maxRecDepth 100000 in
set_option maxHeartbeats 4000000 in
theorem equalF_any {F G : List Nat} (w : World) (v1 v2 : Value) (r1 r2 : List (List Int)) (h1 : SetsAt w F v1 r1) (h2 : SetsAt w G v2 r2) :
  Calls Tryz.prog 75 #[v1, v2, .func (.func 70) #[] #[]] w fun e w' => e = .returned (.bool (decide (r1 = r2))) ∧ Frm [] w w' := by
 have eg := egEq
 have f1 := sets_few h1
 have f2 := sets_few h2
 obtain ⟨a1, c1, rfl⟩ := h1.shape
 obtain ⟨a2, c2, rfl⟩ := h2.shape
 have H1 := Lib.hid h1
 have H2 := Lib.hid h2
 clear h1 h2
 by_cases hl : r1.length = r2.length
 ·have HL := Lib.hid hl
  have jn : ((r1.length : Int) != (r2.length : Int)) = false := by rw [hl]; simp
  clear hl
  go_enter Tryz.func75, Tryz.ntmps75
  go_wp2_with fail
  go_loopg [17] r1.length (fun q t wr => ∃ (k : Nat), q = r1.length - k ∧ k ≤ r1.length ∧ t = .int .i64 k ∧ r1.take k = r2.take k ∧ Frm [] w wr)
  case atStart => exact ⟨0, rfl, Nat.zero_le _, rfl, rfl, Frm.refl _ _⟩
  case round =>
   obtain ⟨k, hq, hk, rfl, htk, hF⟩ := hrel
   have HQ := Lib.hid hq
   have FW := Lib.hid hF
   have HT := Lib.hid htk
   have i4 : (0 : Int) ≤ (k : Int) := by omega
   clear hq hF htk
   by_cases hlt : k < r1.length
   ·have i5 : (k : Int) < (r1.length : Int) := by omega
    have hlt2 : k < r2.length := by have := HL.out; omega
    have i6 : (k : Int) < (r2.length : Int) := by omega
    obtain ⟨x, hx⟩ : ∃ x, r1[k]? = some x := ⟨_, List.getElem?_eq_getElem hlt⟩
    obtain ⟨y, hy⟩ : ∃ y, r2[k]? = some y := ⟨_, List.getElem?_eq_getElem hlt2⟩
    obtain ⟨b1, o1, d1, a3, c3, e1, x1, x2⟩ := H1.out.at_ hx
    obtain ⟨rfl, rfl⟩ : a1 = some ⟨b1, o1, none⟩ ∧ c1 = d1 := by simpa using e1
    obtain ⟨b2, o2, d2, a4, c4, e2, y1, y2⟩ := H2.out.at_ hy
    obtain ⟨rfl, rfl⟩ : a2 = some ⟨b2, o2, none⟩ ∧ c2 = d2 := by simpa using e2
    have HX := Lib.hid hx
    have HY := Lib.hid hy
    have cx := FW.out.cell x1 (by simp)
    have cy := FW.out.cell y1 (by simp)
    have hc := equalI_any wr _ _ x y (x2.nil FW.out) (y2.nil FW.out)
    clear x1 x2 y1 y2 hx hy e1 e2
    by_cases hxy : x = y
    ·have HXY := Lib.hid hxy
     rw [decide_eq_true hxy] at hc
     have HC2 := Lib.hid hc
     clear hxy hc
     go_wp2_with (first | (go_at_call 70; refine HC2.out.mono ?_; rintro e5 w5 ⟨rfl, hf5⟩) | fail)
     go_roundg (r1.length - (k + 1))
     case rel => exact ⟨k + 1, rfl, by omega, by go_num, take_next2 HT.out HX.out (by rw [HXY.out]; exact HY.out), FW.out.trans hf5 (by simp)⟩
     case measure => have := HQ.out; omega
    ·rw [decide_eq_false hxy] at hc
     have HC2 := Lib.hid hc
     have HR : Hid (decide (r1 = r2) = false) := Lib.hid (by
      rw [decide_eq_false_iff_not]
      intro h9
      have h8 := HX.out
      rw [h9, HY.out] at h8
      exact hxy (by cases h8; rfl))
     clear hxy hc
     go_wp2_with (first | (go_at_call 70; refine HC2.out.mono ?_; rintro e5 w5 ⟨rfl, hf5⟩) | fail)
     go_ret
     exact ⟨by rw [HR.out]; rfl, FW.out.trans hf5 (by simp)⟩
   ·have i5 : ¬ (k : Int) < (r1.length : Int) := by omega
    have HR : Hid (decide (r1 = r2) = true) := Lib.hid (by
     have e := HT.out
     rw [List.take_of_length_le (by omega), List.take_of_length_le (by have := HL.out; omega)] at e
     rw [e]; simp)
    go_wp2_with fail
    go_ret
    exact ⟨by rw [HR.out]; rfl, FW.out⟩
 ·have jn : ((r1.length : Int) != (r2.length : Int)) = true := by simp; omega
  have HR : Hid (decide (r1 = r2) = false) := Lib.hid (by simp; rintro rfl; exact hl rfl)
  clear hl
  go_enter Tryz.func75, Tryz.ntmps75
  go_wp2_with fail
  go_ret
  exact ⟨by rw [HR.out]; rfl, Frm.refl _ _⟩
/-- The minimal sets may be read. -/
theorem MinEnd.sets {w w' : World} {l : List (List Int)} {e : Ending} (h : MinEnd w l e w') : ∃ a c, e = .returned (.slice a (minL l).length c) ∧ SetsAt w' [] (.slice a (minL l).length c) (minL l) ∧ Frm [] w w' := by
 obtain ⟨a, c, us, rfl, S⟩ := h
 obtain ⟨ps, h1, h2, h3, h4, h5⟩ := ownsC_ps (S.at_ 0 rfl)
 exact ⟨a, c, rfl, ⟨ps, h2, by rw [h1]; exact h4, h5⟩, S.frm⟩
noncomputable def entB (x : En) : Bool := @decide (EntOk x) (Classical.propDecidable _)
theorem entB_iff {x : En} : entB x = true ↔ EntOk x := by unfold entB; simp
theorem entB_no {x : En} (h : ¬ EntOk x) : entB x = false := by
 cases hb : entB x with
 | true => exact absurd (entB_iff.1 hb) h
 | false => rfl
set_option linter.unusedSimpArgs false in
set_option maxRecDepth 100000 in
set_option maxHeartbeats 4000000 in
theorem validEntry_any {F : List Nat} (w : World) (x : En) (ta la : Option Addr) (tc lc : Nat) (h1 : RowV w F (.slice ta x.1.length tc) x.1.length 1 (ints x.1)) (h2 : SetsAt w F (.slice la x.2.1.length lc) x.2.1) (hx2 : x.2.1.length ≤ 5864062014805) (hx3 : ∀ y ∈ x.2.1, y.length ≤ 17592186044416) :
  Calls Tryz.prog 45 #[.agg #[.slice ta x.1.length tc, .slice la x.2.1.length lc, .bool x.2.2]] w fun e w' => e = .returned (.bool (entB x)) ∧ Frm [] w w' := by
 have l1 := h1.rd.lt
 have l2 := sets_few h2
 have f0 : Frm [] w (w.alloc (.cells #[.slice ta x.1.length tc, .slice la x.2.1.length lc, .bool x.2.2] 69)) := (Frm.refl [] w).alloc _
 have HBX : Hid (∀ W, Frm [] (w.alloc (.cells #[.slice ta x.1.length tc, .slice la x.2.1.length lc, .bool x.2.2] 69)) W → RowAt W w.heap.size 69 [.slice ta x.1.length tc, .slice la x.2.1.length lc, .bool x.2.2]) := Lib.hid fun W hf => (RowAt.made w 69 [.slice ta x.1.length tc, .slice la x.2.1.length lc, .bool x.2.2] #[.slice ta x.1.length tc, .slice la x.2.1.length lc, .bool x.2.2] rfl).frm hf (by simp)
 have HT : Hid (∀ W, Frm [] w W → Calls Tryz.prog 74 #[.slice ta x.1.length tc] W fun e w' => e = .returned (.bool (visB x.1)) ∧ Frm [] W w') := Lib.hid fun W hf => visible_any W _ x.1 (h1.nil hf)
 have H2 := Lib.hid h2
 have HX3 := Lib.hid hx3
 have F0 := Lib.hid f0
 clear h1 h2 hx3 f0
 by_cases hlong : 24 < x.1.length
 ·have i1 : (24 : Int) < (x.1.length : Int) := by omega
  have HN : Hid (entB x = false) := Lib.hid (entB_no (fun h => by have := h.short; omega))
  clear hlong
  go_enter Tryz.func45, Tryz.ntmps45
  go_wp2_with fail
  go_ret
  exact ⟨by rw [HN.out]; rfl, F0.out⟩
 ·have i1 : ¬ (24 : Int) < (x.1.length : Int) := by omega
  have x0 := (HBX.out _ (Frm.refl _ _)).cell (i := 0) rfl
  cases hv : visB x.1 with
  | false =>
   have HN : Hid (entB x = false) := Lib.hid (entB_no (fun h => by have := h.vis; rw [hv] at this; cases this))
   rw [hv] at HT
   clear hv
   go_enter Tryz.func45, Tryz.ntmps45
   go_wp2_with (first | (go_at_call 74; refine (HT.out _ F0.out).mono ?_; rintro e5 w5 ⟨rfl, hf5⟩) | fail)
   go_ret
   exact ⟨by rw [HN.out]; rfl, F0.out.trans hf5 (by simp)⟩
  | true =>
   have HV := Lib.hid hv
   have HSH : Hid (x.1.length ≤ 24) := Lib.hid (by omega)
   rw [hv] at HT
   clear hv hlong
   go_enter Tryz.func45, Tryz.ntmps45
   go_wp2_with (first | (go_at_call 74; refine (HT.out _ F0.out).mono ?_; rintro e5 w5 ⟨rfl, hf5⟩; have x1 := (HBX.out _ hf5).cell (i := 1) rfl) | fail)
   have HF5 := Lib.hid hf5
   clear hf5 x0
   go_loopg [18] x.2.1.length (fun q t wr => ∃ (k : Nat), q = x.2.1.length - k ∧ k ≤ x.2.1.length ∧ t = .int .i64 k ∧ (∀ y ∈ x.2.1.take k, visB y = true) ∧ Frm [] (w.alloc (.cells #[.slice ta x.1.length tc, .slice la x.2.1.length lc, .bool x.2.2] 69)) wr)
   case atStart => exact ⟨0, rfl, Nat.zero_le _, rfl, by simp, HF5.out⟩
   case round =>
    clear HF5 x1
    obtain ⟨k, hq, hk, rfl, hd, hF⟩ := hrel
    have HQ := Lib.hid hq
    have HF := Lib.hid hF
    have HD := Lib.hid hd
    have FW := Lib.hid (F0.out.trans hF (by simp))
    have i4 : (0 : Int) ≤ (k : Int) := by omega
    clear hq hF hd
    by_cases hlt : k < x.2.1.length
    ·have i5 : (k : Int) < (x.2.1.length : Int) := by omega
     obtain ⟨y, hy⟩ : ∃ y, x.2.1[k]? = some y := ⟨_, List.getElem?_eq_getElem hlt⟩
     obtain ⟨b1, o1, d1, ya, yc, e1, y1, y2⟩ := H2.out.at_ hy
     obtain ⟨rfl, rfl⟩ : la = some ⟨b1, o1, none⟩ ∧ lc = d1 := by simpa using e1
     have cy := FW.out.cell y1 (by simp)
     have hc := visible_any wr _ y (y2.nil FW.out)
     have HY := Lib.hid hy
     clear y1 y2 e1 hy
     cases hb : visB y with
     | true =>
      rw [hb] at hc
      have HC := Lib.hid hc
      have HB := Lib.hid hb
      clear hc hb
      go_wp2_with (first | (go_at_call 74; refine HC.out.mono ?_; rintro e6 w6 ⟨rfl, hf6⟩) | fail)
      go_roundg (x.2.1.length - (k + 1))
      case rel => exact ⟨k + 1, rfl, by omega, by go_num, (fun z hz => by
       rw [take_snoc HY.out] at hz
       rcases List.mem_append.1 hz with h9 | h9
       ·exact HD.out z h9
       ·rw [List.mem_singleton.1 h9]; exact HB.out), HF.out.trans hf6 (by simp)⟩
      case measure => have := HQ.out; omega
     | false =>
      rw [hb] at hc
      have HC := Lib.hid hc
      have HN : Hid (entB x = false) := Lib.hid (entB_no (fun h => by have := h.acc y (List.mem_of_getElem? HY.out); rw [hb] at this; cases this))
      clear hc hb
      go_wp2_with (first | (go_at_call 74; refine HC.out.mono ?_; rintro e6 w6 ⟨rfl, hf6⟩) | fail)
      go_ret
      exact ⟨by rw [HN.out]; rfl, FW.out.trans hf6 (by simp)⟩
    ·have i5 : ¬ (k : Int) < (x.2.1.length : Int) := by omega
     have hall : ∀ y ∈ x.2.1, visB y = true := fun y hy => HD.out y (by rw [List.take_of_length_le (by omega)]; exact hy)
     have HR : Hid (entB x = decide (minL x.2.1 = x.2.1)) := Lib.hid (by
      by_cases hm : minL x.2.1 = x.2.1
      ·rw [decide_eq_true hm]
       exact entB_iff.2 ⟨HSH.out, HV.out, hall, minL_iff.1 hm⟩
      ·rw [decide_eq_false hm]
       exact entB_no (fun h => hm (minL_iff.2 h.anti)))
     have KEEP : Hid (∀ W, Frm [] wr W → W.cell? ⟨w.heap.size, 1, none⟩ = some (.slice la x.2.1.length lc)) := Lib.hid fun W hf => (HBX.out _ (HF.out.trans hf (by simp))).cell (i := 1) rfl
     have HM : Hid (∀ W, Frm [] wr W → Calls Tryz.prog 76 #[.slice la x.2.1.length lc] W fun e w' => ∃ a c, e = .returned (.slice a (minL x.2.1).length c) ∧ SetsAt w' [] (.slice a (minL x.2.1).length c) (minL x.2.1) ∧ Frm [] W w') := Lib.hid fun W hf => by
      obtain ⟨ps, p1, p2, p3⟩ := (H2.out.nil (FW.out.trans hf (by simp))).ps
      have hpl : ps.length = x.2.1.length := by rw [← p1, List.length_map]
      have hc := minimal_any F W (.slice la x.2.1.length lc) ps (by rw [hpl]; exact p2) p3 (by rw [hpl]; exact hx2) (fun p hp => HX3.out p.2 (by rw [← p1]; exact List.mem_map_of_mem hp))
      rw [p1] at hc
      exact hc.mono fun _ _ h => h.sets
     have HS2 : Hid (∀ W, Frm [] wr W → SetsAt W F (.slice la x.2.1.length lc) x.2.1) := Lib.hid fun W hf => H2.out.nil (FW.out.trans hf (by simp))
     clear hall HD HT HX3 H2 HV HSH
     go_wp2_with fail
     have f0 : Frm [] wr wr.drew := (Frm.refl [] wr).drew
     refine wp_region_held_drew (S := fun w' => w'.cell? ⟨w.heap.size, 1, none⟩ = some (.slice la x.2.1.length lc)) (by kernel_rfl) (KEEP.out _ f0) ?_
     intro hHeld
     refine qtk 0 (v := ?_) rfl (by kernel_rfl) (fun _ _ _ h => h) (by rfl) (by assumption) ?_ ?_
     rotate_left
     ·(intro w9 hS9; (try dsimp only at hS9); go_split_ands; go_simp; try with_reducible rfl)
     try simp only [Act.put, qgA, qgS, qg0, qsA, qs0, qsS]
     refine qtk 1 (v := ?_) rfl (by kernel_rfl) (fun _ _ _ h => h) (by rfl) (by assumption) ?_ ?_
     rotate_left
     ·(intro w9 hS9; (try dsimp only at hS9); go_split_ands; go_simp; try with_reducible rfl)
     try simp only [Act.put, qgA, qgS, qg0, qsA, qs0, qsS]
     refine qtk 3 (v := ?_) rfl (by kernel_rfl) (fun _ _ _ h => h) (by rfl) (by assumption) ?_ ?_
     rotate_left
     ·(intro w9 hS9; (try dsimp only at hS9); go_split_ands; go_simp; try with_reducible rfl)
     try simp only [Act.put, qgA, qgS, qg0, qsA, qs0, qsS]
     refine qtk 4 (v := ?_) rfl (by kernel_rfl) (fun _ _ _ h => h) (by rfl) (by assumption) ?_ ?_
     rotate_left
     ·(intro w9 hS9; (try dsimp only at hS9); go_split_ands; go_simp; try with_reducible rfl)
     try simp only [Act.put, qgA, qgS, qg0, qsA, qs0, qsS]
     refine wpAnyH_ready (rs := [2]) (by kernel_rfl) (by simp) ?_
     refine AllReadyH.cons rfl (fun K hK => ?_) AllReadyH.nil
     go_simp
     refine (HM.out _ f0).mono ?_
     rintro e5 w5 ⟨ma, mc, rfl, hs5, hf5⟩
     have f5 := f0.trans hf5 (by simp)
     refine hK.out _ _ ?_ (fun hHeld => ?_)
     ·exact KEEP.out _ f5
     clear hK K
     try simp only [Act.put, qgA, qgS, qg0, qsA, qs0, qsS]
     refine wpAnyH_ready (rs := [5]) (by kernel_rfl) (by simp) ?_
     refine AllReadyH.cons rfl (fun K hK => ?_) AllReadyH.nil
     go_simp
     refine (equalF_any w5 _ _ _ _ hs5 (HS2.out _ f5)).mono ?_
     rintro e6 w6 ⟨rfl, hf6⟩
     have f6 := f5.trans hf6 (by simp)
     refine hK.out _ _ ?_ (fun hHeld => ?_)
     ·exact KEEP.out _ f6
     clear hK K
     try simp only [Act.put, qgA, qgS, qg0, qsA, qs0, qsS]
     refine qtk 6 (v := ?_) rfl (by kernel_rfl) (fun _ _ _ h => h) (by rfl) (by assumption) ?_ ?_
     rotate_left
     ·(intro w9 hS9; (try dsimp only at hS9); go_split_ands; go_simp; try with_reducible rfl)
     try simp only [Act.put, qgA, qgS, qg0, qsA, qs0, qsS]
     refine wpAnyH_done (by kernel_rfl) ?_ _
     go_wp2_with fail
     go_ret
     exact ⟨by rw [HR.out]; rfl, FW.out.trans f6 (by simp)⟩
end Go.Proofs.YtikpcipkkhmcfaaGreat.Beh

/- Contract of behavior.index: the number of each trace. -/
namespace Go.Proofs.YtikpcipkkhmcfaaGreat.Beh
open Go.Shelf Go.RowKit Go.Lib Go.Sort Go.Maps Go.Proofs.YtikpcipkkhmcfaaGreat Go.Proofs.YtikpcipkkhmcfaaGreat.Ind

/-- The keys of the traces with their numbers. -/
def idxK (b : List En) : List (ByteArray × Value) := b.zipIdx.map fun p => (keyS p.1.1, .int .i64 (p.2 : Int))
theorem idxK_snoc (l : List En) (x : En) : idxK (l ++ [x]) = idxK l ++ [(keyS x.1, .int .i64 (l.length : Int))] := by
 simp [idxK, List.zipIdx_append]
theorem idxK_get {b : List En} {i : Nat} {x : En} (h : b[i]? = some x) : (idxK b)[i]? = some (keyS x.1, .int .i64 (i : Int)) := by
 simp [idxK, List.getElem?_map, List.getElem?_zipIdx, h]
theorem idxK_keys (b : List En) : (idxK b).map (·.1) = b.map fun x => keyS x.1 := by
 refine List.ext_getElem? fun i => ?_
 cases h : b[i]? with
 | none => simp [idxK, List.getElem?_map, List.getElem?_zipIdx, h]
 | some x => rw [List.getElem?_map, idxK_get h, List.getElem?_map, h]; rfl
/-- Traces that are all different, with small events. -/
structure TrOk (b : List En) : Prop where
 nd : (b.map (·.1)).Nodup
 small : ∀ x ∈ b, Small x.1
 len : ∀ x ∈ b, x.1.length ≤ 100000
theorem TrOk.take {b : List En} (h : TrOk b) (k : Nat) : TrOk (b.take k) :=
 ⟨by rw [List.map_take]; exact h.nd.sublist (List.take_sublist ..), fun x hx => h.small x (List.mem_of_mem_take hx), fun x hx => h.len x (List.mem_of_mem_take hx)⟩
theorem TrOk.keys {b : List En} (h : TrOk b) : ((idxK b).map (·.1)).Nodup := by
 rw [idxK_keys]
 have h1 : b.Pairwise fun x y => x.1 ≠ y.1 := by
  have := h.nd
  rw [List.Nodup, List.pairwise_map] at this
  exact this
 exact List.pairwise_map.2 (List.Pairwise.imp_of_mem (fun {a c} ha hc hab e => hab (keyS_inj (h.small a ha) (h.small c hc) e)) h1)
theorem TrOk.look {b : List En} (h : TrOk b) {i : Nat} {x : En} (hi : b[i]? = some x) : getA (idxK b) (keyS x.1) = some (.int .i64 (i : Int)) :=
 getA_at h.keys (p := (keyS x.1, .int .i64 (i : Int))) (idxK_get hi)
theorem TrOk.miss {b : List En} (h : TrOk b) {t : List Int} (ht : Small t) (hn : ∀ x ∈ b, x.1 ≠ t) : getA (idxK b) (keyS t) = none := by
 refine getA_no (fun p hp e => ?_)
 obtain ⟨i, hi⟩ := List.getElem?_of_mem hp
 cases hx : b[i]? with
 | none => simp [idxK, List.getElem?_map, List.getElem?_zipIdx, hx] at hi
 | some x =>
  rw [idxK_get hx] at hi
  cases hi
  have hm := List.mem_of_getElem? hx
  exact hn x hm (keyS_inj (h.small x hm) ht e)
def IdxEnd (w : World) (b : List En) (e : Ending) (w' : World) : Prop := ∃ g, e = .returned (.map (some g)) ∧ Sep w w' [mapC g (idxK b)]
set_option linter.unusedSimpArgs false in
set_option maxRecDepth 100000 in
set_option maxHeartbeats 4000000 in
theorem index_any {F : List Nat} (w : World) (v : Value) (b : List En) (h : BehAt w F v b) (hok : TrOk b) :
  Calls Tryz.prog 47 #[v] w (IdxEnd w b) := by
 have l1 := beh_few h
 obtain ⟨va, vc, rfl⟩ := h.shape
 have H := Lib.hid h
 have HOK := Lib.hid hok
 have hm := Tryz.underlying77
 have hmm := @run_makeMap Tryz.prog
 clear h hok
 go_enter Tryz.func47, Tryz.ntmps47
 have hm0 : KM strV (w.alloc (.map #[] 0)) w.heap.size (idxK []) := by
  have h9 := KM.fresh (ke := strV) w
  simpa [idxK] using h9
 have HS0 := Lib.hid ((Sep.start w).add (mapC w.heap.size (idxK [])) ((Frm.refl [] w).alloc (.map #[] 0)) hm0 (by simp [mapC]))
 clear hm0
 go_wp2_with fail
 go_loopg [9] b.length (fun q t9 wr => ∃ (i : Nat), q = b.length - i ∧ i ≤ b.length ∧ t9 = .int .i64 i ∧ Sep w wr [mapC w.heap.size (idxK (b.take i))])
 case atStart => exact ⟨0, rfl, Nat.zero_le _, rfl, HS0.out⟩
 case round =>
  clear HS0
  obtain ⟨i, hq, hi, rfl, hsep⟩ := hrel
  have HQ := Lib.hid hq
  have S := Lib.hid hsep
  have i4 : (0 : Int) ≤ (i : Int) := by omega
  clear hq hsep
  by_cases hlt : i < b.length
  ·have i5 : (i : Int) < (b.length : Int) := by omega
   obtain ⟨x, hx⟩ : ∃ x, b[i]? = some x := ⟨_, List.getElem?_eq_getElem hlt⟩
   obtain ⟨b1, o1, d1, ta, tc, la, lc, e1, x0, x1, x2, xt, xl⟩ := H.out.at_ hx
   obtain ⟨rfl, rfl⟩ : va = some ⟨b1, o1, none⟩ ∧ vc = d1 := by simpa using e1
   have c0 := S.out.frm.cell x0 (by simp)
   have c1 : wr.cell? ⟨b1, o1 + i * 3 + 1, none⟩ = some (.slice la x.2.1.length lc) := by rw [Nat.add_assoc]; exact S.out.frm.cell x1 (by simp)
   have c2 : wr.cell? ⟨b1, o1 + i * 3 + 2, none⟩ = some (.bool x.2.2) := by rw [Nat.add_assoc]; exact S.out.frm.cell x2 (by simp)
   have hxm := List.mem_of_getElem? hx
   have HX := Lib.hid hx
   have hnx : b.take (i + 1) = b.take i ++ [x] := take_snoc hx
   have hnd := HOK.out.nd
   have hne : ∀ y ∈ b.take i, y.1 ≠ x.1 := fun y hy e => by
    obtain ⟨j, hj⟩ := List.getElem?_of_mem hy
    have hji : j < i := by have := (List.getElem?_eq_some_iff.1 hj).1; rw [List.length_take] at this; omega
    rw [List.getElem?_take_of_lt hji] at hj
    obtain ⟨h1, e1⟩ := List.getElem?_eq_some_iff.1 hj
    obtain ⟨h2, e2⟩ := List.getElem?_eq_some_iff.1 hx
    have h9 := (List.getElem_inj (i := j) (j := i) (h₀ := by simpa using h1) (h₁ := by simpa using h2) hnd).1 (by simp [e1, e2, e])
    omega
   have HSMX := Lib.hid (HOK.out.small x hxm)
   have hlx := HOK.out.len x hxm
   have HG := Lib.hid ((HOK.out.take i).miss HSMX.out hne)
   have HKN := Lib.hid (HOK.out.take i).keys
   have HNX : Hid (idxK (b.take (i + 1)) = idxK (b.take i) ++ [(keyS x.1, .int .i64 (i : Int))]) := Lib.hid (by
    rw [hnx, idxK_snoc, List.length_take, Nat.min_eq_left (by omega)])
   have S0 := Lib.hid (S.out.nil ((Frm.refl [] wr).alloc (.cells #[.slice ta x.1.length tc, .slice la x.2.1.length lc, .bool x.2.2] 69)))
   have XT := Lib.hid (xt.nil S0.out.frm)
   clear x0 x1 x2 xt xl e1 hx hne hnx hnd S
   go_wp2_with (first
    | (go_at_call 48; refine (key_any _ _ x.1 XT.out HSMX.out hlx).mono ?_; rintro e6 w6 ⟨rfl, hf6⟩; have S6 := Lib.hid (S0.out.nil hf6); have SK := Lib.hid ((S6.out.at_ 0 rfl : KM strV w6 w.heap.size (idxK (b.take i)))); clear hf6)
    | (at_mapUpdate; refine wpl_sput rfl _ _ _ _ rfl Tryz.underlying9 Tryz.underlying77 w.heap.size (idxK (b.take i)) rfl SK.out HKN.out (keyS x.1) rfl (.int .i64 (i : Int)) rfl HG.out ?_; intro w8 hk8 hf8 hs8; have S8 := Lib.hid (S6.out.step 0 (mapC w.heap.size (idxK (b.take (i + 1)))) rfl hf8 (by simp [mapC]) (by rw [HNX.out]; exact hk8) (by simp [mapC])); clear hk8 hf8 hs8)
    | fail)
   go_roundg (b.length - (i + 1))
   case rel => exact ⟨i + 1, rfl, by omega, by go_num, S8.out⟩
   case measure => have := HQ.out; omega
  ·have i5 : ¬ (i : Int) < (b.length : Int) := by omega
   have S9 := S.out
   rw [List.take_of_length_le (by omega)] at S9
   have SE := Lib.hid S9
   clear S9
   go_wp2_with fail
   go_ret
   exact ⟨_, rfl, SE.out⟩
end Go.Proofs.YtikpcipkkhmcfaaGreat.Beh
