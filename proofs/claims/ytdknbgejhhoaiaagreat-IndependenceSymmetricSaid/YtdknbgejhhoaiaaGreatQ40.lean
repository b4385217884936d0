/- Texts UA, UB, UC. -/
import Derived.Test.YtdknbgejhhoaiaaGreatQ36
import Derived.Test.YtdknbgejhhoaiaaGreatQ39
import Derived.Test.YtdknbgejhhoaiaaGreatQ28
/- slices.Clone of the rows of a system; contract of strong.Equal. -/
namespace Go.Proofs.YtdknbgejhhoaiaaGreat.Ind
open Go.Shelf Go.RowKit Go.Lib Go.Sort Go.Maps Go.Proofs.YtdknbgejhhoaiaaGreat.Beh

theorem lts_lat {w : World} {F : List Nat} {a : Option Addr} {c : Nat} {rows : List (List Ar)} (h : LtsAt w F (.slice a rows.length c) rows) (hl : rows.length ≤ 140737488355328) (hr : ∀ row ∈ rows, row.length ≤ 140737488355328) : LAt w.heap.size w a c rows := by
  obtain ⟨us, h1, h3⟩ := h
  have hrd : Rd w.heap.size w a rows.length c 1 us := h1.rd
  refine ⟨hrd.2, hrd.3, hl, fun i row hi => ?_⟩
  obtain ⟨u, hu, ho⟩ := h3 i row hi
  obtain ⟨b, o, e, hb, hc⟩ := hrd.4 i u hu
  obtain ⟨ra, rc, e2⟩ := ho.shape
  subst e2
  refine ⟨b, o, ra, rc, e, hb, hc, ?_⟩
  have hrd2 : Rd w.heap.size w ra row.length rc 2 (row.flatMap arE) := ho.rd
  refine ⟨hrd2.2, hrd2.3, hr row (List.mem_of_getElem? hi), fun j e' t hj => ?_⟩
  have g0 := flatMap_get (enc := arE) (k := 2) (fun _ => rfl) hj 0 (by decide)
  have g1 := flatMap_get (enc := arE) (k := 2) (fun _ => rfl) hj 1 (by decide)
  obtain ⟨b0, o0, e0, hb0, hc0⟩ := hrd2.4 (j * 2) (.int .i64 e') (by rw [Nat.add_zero] at g0; rw [g0]; rfl)
  obtain ⟨b1, o1, e1, hb1, hc1⟩ := hrd2.4 (j * 2 + 1) (.int .i64 t) (by rw [g1]; rfl)
  rw [e0] at e1
  cases e1
  exact ⟨b0, o0, e0, hb0, hc0, by rw [Nat.add_assoc]; exact hc1⟩

theorem infoRow : (Tryz.prog.info? 51).map (fun i => (i.zero, i.size, i.bytes)) = some (some (.slice none 0 0), 1, 24) := by kernel_rfl
set_option linter.unusedSimpArgs false in
set_option maxRecDepth 100000 in
set_option maxHeartbeats 4000000 in
theorem cloneO_any {F : List Nat} (w : World) (v : Value) (n : Nat) (us : List Value) (h : RowV w F v n 1 us) (h1 : ∀ u ∈ us, u.oneCell' = true) (hl : n ≤ 1000000) :
    Calls Tryz.prog 40 #[v] w fun e w' => (∃ a c, e = .returned (.slice a n c) ∧ w'.ownsRow w.heap.size 51 1 (.slice a n c) n us) ∧ Frm [] w w' := by
  obtain ⟨a, c, rfl⟩ := RowV.shape h
  cases a with
  | none =>
    obtain ⟨hx, a', c', e', hc1, _, h0, _⟩ := h
    cases e'
    have hc := h0 rfl
    subst hc
    have hn0 : n = 0 := by omega
    subst hn0
    have hl0 : us = [] := List.eq_nil_of_length_eq_zero (by omega)
    subst hl0
    have e1 := @Lib.run_eql_slice_nil Tryz.prog
    go_enter Tryz.func40, Tryz.ntmps40
    go_wp2_with fail
    go_ret
    exact ⟨⟨none, 0, rfl, rfl, .inl ⟨rfl, rfl⟩⟩, Frm.refl _ _⟩
  | some p =>
    have H := Lib.hid h
    clear h
    have e1 := @Lib.run_eql_slice_nil Tryz.prog
    go_enter Tryz.func40, Tryz.ntmps40
    go_wp2_with (first | (at_builtin; refine app_row rfl (.tmp 5) (.tmp 6) 23 51 _ 1 24 rfl Tryz.underlying23 infoRow rfl (by decide) (by decide) w.heap.size 0 (.slice (some ⟨w.heap.size, 0, none⟩) 0 0) [] rfl (owns_made0 w 51 1) _ n us F rfl (RowV.nil H.out ((Frm.refl [] w).alloc _)) h1 n (Nat.zero_add _) (by omega) (by simp) ?_; intro a1 c1 w1 own1 hf1 hl1) | fail)
    go_ret
    exact ⟨⟨a1, c1, rfl, by simpa using own1⟩, frm_own ((Frm.refl [] w).alloc _) (owns_made0 w 51 1) (Nat.le_refl _) hf1⟩
end Go.Proofs.YtdknbgejhhoaiaaGreat.Ind

/- Contract of strong.Equal. -/
namespace Go.Proofs.YtdknbgejhhoaiaaGreat.Ind
open Go.Shelf Go.RowKit Go.Lib Go.Sort Go.Maps Go.Proofs.YtdknbgejhhoaiaaGreat.Beh

def shR (n : Nat) (row : List Ar) : List Ar := row.map fun a => (a.1, a.2 + (n : Int))
def bothL (la lb : List (List Ar)) : List (List Ar) := la ++ lb.map (shR la.length)
/-- Rows that are the call's own, last first. -/
def ownRs (ps : List (Value × List Ar)) : List Go.Proofs.YtdknbgejhhoaiaaGreat.Chunk := ps.reverse.map fun p => ownC 55 2 p.1 p.2.length (p.2.flatMap arE)
theorem ownRs_snoc (ps : List (Value × List Ar)) (p : Value × List Ar) : ownRs (ps ++ [p]) = ownC 55 2 p.1 p.2.length (p.2.flatMap arE) :: ownRs ps := by simp [ownRs]
theorem both_lts {w0 w : World} {cs : List Go.Proofs.YtdknbgejhhoaiaaGreat.Chunk} {v : Value} {la : List (List Ar)} {us : List Value} {ps : List (Value × List Ar)} {N : Nat} (S : Sep w0 w ((ownC 51 1 v N (us ++ ps.map (·.1)) :: cs) ++ ownRs ps)) (h2 : ∀ (i : Nat) (r : List Ar), la[i]? = some r → ∃ u, us[i]? = some u ∧ RowV w0 [] u r.length 2 (r.flatMap arE)) (hl : us.length = la.length) (hN : N = (la ++ ps.map (·.2)).length) : LtsAt w [] v (la ++ ps.map (·.2)) := by
  subst hN
  refine ⟨us ++ ps.map (·.1), rowV_of_owns (S.at_ 0 rfl) (by simp), fun i r hr => ?_⟩
  by_cases hi : i < la.length
  · rw [List.getElem?_append_left hi] at hr
    obtain ⟨u, hu, h3⟩ := h2 i r hr
    exact ⟨u, by rw [List.getElem?_append_left (by omega)]; exact hu, h3.nil S.frm⟩
  · rw [List.getElem?_append_right (by omega), List.getElem?_map] at hr
    obtain ⟨p, hp, rfl⟩ := Option.map_eq_some_iff.1 hr
    refine ⟨p.1, by rw [List.getElem?_append_right (by omega), List.getElem?_map, hl, hp]; rfl, ?_⟩
    have hm : ownC 55 2 p.1 p.2.length (p.2.flatMap arE) ∈ ownRs ps := List.mem_map.2 ⟨p, List.mem_reverse.2 (List.mem_of_getElem? hp), rfl⟩
    exact rowV_of_owns (S.all _ (List.mem_cons_of_mem _ (List.mem_append_right _ hm))).1 (by simp)
def EqEnd (w : World) (la lb : List (List Ar)) (e : Ending) (w' : World) : Prop :=
  (∃ r, rnd (bothL la lb) (la.length + lb.length) (r + 1) = rnd (bothL la lb) (la.length + lb.length) r ∧ e = .returned (.bool (decide ((rnd (bothL la lb) (la.length + lb.length) r)[0]? = (rnd (bothL la lb) (la.length + lb.length) r)[la.length]?)))) ∧ Frm [] w w'
/-- A row whose first k arcs are moved. -/
def shK (n k : Nat) (row : List Ar) : List Ar := shR n (row.take k) ++ row.drop k
theorem shK_len (n k : Nat) (row : List Ar) : (shK n k row).length = row.length := by
  simp [shK, shR, List.length_take, List.length_drop]; omega
theorem shK_zero (n : Nat) (row : List Ar) : shK n 0 row = row := by simp [shK, shR]
theorem shK_all (n : Nat) (row : List Ar) : shK n row.length row = shR n row := by simp [shK]
theorem shK_at {n k : Nat} {row : List Ar} {a : Ar} (h : row[k]? = some a) : (shK n k row)[k]? = some a := by
  have hk := (List.getElem?_eq_some_iff.1 h).1
  rw [shK, List.getElem?_append_right (by simp [shR]; omega)]
  simp only [shR, List.length_map, List.length_take, List.getElem?_drop]
  rw [show k + (k - min k row.length) = k by omega]
  exact h
theorem shK_set {n k : Nat} {row : List Ar} {a : Ar} (h : row[k]? = some a) : (shK n k row).set k (a.1, a.2 + (n : Int)) = shK n (k + 1) row := by
  have hk := (List.getElem?_eq_some_iff.1 h).1
  have hd : row.drop k = a :: row.drop (k + 1) := by
    rw [List.drop_eq_getElem_cons hk]
    congr 1
    rw [List.getElem?_eq_getElem hk] at h
    simpa using h
  have hl : (shR n (row.take k)).length = k := by simp [shR]; omega
  rw [shK, shK, hd, List.set_append_right _ _ (by omega), hl, Nat.sub_self, List.set_cons_zero, take_snoc h]
  simp [shR]

set_option linter.unusedSimpArgs false in
set_option maxRecDepth 100000 in
set_option maxHeartbeats 8000000 in
theorem sequal_any (w : World) (av bv : Value) (la lb : List (List Ar)) (ha : LtsAt w [] av la) (hb : LtsAt w [] bv lb) (va : validB la = true) (vb : validB lb = true) (hok : LOk (bothL la lb) (la.length + lb.length)) (hn : la.length + lb.length ≤ 40000) :
    Calls Tryz.prog 15 #[.agg #[av], .agg #[bv]] w (EqEnd w la lb) := by
  obtain ⟨aa, ac, rfl, haf⟩ := ltsShape ha
  obtain ⟨ba, bc, rfl, hbf⟩ := ltsShape hb
  have hfa : ∀ row ∈ la, row.length ≤ 40000 := fun row hr => hok.few row (List.mem_append_left _ hr)
  have hfb : ∀ row ∈ lb, row.length ≤ 40000 := fun row hr => by
    have := hok.few (shR la.length row) (List.mem_append_right _ (List.mem_map.2 ⟨row, hr, rfl⟩))
    simpa [shR] using this
  have HVA : Hid (∀ W, Frm [] w W → Calls Tryz.prog 22 #[.agg #[.slice aa la.length ac]] W fun e w' => e = .returned (.bool true) ∧ Frm [] W w') := Lib.hid fun W hf => by
    have h9 := Go.Proofs.YtdknbgejhhoaiaaGreat.valid_any W.heap.size aa ac la W (lts_lat (ha.nil hf) (by omega) (fun row hr => by have := hfa row hr; omega))
    rw [va] at h9
    exact h9
  have HVB : Hid (∀ W, Frm [] w W → Calls Tryz.prog 22 #[.agg #[.slice ba lb.length bc]] W fun e w' => e = .returned (.bool true) ∧ Frm [] W w') := Lib.hid fun W hf => by
    have h9 := Go.Proofs.YtdknbgejhhoaiaaGreat.valid_any W.heap.size ba bc lb W (lts_lat (hb.nil hf) (by omega) (fun row hr => by have := hfb row hr; omega))
    rw [vb] at h9
    exact h9
  obtain ⟨us, hus, hin⟩ := id ha
  have hul : us.length = la.length := by have := hus.1; omega
  have huo : ∀ u ∈ us, u.oneCell' = true := fun u hu => by
    obtain ⟨i, hi⟩ := List.getElem?_of_mem hu
    obtain ⟨r, hr⟩ : ∃ r, la[i]? = some r := ⟨_, List.getElem?_eq_getElem (by rw [← hul]; exact (List.getElem?_eq_some_iff.1 hi).1)⟩
    obtain ⟨u', hu', h3⟩ := hin i r hr
    rw [hi] at hu'
    cases hu'
    obtain ⟨x, c, rfl⟩ := h3.shape
    rfl
  have HCO : Hid (∀ W, Frm [] w W → Calls Tryz.prog 40 #[.slice aa la.length ac] W fun e w' => (∃ a c, e = .returned (.slice a la.length c) ∧ w'.ownsRow W.heap.size 51 1 (.slice a la.length c) la.length us) ∧ Frm [] W w') := Lib.hid fun W hf => cloneO_any W _ la.length us (hus.nil hf) huo (by omega)
  have ha1 : 1 ≤ la.length := (loose_facts (by simp only [validB, Bool.and_eq_true] at va; exact va.1)).1
  have hb1 : 1 ≤ lb.length := (loose_facts (by simp only [validB, Bool.and_eq_true] at vb; exact vb.1)).1
  have HIN := Lib.hid hin
  have HUL := Lib.hid hul
  have HUO := Lib.hid huo
  have HB := Lib.hid hb
  have HOK := Lib.hid hok
  have HFB := Lib.hid hfb
  have i1 : (la.length : Int) ≤ 40000 := by omega
  have i2 : (lb.length : Int) ≤ 40000 := by omega
  have HN := Lib.hid hn
  clear ha hb va vb hok hfa hfb hus hin hul huo hn
  go_enter Tryz.func15, Tryz.ntmps15
  obtain ⟨W, hW⟩ : ∃ W, W = (w.alloc (.cells #[.slice aa la.length ac] 25)).alloc (.cells #[.slice ba lb.length bc] 25) := ⟨_, rfl⟩
  have S1 : Hid (Sep w W [boxC (w.heap.size + 1) 25 [.slice ba lb.length bc], boxC w.heap.size 25 [.slice aa la.length ac]]) := Lib.hid (by
    rw [hW]
    exact ((Sep.start w).add (boxC w.heap.size 25 [.slice aa la.length ac]) ((Frm.refl [] w).alloc _) (RowAt.made w 25 _ #[.slice aa la.length ac] rfl) (by simp [boxC])).add (boxC (w.heap.size + 1) 25 [.slice ba lb.length bc]) ((Frm.refl [] _).alloc _) (row_made1 w _ 25 [.slice ba lb.length bc] #[.slice ba lb.length bc] rfl) (by simp [boxC]))
  go_wp2_with fail
  rw [← hW]
  clear hW
  have b0 := (show RowAt W w.heap.size 25 [.slice aa la.length ac] from S1.out.at_ 1 rfl).cell (i := 0) rfl
  have b1 := (show RowAt W (w.heap.size + 1) 25 [.slice ba lb.length bc] from S1.out.at_ 0 rfl).cell (i := 0) rfl
  refine (HVA.out W S1.out.frm).mono ?_
  rintro e1 w1 ⟨rfl, hf1⟩
  have S2 := Lib.hid (S1.out.nil hf1)
  have b2 := hf1.cell b0 (by simp)
  have b3 := hf1.cell b1 (by simp)
  clear b0 b1 hf1
  go_wp2_with fail
  refine (HVB.out w1 S2.out.frm).mono ?_
  rintro e2 w2 ⟨rfl, hf2⟩
  have S3 := Lib.hid (S2.out.nil hf2)
  have b4 := hf2.cell b2 (by simp)
  have b5 := hf2.cell b3 (by simp)
  clear b2 b3 hf2
  go_wp2_with fail
  refine (HCO.out w2 S3.out.frm).mono ?_
  rintro e3 w3 ⟨⟨a3, c3, rfl, own3⟩, hf3⟩
  have S4 := Lib.hid (S3.out.add (ownC 51 1 (.slice a3 la.length c3) la.length us) hf3 (ownC_of own3) (ownC_new own3))
  have b6 := hf3.cell b4 (by simp)
  have b7 := hf3.cell b5 (by simp)
  have s3 : w.heap.size + 1 < w3.heap.size := S4.out.lt 1 rfl (by simp [boxC])
  clear b4 b5 b6 hf3 own3
  go_wp2_with fail
  obtain ⟨V, hV⟩ : ∃ V, V = w3.alloc (.cells #[.slice a3 la.length c3] 25) := ⟨_, rfl⟩
  obtain ⟨g6, hg6⟩ : ∃ g, g = w3.heap.size := ⟨_, rfl⟩
  have S5 : Hid (Sep w V ([ownC 51 1 (.slice a3 la.length c3) la.length us, boxC g6 25 [.slice a3 la.length c3], boxC (w.heap.size + 1) 25 [.slice ba lb.length bc]] ++ ownRs [])) := Lib.hid (by
    rw [hV, hg6]
    exact ((S4.out.add (boxC w3.heap.size 25 [.slice a3 la.length c3]) ((Frm.refl [] w3).alloc _) (RowAt.made w3 25 _ #[.slice a3 la.length c3] rfl) (by simp [boxC])).pull 1 rfl).take 3)
  rw [← hV, ← hg6]
  clear hV hg6 s3 b7 S4 S3 S2 S1
  go_loopg [30] lb.length (fun q t30 wr => ∃ (k N : Nat) (a6 : Option Addr) (c6 : Nat) (ps : List (Value × List Ar)), q = lb.length - k ∧ k ≤ lb.length ∧ N = la.length + k ∧ t30 = .int .i64 k ∧ ps.map (·.2) = (lb.take k).map (shR la.length) ∧ (∀ p ∈ ps, p.1.oneCell' = true) ∧ Sep w wr ([ownC 51 1 (.slice a6 N c6) N (us ++ ps.map (·.1)), boxC g6 25 [.slice a6 N c6], boxC (w.heap.size + 1) 25 [.slice ba lb.length bc]] ++ ownRs ps))
  case atStart => exact ⟨0, la.length, a3, c3, [], rfl, Nat.zero_le _, rfl, rfl, rfl, by simp, by simpa using S5.out⟩
  case round =>
    clear S5
    obtain ⟨k, N, a6, c6, ps, hq, hk, hN, rfl, hps, hone, hs⟩ := hrel
    have HQ := Lib.hid hq
    have HNN := Lib.hid hN
    have HPS := Lib.hid hps
    have HONE := Lib.hid hone
    have S := Lib.hid hs
    have i4 : (0 : Int) ≤ (k : Int) := by omega
    have i6 : N ≤ 40000 := by have := HN.out; omega
    have i7 : (N : Int) ≤ 40000 := by omega
    clear hq hs hN hps hone
    by_cases hlt : k < lb.length
    · have i5 : (k : Int) < (lb.length : Int) := by omega
      obtain ⟨row, hrow⟩ : ∃ row, lb[k]? = some row := ⟨_, List.getElem?_eq_getElem hlt⟩
      have hrm := List.mem_of_getElem? hrow
      obtain ⟨bb, bo, ra, rc, rfl, hlb, hlcell, hrv⟩ := ltsAt HB.out hrow
      have k1 := S.out.frm.cell hlcell (by simp)
      have hrl := HFB.out row hrm
      have HCL : Hid (∀ W, Frm [] wr W → Calls Tryz.prog 41 #[.slice ra row.length rc] W fun e w' => (∃ a c, e = .returned (.slice a row.length c) ∧ w'.ownsRow W.heap.size 55 2 (.slice a row.length c) row.length (row.flatMap arE)) ∧ Frm [] W w') := Lib.hid fun W hf => cloneRow_any W _ row (hrv.nil (S.out.frm.trans hf (by simp))) (by omega)
      have HROW := Lib.hid hrow
      have HRM : Hid (∀ a ∈ row, 0 ≤ a.2 + (la.length : Int) ∧ a.2 + (la.length : Int) ≤ 40000) := Lib.hid fun a ha => by
        have h9 := HOK.out.ok (shR la.length row) (List.mem_append_right _ (List.mem_map.2 ⟨row, hrm, rfl⟩)) (a.1, a.2 + (la.length : Int)) (List.mem_map.2 ⟨a, ha, rfl⟩)
        have := HN.out
        have h8 := h9.2.2
        simp only at h8
        omega
      clear hlcell hrv hrow hrm
      go_wp2_with fail
      refine (HCL.out _ (Frm.refl [] _)).mono ?_
      rintro e4 w4 ⟨⟨a4, c4, rfl, own4⟩, hf4⟩
      have S6 := Lib.hid (S.out.add (ownC 55 2 (.slice a4 row.length c4) row.length (row.flatMap arE)) hf4 (ownC_of own4) (ownC_new own4))
      clear hf4 own4
      go_wp2_with fail
      obtain ⟨w5, hw5⟩ : ∃ x, x = wr := ⟨wr, rfl⟩
      rw [← hw5] at S HCL k1
      clear hw5
      go_loopg [38] row.length (fun q t38 wr => ∃ (j : Nat), q = row.length - j ∧ j ≤ row.length ∧ t38 = .int .i64 j ∧ Sep w wr (ownC 55 2 (.slice a4 row.length c4) row.length ((shK la.length j row).flatMap arE) :: ([ownC 51 1 (.slice a6 N c6) N (us ++ ps.map (·.1)), boxC g6 25 [.slice a6 N c6], boxC (w.heap.size + 1) 25 [.slice (some ⟨bb, bo, none⟩) lb.length bc]] ++ ownRs ps)))
      case atStart => exact ⟨0, rfl, Nat.zero_le _, rfl, by rw [shK_zero]; exact S6.out⟩
      case round =>
        clear S6
        obtain ⟨j, hq, hj, rfl, hs⟩ := hrel
        have HQ2 := Lib.hid hq
        have S7 := Lib.hid hs
        have j4 : (0 : Int) ≤ (j : Int) := by omega
        have j6 : (row.length : Int) ≤ 40000 := by omega
        clear hq hs
        by_cases hjl : j < row.length
        · have j5 : (j : Int) < (row.length : Int) := by omega
          obtain ⟨a, haj⟩ : ∃ a, row[j]? = some a := ⟨_, List.getElem?_eq_getElem hjl⟩
          obtain ⟨ev, tt⟩ := a
          obtain ⟨m1, m2⟩ := HRM.out _ (List.mem_of_getElem? haj)
          simp only at m1 m2
          obtain ⟨g4, c4', e0, _, _⟩ := ownC_some (S7.out.at_ 0 rfl) (by omega)
          obtain ⟨rfl, rfl⟩ : a4 = some ⟨g4, 0, none⟩ ∧ c4 = c4' := by simpa using e0
          have hcur := shK_at (n := la.length) haj
          have g1 := flatMap_get (enc := arE) (k := 2) (fun _ => rfl) hcur 1 (by decide)
          have x1 : wr.cell? ⟨g4, j * 2 + 1, none⟩ = some (.int .i64 tt) := ownC_cell (S7.out.at_ 0 rfl) (by rw [g1]; rfl)
          have z1 : wr.frozen? ⟨g4, j * 2 + 1, none⟩ = false := ownC_frozen (S7.out.at_ 0 rfl) _
          have SD := Lib.hid (S7.out.put 0 rfl (j * 2 + 1) (.int .i64 (tt + (la.length : Int))))
          have HAJ := Lib.hid haj
          have ho : IntKind.i64.wrap (tt + (la.length : Int)) = tt + (la.length : Int) := IntWalk.i64_in _ (by omega)
          clear e0 hcur g1 haj
          go_wp2_with fail
          go_roundg (row.length - (j + 1))
          case rel =>
            refine ⟨j + 1, rfl, by omega, by go_num, ?_⟩
            have h9 := SD.out
            simp only [List.set_cons_zero] at h9
            rw [← arE_set (shK_at HAJ.out), show (shK la.length j row).set j (ev, tt + (la.length : Int)) = shK la.length (j + 1) row from shK_set HAJ.out] at h9
            exact h9
          case measure => have := HQ2.out; omega
        · have j5 : ¬ (j : Int) < (row.length : Int) := by omega
          have hjr : j = row.length := by omega
          have h9 := S7.out
          rw [hjr, shK_all] at h9
          have S8 := Lib.hid h9
          have d0 := (show RowAt wr g6 25 [.slice a6 N c6] from S8.out.at_ 2 rfl).cell (i := 0) rfl
          have z0 := (show RowAt wr g6 25 [.slice a6 N c6] from S8.out.at_ 2 rfl).frozen 0
          have l6 : g6 < wr.heap.size := S8.out.lt 2 rfl (by simp [boxC])
          clear h9 S7
          go_wp2_with (first | (at_builtin; refine app_row rfl (.tmp 52) (.tmp 54) 23 51 _ 1 24 rfl Tryz.underlying23 infoRow rfl (by decide) (by decide) 0 N (.slice a6 N c6) _ rfl (ownsB_frm (S8.out.at_ 1 rfl) ((Frm.refl [] wr).alloc _) (by simp)) _ 1 [.slice a4 row.length c4] [] rfl (rowV_cells (size := 1) (RowAt.made wr 51 [.slice a4 row.length c4] #[.slice a4 row.length c4] rfl) rfl (Nat.le_refl _) (by decide) (by simp)) (by simp [Value.oneCell']) (N + 1) rfl (by omega) (by simp) ?_; intro a8 c8 w8 own8 hf8 hb8; have S9 := Lib.hid ((S8.out.nil ((Frm.refl [] wr).alloc (.cells #[.slice a4 row.length c4] 51))).step 1 (ownC 51 1 (.slice a8 (N + 1) c8) (N + 1) ((us ++ ps.map (·.1)) ++ [.slice a4 row.length c4])) rfl hf8 (fun k hk => .inl hk) (ownC_of own8) (fresh_own hb8)); have d1 := (show RowAt w8 g6 25 [.slice a6 N c6] from S9.out.at_ 2 rfl).cell (i := 0) rfl; have zz := (show RowAt w8 g6 25 [.slice a6 N c6] from S9.out.at_ 2 rfl).frozen 0; have SB := Lib.hid (S9.out.putBox 2 rfl 0 (.slice a8 (N + 1) c8)); clear own8 hf8 hb8) | fail)
          go_roundg (lb.length - (k + 1))
          case rel =>
            refine ⟨k + 1, N + 1, a8, c8, ps ++ [(.slice a4 row.length c4, shR la.length row)], rfl, by omega, by have := HNN.out; omega, by go_num, ?_, ?_, ?_⟩
            · rw [List.map_append, HPS.out, take_snoc HROW.out, List.map_append]
              rfl
            · intro p hp
              rcases List.mem_append.1 hp with hp | hp
              · exact HONE.out p hp
              · rw [List.mem_singleton.1 hp]
                rfl
            · have h9 := (((SB.out.pull 3 rfl).pull 3 rfl).pull 3 rfl)
              rw [ownRs_snoc, List.map_append, ← List.append_assoc]
              have hsl : (shR la.length row).length = row.length := by simp [shR]
              dsimp only
              rw [hsl]
              exact h9
          case measure => have := HQ.out; omega
    · have i5 : ¬ (k : Int) < (lb.length : Int) := by omega
      have hkl : k = lb.length := by omega
      have hNl : Hid (N = (la ++ ps.map (·.2)).length) := Lib.hid (by rw [List.length_append, HPS.out, List.length_map, List.length_take, HNN.out]; omega)
      have hps2 : la ++ ps.map (·.2) = bothL la lb := by rw [HPS.out, hkl, List.take_length]; rfl
      have hlts := both_lts S.out HIN.out HUL.out hNl.out
      have hne : N = la.length + lb.length := by rw [HNN.out, hkl]
      rw [hps2] at hlts
      subst hne
      have HLTS := Lib.hid hlts
      have d0 := (show RowAt wr g6 25 [.slice a6 (la.length + lb.length) c6] from S.out.at_ 1 rfl).cell (i := 0) rfl
      have HK := Lib.hid (classes_any wr (.slice a6 (la.length + lb.length) c6) (bothL la lb) (la.length + lb.length) hlts HOK.out HN.out)
      clear hlts hps2
      go_wp2_with fail
      refine HK.out.mono ?_
      rintro e6 w6 ⟨a7, c7, r, rfl, hr, hs6⟩
      obtain ⟨g7, c7', e0, _, _⟩ := ownC_some (hs6.at_ 0 rfl) (by omega)
      obtain ⟨rfl, rfl⟩ : a7 = some ⟨g7, 0, none⟩ ∧ c7 = c7' := by simpa using e0
      obtain ⟨x, hx⟩ : ∃ x, (rnd (bothL la lb) (la.length + lb.length) r)[0]? = some x := ⟨_, List.getElem?_eq_getElem (by rw [rnd_len]; omega)⟩
      obtain ⟨y, hy⟩ : ∃ x, (rnd (bothL la lb) (la.length + lb.length) r)[la.length]? = some x := ⟨_, List.getElem?_eq_getElem (by rw [rnd_len]; omega)⟩
      have x0 : w6.cell? ⟨g7, 0, none⟩ = some (.int .i64 x) := ownC_cell (hs6.at_ 0 rfl) (ints_get hx)
      have y0 : w6.cell? ⟨g7, la.length, none⟩ = some (.int .i64 y) := ownC_cell (hs6.at_ 0 rfl) (ints_get hy)
      have HF := Lib.hid (S.out.frm.trans hs6.frm (by simp))
      have HR := Lib.hid hr
      have HX := Lib.hid hx
      have HY := Lib.hid hy
      have j1 : (0 : Int) < (la.length : Int) + (lb.length : Int) := by omega
      have j2 : (la.length : Int) < (la.length : Int) + (lb.length : Int) := by omega
      clear hr hx hy hs6 e0
      go_wp2_with fail
      go_quiet (fail)
      go_wp2_with fail
      go_ret
      refine ⟨⟨r, HR.out, ?_⟩, HF.out.drewN nq⟩
      rw [HX.out, HY.out]
      show Ending.returned (.bool (x == y)) = .returned (.bool (decide (some x = some y)))
      congr 2
      by_cases h : x = y <;> simp [h]
end Go.Proofs.YtdknbgejhhoaiaaGreat.Ind

/- Plain: what is alike stays alike in every round. -/
namespace Go.Proofs.YtdknbgejhhoaiaaGreat.Ind
open Go.RowKit

theorem mem_sigB {cls : List Int} {row : List Ar} {x : Ar} : x ∈ sigB cls row ↔ ∃ a ∈ row, (a.1, cls[a.2.toNat]?.getD 0) = x := by
  rw [sigB, mem_setG sto_Ar, mkL, List.mem_map]
/-- A relation whose arcs are matched both ways. -/
structure Bis (L : List (List Ar)) (R : Nat → Nat → Prop) : Prop where
  lt : ∀ i j, R i j → i < L.length ∧ j < L.length
  go : ∀ i j, R i j → ∀ a ∈ L[i]?.getD [], ∃ b ∈ L[j]?.getD [], b.1 = a.1 ∧ R a.2.toNat b.2.toNat
  back : ∀ i j, R i j → ∀ b ∈ L[j]?.getD [], ∃ a ∈ L[i]?.getD [], b.1 = a.1 ∧ R a.2.toNat b.2.toNat
theorem keysS_get {l : List (List Ar)} {cls : List Int} {s : Nat} (hs : s < cls.length) : (keysS l cls)[s]? = some (cls[s]?.getD 0, sigB cls (l[s]?.getD [])) := by
  simp [keysS, List.getElem?_range hs]
theorem bis_rnd {L : List (List Ar)} {R : Nat → Nat → Prop} (h : Bis L R) : ∀ (r i j : Nat), R i j → (rnd L L.length r)[i]? = (rnd L L.length r)[j]? := by
  intro r
  induction r with
  | zero =>
    intro i j hr
    obtain ⟨hi, hj⟩ := h.lt i j hr
    rw [rnd_zero, List.getElem?_replicate, List.getElem?_replicate, if_pos hi, if_pos hj]
  | succ r ih =>
    intro i j hr
    obtain ⟨hi, hj⟩ := h.lt i j hr
    have hl := rnd_len L L.length r
    have e1 : (ksR L L.length (r + 1))[i]? = some ((rnd L L.length r)[i]?.getD 0, sigB (rnd L L.length r) (L[i]?.getD [])) := keysS_get (by rw [← hl] at hi; exact hi)
    have e2 : (ksR L L.length (r + 1))[j]? = some ((rnd L L.length r)[j]?.getD 0, sigB (rnd L L.length r) (L[j]?.getD [])) := keysS_get (by rw [← hl] at hj; exact hj)
    have hs : sigB (rnd L L.length r) (L[i]?.getD []) = sigB (rnd L L.length r) (L[j]?.getD []) := by
      refine asc_uniq sto_Ar (setG_asc sto_Ar _) (setG_asc sto_Ar _) (fun x => ?_)
      show x ∈ sigB _ _ ↔ x ∈ sigB _ _
      rw [mem_sigB, mem_sigB]
      constructor
      · rintro ⟨a, ha, rfl⟩
        obtain ⟨b, hb, e, hab⟩ := h.go i j hr a ha
        exact ⟨b, hb, by rw [e, ih _ _ hab]⟩
      · rintro ⟨b, hb, rfl⟩
        obtain ⟨a, ha, e, hab⟩ := h.back i j hr b hb
        exact ⟨a, ha, by rw [e, ih _ _ hab]⟩
    rw [← ih i j hr, ← hs] at e2
    have o := numL_ok (ksR L L.length (r + 1))
    rw [rnd, o.at_ i _ e1, o.at_ j _ e2]
end Go.Proofs.YtdknbgejhhoaiaaGreat.Ind
