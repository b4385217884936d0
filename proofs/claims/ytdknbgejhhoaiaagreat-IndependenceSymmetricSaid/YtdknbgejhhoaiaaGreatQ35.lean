/- Texts S3, U7. -/
import Derived.Test.YtdknbgejhhoaiaaGreatQ04
import Derived.Test.YtdknbgejhhoaiaaGreatQ32
import Derived.Test.YtdknbgejhhoaiaaGreatQ23
import Derived.Test.YtdknbgejhhoaiaaGreatQ33
import Derived.Test.YtdknbgejhhoaiaaGreatQ34
import Derived.Test.YtdknbgejhhoaiaaGreatQ01
import Derived.Test.YtdknbgejhhoaiaaGreatQ21
import Derived.Deep.RegionHeld3
import Derived.Test.YtdknbgejhhoaiaaGreatQ29
import Derived.Test.YtdknbgejhhoaiaaGreatQ30
import Derived.Test.YtdknbgejhhoaiaaGreatQ31
/- Contract of rows.Canonical. -/
namespace Go.Proofs.YtdknbgejhhoaiaaGreat.Ind
open Go.Shelf Go.RowKit Go.Lib Go.Sort

abbrev arcsC (v : Value) (n : Nat) (l : List Ar) : Go.Proofs.YtdknbgejhhoaiaaGreat.Chunk := ownC 55 2 v n (l.flatMap arE)
abbrev intsC (v : Value) (n : Nat) (xs : List Int) : Go.Proofs.YtdknbgejhhoaiaaGreat.Chunk := ownC 3 1 v n (ints xs)
abbrev outC (v : Value) (us : List Value) (rows : List (List Ar)) : Go.Proofs.YtdknbgejhhoaiaaGreat.Chunk := ownsC 51 55 2 (fun l => l.flatMap arE) v us rows
/-- Sorting and striking gives the set. -/
theorem arcs_sorted (l : List Ar) : compG (l.mergeSort fun x y => !ltOf cmpAr y x) = setG ltAr l := by
  refine comp_set sto_Ar (fun x => (List.mergeSort_perm _ _).mem_iff) ?_
  exact (pw_merge sto_ar l).imp fun {a b} hab => by rw [cmpAr_lt] at hab; exact hab
theorem setAr_sorted (l : List Ar) (h : l.Nodup) : (l.mergeSort fun x y => !ltOf cmpAr y x) = setG ltAr l := row_sorted h
theorem rowV_of_rowR {w : World} {B : Nat} {p : Addr} {c : Nat} {row : List Ar} (h : RowR B w (some p) c row) (hB : B ≤ w.heap.size) : RowV w [] (.slice (some p) row.length c) row.length 2 (row.flatMap arE) := by
  have hlen := flatMap_len (enc := arE) (k := 2) (fun _ => rfl) row
  refine ⟨hlen, some p, c, rfl, h.1, h.2.1, (fun h => by cases h), fun i u hu => ?_⟩
  have hi : i < row.length * 2 := by rw [← hlen]; exact (List.getElem?_eq_some_iff.1 hu).1
  obtain ⟨⟨e, t⟩, hx⟩ : ∃ x, row[i / 2]? = some x := ⟨_, List.getElem?_eq_getElem (by omega)⟩
  obtain ⟨b, o, e2, hb, h1, h2⟩ := h.2.2.2 _ _ _ hx
  have hg := flatMap_get (enc := arE) (k := 2) (fun _ => rfl) hx (i % 2) (Nat.mod_lt _ (by decide))
  rw [show i / 2 * 2 + i % 2 = i by omega, hu] at hg
  refine ⟨b, o, e2, by simp, by omega, ?_⟩
  rcases (show i % 2 = 0 ∨ i % 2 = 1 by omega) with hm | hm
  · rw [hm] at hg
    have hu2 : u = .int .i64 e := by simpa [arE] using hg
    rw [hu2, show o + i = o + i / 2 * 2 by omega]
    exact h1
  · rw [hm] at hg
    have hu2 : u = .int .i64 t := by simpa [arE] using hg
    rw [hu2, show o + i = o + i / 2 * 2 + 1 by omega]
    exact h2
/-- slices.Clone of a row that is drawn. -/
theorem cloneR_any (w : World) (a : Option Addr) (c : Nat) (row : List Ar) (h : RowR w.heap.size w a c row) (hl : row.length ≤ 1000000) :
    Calls Tryz.prog 41 #[.slice a row.length c] w fun e w' => (∃ a' c', e = .returned (.slice a' row.length c') ∧ w'.ownsRow w.heap.size 55 2 (.slice a' row.length c') row.length (row.flatMap arE)) ∧ Frm [] w w' := by
  cases a with
  | none =>
    have hl0 : row = [] := by
      cases row with
      | nil => rfl
      | cons x r =>
        obtain ⟨b, o, e, _⟩ := h.2.2.2 0 x.1 x.2 rfl
        cases e
    subst hl0
    simp only [List.length_nil]
    have e1 := @Lib.run_eql_slice_nil Tryz.prog
    clear h
    go_enter Tryz.func41, Tryz.ntmps41
    go_wp2_with fail
    go_ret
    exact ⟨⟨none, 0, rfl, rfl, .inl ⟨rfl, rfl⟩⟩, Frm.refl _ _⟩
  | some p => exact cloneRow_any w _ row (rowV_of_rowR h (Nat.le_refl _)) hl
theorem loose_row (n : Nat) : ∀ (c : Nat) (l : Lts), looseGo n c l = true → ∀ row ∈ l, row.length ≤ 262144 ∧ ∀ x ∈ row, 0 ≤ x.1 ∧ x.1 ≤ 1025 ∧ 0 ≤ x.2 ∧ x.2 < n
  | _, [], _, row, hr => by simp at hr
  | c, x :: r, h, row, hr => by
    simp only [looseGo, Bool.and_eq_true, decide_eq_true_eq] at h
    rcases List.mem_cons.1 hr with rfl | hr
    · exact ⟨by omega, fun y hy => arcOk_true (List.all_eq_true.1 h.2.1 y hy)⟩
    · exact loose_row n _ r h.2.2 row hr
theorem loose_facts {l : Lts} (h : looseB l = true) : 1 ≤ l.length ∧ l.length ≤ 16384 ∧ Into l ∧ ∀ row ∈ l, row.length ≤ 262144 := by
  simp only [looseB, Bool.and_eq_true, decide_eq_true_eq] at h
  obtain ⟨⟨h1, h2⟩, h3⟩ := h
  have hr := loose_row _ _ _ h3
  exact ⟨h1, h2, fun row hrow a ha => ⟨((hr row hrow).2 a ha).2.2.1, ((hr row hrow).2 a ha).2.2.2⟩, fun row hrow => (hr row hrow).1⟩
/-- What Canonical hands back for a loose system. -/
def CanEnd (w : World) (l : Lts) (e : Ending) (w' : World) : Prop :=
  ∃ ov oldv us, e = .returned (.tuple #[.agg #[ov], oldv, .int .i64 0]) ∧ Sep w w' [intsC oldv (canB l).no.2.length (canB l).no.2, outC ov us (canB l).out]
/-- What lies in memory while Canonical runs. -/
abbrev canL (b0 : Nat) (l : Lts) (a : Option Addr) (cap gn : Nat) (no : NO) (oldv ov : Value) (us : List Value) (out : List (List Ar)) : List Go.Proofs.YtdknbgejhhoaiaaGreat.Chunk :=
  [outC ov us out, intsC oldv no.2.length no.2, intsC (.slice (some ⟨gn, 0, none⟩) l.length l.length) l.length no.1, boxC (b0 + 1) 25 [.slice none 0 0], boxC b0 25 [.slice a l.length cap]]
theorem arE_set {l : List Ar} {k : Nat} {e t v : Int} (h : l[k]? = some (e, t)) : (l.set k (e, v)).flatMap arE = (l.flatMap arE).set (k * 2 + 1) (.int .i64 v) := by
  have hk := (List.getElem?_eq_some_iff.1 h).1
  rw [setA2 l k (e, v) hk]
  show ((l.flatMap arE).set (k * 2) (.int .i64 e)).set (k * 2 + 1) (.int .i64 v) = _
  have h0 := flatMap_get (enc := arE) (k := 2) (fun _ => rfl) h 0 (by decide)
  rw [Nat.add_zero] at h0
  obtain ⟨h1, h2⟩ := List.getElem?_eq_some_iff.1 h0
  rw [show (Value.int IntKind.i64 e) = (l.flatMap arE)[k * 2] from h2.symm, List.set_getElem_self]
theorem set_mid {α : Type} (A B : List α) (x y : α) : (A ++ x :: B).set A.length y = (A ++ [y]) ++ B := by
  rw [List.set_append_right _ _ (Nat.le_refl _), Nat.sub_self]
  simp

set_option linter.unusedSimpArgs false in
set_option maxRecDepth 100000 in
set_option maxHeartbeats 8000000 in
theorem canonical_any (a : Option Addr) (cap : Nat) (l : Lts) (w : World) (h : LAt w.heap.size w a cap l) (hloose : looseB l = true) :
    Calls Tryz.prog 23 #[.agg #[.slice a l.length cap]] w (CanEnd w l) := by
  obtain ⟨hn1, hn2, hinto, hrows⟩ := loose_facts hloose
  have hlo := fun W (hf : Frm [] w W) => loose_any w.heap.size a cap l W (h.nil hf rfl)
  rw [hloose] at hlo
  obtain ⟨r00, hr00⟩ : ∃ r, l[0]? = some r := ⟨_, List.getElem?_eq_getElem (by omega)⟩
  obtain ⟨lb, lo, _, _, rfl, hlb, _, _⟩ := h.cell 0 r00 hr00
  have hcapl : (l.length : Int) ≤ (cap : Int) := by have := h.le; omega
  have H := Lib.hid h
  have HLO := Lib.hid hlo
  have HINTO := Lib.hid hinto
  have HROWS := Lib.hid hrows
  have f0 : Frm [] w ((w.alloc (.cells #[.slice (some ⟨lb, lo, none⟩) l.length cap] 25)).alloc (.cells #[.slice none 0 0] 25)) := ((Frm.refl [] w).alloc _).alloc _
  have s0 : Sep w ((w.alloc (.cells #[.slice (some ⟨lb, lo, none⟩) l.length cap] 25)).alloc (.cells #[.slice none 0 0] 25)) [boxC (w.heap.size + 1) 25 [.slice none 0 0], boxC w.heap.size 25 [.slice (some ⟨lb, lo, none⟩) l.length cap]] :=
    ((Sep.start w).add (boxC w.heap.size 25 [.slice (some ⟨lb, lo, none⟩) l.length cap]) ((Frm.refl [] w).alloc _) (RowAt.made w _ _ _ rfl) (by simp [boxC])).add (boxC (w.heap.size + 1) 25 [.slice none 0 0]) ((Frm.refl [] _).alloc _) (row_made1 w _ _ _ _ rfl) (by simp [boxC])
  have S0 := Lib.hid s0
  clear h hlo hinto hrows hloose hr00 s0
  go_enter Tryz.func23, Tryz.ntmps23
  go_wp2_with fail
  refine (HLO.out _ f0).mono ?_
  rintro e1 w1 ⟨rfl, hf1⟩
  have S1 := Lib.hid (S0.out.nil hf1)
  have cb := (show RowAt w1 w.heap.size 25 [.slice (some ⟨lb, lo, none⟩) l.length cap] from S1.out.at_ 1 rfl).cell (i := 0) rfl
  have lb0 : w.heap.size < w1.heap.size := S1.out.lt 1 rfl (by simp [boxC])
  clear f0 hf1 S0
  go_wp2_with fail
  refine (repeat_any w1.heap.size 0 1 l.length (-1) _ ((RowAt.made w1 3 [.int .i64 (-1)] #[.int .i64 (-1)] rfl).cell (i := 0) rfl) hn1 (by omega)).mono ?_
  rintro e2 w2 ⟨gn, rfl, own2, hf2⟩
  have S2 := Lib.hid ((S1.out.nil ((Frm.refl [] w1).alloc (.cells #[.int .i64 (-1)] 3))).add (intsC (.slice (some ⟨gn, 0, none⟩) l.length l.length) l.length (List.replicate l.length (-1))) hf2 (ownC_of own2) (ownC_new own2))
  have c2 : w2.cell? ⟨gn, 0, none⟩ = some (.int .i64 (-1)) := ownC_cell (S2.out.at_ 0 rfl) (ints_get (by rw [List.getElem?_replicate, if_pos (by omega)]))
  have z2 : w2.frozen? ⟨gn, 0, none⟩ = false := ownC_frozen (S2.out.at_ 0 rfl) 0
  have il1 : (0 : Int) < (l.length : Int) := by omega
  have il2 : (l.length : Int) ≤ 16384 := by omega
  have lgn : gn < w2.heap.size := S2.out.lt 0 rfl (by simp [ownC, Value.ownBlock])
  clear own2 hf2 S1 cb lb0
  go_wp2_with fail
  obtain ⟨V, hV⟩ : ∃ V, V = (w2.setCell ⟨gn, 0, none⟩ (.int .i64 0)).alloc (.cells #[.int .i64 0] 3) := ⟨_, rfl⟩
  have hsz2 : (w2.setCell ⟨gn, 0, none⟩ (.int .i64 0)).heap.size = w2.heap.size := by simp [World.setCell]
  have S3 : Hid (Sep w V (canL w.heap.size l (some ⟨lb, lo, none⟩) cap gn (canStart l.length).no (.slice (some ⟨w2.heap.size, 0, none⟩) 1 1) (.slice none 0 0) [] [])) := Lib.hid (by
    rw [hV]
    have h3 := S2.out.put 0 rfl 0 (.int .i64 0)
    rw [← ints_set] at h3
    have h4 := h3.add (intsC (.slice (some ⟨w2.heap.size, 0, none⟩) 1 1) 1 [0]) ((Frm.refl [] _).alloc (.cells #[.int .i64 0] 3)) (ownC_of (by
      have := owns_fullB (w2.setCell ⟨gn, 0, none⟩ (.int .i64 0)) 0 3 1 1 [.int .i64 0] #[.int .i64 0] rfl rfl (by decide) (by omega)
      rw [hsz2] at this
      exact this)) (by simp [ownC, Value.ownBlock])
    exact h4.add (outC (.slice none 0 0) [] []) (Frm.refl [] _) (ownsC_nil _ _ _ _ _) (by simp [ownsC, Value.ownBlock]))
  rw [← hV]
  clear hV S2 c2 z2 hsz2
  go_loopg [6, 7, 8] (l.length + 1) (fun q t6 t7 t8 wr => ∃ (f i : Nat) (s : CB) (us : List Value), q = f ∧ f + i = l.length + 1 ∧ CanOk l s i ∧ canGo l f s i = canB l ∧ t8 = .int .i64 i ∧ Sep w wr (canL w.heap.size l (some ⟨lb, lo, none⟩) cap gn s.no t6 t7 us s.out))
  case atStart => exact ⟨_, 0, canStart l.length, [], rfl, rfl, can_start (by omega), rfl, rfl, S3.out⟩
  case round =>
    clear S3
    obtain ⟨f, i, s, us, hq, hfi, hok, hgo, rfl, hs⟩ := hrel
    obtain ⟨wx, hwx⟩ : ∃ x, x = wr := ⟨wr, rfl⟩
    subst hwx
    have HQ := Lib.hid hq
    have HOK := Lib.hid hok
    have HGO := Lib.hid hgo
    have HFI := Lib.hid hfi
    have hfew : s.no.2.length ≤ l.length := hok.ok.few
    have S := Lib.hid hs
    obtain ⟨oa, oc, rfl⟩ := ownC_shape (S.out.at_ 1 rfl)
    obtain ⟨ua, uc, rfl⟩ : ∃ a c, u7 = .slice a s.out.length c := by
      obtain ⟨a, c, e, _⟩ := owns_shape (S.out.at_ 0 rfl).1
      exact ⟨a, c, e⟩
    have i4 : (0 : Int) ≤ (i : Int) := by omega
    clear hq hok hgo hfi hs
    by_cases hlt : i < s.no.2.length
    · have i5 : (i : Int) < (s.no.2.length : Int) := by omega
      obtain ⟨og, oc', e0, hoc, _⟩ := ownC_some (S.out.at_ 1 rfl) (by omega)
      obtain ⟨rfl, rfl⟩ : oa = some ⟨og, 0, none⟩ ∧ oc = oc' := by simpa using e0
      obtain ⟨t, ht⟩ : ∃ t, s.no.2[i]? = some t := ⟨_, List.getElem?_eq_getElem hlt⟩
      obtain ⟨t0, t1, _⟩ := HOK.out.ok.old i t ht
      obtain ⟨r, rfl⟩ : ∃ r : Nat, t = r := ⟨t.toNat, by omega⟩
      obtain ⟨row, hrow⟩ : ∃ row, l[r]? = some row := ⟨_, List.getElem?_eq_getElem (by omega)⟩
      obtain ⟨lb', lo', ra, rc, e1, _, hcl, hrr⟩ := H.out.cell r row hrow
      obtain ⟨rfl, rfl⟩ : lb = lb' ∧ lo = lo' := by simpa using e1
      have k0 := (show RowAt wx w.heap.size 25 [.slice (some ⟨lb, lo, none⟩) l.length cap] from S.out.at_ 4 rfl).cell (i := 0) rfl
      have lb0 : w.heap.size < wx.heap.size := S.out.lt 4 rfl (by simp [boxC])
      have lb2 : og < wx.heap.size := S.out.lt 1 rfl (by simp [ownC, Value.ownBlock])
      have k1 := S.out.frm.cell hcl (by simp)
      have k2 : wx.cell? ⟨og, i, none⟩ = some (.int .i64 r) := ownC_cell (S.out.at_ 1 rfl) (ints_get ht)
      have KEEP : Hid (∀ w', Frm [] wx w' → w'.cell? ⟨w.heap.size, 0, none⟩ = some (.slice (some ⟨lb, lo, none⟩) l.length cap) ∧ w'.cell? ⟨lb, lo + r, none⟩ = some (.slice ra row.length rc) ∧ w'.cell? ⟨og, i, none⟩ = some (.int .i64 r)) := Lib.hid fun w' hf => ⟨hf.cell k0 (by simp), hf.cell k1 (by simp), hf.cell k2 (by simp)⟩
      have HCL : Hid (∀ W, Frm [] wx W → Calls Tryz.prog 41 #[.slice ra row.length rc] W fun e w' => (∃ a' c', e = .returned (.slice a' row.length c') ∧ w'.ownsRow W.heap.size 55 2 (.slice a' row.length c') row.length (row.flatMap arE)) ∧ Frm [] W w') := Lib.hid fun W hf => cloneR_any W ra rc row ((hrr.frm (S.out.frm.trans hf (by simp)) (by simp)).mono (by have h1 := S.out.frm.size; have h2 := hf.size; omega)) (by have := HROWS.out row (List.mem_of_getElem? hrow); omega)
      have hrlen : row.length ≤ 262144 := HROWS.out row (List.mem_of_getElem? hrow)
      have HT := Lib.hid ht
      have HROW := Lib.hid hrow
      clear hcl hrr k0 k1 k2 ht hrow e0 e1 hoc
      go_wp2_with fail
      go_region_held3 (fun w' => w'.cell? ⟨w.heap.size, 0, none⟩ = some (.slice (some ⟨lb, lo, none⟩) l.length cap) ∧ w'.cell? ⟨lb, lo + r, none⟩ = some (.slice ra row.length rc) ∧ w'.cell? ⟨og, i, none⟩ = some (.int .i64 r))
        (first | exact KEEP.out _ (Frm.refl [] wx).drew | exact KEEP.out _ hy5)
        (first | (go_at_call 41; refine (HCL.out _ (Frm.refl [] wx).drew).mono ?_; rintro e5 w5 ⟨⟨a5, c5, rfl, own5⟩, hf5⟩; have hy5 := (Frm.refl [] wx).drew.trans hf5 (by simp)))
      have S5 := Lib.hid (S.out.add (arcsC (.slice a5 row.length c5) row.length row) hy5 (ownC_of own5) (ownC_new own5))
      clear own5 hf5 hy5 KEEP HCL
      go_wp2_with fail
      refine (sortRow_any 0 a5 c5 row.length row w5 (S5.out.at_ 0 rfl) rfl (by omega)).mono ?_
      rintro e6 w6 ⟨⟨rfl, own6⟩, hf6⟩
      have S6 := Lib.hid (S5.out.step 0 (arcsC (.slice a5 row.length c5) row.length (row.mergeSort fun x y => !ltOf cmpAr y x)) rfl hf6 (fun k hk => .inl hk) own6 (fun k hk => .inl hk))
      clear own6 hf6 S5
      go_wp2_with fail
      have hsl : (row.mergeSort fun x y => !ltOf cmpAr y x).length = row.length := List.length_mergeSort _
      have hcom := compactA_any 0 a5 c5 (row.mergeSort fun x y => !ltOf cmpAr y x) w6 (by rw [hsl]; exact S6.out.at_ 0 rfl) (by omega)
      rw [hsl] at hcom
      refine hcom.mono ?_
      rintro e7 w7 ⟨rfl, own7, hf7⟩
      rw [arcs_sorted] at own7 ⊢
      rw [hsl] at hf7
      clear hcom
      obtain ⟨xs, hxs⟩ : ∃ xs, xs = setG ltAr row := ⟨_, rfl⟩
      rw [← hxs] at own7 ⊢
      have S7 := Lib.hid (S6.out.step 0 (arcsC (.slice a5 xs.length c5) xs.length xs) rfl hf7 (fun k hk => .inl hk) own7 (fun k hk => by
        cases a5 <;> exact .inl hk))
      have HXS := Lib.hid hxs
      have HIN : Hid (∀ x ∈ xs, 0 ≤ x.2 ∧ x.2 < l.length) := Lib.hid (by
        rw [hxs]
        have h9 := into_set HINTO.out r
        rw [HROW.out] at h9
        exact h9)
      have hxl : xs.length ≤ row.length := by rw [hxs]; exact setG_le _ _
      clear own7 hf7 S6 hsl hxs
      go_wp2_with fail
      obtain ⟨V2, hV2⟩ : ∃ V2, V2 = wx := ⟨wx, rfl⟩
      subst hV2
      go_loopg [6, 45] xs.length (fun q t6 t45 wr => ∃ (k : Nat), q = xs.length - k ∧ k ≤ xs.length ∧ t45 = .int .i64 k ∧ Sep w wr (arcsC (.slice a5 xs.length c5) xs.length ((rowA s.no (xs.take k)).2 ++ xs.drop k) :: canL w.heap.size l (some ⟨lb, lo, none⟩) cap gn (rowA s.no (xs.take k)).1 t6 (.slice ua s.out.length uc) us s.out))
      case atStart => exact ⟨0, rfl, Nat.zero_le _, rfl, S7.out⟩
      case round =>
        clear S7
        obtain ⟨k, hq3, hk, rfl, hs⟩ := hrel
        have HQ3 := Lib.hid hq3
        have S := Lib.hid hs
        obtain ⟨oa', oc', rfl⟩ := ownC_shape (S.out.at_ 2 rfl)
        have i11 : (0 : Int) ≤ (k : Int) := by omega
        have hrok := rowA_ok HOK.out.ok (xs.take k) (fun x hx => HIN.out x (List.mem_of_mem_take hx))
        have HRL : Hid ((rowA s.no (xs.take k)).2.length = k) := Lib.hid (by rw [hrok.len, List.length_take]; omega)
        have hfew3 : (rowA s.no (xs.take k)).1.2.length ≤ l.length := hrok.ok.few
        have HRK := Lib.hid hrok
        clear hq3 hs hrok
        by_cases hkl : k < xs.length
        · have i12 : (k : Int) < (xs.length : Int) := by omega
          obtain ⟨⟨ev, t⟩, hx⟩ : ∃ x, xs[k]? = some x := ⟨_, List.getElem?_eq_getElem hkl⟩
          obtain ⟨t0', t1'⟩ := HIN.out _ (List.mem_of_getElem? hx)
          simp only at t0' t1'
          obtain ⟨tt, rfl⟩ : ∃ tt : Nat, t = tt := ⟨t.toNat, by omega⟩
          obtain ⟨ga, c5', e0, hgc, _⟩ := ownC_some (S.out.at_ 0 rfl) (by omega)
          obtain ⟨rfl, rfl⟩ : a5 = some ⟨ga, 0, none⟩ ∧ c5 = c5' := by simpa using e0
          have hcur : ((rowA s.no (xs.take k)).2 ++ xs.drop k)[k]? = some (ev, (tt : Int)) := by
            rw [List.getElem?_append_right (by rw [HRL.out]; exact Nat.le_refl _), HRL.out, Nat.sub_self, List.getElem?_drop, Nat.add_zero, hx]
          have g0 := flatMap_get (enc := arE) (k := 2) (fun _ => rfl) hcur 0 (by decide)
          have g1 := flatMap_get (enc := arE) (k := 2) (fun _ => rfl) hcur 1 (by decide)
          have x0 : wr.cell? ⟨ga, k * 2, none⟩ = some (.int .i64 ev) := ownC_cell (S.out.at_ 0 rfl) (by rw [Nat.add_zero] at g0; rw [g0]; rfl)
          have x1 : wr.cell? ⟨ga, k * 2 + 1, none⟩ = some (.int .i64 tt) := ownC_cell (S.out.at_ 0 rfl) (by rw [g1]; rfl)
          obtain ⟨v, hv⟩ : ∃ v, (rowA s.no (xs.take k)).1.1[tt]? = some v := ⟨_, List.getElem?_eq_getElem (by rw [HRK.out.ok.len]; omega)⟩
          have n0 : wr.cell? ⟨gn, tt, none⟩ = some (.int .i64 v) := ownC_cell (S.out.at_ 3 rfl) (ints_get hv)
          have hstep : rowA s.no (xs.take (k + 1)) = arcA (rowA s.no (xs.take k)) (ev, (tt : Int)) := by rw [take_snoc hx, rowA_snoc]
          have hset := set_mid (rowA s.no (xs.take k)).2 (xs.drop (k + 1)) (ev, (tt : Int))
          rw [HRL.out, ← drop_get hx] at hset
          have hfl := fun v => arE_set (v := v) hcur
          have z0 : wr.frozen? ⟨gn, tt, none⟩ = false := ownC_frozen (S.out.at_ 3 rfl) tt
          have z1 : wr.frozen? ⟨ga, k * 2 + 1, none⟩ = false := ownC_frozen (S.out.at_ 0 rfl) _
          have la : ga < wr.heap.size := S.out.lt 0 rfl (by simp [ownC, Value.ownBlock])
          have ln : gn < wr.heap.size := S.out.lt 3 rfl (by simp [ownC, Value.ownBlock])
          have hgg : ga ≠ gn := S.out.ne 0 3 rfl rfl (by omega) (by simp [ownC, Value.ownBlock]) (by simp [ownC, Value.ownBlock])
          have hnt : (numA (rowA s.no (xs.take k)).1 tt) = if v < 0 then ((rowA s.no (xs.take k)).1.1.set tt (rowA s.no (xs.take k)).1.2.length, (rowA s.no (xs.take k)).1.2 ++ [(tt : Int)]) else (rowA s.no (xs.take k)).1 := by
            rw [numA, Int.toNat_natCast, hv]
            rfl
          have hnv : (numA (rowA s.no (xs.take k)).1 tt).1[tt]?.getD 0 = if v < 0 then ((rowA s.no (xs.take k)).1.2.length : Int) else v := by
            rw [hnt]
            split
            · rw [List.getElem?_set_self (by have := (List.getElem?_eq_some_iff.1 hv).1; exact this)]
              rfl
            · rw [hv]
              rfl
          have hstep2 : rowA s.no (xs.take (k + 1)) = (numA (rowA s.no (xs.take k)).1 tt, (rowA s.no (xs.take k)).2 ++ [(ev, (numA (rowA s.no (xs.take k)).1 tt).1[tt]?.getD 0)]) := by rw [hstep, arcA, Int.toNat_natCast]
          have hsetv : ∀ u : Int, (((rowA s.no (xs.take k)).2 ++ xs.drop k).flatMap arE).set (k * 2 + 1) (.int .i64 u) = (((rowA s.no (xs.take k)).2 ++ [(ev, u)]) ++ xs.drop (k + 1)).flatMap arE := fun u => by
            rw [← hfl u]
            congr 1
            have h9 := set_mid (rowA s.no (xs.take k)).2 (xs.drop (k + 1)) (ev, (tt : Int)) (ev, u)
            rw [HRL.out, ← drop_get hx] at h9
            exact h9
          have HG1 : Hid (((((rowA s.no (xs.take k)).2 ++ xs.drop k).flatMap arE)[k * 2 + 1]?) = some (.int .i64 tt)) := Lib.hid (by rw [g1]; rfl)
          have hnl : tt < (rowA s.no (xs.take k)).1.1.length := (List.getElem?_eq_some_iff.1 hv).1
          clear hx hcur g0 g1 hstep hfl e0 HRL HRK hv
          rw [hnt] at hstep2
          rw [hnt] at hnv
          generalize rowA s.no (xs.take k) = s1 at *
          by_cases hneg : v < 0
          · simp only [if_pos hneg] at hstep2 hnv
            rw [hnv] at hstep2
            obtain ⟨n1, hn1'⟩ : ∃ n1, n1 = s1.1.2.length := ⟨_, rfl⟩
            rw [← hn1'] at hstep2 hfew3
            have HSTEP := Lib.hid hstep2
            have HSETV := Lib.hid hsetv
            have hszs : (wr.setCell ⟨gn, tt, none⟩ (.int .i64 n1)).heap.size = wr.heap.size := by simp [World.setCell]
            have SB := Lib.hid ((((S.out.put 3 rfl tt (.int .i64 n1)).add (boxC wr.heap.size 55 [.int .i64 ev, .int .i64 tt]) ((Frm.refl [] _).alloc (.cells #[.int .i64 ev, .int .i64 tt] 55)) (by
              have := RowAt.made (wr.setCell ⟨gn, tt, none⟩ (.int .i64 n1)) 55 [.int .i64 ev, .int .i64 tt] #[.int .i64 ev, .int .i64 tt] rfl
              rw [hszs] at this
              exact this) (by simp [boxC, World.setCell])).nil ((Frm.refl [] _).alloc (.cells #[.int .i64 tt] 3))))
            have HSRC : Hid (RowAt (((wr.setCell ⟨gn, tt, none⟩ (.int .i64 n1)).alloc (.cells #[.int .i64 ev, .int .i64 tt] 55)).alloc (.cells #[.int .i64 tt] 3)) (wr.heap.size + 1) 3 [.int .i64 tt]) := Lib.hid (by
              have := row_made1 (wr.setCell ⟨gn, tt, none⟩ (.int .i64 n1)) (.cells #[.int .i64 ev, .int .i64 tt] 55) 3 [.int .i64 tt] #[.int .i64 tt] rfl
              rw [hszs] at this
              exact this)
            have HN1 := Lib.hid hn1'
            clear hnt hnv hstep2 hsetv hszs
            rw [← hn1']
            clear hn1'
            go_wp2_with (first
              | (at_builtin; refine app_row rfl (.tmp 62) (.tmp 65) 22 3 _ 1 8 rfl Tryz.underlying22 infoInt rfl (by decide) (by decide) 0 n1 (.slice oa' n1 oc') _ rfl (by have := SB.out.at_ 3 rfl; rw [← HN1.out] at this; exact this) _ 1 [.int .i64 tt] [] rfl (rowV_cells (size := 1) HSRC.out rfl (Nat.le_refl _) (by decide) (by simp)) (by simp [Value.oneCell']) (n1 + 1) rfl (by omega) (Nat.zero_le _) ?_; intro a8 c8 w8 own8 hf8 hb8; have SC := Lib.hid (SB.out.step 3 (intsC (.slice a8 (n1 + 1) c8) (n1 + 1) (s1.1.2 ++ [(tt : Int)])) rfl hf8 (fun k hk => .inl (by rw [← HN1.out]; exact hk)) (by have h9 := own8; rw [show ints s1.1.2 ++ [Value.int IntKind.i64 (tt : Int)] = ints (s1.1.2 ++ [(tt : Int)]) from by simp [ints]] at h9; exact h9) (by rw [← HN1.out]; exact fresh_own hb8)); have q0 := (show RowAt w8 wr.heap.size 55 [.int .i64 ev, .int .i64 tt] from SC.out.at_ 0 rfl).cell (i := 1) rfl; have q1 : w8.cell? ⟨gn, tt, none⟩ = some (.int .i64 n1) := ownC_cell (SC.out.at_ 4 rfl) (List.getElem?_set_self (by simp [ints]; omega)); have q2 : w8.cell? ⟨ga, k * 2 + 1, none⟩ = some (.int .i64 tt) := ownC_cell (SC.out.at_ 1 rfl) HG1.out; have q3 : w8.frozen? ⟨ga, k * 2 + 1, none⟩ = false := ownC_frozen (SC.out.at_ 1 rfl) _; clear own8 hf8 hb8)
              | fail)
            have SD := Lib.hid (SC.out.put 1 rfl (k * 2 + 1) (.int .i64 n1)).tail
            go_roundg (xs.length - (k + 1))
            case rel =>
              refine ⟨k + 1, rfl, by omega, by go_num, ?_⟩
              have h9 := SD.out
              rw [HSTEP.out]
              simp only [List.set_cons_zero, List.set_cons_succ] at h9
              rw [← ints_set, HSETV.out n1] at h9
              have h8 : (s1.1.2 ++ [(tt : Int)]).length = n1 + 1 := by rw [HN1.out]; simp
              show Sep w _ [_, _, intsC (.slice a8 (n1 + 1) c8) (s1.1.2 ++ [(tt : Int)]).length (s1.1.2 ++ [(tt : Int)]), _, _, _]
              rw [h8]
              exact h9
            case measure => have := HQ3.out; omega
          · simp only [if_neg hneg] at hstep2 hnv
            rw [hnv] at hstep2
            have HSTEP := Lib.hid hstep2
            have HSETV := Lib.hid hsetv
            clear hnt hnv hstep2 hsetv HG1
            go_wp2_with fail
            have SD := Lib.hid ((S.out.put 0 rfl (k * 2 + 1) (.int .i64 v)).nil ((Frm.refl [] _).alloc (.cells #[.int .i64 ev, .int .i64 tt] 55)))
            go_roundg (xs.length - (k + 1))
            case rel =>
              refine ⟨k + 1, rfl, by omega, by go_num, ?_⟩
              have h9 := SD.out
              rw [HSTEP.out]
              simp only [List.set_cons_zero, List.set_cons_succ] at h9
              rw [HSETV.out v] at h9
              exact h9
            case measure => have := HQ3.out; omega
        · have i12 : ¬ (k : Int) < (xs.length : Int) := by omega
          have hkx : k = xs.length := by omega
          have hsS := S.out
          rw [hkx, List.take_length, List.drop_length, List.append_nil] at hsS
          have hrk := HRK.out
          have hrl := HRL.out
          rw [hkx, List.take_length] at hrk hrl
          have hnd : (rowA s.no xs).2.Nodup := rowA_nodup HOK.out.ok HIN.out (by rw [HXS.out]; exact asc_nodup sto_Ar (setG_asc sto_Ar _))
          have hcs : canStep l s i = ⟨(rowA s.no xs).1, s.out ++ [setG ltAr (rowA s.no xs).2]⟩ := by
            rw [canStep, HT.out]
            simp only [Option.getD_some, Int.toNat_natCast, HROW.out, ← HXS.out]
          obtain ⟨f', hf'⟩ : ∃ f', f = f' + 1 := ⟨f - 1, by have := HFI.out; omega⟩
          have hgo := HGO.out
          rw [hf', canGo, if_pos hlt] at hgo
          have hokn := HOK.out.step HINTO.out hlt
          rw [hcs] at hgo hokn
          have HF' := Lib.hid hf'
          have HGO2 := Lib.hid hgo
          have HOKN := Lib.hid hokn
          have hst := setAr_sorted _ hnd
          have HKE : Hid (rowA s.no (xs.take k) = rowA s.no xs) := Lib.hid (by rw [hkx, List.take_length])
          rw [hkx, List.take_length] at hfew3
          generalize rowA s.no xs = s1 at *
          have S8 := Lib.hid hsS
          have HST := Lib.hid hst
          have hsr := sortRow_any 0 a5 c5 xs.length s1.2 wr (S8.out.at_ 0 rfl) hrl (by omega)
          rw [hst] at hsr
          have HSR := Lib.hid hsr
          have hlen9 : (setG ltAr s1.2).length = xs.length := by rw [← hst, List.length_mergeSort, hrl]
          have HL9 := Lib.hid hlen9
          have hl9 : s.out.length ≤ 16384 := by have h1 := HOK.out.out; have := HFI.out; omega
          clear hsS hrk hrl hnd hcs hf' hgo hokn hst hsr hlen9 hkx hk S
          go_wp2_with (first
            | (go_at_call 36; refine HSR.out.mono ?_; rintro e9 w9 ⟨⟨rfl, own9⟩, hf9⟩; have S9 := Lib.hid (S8.out.step 0 (arcsC (.slice a5 xs.length c5) xs.length (setG ltAr s1.2)) rfl hf9 (fun k hk => .inl hk) own9 (fun k hk => .inl hk)); clear own9 hf9)
            | (at_builtin; refine app_row rfl (.tmp 79) (.tmp 81) 23 51 _ 1 24 rfl Tryz.underlying23 infoRw rfl (by decide) (by decide) 0 s.out.length (.slice ua s.out.length uc) us rfl ((S9.out.nil ((Frm.refl [] w9).alloc _)).at_ 1 rfl).1 _ 1 [.slice a5 xs.length c5] [] rfl (rowV_cells (size := 1) (RowAt.made w9 51 [.slice a5 xs.length c5] #[.slice a5 xs.length c5] rfl) rfl (Nat.le_refl _) (by decide) (by simp)) (by simp [Value.oneCell']) (s.out.length + 1) rfl (by omega) (Nat.zero_le _) ?_; intro a11 c11 w11 own11 hf11 hb11; have S11 := Lib.hid ((S9.out.nil ((Frm.refl [] w9).alloc (.cells #[.slice a5 xs.length c5] 51))).snoc HL9.out.symm rfl (by decide) rfl own11 rfl rfl hf11 (fun k hk => (hb11 k hk).imp id (fun e => Nat.le_of_eq e.symm))); clear own11 hf11 hb11)
            | fail)
          go_roundg f'
          case rel =>
            refine ⟨f', i + 1, _, us ++ [.slice a5 xs.length c5], rfl, by have := HFI.out; have := HF'.out; omega, HOKN.out, HGO2.out, by go_num, ?_⟩
            rw [HKE.out]
            show Sep w w11 (outC (.slice a11 (s.out.length + 1) c11) (us ++ [.slice a5 xs.length c5]) (s.out ++ [setG ltAr s1.2]) :: _)
            exact S11.out
          case measure => have := HQ.out; have := HF'.out; omega
    · have i5 : ¬ (i : Int) < (s.no.2.length : Int) := by omega
      have hend : s = canB l := by
        have h1 := HGO.out
        obtain ⟨f', hf'⟩ : ∃ f', f = f' + 1 := ⟨f - 1, by have := HFI.out; have := HOK.out.le; omega⟩
        rw [hf', canGo, if_neg hlt] at h1
        exact h1
      have HE := Lib.hid hend
      have c1 := (show RowAt wx (w.heap.size + 1) 25 [.slice none 0 0] from S.out.at_ 3 rfl).cell (i := 0) rfl
      have z1 := (show RowAt wx (w.heap.size + 1) 25 [.slice none 0 0] from S.out.at_ 3 rfl).frozen 0
      have hcs := World.cell?_setCell_same' wx ⟨w.heap.size + 1, 0, none⟩ (.slice ua s.out.length uc) (by rw [c1]; rfl)
      clear hend
      go_wp2_with fail
      refine bodyPost_ret (v := .tuple #[.agg #[.slice ua s.out.length uc], .slice oa s.no.2.length oc, .int .i64 0]) (by simp [results, Tryz.results23, go_sem, hcs]) rfl ?_
      have S9 := S.out.putBox 3 rfl 0 (.slice ua s.out.length uc)
      have hpl := (S9.pull 0 rfl).pull 2 rfl
      refine ⟨.slice ua s.out.length uc, .slice oa s.no.2.length oc, us, rfl, ?_⟩
      rw [← HE.out]
      have h9 := (S9.pull 1 rfl).take 2
      exact h9

end Go.Proofs.YtdknbgejhhoaiaaGreat.Ind

/- Plain: numbers of keys in the order in which they are met; contract of strong.next. -/
namespace Go.Proofs.YtdknbgejhhoaiaaGreat.Ind
open Go.Shelf Go.RowKit Go.Lib Go.Sort Go.Maps Go.Proofs.YtdknbgejhhoaiaaGreat.Beh

/-- A class and a signature. -/
abbrev SK := Int × List Ar
def nst (st : List SK × List Int) (k : SK) : List SK × List Int := if k ∈ st.1 then (st.1, st.2 ++ [(st.1.idxOf k : Int)]) else (st.1 ++ [k], st.2 ++ [(st.1.length : Int)])
def numL (ks : List SK) : List SK × List Int := ks.foldl nst ([], [])
theorem numL_snoc (ks : List SK) (k : SK) : numL (ks ++ [k]) = nst (numL ks) k := by simp [numL]
structure NumOkL (ks : List SK) (st : List SK × List Int) : Prop where
  nd : st.1.Nodup
  mem : ∀ k, k ∈ st.1 ↔ k ∈ ks
  few : st.1.length ≤ ks.length
  len : st.2.length = ks.length
  at_ : ∀ (j : Nat) (k : SK), ks[j]? = some k → st.2[j]? = some (st.1.idxOf k : Int)
theorem numL_rec {P : List SK → Prop} (h0 : P []) (hs : ∀ l a, P l → P (l ++ [a])) (l : List SK) : P l := by
  have : ∀ n (l : List SK), l.length = n → P l := by
    intro n
    induction n with
    | zero => intro l hl; rw [List.eq_nil_of_length_eq_zero hl]; exact h0
    | succ n ih =>
      intro l hl
      have hne : l ≠ [] := fun e => by rw [e] at hl; simp at hl
      rw [← List.dropLast_concat_getLast hne]
      exact hs _ _ (ih _ (by rw [List.length_dropLast, hl]; rfl))
  exact this _ l rfl
theorem idxOf_app_in {l : List SK} {k x : SK} (h : k ∈ l) : (l ++ [x]).idxOf k = l.idxOf k := by
  rw [List.idxOf_append, if_pos h]
theorem numL_ok (ks : List SK) : NumOkL ks (numL ks) := by
  refine numL_rec (P := fun ks => NumOkL ks (numL ks)) ⟨List.nodup_nil, fun k => Iff.rfl, Nat.le_refl _, rfl, fun j k h => by simp at h⟩ (fun l a ih => ?_) ks
  rw [numL_snoc]
  by_cases hm : a ∈ (numL l).1
  · have e : nst (numL l) a = ((numL l).1, (numL l).2 ++ [((numL l).1.idxOf a : Int)]) := if_pos hm
    rw [e]
    refine ⟨ih.nd, fun k => ?_, by simp; have := ih.few; omega, by simp [ih.len], fun j k hj => ?_⟩
    · rw [List.mem_append, List.mem_singleton, ← ih.mem k]
      exact ⟨.inl, fun h => h.elim id (fun e => e ▸ hm)⟩
    · by_cases hlt : j < l.length
      · rw [List.getElem?_append_left hlt] at hj
        rw [List.getElem?_append_left (by rw [ih.len]; exact hlt)]
        exact ih.at_ j k hj
      · have hjl : j = l.length := by
          have := (List.getElem?_eq_some_iff.1 hj).1
          simp at this
          omega
        subst hjl
        rw [List.getElem?_append_right (Nat.le_refl _), Nat.sub_self] at hj
        simp at hj
        subst hj
        rw [List.getElem?_append_right (by rw [ih.len]; exact Nat.le_refl _), ih.len, Nat.sub_self]
        rfl
  · have e : nst (numL l) a = ((numL l).1 ++ [a], (numL l).2 ++ [((numL l).1.length : Int)]) := if_neg hm
    rw [e]
    refine ⟨?_, fun k => ?_, by simp; exact ih.few, by simp [ih.len], fun j k hj => ?_⟩
    · rw [List.nodup_append]
      exact ⟨ih.nd, by simp, fun x hx y hy e => hm (by rw [List.mem_singleton.1 hy] at e; exact e ▸ hx)⟩
    · rw [List.mem_append, List.mem_append, ih.mem k]
    · by_cases hlt : j < l.length
      · rw [List.getElem?_append_left hlt] at hj
        rw [List.getElem?_append_left (by rw [ih.len]; exact hlt)]
        rw [idxOf_app_in ((ih.mem k).2 (List.mem_of_getElem? hj))]
        exact ih.at_ j k hj
      · have hjl : j = l.length := by
          have := (List.getElem?_eq_some_iff.1 hj).1
          simp at this
          omega
        subst hjl
        rw [List.getElem?_append_right (Nat.le_refl _), Nat.sub_self] at hj
        simp at hj
        subst hj
        rw [List.getElem?_append_right (by rw [ih.len]; exact Nat.le_refl _), ih.len, Nat.sub_self]
        rw [List.idxOf_append, if_neg hm]
        simp
/-- The keys of all states, and the numbers that they get. -/
def keysS (l : List (List Ar)) (cls : List Int) : List SK := (List.range cls.length).map fun s => (cls[s]?.getD 0, sigB cls (l[s]?.getD []))
def nextB (l : List (List Ar)) (cls : List Int) : List Int := (numL (keysS l cls)).2
theorem keysS_len (l : List (List Ar)) (cls : List Int) : (keysS l cls).length = cls.length := by simp [keysS]
theorem keysS_at {l : List (List Ar)} {cls : List Int} {s : Nat} {c : Int} {row : List Ar} (hc : cls[s]? = some c) (hr : l[s]? = some row) : (keysS l cls)[s]? = some (c, sigB cls row) := by
  have hs := (List.getElem?_eq_some_iff.1 hc).1
  simp [keysS, List.getElem?_range hs, hc, hr]
def kvK (ks : List SK) : List (ByteArray × Value) := ks.zipIdx.map fun q => (keyS (flatK q.1.1 q.1.2), .int .i64 (q.2 : Int))
theorem kvK_len (ks : List SK) : (kvK ks).length = ks.length := by simp [kvK]
theorem kvK_snoc (ks : List SK) (k : SK) : kvK (ks ++ [k]) = kvK ks ++ [(keyS (flatK k.1 k.2), .int .i64 (ks.length : Int))] := by
  simp [kvK, List.zipIdx_append]
theorem kvK_at {ks : List SK} {j : Nat} {k : SK} (h : ks[j]? = some k) : (kvK ks)[j]? = some (keyS (flatK k.1 k.2), .int .i64 (j : Int)) := by
  simp [kvK, List.getElem?_zipIdx, h]
theorem kvK_keys (ks : List SK) : (kvK ks).map (·.1) = ks.map fun k => keyS (flatK k.1 k.2) := by
  apply List.ext_getElem?
  intro j
  rw [List.getElem?_map, List.getElem?_map]
  cases h : ks[j]? with
  | none =>
    rw [List.getElem?_eq_none (by rw [kvK_len]; exact List.getElem?_eq_none_iff.1 h)]
    rfl
  | some k => rw [kvK_at h]; rfl
def SmallK (k : SK) : Prop := Small (flatK k.1 k.2)
theorem smallK_inj {a b : SK} (ha : SmallK a) (hb : SmallK b) (h : keyS (flatK a.1 a.2) = keyS (flatK b.1 b.2)) : a = b := by
  obtain ⟨h1, h2⟩ := flatK_inj (keyS_inj ha hb h)
  exact Prod.ext h1 h2
theorem kvK_nodup {ks : List SK} (hn : ks.Nodup) (hs : ∀ k ∈ ks, SmallK k) : ((kvK ks).map (·.1)).Nodup := by
  rw [kvK_keys]
  refine nodup_of (fun i j x hij hi hj => ?_)
  rw [List.getElem?_map] at hi hj
  obtain ⟨a, ha, e1⟩ := Option.map_eq_some_iff.1 hi
  obtain ⟨b, hb, e2⟩ := Option.map_eq_some_iff.1 hj
  have := smallK_inj (hs a (List.mem_of_getElem? ha)) (hs b (List.mem_of_getElem? hb)) (e1.trans e2.symm)
  subst this
  exact nodup_at hn hij ha hb
theorem getA_kvK {ks : List SK} (hn : ks.Nodup) (hs : ∀ k ∈ ks, SmallK k) {k : SK} (hk : k ∈ ks) : getA (kvK ks) (keyS (flatK k.1 k.2)) = some (.int .i64 (ks.idxOf k : Int)) := by
  have hj : ks[ks.idxOf k]? = some k := by
    rw [List.getElem?_eq_getElem (List.idxOf_lt_length_iff.2 hk)]
    simp
  exact getA_at (kvK_nodup hn hs) (kvK_at hj)
theorem getA_kvK_no {ks : List SK} (hs : ∀ k ∈ ks, SmallK k) {k : SK} (hsk : SmallK k) (hk : k ∉ ks) : getA (kvK ks) (keyS (flatK k.1 k.2)) = none := by
  refine getA_no (fun p hp e => ?_)
  have hm : p.1 ∈ (kvK ks).map (·.1) := List.mem_map.2 ⟨p, hp, rfl⟩
  rw [kvK_keys] at hm
  obtain ⟨k', hk', e'⟩ := List.mem_map.1 hm
  rw [e] at e'
  exact hk (smallK_inj (hs k' hk') hsk e' ▸ hk')
end Go.Proofs.YtdknbgejhhoaiaaGreat.Ind
