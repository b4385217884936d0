/- Contract of the reference's Canonical. -/
import Derived.Test.YtdknbgejhhoaiaaGreatQ35
import Derived.Test.YtdknbgejhhoaiaaGreatQ22
import Derived.Deep.RegionHeld3
namespace Go.Proofs.YtdknbgejhhoaiaaGreat.Ind
open Go.Shelf Go.RowKit Go.Lib Go.Sort

/-- What the reference's Canonical hands back. -/
def RCanEnd (w : World) (l : Lts) (e : Ending) (w' : World) : Prop :=
  ∃ ov oldv us, e = .returned (.tuple #[.agg #[ov], oldv]) ∧ Sep w w' [intsC oldv (canB l).no.2.length (canB l).no.2, outC ov us (canB l).out]
/-- What lies in memory while it runs. -/
abbrev rcanL (b0 b7 : Nat) (l : Lts) (a : Option Addr) (cap gn : Nat) (no : NO) (oldv ov : Value) (us : List Value) (out : List (List Ar)) : List Go.Proofs.YtdknbgejhhoaiaaGreat.Chunk :=
  [outC ov us out, boxC b7 25 [ov], intsC oldv no.2.length no.2, intsC (.slice (some ⟨gn, 0, none⟩) l.length l.length) l.length no.1, boxC (b0 + 1) 25 [.slice none 0 0], boxC b0 25 [.slice a l.length cap]]
/-- The numbers while they are filled. -/
def fillL (n k : Nat) : List Int := List.replicate k (-1) ++ List.replicate (n - k) 0
theorem fill_len (n k : Nat) (h : k ≤ n) : (fillL n k).length = n := by simp [fillL]; omega
theorem fill_set (n k : Nat) (h : k < n) : (fillL n k).set k (-1) = fillL n (k + 1) := by
  unfold fillL
  obtain ⟨m, hm⟩ : ∃ m, n - k = m + 1 := ⟨n - k - 1, by omega⟩
  rw [hm, List.replicate_succ, show n - (k + 1) = m by omega]
  have := set_mid (List.replicate k (-1 : Int)) (List.replicate m 0) 0 (-1)
  rw [List.length_replicate] at this
  rw [this, List.replicate_succ']
theorem insG_ne2 (l : List Ar) (x : Ar) : insG ltAr l x ≠ [] := fun h => by
  have : x ∈ insG ltAr l x := mem_insG.2 (.inl rfl)
  rw [h] at this
  cases this
theorem fill_all (n : Nat) : fillL n n = List.replicate n (-1) := by simp [fillL]

set_option linter.unusedSimpArgs false in
set_option maxRecDepth 100000 in
set_option maxHeartbeats 8000000 in
theorem refCanonical_any (a : Option Addr) (cap : Nat) (l : Lts) (w : World) (h : LAt w.heap.size w a cap l) (hloose : looseB l = true) :
    Calls Tryz.prog 27 #[.agg #[.slice a l.length cap]] w (RCanEnd w l) := by
  obtain ⟨hn1, hn2, hinto, hrows⟩ := loose_facts hloose
  obtain ⟨r00, hr00⟩ : ∃ r, l[0]? = some r := ⟨_, List.getElem?_eq_getElem (by omega)⟩
  obtain ⟨lb, lo, _, _, rfl, hlb, _, _⟩ := h.cell 0 r00 hr00
  have hcapl : (l.length : Int) ≤ (cap : Int) := by have := h.le; omega
  have H := Lib.hid h
  have HINTO := Lib.hid hinto
  have HROWS := Lib.hid hrows
  have s0 : Sep w ((w.alloc (.cells #[.slice (some ⟨lb, lo, none⟩) l.length cap] 25)).alloc (.cells #[.slice none 0 0] 25)) [boxC (w.heap.size + 1) 25 [.slice none 0 0], boxC w.heap.size 25 [.slice (some ⟨lb, lo, none⟩) l.length cap]] :=
    ((Sep.start w).add (boxC w.heap.size 25 [.slice (some ⟨lb, lo, none⟩) l.length cap]) ((Frm.refl [] w).alloc _) (RowAt.made w _ _ _ rfl) (by simp [boxC])).add (boxC (w.heap.size + 1) 25 [.slice none 0 0]) ((Frm.refl [] _).alloc _) (row_made1 w _ _ _ _ rfl) (by simp [boxC])
  have S0 := Lib.hid s0
  clear h hinto hrows hloose hr00 s0
  go_enter Tryz.func27, Tryz.ntmps27
  have il1 : (0 : Int) < (l.length : Int) := by omega
  have il2 : (l.length : Int) ≤ 16384 := by omega
  go_wp2_with (first | (at_make; refine wpl_make_i _ rfl (.tmp 15) rfl _ l.length rfl rfl (by omega) ?_) | (at_make; fail))
  intro w2 own2 hf2
  obtain ⟨gn, hgn⟩ : ∃ g, g = w.heap.size + 1 + 1 := ⟨_, rfl⟩
  rw [← hgn] at own2 ⊢
  have S2 := Lib.hid (S0.out.add (intsC (.slice (some ⟨gn, 0, none⟩) l.length l.length) l.length (List.replicate l.length 0)) hf2 (ownC_of own2) (by
    intro k hk
    have := (own2.lt k (by simpa [ownC] using hk)).1
    simp
    omega))
  clear own2 hf2 S0 hgn
  go_wp2_with fail
  go_loopg [5] l.length (fun q t5 wr => ∃ (k : Nat), q = l.length - k ∧ k ≤ l.length ∧ t5 = .int .i64 k ∧ Sep w wr [intsC (.slice (some ⟨gn, 0, none⟩) l.length l.length) l.length (fillL l.length k), boxC (w.heap.size + 1) 25 [.slice none 0 0], boxC w.heap.size 25 [.slice (some ⟨lb, lo, none⟩) l.length cap]])
  case atStart => exact ⟨0, rfl, Nat.zero_le _, rfl, S2.out⟩
  case round =>
    clear S2
    obtain ⟨k, hq, hk, rfl, hs⟩ := hrel
    have HQ := Lib.hid hq
    have S := Lib.hid hs
    have i4 : (0 : Int) ≤ (k : Int) := by omega
    clear hq hs
    by_cases hlt : k < l.length
    · have i5 : (k : Int) < (l.length : Int) := by omega
      obtain ⟨v, hv⟩ : ∃ v, (fillL l.length k)[k]? = some v := ⟨_, List.getElem?_eq_getElem (by rw [fill_len _ _ hk]; exact hlt)⟩
      have c0 : wr.cell? ⟨gn, k, none⟩ = some (.int .i64 v) := ownC_cell (S.out.at_ 0 rfl) (ints_get hv)
      have z0 : wr.frozen? ⟨gn, k, none⟩ = false := ownC_frozen (S.out.at_ 0 rfl) k
      have SD := Lib.hid (S.out.put 0 rfl k (.int .i64 (-1)))
      clear hv
      go_wp2_with fail
      go_roundg (l.length - (k + 1))
      case rel =>
        refine ⟨k + 1, rfl, by omega, by go_num, ?_⟩
        have h9 := SD.out
        rw [← ints_set, fill_set _ _ hlt] at h9
        exact h9
      case measure => have := HQ.out; omega
    · have i5 : ¬ (k : Int) < (l.length : Int) := by omega
      have hkl : k = l.length := by omega
      have hsS := S.out
      rw [hkl, fill_all] at hsS
      have S1 := Lib.hid hsS
      have c2 : wr.cell? ⟨gn, 0, none⟩ = some (.int .i64 (-1)) := ownC_cell (S1.out.at_ 0 rfl) (ints_get (by rw [List.getElem?_replicate, if_pos (by omega)]))
      have z2 : wr.frozen? ⟨gn, 0, none⟩ = false := ownC_frozen (S1.out.at_ 0 rfl) 0
      clear hsS S
      go_wp2_with fail
      obtain ⟨w2, hw2⟩ : ∃ x, x = wr := ⟨wr, rfl⟩
      rw [← hw2] at S1 c2 z2 ⊢
      clear hw2
      obtain ⟨V, hV⟩ : ∃ V, V = ((w2.setCell ⟨gn, 0, none⟩ (.int .i64 0)).alloc (.cells #[.int .i64 0] 3)).alloc (.cells #[.slice none 0 0] 25) := ⟨_, rfl⟩
      have hsz2 : (w2.setCell ⟨gn, 0, none⟩ (.int .i64 0)).heap.size = w2.heap.size := by simp [World.setCell]
      have S3 : Hid (Sep w V (rcanL w.heap.size (w2.heap.size + 1) l (some ⟨lb, lo, none⟩) cap gn (canStart l.length).no (.slice (some ⟨w2.heap.size, 0, none⟩) 1 1) (.slice none 0 0) [] [])) := Lib.hid (by
        rw [hV]
        have h3 := S1.out.put 0 rfl 0 (.int .i64 0)
        rw [← ints_set] at h3
        have h4 := h3.add (intsC (.slice (some ⟨w2.heap.size, 0, none⟩) 1 1) 1 [0]) ((Frm.refl [] _).alloc (.cells #[.int .i64 0] 3)) (ownC_of (by
          have := owns_fullB (w2.setCell ⟨gn, 0, none⟩ (.int .i64 0)) 0 3 1 1 [.int .i64 0] #[.int .i64 0] rfl rfl (by decide) (by omega)
          rw [hsz2] at this
          exact this)) (by simp [ownC, Value.ownBlock])
        have h5 := h4.add (boxC (w2.heap.size + 1) 25 [.slice none 0 0]) ((Frm.refl [] _).alloc (.cells #[.slice none 0 0] 25)) (by
          have := row_made1 (w2.setCell ⟨gn, 0, none⟩ (.int .i64 0)) (.cells #[.int .i64 0] 3) 25 [.slice none 0 0] #[.slice none 0 0] rfl
          rw [hsz2] at this
          exact this) (by simp [boxC])
        exact h5.add (outC (.slice none 0 0) [] []) (Frm.refl [] _) (ownsC_nil _ _ _ _ _) (by simp [ownsC, Value.ownBlock]))
      rw [← hV]
      generalize w2.heap.size + 1 = b7 at *
      clear hV S1 c2 z2 hsz2 HQ hkl hk hlt i5 i4
      go_loopg [6, 8] (l.length + 1) (fun q t6 t8 wr => ∃ (f i : Nat) (s : CB) (us : List Value) (ov : Value), q = f ∧ f + i = l.length + 1 ∧ CanOk l s i ∧ canGo l f s i = canB l ∧ t8 = .int .i64 i ∧ Sep w wr (rcanL w.heap.size b7 l (some ⟨lb, lo, none⟩) cap gn s.no t6 ov us s.out))
      case atStart => exact ⟨_, 0, canStart l.length, [], _, rfl, rfl, can_start (by omega), rfl, rfl, S3.out⟩
      case round =>
        clear S3
        obtain ⟨f, i, s, us, ov, hq, hfi, hok, hgo, rfl, hs⟩ := hrel
        obtain ⟨wx, hwx⟩ : ∃ x, x = wr := ⟨wr, rfl⟩
        subst hwx
        have HQ := Lib.hid hq
        have HOK := Lib.hid hok
        have HGO := Lib.hid hgo
        have HFI := Lib.hid hfi
        have hfew : s.no.2.length ≤ l.length := hok.ok.few
        have S := Lib.hid hs
        obtain ⟨oa, oc, rfl⟩ := ownC_shape (S.out.at_ 2 rfl)
        obtain ⟨ua, uc, rfl⟩ : ∃ a c, ov = .slice a s.out.length c := by
          obtain ⟨a, c, e, _⟩ := owns_shape (S.out.at_ 0 rfl).1
          exact ⟨a, c, e⟩
        have i4 : (0 : Int) ≤ (i : Int) := by omega
        clear hq hok hgo hfi hs
        by_cases hlt : i < s.no.2.length
        · have i5 : (i : Int) < (s.no.2.length : Int) := by omega
          obtain ⟨og, oc', e0, hoc, _⟩ := ownC_some (S.out.at_ 2 rfl) (by omega)
          obtain ⟨rfl, rfl⟩ : oa = some ⟨og, 0, none⟩ ∧ oc = oc' := by simpa using e0
          obtain ⟨t, ht⟩ : ∃ t, s.no.2[i]? = some t := ⟨_, List.getElem?_eq_getElem hlt⟩
          obtain ⟨t0, t1, _⟩ := HOK.out.ok.old i t ht
          obtain ⟨r, rfl⟩ : ∃ r : Nat, t = r := ⟨t.toNat, by omega⟩
          obtain ⟨row, hrow⟩ : ∃ row, l[r]? = some row := ⟨_, List.getElem?_eq_getElem (by omega)⟩
          obtain ⟨lb', lo', ra, rc, e1, _, hcl, hrr⟩ := H.out.cell r row hrow
          obtain ⟨rfl, rfl⟩ : lb = lb' ∧ lo = lo' := by simpa using e1
          have hrlen : row.length ≤ 262144 := HROWS.out row (List.mem_of_getElem? hrow)
          have hrlt : (row.length : Int) ≤ 262144 := by omega
          have hrc : (row.length : Int) ≤ (rc : Int) := by have := hrr.1; omega
          have HT := Lib.hid ht
          have HROW := Lib.hid hrow
          have HCL := Lib.hid hcl
          have HRR := Lib.hid hrr
          clear hcl hrr ht hrow e0 e1 hoc
          go_wp2_with fail
          have S5 := Lib.hid (S.out.add (arcsC (.slice none 0 0) 0 []) (Frm.refl [] wx) (ownC_nil _ _ _) (by simp [ownC, Value.ownBlock]))
          go_loopg [9, 10] row.length (fun q t9 t10 wr => ∃ (j : Nat) (ra' : Option Addr) (rc' : Nat) (xr : List Ar), q = row.length - j ∧ j ≤ row.length ∧ t10 = .int .i64 j ∧ xr = setG ltAr (row.take j) ∧ t9 = .slice ra' xr.length rc' ∧ (xr = [] → ra' = none ∧ rc' = 0) ∧ Sep w wr (arcsC (.slice ra' xr.length rc') xr.length xr :: rcanL w.heap.size b7 l (some ⟨lb, lo, none⟩) cap gn s.no (.slice (some ⟨og, 0, none⟩) s.no.2.length oc) (.slice ua s.out.length uc) us s.out))
          case atStart => exact ⟨0, none, 0, [], rfl, Nat.zero_le _, rfl, rfl, rfl, fun _ => ⟨rfl, rfl⟩, S5.out⟩
          case round =>
            clear S5 S
            obtain ⟨j, ra', rc', xr, hq3, hj, rfl, hxr, rfl, hnl, hs⟩ := hrel
            have HQ3 := Lib.hid hq3
            have S := Lib.hid hs
            have HXR := Lib.hid hxr
            have HNL := Lib.hid hnl
            have i11 : (0 : Int) ≤ (j : Int) := by omega
            have k0 := (show RowAt wr w.heap.size 25 [.slice (some ⟨lb, lo, none⟩) l.length cap] from S.out.at_ 6 rfl).cell (i := 0) rfl
            have lb0 : w.heap.size < wr.heap.size := S.out.lt 6 rfl (by simp [boxC])
            have k1 := S.out.frm.cell HCL.out (by simp)
            have k2 : wr.cell? ⟨og, i, none⟩ = some (.int .i64 r) := ownC_cell (S.out.at_ 3 rfl) (ints_get HT.out)
            have hxl : xr.length ≤ row.length := by
              rw [hxr]
              have h8 := setG_le ltAr (row.take j)
              rw [List.length_take] at h8
              omega
            clear hq3 hs hxr hnl
            by_cases hjl : j < row.length
            · have i12 : (j : Int) < (row.length : Int) := by omega
              go_wp2_with fail
              go_quiet (fail)
              obtain ⟨W, hW⟩ : ∃ W, W = wr.drewN nq := ⟨_, rfl⟩
              have hfW : Frm [] wr W := by rw [hW]; exact (Frm.refl [] wr).drewN _
              rw [← hW]
              have SW := Lib.hid (S.out.nil hfW)
              obtain ⟨⟨ev, t⟩, hx⟩ : ∃ x, row[j]? = some x := ⟨_, List.getElem?_eq_getElem hjl⟩
              obtain ⟨rb, ro, rfl, hrb, hr0, hr1⟩ := HRR.out.2.2.2 j ev t hx
              have m0 := hfW.cell k0 (by simp)
              have m1 := hfW.cell k1 (by simp)
              have m2 := hfW.cell k2 (by simp)
              have m3 := SW.out.frm.cell hr0 (by simp)
              have m4 := SW.out.frm.cell hr1 (by simp)
              have KEEP : Hid (∀ w', Frm [] W w' → w'.cell? ⟨w.heap.size, 0, none⟩ = some (.slice (some ⟨lb, lo, none⟩) l.length cap) ∧ w'.cell? ⟨lb, lo + r, none⟩ = some (.slice (some ⟨rb, ro, none⟩) row.length rc) ∧ w'.cell? ⟨og, i, none⟩ = some (.int .i64 r) ∧ w'.cell? ⟨rb, ro + j * 2, none⟩ = some (.int .i64 ev) ∧ w'.cell? ⟨rb, ro + j * 2 + 1, none⟩ = some (.int .i64 t)) := Lib.hid fun w' hf => ⟨hf.cell m0 (by simp), hf.cell m1 (by simp), hf.cell m2 (by simp), hf.cell m3 (by simp), hf.cell m4 (by simp)⟩
              have HIA : Hid (∀ W', Frm [] W W' → Calls Tryz.prog 18 #[.slice ra' xr.length rc', .agg #[.int .i64 ev, .int .i64 t]] W' fun e w' => (∃ a' cp', e = .returned (.slice a' (insG ltAr xr (ev, t)).length cp') ∧ w'.ownsRow 0 55 2 (.slice a' (insG ltAr xr (ev, t)).length cp') (insG ltAr xr (ev, t)).length ((insG ltAr xr (ev, t)).flatMap arE) ∧ ∀ b, (Value.slice a' (insG ltAr xr (ev, t)).length cp').ownBlock = some b → (Value.slice ra' xr.length rc').ownBlock = some b ∨ W'.heap.size ≤ b) ∧ Frm [] W' w') := Lib.hid fun W' hf => insA_any 0 ra' rc' xr (ev, t) W' ((SW.out.nil hf).at_ 0 rfl) HNL.out (by omega) (Nat.zero_le _)
              have HX := Lib.hid hx
              clear k0 k1 k2 m0 m1 m2 m3 m4 hr0 hr1 hx hW hfW S
              go_wp2_with fail
              go_region_held3 (fun w' => w'.cell? ⟨w.heap.size, 0, none⟩ = some (.slice (some ⟨lb, lo, none⟩) l.length cap) ∧ w'.cell? ⟨lb, lo + r, none⟩ = some (.slice (some ⟨rb, ro, none⟩) row.length rc) ∧ w'.cell? ⟨og, i, none⟩ = some (.int .i64 r) ∧ w'.cell? ⟨rb, ro + j * 2, none⟩ = some (.int .i64 ev) ∧ w'.cell? ⟨rb, ro + j * 2 + 1, none⟩ = some (.int .i64 t))
                (first | exact KEEP.out _ (Frm.refl [] W).drew | exact KEEP.out _ hy5)
                (first | (go_at_call 18; refine (HIA.out _ (Frm.refl [] W).drew).mono ?_; rintro e5 w5 ⟨⟨a5, c5, rfl, own5, hb5⟩, hf5⟩; have hy5 := (Frm.refl [] W).drew.trans hf5 (by simp)))
              have S6 := Lib.hid (SW.out.step 0 (arcsC (.slice a5 (insG ltAr xr (ev, t)).length c5) (insG ltAr xr (ev, t)).length (insG ltAr xr (ev, t))) rfl hy5 (by simp) own5 (fun k hk => by
                rcases hb5 k (by simpa [ownC] using hk) with h9 | h9
                · exact .inl (by simpa [ownC] using h9)
                · exact .inr h9))
              clear own5 hf5 hy5 hb5 KEEP HIA SW
              go_wp2_with fail
              go_roundg (row.length - (j + 1))
              case rel => exact ⟨j + 1, a5, c5, insG ltAr xr (ev, t), rfl, by omega, by go_num, by rw [take_snoc HX.out, setG_snoc, HXR.out], rfl, fun h => absurd h (insG_ne2 _ _), S6.out⟩
              case measure => have := HQ3.out; omega
            · have i12 : ¬ (j : Int) < (row.length : Int) := by omega
              have hjr : j = row.length := by omega
              have HXS : Hid (xr = setG ltAr row) := Lib.hid (by have := HXR.out; rw [hjr, List.take_length] at this; exact this)
              go_wp2_with fail
              go_quiet (fail)
              obtain ⟨W, hW⟩ : ∃ W, W = wr.drewN nq := ⟨_, rfl⟩
              have hfW : Frm [] wr W := by rw [hW]; exact (Frm.refl [] wr).drewN _
              rw [← hW]
              have HIN : Hid (∀ x ∈ xr, 0 ≤ x.2 ∧ x.2 < l.length) := Lib.hid (by
                rw [HXS.out]
                have h9 := into_set HINTO.out r
                rw [HROW.out] at h9
                exact h9)
              have S7 := Lib.hid ((S.out.nil hfW).add (arcsC (.slice none 0 0) 0 []) (Frm.refl [] W) (ownC_nil _ _ _) (by simp [ownC, Value.ownBlock]))
              clear hW hfW k0 k1 k2 lb0 S hjr i12
              go_wp2_with fail
              obtain ⟨V2, hV2⟩ : ∃ V2, V2 = W := ⟨W, rfl⟩
              rw [← hV2] at S7 ⊢
              clear hV2
              go_loopg [6, 11, 12] xr.length (fun q t6 t11 t12 wr => ∃ (k : Nat) (na : Option Addr) (nc : Nat) (nx : List Ar), q = xr.length - k ∧ k ≤ xr.length ∧ t12 = .int .i64 k ∧ nx = setG ltAr (rowA s.no (xr.take k)).2 ∧ t11 = .slice na nx.length nc ∧ (nx = [] → na = none ∧ nc = 0) ∧ Sep w wr (arcsC (.slice na nx.length nc) nx.length nx :: arcsC (.slice ra' xr.length rc') xr.length xr :: rcanL w.heap.size b7 l (some ⟨lb, lo, none⟩) cap gn (rowA s.no (xr.take k)).1 t6 (.slice ua s.out.length uc) us s.out))
              case atStart => exact ⟨0, none, 0, [], rfl, Nat.zero_le _, rfl, rfl, rfl, fun _ => ⟨rfl, rfl⟩, S7.out⟩
              case round =>
                clear S7
                obtain ⟨k, na, nc, nx, hq4, hk, rfl, hnx, rfl, hnl, hs⟩ := hrel
                have HQ4 := Lib.hid hq4
                have S := Lib.hid hs
                have HNX := Lib.hid hnx
                have HNLX := Lib.hid hnl
                obtain ⟨oa', oc', rfl⟩ := ownC_shape (S.out.at_ 4 rfl)
                have i11 : (0 : Int) ≤ (k : Int) := by omega
                have hrok := rowA_ok HOK.out.ok (xr.take k) (fun x hx => HIN.out x (List.mem_of_mem_take hx))
                have hrl : (rowA s.no (xr.take k)).2.length = k := by rw [hrok.len, List.length_take]; omega
                have hnxl : nx.length ≤ k := by have h7 := setG_le ltAr (rowA s.no (xr.take k)).2; rw [← hnx] at h7; omega
                have hfew3 : (rowA s.no (xr.take k)).1.2.length ≤ l.length := hrok.ok.few
                have HRK := Lib.hid hrok
                clear hq4 hs hrok hnx hnl
                by_cases hkl : k < xr.length
                · have i12 : (k : Int) < (xr.length : Int) := by omega
                  obtain ⟨⟨ev, t⟩, hx⟩ : ∃ x, xr[k]? = some x := ⟨_, List.getElem?_eq_getElem hkl⟩
                  obtain ⟨t0', t1'⟩ := HIN.out _ (List.mem_of_getElem? hx)
                  simp only at t0' t1'
                  obtain ⟨tt, rfl⟩ : ∃ tt : Nat, t = tt := ⟨t.toNat, by omega⟩
                  obtain ⟨ga, c5', e0, hgc, _⟩ := ownC_some (S.out.at_ 1 rfl) (by omega)
                  obtain ⟨rfl, rfl⟩ : ra' = some ⟨ga, 0, none⟩ ∧ rc' = c5' := by simpa using e0
                  have g0 := flatMap_get (enc := arE) (k := 2) (fun _ => rfl) hx 0 (by decide)
                  have g1 := flatMap_get (enc := arE) (k := 2) (fun _ => rfl) hx 1 (by decide)
                  have HG0 : Hid ((xr.flatMap arE)[k * 2]? = some (.int .i64 ev)) := Lib.hid (by rw [Nat.add_zero] at g0; rw [g0]; rfl)
                  have HG1 : Hid ((xr.flatMap arE)[k * 2 + 1]? = some (.int .i64 tt)) := Lib.hid (by rw [g1]; rfl)
                  have x1 : wr.cell? ⟨ga, k * 2 + 1, none⟩ = some (.int .i64 tt) := ownC_cell (S.out.at_ 1 rfl) HG1.out
                  obtain ⟨v, hv⟩ : ∃ v, (rowA s.no (xr.take k)).1.1[tt]? = some v := ⟨_, List.getElem?_eq_getElem (by rw [HRK.out.ok.len]; omega)⟩
                  have n0 : wr.cell? ⟨gn, tt, none⟩ = some (.int .i64 v) := ownC_cell (S.out.at_ 5 rfl) (ints_get hv)
                  have z0 : wr.frozen? ⟨gn, tt, none⟩ = false := ownC_frozen (S.out.at_ 5 rfl) tt
                  have la : ga < wr.heap.size := S.out.lt 1 rfl (by simp [ownC, Value.ownBlock])
                  have ln : gn < wr.heap.size := S.out.lt 5 rfl (by simp [ownC, Value.ownBlock])
                  have hgg : ga ≠ gn := S.out.ne 1 5 rfl rfl (by omega) (by simp [ownC, Value.ownBlock]) (by simp [ownC, Value.ownBlock])
                  have hnt : (numA (rowA s.no (xr.take k)).1 tt) = if v < 0 then ((rowA s.no (xr.take k)).1.1.set tt (rowA s.no (xr.take k)).1.2.length, (rowA s.no (xr.take k)).1.2 ++ [(tt : Int)]) else (rowA s.no (xr.take k)).1 := by
                    rw [numA, Int.toNat_natCast, hv]
                    rfl
                  have hnl9 : tt < (rowA s.no (xr.take k)).1.1.length := (List.getElem?_eq_some_iff.1 hv).1
                  have hnv : (numA (rowA s.no (xr.take k)).1 tt).1[tt]?.getD 0 = if v < 0 then ((rowA s.no (xr.take k)).1.2.length : Int) else v := by
                    rw [hnt]
                    split
                    · rw [List.getElem?_set_self hnl9]
                      rfl
                    · rw [hv]
                      rfl
                  have hstep2 : rowA s.no (xr.take (k + 1)) = (numA (rowA s.no (xr.take k)).1 tt, (rowA s.no (xr.take k)).2 ++ [(ev, (numA (rowA s.no (xr.take k)).1 tt).1[tt]?.getD 0)]) := by rw [take_snoc hx, rowA_snoc, arcA, Int.toNat_natCast]
                  have HV : Hid ((rowA s.no (xr.take k)).1.1[tt]? = some v) := Lib.hid hv
                  clear hx g0 g1 e0 HRK hv hrl
                  rw [hnt] at hstep2
                  rw [hnt] at hnv
                  generalize rowA s.no (xr.take k) = s1 at *
                  by_cases hneg : v < 0
                  · simp only [if_pos hneg] at hstep2 hnv
                    rw [hnv] at hstep2
                    obtain ⟨n1, hn1'⟩ : ∃ n1, n1 = s1.1.2.length := ⟨_, rfl⟩
                    rw [← hn1'] at hstep2 hfew3
                    have HSTEP := Lib.hid hstep2
                    have hszs : (wr.setCell ⟨gn, tt, none⟩ (.int .i64 n1)).heap.size = wr.heap.size := by simp [World.setCell]
                    have SB := Lib.hid ((S.out.put 5 rfl tt (.int .i64 n1)).nil ((Frm.refl [] _).alloc (.cells #[.int .i64 tt] 3)))
                    have HSRC : Hid (RowAt ((wr.setCell ⟨gn, tt, none⟩ (.int .i64 n1)).alloc (.cells #[.int .i64 tt] 3)) wr.heap.size 3 [.int .i64 tt]) := Lib.hid (by
                      have := RowAt.made (wr.setCell ⟨gn, tt, none⟩ (.int .i64 n1)) 3 [.int .i64 tt] #[.int .i64 tt] rfl
                      rw [hszs] at this
                      exact this)
                    have HN1 := Lib.hid hn1'
                    clear hnt hnv hstep2 hszs
                    rw [← hn1']
                    clear hn1'
                    go_wp2_with (first
                      | (at_builtin; refine app_row rfl (.tmp 85) (.tmp 91) 22 3 _ 1 8 rfl Tryz.underlying22 infoInt rfl (by decide) (by decide) 0 n1 (.slice oa' n1 oc') _ rfl (by have := SB.out.at_ 4 rfl; rw [← HN1.out] at this; exact this) _ 1 [.int .i64 tt] [] rfl (rowV_cells (size := 1) HSRC.out rfl (Nat.le_refl _) (by decide) (by simp)) (by simp [Value.oneCell']) (n1 + 1) rfl (by omega) (Nat.zero_le _) ?_; intro a8 c8 w8 own8 hf8 hb8; have SC := Lib.hid (SB.out.step 4 (intsC (.slice a8 (n1 + 1) c8) (n1 + 1) (s1.1.2 ++ [(tt : Int)])) rfl hf8 (fun k hk => .inl (by rw [← HN1.out]; exact hk)) (by have h9 := own8; rw [show ints s1.1.2 ++ [Value.int IntKind.i64 (tt : Int)] = ints (s1.1.2 ++ [(tt : Int)]) from by simp [ints]] at h9; exact h9) (by rw [← HN1.out]; exact fresh_own hb8)); clear own8 hf8 hb8)
                      | fail)
                    have KEEP : Hid (∀ w', Frm [] w8 w' → w'.cell? ⟨ga, k * 2, none⟩ = some (.int .i64 ev) ∧ w'.cell? ⟨ga, k * 2 + 1, none⟩ = some (.int .i64 tt) ∧ w'.cell? ⟨gn, tt, none⟩ = some (.int .i64 n1)) := Lib.hid fun w' hf => by
                      have hS := SC.out.nil hf
                      exact ⟨ownC_cell (hS.at_ 1 rfl) HG0.out, ownC_cell (hS.at_ 1 rfl) HG1.out, ownC_cell (hS.at_ 5 rfl) (List.getElem?_set_self (by simp [ints]; exact hnl9))⟩
                    have HIA : Hid (∀ W', Frm [] w8 W' → Calls Tryz.prog 18 #[.slice na nx.length nc, .agg #[.int .i64 ev, .int .i64 n1]] W' fun e w' => (∃ a' cp', e = .returned (.slice a' (insG ltAr nx (ev, (n1 : Int))).length cp') ∧ w'.ownsRow 0 55 2 (.slice a' (insG ltAr nx (ev, (n1 : Int))).length cp') (insG ltAr nx (ev, (n1 : Int))).length ((insG ltAr nx (ev, (n1 : Int))).flatMap arE) ∧ ∀ b, (Value.slice a' (insG ltAr nx (ev, (n1 : Int))).length cp').ownBlock = some b → (Value.slice na nx.length nc).ownBlock = some b ∨ W'.heap.size ≤ b) ∧ Frm [] W' w') := Lib.hid fun W' hf => insA_any 0 na nc nx (ev, (n1 : Int)) W' ((SC.out.nil hf).at_ 0 rfl) HNLX.out (by omega) (Nat.zero_le _)
                    go_region_held3 (fun w' => w'.cell? ⟨ga, k * 2, none⟩ = some (.int .i64 ev) ∧ w'.cell? ⟨ga, k * 2 + 1, none⟩ = some (.int .i64 tt) ∧ w'.cell? ⟨gn, tt, none⟩ = some (.int .i64 n1))
                      (first | exact KEEP.out _ (Frm.refl [] w8).drew | exact KEEP.out _ hy5)
                      (first | (go_at_call 18; refine (HIA.out _ (Frm.refl [] w8).drew).mono ?_; rintro e5 w5 ⟨⟨a5, c5, rfl, own5, hb5⟩, hf5⟩; have hy5 := (Frm.refl [] w8).drew.trans hf5 (by simp)))
                    have S6 := Lib.hid (SC.out.step 0 (arcsC (.slice a5 (insG ltAr nx (ev, (n1 : Int))).length c5) (insG ltAr nx (ev, (n1 : Int))).length (insG ltAr nx (ev, (n1 : Int)))) rfl hy5 (by simp) own5 (fun k hk => by
                      rcases hb5 k (by simpa [ownC] using hk) with h9 | h9
                      · exact .inl (by simpa [ownC] using h9)
                      · exact .inr h9))
                    clear own5 hf5 hy5 hb5 KEEP HIA
                    go_wp2_with fail
                    go_roundg (xr.length - (k + 1))
                    case rel =>
                      refine ⟨k + 1, a5, c5, insG ltAr nx (ev, (n1 : Int)), rfl, by omega, by go_num, by rw [HSTEP.out, setG_snoc, HNX.out], rfl, fun h => absurd h (insG_ne2 _ _), ?_⟩
                      have h9 := S6.out
                      rw [HSTEP.out]
                      simp only [List.set_cons_zero, List.set_cons_succ] at h9
                      rw [← ints_set] at h9
                      have h8 : (s1.1.2 ++ [(tt : Int)]).length = n1 + 1 := by rw [HN1.out]; simp
                      show Sep w _ [_, _, _, _, intsC (.slice a8 (n1 + 1) c8) (s1.1.2 ++ [(tt : Int)]).length (s1.1.2 ++ [(tt : Int)]), _, _, _]
                      rw [h8]
                      exact h9
                    case measure => have := HQ4.out; omega
                  · simp only [if_neg hneg] at hstep2 hnv
                    rw [hnv] at hstep2
                    have HSTEP := Lib.hid hstep2
                    clear hnt hnv hstep2
                    have KEEP : Hid (∀ w', Frm [] wr w' → w'.cell? ⟨ga, k * 2, none⟩ = some (.int .i64 ev) ∧ w'.cell? ⟨ga, k * 2 + 1, none⟩ = some (.int .i64 tt) ∧ w'.cell? ⟨gn, tt, none⟩ = some (.int .i64 v)) := Lib.hid fun w' hf => by
                      have hS := S.out.nil hf
                      exact ⟨ownC_cell (hS.at_ 1 rfl) HG0.out, ownC_cell (hS.at_ 1 rfl) HG1.out, ownC_cell (hS.at_ 5 rfl) (ints_get HV.out)⟩
                    have HIA : Hid (∀ W', Frm [] wr W' → Calls Tryz.prog 18 #[.slice na nx.length nc, .agg #[.int .i64 ev, .int .i64 v]] W' fun e w' => (∃ a' cp', e = .returned (.slice a' (insG ltAr nx (ev, (v : Int))).length cp') ∧ w'.ownsRow 0 55 2 (.slice a' (insG ltAr nx (ev, (v : Int))).length cp') (insG ltAr nx (ev, (v : Int))).length ((insG ltAr nx (ev, (v : Int))).flatMap arE) ∧ ∀ b, (Value.slice a' (insG ltAr nx (ev, (v : Int))).length cp').ownBlock = some b → (Value.slice na nx.length nc).ownBlock = some b ∨ W'.heap.size ≤ b) ∧ Frm [] W' w') := Lib.hid fun W' hf => insA_any 0 na nc nx (ev, (v : Int)) W' ((S.out.nil hf).at_ 0 rfl) HNLX.out (by omega) (Nat.zero_le _)
                    go_wp2_with fail
                    go_region_held3 (fun w' => w'.cell? ⟨ga, k * 2, none⟩ = some (.int .i64 ev) ∧ w'.cell? ⟨ga, k * 2 + 1, none⟩ = some (.int .i64 tt) ∧ w'.cell? ⟨gn, tt, none⟩ = some (.int .i64 v))
                      (first | exact KEEP.out _ (Frm.refl [] wr).drew | exact KEEP.out _ hy5)
                      (first | (go_at_call 18; refine (HIA.out _ (Frm.refl [] wr).drew).mono ?_; rintro e5 w5 ⟨⟨a5, c5, rfl, own5, hb5⟩, hf5⟩; have hy5 := (Frm.refl [] wr).drew.trans hf5 (by simp)))
                    have S6 := Lib.hid (S.out.step 0 (arcsC (.slice a5 (insG ltAr nx (ev, (v : Int))).length c5) (insG ltAr nx (ev, (v : Int))).length (insG ltAr nx (ev, (v : Int)))) rfl hy5 (by simp) own5 (fun k hk => by
                      rcases hb5 k (by simpa [ownC] using hk) with h9 | h9
                      · exact .inl (by simpa [ownC] using h9)
                      · exact .inr h9))
                    clear own5 hf5 hy5 hb5 KEEP HIA
                    go_wp2_with fail
                    go_roundg (xr.length - (k + 1))
                    case rel =>
                      refine ⟨k + 1, a5, c5, insG ltAr nx (ev, (v : Int)), rfl, by omega, by go_num, by rw [HSTEP.out, setG_snoc, HNX.out], rfl, fun h => absurd h (insG_ne2 _ _), ?_⟩
                      have h9 := S6.out
                      rw [HSTEP.out]
                      exact h9
                    case measure => have := HQ4.out; omega
                · have i12 : ¬ (k : Int) < (xr.length : Int) := by omega
                  have hkx : k = xr.length := by omega
                  have hsS := S.out
                  rw [hkx, List.take_length] at hsS
                  have hcs : canStep l s i = ⟨(rowA s.no xr).1, s.out ++ [setG ltAr (rowA s.no xr).2]⟩ := by
                    rw [canStep, HT.out]
                    simp only [Option.getD_some, Int.toNat_natCast, HROW.out, ← HXS.out]
                  obtain ⟨f', hf'⟩ : ∃ f', f = f' + 1 := ⟨f - 1, by have := HFI.out; omega⟩
                  have hgo := HGO.out
                  rw [hf', canGo, if_pos hlt] at hgo
                  have hokn := HOK.out.step HINTO.out hlt
                  rw [hcs] at hgo hokn
                  have HF' := Lib.hid hf'
                  have HGO2 := Lib.hid hgo
                  have HOKN := Lib.hid hokn
                  have HNX2 : Hid (nx = setG ltAr (rowA s.no xr).2) := Lib.hid (by have := HNX.out; rw [hkx, List.take_length] at this; exact this)
                  have HKE : Hid (rowA s.no (xr.take k) = rowA s.no xr) := Lib.hid (by rw [hkx, List.take_length])
                  rw [hkx, List.take_length] at hfew3
                  generalize rowA s.no xr = s1 at *
                  have S8 := Lib.hid (hsS.pull 1 rfl).tail
                  have hl9 : s.out.length ≤ 16384 := by have h1 := HOK.out.out; have := HFI.out; omega
                  have b0 := (show RowAt wr b7 25 [.slice ua s.out.length uc] from S8.out.at_ 2 rfl).cell (i := 0) rfl
                  have lb7 : b7 < wr.heap.size := S8.out.lt 2 rfl (by simp [boxC])
                  clear hsS hrl hcs hf' hgo hokn hkx hk S
                  go_wp2_with (first
                    | (at_builtin; refine app_row rfl (.tmp 110) (.tmp 112) 23 51 _ 1 24 rfl Tryz.underlying23 infoRw rfl (by decide) (by decide) 0 s.out.length (.slice ua s.out.length uc) us rfl ((S8.out.nil ((Frm.refl [] wr).alloc _)).at_ 1 rfl).1 _ 1 [.slice na nx.length nc] [] rfl (rowV_cells (size := 1) (RowAt.made wr 51 [.slice na nx.length nc] #[.slice na nx.length nc] rfl) rfl (Nat.le_refl _) (by decide) (by simp)) (by simp [Value.oneCell']) (s.out.length + 1) rfl (by omega) (Nat.zero_le _) ?_; intro a11 c11 w11 own11 hf11 hb11; have S11 := Lib.hid ((S8.out.nil ((Frm.refl [] wr).alloc (.cells #[.slice na nx.length nc] 51))).snoc rfl rfl (by decide) rfl own11 rfl rfl hf11 (fun k hk => (hb11 k hk).imp id (fun e => Nat.le_of_eq e.symm))); have d0 := (show RowAt w11 b7 25 [.slice ua s.out.length uc] from S11.out.at_ 1 rfl).cell (i := 0) rfl; have d1 := (show RowAt w11 b7 25 [.slice ua s.out.length uc] from S11.out.at_ 1 rfl).frozen 0; clear own11 hf11 hb11)
                    | fail)
                  have S12 := Lib.hid (S11.out.putBox 1 rfl 0 (.slice a11 (s.out.length + 1) c11))
                  go_roundg f'
                  case rel =>
                    refine ⟨f', i + 1, _, us ++ [.slice na nx.length nc], .slice a11 (s.out.length + 1) c11, rfl, by have := HFI.out; have := HF'.out; omega, HOKN.out, HGO2.out, by go_num, ?_⟩
                    rw [HKE.out, ← HNX2.out]
                    exact S12.out
                  case measure => have := HQ.out; have := HF'.out; omega
        · have i5 : ¬ (i : Int) < (s.no.2.length : Int) := by omega
          have hend : s = canB l := by
            have h1 := HGO.out
            obtain ⟨f', hf'⟩ : ∃ f', f = f' + 1 := ⟨f - 1, by have := HFI.out; have := HOK.out.le; omega⟩
            rw [hf', canGo, if_neg hlt] at h1
            exact h1
          have HE := Lib.hid hend
          have c0 := (show RowAt wx b7 25 [.slice ua s.out.length uc] from S.out.at_ 1 rfl).cell (i := 0) rfl
          have c1 := (show RowAt wx (w.heap.size + 1) 25 [.slice none 0 0] from S.out.at_ 4 rfl).cell (i := 0) rfl
          have z1 := (show RowAt wx (w.heap.size + 1) 25 [.slice none 0 0] from S.out.at_ 4 rfl).frozen 0
          have hcs := World.cell?_setCell_same' wx ⟨w.heap.size + 1, 0, none⟩ (.slice ua s.out.length uc) (by rw [c1]; rfl)
          have hne : w.heap.size + 1 ≠ b7 := S.out.ne 4 1 rfl rfl (by omega) (by simp [boxC]) (by simp [boxC])
          clear hend
          go_wp2_with fail
          refine bodyPost_ret (v := .tuple #[.agg #[.slice ua s.out.length uc], .slice oa s.no.2.length oc]) (by simp [results, Tryz.results27, go_sem, hcs]) rfl ?_
          have S9 := S.out.putBox 4 rfl 0 (.slice ua s.out.length uc)
          refine ⟨.slice ua s.out.length uc, .slice oa s.no.2.length oc, us, rfl, ?_⟩
          rw [← HE.out]
          have h9 := (S9.pull 2 rfl).take 2
          exact h9

end Go.Proofs.YtdknbgejhhoaiaaGreat.Ind
