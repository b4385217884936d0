/- Contract of the reference's Of. (Its drawn region is printed by wip/tools/wf.py.) -/
import Derived.Test.YtikpcipkkhmcfaaGreatQ00
import Derived.Test.YtikpcipkkhmcfaaGreatQ38
import Derived.Test.YtikpcipkkhmcfaaGreatQ39
import Derived.Test.YtikpcipkkhmcfaaGreatQ40
namespace Go.Proofs.YtikpcipkkhmcfaaGreat.Beh
open Go.Shelf Go.RowKit Go.Lib Go.Sort Go.Maps Go.Proofs.YtikpcipkkhmcfaaGreat Go.Proofs.YtikpcipkkhmcfaaGreat.Ind

/-- The events below j. -/
def evTo (l : List Int) (j : Nat) : List Int := l.filter fun e => decide (e < (j : Int))
theorem evTo_succ : ∀ {l : List Int} (_ : l.Pairwise (· < ·)) (j : Nat), evTo l (j + 1) = evTo l j ++ (if (j : Int) ∈ l then [(j : Int)] else [])
 | [], _, j => by simp [evTo]
 | a :: r, h, j => by
  have h1 := List.pairwise_cons.1 h
  have ih := evTo_succ h1.2 j
  unfold evTo at *
  rcases Int.lt_trichotomy a j with h2 | h2 | h2
  ·rw [List.filter_cons, if_pos (by simp; omega), List.filter_cons, if_pos (by simpa using h2), ih, List.cons_append]
   by_cases hm : (j : Int) ∈ r
   ·rw [if_pos hm, if_pos (List.mem_cons_of_mem _ hm)]
   ·rw [if_neg hm, if_neg (fun h9 => by rcases List.mem_cons.1 h9 with h8 | h8; omega; exact hm h8)]
  ·subst h2
   have e1 : r.filter (fun e => decide (e < ((j + 1 : Nat) : Int))) = [] := List.filter_eq_nil_iff.2 (fun x hx => by have := h1.1 x hx; simp; omega)
   have e2 : r.filter (fun e => decide (e < (j : Int))) = [] := List.filter_eq_nil_iff.2 (fun x hx => by have := h1.1 x hx; simp; omega)
   rw [List.filter_cons, if_pos (by simp; omega), List.filter_cons, if_neg (by simp), e1, e2, if_pos (by simp), List.nil_append]
  ·have e1 : r.filter (fun e => decide (e < ((j + 1 : Nat) : Int))) = [] := List.filter_eq_nil_iff.2 (fun x hx => by have := h1.1 x hx; simp; omega)
   have e2 : r.filter (fun e => decide (e < (j : Int))) = [] := List.filter_eq_nil_iff.2 (fun x hx => by have := h1.1 x hx; simp; omega)
   rw [List.filter_cons, if_neg (by simp; omega), List.filter_cons, if_neg (by simp; omega), e1, e2, if_neg (fun h9 => by rcases List.mem_cons.1 h9 with h8 | h8; omega; have := h1.1 _ h8; omega), List.nil_append]
theorem evTo_all {l : List Int} {j : Nat} (h : ∀ e ∈ l, e < (j : Int)) : evTo l j = l := List.filter_eq_self.2 (fun x hx => by simpa using h x hx)
theorem evTo_none {l : List Int} {j : Nat} (h : ∀ e ∈ l, (j : Int) ≤ e) : evTo l j = [] := List.filter_eq_nil_iff.2 (fun x hx => by have := h x hx; simp; omega)
theorem evTo_pre : ∀ {l : List Int} (_ : l.Pairwise (· < ·)) (j : Nat), l = evTo l j ++ l.filter (fun e => decide ((j : Int) ≤ e))
 | [], _, j => by simp [evTo]
 | a :: r, h, j => by
  have h1 := List.pairwise_cons.1 h
  have ih := evTo_pre h1.2 j
  unfold evTo at *
  by_cases h2 : a < (j : Int)
  ·rw [List.filter_cons, if_pos (by simpa using h2), List.filter_cons, if_neg (by simp; omega), List.cons_append, ← ih]
  ·have e2 : r.filter (fun e => decide (e < (j : Int))) = [] := List.filter_eq_nil_iff.2 (fun x hx => by have := h1.1 x hx; simp; omega)
   have e3 : r.filter (fun e => decide ((j : Int) ≤ e)) = r := List.filter_eq_self.2 (fun x hx => by have := h1.1 x hx; simp; omega)
   rw [List.filter_cons, if_neg (by simpa using h2), List.filter_cons, if_pos (by simp; omega), e2, e3, List.nil_append]
theorem addTo_next {l : Lts} {ps : List Nat} {t : List Int} {st0 st : St} {j : Nat} (h : addL (wkL l) ps t (evTo (evN l ps) j) st0 = some st) (hm : (j : Int) ∈ evN l ps) (hf : st.length ≠ 16384) : addL (wkL l) ps t (evTo (evN l ps) (j + 1)) st0 = some (st ++ [newE (wkL l) ps t (j : Int)]) := by
 rw [evTo_succ (asc_evN l ps), if_pos hm, addL_app, h]
 show addL (wkL l) ps t [(j : Int)] st = _
 rw [addL_cons hf]; rfl
theorem addTo_skip {l : Lts} {ps : List Nat} {t : List Int} {st0 : St} {j : Nat} (hm : (j : Int) ∉ evN l ps) : addL (wkL l) ps t (evTo (evN l ps) (j + 1)) st0 = addL (wkL l) ps t (evTo (evN l ps) j) st0 := by
 rw [evTo_succ (asc_evN l ps), if_neg hm, List.append_nil]
theorem addTo_over {l : Lts} {ps : List Nat} {t : List Int} {st0 st : St} {j : Nat} (h : addL (wkL l) ps t (evTo (evN l ps) j) st0 = some st) (hm : (j : Int) ∈ evN l ps) (hf : st.length = 16384) : addL (wkL l) ps t (evN l ps) st0 = none := by
 rw [evTo_pre (asc_evN l ps) (j + 1), evTo_succ (asc_evN l ps), if_pos hm, List.append_assoc, addL_app, h]
 show addL (wkL l) ps t ((j : Int) :: _) st = none
 exact addL_full hf
def LpR1 (w3 : World) (F : List Nat) (l : Lts) (k i : Nat) (st : St) (v8 v9 : Value) (wr : World) : Prop :=
 i ≤ st.length ∧ st.length ≤ 16384 ∧ Lv k i st ∧ ofGo (wkL l) k (16385 - i) i st = ofL l k ∧ SetsOk l st ∧ OfR w3 F (st.map (·.1)) (st.map (·.2)) v8 v9 wr
def LpR2 (w3 : World) (F : List Nat) (l : Lts) (k i : Nat) (p : List Nat × En) (st0 : St) (j : Nat) (st : St) (v8 v9 : Value) (wr : World) : Prop :=
 addL (wkL l) p.1 p.2.1 (evTo (evN l p.1) j) st0 = some st ∧ Lv k i st ∧ st[i]? = some p ∧ st.length ≤ 16384 ∧ SetsOk l st ∧ OfR w3 F (st.map (·.1)) (st.map (·.2)) v8 v9 wr
theorem OfR.start {w0 : World} {F : List Nat} (hl : ∀ k ∈ F, k < w0.heap.size) : OfR w0 F [] [] (.slice none 0 0) (.slice none 0 0) w0 :=
 ⟨Frm.refl _ _, ⟨[], rfl, World.ownsRow_nil _ _ _ _, by simp⟩, ⟨[], rfl, World.ownsRow_nil _ _ _ _, by intro p hp; cases hp⟩, hl⟩
set_option linter.unusedSimpArgs false in
set_option maxRecDepth 100000 in
set_option maxHeartbeats 8000000 in
theorem rof_any (B0 : Nat) (F : List Nat) (w : World) (a : Option Addr) (cap : Nat) (l : Lts) (n : Int) (h0 : LAt B0 w a cap l) (hF : ∀ k ∈ F, k < w.heap.size) :
  Calls Tryz.prog 38 #[.agg #[.slice a l.length cap], .int .i64 n] w (OfEnd w F l n) := by
 have h := h0.cut
 clear h0
 have f0 : Frm [] w (w.alloc (.cells #[.slice a l.length cap] 25)) := (Frm.refl [] w).alloc _
 have hb0 := RowAt.made w 25 [.slice a l.length cap] #[.slice a l.length cap] rfl
 have hva := refValid_any w.heap.size a cap l _ (h.nil f0 rfl)
 have HB0 := Lib.hid hb0
 have HF0 := Lib.hid f0
 have HFL := Lib.hid hF
 have HL := Lib.hid h
 clear hb0 f0 hF h
 by_cases hgood : validB l = true ∧ 0 ≤ n ∧ n ≤ 24
 ·obtain ⟨hv, hn0, hn1⟩ := hgood
  have HV := Lib.hid hv
  have HVL := Lib.hid (vlts_of hv)
  have hfew := (vlts_of hv).few
  rw [hv] at hva
  have HVA := Lib.hid hva
  obtain ⟨k, rfl⟩ : ∃ k : Nat, n = (k : Int) := ⟨n.toNat, by omega⟩
  have m1 : ¬ (k : Int) < 0 := by omega
  have m2 : ¬ 24 < (k : Int) := by omega
  have HEND : Hid (∀ e w', Frm [] w w' → (match ofL l k with | none => e = .returned (.tuple #[.slice none 0 0, .int .i64 10]) | some st => ∃ a c, e = .returned (.tuple #[.slice a st.length c, .int .i64 0]) ∧ BehAt w' F (.slice a st.length c) (st.map (·.2))) → OfEnd w F l (k : Int) e w') := Lib.hid fun e w' hf hm => ⟨hf, by rw [if_pos ⟨hv, hn0, hn1⟩]; exact hm⟩
  clear hv hva
  go_enter Tryz.func38, Tryz.ntmps38
  go_wp2_with (first
   | (go_at_call 67; refine HVA.out.mono ?_; rintro e3 w3 ⟨rfl, hf3⟩; have F3 := Lib.hid (HF0.out.trans hf3 (by simp)); have B3 := Lib.hid (HB0.out.frm hf3 (by simp)); have b3 := B3.out.cell (i := 0) rfl; clear hf3)
   | fail)
  have I3 := Lib.hid (OfR.start (w0 := w3) (F := F) (fun k hk => Nat.lt_of_lt_of_le (HFL.out k hk) F3.out.size))
  have HLW : Hid (∀ wr, Frm [] w3 wr → LAt w.heap.size wr a cap l) := Lib.hid fun wr hf => HL.out.nil (F3.out.trans hf (by simp)) rfl
  have HBW : Hid (∀ wr, Frm [] w3 wr → wr.cell? ⟨w.heap.size, 0, none⟩ = some (.slice a l.length cap)) := Lib.hid fun wr hf => (B3.out.frm hf (by simp)).cell (i := 0) rfl
  have HFW : Hid (∀ wr, Frm [] w3 wr → Frm [] w wr) := Lib.hid fun wr hf => F3.out.trans hf (by simp)
  have hre := rreach_any w.heap.size a cap l (some ⟨w3.heap.size, 0, none⟩) 1 [0] true (w3.alloc (.cells #[.int .i64 0] 3)) (HLW.out _ ((Frm.refl [] w3).alloc _)) (by
   have hr := RowAt.made w3 3 [.int .i64 0] #[.int .i64 0] rfl
   exact ⟨rfl, Nat.le_refl _, by decide, fun i u hu => ⟨w3.heap.size, 0, rfl, by simp, by rw [Nat.zero_add]; exact hr.cell hu⟩⟩) (fun h9 => by cases h9) (by decide)
  have HRE := Lib.hid hre
  clear hre
  refine HRE.out.mono ?_
  rintro e5 w5 ⟨hR5, hf5⟩
  rw [ReachEnd, if_pos ⟨HV.out, by
   have := HVL.out.pos
   simp only [List.all_cons, List.all_nil, Bool.and_true]
   rw [inB_iff]
   omega⟩] at hR5
  obtain ⟨a5, c5, s0, rfl, own5, hir0⟩ := hR5
  have hir : IsReach (Esel l true) [0] s0 := hir0
  clear hir0
  have hs0 := rch_eq hir
  have hs0l := reach_lt HVL.out hir (fun v hv => by
   have := HVL.out.pos
   simp at hv
   omega)
  have hs0c := closed_of hir
  have hs0n : s0.length ≤ 16384 := by have := asc_le hir.asc hs0l; omega
  have I5 := Lib.hid ((I3.out.keep ((Frm.refl [] w3).alloc (.cells #[.int .i64 0] 3))).keep hf5)
  have hu5 : RowV w5 (blkR F (.slice none 0 0) (.slice none 0 0)) (.slice a5 s0.length c5) s0.length 1 (ints (natI s0)) := rowV_of_owns own5 (fun k hk e => by
   have h1 := (own5.lt k e).1
   have h2 := (I3.out.keep ((Frm.refl [] w3).alloc (.cells #[.int .i64 0] 3))).blt k hk
   omega)
  have I6 : Hid (OfR w3 F [s0] [] (.slice (some ⟨w5.heap.size, 0, none⟩) 1 1) (.slice none 0 0) (w5.alloc (.cells #[.slice a5 s0.length c5] 22))) := Lib.hid (I5.out.set (x := s0) [] rfl (fun p hp => by cases hp) ((Frm.refl _ w5).alloc _) rfl (ownsB_mono (owns_cells w5 22 1 1 [.slice a5 s0.length c5] rfl (by decide)) I5.out.frm.size) (fun k hk => .inr (by simpa [Value.ownBlock] using hk.symm)) hu5)
  have HU6 := Lib.hid (hu5.nil ((Frm.refl [] w5).alloc (.cells #[.slice a5 s0.length c5] 22)))
  have C6 : Hid ((w5.alloc (.cells #[.slice a5 s0.length c5] 22)).cell? ⟨w5.heap.size, 0, none⟩ = some (.slice a5 s0.length c5)) := Lib.hid ((RowAt.made w5 22 [.slice a5 s0.length c5] #[.slice a5 s0.length c5] rfl).cell (i := 0) rfl)
  have HS0 := Lib.hid hs0
  have HS0L := Lib.hid hs0l
  have HS0C := Lib.hid hs0c
  clear own5 hir hf5 hs0 hs0l hs0c hu5 b3
  go_wp2_with fail
  generalize w5.alloc (.cells #[.slice a5 s0.length c5] 22) = w6 at *
  generalize w5.heap.size = q8 at *
  have KEEP : Hid (∀ w', Frm [] w6 w' → w'.cell? ⟨w.heap.size, 0, none⟩ = some (.slice a l.length cap) ∧ w'.cell? ⟨q8, 0, none⟩ = some (.slice a5 s0.length c5)) := Lib.hid fun w' hf => ⟨HBW.out _ (I6.out.frm.trans hf (by simp)), hf.cell C6.out (by simp)⟩
  have HEN : Hid (∀ W, Frm [] w6 W → Calls Tryz.prog 68 #[.agg #[.slice a l.length cap], .slice none 0 0, .slice a5 s0.length c5] W (REntEnd W (blkR F (.slice (some ⟨q8, 0, none⟩) 1 1) (.slice none 0 0)) l none 0 0 s0)) := Lib.hid fun W hf => rentry_any w.heap.size _ _ W a cap l none 0 0 _ s0 HV.out (HLW.out _ (I6.out.frm.trans hf (by simp))) (HU6.out.nil hf) HS0L.out hs0n (fun k hk => Nat.lt_of_lt_of_le (I6.out.blt k hk) hf.size)
  go_region_held3 (fun w' => w'.cell? ⟨w.heap.size, 0, none⟩ = some (.slice a l.length cap) ∧ w'.cell? ⟨q8, 0, none⟩ = some (.slice a5 s0.length c5))
   (first | exact KEEP.out _ (Frm.refl [] w6).drew | exact KEEP.out _ hy7 | exact KEEP.out _ (hy7.alloc _))
   (first | (go_at_call 68; refine (HEN.out _ (Frm.refl [] w6).drew).mono ?_; rintro e7 w7 ⟨⟨aa, ac, rfl, s7⟩, hf7⟩; have hy7 := (Frm.refl [] w6).drew.trans hf7 (by simp)))
  have I7 := Lib.hid (I6.out.keep hy7)
  have hent7 : EntAt w7 (blkR F (.slice (some ⟨q8, 0, none⟩) 1 1) (.slice none 0 0)) ((.slice none 0 0, .slice aa (minL (accN l s0)).length ac), ([], minL (accN l s0), divB l s0)) := ⟨RowV.nil0 _ _ _, s7⟩
  have I8 : Hid (OfR w3 F [s0] [([], minL (accN l s0), divB l s0)] (.slice (some ⟨q8, 0, none⟩) 1 1) (.slice (some ⟨w7.heap.size, 0, none⟩) 1 1) (w7.alloc (.cells #[.slice none 0 0, .slice aa (minL (accN l s0)).length ac, .bool (divB l s0)] 69))) := Lib.hid (I7.out.ent [] rfl (fun p hp => by cases hp) ((Frm.refl _ w7).alloc _) rfl (ownsB_mono (owns_cells w7 69 3 1 [.slice none 0 0, .slice aa (minL (accN l s0)).length ac, .bool (divB l s0)] rfl (by decide)) I7.out.frm.size) (fun k hk => .inr (by simpa [Value.ownBlock] using hk.symm)) hent7)
  have L0 : Hid (LpR1 w3 F l k 0 [(s0, ([], minL (accN l s0), divB l s0))] (.slice (some ⟨q8, 0, none⟩) 1 1) (.slice (some ⟨w7.heap.size, 0, none⟩) 1 1) (w7.alloc (.cells #[.slice none 0 0, .slice aa (minL (accN l s0)).length ac, .bool (divB l s0)] 69))) := Lib.hid ⟨Nat.zero_le _, by simp, lv_start (wkL l) k s0, by unfold ofL ofB; rw [HS0.out]; rfl, fun p hp => by rw [List.mem_singleton.1 hp]; exact ⟨HS0C.out, HS0L.out⟩, I8.out⟩
  clear s7 hy7 hent7 KEEP HEN HRE hf7
  go_wp2_with fail
  generalize w7.alloc (.cells #[.slice none 0 0, .slice aa (minL (accN l s0)).length ac, .bool (divB l s0)] 69) = w9 at *
  generalize w7.heap.size = q9 at *
  clear I7 I8 HU6 C6 I6 I5 HS0 HS0L HS0C
  go_loopg [6, 7, 8] 16385 (fun q t8 t9 t10 wr => ∃ (i : Nat) (st : St) (a8 a9 : Option Addr) (c8 c9 : Nat), q = 16385 - i ∧ t10 = .int .i64 i ∧ t8 = .slice a8 st.length c8 ∧ t9 = .slice a9 st.length c9 ∧ LpR1 w3 F l k i st (.slice a8 st.length c8) (.slice a9 st.length c9) wr)
  case atStart => exact ⟨0, _, _, _, _, _, rfl, rfl, rfl, rfl, L0.out⟩
  case round =>
   clear L0
   obtain ⟨i, st, a8, a9, c8, c9, hq, rfl, rfl, rfl, hLp⟩ := hrel
   obtain ⟨hi, hst, hlv, hres, hso, hI⟩ := hLp
   have HQ := Lib.hid hq
   have HLV := Lib.hid hlv
   have HRES := Lib.hid hres
   have HSO := Lib.hid hso
   have I := Lib.hid hI
   have i4 : (0 : Int) ≤ (i : Int) := by omega
   clear hq hlv hres hso hI
   by_cases hlt : i < st.length
   ·have i5 : (i : Int) < (st.length : Int) := by omega
    obtain ⟨⟨ps, pe⟩, hp⟩ : ∃ p, st[i]? = some p := ⟨_, List.getElem?_eq_getElem hlt⟩
    have hpe : (st.map (·.2))[i]? = some pe := by rw [List.getElem?_map, hp]; rfl
    obtain ⟨g9, cc9, ta, tc, e9, hc9, tcell, trow⟩ := I.out.ent_at hpe
    rw [List.length_map] at e9 hc9
    obtain ⟨rfl, rfl⟩ : a9 = some ⟨g9, 0, none⟩ ∧ c9 = cc9 := by simpa using e9
    have HP := Lib.hid hp
    by_cases hlen : pe.1.length = k
    ·have jn : ((pe.1.length : Int) == (k : Int)) = true := by simp [hlen]
     have HR : Hid (LpR1 w3 F l k (i + 1) st (.slice a8 st.length c8) (.slice (some ⟨g9, 0, none⟩) st.length c9) wr) := Lib.hid ⟨by omega, hst, HLV.out.next, by
      rw [← HRES.out, show 16385 - i = (16385 - (i + 1)) + 1 by omega, of_same hp hlen], HSO.out, I.out⟩
     clear hlen hpe e9 trow hp
     go_wp2_with fail
     go_roundg (16385 - (i + 1))
     case rel => exact ⟨i + 1, st, a8, _, c8, c9, rfl, by go_num, rfl, rfl, HR.out⟩
     case measure => have := HQ.out; omega
    ·have jn : ((pe.1.length : Int) == (k : Int)) = false := by simp; omega
     have hpsl : ∀ v ∈ ps, v < l.length := (HSO.out _ (List.mem_of_getElem? hp)).2
     have hpsa : ps.Pairwise (· < ·) := (HSO.out _ (List.mem_of_getElem? hp)).1.asc
     have HPSC := Lib.hid (HSO.out _ (List.mem_of_getElem? hp)).1
     have hpsn : ps.length ≤ 16384 := by have := asc_le hpsa hpsl; have := HVL.out.few; omega
     have HLEN := Lib.hid hlen
     have HPSL := Lib.hid hpsl
     have L2 : Hid (LpR2 w3 F l k i (ps, pe) st 1 st (.slice a8 st.length c8) (.slice (some ⟨g9, 0, none⟩) st.length c9) wr) := Lib.hid ⟨by rw [evTo_none (fun e he => (vis_evN HVL.out ps e he).1)]; rfl, HLV.out, HP.out, hst, HSO.out, I.out⟩
     clear hlen hpe e9 trow hpsl hpsa hp
     go_wp2_with fail
     clear I tcell
     go_loopg [6, 7, 9] 1025 (fun q t8 t9 t61 wr => ∃ (j : Nat) (st2 : St) (a8 a9 : Option Addr) (c8 c9 : Nat), q = 1026 - j ∧ 1 ≤ j ∧ j ≤ 1026 ∧ t61 = .int .i64 j ∧ t8 = .slice a8 st2.length c8 ∧ t9 = .slice a9 st2.length c9 ∧ LpR2 w3 F l k i (ps, pe) st j st2 (.slice a8 st2.length c8) (.slice a9 st2.length c9) wr)
     case atStart => exact ⟨1, st, _, _, _, _, rfl, Nat.le_refl _, by omega, rfl, rfl, rfl, L2.out⟩
     case round =>
      clear L2
      obtain ⟨j, st2, a8, a9, c8', c9', hq2, hj1, hj2, rfl, rfl, rfl, hLp2⟩ := hrel
      obtain ⟨hadd, hlv2, hp2, hst2, hso2, hI2⟩ := hLp2
      have HQ2 := Lib.hid hq2
      have HADD := Lib.hid hadd
      have HLV2 := Lib.hid hlv2
      have HP2 := Lib.hid hp2
      have HSO2 := Lib.hid hso2
      have I2 := Lib.hid hI2
      clear hq2 hadd hlv2 hp2 hso2 hI2
      by_cases hjl : j ≤ 1025
      ·have j5 : (j : Int) ≤ 1025 := by omega
       have hpe : (st2.map (·.2))[i]? = some pe := by rw [List.getElem?_map, HP2.out]; rfl
       have hps : (st2.map (·.1))[i]? = some ps := by rw [List.getElem?_map, HP2.out]; rfl
       obtain ⟨g9, cc9, ta', tc', e9, hc9, tcell, trow⟩ := I2.out.ent_at hpe
       obtain ⟨g8, cc8, xa, xc, e8, hc8, scell, srow⟩ := I2.out.set_at hps
       rw [List.length_map] at e9 e8 hc9 hc8
       obtain ⟨rfl, rfl⟩ : a9 = some ⟨g9, 0, none⟩ ∧ c9' = cc9 := by simpa using e9
       obtain ⟨rfl, rfl⟩ : a8 = some ⟨g8, 0, none⟩ ∧ c8' = cc8 := by simpa using e8
       have hil : i < st2.length := (List.getElem?_eq_some_iff.1 HP2.out).1
       have i6 : (i : Int) < (st2.length : Int) := by omega
       have i7 : (st2.length : Int) ≤ 16384 := by omega
       have htl : pe.1.length ≤ 24 := by have := HLV2.out.le _ (List.mem_of_getElem? HP2.out); simp only at this; omega
       have KP1 : Hid (∀ w', Frm [] wr w' → w'.cell? ⟨w.heap.size, 0, none⟩ = some (.slice a l.length cap) ∧ w'.cell? ⟨g8, i, none⟩ = some (.slice xa ps.length xc)) := Lib.hid fun w' hf => ⟨HBW.out _ (I2.out.frm.trans hf (by simp)), hf.cell scell (by simp)⟩
       have HOF : Hid (∀ W, Frm [] wr W → Calls Tryz.prog 69 #[.agg #[.slice a l.length cap], .slice xa ps.length xc, .int .i64 (j : Int)] W fun e w' => e = .returned (.bool (offB l ps j)) ∧ Frm [] W w') := Lib.hid fun W hf => offered_any w.heap.size _ W a cap l _ ps (j : Int) HV.out (HLW.out _ (I2.out.frm.trans hf (by simp))) (srow.nil hf) HPSL.out
       have hoff := offB_iff (l := l) (s := ps) (e := (j : Int)) (by omega)
       have HSROW := Lib.hid srow
       have TROW0 := Lib.hid trow
       have TC0 := Lib.hid tcell
       clear hps e9 e8 srow scell trow tcell
       by_cases hmem : (j : Int) ∈ evN l ps
       ·have hof := HOF.out
        rw [hoff.2 hmem] at hof
        have HOF2 := Lib.hid hof
        have HMEM := Lib.hid hmem
        have HAF : Hid (∀ W, Frm [] wr W → Calls Tryz.prog 44 #[.agg #[.slice a l.length cap], .slice xa ps.length xc, .int .i64 (j : Int)] W fun e w' => (∃ (a : Option Addr) (c : Nat) (vs : List Nat), e = .returned (.slice a vs.length c) ∧ w'.ownsRow W.heap.size 3 1 (.slice a vs.length c) vs.length (ints (natI vs)) ∧ aftN l ps (j : Int) = vs ∧ Closed l vs ∧ ∀ v ∈ vs, v < l.length) ∧ Frm [] W w') := Lib.hid fun W hf => by
         have hsr := HSROW.out.nil hf
         have h1 := raft_any w.heap.size a cap l xa xc (natI ps) (j : Int) W (HLW.out _ (I2.out.frm.trans hf (by simp))) (by rw [natI_len]; exact hsr.rd) (fun h9 => by
          obtain ⟨_, a9, c9, e9, _, _, h8, _⟩ := hsr
          cases e9
          exact h8 h9) (by rw [natI_len]; omega)
         rw [natI_len] at h1
         refine h1.mono ?_
         rintro e w' ⟨⟨a9, c9, n9, xs9, rfl, ho9, hu9⟩, hf9⟩
         have hcond : AftC l (natI ps) (j : Int) := ⟨HV.out, by
          rw [List.all_eq_true]
          intro x hx
          obtain ⟨v, hv9, rfl⟩ := List.mem_map.1 hx
          rw [inB_iff]
          have := HPSL.out v hv9
          omega, by omega, by omega⟩
         obtain ⟨vs, rfl, rfl, haft⟩ := hu9.yes hcond
         have hmap : (natI ps).map Int.toNat = ps := by rw [natI, List.map_map]; exact (List.map_congr_left (fun x _ => by simp)).trans (List.map_id _)
         rw [hmap] at haft
         rcases haft with ⟨h9, _⟩ | ⟨_, c, m, hc, hm, hr⟩
         ·omega
         ·have hcp : c = ps := hc.unique HPSC.out
          subst hcp
          exact ⟨⟨a9, c9, vs, rfl, ho9, aft_eq hm hr, closed_of hr, reach_lt HVL.out hr (fun v hv9 => by
           obtain ⟨s, hs, h1⟩ := (hm.mem v).1 hv9
           exact aim_edge HVL.out s v (HPSL.out s hs) h1)⟩, hf9⟩
        clear hmem hoff hof HOF
        go_wp2_with fail
        go_region_held3 (fun w' => w'.cell? ⟨w.heap.size, 0, none⟩ = some (.slice a l.length cap) ∧ w'.cell? ⟨g8, i, none⟩ = some (.slice xa ps.length xc))
         (first | exact KP1.out _ (Frm.refl [] wr).drew | exact KP1.out _ hy10)
         (first | (go_at_call 69; refine (HOF2.out _ (Frm.refl [] wr).drew).mono ?_; rintro e10 w10 ⟨rfl, hf10⟩; have hy10 := (Frm.refl [] wr).drew.trans hf10 (by simp)))
        have HY10 := Lib.hid hy10
        clear hy10 hf10
        go_wp2_with fail
        go_region_held3 (fun w' => w'.cell? ⟨w.heap.size, 0, none⟩ = some (.slice a l.length cap) ∧ w'.cell? ⟨g8, i, none⟩ = some (.slice xa ps.length xc))
         (first | exact KP1.out _ HY10.out.drew | exact KP1.out _ hy11)
         (first | (go_at_call 44; refine (HAF.out _ HY10.out.drew).mono ?_; rintro e11 w11 ⟨⟨ua, uc, vs, rfl, own11, hvs, hvc, hvl⟩, hf11⟩; have hy11 := HY10.out.drew.trans hf11 (by simp)))
        have I11 := Lib.hid (I2.out.keep hy11)
        have HVS := Lib.hid hvs
        have HVSC := Lib.hid hvc
        have HVSL := Lib.hid hvl
        have hvsn : vs.length ≤ 16384 := by have := asc_le hvc.asc hvl; have := HVL.out.few; omega
        have HU11 : Hid (RowV w11 (blkR F (.slice (some ⟨g8, 0, none⟩) st2.length c8') (.slice (some ⟨g9, 0, none⟩) st2.length c9')) (.slice ua vs.length uc) vs.length 1 (ints (natI vs))) := Lib.hid (rowV_of_owns own11 (fun k hk e => by
         have h1 := (own11.lt k e).1
         have h2 := I2.out.blt k hk
         have h3 := (HY10.out.drew).size
         omega))
        have HY11 := Lib.hid hy11
        clear own11 hvs hvc hvl hf11 hy11 HAF HOF2
        by_cases hfull : st2.length = 16384
        ·have jf : ((st2.length : Int) == 16384) = true := by simp; omega
         have HR : Hid (ofL l k = none) := Lib.hid (by
          rw [← HRES.out, show 16385 - i = (16384 - i) + 1 by omega, of_step HP.out HLEN.out]
          show (addL (wkL l) ps pe.1 (evN l ps) st).bind _ = none
          rw [addTo_over HADD.out HMEM.out hfull]; rfl)
         clear hfull
         go_wp2_with fail
         go_ret2
         refine HEND.out _ _ (HFW.out _ I11.out.frm) ?_
         rw [HR.out]
         rfl
        ·have jf : ((st2.length : Int) == 16384) = false := by simp; omega
         obtain ⟨es, hes, hown9, heat⟩ := I11.out.ents
         rw [List.length_map] at hown9
         have tcell := HY11.out.cell TC0.out (by simp)
         have hesl : es.length = st2.length := by have := congrArg List.length hes; simpa using this
         obtain ⟨pi, hpi⟩ : ∃ p, es[i]? = some p := ⟨_, List.getElem?_eq_getElem (by omega)⟩
         have hfl := flat3_get hpi 0 (by decide)
         rw [Nat.add_zero] at hfl
         have htc : (es.flatMap enE)[i * 3]? = some (.slice ta' pe.1.length tc') := by
          obtain ⟨u, hu⟩ : ∃ u, (es.flatMap enE)[i * 3]? = some u := ⟨pi.1.1, by rw [hfl]; rfl⟩
          have h1 := own_cell (g := g9) hown9 rfl hu
          rw [tcell] at h1
          rw [hu, ← h1]
         have HTC := Lib.hid htc
         have HES := Lib.hid hes
         have HO9 := Lib.hid hown9
         have HEAT := Lib.hid heat
         have HSZ11 := Lib.hid I11.out.frm.size
         have TROW : Hid (∀ W, Frm [] w11 W → RowV W _ (.slice ta' pe.1.length tc') pe.1.length 1 (ints pe.1)) := Lib.hid fun W hf => TROW0.out.nil (HY11.out.trans hf (by simp))
         have KEEP : Hid (∀ w', Frm [] w11 w' → w'.cell? ⟨w.heap.size, 0, none⟩ = some (.slice a l.length cap) ∧ w'.cell? ⟨g9, i * 3, none⟩ = some (.slice ta' pe.1.length tc')) := Lib.hid fun w' hf => ⟨HBW.out _ (I11.out.frm.trans hf (by simp)), hf.cell tcell (by simp)⟩
         have HEN : Hid (∀ W ta tn tc, Frm [] w11 W → Calls Tryz.prog 68 #[.agg #[.slice a l.length cap], .slice ta tn tc, .slice ua vs.length uc] W (REntEnd W (blkR F (.slice (some ⟨g8, 0, none⟩) st2.length c8') (.slice (some ⟨g9, 0, none⟩) st2.length c9')) l ta tn tc vs)) := Lib.hid fun W ta tn tc hf => rentry_any w.heap.size _ _ W a cap l ta tn tc _ vs HV.out (HLW.out _ (I11.out.frm.trans hf (by simp))) (HU11.out.nil hf) HVSL.out hvsn (fun k hk => Nat.lt_of_lt_of_le (I11.out.blt k hk) hf.size)
         clear hfl htc hes hown9 heat hpe
         go_wp2_with fail
         refine wp_region_held_drew (S := fun w' => w'.cell? ⟨w.heap.size, 0, none⟩ = some (.slice a l.length cap) ∧ w'.cell? ⟨g9, i * 3, none⟩ = some (.slice ta' pe.1.length tc')) (by kernel_rfl) (KEEP.out _ (Frm.refl [] w11).drew) ?_
         intro hHeld
         refine qtk 0 (v := ?_) rfl (by kernel_rfl) (fun _ _ _ h => h) (by rfl) (by assumption) ?_ ?_
         rotate_left
         ·(intro w9 hS9; (try dsimp only at hS9); go_split_ands; go_simp; try with_reducible rfl)
         try simp only [Act.put, qgA, qgS, qg0, qsA, qs0, qsS]
         refine qtk 1 (v := ?_) rfl (by kernel_rfl) (fun _ _ _ h => h) (by rfl) (by assumption) ?_ ?_
         rotate_left
         ·(intro w9 hS9; (try dsimp only at hS9); go_split_ands; go_simp; try with_reducible rfl)
         try simp only [Act.put, qgA, qgS, qg0, qsA, qs0, qsS]
         refine qtk 3 (v := ?_) rfl (by kernel_rfl) (fun _ _ _ h => h) (by rfl) (by assumption) ?_ ?_
         rotate_left
         ·(intro w9 hS9; (try dsimp only at hS9); go_split_ands; go_simp; try with_reducible rfl)
         try simp only [Act.put, qgA, qgS, qg0, qsA, qs0, qsS]
         refine qtk 4 (v := ?_) rfl (by kernel_rfl) (fun _ _ _ h => h) (by rfl) (by assumption) ?_ ?_
         rotate_left
         ·(intro w9 hS9; (try dsimp only at hS9); go_split_ands; go_simp; try with_reducible rfl)
         try simp only [Act.put, qgA, qgS, qg0, qsA, qs0, qsS]
         refine qtk 5 (v := ?_) rfl (by kernel_rfl) (fun _ _ _ h => h) (by rfl) (by assumption) ?_ ?_
         rotate_left
         ·(intro w9 hS9; (try dsimp only at hS9); go_split_ands; go_simp; try with_reducible rfl)
         try simp only [Act.put, qgA, qgS, qg0, qsA, qs0, qsS]
         refine qtk 6 (v := ?_) rfl (by kernel_rfl) (fun _ _ _ h => h) (by rfl) (by assumption) ?_ ?_
         rotate_left
         ·(intro w9 hS9; (try dsimp only at hS9); go_split_ands; go_simp; try with_reducible rfl)
         try simp only [Act.put, qgA, qgS, qg0, qsA, qs0, qsS]
         refine qtk 7 (v := ?_) rfl (by kernel_rfl) (fun _ _ _ h => h) (by rfl) (by assumption) ?_ ?_
         rotate_left
         ·(intro w9 hS9; (try dsimp only at hS9); go_split_ands; go_simp; try with_reducible rfl)
         try simp only [Act.put, qgA, qgS, qg0, qsA, qs0, qsS]
         refine qtk 9 (v := ?_) rfl (by kernel_rfl) (fun _ _ _ h => h) (by rfl) (by assumption) ?_ ?_
         rotate_left
         ·(intro w9 hS9; (try dsimp only at hS9); go_split_ands; go_simp; try with_reducible rfl)
         try simp only [Act.put, qgA, qgS, qg0, qsA, qs0, qsS]
         refine qtk 12 (v := ?_) rfl (by kernel_rfl) (fun _ _ _ h => h) (by rfl) (by assumption) ?_ ?_
         rotate_left
         ·(intro w9 hS9; (try dsimp only at hS9); go_split_ands; go_simp; try with_reducible rfl)
         try simp only [Act.put, qgA, qgS, qg0, qsA, qs0, qsS]
         have hfD : Frm [] w11 w11.drew := (Frm.refl [] w11).drew
         generalize w11.drew = wD at *
         refine wpAnyH_ready (rs := [2, 10]) (by kernel_rfl) (by simp) ?_
         refine AllReadyH.cons rfl (fun K hK => ?_) (AllReadyH.cons rfl (fun K hK => ?_) AllReadyH.nil)
         ·go_simp
          have fsDa : Frm [] wD (wD.alloc (.cells #[] 3)) := (Frm.refl [] wD).alloc _
          have hfDa : Frm [] w11 (wD.alloc (.cells #[] 3)) := hfD.trans fsDa (by simp)
          have owDa := owns_made0 wD 3 1
          have loDa : w11.heap.size ≤ wD.heap.size := hfD.size
          have owDa := ownsB_mono owDa loDa
          refine hK.out _ _ ?_ (fun hHeld => ?_)
          ·exact KEEP.out _ hfDa
          clear hK K
          try simp only [Act.put, qgA, qgS, qg0, qsA, qs0, qsS]
          generalize (wD.alloc (.cells #[] 3)) = wDa at *
          generalize wD.heap.size = bo at *
          refine wpAnyH_ready (rs := [8, 10]) (by kernel_rfl) (by simp) ?_
          refine AllReadyH.cons rfl (fun K hK => ?_) (AllReadyH.cons rfl (fun K hK => ?_) AllReadyH.nil)
          ·refine step_app_rowK rfl (.tmp 70) (.tmp 75) 22 3 _ 1 8 rfl Tryz.underlying22 infoInt rfl (by decide) w11.heap.size 0 (.slice (some ⟨bo, 0, none⟩) 0 0) [] rfl owDa _ pe.1.length (ints pe.1) _ rfl (TROW.out _ hfDa) (by simp [ints, Value.oneCell']) pe.1.length (Nat.zero_add _) (by omega) (by omega) hfDa.size ?_
           intro a12 c12 wDab owDab f12Dab hb12Dab _
           have loDab : w11.heap.size ≤ bo := (owDa.lt bo rfl).1
           have hfDab : Frm [] w11 wDab := hfDa.trans f12Dab (fun k hk => .inr (by simp [Value.ownBlock] at hk; omega))
           rw [List.nil_append] at owDab
           refine hK.out _ _ ?_ (fun hHeld => ?_)
           ·exact KEEP.out _ hfDab
           clear hK K
           try simp only [Act.put, qgA, qgS, qg0, qsA, qs0, qsS]
           refine wpAnyH_ready (rs := [10]) (by kernel_rfl) (by simp) ?_
           refine AllReadyH.cons rfl (fun K hK => ?_) AllReadyH.nil
           go_simp
           have fsDabc : Frm [] wDab (wDab.alloc (.cells #[.int .i64 (j : Int)] 3)) := (Frm.refl [] wDab).alloc _
           have hfDabc : Frm [] w11 (wDab.alloc (.cells #[.int .i64 (j : Int)] 3)) := hfDab.trans fsDabc (by simp)
           have erDabc := RowAt.made wDab 3 [.int .i64 (j : Int)] #[.int .i64 (j : Int)] rfl
           have owDabc := ownsB_frm owDab fsDabc (by simp)
           refine hK.out _ _ ?_ (fun hHeld => ?_)
           ·exact KEEP.out _ hfDabc
           clear hK K
           try simp only [Act.put, qgA, qgS, qg0, qsA, qs0, qsS]
           generalize (wDab.alloc (.cells #[.int .i64 (j : Int)] 3)) = wDabc at *
           generalize wDab.heap.size = be at *
           have hz12 := hfDabc
           have own12 := owDabc
           have hrow12 := erDabc
           refine wpAnyH_ready (rs := [11]) (by kernel_rfl) (by simp) ?_
           refine AllReadyH.cons rfl (fun K hK => ?_) AllReadyH.nil
           refine step_app_rowK rfl (.tmp 76) (.tmp 78) 22 3 _ 1 8 rfl Tryz.underlying22 infoInt rfl (by decide) w11.heap.size pe.1.length (.slice a12 pe.1.length c12) (ints pe.1) rfl own12 _ 1 [.int .i64 (j : Int)] [] rfl (rowV_cells (size := 1) hrow12 rfl (Nat.le_refl _) (by decide) (by simp)) (by simp [Value.oneCell']) (pe.1.length + 1) rfl (by omega) (by omega) hz12.size ?_
           intro a13 c13 w13 own13 hf13 hb13 _
           have hy13 := hz12.trans hf13 (fun k hk => .inr (own12.lt k (by simpa using hk)).1)
           refine hK.out _ _ ?_ (fun hHeld => ?_)
           ·exact KEEP.out _ hy13
           clear hK K
           try simp only [Act.put, qgA, qgS, qg0, qsA, qs0, qsS]
           refine wpAnyH_ready (rs := [13]) (by kernel_rfl) (by simp) ?_
           refine AllReadyH.cons rfl (fun K hK => ?_) AllReadyH.nil
           go_simp
           refine (HEN.out _ _ _ _ hy13).mono ?_
           rintro e14 w14 ⟨⟨aa4, ac4, rfl, s14⟩, hf14⟩
           have hy14 := hy13.trans hf14 (by simp)
           refine hK.out _ _ ?_ (fun hHeld => ?_)
           ·exact KEEP.out _ hy14
           clear hK K
           try simp only [Act.put, qgA, qgS, qg0, qsA, qs0, qsS]
           refine wpAnyH_ready (rs := [14]) (by kernel_rfl) (by simp) ?_
           refine AllReadyH.cons rfl (fun K hK => ?_) AllReadyH.nil
           go_simp
           refine hK.out _ _ ?_ (fun hHeld => ?_)
           ·exact KEEP.out _ (hy14.alloc _)
           clear hK K
           try simp only [Act.put, qgA, qgS, qg0, qsA, qs0, qsS]
           refine wpAnyH_ready (rs := [15]) (by kernel_rfl) (by simp) ?_
           refine AllReadyH.cons rfl (fun K hK => ?_) AllReadyH.nil
           refine step_app_rowK rfl (.tmp 68) (.tmp 82) 36 69 _ 3 56 rfl Tryz.underlying36 infoEn rfl (by decide) w3.heap.size st2.length (.slice (some ⟨g9, 0, none⟩) st2.length c9') (es.flatMap enE) rfl (ownsB_frm HO9.out (hy14.alloc (.cells #[.slice a13 (pe.1.length + 1) c13, .slice aa4 (minL (accN l vs)).length ac4, .bool (divB l vs)] 69)) (by simp)) _ 1 [.slice a13 (pe.1.length + 1) c13, .slice aa4 (minL (accN l vs)).length ac4, .bool (divB l vs)] [] rfl (rowV_cells (size := 3) (RowAt.made w14 69 [.slice a13 (pe.1.length + 1) c13, .slice aa4 (minL (accN l vs)).length ac4, .bool (divB l vs)] #[.slice a13 (pe.1.length + 1) c13, .slice aa4 (minL (accN l vs)).length ac4, .bool (divB l vs)] rfl) rfl (Nat.le_refl _) (by decide) (by simp)) (by simp [Value.oneCell']) (st2.length + 1) rfl (by omega) (by omega) (by have := HSZ11.out; have := hy14.size; simp; omega) ?_
           intro a15 c15 w15 own15 hf15 hb15 hk15
           have hy15 := (I11.out.frm.trans (hy14.alloc (.cells #[.slice a13 (pe.1.length + 1) c13, .slice aa4 (minL (accN l vs)).length ac4, .bool (divB l vs)] 69)) (by simp)).trans hf15 (fun k hk => .inr (HO9.out.lt k (by simpa using hk)).1)
           refine hK.out _ _ ?_ (fun hHeld => ?_)
           ·exact ⟨HBW.out _ hy15, hk15 g9 rfl (i * 3) _ HTC.out⟩
           clear hK K
           try simp only [Act.put, qgA, qgS, qg0, qsA, qs0, qsS]
           refine qtk 16 (v := ?_) rfl (by kernel_rfl) (fun _ _ _ h => h) (by rfl) (by assumption) ?_ ?_
           rotate_left
           ·(intro w9 hS9; (try dsimp only at hS9); go_split_ands; go_simp; try with_reducible rfl)
           try simp only [Act.put, qgA, qgS, qg0, qsA, qs0, qsS]
           refine wpAnyH_done (by kernel_rfl) ?_ _
           have hent : EntAt (w14.alloc (.cells #[.slice a13 (pe.1.length + 1) c13, .slice aa4 (minL (accN l vs)).length ac4, .bool (divB l vs)] 69)) (blkR F (.slice (some ⟨g8, 0, none⟩) st2.length c8') (.slice (some ⟨g9, 0, none⟩) st2.length c9')) ((.slice a13 (pe.1.length + 1) c13, .slice aa4 (minL (accN l vs)).length ac4), (pe.1 ++ [(j : Int)], minL (accN l vs), divB l vs)) := by
            have hr : RowV w13 (blkR F (.slice (some ⟨g8, 0, none⟩) st2.length c8') (.slice (some ⟨g9, 0, none⟩) st2.length c9')) (.slice a13 (pe.1.length + 1) c13) (pe.1 ++ [(j : Int)]).length 1 (ints (pe.1 ++ [(j : Int)])) := by
             have h1 := rowV_of_owns (F := blkR F (.slice (some ⟨g8, 0, none⟩) st2.length c8') (.slice (some ⟨g9, 0, none⟩) st2.length c9')) own13 (fun k hk e => by
              have h2 := (own13.lt k e).1
              have h3 := I11.out.blt k hk
              omega)
             rw [List.length_append, ints, List.map_append]
             exact h1
            exact EntAt.nil ⟨hr.nil hf14, s14⟩ ((Frm.refl [] w14).alloc _)
           have I15 := (I11.out.keep (hy14.alloc (.cells #[.slice a13 (pe.1.length + 1) c13, .slice aa4 (minL (accN l vs)).length ac4, .bool (divB l vs)] 69))).ent es HES.out (fun p hp => (HEAT.out p hp).nil (hy14.alloc _)) hf15 (by rw [List.length_map]) own15 hb15 hent
           have U15 := Lib.hid ((HU11.out.nil (hy14.alloc (.cells #[.slice a13 (pe.1.length + 1) c13, .slice aa4 (minL (accN l vs)).length ac4, .bool (divB l vs)] 69))).step (F' := blkR F (.slice (some ⟨g8, 0, none⟩) st2.length c8') (.slice a15 (st2.length + 1) c15)) hf15 (fun k hk => .inl (mem_blkR.2 (.inr (.inr (by simpa using hk))))) (fun k hk => by
            rcases mem_blkR.1 hk with h1 | h1 | h1
            ·exact .inl (mem_blkR.2 (.inl h1))
            ·exact .inl (mem_blkR.2 (.inr (.inl h1)))
            ·rcases hb15 k h1 with h2 | h2
             ·exact .inl (mem_blkR.2 (.inr (.inr h2)))
             ·exact .inr (Nat.le_of_eq h2.symm)))
           have IE := Lib.hid I15
           obtain ⟨qs, hqs, hown8, hqat⟩ := I15.sets
           rw [List.length_map] at hown8
           have HQS := Lib.hid hqs
           have HO8 := Lib.hid hown8
           have HQAT := Lib.hid hqat
           have HSZ15 := Lib.hid I15.frm.size
           clear hent I15 own13 own15 hf15 hb15 hk15 hy15 s14 hy13 hy14 hf14 hqs hown8 hqat hz12 own12 hrow12
           go_wp2_with (first
            | (at_builtin; refine app_rowB rfl (.tmp 84) (.tmp 86) 67 22 _ 1 24 rfl Tryz.underlying67 infoIs rfl (by decide) w3.heap.size st2.length (.slice (some ⟨g8, 0, none⟩) st2.length c8') (qs.map (·.1)) rfl (ownsB_frm HO8.out ((Frm.refl [] w15).alloc (.cells #[.slice ua vs.length uc] 22)) (by simp)) _ 1 [.slice ua vs.length uc] [] rfl (rowV_cells (size := 1) (RowAt.made w15 22 [.slice ua vs.length uc] #[.slice ua vs.length uc] rfl) rfl (Nat.le_refl _) (by decide) (by simp)) (by simp [Value.oneCell']) (st2.length + 1) rfl (by omega) (by omega) (by have := HSZ15.out; simp; omega) ?_; intro a17 c17 w17 own17 hf17 hb17; have I17 := Lib.hid ((IE.out.keep ((Frm.refl [] w15).alloc (.cells #[.slice ua vs.length uc] 22))).set (x := vs) qs HQS.out (HQAT.out.nil ((Frm.refl [] w15).alloc _)) hf17 (by rw [List.length_map]) own17 hb17 (U15.out.nil ((Frm.refl [] w15).alloc _))); clear own17 hf17 hb17)
            | fail)
           obtain ⟨st3, hst3⟩ : ∃ s, s = st2 ++ [newE (wkL l) ps pe.1 (j : Int)] := ⟨_, rfl⟩
           have h31 : st3.map (·.1) = st2.map (·.1) ++ [vs] := by
            rw [hst3, List.map_append]
            show _ ++ [aftN l ps (j : Int)] = _
            rw [HVS.out]
           have h32 : st3.map (·.2) = st2.map (·.2) ++ [(pe.1 ++ [(j : Int)], minL (accN l vs), divB l vs)] := by
            rw [hst3, List.map_append]
            show _ ++ [(pe.1 ++ [(j : Int)], minL (accN l (aftN l ps (j : Int))), divB l (aftN l ps (j : Int)))] = _
            rw [HVS.out]
           have h33 : st3.length = st2.length + 1 := by rw [hst3]; simp
           have HL3 := Lib.hid h33
           have LP : Hid (LpR2 w3 F l k i (ps, pe) st (j + 1) st3 (.slice a17 st3.length c17) (.slice a15 st3.length c15) w17) := Lib.hid (by
            rw [h33]
            refine ⟨by rw [hst3]; exact addTo_next HADD.out HMEM.out hfull, by rw [hst3]; exact HLV2.out.snoc HP2.out HLEN.out, by rw [hst3, List.getElem?_append_left hil]; exact HP2.out, by omega, ?_, ?_⟩
            ·intro p hp
             rw [hst3] at hp
             rcases List.mem_append.1 hp with hp | hp
             ·exact HSO2.out p hp
             ·rw [List.mem_singleton.1 hp]
              show Closed l (aftN l ps (j : Int)) ∧ ∀ v ∈ aftN l ps (j : Int), v < l.length
              rw [HVS.out]
              exact ⟨HVSC.out, HVSL.out⟩
            ·rw [h31, h32]
             exact I17.out)
           clear hst3 h31 h32 h33
           go_roundg (1026 - (j + 1))
           case rel => exact ⟨j + 1, st3, a17, a15, c17, c15, rfl, by omega, by omega, by go_num, by rw [HL3.out], by rw [HL3.out], LP.out⟩
           case measure => have := HQ2.out; omega
          ·go_simp
           have fsDac : Frm [] wDa (wDa.alloc (.cells #[.int .i64 (j : Int)] 3)) := (Frm.refl [] wDa).alloc _
           have hfDac : Frm [] w11 (wDa.alloc (.cells #[.int .i64 (j : Int)] 3)) := hfDa.trans fsDac (by simp)
           have erDac := RowAt.made wDa 3 [.int .i64 (j : Int)] #[.int .i64 (j : Int)] rfl
           have owDac := ownsB_frm owDa fsDac (by simp)
           refine hK.out _ _ ?_ (fun hHeld => ?_)
           ·exact KEEP.out _ hfDac
           clear hK K
           try simp only [Act.put, qgA, qgS, qg0, qsA, qs0, qsS]
           have nlt : bo < wDa.heap.size := (owDa.lt bo rfl).2
           generalize (wDa.alloc (.cells #[.int .i64 (j : Int)] 3)) = wDac at *
           generalize wDa.heap.size = be at *
           have NEB : be ≠ bo := by omega
           refine wpAnyH_ready (rs := [8]) (by kernel_rfl) (by simp) ?_
           refine AllReadyH.cons rfl (fun K hK => ?_) AllReadyH.nil
           refine step_app_rowK rfl (.tmp 70) (.tmp 75) 22 3 _ 1 8 rfl Tryz.underlying22 infoInt rfl (by decide) w11.heap.size 0 (.slice (some ⟨bo, 0, none⟩) 0 0) [] rfl owDac _ pe.1.length (ints pe.1) _ rfl (TROW.out _ hfDac) (by simp [ints, Value.oneCell']) pe.1.length (Nat.zero_add _) (by omega) (by omega) hfDac.size ?_
           intro a12 c12 wDacb owDacb f12Dacb hb12Dacb _
           have loDacb : w11.heap.size ≤ bo := (owDac.lt bo rfl).1
           have hfDacb : Frm [] w11 wDacb := hfDac.trans f12Dacb (fun k hk => .inr (by simp [Value.ownBlock] at hk; omega))
           rw [List.nil_append] at owDacb
           have erDacb := erDac.frm f12Dacb (fun hm => NEB (by simpa [Value.ownBlock] using hm))
           refine hK.out _ _ ?_ (fun hHeld => ?_)
           ·exact KEEP.out _ hfDacb
           clear hK K
           try simp only [Act.put, qgA, qgS, qg0, qsA, qs0, qsS]
           have hz12 := hfDacb
           have own12 := owDacb
           have hrow12 := erDacb
           refine wpAnyH_ready (rs := [11]) (by kernel_rfl) (by simp) ?_
           refine AllReadyH.cons rfl (fun K hK => ?_) AllReadyH.nil
           refine step_app_rowK rfl (.tmp 76) (.tmp 78) 22 3 _ 1 8 rfl Tryz.underlying22 infoInt rfl (by decide) w11.heap.size pe.1.length (.slice a12 pe.1.length c12) (ints pe.1) rfl own12 _ 1 [.int .i64 (j : Int)] [] rfl (rowV_cells (size := 1) hrow12 rfl (Nat.le_refl _) (by decide) (by simp)) (by simp [Value.oneCell']) (pe.1.length + 1) rfl (by omega) (by omega) hz12.size ?_
           intro a13 c13 w13 own13 hf13 hb13 _
           have hy13 := hz12.trans hf13 (fun k hk => .inr (own12.lt k (by simpa using hk)).1)
           refine hK.out _ _ ?_ (fun hHeld => ?_)
           ·exact KEEP.out _ hy13
           clear hK K
           try simp only [Act.put, qgA, qgS, qg0, qsA, qs0, qsS]
           refine wpAnyH_ready (rs := [13]) (by kernel_rfl) (by simp) ?_
           refine AllReadyH.cons rfl (fun K hK => ?_) AllReadyH.nil
           go_simp
           refine (HEN.out _ _ _ _ hy13).mono ?_
           rintro e14 w14 ⟨⟨aa4, ac4, rfl, s14⟩, hf14⟩
           have hy14 := hy13.trans hf14 (by simp)
           refine hK.out _ _ ?_ (fun hHeld => ?_)
           ·exact KEEP.out _ hy14
           clear hK K
           try simp only [Act.put, qgA, qgS, qg0, qsA, qs0, qsS]
           refine wpAnyH_ready (rs := [14]) (by kernel_rfl) (by simp) ?_
           refine AllReadyH.cons rfl (fun K hK => ?_) AllReadyH.nil
           go_simp
           refine hK.out _ _ ?_ (fun hHeld => ?_)
           ·exact KEEP.out _ (hy14.alloc _)
           clear hK K
           try simp only [Act.put, qgA, qgS, qg0, qsA, qs0, qsS]
           refine wpAnyH_ready (rs := [15]) (by kernel_rfl) (by simp) ?_
           refine AllReadyH.cons rfl (fun K hK => ?_) AllReadyH.nil
           refine step_app_rowK rfl (.tmp 68) (.tmp 82) 36 69 _ 3 56 rfl Tryz.underlying36 infoEn rfl (by decide) w3.heap.size st2.length (.slice (some ⟨g9, 0, none⟩) st2.length c9') (es.flatMap enE) rfl (ownsB_frm HO9.out (hy14.alloc (.cells #[.slice a13 (pe.1.length + 1) c13, .slice aa4 (minL (accN l vs)).length ac4, .bool (divB l vs)] 69)) (by simp)) _ 1 [.slice a13 (pe.1.length + 1) c13, .slice aa4 (minL (accN l vs)).length ac4, .bool (divB l vs)] [] rfl (rowV_cells (size := 3) (RowAt.made w14 69 [.slice a13 (pe.1.length + 1) c13, .slice aa4 (minL (accN l vs)).length ac4, .bool (divB l vs)] #[.slice a13 (pe.1.length + 1) c13, .slice aa4 (minL (accN l vs)).length ac4, .bool (divB l vs)] rfl) rfl (Nat.le_refl _) (by decide) (by simp)) (by simp [Value.oneCell']) (st2.length + 1) rfl (by omega) (by omega) (by have := HSZ11.out; have := hy14.size; simp; omega) ?_
           intro a15 c15 w15 own15 hf15 hb15 hk15
           have hy15 := (I11.out.frm.trans (hy14.alloc (.cells #[.slice a13 (pe.1.length + 1) c13, .slice aa4 (minL (accN l vs)).length ac4, .bool (divB l vs)] 69)) (by simp)).trans hf15 (fun k hk => .inr (HO9.out.lt k (by simpa using hk)).1)
           refine hK.out _ _ ?_ (fun hHeld => ?_)
           ·exact ⟨HBW.out _ hy15, hk15 g9 rfl (i * 3) _ HTC.out⟩
           clear hK K
           try simp only [Act.put, qgA, qgS, qg0, qsA, qs0, qsS]
           refine qtk 16 (v := ?_) rfl (by kernel_rfl) (fun _ _ _ h => h) (by rfl) (by assumption) ?_ ?_
           rotate_left
           ·(intro w9 hS9; (try dsimp only at hS9); go_split_ands; go_simp; try with_reducible rfl)
           try simp only [Act.put, qgA, qgS, qg0, qsA, qs0, qsS]
           refine wpAnyH_done (by kernel_rfl) ?_ _
           have hent : EntAt (w14.alloc (.cells #[.slice a13 (pe.1.length + 1) c13, .slice aa4 (minL (accN l vs)).length ac4, .bool (divB l vs)] 69)) (blkR F (.slice (some ⟨g8, 0, none⟩) st2.length c8') (.slice (some ⟨g9, 0, none⟩) st2.length c9')) ((.slice a13 (pe.1.length + 1) c13, .slice aa4 (minL (accN l vs)).length ac4), (pe.1 ++ [(j : Int)], minL (accN l vs), divB l vs)) := by
            have hr : RowV w13 (blkR F (.slice (some ⟨g8, 0, none⟩) st2.length c8') (.slice (some ⟨g9, 0, none⟩) st2.length c9')) (.slice a13 (pe.1.length + 1) c13) (pe.1 ++ [(j : Int)]).length 1 (ints (pe.1 ++ [(j : Int)])) := by
             have h1 := rowV_of_owns (F := blkR F (.slice (some ⟨g8, 0, none⟩) st2.length c8') (.slice (some ⟨g9, 0, none⟩) st2.length c9')) own13 (fun k hk e => by
              have h2 := (own13.lt k e).1
              have h3 := I11.out.blt k hk
              omega)
             rw [List.length_append, ints, List.map_append]
             exact h1
            exact EntAt.nil ⟨hr.nil hf14, s14⟩ ((Frm.refl [] w14).alloc _)
           have I15 := (I11.out.keep (hy14.alloc (.cells #[.slice a13 (pe.1.length + 1) c13, .slice aa4 (minL (accN l vs)).length ac4, .bool (divB l vs)] 69))).ent es HES.out (fun p hp => (HEAT.out p hp).nil (hy14.alloc _)) hf15 (by rw [List.length_map]) own15 hb15 hent
           have U15 := Lib.hid ((HU11.out.nil (hy14.alloc (.cells #[.slice a13 (pe.1.length + 1) c13, .slice aa4 (minL (accN l vs)).length ac4, .bool (divB l vs)] 69))).step (F' := blkR F (.slice (some ⟨g8, 0, none⟩) st2.length c8') (.slice a15 (st2.length + 1) c15)) hf15 (fun k hk => .inl (mem_blkR.2 (.inr (.inr (by simpa using hk))))) (fun k hk => by
            rcases mem_blkR.1 hk with h1 | h1 | h1
            ·exact .inl (mem_blkR.2 (.inl h1))
            ·exact .inl (mem_blkR.2 (.inr (.inl h1)))
            ·rcases hb15 k h1 with h2 | h2
             ·exact .inl (mem_blkR.2 (.inr (.inr h2)))
             ·exact .inr (Nat.le_of_eq h2.symm)))
           have IE := Lib.hid I15
           obtain ⟨qs, hqs, hown8, hqat⟩ := I15.sets
           rw [List.length_map] at hown8
           have HQS := Lib.hid hqs
           have HO8 := Lib.hid hown8
           have HQAT := Lib.hid hqat
           have HSZ15 := Lib.hid I15.frm.size
           clear hent I15 own13 own15 hf15 hb15 hk15 hy15 s14 hy13 hy14 hf14 hqs hown8 hqat hz12 own12 hrow12
           go_wp2_with (first
            | (at_builtin; refine app_rowB rfl (.tmp 84) (.tmp 86) 67 22 _ 1 24 rfl Tryz.underlying67 infoIs rfl (by decide) w3.heap.size st2.length (.slice (some ⟨g8, 0, none⟩) st2.length c8') (qs.map (·.1)) rfl (ownsB_frm HO8.out ((Frm.refl [] w15).alloc (.cells #[.slice ua vs.length uc] 22)) (by simp)) _ 1 [.slice ua vs.length uc] [] rfl (rowV_cells (size := 1) (RowAt.made w15 22 [.slice ua vs.length uc] #[.slice ua vs.length uc] rfl) rfl (Nat.le_refl _) (by decide) (by simp)) (by simp [Value.oneCell']) (st2.length + 1) rfl (by omega) (by omega) (by have := HSZ15.out; simp; omega) ?_; intro a17 c17 w17 own17 hf17 hb17; have I17 := Lib.hid ((IE.out.keep ((Frm.refl [] w15).alloc (.cells #[.slice ua vs.length uc] 22))).set (x := vs) qs HQS.out (HQAT.out.nil ((Frm.refl [] w15).alloc _)) hf17 (by rw [List.length_map]) own17 hb17 (U15.out.nil ((Frm.refl [] w15).alloc _))); clear own17 hf17 hb17)
            | fail)
           obtain ⟨st3, hst3⟩ : ∃ s, s = st2 ++ [newE (wkL l) ps pe.1 (j : Int)] := ⟨_, rfl⟩
           have h31 : st3.map (·.1) = st2.map (·.1) ++ [vs] := by
            rw [hst3, List.map_append]
            show _ ++ [aftN l ps (j : Int)] = _
            rw [HVS.out]
           have h32 : st3.map (·.2) = st2.map (·.2) ++ [(pe.1 ++ [(j : Int)], minL (accN l vs), divB l vs)] := by
            rw [hst3, List.map_append]
            show _ ++ [(pe.1 ++ [(j : Int)], minL (accN l (aftN l ps (j : Int))), divB l (aftN l ps (j : Int)))] = _
            rw [HVS.out]
           have h33 : st3.length = st2.length + 1 := by rw [hst3]; simp
           have HL3 := Lib.hid h33
           have LP : Hid (LpR2 w3 F l k i (ps, pe) st (j + 1) st3 (.slice a17 st3.length c17) (.slice a15 st3.length c15) w17) := Lib.hid (by
            rw [h33]
            refine ⟨by rw [hst3]; exact addTo_next HADD.out HMEM.out hfull, by rw [hst3]; exact HLV2.out.snoc HP2.out HLEN.out, by rw [hst3, List.getElem?_append_left hil]; exact HP2.out, by omega, ?_, ?_⟩
            ·intro p hp
             rw [hst3] at hp
             rcases List.mem_append.1 hp with hp | hp
             ·exact HSO2.out p hp
             ·rw [List.mem_singleton.1 hp]
              show Closed l (aftN l ps (j : Int)) ∧ ∀ v ∈ aftN l ps (j : Int), v < l.length
              rw [HVS.out]
              exact ⟨HVSC.out, HVSL.out⟩
            ·rw [h31, h32]
             exact I17.out)
           clear hst3 h31 h32 h33
           go_roundg (1026 - (j + 1))
           case rel => exact ⟨j + 1, st3, a17, a15, c17, c15, rfl, by omega, by omega, by go_num, by rw [HL3.out], by rw [HL3.out], LP.out⟩
           case measure => have := HQ2.out; omega
         ·go_simp
          have fsDc : Frm [] wD (wD.alloc (.cells #[.int .i64 (j : Int)] 3)) := (Frm.refl [] wD).alloc _
          have hfDc : Frm [] w11 (wD.alloc (.cells #[.int .i64 (j : Int)] 3)) := hfD.trans fsDc (by simp)
          have erDc := RowAt.made wD 3 [.int .i64 (j : Int)] #[.int .i64 (j : Int)] rfl
          refine hK.out _ _ ?_ (fun hHeld => ?_)
          ·exact KEEP.out _ hfDc
          clear hK K
          try simp only [Act.put, qgA, qgS, qg0, qsA, qs0, qsS]
          generalize (wD.alloc (.cells #[.int .i64 (j : Int)] 3)) = wDc at *
          generalize wD.heap.size = be at *
          refine wpAnyH_ready (rs := [2]) (by kernel_rfl) (by simp) ?_
          refine AllReadyH.cons rfl (fun K hK => ?_) AllReadyH.nil
          go_simp
          have fsDca : Frm [] wDc (wDc.alloc (.cells #[] 3)) := (Frm.refl [] wDc).alloc _
          have hfDca : Frm [] w11 (wDc.alloc (.cells #[] 3)) := hfDc.trans fsDca (by simp)
          have owDca := owns_made0 wDc 3 1
          have loDca : w11.heap.size ≤ wDc.heap.size := hfDc.size
          have owDca := ownsB_mono owDca loDca
          have erDca := erDc.frm fsDca (by simp)
          refine hK.out _ _ ?_ (fun hHeld => ?_)
          ·exact KEEP.out _ hfDca
          clear hK K
          try simp only [Act.put, qgA, qgS, qg0, qsA, qs0, qsS]
          have nlt : be < wDc.heap.size := erDc.lt
          generalize (wDc.alloc (.cells #[] 3)) = wDca at *
          generalize wDc.heap.size = bo at *
          have NEB : be ≠ bo := by omega
          refine wpAnyH_ready (rs := [8]) (by kernel_rfl) (by simp) ?_
          refine AllReadyH.cons rfl (fun K hK => ?_) AllReadyH.nil
          refine step_app_rowK rfl (.tmp 70) (.tmp 75) 22 3 _ 1 8 rfl Tryz.underlying22 infoInt rfl (by decide) w11.heap.size 0 (.slice (some ⟨bo, 0, none⟩) 0 0) [] rfl owDca _ pe.1.length (ints pe.1) _ rfl (TROW.out _ hfDca) (by simp [ints, Value.oneCell']) pe.1.length (Nat.zero_add _) (by omega) (by omega) hfDca.size ?_
          intro a12 c12 wDcab owDcab f12Dcab hb12Dcab _
          have loDcab : w11.heap.size ≤ bo := (owDca.lt bo rfl).1
          have hfDcab : Frm [] w11 wDcab := hfDca.trans f12Dcab (fun k hk => .inr (by simp [Value.ownBlock] at hk; omega))
          rw [List.nil_append] at owDcab
          have erDcab := erDca.frm f12Dcab (fun hm => NEB (by simpa [Value.ownBlock] using hm))
          refine hK.out _ _ ?_ (fun hHeld => ?_)
          ·exact KEEP.out _ hfDcab
          clear hK K
          try simp only [Act.put, qgA, qgS, qg0, qsA, qs0, qsS]
          have hz12 := hfDcab
          have own12 := owDcab
          have hrow12 := erDcab
          refine wpAnyH_ready (rs := [11]) (by kernel_rfl) (by simp) ?_
          refine AllReadyH.cons rfl (fun K hK => ?_) AllReadyH.nil
          refine step_app_rowK rfl (.tmp 76) (.tmp 78) 22 3 _ 1 8 rfl Tryz.underlying22 infoInt rfl (by decide) w11.heap.size pe.1.length (.slice a12 pe.1.length c12) (ints pe.1) rfl own12 _ 1 [.int .i64 (j : Int)] [] rfl (rowV_cells (size := 1) hrow12 rfl (Nat.le_refl _) (by decide) (by simp)) (by simp [Value.oneCell']) (pe.1.length + 1) rfl (by omega) (by omega) hz12.size ?_
          intro a13 c13 w13 own13 hf13 hb13 _
          have hy13 := hz12.trans hf13 (fun k hk => .inr (own12.lt k (by simpa using hk)).1)
          refine hK.out _ _ ?_ (fun hHeld => ?_)
          ·exact KEEP.out _ hy13
          clear hK K
          try simp only [Act.put, qgA, qgS, qg0, qsA, qs0, qsS]
          refine wpAnyH_ready (rs := [13]) (by kernel_rfl) (by simp) ?_
          refine AllReadyH.cons rfl (fun K hK => ?_) AllReadyH.nil
          go_simp
          refine (HEN.out _ _ _ _ hy13).mono ?_
          rintro e14 w14 ⟨⟨aa4, ac4, rfl, s14⟩, hf14⟩
          have hy14 := hy13.trans hf14 (by simp)
          refine hK.out _ _ ?_ (fun hHeld => ?_)
          ·exact KEEP.out _ hy14
          clear hK K
          try simp only [Act.put, qgA, qgS, qg0, qsA, qs0, qsS]
          refine wpAnyH_ready (rs := [14]) (by kernel_rfl) (by simp) ?_
          refine AllReadyH.cons rfl (fun K hK => ?_) AllReadyH.nil
          go_simp
          refine hK.out _ _ ?_ (fun hHeld => ?_)
          ·exact KEEP.out _ (hy14.alloc _)
          clear hK K
          try simp only [Act.put, qgA, qgS, qg0, qsA, qs0, qsS]
          refine wpAnyH_ready (rs := [15]) (by kernel_rfl) (by simp) ?_
          refine AllReadyH.cons rfl (fun K hK => ?_) AllReadyH.nil
          refine step_app_rowK rfl (.tmp 68) (.tmp 82) 36 69 _ 3 56 rfl Tryz.underlying36 infoEn rfl (by decide) w3.heap.size st2.length (.slice (some ⟨g9, 0, none⟩) st2.length c9') (es.flatMap enE) rfl (ownsB_frm HO9.out (hy14.alloc (.cells #[.slice a13 (pe.1.length + 1) c13, .slice aa4 (minL (accN l vs)).length ac4, .bool (divB l vs)] 69)) (by simp)) _ 1 [.slice a13 (pe.1.length + 1) c13, .slice aa4 (minL (accN l vs)).length ac4, .bool (divB l vs)] [] rfl (rowV_cells (size := 3) (RowAt.made w14 69 [.slice a13 (pe.1.length + 1) c13, .slice aa4 (minL (accN l vs)).length ac4, .bool (divB l vs)] #[.slice a13 (pe.1.length + 1) c13, .slice aa4 (minL (accN l vs)).length ac4, .bool (divB l vs)] rfl) rfl (Nat.le_refl _) (by decide) (by simp)) (by simp [Value.oneCell']) (st2.length + 1) rfl (by omega) (by omega) (by have := HSZ11.out; have := hy14.size; simp; omega) ?_
          intro a15 c15 w15 own15 hf15 hb15 hk15
          have hy15 := (I11.out.frm.trans (hy14.alloc (.cells #[.slice a13 (pe.1.length + 1) c13, .slice aa4 (minL (accN l vs)).length ac4, .bool (divB l vs)] 69)) (by simp)).trans hf15 (fun k hk => .inr (HO9.out.lt k (by simpa using hk)).1)
          refine hK.out _ _ ?_ (fun hHeld => ?_)
          ·exact ⟨HBW.out _ hy15, hk15 g9 rfl (i * 3) _ HTC.out⟩
          clear hK K
          try simp only [Act.put, qgA, qgS, qg0, qsA, qs0, qsS]
          refine qtk 16 (v := ?_) rfl (by kernel_rfl) (fun _ _ _ h => h) (by rfl) (by assumption) ?_ ?_
          rotate_left
          ·(intro w9 hS9; (try dsimp only at hS9); go_split_ands; go_simp; try with_reducible rfl)
          try simp only [Act.put, qgA, qgS, qg0, qsA, qs0, qsS]
          refine wpAnyH_done (by kernel_rfl) ?_ _
          have hent : EntAt (w14.alloc (.cells #[.slice a13 (pe.1.length + 1) c13, .slice aa4 (minL (accN l vs)).length ac4, .bool (divB l vs)] 69)) (blkR F (.slice (some ⟨g8, 0, none⟩) st2.length c8') (.slice (some ⟨g9, 0, none⟩) st2.length c9')) ((.slice a13 (pe.1.length + 1) c13, .slice aa4 (minL (accN l vs)).length ac4), (pe.1 ++ [(j : Int)], minL (accN l vs), divB l vs)) := by
           have hr : RowV w13 (blkR F (.slice (some ⟨g8, 0, none⟩) st2.length c8') (.slice (some ⟨g9, 0, none⟩) st2.length c9')) (.slice a13 (pe.1.length + 1) c13) (pe.1 ++ [(j : Int)]).length 1 (ints (pe.1 ++ [(j : Int)])) := by
            have h1 := rowV_of_owns (F := blkR F (.slice (some ⟨g8, 0, none⟩) st2.length c8') (.slice (some ⟨g9, 0, none⟩) st2.length c9')) own13 (fun k hk e => by
             have h2 := (own13.lt k e).1
             have h3 := I11.out.blt k hk
             omega)
            rw [List.length_append, ints, List.map_append]
            exact h1
           exact EntAt.nil ⟨hr.nil hf14, s14⟩ ((Frm.refl [] w14).alloc _)
          have I15 := (I11.out.keep (hy14.alloc (.cells #[.slice a13 (pe.1.length + 1) c13, .slice aa4 (minL (accN l vs)).length ac4, .bool (divB l vs)] 69))).ent es HES.out (fun p hp => (HEAT.out p hp).nil (hy14.alloc _)) hf15 (by rw [List.length_map]) own15 hb15 hent
          have U15 := Lib.hid ((HU11.out.nil (hy14.alloc (.cells #[.slice a13 (pe.1.length + 1) c13, .slice aa4 (minL (accN l vs)).length ac4, .bool (divB l vs)] 69))).step (F' := blkR F (.slice (some ⟨g8, 0, none⟩) st2.length c8') (.slice a15 (st2.length + 1) c15)) hf15 (fun k hk => .inl (mem_blkR.2 (.inr (.inr (by simpa using hk))))) (fun k hk => by
           rcases mem_blkR.1 hk with h1 | h1 | h1
           ·exact .inl (mem_blkR.2 (.inl h1))
           ·exact .inl (mem_blkR.2 (.inr (.inl h1)))
           ·rcases hb15 k h1 with h2 | h2
            ·exact .inl (mem_blkR.2 (.inr (.inr h2)))
            ·exact .inr (Nat.le_of_eq h2.symm)))
          have IE := Lib.hid I15
          obtain ⟨qs, hqs, hown8, hqat⟩ := I15.sets
          rw [List.length_map] at hown8
          have HQS := Lib.hid hqs
          have HO8 := Lib.hid hown8
          have HQAT := Lib.hid hqat
          have HSZ15 := Lib.hid I15.frm.size
          clear hent I15 own13 own15 hf15 hb15 hk15 hy15 s14 hy13 hy14 hf14 hqs hown8 hqat hz12 own12 hrow12
          go_wp2_with (first
           | (at_builtin; refine app_rowB rfl (.tmp 84) (.tmp 86) 67 22 _ 1 24 rfl Tryz.underlying67 infoIs rfl (by decide) w3.heap.size st2.length (.slice (some ⟨g8, 0, none⟩) st2.length c8') (qs.map (·.1)) rfl (ownsB_frm HO8.out ((Frm.refl [] w15).alloc (.cells #[.slice ua vs.length uc] 22)) (by simp)) _ 1 [.slice ua vs.length uc] [] rfl (rowV_cells (size := 1) (RowAt.made w15 22 [.slice ua vs.length uc] #[.slice ua vs.length uc] rfl) rfl (Nat.le_refl _) (by decide) (by simp)) (by simp [Value.oneCell']) (st2.length + 1) rfl (by omega) (by omega) (by have := HSZ15.out; simp; omega) ?_; intro a17 c17 w17 own17 hf17 hb17; have I17 := Lib.hid ((IE.out.keep ((Frm.refl [] w15).alloc (.cells #[.slice ua vs.length uc] 22))).set (x := vs) qs HQS.out (HQAT.out.nil ((Frm.refl [] w15).alloc _)) hf17 (by rw [List.length_map]) own17 hb17 (U15.out.nil ((Frm.refl [] w15).alloc _))); clear own17 hf17 hb17)
           | fail)
          obtain ⟨st3, hst3⟩ : ∃ s, s = st2 ++ [newE (wkL l) ps pe.1 (j : Int)] := ⟨_, rfl⟩
          have h31 : st3.map (·.1) = st2.map (·.1) ++ [vs] := by
           rw [hst3, List.map_append]
           show _ ++ [aftN l ps (j : Int)] = _
           rw [HVS.out]
          have h32 : st3.map (·.2) = st2.map (·.2) ++ [(pe.1 ++ [(j : Int)], minL (accN l vs), divB l vs)] := by
           rw [hst3, List.map_append]
           show _ ++ [(pe.1 ++ [(j : Int)], minL (accN l (aftN l ps (j : Int))), divB l (aftN l ps (j : Int)))] = _
           rw [HVS.out]
          have h33 : st3.length = st2.length + 1 := by rw [hst3]; simp
          have HL3 := Lib.hid h33
          have LP : Hid (LpR2 w3 F l k i (ps, pe) st (j + 1) st3 (.slice a17 st3.length c17) (.slice a15 st3.length c15) w17) := Lib.hid (by
           rw [h33]
           refine ⟨by rw [hst3]; exact addTo_next HADD.out HMEM.out hfull, by rw [hst3]; exact HLV2.out.snoc HP2.out HLEN.out, by rw [hst3, List.getElem?_append_left hil]; exact HP2.out, by omega, ?_, ?_⟩
           ·intro p hp
            rw [hst3] at hp
            rcases List.mem_append.1 hp with hp | hp
            ·exact HSO2.out p hp
            ·rw [List.mem_singleton.1 hp]
             show Closed l (aftN l ps (j : Int)) ∧ ∀ v ∈ aftN l ps (j : Int), v < l.length
             rw [HVS.out]
             exact ⟨HVSC.out, HVSL.out⟩
           ·rw [h31, h32]
            exact I17.out)
          clear hst3 h31 h32 h33
          go_roundg (1026 - (j + 1))
          case rel => exact ⟨j + 1, st3, a17, a15, c17, c15, rfl, by omega, by omega, by go_num, by rw [HL3.out], by rw [HL3.out], LP.out⟩
          case measure => have := HQ2.out; omega
       ·have hof := HOF.out
        have hno : offB l ps (j : Int) = false := by
         cases hb : offB l ps (j : Int) with
         | false => rfl
         | true => exact absurd (hoff.1 hb) hmem
        rw [hno] at hof
        have HOF2 := Lib.hid hof
        have HA : Hid (addL (wkL l) ps pe.1 (evTo (evN l ps) (j + 1)) st = some st2) := Lib.hid (by rw [addTo_skip hmem]; exact HADD.out)
        clear hmem hoff hof HOF hno
        go_wp2_with fail
        go_region_held3 (fun w' => w'.cell? ⟨w.heap.size, 0, none⟩ = some (.slice a l.length cap) ∧ w'.cell? ⟨g8, i, none⟩ = some (.slice xa ps.length xc))
         (first | exact KP1.out _ (Frm.refl [] wr).drew | exact KP1.out _ hy10)
         (first | (go_at_call 69; refine (HOF2.out _ (Frm.refl [] wr).drew).mono ?_; rintro e10 w10 ⟨rfl, hf10⟩; have hy10 := (Frm.refl [] wr).drew.trans hf10 (by simp)))
        go_wp2_with fail
        go_roundg (1026 - (j + 1))
        case rel => exact ⟨j + 1, st2, _, _, c8', c9', rfl, by omega, by omega, by go_num, rfl, rfl, HA.out, HLV2.out, HP2.out, hst2, HSO2.out, I2.out.keep hy10⟩
        case measure => have := HQ2.out; omega
      ·have j5 : ¬ (j : Int) ≤ 1025 := by omega
       have hall : addL (wkL l) ps pe.1 (evN l ps) st = some st2 := by
        have := HADD.out
        rw [evTo_all (fun e he => by have := (vis_evN HVL.out ps e he).2; omega)] at this
        exact this
       have HR : Hid (LpR1 w3 F l k (i + 1) st2 (.slice a8 st2.length c8') (.slice a9 st2.length c9') wr) := Lib.hid ⟨by have := (List.getElem?_eq_some_iff.1 HP2.out).1; omega, hst2, HLV2.out.next, by
        rw [← HRES.out, show 16385 - i = (16385 - (i + 1)) + 1 by omega, of_step HP.out HLEN.out]
        show _ = (addL (wkL l) ps pe.1 (evN l ps) st).bind _
        rw [hall]; rfl, HSO2.out, I2.out⟩
       clear hall
       go_wp2_with fail
       go_roundg (16385 - (i + 1))
       case rel => exact ⟨i + 1, st2, a8, a9, c8', c9', rfl, by go_num, rfl, rfl, HR.out⟩
       case measure => have := HQ.out; omega
   ·have i5 : ¬ (i : Int) < (st.length : Int) := by omega
    have HR : Hid (ofL l k = some st) := Lib.hid (by rw [← HRES.out]; exact of_end (by omega))
    go_wp2_with fail
    go_ret2
    refine HEND.out _ _ (HFW.out _ I.out.frm) ?_
    rw [HR.out]
    exact ⟨_, _, rfl, I.out.beh⟩
 ·have HR : Hid (∀ e w', Frm [] w w' → e = .returned (.tuple #[.slice none 0 0, .int .i64 1]) → OfEnd w F l n e w') := Lib.hid fun e w' hf he => ⟨hf, by rw [if_neg hgood]; exact he⟩
  cases hv : validB l with
  | false =>
   rw [hv] at hva
   have HVA := Lib.hid hva
   clear hv hva hgood
   go_enter Tryz.func38, Tryz.ntmps38
   go_wp2_with (first | (go_at_call 67; refine HVA.out.mono ?_; rintro e1 w1 ⟨rfl, hf1⟩; have F1 := Lib.hid (HF0.out.trans hf1 (by simp)); clear hf1) | fail)
   go_ret2
   exact HR.out _ _ F1.out rfl
  | true =>
   rw [hv] at hva
   have HVA := Lib.hid hva
   by_cases hn : n < 0
   ·clear hv hva hgood
    go_enter Tryz.func38, Tryz.ntmps38
    go_wp2_with (first | (go_at_call 67; refine HVA.out.mono ?_; rintro e1 w1 ⟨rfl, hf1⟩; have F1 := Lib.hid (HF0.out.trans hf1 (by simp)); clear hf1) | fail)
    go_ret2
    exact HR.out _ _ F1.out rfl
   ·have hn2 : 24 < n := by
     by_cases h9 : 24 < n
     ·exact h9
     ·exact absurd ⟨hv, by omega, by omega⟩ hgood
    clear hv hva hgood
    go_enter Tryz.func38, Tryz.ntmps38
    go_wp2_with (first | (go_at_call 67; refine HVA.out.mono ?_; rintro e1 w1 ⟨rfl, hf1⟩; have F1 := Lib.hid (HF0.out.trans hf1 (by simp)); clear hf1) | fail)
    go_ret2
    exact HR.out _ _ F1.out rfl
end Go.Proofs.YtikpcipkkhmcfaaGreat.Beh
