/- Texts VT, BB. -/
import Derived.Test.YtikpcipkkhmcfaaGreatQ00
import Derived.Test.YtikpcipkkhmcfaaGreatQ33
import Derived.Test.YtikpcipkkhmcfaaGreatQ34
import Derived.Deep.RegionHeld3
import Derived.Test.YtikpcipkkhmcfaaGreatQ20
/- Contract of behavior.Of. -/
namespace Go.Proofs.YtikpcipkkhmcfaaGreat.Beh
open Go.Shelf Go.RowKit Go.Lib Go.Sort Go.Maps Go.Proofs.YtikpcipkkhmcfaaGreat Go.Proofs.YtikpcipkkhmcfaaGreat.Ind

set_option linter.unusedSimpArgs false in
set_option maxRecDepth 100000 in
set_option maxHeartbeats 4000000 in
theorem waft2_any (B wb gs : Nat) (a : Option Addr) (cap : Nat) (l : Lts) (r : Nat) (seen0 : List Int) (fa : Option Addr) (fc : Nat) (fr : List Nat) (ev : Int) (w : World) (hv : validB l = true) (hw : WkAt B w wb gs a cap l.length r seen0) (hr : r ≤ 900000)
  (h0 : LAt B w a cap l) (hf0 : ∀ w', Frm [wb, gs] w w' → Rd w.heap.size w' fa fr.length fc 1 (ints (natI fr))) (hfl : ∀ v ∈ fr, v < l.length) :
  Calls Tryz.prog 60 #[.pointer (some ⟨wb, 0, none⟩), .slice fa fr.length fc, .int .i64 ev] w fun e w' => (∃ (a : Option Addr) (c : Nat) (m vs : List Nat), e = .returned (.slice a vs.length c) ∧ w'.ownsRow w.heap.size 3 1 (.slice a vs.length c) vs.length (ints (natI vs)) ∧ IsAim l ev fr m ∧ IsReach (Esel l true) m vs) ∧ (∃ seen, WkAt B w' wb gs a cap l.length (r + 1 + 1) seen) ∧ Frm [wb, gs] w w' := by
 have hbl := hw.lo
 have hbg := (hw.own.lt gs rfl).1
 have hbw := hw.row.lt
 have hgw := (hw.own.lt gs rfl).2
 have HL0 := Lib.hid h0
 have HVB := Lib.hid hv
 have HFL := Lib.hid hfl
 have htg := wtarg_any B wb gs a cap l r seen0 fa fc fr ev w hv hw (by omega) h0 hf0 hfl
 clear hv hw h0 hf0 hfl
 go_enter Tryz.func60, Tryz.ntmps60
 go_wp2_with fail
 refine htg.mono ?_
 rintro e1 w1 ⟨⟨a1, c1, m, rfl, hown1, hia⟩, ⟨seen1, hw1⟩, hf1⟩
 have HF1 := Lib.hid hf1
 have hsz1 := hf1.size
 have HIA := Lib.hid hia
 have hre := wreach_any B wb gs a cap l (r + 1) seen1 a1 c1 m true w1 HVB.out hw1 (by omega) (HL0.out.frm hf1 (by simp; omega)) (fun w' hf' => rd_keep hown1 hf' (by simp; omega)) (fun v hv => by
  obtain ⟨s, hs, h1⟩ := (hia.mem v).1 hv
  exact aim_edge (vlts_of HVB.out) s v (HFL.out s hs) h1)
 clear htg hown1 hia hw1 hf1
 go_wp2_with fail
 refine hre.mono ?_
 rintro e2 w2 ⟨⟨a2, c2, vs, rfl, hown2, hir⟩, hwk, hf2⟩
 have HF2 := Lib.hid (HF1.out.trans hf2 (fun x hx => .inl hx))
 have HWK := Lib.hid hwk
 have HEND := Lib.hid (show w2.ownsRow w.heap.size 3 1 (.slice a2 vs.length c2) vs.length (ints (natI vs)) ∧ IsAim l ev fr m ∧ IsReach (Esel l true) m vs from ⟨ownsB_mono hown2 hsz1, HIA.out, hir⟩)
 clear hre hown2 hir hf2 hwk
 go_wp2_with fail
 go_ret
 exact ⟨⟨a2, c2, m, vs, rfl, HEND.out⟩, HWK.out, HF2.out⟩

def OfEnd (w : World) (F : List Nat) (l : Lts) (n : Int) (e : Ending) (w' : World) : Prop :=
 Frm [] w w' ∧ if validB l = true ∧ 0 ≤ n ∧ n ≤ 24 then
  match ofL l n.toNat with
  | none => e = .returned (.tuple #[.slice none 0 0, .int .i64 10])
  | some st => ∃ a c, e = .returned (.tuple #[.slice a st.length c, .int .i64 0]) ∧ BehAt w' F (.slice a st.length c) (st.map (·.2))
 else e = .returned (.tuple #[.slice none 0 0, .int .i64 1])
theorem esel_lt {l : Lts} (hv : VLts l) : ∀ a b, a < l.length → b ∈ Esel l true a → b < l.length := esel_edge hv true
theorem reach_lt {l : Lts} (hv : VLts l) {fr vs : List Nat} (h : IsReach (Esel l true) fr vs) (hf : ∀ v ∈ fr, v < l.length) : ∀ v ∈ vs, v < l.length := by
 intro v hv2
 obtain ⟨s, hs, hp⟩ := (h.mem v).1 hv2
 exact hp.lt (esel_lt hv) (hf s hs)
theorem asc_le {n : Nat} {vs : List Nat} (ha : vs.Pairwise (· < ·)) (h : ∀ v ∈ vs, v < n) : vs.length ≤ n := asc_few ha h
theorem OfI.start {B : Nat} {w0 : World} {F : List Nat} {wb gs : Nat} {a : Option Addr} {cap n : Nat} {seen : List Int} (hw : WkAt B w0 wb gs a cap n 0 seen) (hl : ∀ k ∈ F, k < w0.heap.size) : OfI B w0 F wb gs a cap n 0 [] [] (.slice none 0 0) (.slice none 0 0) w0 :=
 ⟨Frm.refl _ _, ⟨[], rfl, World.ownsRow_nil _ _ _ _, by simp⟩, ⟨[], rfl, World.ownsRow_nil _ _ _ _, by intro p hp; cases hp⟩, ⟨0, seen, Nat.le_refl _, hw⟩, fun k hk => by
  rcases List.mem_cons.1 hk with rfl | hk
  ·exact hw.row.lt
  ·rcases List.mem_cons.1 hk with rfl | hk
   ·exact (hw.own.lt _ rfl).2
   ·exact hl k hk⟩
theorem infoEn : (Tryz.prog.info? 69).map (fun i => (i.zero, i.size, i.bytes)) = some (some (.agg #[.slice none 0 0, .slice none 0 0, .bool false]), 3, 56) := by kernel_rfl
theorem addL_last {k : Wk} {set : List Nat} {t : List Int} {es : List Int} {st0 st : St} {j : Nat} {e : Int} (h : addL k set t (es.take j) st0 = some st) (he : es[j]? = some e) (hf : st.length ≠ 16384) : addL k set t (es.take (j + 1)) st0 = some (st ++ [newE k set t e]) := by
 rw [take_snoc he, addL_app, h]
 show addL k set t [e] st = _
 rw [addL_cons hf]; rfl
theorem addL_over {k : Wk} {set : List Nat} {t : List Int} {es : List Int} {st0 st : St} {j : Nat} {e : Int} (h : addL k set t (es.take j) st0 = some st) (he : es[j]? = some e) (hf : st.length = 16384) : addL k set t es st0 = none := by
 have e9 : es = es.take j ++ e :: es.drop (j + 1) := by rw [← drop_cons he, List.take_append_drop]
 rw [e9, addL_app, h]
 show addL k set t (e :: es.drop (j + 1)) st = none
 rw [addL_full hf]
/-- Sets that silent arcs do not leave, within the system. -/
def SetsOk (l : Lts) (st : St) : Prop := ∀ p ∈ st, Closed l p.1 ∧ ∀ v ∈ p.1, v < l.length
/-- What holds at the head of the outer loop. -/
def Lp1 (B : Nat) (w3 : World) (F : List Nat) (wb gs : Nat) (a : Option Addr) (cap : Nat) (l : Lts) (k i : Nat) (st : St) (v8 v9 : Value) (wr : World) : Prop :=
 i ≤ st.length ∧ st.length ≤ 16384 ∧ Lv k i st ∧ ofGo (wkL l) k (16385 - i) i st = ofL l k ∧ SetsOk l st ∧ OfI B w3 F wb gs a cap l.length (2 * st.length) (st.map (·.1)) (st.map (·.2)) v8 v9 wr
/-- .. of the inner one: from the entry p at i. -/
def Lp2 (B : Nat) (w3 : World) (F : List Nat) (wb gs : Nat) (a : Option Addr) (cap : Nat) (l : Lts) (k i : Nat) (p : List Nat × En) (st0 : St) (es : List Int) (blk0 : List Nat) (w8 : World) (j : Nat) (st : St) (v8 v9 : Value) (wr : World) : Prop :=
 addL (wkL l) p.1 p.2.1 (es.take j) st0 = some st ∧ Lv k i st ∧ st[i]? = some p ∧ st.length ≤ 16384 ∧ SetsOk l st ∧ OfI B w3 F wb gs a cap l.length (2 * st.length) (st.map (·.1)) (st.map (·.2)) v8 v9 wr ∧ Frm blk0 w8 wr ∧ (∀ b, v8.ownBlock = some b → b ∈ blk0 ∨ w8.heap.size ≤ b) ∧ (∀ b, v9.ownBlock = some b → b ∈ blk0 ∨ w8.heap.size ≤ b)
set_option linter.unusedSimpArgs false in
set_option maxRecDepth 100000 in
set_option maxHeartbeats 8000000 in
theorem of_any (B0 : Nat) (F : List Nat) (w : World) (a : Option Addr) (cap : Nat) (l : Lts) (n : Int) (h0 : LAt B0 w a cap l) (hF : ∀ k ∈ F, k < w.heap.size) :
  Calls Tryz.prog 30 #[.agg #[.slice a l.length cap], .int .i64 n] w (OfEnd w F l n) := by
 have h := h0.cut
 clear h0
 have f0 : Frm [] w (w.alloc (.cells #[.slice a l.length cap] 25)) := (Frm.refl [] w).alloc _
 have hb0 := RowAt.made w 25 [.slice a l.length cap] #[.slice a l.length cap] rfl
 have hva := valid_any w.heap.size a cap l _ (h.nil f0 rfl)
 have hbl : w.heap.size < (w.alloc (.cells #[.slice a l.length cap] 25)).heap.size := by simp
 have HBL := Lib.hid hbl
 have HB0 := Lib.hid hb0
 have HF0 := Lib.hid f0
 have HFL := Lib.hid hF
 have HL := Lib.hid h
 clear hb0 f0 hF h hbl
 by_cases hgood : validB l = true ∧ 0 ≤ n ∧ n ≤ 24
 ·obtain ⟨hv, hn0, hn1⟩ := hgood
  have HV := Lib.hid hv
  have HVL := Lib.hid (vlts_of hv)
  have hfew := (vlts_of hv).few
  rw [hv] at hva
  have HVA := Lib.hid hva
  have HDV : Hid (∀ W, Frm [] w W → Calls Tryz.prog 55 #[.agg #[.slice a l.length cap]] W fun e w' => (∃ g bs, e = .returned (.slice (some ⟨g, 0, none⟩) l.length l.length) ∧ w'.ownsRow W.heap.size 4 1 (.slice (some ⟨g, 0, none⟩) l.length l.length) l.length (bools bs) ∧ IsDiv (Esel l true) l.length bs) ∧ Frm [] W w') := Lib.hid fun W hf => by
   refine (divergent_any w.heap.size a cap l W (HL.out.nil hf rfl)).mono ?_
   rintro e w' ⟨h1, h2⟩
   rw [DivEnd, if_pos hv] at h1
   exact ⟨h1, h2⟩
  obtain ⟨k, rfl⟩ : ∃ k : Nat, n = (k : Int) := ⟨n.toNat, by omega⟩
  have m1 : ¬ (k : Int) < 0 := by omega
  have m2 : ¬ 24 < (k : Int) := by omega
  have HEND : Hid (∀ e w', Frm [] w w' → (match ofL l k with | none => e = .returned (.tuple #[.slice none 0 0, .int .i64 10]) | some st => ∃ a c, e = .returned (.tuple #[.slice a st.length c, .int .i64 0]) ∧ BehAt w' F (.slice a st.length c) (st.map (·.2))) → OfEnd w F l (k : Int) e w') := Lib.hid fun e w' hf hm => ⟨hf, by rw [if_pos ⟨hv, hn0, hn1⟩]; exact hm⟩
  clear hv hva
  go_enter Tryz.func30, Tryz.ntmps30
  go_wp2_with (first
   | (go_at_call 54; refine HVA.out.mono ?_; rintro e1 w1 ⟨rfl, hf1⟩; have F1 := Lib.hid (HF0.out.trans hf1 (by simp)); have B1 := Lib.hid (HB0.out.frm hf1 (by simp)); have b1 := B1.out.cell (i := 0) rfl; have Z1 := Lib.hid hf1.size; clear hf1)
   | (go_at_call 55; refine (HDV.out _ F1.out).mono ?_; rintro e2 w2 ⟨⟨gd, bs, rfl, own2, hdv⟩, hf2⟩; have F2 := Lib.hid (F1.out.trans hf2 (by simp)); have B2 := Lib.hid (B1.out.frm hf2 (by simp)); have b2 := B2.out.cell (i := 0) rfl; have O2 := Lib.hid (ownsB_mono own2 (Nat.zero_le _)); have HDD := Lib.hid hdv; have Z2 := Lib.hid (Nat.le_trans Z1.out hf2.size); have GD := Lib.hid (own2.lt gd rfl).1; clear own2 hf2 hdv b1)
   | (go_at_call 56; refine (wnew_any a cap l.length w2 (by omega)).mono ?_; rintro e3 w3 ⟨wb, gs, rfl, hw3, hf3⟩; have F3 := Lib.hid (F2.out.trans hf3 (by simp)); have B3 := Lib.hid (B2.out.frm hf3 (by simp)); have b3 := B3.out.cell (i := 0) rfl; have O3 := Lib.hid (ownsB_frm O2.out hf3 (by simp)); have LB := Lib.hid hw3.lo; have LG := Lib.hid (hw3.own.lt gs rfl).1; have GD3 := Lib.hid (O2.out.lt gd rfl).2; have I3 := Lib.hid (OfI.start (B := w2.heap.size) (F := F) hw3 (fun k hk => Nat.lt_of_lt_of_le (HFL.out k hk) F3.out.size)); clear hw3 hf3 b2)
   | fail)
  have HLW : Hid (∀ wr, Frm [wb, gs] w3 wr → LAt w2.heap.size wr a cap l) := Lib.hid fun wr hf => ((HL.out.nil F3.out rfl).mono F2.out.size).frm hf (fun k hk => by simp at hk; rcases hk with rfl | rfl; exact LB.out; exact LG.out)
  have HBW : Hid (∀ wr, Frm [wb, gs] w3 wr → wr.cell? ⟨w.heap.size, 0, none⟩ = some (.slice a l.length cap)) := Lib.hid fun wr hf => (B3.out.frm hf (by
   have h1 := LB.out
   have h2 := LG.out
   have h3 := Z2.out
   have h4 := HBL.out
   simp; omega)).cell (i := 0) rfl
  have HDW : Hid (∀ wr, Frm [wb, gs] w3 wr → RowV wr [wb, gs] (.slice (some ⟨gd, 0, none⟩) l.length l.length) l.length 1 (bools bs)) := Lib.hid fun wr hf => (rowV_of_owns O3.out (fun k hk e => by
   have h1 := LB.out
   have h2 := LG.out
   have h3 := GD3.out
   simp [Value.ownBlock] at e hk
   omega)).frm hf (fun k hk => .inl hk)
  have HFW : Hid (∀ wr, Frm [wb, gs] w3 wr → Frm [] w wr) := Lib.hid fun wr hf => F3.out.trans hf (fun k hk => by
   have h1 := LB.out
   have h2 := LG.out
   have h3 := F2.out.size
   simp at hk
   exact .inr (by omega))
  have HW3 : Hid (wb < w3.heap.size ∧ gs < w3.heap.size) := Lib.hid ⟨I3.out.low wb (by simp), I3.out.low gs (by simp)⟩
  have I4 := Lib.hid (I3.out.keep ((Frm.refl [] w3).alloc (.cells #[.int .i64 0] 3)))
  obtain ⟨r4, seen4, hr4, hwk4⟩ := I4.out.wk
  have hre := wreach_any w2.heap.size wb gs a cap l r4 seen4 (some ⟨w3.heap.size, 0, none⟩) 1 [0] true (w3.alloc (.cells #[.int .i64 0] 3)) HV.out hwk4 (by omega) (HLW.out _ I4.out.frm) (fun w' hf' => by
   have hr := (RowAt.made w3 3 [.int .i64 0] #[.int .i64 0] rfl).frm hf' (by have := HW3.out; simp; omega)
   exact ⟨rfl, Nat.le_refl _, by decide, fun i u hu => ⟨w3.heap.size, 0, rfl, by simp, by rw [Nat.zero_add]; exact hr.cell hu⟩⟩) (fun v hv => by
   have := HVL.out.pos
   rw [List.mem_singleton.1 hv]; omega)
  have HRE := Lib.hid hre
  clear hre hwk4
  refine HRE.out.mono ?_
  rintro e5 w5 ⟨⟨a5, c5, s0, rfl, own5, hir⟩, ⟨seen5, hw5⟩, hf5⟩
  have hs0 := rch_eq hir
  have hs0l := reach_lt HVL.out hir (fun v hv => by
   have := HVL.out.pos
   rw [List.mem_singleton.1 hv]; omega)
  have hs0c := closed_of hir
  have hs0n : s0.length ≤ 16384 := by have := asc_le hir.asc hs0l; omega
  have I5 := Lib.hid (I4.out.walk (m' := 1) hf5 (by omega) hw5)
  have hu5 : RowV w5 (blkO F wb gs (.slice none 0 0) (.slice none 0 0)) (.slice a5 s0.length c5) s0.length 1 (ints (natI s0)) := rowV_of_owns own5 (fun k hk e => by
   have h1 := (own5.lt k e).1
   have h2 := I4.out.blt k hk
   omega)
  have I6 : Hid (OfI w2.heap.size w3 F wb gs a cap l.length 1 [s0] [] (.slice (some ⟨w5.heap.size, 0, none⟩) 1 1) (.slice none 0 0) (w5.alloc (.cells #[.slice a5 s0.length c5] 22))) := Lib.hid (I5.out.set (x := s0) [] rfl (fun p hp => by cases hp) ((Frm.refl _ w5).alloc _) rfl (ownsB_mono (owns_cells w5 22 1 1 [.slice a5 s0.length c5] rfl (by decide)) I5.out.frm.size) (fun k hk => .inr (by simpa [Value.ownBlock] using hk.symm)) hu5)
  have HU6 := Lib.hid (hu5.nil ((Frm.refl [] w5).alloc (.cells #[.slice a5 s0.length c5] 22)))
  have C6 : Hid ((w5.alloc (.cells #[.slice a5 s0.length c5] 22)).cell? ⟨w5.heap.size, 0, none⟩ = some (.slice a5 s0.length c5)) := Lib.hid ((RowAt.made w5 22 [.slice a5 s0.length c5] #[.slice a5 s0.length c5] rfl).cell (i := 0) rfl)
  have HS0 := Lib.hid hs0
  have HS0L := Lib.hid hs0l
  have HS0C := Lib.hid hs0c
  clear own5 hir hw5 hf5 hs0 hs0l hs0c hu5 b3
  go_wp2_with fail
  have W6 := Lib.hid (rfl : (w5.alloc (.cells #[.slice a5 s0.length c5] 22)) = (w5.alloc (.cells #[.slice a5 s0.length c5] 22)))
  generalize w5.alloc (.cells #[.slice a5 s0.length c5] 22) = w6 at *
  clear W6
  generalize w5.heap.size = q8 at *
  have KEEP : Hid (∀ w', Frm [] w6 w' → w'.cell? ⟨w.heap.size, 0, none⟩ = some (.slice a l.length cap) ∧ w'.cell? ⟨q8, 0, none⟩ = some (.slice a5 s0.length c5)) := Lib.hid fun w' hf => ⟨HBW.out _ (I6.out.frm.trans hf (by simp)), hf.cell C6.out (by simp)⟩
  have HEN : Hid (∀ W, Frm [] w6 W → Calls Tryz.prog 58 #[.agg #[.slice a l.length cap], .slice (some ⟨gd, 0, none⟩) l.length l.length, .slice none 0 0, .slice a5 s0.length c5] W (EntEnd W l none 0 0 s0)) := Lib.hid fun W hf => entry_any w2.heap.size [wb, gs] _ W a cap l _ bs none 0 0 _ s0 HV.out (HLW.out _ (I6.out.frm.trans hf (by simp))) (HDW.out _ (I6.out.frm.trans hf (by simp))) HDD.out (HU6.out.nil hf) HS0L.out hs0n
  go_region_held3 (fun w' => w'.cell? ⟨w.heap.size, 0, none⟩ = some (.slice a l.length cap) ∧ w'.cell? ⟨q8, 0, none⟩ = some (.slice a5 s0.length c5))
   (first | exact KEEP.out _ (Frm.refl [] w6).drew | exact KEEP.out _ hy7 | exact KEEP.out _ (hy7.alloc _))
   (first | (go_at_call 58; refine (HEN.out _ (Frm.refl [] w6).drew).mono ?_; rintro e7 w7 ⟨aa, ac, us7, rfl, s7⟩; have hy7 := (Frm.refl [] w6).drew.trans s7.frm (by simp)))
  have I7 := Lib.hid (I6.out.keep hy7)
  have hent7 : EntAt w7 (blkO F wb gs (.slice (some ⟨q8, 0, none⟩) 1 1) (.slice none 0 0)) ((.slice none 0 0, .slice aa (minL (accN l s0)).length ac), ([], minL (accN l s0), divB l s0)) := entAt_of (RowV.nil0 _ _ _) s7 (fun k hk => I6.out.blt k hk)
  have I8 : Hid (OfI w2.heap.size w3 F wb gs a cap l.length 1 [s0] [([], minL (accN l s0), divB l s0)] (.slice (some ⟨q8, 0, none⟩) 1 1) (.slice (some ⟨w7.heap.size, 0, none⟩) 1 1) (w7.alloc (.cells #[.slice none 0 0, .slice aa (minL (accN l s0)).length ac, .bool (divB l s0)] 69))) := Lib.hid (I7.out.ent [] rfl (fun p hp => by cases hp) ((Frm.refl _ w7).alloc _) rfl (ownsB_mono (owns_cells w7 69 3 1 [.slice none 0 0, .slice aa (minL (accN l s0)).length ac, .bool (divB l s0)] rfl (by decide)) I7.out.frm.size) (fun k hk => .inr (by simpa [Value.ownBlock] using hk.symm)) hent7)
  have L0 : Hid (Lp1 w2.heap.size w3 F wb gs a cap l k 0 [(s0, ([], minL (accN l s0), divB l s0))] (.slice (some ⟨q8, 0, none⟩) 1 1) (.slice (some ⟨w7.heap.size, 0, none⟩) 1 1) (w7.alloc (.cells #[.slice none 0 0, .slice aa (minL (accN l s0)).length ac, .bool (divB l s0)] 69))) := Lib.hid ⟨Nat.zero_le _, by simp, lv_start (wkL l) k s0, by unfold ofL ofB; rw [HS0.out]; rfl, fun p hp => by rw [List.mem_singleton.1 hp]; exact ⟨HS0C.out, HS0L.out⟩, by
   obtain ⟨e1, e2, e3, ⟨r, seen, hr, hw⟩, e5⟩ := I8.out
   exact ⟨e1, e2, e3, ⟨r, seen, by simp; omega, hw⟩, e5⟩⟩
  clear s7 hy7 hent7 KEEP HEN HRE
  go_wp2_with fail
  generalize w7.alloc (.cells #[.slice none 0 0, .slice aa (minL (accN l s0)).length ac, .bool (divB l s0)] 69) = w9 at *
  generalize w7.heap.size = q9 at *
  clear I7 I8 HU6 C6 I6 I5 HS0 HS0L HS0C
  go_loopg [8, 9, 10] 16385 (fun q t8 t9 t10 wr => ∃ (i : Nat) (st : St) (a8 a9 : Option Addr) (c8 c9 : Nat), q = 16385 - i ∧ t10 = .int .i64 i ∧ t8 = .slice a8 st.length c8 ∧ t9 = .slice a9 st.length c9 ∧ Lp1 w2.heap.size w3 F wb gs a cap l k i st (.slice a8 st.length c8) (.slice a9 st.length c9) wr)
  case atStart => exact ⟨0, _, _, _, _, _, rfl, rfl, rfl, rfl, L0.out⟩
  case round =>
   clear L0
   obtain ⟨i, st, a8, a9, c8, c9, hq, rfl, rfl, rfl, hLp⟩ := hrel
   obtain ⟨hi, hst, hlv, hres, hso, hI⟩ := hLp
   have HQ := Lib.hid hq
   have HLV := Lib.hid hlv
   have HRES := Lib.hid hres
   have HSO := Lib.hid hso
   have I := Lib.hid hI
   have i4 : (0 : Int) ≤ (i : Int) := by omega
   clear hq hlv hres hso hI
   by_cases hlt : i < st.length
   ·have i5 : (i : Int) < (st.length : Int) := by omega
    obtain ⟨⟨ps, pe⟩, hp⟩ : ∃ p, st[i]? = some p := ⟨_, List.getElem?_eq_getElem hlt⟩
    have hpe : (st.map (·.2))[i]? = some pe := by rw [List.getElem?_map, hp]; rfl
    have hps : (st.map (·.1))[i]? = some ps := by rw [List.getElem?_map, hp]; rfl
    obtain ⟨g9, cc9, ta, tc, e9, hc9, tcell, trow⟩ := I.out.ent_at hpe
    obtain ⟨g8, cc8, xa, xc, e8, hc8, scell, srow⟩ := I.out.set_at hps
    rw [List.length_map] at e9 e8 hc9 hc8
    obtain ⟨rfl, rfl⟩ : a9 = some ⟨g9, 0, none⟩ ∧ c9 = cc9 := by simpa using e9
    obtain ⟨rfl, rfl⟩ : a8 = some ⟨g8, 0, none⟩ ∧ c8 = cc8 := by simpa using e8
    have HP := Lib.hid hp
    by_cases hlen : pe.1.length = k
    ·have jn : ((pe.1.length : Int) == (k : Int)) = true := by simp [hlen]
     have HR : Hid (ofL l k = some st) := Lib.hid (by rw [← HRES.out]; exact HLV.out.stop hp hlen)
     clear hlen hpe hps e9 e8 trow srow hp
     go_wp2_with fail
     go_ret2
     refine HEND.out _ _ (HFW.out _ I.out.frm) ?_
     rw [HR.out]
     exact ⟨_, _, rfl, I.out.beh⟩
    ·have jn : ((pe.1.length : Int) == (k : Int)) = false := by simp; omega
     obtain ⟨r0, seen0, hr0, hwk0⟩ := I.out.wk
     have hpsl : ∀ v ∈ ps, v < l.length := (HSO.out _ (List.mem_of_getElem? hp)).2
     have hpsa : ps.Pairwise (· < ·) := (HSO.out _ (List.mem_of_getElem? hp)).1.asc
     have hpsn : ps.length ≤ 16384 := by have := asc_le hpsa hpsl; have := HVL.out.few; omega
     have hev := wev_any w2.heap.size wb gs a cap l r0 seen0 xa xc ps wr HV.out hwk0 (HLW.out _ I.out.frm) srow.rd hpsl hpsn
     unfold EvEnd at hev
     obtain ⟨evs, hevs⟩ : ∃ evs, evs = evN l ps := ⟨_, rfl⟩
     rw [← hevs] at hev
     have HEVS := Lib.hid hevs
     have HEV := Lib.hid hev
     have HLEN := Lib.hid hlen
     have HPSL := Lib.hid hpsl
     have HPSN := Lib.hid hpsn
     have hevl : evs.length ≤ 1025 := by
      have h1 := asc_evN l ps
      have h2 := vis_evN HVL.out ps
      have h3 : ((evN l ps).map Int.toNat).Nodup := by
       refine List.pairwise_map.2 (List.Pairwise.imp_of_mem (fun {a b} ha hb hab e => ?_) h1)
       have := h2 a ha
       have := h2 b hb
       omega
      have h4 := h3.length_le_of_subset (l₂ := List.range' 1 1025) (fun x hx => by
       obtain ⟨y, hy, rfl⟩ := List.mem_map.1 hx
       have := h2 y hy
       rw [List.mem_range']
       exact ⟨y.toNat - 1, by omega, by omega⟩)
      rw [List.length_map, List.length_range'] at h4
      rw [hevs]
      exact h4
     clear hlen hpe hps e9 e8 trow srow hwk0 hpsl hpsa hpsn hev hevs hp
     go_wp2_with (first
      | (go_at_call 59; refine HEV.out.mono ?_; rintro e8 w8 ⟨⟨ea, ec, rfl, own8⟩, hf8⟩; have I8 := Lib.hid (I.out.keep hf8); have HEO := Lib.hid (rowV_of_owns (F := blkO F wb gs (.slice (some ⟨g8, 0, none⟩) st.length c8) (.slice (some ⟨g9, 0, none⟩) st.length c9)) own8 (fun k hk e => by have h1 := (own8.lt k e).1; have h2 := I.out.blt k hk; omega)); clear own8 hf8)
      | fail)
     obtain ⟨blk0, hblk0⟩ : ∃ b, b = blkO F wb gs (.slice (some ⟨g8, 0, none⟩) st.length c8) (.slice (some ⟨g9, 0, none⟩) st.length c9) := ⟨_, rfl⟩
     have L2 : Hid (Lp2 w2.heap.size w3 F wb gs a cap l k i (ps, pe) st evs blk0 w8 0 st (.slice (some ⟨g8, 0, none⟩) st.length c8) (.slice (some ⟨g9, 0, none⟩) st.length c9) w8) := Lib.hid ⟨rfl, HLV.out, HP.out, hst, HSO.out, I8.out, Frm.refl _ _, fun b hb => .inl (by rw [hblk0]; exact mem_blkO.2 (.inr (.inr (.inr (.inl hb))))), fun b hb => .inl (by rw [hblk0]; exact mem_blkO.2 (.inr (.inr (.inr (.inr hb)))))⟩
     rw [← hblk0] at HEO
     have HB0 : Hid (wb ∈ blk0 ∧ gs ∈ blk0) := Lib.hid (by rw [hblk0]; exact ⟨mem_blkO.2 (.inr (.inl rfl)), mem_blkO.2 (.inr (.inr (.inl rfl)))⟩)
     clear hblk0 I8 I
     go_loopg [8, 9, 61] evs.length (fun q t8 t9 t61 wr => ∃ (j : Nat) (st2 : St) (a8 a9 : Option Addr) (c8 c9 : Nat), q = evs.length - j ∧ j ≤ evs.length ∧ t61 = .int .i64 j ∧ t8 = .slice a8 st2.length c8 ∧ t9 = .slice a9 st2.length c9 ∧ Lp2 w2.heap.size w3 F wb gs a cap l k i (ps, pe) st evs blk0 w8 j st2 (.slice a8 st2.length c8) (.slice a9 st2.length c9) wr)
     case atStart => exact ⟨0, st, _, _, _, _, rfl, Nat.zero_le _, rfl, rfl, rfl, L2.out⟩
     case round =>
      clear L2 tcell scell
      obtain ⟨j, st2, a8, a9, c8', c9', hq2, hj, rfl, rfl, rfl, hLp2⟩ := hrel
      obtain ⟨hadd, hlv2, hp2, hst2, hso2, hI2, hfr2, hb8, hb9⟩ := hLp2
      have HQ2 := Lib.hid hq2
      have HADD := Lib.hid hadd
      have HLV2 := Lib.hid hlv2
      have HP2 := Lib.hid hp2
      have HSO2 := Lib.hid hso2
      have I2 := Lib.hid hI2
      have HFR2 := Lib.hid hfr2
      have HB8 := Lib.hid hb8
      have HB9 := Lib.hid hb9
      have j4 : (0 : Int) ≤ (j : Int) := by omega
      clear hq2 hadd hlv2 hp2 hso2 hI2 hfr2 hb8 hb9
      by_cases hjl : j < evs.length
      ·have j5 : (j : Int) < (evs.length : Int) := by omega
       obtain ⟨ev, hev⟩ : ∃ e, evs[j]? = some e := ⟨_, List.getElem?_eq_getElem hjl⟩
       have hrE := HEO.out.frm HFR2.out (fun k hk => .inl hk)
       obtain ⟨eb, eo, e9, _, ecell⟩ := hrE.rd.at hev
       obtain ⟨rfl⟩ : ea = some ⟨eb, eo, none⟩ := by simpa using e9
       have HEV2 := Lib.hid hev
       clear hrE hev
       by_cases hfull : st2.length = 16384
       ·have jf : ((st2.length : Int) == 16384) = true := by simp; omega
        have HR : Hid (ofL l k = none) := Lib.hid (by
         rw [← HRES.out, show 16385 - i = (16384 - i) + 1 by omega, of_step HP.out HLEN.out]
         have h9 := addL_over HADD.out HEV2.out hfull
         rw [HEVS.out] at h9
         show (addL (wkL l) ps pe.1 (evN l ps) st).bind _ = none
         rw [h9]; rfl)
        clear hfull
        go_wp2_with fail
        go_ret2
        refine HEND.out _ _ (HFW.out _ I2.out.frm) ?_
        rw [HR.out]
        rfl
       ·have jf : ((st2.length : Int) == 16384) = false := by simp; omega
        have hpe : (st2.map (·.2))[i]? = some pe := by rw [List.getElem?_map, HP2.out]; rfl
        have hps : (st2.map (·.1))[i]? = some ps := by rw [List.getElem?_map, HP2.out]; rfl
        obtain ⟨g9, cc9, ta, tc, e9, hc9, tcell, trow⟩ := I2.out.ent_at hpe
        obtain ⟨g8, cc8, xa, xc, e8, hc8, scell, srow⟩ := I2.out.set_at hps
        rw [List.length_map] at e9 e8 hc9 hc8
        obtain ⟨rfl, rfl⟩ : a9 = some ⟨g9, 0, none⟩ ∧ c9' = cc9 := by simpa using e9
        obtain ⟨rfl, rfl⟩ : a8 = some ⟨g8, 0, none⟩ ∧ c8' = cc8 := by simpa using e8
        have hil : i < st2.length := (List.getElem?_eq_some_iff.1 HP2.out).1
        have i6 : (i : Int) < (st2.length : Int) := by omega
        obtain ⟨r0, seen0, hr0, hwk0⟩ := I2.out.wk
        have haf := waft2_any w2.heap.size wb gs a cap l r0 seen0 xa xc ps ev wr HV.out hwk0 (by omega) (HLW.out _ I2.out.frm) (fun w' hf' => srow.rdF hf' (fun k hk => mem_blkO.2 (by simp at hk; rcases hk with h | h <;> simp [h]))) HPSL.out
        have HAF := Lib.hid haf
        have htl : pe.1.length ≤ 24 := by have := HLV2.out.le _ (List.mem_of_getElem? HP2.out); simp only at this; omega
        clear hps e9 e8 srow hwk0 haf trow
        go_wp2_with fail
        refine HAF.out.mono ?_
        rintro e10 w10 ⟨⟨ua, uc, mm, vs, rfl, own10, hia, hir⟩, ⟨seen10, hwk10⟩, hf10⟩
        have I10 := Lib.hid (I2.out.walk (m' := 2 * st2.length + 2) hf10 (by omega) hwk10)
        have HVS := Lib.hid (aft_eq hia hir)
        have hvsl := reach_lt HVL.out hir (fun v hv => by
         obtain ⟨s, hs, h1⟩ := (hia.mem v).1 hv
         exact aim_edge HVL.out s v (HPSL.out s hs) h1)
        have hvsn : vs.length ≤ 16384 := by have := asc_le hir.asc hvsl; omega
        have HVSL := Lib.hid hvsl
        have HVSC := Lib.hid (closed_of hir)
        have HU10 : Hid (RowV w10 (blkO F wb gs (.slice (some ⟨g8, 0, none⟩) st2.length c8') (.slice (some ⟨g9, 0, none⟩) st2.length c9')) (.slice ua vs.length uc) vs.length 1 (ints (natI vs))) := Lib.hid (rowV_of_owns own10 (fun k hk e => by
         have h1 := (own10.lt k e).1
         have h2 := I2.out.blt k hk
         omega))
        have HF10 := Lib.hid hf10
        obtain ⟨qs, hqs, hown8, hqat⟩ := I10.out.sets
        rw [List.length_map] at hown8
        have HQS := Lib.hid hqs
        have HO8 := Lib.hid hown8
        have HQAT := Lib.hid hqat
        have HSZ10 := Lib.hid I10.out.frm.size
        clear own10 hia hir hwk10 hf10 hvsl hown8 hqat hqs tcell scell hr0
        go_wp2_with (first
         | (at_builtin; refine app_rowB rfl (.tmp 75) (.tmp 77) 67 22 _ 1 24 rfl Tryz.underlying67 infoIs rfl (by decide) w3.heap.size st2.length (.slice (some ⟨g8, 0, none⟩) st2.length c8') (qs.map (·.1)) rfl (ownsB_frm HO8.out ((Frm.refl [] w10).alloc (.cells #[.slice ua vs.length uc] 22)) (by simp)) _ 1 [.slice ua vs.length uc] [] rfl (rowV_cells (size := 1) (RowAt.made w10 22 [.slice ua vs.length uc] #[.slice ua vs.length uc] rfl) rfl (Nat.le_refl _) (by decide) (by simp)) (by simp [Value.oneCell']) (st2.length + 1) rfl (by omega) (by omega) (by have := HSZ10.out; simp; omega) ?_; intro a11 c11 w11 own11 hf11 hb11; have I11 := Lib.hid ((I10.out.keep ((Frm.refl [] w10).alloc (.cells #[.slice ua vs.length uc] 22))).set (x := vs) qs HQS.out (HQAT.out.nil ((Frm.refl [] w10).alloc _)) hf11 (by rw [List.length_map]) own11 hb11 (HU10.out.nil ((Frm.refl [] w10).alloc _))); have HF11 := Lib.hid hf11; have HB11 := Lib.hid hb11; have HU11 := Lib.hid ((HU10.out.nil ((Frm.refl [] w10).alloc (.cells #[.slice ua vs.length uc] 22))).step (F' := []) hf11 (fun k hk => .inl (mem_blkO.2 (by simp at hk; simp [hk]))) (by simp)); clear own11 hf11 hb11)
         | fail)
        obtain ⟨g9', cc9, ta', tc', e9, hc9', tcell, trow⟩ := I11.out.ent_at hpe
        rw [List.length_map] at e9
        obtain ⟨rfl, rfl⟩ : g9 = g9' ∧ c9' = cc9 := by simpa using e9
        obtain ⟨es, hes, hown9, heat⟩ := I11.out.ents
        rw [List.length_map] at hown9
        have hesl : es.length = st2.length := by have := congrArg List.length hes; simpa using this
        obtain ⟨pi, hpi⟩ : ∃ p, es[i]? = some p := ⟨_, List.getElem?_eq_getElem (by omega)⟩
        have hfl := flat3_get hpi 0 (by decide)
        rw [Nat.add_zero] at hfl
        have htc : (es.flatMap enE)[i * 3]? = some (.slice ta' pe.1.length tc') := by
         obtain ⟨u, hu⟩ : ∃ u, (es.flatMap enE)[i * 3]? = some u := ⟨pi.1.1, by rw [hfl]; rfl⟩
         have h1 := own_cell (g := g9) hown9 rfl hu
         rw [tcell] at h1
         rw [hu, ← h1]
        have HTC := Lib.hid htc
        have HES := Lib.hid hes
        have HO9 := Lib.hid hown9
        have HEAT := Lib.hid heat
        have HSZ11 := Lib.hid I11.out.frm.size
        have KEEP : Hid (∀ w', Frm [] w11 w' → w'.cell? ⟨w.heap.size, 0, none⟩ = some (.slice a l.length cap) ∧ w'.cell? ⟨g9, i * 3, none⟩ = some (.slice ta' pe.1.length tc')) := Lib.hid fun w' hf => ⟨HBW.out _ (I11.out.frm.trans hf (by simp)), hf.cell tcell (by simp)⟩
        have HCL : Hid (∀ W, Frm [] w11 W → Calls Tryz.prog 61 #[.slice ta' pe.1.length tc'] W fun e w' => (∃ a c, e = .returned (.slice a pe.1.length c) ∧ w'.ownsRow W.heap.size 3 1 (.slice a pe.1.length c) pe.1.length (ints pe.1)) ∧ Frm [] W w') := Lib.hid fun W hf => cloneI_any W _ pe.1 (trow.nil hf) (by omega)
        have HEN : Hid (∀ W ta tn tc, Frm [] w11 W → Calls Tryz.prog 58 #[.agg #[.slice a l.length cap], .slice (some ⟨gd, 0, none⟩) l.length l.length, .slice ta tn tc, .slice ua vs.length uc] W (EntEnd W l ta tn tc vs)) := Lib.hid fun W ta tn tc hf => entry_any w2.heap.size [wb, gs] _ W a cap l _ bs ta tn tc _ vs HV.out (HLW.out _ (I11.out.frm.trans hf (by simp))) (HDW.out _ (I11.out.frm.trans hf (by simp))) HDD.out (HU11.out.nil hf) HVSL.out hvsn
        clear hfl htc hes hown9 heat trow hpe e9
        go_wp2_with fail
        refine wp_region_held_drew (S := fun w' => w'.cell? ⟨w.heap.size, 0, none⟩ = some (.slice a l.length cap) ∧ w'.cell? ⟨g9, i * 3, none⟩ = some (.slice ta' pe.1.length tc')) (by kernel_rfl) (KEEP.out _ (Frm.refl [] w11).drew) ?_
        intro hHeld
        refine qtk 0 (v := ?_) rfl (by kernel_rfl) (fun _ _ _ h => h) (by rfl) (by assumption) ?_ ?_
        rotate_left
        ·(intro w9 hS9; (try dsimp only at hS9); go_split_ands; go_simp; try with_reducible rfl)
        try simp only [Act.put, qgA, qgS, qg0, qsA, qs0, qsS]
        refine qtk 1 (v := ?_) rfl (by kernel_rfl) (fun _ _ _ h => h) (by rfl) (by assumption) ?_ ?_
        rotate_left
        ·(intro w9 hS9; (try dsimp only at hS9); go_split_ands; go_simp; try with_reducible rfl)
        try simp only [Act.put, qgA, qgS, qg0, qsA, qs0, qsS]
        refine qtk 2 (v := ?_) rfl (by kernel_rfl) (fun _ _ _ h => h) (by rfl) (by assumption) ?_ ?_
        rotate_left
        ·(intro w9 hS9; (try dsimp only at hS9); go_split_ands; go_simp; try with_reducible rfl)
        try simp only [Act.put, qgA, qgS, qg0, qsA, qs0, qsS]
        refine qtk 3 (v := ?_) rfl (by kernel_rfl) (fun _ _ _ h => h) (by rfl) (by assumption) ?_ ?_
        rotate_left
        ·(intro w9 hS9; (try dsimp only at hS9); go_split_ands; go_simp; try with_reducible rfl)
        try simp only [Act.put, qgA, qgS, qg0, qsA, qs0, qsS]
        refine qtk 4 (v := ?_) rfl (by kernel_rfl) (fun _ _ _ h => h) (by rfl) (by assumption) ?_ ?_
        rotate_left
        ·(intro w9 hS9; (try dsimp only at hS9); go_split_ands; go_simp; try with_reducible rfl)
        try simp only [Act.put, qgA, qgS, qg0, qsA, qs0, qsS]
        refine qtk 5 (v := ?_) rfl (by kernel_rfl) (fun _ _ _ h => h) (by rfl) (by assumption) ?_ ?_
        rotate_left
        ·(intro w9 hS9; (try dsimp only at hS9); go_split_ands; go_simp; try with_reducible rfl)
        try simp only [Act.put, qgA, qgS, qg0, qsA, qs0, qsS]
        refine qtk 6 (v := ?_) rfl (by kernel_rfl) (fun _ _ _ h => h) (by rfl) (by assumption) ?_ ?_
        rotate_left
        ·(intro w9 hS9; (try dsimp only at hS9); go_split_ands; go_simp; try with_reducible rfl)
        try simp only [Act.put, qgA, qgS, qg0, qsA, qs0, qsS]
        refine qtk 7 (v := ?_) rfl (by kernel_rfl) (fun _ _ _ h => h) (by rfl) (by assumption) ?_ ?_
        rotate_left
        ·(intro w9 hS9; (try dsimp only at hS9); go_split_ands; go_simp; try with_reducible rfl)
        try simp only [Act.put, qgA, qgS, qg0, qsA, qs0, qsS]
        refine qtk 9 (v := ?_) rfl (by kernel_rfl) (fun _ _ _ h => h) (by rfl) (by assumption) ?_ ?_
        rotate_left
        ·(intro w9 hS9; (try dsimp only at hS9); go_split_ands; go_simp; try with_reducible rfl)
        try simp only [Act.put, qgA, qgS, qg0, qsA, qs0, qsS]
        refine qtk 12 (v := ?_) rfl (by kernel_rfl) (fun _ _ _ h => h) (by rfl) (by assumption) ?_ ?_
        rotate_left
        ·(intro w9 hS9; (try dsimp only at hS9); go_split_ands; go_simp; try with_reducible rfl)
        try simp only [Act.put, qgA, qgS, qg0, qsA, qs0, qsS]
        refine wpAnyH_ready (rs := [8, 10]) (by kernel_rfl) (by simp) ?_
        refine AllReadyH.cons rfl (fun K hK => ?_) (AllReadyH.cons rfl (fun K hK => ?_) AllReadyH.nil)
        ·go_simp
         refine (HCL.out _ (Frm.refl [] w11).drew).mono ?_
         rintro e12 w12 ⟨⟨a12, c12, rfl, own12⟩, hf12⟩
         have hy12 := (Frm.refl [] w11).drew.trans hf12 (by simp)
         have hge12 : ∀ k ∈ (Value.slice a12 pe.1.length c12).ownBlock.toList, w11.heap.size ≤ k := fun k hk => (own12.lt k (by simpa using hk)).1
         refine hK.out _ _ ?_ (fun hHeld => ?_)
         ·exact KEEP.out _ hy12
         clear hK K
         try simp only [Act.put, qgA, qgS, qg0, qsA, qs0, qsS]
         refine wpAnyH_ready (rs := [10]) (by kernel_rfl) (by simp) ?_
         refine AllReadyH.cons rfl (fun K hK => ?_) AllReadyH.nil
         go_simp
         refine hK.out _ _ ?_ (fun hHeld => ?_)
         ·exact KEEP.out _ (hy12.alloc _)
         clear hK K
         try simp only [Act.put, qgA, qgS, qg0, qsA, qs0, qsS]
         have hrow12 := RowAt.made w12 3 [.int .i64 ev] #[.int .i64 ev] rfl
         have own12' := ownsB_mono (ownsB_frm own12 ((Frm.refl [] w12).alloc (.cells #[.int .i64 ev] 3)) (by simp)) (Nat.zero_le _)
         have hz12 := hy12.alloc (.cells #[.int .i64 ev] 3)
         clear own12 hf12 hy12
         refine wpAnyH_ready (rs := [11]) (by kernel_rfl) (by simp) ?_
         refine AllReadyH.cons rfl (fun K hK => ?_) AllReadyH.nil
         refine step_app_rowK rfl (.tmp 87) (.tmp 89) 22 3 _ 1 8 rfl Tryz.underlying22 infoInt rfl (by decide) 0 pe.1.length (.slice a12 pe.1.length c12) (ints pe.1) rfl own12' _ 1 [.int .i64 ev] [] rfl (rowV_cells (size := 1) hrow12 rfl (Nat.le_refl _) (by decide) (by simp)) (by simp [Value.oneCell']) (pe.1.length + 1) rfl (by omega) (by omega) (Nat.zero_le _) ?_
         intro a13 c13 w13 own13 hf13 hb13 _
         have hy13 := hz12.trans hf13 (fun k hk => .inr (hge12 k hk))
         have hge13 : ∀ k, (Value.slice a13 (pe.1.length + 1) c13).ownBlock = some k → w11.heap.size ≤ k := fun k hk => by
          rcases hb13 k hk with h9 | h9
          ·exact hge12 k (by simp [h9])
          ·have := hz12.size
           omega
         refine hK.out _ _ ?_ (fun hHeld => ?_)
         ·exact KEEP.out _ hy13
         clear hK K
         try simp only [Act.put, qgA, qgS, qg0, qsA, qs0, qsS]
         clear hrow12 own12' hz12 hf13 hb13 hge12
         refine wpAnyH_ready (rs := [13]) (by kernel_rfl) (by simp) ?_
         refine AllReadyH.cons rfl (fun K hK => ?_) AllReadyH.nil
         go_simp
         refine (HEN.out _ _ _ _ hy13).mono ?_
         rintro e14 w14 ⟨aa4, ac4, us14, rfl, s14⟩
         have hy14 := hy13.trans s14.frm (by simp)
         refine hK.out _ _ ?_ (fun hHeld => ?_)
         ·exact KEEP.out _ hy14
         clear hK K
         try simp only [Act.put, qgA, qgS, qg0, qsA, qs0, qsS]
         refine wpAnyH_ready (rs := [14]) (by kernel_rfl) (by simp) ?_
         refine AllReadyH.cons rfl (fun K hK => ?_) AllReadyH.nil
         go_simp
         refine hK.out _ _ ?_ (fun hHeld => ?_)
         ·exact KEEP.out _ (hy14.alloc _)
         clear hK K
         try simp only [Act.put, qgA, qgS, qg0, qsA, qs0, qsS]
         refine wpAnyH_ready (rs := [15]) (by kernel_rfl) (by simp) ?_
         refine AllReadyH.cons rfl (fun K hK => ?_) AllReadyH.nil
         refine step_app_rowK rfl (.tmp 79) (.tmp 93) 36 69 _ 3 56 rfl Tryz.underlying36 infoEn rfl (by decide) w3.heap.size st2.length (.slice (some ⟨g9, 0, none⟩) st2.length c9') (es.flatMap enE) rfl (ownsB_frm HO9.out (hy14.alloc (.cells #[.slice a13 (pe.1.length + 1) c13, .slice aa4 (minL (accN l vs)).length ac4, .bool (divB l vs)] 69)) (by simp)) _ 1 [.slice a13 (pe.1.length + 1) c13, .slice aa4 (minL (accN l vs)).length ac4, .bool (divB l vs)] [] rfl (rowV_cells (size := 3) (RowAt.made w14 69 [.slice a13 (pe.1.length + 1) c13, .slice aa4 (minL (accN l vs)).length ac4, .bool (divB l vs)] #[.slice a13 (pe.1.length + 1) c13, .slice aa4 (minL (accN l vs)).length ac4, .bool (divB l vs)] rfl) rfl (Nat.le_refl _) (by decide) (by simp)) (by simp [Value.oneCell']) (st2.length + 1) rfl (by omega) (by omega) (by have := HSZ11.out; have := hy14.size; simp; omega) ?_
         intro a15 c15 w15 own15 hf15 hb15 hk15
         have hy15 := (I11.out.frm.trans (hy14.alloc (.cells #[.slice a13 (pe.1.length + 1) c13, .slice aa4 (minL (accN l vs)).length ac4, .bool (divB l vs)] 69)) (by simp)).trans hf15 (fun k hk => .inr (HO9.out.lt k (by simpa using hk)).1)
         refine hK.out _ _ ?_ (fun hHeld => ?_)
         ·exact ⟨HBW.out _ hy15, hk15 g9 rfl (i * 3) _ HTC.out⟩
         clear hK K
         try simp only [Act.put, qgA, qgS, qg0, qsA, qs0, qsS]
         refine qtk 16 (v := ?_) rfl (by kernel_rfl) (fun _ _ _ h => h) (by rfl) (by assumption) ?_ ?_
         rotate_left
         ·(intro w9 hS9; (try dsimp only at hS9); go_split_ands; go_simp; try with_reducible rfl)
         try simp only [Act.put, qgA, qgS, qg0, qsA, qs0, qsS]
         refine wpAnyH_done (by kernel_rfl) ?_ _
         have hent : EntAt (w14.alloc (.cells #[.slice a13 (pe.1.length + 1) c13, .slice aa4 (minL (accN l vs)).length ac4, .bool (divB l vs)] 69)) (blkO F wb gs (.slice a11 (st2.length + 1) c11) (.slice (some ⟨g9, 0, none⟩) st2.length c9')) ((.slice a13 (pe.1.length + 1) c13, .slice aa4 (minL (accN l vs)).length ac4), (pe.1 ++ [ev], minL (accN l vs), divB l vs)) := by
          have hr : RowV w13 (blkO F wb gs (.slice a11 (st2.length + 1) c11) (.slice (some ⟨g9, 0, none⟩) st2.length c9')) (.slice a13 (pe.1.length + 1) c13) (pe.1 ++ [ev]).length 1 (ints (pe.1 ++ [ev])) := by
           have h1 := rowV_of_owns (F := blkO F wb gs (.slice a11 (st2.length + 1) c11) (.slice (some ⟨g9, 0, none⟩) st2.length c9')) own13 (fun k hk e => by
            have h2 := hge13 k e
            have h3 := I11.out.blt k hk
            omega)
           rw [List.length_append, ints, List.map_append]
           exact h1
          exact (entAt_of (hr.nil s14.frm) s14 (fun k hk => Nat.lt_of_lt_of_le (I11.out.blt k hk) hy13.size)).nil ((Frm.refl [] w14).alloc _)
         have I15 := (I11.out.keep (hy14.alloc (.cells #[.slice a13 (pe.1.length + 1) c13, .slice aa4 (minL (accN l vs)).length ac4, .bool (divB l vs)] 69))).ent es HES.out (fun p hp => (HEAT.out p hp).nil (hy14.alloc _)) hf15 (by rw [List.length_map]) own15 hb15 hent
         obtain ⟨st3, hst3⟩ : ∃ s, s = st2 ++ [newE (wkL l) ps pe.1 ev] := ⟨_, rfl⟩
         have h31 : st3.map (·.1) = st2.map (·.1) ++ [vs] := by
          rw [hst3, List.map_append]
          show _ ++ [aftN l ps ev] = _
          rw [HVS.out]
         have h32 : st3.map (·.2) = st2.map (·.2) ++ [(pe.1 ++ [ev], minL (accN l vs), divB l vs)] := by
          rw [hst3, List.map_append]
          show _ ++ [(pe.1 ++ [ev], minL (accN l (aftN l ps ev)), divB l (aftN l ps ev))] = _
          rw [HVS.out]
         have h33 : st3.length = st2.length + 1 := by rw [hst3]; simp
         have HL3 := Lib.hid h33
         have LP : Hid (Lp2 w2.heap.size w3 F wb gs a cap l k i (ps, pe) st evs blk0 w8 (j + 1) st3 (.slice a11 st3.length c11) (.slice a15 st3.length c15) w15) := Lib.hid (by
          rw [h33]
          refine ⟨by rw [hst3]; exact addL_last HADD.out HEV2.out hfull, by rw [hst3]; exact HLV2.out.snoc HP2.out HLEN.out, by rw [hst3, List.getElem?_append_left hil]; exact HP2.out, by omega, ?_, ?_, ?_, ?_, ?_⟩
          ·intro p hp
           rw [hst3] at hp
           rcases List.mem_append.1 hp with hp | hp
           ·exact HSO2.out p hp
           ·rw [List.mem_singleton.1 hp]
            show Closed l (aftN l ps ev) ∧ ∀ v ∈ aftN l ps ev, v < l.length
            rw [HVS.out]
            exact ⟨HVSC.out, HVSL.out⟩
          ·rw [h31, h32, h33]
           exact I15
          ·exact ((((HFR2.out.trans HF10.out (fun k hk => .inl (by have := HB0.out; simp at hk; rcases hk with rfl | rfl; exact this.1; exact this.2))).alloc _).trans HF11.out (fun k hk => HB8.out k (by simpa using hk))).trans (hy14.alloc _) (by simp)).trans hf15 (fun k hk => HB9.out k (by simpa using hk))
          ·intro b hb
           rcases HB11.out b hb with h9 | h9
           ·exact HB8.out b h9
           ·have h8 := (HFR2.out.trans HF10.out (fun k hk => .inl (by have := HB0.out; simp at hk; rcases hk with rfl | rfl; exact this.1; exact this.2))).size
            simp at h9
            exact .inr (by omega)
          ·intro b hb
           rcases hb15 b hb with h9 | h9
           ·exact HB9.out b h9
           ·have h8 := (((HFR2.out.trans HF10.out (fun k hk => .inl (by have := HB0.out; simp at hk; rcases hk with rfl | rfl; exact this.1; exact this.2))).alloc (.cells #[.slice ua vs.length uc] 22)).trans HF11.out (fun k hk => HB8.out k (by simpa using hk))).size
            have h7 := hy14.size
            simp at h9
            exact .inr (by omega))
         clear hent I15 hst3 h31 h32 h33 own13 own15 hf15 hb15 hk15 hy15 s14 hy13 hy14 hge13
         go_wp2_with fail
         go_roundg (evs.length - (j + 1))
         case rel => exact ⟨j + 1, st3, a11, a15, c11, c15, rfl, by omega, by go_num, by rw [HL3.out], by rw [HL3.out], LP.out⟩
         case measure => have := HQ2.out; omega
        ·go_simp
         refine hK.out _ _ ?_ (fun hHeld => ?_)
         ·exact KEEP.out _ ((Frm.refl [] w11).drew.alloc _)
         clear hK K
         try simp only [Act.put, qgA, qgS, qg0, qsA, qs0, qsS]
         refine wpAnyH_ready (rs := [8]) (by kernel_rfl) (by simp) ?_
         refine AllReadyH.cons rfl (fun K hK => ?_) AllReadyH.nil
         go_simp
         refine (HCL.out _ ((Frm.refl [] w11).drew.alloc (.cells #[.int .i64 ev] 3))).mono ?_
         rintro e12 w12 ⟨⟨a12, c12, rfl, own12⟩, hf12⟩
         have hy12 := ((Frm.refl [] w11).drew.alloc (.cells #[.int .i64 ev] 3)).trans hf12 (by simp)
         have hge12 : ∀ k ∈ (Value.slice a12 pe.1.length c12).ownBlock.toList, w11.heap.size ≤ k := fun k hk => Nat.le_trans ((Frm.refl [] w11).drew.alloc (.cells #[.int .i64 ev] 3)).size (own12.lt k (by simpa using hk)).1
         refine hK.out _ _ ?_ (fun hHeld => ?_)
         ·exact KEEP.out _ hy12
         clear hK K
         try simp only [Act.put, qgA, qgS, qg0, qsA, qs0, qsS]
         have hrow12 := (RowAt.made w11.drew 3 [.int .i64 ev] #[.int .i64 ev] rfl).frm hf12 (by simp)
         have own12' := ownsB_mono own12 (Nat.zero_le _)
         have hz12 := hy12
         clear own12 hf12 hy12
         refine wpAnyH_ready (rs := [11]) (by kernel_rfl) (by simp) ?_
         refine AllReadyH.cons rfl (fun K hK => ?_) AllReadyH.nil
         refine step_app_rowK rfl (.tmp 87) (.tmp 89) 22 3 _ 1 8 rfl Tryz.underlying22 infoInt rfl (by decide) 0 pe.1.length (.slice a12 pe.1.length c12) (ints pe.1) rfl own12' _ 1 [.int .i64 ev] [] rfl (rowV_cells (size := 1) hrow12 rfl (Nat.le_refl _) (by decide) (by simp)) (by simp [Value.oneCell']) (pe.1.length + 1) rfl (by omega) (by omega) (Nat.zero_le _) ?_
         intro a13 c13 w13 own13 hf13 hb13 _
         have hy13 := hz12.trans hf13 (fun k hk => .inr (hge12 k hk))
         have hge13 : ∀ k, (Value.slice a13 (pe.1.length + 1) c13).ownBlock = some k → w11.heap.size ≤ k := fun k hk => by
          rcases hb13 k hk with h9 | h9
          ·exact hge12 k (by simp [h9])
          ·have := hz12.size
           omega
         refine hK.out _ _ ?_ (fun hHeld => ?_)
         ·exact KEEP.out _ hy13
         clear hK K
         try simp only [Act.put, qgA, qgS, qg0, qsA, qs0, qsS]
         clear hrow12 own12' hz12 hf13 hb13 hge12
         refine wpAnyH_ready (rs := [13]) (by kernel_rfl) (by simp) ?_
         refine AllReadyH.cons rfl (fun K hK => ?_) AllReadyH.nil
         go_simp
         refine (HEN.out _ _ _ _ hy13).mono ?_
         rintro e14 w14 ⟨aa4, ac4, us14, rfl, s14⟩
         have hy14 := hy13.trans s14.frm (by simp)
         refine hK.out _ _ ?_ (fun hHeld => ?_)
         ·exact KEEP.out _ hy14
         clear hK K
         try simp only [Act.put, qgA, qgS, qg0, qsA, qs0, qsS]
         refine wpAnyH_ready (rs := [14]) (by kernel_rfl) (by simp) ?_
         refine AllReadyH.cons rfl (fun K hK => ?_) AllReadyH.nil
         go_simp
         refine hK.out _ _ ?_ (fun hHeld => ?_)
         ·exact KEEP.out _ (hy14.alloc _)
         clear hK K
         try simp only [Act.put, qgA, qgS, qg0, qsA, qs0, qsS]
         refine wpAnyH_ready (rs := [15]) (by kernel_rfl) (by simp) ?_
         refine AllReadyH.cons rfl (fun K hK => ?_) AllReadyH.nil
         refine step_app_rowK rfl (.tmp 79) (.tmp 93) 36 69 _ 3 56 rfl Tryz.underlying36 infoEn rfl (by decide) w3.heap.size st2.length (.slice (some ⟨g9, 0, none⟩) st2.length c9') (es.flatMap enE) rfl (ownsB_frm HO9.out (hy14.alloc (.cells #[.slice a13 (pe.1.length + 1) c13, .slice aa4 (minL (accN l vs)).length ac4, .bool (divB l vs)] 69)) (by simp)) _ 1 [.slice a13 (pe.1.length + 1) c13, .slice aa4 (minL (accN l vs)).length ac4, .bool (divB l vs)] [] rfl (rowV_cells (size := 3) (RowAt.made w14 69 [.slice a13 (pe.1.length + 1) c13, .slice aa4 (minL (accN l vs)).length ac4, .bool (divB l vs)] #[.slice a13 (pe.1.length + 1) c13, .slice aa4 (minL (accN l vs)).length ac4, .bool (divB l vs)] rfl) rfl (Nat.le_refl _) (by decide) (by simp)) (by simp [Value.oneCell']) (st2.length + 1) rfl (by omega) (by omega) (by have := HSZ11.out; have := hy14.size; simp; omega) ?_
         intro a15 c15 w15 own15 hf15 hb15 hk15
         have hy15 := (I11.out.frm.trans (hy14.alloc (.cells #[.slice a13 (pe.1.length + 1) c13, .slice aa4 (minL (accN l vs)).length ac4, .bool (divB l vs)] 69)) (by simp)).trans hf15 (fun k hk => .inr (HO9.out.lt k (by simpa using hk)).1)
         refine hK.out _ _ ?_ (fun hHeld => ?_)
         ·exact ⟨HBW.out _ hy15, hk15 g9 rfl (i * 3) _ HTC.out⟩
         clear hK K
         try simp only [Act.put, qgA, qgS, qg0, qsA, qs0, qsS]
         refine qtk 16 (v := ?_) rfl (by kernel_rfl) (fun _ _ _ h => h) (by rfl) (by assumption) ?_ ?_
         rotate_left
         ·(intro w9 hS9; (try dsimp only at hS9); go_split_ands; go_simp; try with_reducible rfl)
         try simp only [Act.put, qgA, qgS, qg0, qsA, qs0, qsS]
         refine wpAnyH_done (by kernel_rfl) ?_ _
         have hent : EntAt (w14.alloc (.cells #[.slice a13 (pe.1.length + 1) c13, .slice aa4 (minL (accN l vs)).length ac4, .bool (divB l vs)] 69)) (blkO F wb gs (.slice a11 (st2.length + 1) c11) (.slice (some ⟨g9, 0, none⟩) st2.length c9')) ((.slice a13 (pe.1.length + 1) c13, .slice aa4 (minL (accN l vs)).length ac4), (pe.1 ++ [ev], minL (accN l vs), divB l vs)) := by
          have hr : RowV w13 (blkO F wb gs (.slice a11 (st2.length + 1) c11) (.slice (some ⟨g9, 0, none⟩) st2.length c9')) (.slice a13 (pe.1.length + 1) c13) (pe.1 ++ [ev]).length 1 (ints (pe.1 ++ [ev])) := by
           have h1 := rowV_of_owns (F := blkO F wb gs (.slice a11 (st2.length + 1) c11) (.slice (some ⟨g9, 0, none⟩) st2.length c9')) own13 (fun k hk e => by
            have h2 := hge13 k e
            have h3 := I11.out.blt k hk
            omega)
           rw [List.length_append, ints, List.map_append]
           exact h1
          exact (entAt_of (hr.nil s14.frm) s14 (fun k hk => Nat.lt_of_lt_of_le (I11.out.blt k hk) hy13.size)).nil ((Frm.refl [] w14).alloc _)
         have I15 := (I11.out.keep (hy14.alloc (.cells #[.slice a13 (pe.1.length + 1) c13, .slice aa4 (minL (accN l vs)).length ac4, .bool (divB l vs)] 69))).ent es HES.out (fun p hp => (HEAT.out p hp).nil (hy14.alloc _)) hf15 (by rw [List.length_map]) own15 hb15 hent
         obtain ⟨st3, hst3⟩ : ∃ s, s = st2 ++ [newE (wkL l) ps pe.1 ev] := ⟨_, rfl⟩
         have h31 : st3.map (·.1) = st2.map (·.1) ++ [vs] := by
          rw [hst3, List.map_append]
          show _ ++ [aftN l ps ev] = _
          rw [HVS.out]
         have h32 : st3.map (·.2) = st2.map (·.2) ++ [(pe.1 ++ [ev], minL (accN l vs), divB l vs)] := by
          rw [hst3, List.map_append]
          show _ ++ [(pe.1 ++ [ev], minL (accN l (aftN l ps ev)), divB l (aftN l ps ev))] = _
          rw [HVS.out]
         have h33 : st3.length = st2.length + 1 := by rw [hst3]; simp
         have HL3 := Lib.hid h33
         have LP : Hid (Lp2 w2.heap.size w3 F wb gs a cap l k i (ps, pe) st evs blk0 w8 (j + 1) st3 (.slice a11 st3.length c11) (.slice a15 st3.length c15) w15) := Lib.hid (by
          rw [h33]
          refine ⟨by rw [hst3]; exact addL_last HADD.out HEV2.out hfull, by rw [hst3]; exact HLV2.out.snoc HP2.out HLEN.out, by rw [hst3, List.getElem?_append_left hil]; exact HP2.out, by omega, ?_, ?_, ?_, ?_, ?_⟩
          ·intro p hp
           rw [hst3] at hp
           rcases List.mem_append.1 hp with hp | hp
           ·exact HSO2.out p hp
           ·rw [List.mem_singleton.1 hp]
            show Closed l (aftN l ps ev) ∧ ∀ v ∈ aftN l ps ev, v < l.length
            rw [HVS.out]
            exact ⟨HVSC.out, HVSL.out⟩
          ·rw [h31, h32, h33]
           exact I15
          ·exact ((((HFR2.out.trans HF10.out (fun k hk => .inl (by have := HB0.out; simp at hk; rcases hk with rfl | rfl; exact this.1; exact this.2))).alloc _).trans HF11.out (fun k hk => HB8.out k (by simpa using hk))).trans (hy14.alloc _) (by simp)).trans hf15 (fun k hk => HB9.out k (by simpa using hk))
          ·intro b hb
           rcases HB11.out b hb with h9 | h9
           ·exact HB8.out b h9
           ·have h8 := (HFR2.out.trans HF10.out (fun k hk => .inl (by have := HB0.out; simp at hk; rcases hk with rfl | rfl; exact this.1; exact this.2))).size
            simp at h9
            exact .inr (by omega)
          ·intro b hb
           rcases hb15 b hb with h9 | h9
           ·exact HB9.out b h9
           ·have h8 := (((HFR2.out.trans HF10.out (fun k hk => .inl (by have := HB0.out; simp at hk; rcases hk with rfl | rfl; exact this.1; exact this.2))).alloc (.cells #[.slice ua vs.length uc] 22)).trans HF11.out (fun k hk => HB8.out k (by simpa using hk))).size
            have h7 := hy14.size
            simp at h9
            exact .inr (by omega))
         clear hent I15 hst3 h31 h32 h33 own13 own15 hf15 hb15 hk15 hy15 s14 hy13 hy14 hge13
         go_wp2_with fail
         go_roundg (evs.length - (j + 1))
         case rel => exact ⟨j + 1, st3, a11, a15, c11, c15, rfl, by omega, by go_num, by rw [HL3.out], by rw [HL3.out], LP.out⟩
         case measure => have := HQ2.out; omega
      ·have j5 : ¬ (j : Int) < (evs.length : Int) := by omega
       have hall : addL (wkL l) ps pe.1 (evN l ps) st = some st2 := by
        have := HADD.out
        rw [List.take_of_length_le (by omega), HEVS.out] at this
        exact this
       have HR : Hid (Lp1 w2.heap.size w3 F wb gs a cap l k (i + 1) st2 (.slice a8 st2.length c8') (.slice a9 st2.length c9') wr) := Lib.hid ⟨by have := (List.getElem?_eq_some_iff.1 HP2.out).1; omega, hst2, HLV2.out.next, by
        rw [← HRES.out, show 16385 - i = (16385 - (i + 1)) + 1 by omega, of_step HP.out HLEN.out]
        show _ = (addL (wkL l) ps pe.1 (evN l ps) st).bind _
        rw [hall]; rfl, HSO2.out, I2.out⟩
       clear hall
       go_wp2_with fail
       go_roundg (16385 - (i + 1))
       case rel => exact ⟨i + 1, st2, a8, a9, c8', c9', rfl, by go_num, rfl, rfl, HR.out⟩
       case measure => have := HQ.out; omega
   ·have i5 : ¬ (i : Int) < (st.length : Int) := by omega
    have HR : Hid (ofL l k = some st) := Lib.hid (by rw [← HRES.out]; exact of_end (by omega))
    go_wp2_with fail
    go_ret2
    refine HEND.out _ _ (HFW.out _ I.out.frm) ?_
    rw [HR.out]
    exact ⟨_, _, rfl, I.out.beh⟩
 ·have HR : Hid (∀ e w', Frm [] w w' → e = .returned (.tuple #[.slice none 0 0, .int .i64 1]) → OfEnd w F l n e w') := Lib.hid fun e w' hf he => ⟨hf, by rw [if_neg hgood]; exact he⟩
  cases hv : validB l with
  | false =>
   rw [hv] at hva
   have HVA := Lib.hid hva
   clear hv hva hgood
   go_enter Tryz.func30, Tryz.ntmps30
   go_wp2_with (first | (go_at_call 54; refine HVA.out.mono ?_; rintro e1 w1 ⟨rfl, hf1⟩; have F1 := Lib.hid (HF0.out.trans hf1 (by simp)); clear hf1) | fail)
   go_ret2
   exact HR.out _ _ F1.out rfl
  | true =>
   rw [hv] at hva
   have HVA := Lib.hid hva
   by_cases hn : n < 0
   ·clear hv hva hgood
    go_enter Tryz.func30, Tryz.ntmps30
    go_wp2_with (first | (go_at_call 54; refine HVA.out.mono ?_; rintro e1 w1 ⟨rfl, hf1⟩; have F1 := Lib.hid (HF0.out.trans hf1 (by simp)); clear hf1) | fail)
    go_ret2
    exact HR.out _ _ F1.out rfl
   ·have hn2 : 24 < n := by
     by_cases h9 : 24 < n
     ·exact h9
     ·exact absurd ⟨hv, by omega, by omega⟩ hgood
    clear hv hva hgood
    go_enter Tryz.func30, Tryz.ntmps30
    go_wp2_with (first | (go_at_call 54; refine HVA.out.mono ?_; rintro e1 w1 ⟨rfl, hf1⟩; have F1 := Lib.hid (HF0.out.trans hf1 (by simp)); clear hf1) | fail)
    go_ret2
    exact HR.out _ _ F1.out rfl
end Go.Proofs.YtikpcipkkhmcfaaGreat.Beh

/- Contract of Distances of the reference: the walk. -/
namespace Go.Proofs.YtikpcipkkhmcfaaGreat
open Go.RowKit

theorem rrow_any (B0 : Nat) (a : Option Addr) (cap : Nat) (l : Lts) (fa : Option Addr) (fc : Nat) (fr : List Nat) (silent : Bool) (w : World) (h : LAt B0 w a cap l) (hv : validB l = true) {B : Nat} (hown : w.ownsRow B 3 1 (.slice fa fr.length fc) fr.length (ints (natI fr))) (hlt : ∀ v ∈ fr, v < l.length) (hfl : fr.length ≤ 100000) :
  Calls Tryz.prog 43 #[.agg #[.slice a l.length cap], .slice fa fr.length fc, .bool silent] w fun e w' => WReachEnd w.heap.size (Esel l silent) fr w' e ∧ Frm [] w w' := by
 have hall : (natI fr).all (inB l.length) = true := List.all_eq_true.2 (fun x hx => by
  obtain ⟨v, hv, rfl⟩ := List.mem_map.1 hx
  exact (inB_iff _ _).2 ⟨by omega, by have := hlt v hv; omega⟩)
 have := rreach_any B0 a cap l fa fc (natI fr) silent w h (by rw [natI_len]; exact rd_of_owns hown (Nat.le_refl _)) (own_nilcap hown) (by rw [natI_len]; exact hfl)
 rw [natI_len] at this
 refine this.mono ?_
 rintro e w' ⟨h1, hf⟩
 rw [ReachEnd, if_pos ⟨hv, hall⟩] at h1
 obtain ⟨a', c, vs, he, ho, hr⟩ := h1
 refine ⟨⟨a', c, vs, he, ho, ?_⟩, hf⟩
 have hmap : (natI fr).map Int.toNat = fr := by
  rw [natI, List.map_map]
  refine (List.map_congr_left (fun x _ => ?_)).trans (List.map_id fr)
  simp
 rw [hmap] at hr
 exact hr

end Go.Proofs.YtikpcipkkhmcfaaGreat
