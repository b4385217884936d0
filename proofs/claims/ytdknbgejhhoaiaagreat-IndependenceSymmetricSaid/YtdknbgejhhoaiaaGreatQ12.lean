/- Texts K6, U2, K7. -/
import Derived.Test.YtdknbgejhhoaiaaGreatQ07
import Derived.Test.YtdknbgejhhoaiaaGreatQ10
import Derived.Test.YtdknbgejhhoaiaaGreatQ11
import Derived.Maps.OwnOps
import Derived.Maps.OwnSet
import Derived.Test.YtdknbgejhhoaiaaGreatQ00
import Derived.Test.YtdknbgejhhoaiaaGreatQ04
import Derived.Laws.IdiomStrings
/- Contract of normState. -/
namespace Go.Proofs.YtdknbgejhhoaiaaGreat.Ind
open Go.Shelf
open Go.RowKit Go.Maps

def kvOf (l : List (Value × RA)) : List ((Int × Int) × Value) := l.map fun p => (keyA p.2, arcV p.1 p.2)
theorem kv_none {l : List (Value × RA)} {k : Int × Int} : getA (kvOf l) k = none ↔ ∀ p ∈ l, keyA p.2 ≠ k := by
  rw [getA_none]
  constructor
  · exact fun h p hp => h (keyA p.2, arcV p.1 p.2) (List.mem_map.2 ⟨p, hp, rfl⟩)
  · intro h p hp
    obtain ⟨q, hq, rfl⟩ := List.mem_map.1 hp
    exact h q hq
theorem kv_some {l : List (Value × RA)} {k : Int × Int} {v : Value} (h : getA (kvOf l) k = some v) : ∃ p ∈ l, keyA p.2 = k ∧ v = arcV p.1 p.2 := by
  obtain ⟨p, hp, e⟩ := List.mem_map.1 (getA_some h)
  simp at e
  exact ⟨p, hp, e.1, e.2.symm⟩
theorem hasB_iff {xs : List Int} {x : Int} : hasB xs x = true ↔ x ∈ xs := by
  simp [hasB]
def zA : Value := .agg #[.int .i64 0, .int .i64 0, .int .i64 0, .int .i64 0, .slice none 0 0, .int .i64 0]
theorem zero_arc (w : World) : (zeroValue 47).run Tryz.prog w = .ok zA w := Tryz.zeroValue47 w
/-- What holds at the head of the first loop. -/
def NS1 (F : List Nat) (w wr : World) (b : Nat) (row : List RA) (k : Nat) (l : List (Value × RA)) : Prop :=
  l.map (·.2) = row.take k ∧ N1 (row.take k) ∧ KM useV wr b (kvOf l) ∧ (∀ p ∈ l, NotAt w F p.1 p.2) ∧ Frm [] w wr
def KeyP (row : List RA) (l : List (Value × RA)) (e : (Int × Int) × Value) : Prop := ∀ p ∈ l, keyA p.2 = e.1 → OutOk row p.2
theorem take_snoc {α : Type} {l : List α} {k : Nat} {x : α} (h : l[k]? = some x) : l.take (k + 1) = l.take k ++ [x] := by
  rw [List.take_add_one, h]; rfl

set_option maxRecDepth 100000 in
set_option maxHeartbeats 4000000 in
set_option linter.unusedSimpArgs false in
theorem normState_any {F : List Nat} (w : World) (v : Value) (row : List RA) (h : ArcsAt w F v row) :
    Calls Tryz.prog 99 #[v] w fun e w' => e = .returned (.bool (decide (NormP row))) ∧ Frm [] w w' := by
  obtain ⟨a, cap, rfl, l1⟩ := h.shape
  have H := Lib.hid h
  clear h
  obtain ⟨R, hR⟩ : ∃ R, decide (NormP row) = R := ⟨_, rfl⟩
  rw [hR]
  have HR := Lib.hid hR
  clear hR
  have hmm := @run_makeMap Tryz.prog
  go_enter Tryz.func99, Tryz.ntmps99
  go_wp2_with fail
  obtain ⟨b, hb⟩ : ∃ b, b = w.heap.size := ⟨_, rfl⟩
  have HB := Lib.hid hb
  have hkm := KM.fresh (ke := useV) w
  rw [← hb] at hkm ⊢
  have HKM := Lib.hid hkm
  clear hb hkm
  go_loopg [16] row.length (fun q i wr => ∃ (k : Nat) (l : List (Value × RA)), q = row.length - k ∧ k ≤ row.length ∧ i = .int .i64 k ∧ NS1 F w wr b row k l)
  case atStart => exact ⟨0, [], rfl, Nat.zero_le _, rfl, rfl, ⟨by simp, by simp⟩, HKM.out, by simp, (Frm.refl [] w).alloc _⟩
  case round =>
    obtain ⟨k, l, rfl, hk, rfl, hm, hn1, hkm, hno, hF⟩ := hrel
    have HF := Lib.hid hF
    have HK := Lib.hid hkm
    have HN := Lib.hid hno
    have i4 : (0 : Int) ≤ (k : Int) := by omega
    clear hF hkm hno HKM
    by_cases hlt : k < row.length
    · have i5 : (k : Int) < (row.length : Int) := by omega
      obtain ⟨y, hy⟩ : ∃ y, row[k]? = some y := ⟨_, List.getElem?_eq_getElem hlt⟩
      obtain ⟨b9, o, na, nc, rfl, _, _, c0, c1, c2, c3, c4, c5, hn⟩ := H.out.at_ hy
      have d0 := HF.out.cell c0 (by simp)
      have d1 := HF.out.cell c1 (by simp)
      have d2 := HF.out.cell c2 (by simp)
      have d3 := HF.out.cell c3 (by simp)
      have d4 := HF.out.cell c4 (by simp)
      have d5 := HF.out.cell c5 (by simp)
      have HNY := Lib.hid hn
      have hts := take_snoc hy
      have hnp : ¬ N1 (row.take (k + 1)) → Hid (R = false) := fun h9 => Lib.hid (by
        rw [← HR.out]
        exact decide_eq_false fun hp => h9 (n1_pre (norm_two.1 hp).1))
      clear c0 c1 c2 c3 c4 c5 hn hy
      cases hga : getA (kvOf l) (y.kind, y.ch) with
      | some u =>
        obtain ⟨p, hp, hpk, rfl⟩ := kv_some hga
        have HX := hnp (by
          rw [hts, n1_snoc]
          rintro ⟨_, _, h9⟩
          have hm9 : p.2 ∈ row.take k := by rw [← hm]; exact List.mem_map.2 ⟨p, hp, rfl⟩
          simp only [keyA, Prod.mk.injEq] at hpk
          exact h9 p.2 hm9 hpk)
        obtain ⟨pa, pc, ep⟩ := RowV.shape (HN.out p hp)
        rw [ep] at hga
        have HG := Lib.hid hga
        clear hm hn1 hts hnp hga hp hpk hlt hk ep
        go_wp2_with (first | (at_lookup; refine wpl_klook keyUse rfl _ _ _ rfl Tryz.underlying152 (zero_arc _) b (kvOf l) rfl (HK.out.frm (((Frm.refl [] wr).alloc _).alloc _) (by simp)) (y.kind, y.ch) rfl ?_; rw [HG.out]; unfold arcV) | fail)
        go_ret
        exact ⟨by rw [HX.out]; rfl, by
          refine HF.out.trans ?_ (fq := []) (by simp)
          repeat' (first | exact Frm.refl _ _ | refine Frm.alloc ?_ _ | (refine Frm.setCell ?_ (.inr (by simp)) _) | (refine Frm.setCell ?_ (.inr (by simp; omega)) _))⟩
      | none =>
        have HG := Lib.hid hga
        by_cases hkind : KindOk y
        · have hn1' : N1 (row.take (k + 1)) := by
            rw [hts, n1_snoc]
            refine ⟨hn1, hkind, fun c hc he => ?_⟩
            rw [← hm] at hc
            obtain ⟨p, hp, rfl⟩ := List.mem_map.1 hc
            exact kv_none.1 hga p hp (by simp only [keyA, he.1, he.2])
          have HN1 := Lib.hid hn1'
          have HM : Hid ((l ++ [(Value.slice na y.not.length nc, y)]).map (·.2) = row.take (k + 1)) := Lib.hid (by rw [List.map_append, hm, hts]; rfl)
          have k1 : ¬ y.kind = 1 := hkind.1
          have k6 : ¬ y.kind = 6 := hkind.2.1
          have k7 : ¬ y.kind = 7 := hkind.2.2
          have j1 : (y.kind == 1) = false := by simpa using k1
          have j6 : (y.kind == 6) = false := by simpa using k6
          have j7 : (y.kind == 7) = false := by simpa using k7
          clear hm hn1 hts hnp hga hn1' hkind
          go_wp2_with (first | (at_lookup; refine wpl_klook keyUse rfl _ _ _ rfl Tryz.underlying152 (zero_arc _) b (kvOf l) rfl (HK.out.frm (((Frm.refl [] wr).alloc _).alloc _) (by simp)) (y.kind, y.ch) rfl ?_; rw [HG.out]; unfold zA) | (at_mapUpdate; refine wpl_kput keyUse rfl _ _ _ _ rfl Tryz.underlying152 b (kvOf l) rfl (HK.out.frm ((((Frm.refl [] wr).alloc _).alloc _).alloc _) (by simp)) (y.kind, y.ch) rfl (arcV (.slice na y.not.length nc) y) rfl HG.out ?_) | fail)
          intro w5 hk5 hf5 hs5
          have F5 : Frm [] w w5 := by
            refine HF.out.trans (fq := [b]) ?_ (by simp [HB.out])
            refine Frm.trans (fp := [b]) ?_ hf5 (by simp)
            exact (((Frm.refl _ wr).alloc _).alloc _).alloc _
          have G5 : Frm [b] wr w5 := by
            refine Frm.trans (fp := [b]) ?_ hf5 (by simp)
            exact (((Frm.refl _ wr).alloc _).alloc _).alloc _
          have HK5 := Lib.hid hk5
          have HF5 := Lib.hid F5
          have HG5 := Lib.hid G5
          clear hk5 hf5 hs5 F5 G5
          go_wp2_with fail
          go_roundg (row.length - (k + 1))
          case rel =>
            refine ⟨k + 1, l ++ [(.slice na y.not.length nc, y)], rfl, by omega, by go_num, HM.out, HN1.out, ?_, ?_, HF5.out⟩
            · have := HK5.out
              rw [kvOf, List.map_append]
              exact this
            · intro p hp
              rcases List.mem_append.1 hp with hp | hp
              · exact HN.out p hp
              · rw [List.mem_singleton.1 hp]; exact HNY.out
          case measure => omega
        · have HX := hnp (by
            rw [hts, n1_snoc]
            exact fun h9 => hkind h9.2.1)
          have hk3 : y.kind = 1 ∨ y.kind = 6 ∨ y.kind = 7 := by unfold KindOk at hkind; omega
          clear hm hn1 hts hnp hga hkind hlt hk HNY HN
          generalize y.kind = K at *
          rcases hk3 with rfl | rfl | rfl
          all_goals
            go_wp2_with (first | (at_lookup; refine wpl_klook keyUse rfl _ _ _ rfl Tryz.underlying152 (zero_arc _) b (kvOf l) rfl (HK.out.frm (((Frm.refl [] wr).alloc _).alloc _) (by simp)) (_, y.ch) rfl ?_; rw [HG.out]; unfold zA) | fail)
            go_ret
            exact ⟨by rw [HX.out]; rfl, by
              refine HF.out.trans ?_ (fq := []) (by simp)
              repeat' (first | exact Frm.refl _ _ | refine Frm.alloc ?_ _ | (refine Frm.setCell ?_ (.inr (by simp)) _) | (refine Frm.setCell ?_ (.inr (by simp; omega)) _))⟩
    · have i5 : ¬ (k : Int) < (row.length : Int) := by omega
      have hk2 : k = row.length := by omega
      subst hk2
      rw [List.take_length] at hm hn1
      have HM := Lib.hid hm
      have HN1 := Lib.hid hn1
      clear hm hn1 hlt hk
      go_wp2_with (first | (at_range; refine wpl_krange (KeyP row l) rfl _ _ rfl Tryz.underlying152 b (kvOf l) rfl HK.out ?_; intro w1 hr1 hf1 hs1) | fail)
      have HR1 := Lib.hid hr1
      have HF1 := Lib.hid (HF.out.trans hf1 (by simp))
      have hwr := HF.out.size
      obtain ⟨r, hr⟩ : ∃ r, r = wr.heap.size := ⟨_, rfl⟩
      have HRW : Hid (w.heap.size ≤ r) := Lib.hid (by omega)
      rw [← hr] at HR1 ⊢
      clear hr1 hf1 hs1 hr hwr HK HF
      go_loopg [53] (kvOf l).length (fun q s wr => ∃ (cnt : Nat), cnt = q ∧ KRng useV wr b r (kvOf l) (KeyP row l) cnt ∧ Frm [] w wr)
      case atStart => exact ⟨_, rfl, HR1.out, HF1.out⟩
      case round =>
        obtain ⟨cnt, rfl, hrg, hfr⟩ := hrel
        have HRG := Lib.hid hrg
        have HFR := Lib.hid hfr
        clear hrg hfr HR1 HF1
        go_wp2_with (first | (at_next; refine wpl_knext2 rfl _ rfl b r (kvOf l) _ cnt rfl HRG.out ?_ ?_) | fail)
        · intro hc0 hl0
          have HX : Hid (R = true) := Lib.hid (by
            rw [← HR.out]
            refine decide_eq_true (norm_two.2 ⟨HN1.out, fun a ha => ?_⟩)
            rw [← HM.out] at ha
            obtain ⟨p, hp, rfl⟩ := List.mem_map.1 ha
            exact hl0 (keyA p.2, arcV p.1 p.2) (List.mem_map.2 ⟨p, hp, rfl⟩) p hp rfl)
          clear hl0
          go_wp2_with fail
          go_ret
          exact ⟨by rw [HX.out]; rfl, HFR.out⟩
        · intro ek ec ev w2 cnt2 hst
          obtain ⟨hmem, hrg2, hkm2, hlt, hf2, hs2, hen⟩ := hst
          obtain ⟨p, hp, he⟩ := List.mem_map.1 hmem
          simp only [keyA, Prod.mk.injEq] at he
          obtain ⟨⟨rfl, rfl⟩, rfl⟩ := he
          have HFW : Hid (Frm [] w w2) := Lib.hid (HFR.out.trans hf2 (fun x hx => .inr (by rw [List.mem_singleton] at hx; rw [hx]; exact HRW.out)))
          have hnp := HN.out p hp
          obtain ⟨pa, pc, ep⟩ := RowV.shape hnp
          obtain ⟨pv, y⟩ := p
          simp only at ep hnp hp
          subst ep
          have hro : y ∈ row := by rw [← HM.out]; exact List.mem_map.2 ⟨_, hp, rfl⟩
          have hkey : ∀ (z : RA), OutOk row z → (∀ q ∈ l, keyA q.2 = keyA y → q.2 = z) → ∀ q ∈ l, keyA q.2 = keyA y → OutOk row q.2 := fun z hz h9 q hq hk => by rw [h9 q hq hk]; exact hz
          have huniq : ∀ q ∈ l, keyA q.2 = keyA y → q.2 = y := fun q hq hk => by
            simp only [keyA, Prod.mk.injEq] at hk
            exact n1_key HN1.out (by rw [← HM.out]; exact List.mem_map.2 ⟨q, hq, rfl⟩) hro hk.1 hk.2
          have hout : OutOk row y → KRng useV w2 b r (kvOf l) (KeyP row l) cnt2 := fun ho => hrg2 _ (fun _ _ h9 => h9) (fun q hq hk => by rw [huniq q hq hk]; exact ho)
          have HOUT := Lib.hid hout
          have HKM2 := Lib.hid hkm2
          
          clear hmem hrg2 hkm2 hf2 hs2 hkey huniq hout HRG
          unfold arcV at hen
          unfold useV at hen
          by_cases h5 : y.kind = 5
          · have j5 : (y.kind == 5) = true := by simpa using h5
            have HFX : Hid (Frm [] w ((w2.alloc (.cells #[.int .i64 y.kind, .int .i64 y.ch] 154)).alloc (.cells #[.int .i64 y.kind, .int .i64 y.ch, .int .i64 y.reg, .int .i64 y.frm, .slice pa y.not.length pc, .int .i64 y.to] 47))) := Lib.hid ((HFW.out.alloc _).alloc _)
            cases hga : getA (kvOf l) (4, y.ch) with
            | none =>
              have HO := Lib.hid (HOUT.out (fun _ z hz h4 hc => by
                rw [← HM.out] at hz
                obtain ⟨q, hq, rfl⟩ := List.mem_map.1 hz
                exact absurd (by simp only [keyA, h4, hc]) (kv_none.1 hga q hq)))
              have HG := Lib.hid hga
              clear hga h5
              go_wp2_with (first | (at_lookup; refine wpl_klook keyUse rfl _ _ _ rfl Tryz.underlying152 (zero_arc _) b (kvOf l) rfl (HKM2.out.frm (((Frm.refl [] w2).alloc _).alloc _) (by simp)) (4, y.ch) rfl ?_; rw [HG.out]; unfold zA) | fail)
              go_roundg cnt2
              case rel => exact ⟨cnt2, rfl, HO.out.frm (w := w2) (fp := []) (by
                repeat' (first | exact Frm.refl _ _ | refine Frm.alloc ?_ _ | (refine Frm.setCell ?_ (.inr (by simp)) _) | (refine Frm.setCell ?_ (.inr (by simp; omega)) _))) (by simp) (by simp), by
                refine HFW.out.trans (fq := []) ?_ (by simp)
                repeat' (first | exact Frm.refl _ _ | refine Frm.alloc ?_ _ | (refine Frm.setCell ?_ (.inr (by simp)) _) | (refine Frm.setCell ?_ (.inr (by simp; omega)) _))⟩
              case measure => omega
            | some u =>
              obtain ⟨q, hq, hqk, rfl⟩ := kv_some hga
              have hnq := HN.out q hq
              obtain ⟨qa, qc, eq⟩ := RowV.shape hnq
              obtain ⟨qv, z⟩ := q
              simp only at eq hnq hq hqk hga
              subst eq
              simp only [keyA, Prod.mk.injEq] at hqk
              have hzr : z ∈ row := by rw [← HM.out]; exact List.mem_map.2 ⟨_, hq, rfl⟩
              have hok : y.reg ∈ z.not → OutOk row y := fun h9 _ c hc h4 hcc => by
                rw [n1_key HN1.out hc hzr (h4.trans hqk.1.symm) (hcc.trans hqk.2.symm)]
                exact h9
              have hbad : ¬ y.reg ∈ z.not → Hid (R = false) := fun h9 => Lib.hid (by
                rw [← HR.out]
                refine decide_eq_false fun hp => h9 ((norm_two.1 hp).2 y hro h5 z hzr hqk.1 hqk.2))
              have HG := Lib.hid hga
              have HNQ := Lib.hid hnq
              have hb9 := hasB_iff (xs := z.not) (x := y.reg)
              cases hh : hasB z.not y.reg with
              | true =>
                have HO := Lib.hid (HOUT.out (hok (hb9.1 hh)))
                have HH := Lib.hid hh
                clear hga h5 hok hbad hb9 hh hnq hqk hzr hq
                go_wp2_with (first | (at_lookup; refine wpl_klook keyUse rfl _ _ _ rfl Tryz.underlying152 (zero_arc _) b (kvOf l) rfl (HKM2.out.frm (((Frm.refl [] w2).alloc _).alloc _) (by simp)) (4, y.ch) rfl ?_; rw [HG.out]; unfold arcV) | fail)
                refine (contains_any _ qa qc z.not y.reg _ (HNQ.out.nil (HFW.out.trans (fq := []) (by (repeat' (first | exact Frm.refl _ _ | refine Frm.alloc ?_ _ | (refine Frm.setCell ?_ (.inr (by simp)) _) | (refine Frm.setCell ?_ (.inr (by simp; omega)) _)))) (by simp))).rd).mono ?_
                rintro e7 w7 ⟨rfl, hf7⟩
                have HF7 := Lib.hid (Frm.trans (fp := []) (a := w2) (by (repeat' (first | exact Frm.refl _ _ | refine Frm.alloc ?_ _ | (refine Frm.setCell ?_ (.inr (by simp)) _) | (refine Frm.setCell ?_ (.inr (by simp; omega)) _)))) hf7 (by simp))
                clear hf7
                rw [HH.out]
                go_wp2_with fail
                go_roundg cnt2
                case rel => exact ⟨cnt2, rfl, HO.out.frm HF7.out (by simp) (by simp), HFW.out.trans HF7.out (by simp)⟩
                case measure => omega
              | false =>
                have HX := hbad (fun h9 => by rw [hb9.2 h9] at hh; cases hh)
                have HH := Lib.hid hh
                clear hga h5 hok hbad hb9 hh hnq hqk hzr hq
                go_wp2_with (first | (at_lookup; refine wpl_klook keyUse rfl _ _ _ rfl Tryz.underlying152 (zero_arc _) b (kvOf l) rfl (HKM2.out.frm (((Frm.refl [] w2).alloc _).alloc _) (by simp)) (4, y.ch) rfl ?_; rw [HG.out]; unfold arcV) | fail)
                refine (contains_any _ qa qc z.not y.reg _ (HNQ.out.nil (HFW.out.trans (fq := []) (by (repeat' (first | exact Frm.refl _ _ | refine Frm.alloc ?_ _ | (refine Frm.setCell ?_ (.inr (by simp)) _) | (refine Frm.setCell ?_ (.inr (by simp; omega)) _)))) (by simp))).rd).mono ?_
                rintro e7 w7 ⟨rfl, hf7⟩
                have HF7 := Lib.hid (Frm.trans (fp := []) (a := w2) (by (repeat' (first | exact Frm.refl _ _ | refine Frm.alloc ?_ _ | (refine Frm.setCell ?_ (.inr (by simp)) _) | (refine Frm.setCell ?_ (.inr (by simp; omega)) _)))) hf7 (by simp))
                clear hf7
                rw [HH.out]
                go_wp2_with fail
                go_ret
                exact ⟨by rw [HX.out]; rfl, HFW.out.trans HF7.out (by simp)⟩
          · have HO := Lib.hid (HOUT.out (fun h9 => absurd h9 h5))
            have j5 : (y.kind == 5) = false := by simpa using h5
            go_wp2_with fail
            go_roundg cnt2
            case rel => exact ⟨cnt2, rfl, HO.out.frm (((Frm.refl [] w2).alloc _).alloc _) (by simp) (by simp), (HFW.out.alloc _).alloc _⟩
            case measure => omega

end Go.Proofs.YtdknbgejhhoaiaaGreat.Ind

/- Contract of flow.Key. -/
namespace Go.Proofs.YtdknbgejhhoaiaaGreat.Beh
open Go.RowKit Go.Lib Go.Proofs.YtdknbgejhhoaiaaGreat

theorem infoU8 : (Tryz.prog.info? 5).map (fun i => (i.zero, i.size, i.bytes)) = some (some (.int .u8 0), 1, 1) := by kernel_rfl
def u8s (l : List Nat) : List Value := l.map fun (b : Nat) => Value.int .u8 (b : Int)
theorem u8s_one (l : List Nat) : ∀ u ∈ u8s l, u.oneCell' = true := by
  intro u hu
  obtain ⟨b, _, rfl⟩ := List.mem_map.1 hu
  rfl

theorem kb_vals {x : Int} (h : 0 ≤ x ∧ x < 2147483648) : u8s (kb x) = [.int .u8 (x / 16777216), .int .u8 (x / 65536 % 256), .int .u8 (x / 256 % 256), .int .u8 (x % 256)] := by
  simp only [u8s, kb, List.map_cons, List.map_nil, List.cons.injEq, Value.int.injEq, true_and, and_true]
  omega
theorem u8s_app (a b : List Nat) : u8s (a ++ b) = u8s a ++ u8s b := by simp [u8s]
theorem key_cells {w : World} {g cap n : Nat} {l : List Int} (h : (ownC 5 1 (.slice (some ⟨g, 0, none⟩) n cap) n (u8s (keyL l))).P w) :
    ∀ j (hj : j < ((keyL l).map UInt8.ofNat).length), w.cell? ((⟨g, 0, none⟩ : Addr).add j) = some (.int .u8 ((((keyL l).map UInt8.ofNat)[j]).toNat : Int)) := by
  intro j hj
  rw [Addr.add_lit, Nat.zero_add]
  rw [List.length_map] at hj
  refine ownC_cell h ?_
  have hlt := keyL_lt l ((keyL l)[j]) (List.getElem_mem hj)
  have e1 : (UInt8.ofNat ((keyL l)[j])).toNat = (keyL l)[j] := by simp; omega
  rw [List.getElem_map, e1, u8s, List.getElem?_map, List.getElem?_eq_getElem hj]
  rfl
set_option linter.unusedSimpArgs false in
set_option maxRecDepth 100000 in
set_option maxHeartbeats 4000000 in
theorem key_any {F : List Nat} (w : World) (v : Value) (l : List Int) (h : RowV w F v l.length 1 (ints l)) (hs : Small l) (hl : l.length ≤ 100000) :
    Calls Tryz.prog 108 #[v] w fun e w' => e = .returned (.string (keyS l)) ∧ Frm [] w w' := by
  obtain ⟨a, c, rfl⟩ := RowV.shape h
  obtain ⟨i0, hi, hz0, hz1, hz2⟩ := info_parts infoU8
  have HI := Lib.hid hi
  have HZ0 := Lib.hid hz0
  have HZ1 := Lib.hid hz1
  have HZ2 := Lib.hid hz2
  have i1 : (l.length : Int) ≤ 100000 := by omega
  have x1 : IntKind.i64.wrap (4 * (l.length : Int)) = ((4 * l.length : Nat) : Int) := by rw [IntWalk.i64_in _ (by omega)]; omega
  have hlc : (l.length : Int) ≤ (c : Int) := by
    obtain ⟨_, a', c', e, h2, _⟩ := h
    cases e
    omega
  have H := Lib.hid h
  have HS := Lib.hid hs
  clear h hs hi hz0 hz1 hz2
  go_enter Tryz.func108, Tryz.ntmps108
  go_wp2_with (first | (at_make; refine wpList_make_own _ rfl _ _ 160 rfl w.heap.size 5 i0 (.int .u8 0) 1 Tryz.underlying160 HI.out HZ0.out HZ1.out .i64 .i64 _ (4 * l.length) rfl rfl rfl (by rw [HZ2.out]; omega) (by unfold maxLen; omega) (Nat.le_refl _) ?_) | (at_make; fail))
  intro w2 own2 hg2
  have hf2 : Frm [] w w2 := (Frm.refl [] w).grown hg2 (by simp)
  have S2 := Lib.hid ((Sep.start w).add (ownC 5 1 (.slice (some ⟨w.heap.size, 0, none⟩) 0 (4 * l.length)) 0 (u8s (keyL []))) hf2 (ownC_of own2) (ownC_new own2))
  clear own2 hg2 hf2
  go_wp2_with fail
  go_loopg [3, 12] l.length (fun q t3 t12 wr => ∃ (k : Nat) (ba bc : Nat), q = l.length - k ∧ k ≤ l.length ∧ t12 = .int .i64 k ∧ t3 = .slice (some ⟨ba, 0, none⟩) (4 * k) bc ∧ Sep w wr [ownC 5 1 (.slice (some ⟨ba, 0, none⟩) (4 * k) bc) (4 * k) (u8s (keyL (l.take k)))])
  case atStart => exact ⟨0, w.heap.size, _, rfl, Nat.zero_le _, rfl, rfl, S2.out⟩
  case round =>
    clear S2
    obtain ⟨k, ba, bc, hq, hk, rfl, rfl, hs⟩ := hrel
    have HQ := Lib.hid hq
    have S := Lib.hid hs
    have i4 : (0 : Int) ≤ (k : Int) := by omega
    clear hq hs
    by_cases hlt : k < l.length
    · have i5 : (k : Int) < (l.length : Int) := by omega
      obtain ⟨x, hx⟩ : ∃ x, l[k]? = some x := ⟨_, List.getElem?_eq_getElem hlt⟩
      obtain ⟨_, a', c', e', _, _, _, hcell⟩ := H.out
      obtain ⟨rfl, rfl⟩ : a = a' ∧ c = c' := by simpa using e'
      obtain ⟨b, o, rfl, _, hbl, hc⟩ := hcell k (.int .i64 x) (by simp [ints, hx])
      have c0 := S.out.frm.cell hc (by simp)
      have hsx := HS.out x (List.mem_of_getElem? hx)
      clear hcell hc e'
      have HSX := Lib.hid hsx
      have HX := Lib.hid hx
      have S3 := Lib.hid (S.out.nil ((Frm.refl [] wr).alloc (.cells #[.int .u8 (x / 16777216), .int .u8 (x / 65536 % 256), .int .u8 (x / 256 % 256), .int .u8 (x % 256)] 5)))
      clear hx
      go_wp2_with (first
        | (at_builtin; refine app_row rfl (.tmp 16) (.tmp 28) 160 5 _ 1 1 rfl Tryz.underlying160 infoU8 rfl (by decide) (by decide) 0 (4 * k) (.slice (some ⟨ba, 0, none⟩) (4 * k) bc) _ rfl (S3.out.at_ 0 rfl) _ 4 [.int .u8 (x / 16777216), .int .u8 (x / 65536 % 256), .int .u8 (x / 256 % 256), .int .u8 (x % 256)] [] rfl (rowV_cells (size := 1) (RowAt.made wr 5 [.int .u8 (x / 16777216), .int .u8 (x / 65536 % 256), .int .u8 (x / 256 % 256), .int .u8 (x % 256)] #[.int .u8 (x / 16777216), .int .u8 (x / 65536 % 256), .int .u8 (x / 256 % 256), .int .u8 (x % 256)] rfl) rfl (Nat.le_refl _) (by decide) (by simp)) (by simp [Value.oneCell']) (4 * (k + 1)) (by omega) (by omega) (Nat.zero_le _) ?_; intro a8 c8 w8 own8 hf8 hb8; have S8 := Lib.hid (S3.out.step 0 (ownC 5 1 (.slice a8 (4 * (k + 1)) c8) (4 * (k + 1)) (u8s (keyL (l.take (k + 1))))) rfl hf8 (fun k hk => .inl hk) (by rw [Ind.take_snoc HX.out, keyL_snoc, u8s_app, kb_vals HSX.out]; exact own8) (fresh_own hb8)); clear own8 hf8 hb8)
        | fail)
      obtain ⟨ba8, bc8, e8, _⟩ := ownC_some (S8.out.at_ 0 rfl) (by omega)
      obtain ⟨rfl, rfl⟩ : a8 = some ⟨ba8, 0, none⟩ ∧ c8 = bc8 := by simpa using e8
      go_roundg (l.length - (k + 1))
      case rel => exact ⟨k + 1, ba8, c8, rfl, by omega, by go_num, rfl, S8.out⟩
      case measure => have := HQ.out; omega
    · have i5 : ¬ (k : Int) < (l.length : Int) := by omega
      have hkl : k = l.length := by omega
      have hsS := S.out
      rw [hkl, List.take_length] at hsS
      have hcv := run_convert_bytes_back (P := Tryz.prog) wr 160 9 5 ⟨ba, 0, none⟩ bc ((keyL l).map UInt8.ofNat) Tryz.underlying160 Tryz.underlying5 Tryz.underlying9 (key_cells (hsS.at_ 0 rfl))
      rw [List.length_map, keyL_len, show l.length * 4 = 4 * k by omega] at hcv
      have HFR := Lib.hid hsS.frm
      have hks : (ByteArray.mk ((keyL l).map UInt8.ofNat).toArray) = keyS l := rfl
      rw [hks] at hcv
      clear hkl hsS S hks
      go_wp2_with fail
      go_ret
      exact ⟨rfl, HFR.out⟩
end Go.Proofs.YtdknbgejhhoaiaaGreat.Beh

/- Contracts of IndexFunc and ContainsFunc over rows of arcs, of Norm with its closure. (Printed by wip/tools/k7.py.) -/
namespace Go.Proofs.YtdknbgejhhoaiaaGreat.Ind
open Go.Shelf
open Go.RowKit

theorem statesShape {w : World} {F : List Nat} {v : Value} {st : List (List RA)} (h : StatesAt w F v st) : ∃ a c, v = .slice a st.length c ∧ (st.length : Int) ≤ 9223372036854775807 := by
  obtain ⟨l, h1, h2, _⟩ := h
  obtain ⟨_, a, c, e, h3, h4, _⟩ := h2
  exact ⟨a, c, e, by unfold maxLen at h4; omega⟩
/-- A closure that asks something of a row of arcs. -/
def PredS (F : List Nat) (g : Nat) (p : List RA → Bool) (w0 : World) : Prop :=
  ∀ (W : World) (v : Value) (x : List RA), Frm [] w0 W → ArcsAt W F v x → Calls Tryz.prog g #[v] W fun e' w' => e' = .returned (.bool (p x)) ∧ Frm [] W w'
set_option maxRecDepth 100000 in
set_option maxHeartbeats 1000000 in
theorem idxS_any {F : List Nat} (g : Nat) (p : List RA → Bool) (eg : ∀ args w, (callFunc g args).run Tryz.prog w = .ok (.enter g args) w) (v : Value) (xs : List (List RA)) (w : World) (hp : PredS F g p w) (h : StatesAt w F v xs) :
    Calls Tryz.prog 111 #[v, .func (.func g) #[] #[]] w fun e w' => (∃ v : Int, e = .returned (.int .i64 v) ∧ IdxP (xs.any p) v) ∧ Frm [] w w' := by
  obtain ⟨a, cap, rfl, l1⟩ := statesShape h
  have H := Lib.hid h
  have HP := Lib.hid hp
  clear h hp
  go_enter Tryz.func111, Tryz.ntmps111
  go_wp2_with fail
  go_loopg [8] xs.length (fun q i wr => ∃ (k : Nat), q = xs.length - k ∧ k ≤ xs.length ∧ i = .int .i64 k ∧ (xs.drop k).any p = xs.any p ∧ Frm [] w wr)
  case atStart => exact ⟨0, rfl, Nat.zero_le _, rfl, rfl, Frm.refl _ _⟩
  case round =>
    obtain ⟨k, rfl, hk, rfl, hd, hF⟩ := hrel
    have HF := Lib.hid hF
    have i4 : (0 : Int) ≤ (k : Int) := by omega
    clear hF
    by_cases hlt : k < xs.length
    · have i5 : (k : Int) < (xs.length : Int) := by omega
      obtain ⟨y, hy⟩ : ∃ y, xs[k]? = some y := ⟨_, List.getElem?_eq_getElem hlt⟩
      rw [drop_cons hy, List.any_cons] at hd
      obtain ⟨b, o, c, na, n, nc, e1, _, _, _, c0, rfl, harcs⟩ := H.out.at_ hy
      cases e1
      have d0 := HF.out.cell c0 (by simp)
      have hcall := HP.out wr _ y HF.out (harcs.nil HF.out)
      clear c0 hy harcs
      cases hpe : p y with
      | true =>
        rw [hpe] at hcall hd
        have HD : Hid (xs.any p = true) := Lib.hid (by rw [← hd]; simp)
        have HC := Lib.hid hcall
        clear hd hpe hcall
        go_wp2_with (go_at_fn g; refine HC.out.mono ?_; rintro e7 w7 ⟨rfl, hf7⟩)
        go_ret
        exact ⟨⟨_, rfl, by rw [HD.out]; exact ⟨(fun _ => by omega), (fun h9 => by cases h9)⟩⟩, HF.out.trans hf7 (by simp)⟩
      | false =>
        rw [hpe] at hcall hd
        rw [Bool.false_or] at hd
        have HD := Lib.hid hd
        have HC := Lib.hid hcall
        clear hd hpe hcall
        go_wp2_with (go_at_fn g; refine HC.out.mono ?_; rintro e7 w7 ⟨rfl, hf7⟩)
        go_roundg (xs.length - (k + 1))
        case rel => exact ⟨k + 1, rfl, by omega, by go_num, HD.out, HF.out.trans hf7 (by simp)⟩
        case measure => omega
    · have i5 : ¬ (k : Int) < (xs.length : Int) := by omega
      have HR : Hid (xs.any p = false) := Lib.hid (by rw [← hd, List.drop_eq_nil_of_le (by omega)]; rfl)
      clear hd
      go_wp2_with fail
      go_ret
      exact ⟨⟨-1, rfl, by rw [HR.out]; exact ⟨(fun h9 => by cases h9), fun _ => rfl⟩⟩, HF.out⟩

theorem containsS_any {F : List Nat} (g : Nat) (p : List RA → Bool) (eg : ∀ args w, (callFunc g args).run Tryz.prog w = .ok (.enter g args) w) (v : Value) (xs : List (List RA)) (w : World) (hp : PredS F g p w) (h : StatesAt w F v xs) :
    Calls Tryz.prog 97 #[v, .func (.func g) #[] #[]] w fun e w' => e = .returned (.bool (xs.any p)) ∧ Frm [] w w' := by
  have hi := idxS_any g p eg v xs w hp h
  have HI := Lib.hid hi
  clear hi h hp
  go_enter Tryz.func97, Tryz.ntmps97
  go_wp2_with fail
  refine HI.out.mono ?_
  rintro e1 w1 ⟨⟨v, rfl, hv⟩, hf1⟩
  obtain ⟨h1, h2⟩ := hv
  cases hr : xs.any p with
  | true =>
    have h3 := h1 hr
    have HR := Lib.hid hr
    clear h1 h2 hr HI
    go_wp2_with fail
    go_ret
    exact ⟨ret_bool (by rw [HR.out]), hf1⟩
  | false =>
    have h3 := h2 hr
    subst h3
    have HR := Lib.hid hr
    clear h1 h2 hr HI
    go_wp2_with fail
    go_ret
    exact ⟨ret_bool (by rw [HR.out]), hf1⟩

theorem badState_any {F : List Nat} (w : World) (v : Value) (row : List RA) (h : ArcsAt w F v row) :
    Calls Tryz.prog 98 #[v] w fun e w' => e = .returned (.bool (!decide (NormP row))) ∧ Frm [] w w' := by
  have hc := normState_any w v row h
  generalize decide (NormP row) = R at *
  obtain ⟨a, c, rfl, _⟩ := h.shape
  have HC := Lib.hid hc
  clear hc h
  go_enter Tryz.func98, Tryz.ntmps98
  go_wp2_with fail
  refine HC.out.mono ?_
  rintro e1 w1 ⟨rfl, hf1⟩
  cases R
  · go_wp2_with fail
    go_ret
    exact ⟨rfl, hf1⟩
  · go_wp2_with fail
    go_ret
    exact ⟨rfl, hf1⟩
instance (m : RM) : Decidable (NormM m) := by unfold NormM; infer_instance
theorem normM_eq (m : RM) : decide (NormM m) = (validM m && !(m.states.any fun r => !decide (NormP r))) := by
  rw [Bool.eq_iff_iff, decide_eq_true_iff]
  simp [NormM]
set_option maxHeartbeats 1000000 in
theorem norm_any {F : List Nat} (w : World) (m : RM) (sv : Value) (h : StatesAt w F sv m.states) :
    Calls Tryz.prog 73 #[machV m sv] w fun e w' => e = .returned (.bool (decide (NormM m))) ∧ Frm [] w w' := by
  rw [normM_eq]
  have eg : ∀ args w, (callFunc 98 args).run Tryz.prog w = .ok (.enter 98 args) w := enters_of Tryz.func98 (by kernel_rfl) rfl
  have HV : Hid (∀ W, Frm [] w W → Calls Tryz.prog 20 #[machV m sv] W fun e w' => e = .returned (.bool (validM m)) ∧ Frm [] W w') := Lib.hid fun W hf => valid_any W m sv (h.nil hf)
  have HN : Hid (∀ W, Frm [] w W → Calls Tryz.prog 97 #[sv, .func (.func 98) #[] #[]] W fun e w' => e = .returned (.bool (m.states.any fun r => !decide (NormP r))) ∧ Frm [] W w') := Lib.hid fun W hf =>
    containsS_any 98 (fun r => !decide (NormP r)) eg sv m.states W (fun W2 v x _ hx => badState_any W2 v x hx) (h.nil hf)
  generalize (m.states.any fun r => !decide (NormP r)) = S at *
  generalize validM m = R at *
  obtain ⟨sa, sc, rfl, _⟩ := statesShape h
  clear h eg
  generalize m.states.length = ns at *
  unfold machV at HV ⊢
  generalize m.regs = regs at *
  generalize m.data = data at *
  generalize m.plain = plain at *
  have f0 : Frm [] w (w.alloc (.cells #[.int .i64 regs, .int .i64 data, .int .i64 plain, .slice sa ns sc] 30)) := (Frm.refl [] w).alloc _
  have hbox := RowAt.made w 30 [.int .i64 regs, .int .i64 data, .int .i64 plain, .slice sa ns sc] #[.int .i64 regs, .int .i64 data, .int .i64 plain, .slice sa ns sc] rfl
  have HB := Lib.hid hbox
  clear hbox
  go_enter Tryz.func73, Tryz.ntmps73
  go_wp2_with fail
  refine (HV.out _ f0).mono ?_
  rintro e1 w1 ⟨rfl, hf1⟩
  have d3 := (HB.out.frm hf1 (by simp)).cell (i := 3) rfl
  have F1 := f0.trans hf1 (by simp)
  cases R
  · go_wp2_with fail
    go_ret
    exact ⟨rfl, F1⟩
  · go_wp2_with fail
    refine (HN.out _ F1).mono ?_
    rintro e2 w2 ⟨rfl, hf2⟩
    cases S
    · go_wp2_with fail
      go_ret
      exact ⟨rfl, F1.trans hf2 (by simp)⟩
    · go_wp2_with fail
      go_ret
      exact ⟨rfl, F1.trans hf2 (by simp)⟩

end Go.Proofs.YtdknbgejhhoaiaaGreat.Ind
