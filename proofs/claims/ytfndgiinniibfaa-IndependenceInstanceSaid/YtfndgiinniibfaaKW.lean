/- Contract of the reference's edges. (Printed by wip/tools/kw.py.) -/
import Derived.Test.YtfndgiinniibfaaKV
import Derived.Deep.RegionHeld3
namespace Go.Proofs.Ytfndgiinniibfaa.Ind
open Go.Shelf Go.RowKit Go.Lib

theorem insG_ne {α : Type} [DecidableEq α] {lt : α → α → Bool} (l : List α) (x : α) : insG lt l x ≠ [] := by
  cases l with
  | nil => simp [insG]
  | cons a r => unfold insG; repeat (first | split | simp)
theorem insG_le {α : Type} [DecidableEq α] {lt : α → α → Bool} (l : List α) (x : α) : (insG lt l x).length ≤ l.length + 1 := by
  induction l with
  | nil => simp [insG]
  | cons a r ih =>
    unfold insG
    repeat (first | split | (simp only [List.length_cons]; omega))
def toR (a : RA) (rs : List Int) (v : Int) : List Int := if a.kind = 4 ∨ a.kind = 6 ∨ a.kind = 7 then setR rs a.reg v else rs
def mkM (m : RM) (n : Nat) (a : RA) (rs : List Int) (v : Int) : Mv := (evB m n a v, a.to, toR a rs v)
theorem moves_vals (m : RM) (n : Nat) (p : Pl) (a : RA) : movesB m n p a = (valsR n a p.2).map (mkM m n a p.2) := by
  unfold movesB valsR
  by_cases h5 : a.kind = 5
  · rw [if_pos h5, if_pos h5]
    simp [mkM, toR, h5]
  · rw [if_neg h5, if_neg h5]
    by_cases h7 : a.kind = 7
    · rw [if_pos h7, if_pos h7]
      simp only [List.map_cons, List.map_nil, mkM, toR]
      rw [if_pos (by omega), evT m n a 0 (regR p.2 a.frm) (by omega) h5]
    · rw [if_neg h7, if_neg h7]
      by_cases h46 : a.kind = 4 ∨ a.kind = 6
      · rw [if_pos h46, if_pos h46]
        refine List.map_congr_left fun v _ => ?_
        simp only [mkM, toR]
        rw [if_pos (by omega)]
      · rw [if_neg h46, if_neg h46]
        simp only [List.map_cons, List.map_nil, mkM, toR]
        rw [if_neg (by omega)]
theorem valsR_len {n : Nat} {a : RA} {rs : List Int} (hn : n ≤ 12) : (valsR n a rs).length ≤ 12 := by
  unfold valsR
  split
  · simp
  · split
    · simp
    · split
      · exact Nat.le_trans (vK_len a rs n) hn
      · simp
theorem valsR_bd {m : RM} {p : Pl} {n : Nat} {a : RA} {v : Int} (hp : GoodP m p) (hn : n ≤ 12) (h : v ∈ valsR n a p.2) : 0 ≤ v ∧ v ≤ 12 := by
  unfold valsR at h
  split at h
  · rw [List.mem_singleton] at h; subst h; have := regR_ok hp a.reg; omega
  · split at h
    · rw [List.mem_singleton] at h; subst h; have := regR_ok hp a.frm; omega
    · split at h
      · have := vals_mem h; omega
      · rw [List.mem_singleton] at h; omega
/-- The row of edges made so far. -/
structure EL (B : Nat) (w : World) (L : List M6) (ad : Option Addr) (cp : Nat) (X : List Mv) (N : Nat) : Prop where
  map : L.map toM = X
  own : w.ownsRow B 100 6 (.slice ad L.length cp) L.length (L.flatMap enc6)
  nil : L = [] → ad = none ∧ cp = 0
  len : L.length ≤ N
theorem EL.frm {B : Nat} {w w' : World} {L : List M6} {ad : Option Addr} {cp : Nat} {X : List Mv} {N : Nat} (h : EL B w L ad cp X N) (hf : Frm [] w w') : EL B w' L ad cp X N :=
  ⟨h.map, ownsB_frm h.own hf (by simp), h.nil, h.len⟩
theorem EL.step {B : Nat} {w w' : World} {L : List M6} {ad a' : Option Addr} {cp c' : Nat} {X : List Mv} {x : M6} {N : Nat} (h : EL B w L ad cp (setG ltM X) N) (ho : w'.ownsRow B 100 6 (.slice a' (insG lt6 L x).length c') (insG lt6 L x).length ((insG lt6 L x).flatMap enc6)) : EL B w' (insG lt6 L x) a' c' (setG ltM (X ++ [toM x])) (N + 1) :=
  ⟨by rw [ins_map, h.map, setG_snoc], ho, fun e => absurd e (insG_ne L x), Nat.le_trans (insG_le L x) (Nat.succ_le_succ h.len)⟩
def EdgesEnd (w : World) (X : List Mv) (e : Ending) (w' : World) : Prop :=
  (∃ (L : List M6) (ad : Option Addr) (cp : Nat), L.map toM = X ∧ e = .returned (.slice ad L.length cp) ∧ w'.ownsRow w.heap.size 100 6 (.slice ad L.length cp) L.length (L.flatMap enc6)) ∧ Frm [] w w'
/-- The two boxes of edges. -/
structure EBox (w W : World) (m : RM) (sv : Value) (st r0 r1 r2 r3 : Int) : Prop where
  frm : Frm [] w W
  mc : RowAt W w.heap.size 28 [.int .i64 m.regs, .int .i64 m.data, .int .i64 m.plain, sv]
  pl : RowAt W (w.heap.size + 1) 94 [.int .i64 st, .int .i64 r0, .int .i64 r1, .int .i64 r2, .int .i64 r3]
theorem EBox.nil {w W W' : World} {m : RM} {sv : Value} {st r0 r1 r2 r3 : Int} (h : EBox w W m sv st r0 r1 r2 r3) (hf : Frm [] W W') : EBox w W' m sv st r0 r1 r2 r3 :=
  ⟨h.frm.trans hf (by simp), h.mc.frm hf (by simp), h.pl.frm hf (by simp)⟩
theorem ebox_made (w : World) (m : RM) (sv : Value) (st r0 r1 r2 r3 : Int) :
    EBox w ((w.alloc (.cells #[.int .i64 m.regs, .int .i64 m.data, .int .i64 m.plain, sv] 28)).alloc (.cells #[.int .i64 st, .int .i64 r0, .int .i64 r1, .int .i64 r2, .int .i64 r3] 94)) m sv st r0 r1 r2 r3 := by
  refine ⟨((Frm.refl [] w).alloc _).alloc _, ?_, ?_⟩
  · exact (RowAt.made w _ _ _ rfl).alloc _
  · have := RowAt.made (w.alloc (.cells #[.int .i64 m.regs, .int .i64 m.data, .int .i64 m.plain, sv] 28)) 94 [.int .i64 st, .int .i64 r0, .int .i64 r1, .int .i64 r2, .int .i64 r3] #[.int .i64 st, .int .i64 r0, .int .i64 r1, .int .i64 r2, .int .i64 r3] rfl
    simpa using this

set_option linter.unusedSimpArgs false in
set_option maxRecDepth 100000 in
set_option maxHeartbeats 8000000 in
theorem edges_any {F : List Nat} (w : World) (m : RM) (sa : Option Addr) (sc n sN : Nat) (r0 r1 r2 r3 : Int) (hs : StatesAt w F (.slice sa m.states.length sc) m.states) (hv : validM m = true) (hn0 : 1 ≤ n) (hn1 : n ≤ 12) (hg : GoodP m ((sN : Int), [r0, r1, r2, r3])) :
    Calls Try.prog 57 #[machV m (.slice sa m.states.length sc), .int .i64 n, .agg #[.int .i64 (sN : Int), .int .i64 r0, .int .i64 r1, .int .i64 r2, .int .i64 r3]] w (EdgesEnd w (edgesB m n ((sN : Int), [r0, r1, r2, r3]))) := by
  have hsl : sN < m.states.length := by have := hg.2.2.1; simp only at this; omega
  obtain ⟨row, hrow⟩ : ∃ row, m.states[sN]? = some row := ⟨_, List.getElem?_eq_getElem hsl⟩
  obtain ⟨sb, so, c2, ra, rn, rc, he, hc1, hc2, hbF, hcst, hrn, hAr⟩ := hs.at_ hrow
  obtain ⟨rfl, rfl⟩ : sa = some ⟨sb, so, none⟩ ∧ sc = c2 := by simpa using he
  subst hrn
  have hAL : allM m n ((sN : Int), [r0, r1, r2, r3]) = row.flatMap (movesB m n ((sN : Int), [r0, r1, r2, r3])) := by
    unfold allM arcsOf
    rw [show ((sN : Int), [r0, r1, r2, r3]).1.toNat = sN from rfl, hrow]
    rfl
  have hED : edgesB m n ((sN : Int), [r0, r1, r2, r3]) = setG ltM (row.flatMap (movesB m n ((sN : Int), [r0, r1, r2, r3]))) := by rw [edgesB, hAL]
  rw [hED]
  have hm := validM_ok hv
  have HARC := Lib.hid (fun a ha => arc_ok hm (validM_arc hv (List.mem_of_getElem? hrow) ha) : ∀ a ∈ row, RaOk m a)
  have H16 := Lib.hid (validM_row hv (List.mem_of_getElem? hrow))
  have HAR := Lib.hid hAr
  have HST := Lib.hid hcst
  have HG := Lib.hid hg
  have HM := Lib.hid hm
  have HN0 := Lib.hid hn0
  have HN1 := Lib.hid hn1
  have i1 : (sN : Int) < (m.states.length : Int) := by omega
  have i2 : (0 : Int) ≤ (sN : Int) := by omega
  have i3 : (m.states.length : Int) ≤ 9223372036854775807 := by unfold maxLen at hc2; omega
  have HBX := Lib.hid (ebox_made w m (.slice (some ⟨sb, so, none⟩) m.states.length sc) sN r0 r1 r2 r3)
  clear hs hv hn0 hn1 hg hsl hrow he hc1 hc2 hcst hAr hAL hED hm
  unfold machV
  go_enter Try.func57, Try.ntmps57
  go_wp2_with fail
  generalize hW2 : World.alloc (World.alloc _ _) _ = W2 at *
  clear hW2
  go_loopg [7, 8] row.length (fun q t7 t8 wr => ∃ (i : Nat) (L : List M6) (ad : Option Addr) (cp : Nat), q = row.length - i ∧ i ≤ row.length ∧ t8 = .int .i64 i ∧ t7 = .slice ad L.length cp ∧ EL W2.heap.size wr L ad cp (setG ltM ((row.take i).flatMap (movesB m n (sN, [r0, r1, r2, r3])))) (i * 12) ∧ Frm [] W2 wr)
  case atStart => exact ⟨0, [], none, 0, rfl, Nat.zero_le _, rfl, rfl, ⟨rfl, ⟨rfl, .inl ⟨rfl, rfl⟩⟩, fun _ => ⟨rfl, rfl⟩, Nat.zero_le _⟩, Frm.refl _ _⟩
  case round =>
    obtain ⟨i, L, ad, cp, hq, hi, rfl, rfl, hel, hF⟩ := hrel
    have HQ := Lib.hid hq
    have HF := Lib.hid hF
    have HEL0 := Lib.hid hel
    have HB := Lib.hid (HBX.out.nil hF)
    have i4 : (0 : Int) ≤ (i : Int) := by omega
    have m3 := HB.out.mc.cell (i := 3) rfl
    have p0 := HB.out.pl.cell (i := 0) rfl
    have cst := (HBX.out.frm.trans HF.out (by simp)).cell HST.out (by simp)
    clear hF hel hq
    by_cases hlt : i < row.length
    · have i5 : (i : Int) < (row.length : Int) := by omega
      have i6 : (row.length : Int) ≤ 16 := by have := H16.out; omega
      obtain ⟨a, ha⟩ : ∃ a, row[i]? = some a := ⟨_, List.getElem?_eq_getElem hlt⟩
      have HRA := Lib.hid (HARC.out a (List.mem_of_getElem? ha))
      have har := HAR.out.nil (HBX.out.frm.trans HF.out (by simp))
      obtain ⟨rb, ro, na, nc, rfl, hrb, hrbl, k0, k1, k2, k3, k4, k5, hnot⟩ := har.at_ ha
      have HNOT := Lib.hid hnot
      have HA := Lib.hid ha
      have p1 := HB.out.pl.cell (i := 1) rfl
      have p2 := HB.out.pl.cell (i := 2) rfl
      have p3 := HB.out.pl.cell (i := 3) rfl
      have p4 := HB.out.pl.cell (i := 4) rfl
      have hbl : Hid (w.heap.size + 1 < wr.heap.size) := Lib.hid HB.out.pl.lt
      have hbl1 := hbl.out
      have HA9 := Lib.hid (RowAt.made wr 24 [.int .i64 a.kind, .int .i64 a.ch, .int .i64 a.reg, .int .i64 a.frm, .slice na a.not.length nc, .int .i64 a.to] #[.int .i64 a.kind, .int .i64 a.ch, .int .i64 a.reg, .int .i64 a.frm, .slice na a.not.length nc, .int .i64 a.to] rfl)
      have HV : Hid (∀ W, Frm [] wr W → Calls Try.prog 73 #[.int .i64 n, .agg #[.int .i64 a.kind, .int .i64 a.ch, .int .i64 a.reg, .int .i64 a.frm, .slice na a.not.length nc, .int .i64 a.to], .agg #[.int .i64 (sN : Int), .int .i64 r0, .int .i64 r1, .int .i64 r2, .int .i64 r3]] W (ValsEnd W (valsR n a [r0, r1, r2, r3]))) := Lib.hid fun W hW => values_any W n sN r0 r1 r2 r3 _ a (RowV.nil HNOT.out hW) HRA.out HN1.out
      clear ha har hrb hnot
      go_wp2_with (go_at_call 73; refine (HV.out _ ((Frm.refl [] wr).alloc _)).mono ?_; rintro e7 w7 ⟨⟨vd, vc, rfl, ho7⟩, hf7⟩)
      have FA := Lib.hid (((Frm.refl [] wr).alloc (.cells #[.int .i64 a.kind, .int .i64 a.ch, .int .i64 a.reg, .int .i64 a.frm, .slice na a.not.length nc, .int .i64 a.to] 24)).trans hf7 (by simp))
      have HVL := Lib.hid (valsR_len (n := n) (a := a) (rs := [r0, r1, r2, r3]) HN1.out)
      have HVB : Hid (∀ v ∈ valsR n a [r0, r1, r2, r3], 0 ≤ v ∧ v ≤ 12) := Lib.hid fun v hv => valsR_bd HG.out HN1.out hv
      have HMV := Lib.hid (moves_vals m n ((sN : Int), [r0, r1, r2, r3]) a)
      rw [show ((sN : Int), [r0, r1, r2, r3]).2 = [r0, r1, r2, r3] from rfl] at HMV
      have HA9W := Lib.hid (HA9.out.frm hf7 (by simp))
      have HRD := Lib.hid (rd_of_owns ho7 (Nat.le_refl _))
      have HEL1 := Lib.hid (HEL0.out.frm FA.out)
      have HBW := Lib.hid (HB.out.nil FA.out)
      have HNOTW := Lib.hid (RowV.nil HNOT.out FA.out)
      generalize hVV : valsR n a [r0, r1, r2, r3] = V at *
      clear hVV hf7 ho7 HV k0 k1 k2 k3 k4 k5 m3 p0 p1 p2 p3 p4 cst
      obtain ⟨wx, hwx⟩ : ∃ x, x = wr := ⟨wr, rfl⟩
      subst hwx
      obtain ⟨L0, hL0⟩ : ∃ x, x = L := ⟨L, rfl⟩
      subst hL0
      obtain ⟨ad0, had0⟩ : ∃ x, x = ad := ⟨ad, rfl⟩
      subst had0
      obtain ⟨cp0, hcp0⟩ : ∃ x, x = cp := ⟨cp, rfl⟩
      subst hcp0
      go_loopg [7, 11] V.length (fun q t7 t11 wi => ∃ (k : Nat) (L : List M6) (ad : Option Addr) (cp : Nat), q = V.length - k ∧ k ≤ V.length ∧ t11 = .int .i64 k ∧ t7 = .slice ad L.length cp ∧ EL W2.heap.size wi L ad cp (setG ltM ((row.take i).flatMap (movesB m n (sN, [r0, r1, r2, r3])) ++ (V.take k).map (mkM m n a [r0, r1, r2, r3]))) (i * 12 + k) ∧ Frm [] w7 wi)
      case atStart => exact ⟨0, L0, ad0, cp0, rfl, Nat.zero_le _, rfl, rfl, by simpa using HEL1.out, Frm.refl _ _⟩
      case round =>
        obtain ⟨k, L, ad, cp, hkq, hk, rfl, rfl, hel, hFI⟩ := hrel
        have HKQ := Lib.hid hkq
        have HFI := Lib.hid hFI
        have HEL := Lib.hid hel
        have HBI := Lib.hid (HBW.out.nil hFI)
        have HA9I := Lib.hid (HA9W.out.frm hFI (by simp))
        have HNOTI := Lib.hid (RowV.nil HNOTW.out hFI)
        have HK12 := Lib.hid HVL.out
        have HI16 := Lib.hid (show i ≤ 16 by have := H16.out; omega)
        have HSZ := Lib.hid (show W2.heap.size ≤ wr.heap.size by have := HF.out.size; have := FA.out.size; have := hFI.size; omega)
        have i7 : (0 : Int) ≤ (k : Int) := by omega
        have i8 : (V.length : Int) ≤ 12 := by have := HVL.out; omega
        clear hFI hel hkq
        by_cases hlk : k < V.length
        · have i9 : (k : Int) < (V.length : Int) := by omega
          obtain ⟨v, hv⟩ : ∃ v, V[k]? = some v := ⟨_, List.getElem?_eq_getElem hlk⟩
          have hvb := HVB.out v (List.mem_of_getElem? hv)
          obtain ⟨vb, vo, rfl, hvl, cv⟩ := HRD.out.at hv
          have HCV := Lib.hid (HFI.out.cell cv (by simp))
          have HVK := Lib.hid hv
          have HEV : Hid (∀ W, Calls Try.prog 40 #[.agg #[.int .i64 m.regs, .int .i64 m.data, .int .i64 m.plain, .slice (some ⟨sb, so, none⟩) m.states.length sc], .int .i64 n, .agg #[.int .i64 a.kind, .int .i64 a.ch, .int .i64 a.reg, .int .i64 a.frm, .slice na a.not.length nc, .int .i64 a.to], .int .i64 v] W fun e w' => e = .returned (.int .i64 (evB m n a v)) ∧ Frm [] W w') := Lib.hid fun W => refEvent_any W m _ _ _ n v na _ nc a HM.out.d0 HM.out.d1 (by have := HN0.out; omega) (by have := HN1.out; omega) HRA.out.ch.1 HRA.out.ch.2 hvb.1 hvb.2
          have hvl2 : vb < wr.heap.size := Nat.lt_of_lt_of_le hvl HFI.out.size
          have hx9 : wx.heap.size < wr.heap.size := HA9I.out.lt
          have hx3 := HBI.out.pl.lt
          have e5 := HA9I.out.cell (i := 5) rfl
          have e0 := HA9I.out.cell (i := 0) rfl
          have e2 := HA9I.out.cell (i := 2) rfl
          have q1 := HBI.out.pl.cell (i := 1) rfl
          have q2 := HBI.out.pl.cell (i := 2) rfl
          have q3 := HBI.out.pl.cell (i := 3) rfl
          have q4 := HBI.out.pl.cell (i := 4) rfl
          have cv2 := HCV.out
          have RB := Lib.hid (RowAt.made wr 94 [.int .i64 a.to, .int .i64 r0, .int .i64 r1, .int .i64 r2, .int .i64 r3] #[.int .i64 a.to, .int .i64 r0, .int .i64 r1, .int .i64 r2, .int .i64 r3] rfl)
          clear hvb hv cv
          have hrg := HRA.out.reg
          have hrg5 := HRA.out.reg5
          by_cases hw : (a.kind = 4 ∨ a.kind = 6 ∨ a.kind = 7) ∧ 0 ≤ a.reg
          · obtain ⟨hw1, hw2⟩ := hw
            have HKK := Lib.hid hw1
            have hr : a.reg = 0 ∨ a.reg = 1 ∨ a.reg = 2 ∨ a.reg = 3 := by omega
            have hkk : (a.kind == 4) = true ∨ ((a.kind == 4) = false ∧ (a.kind == 6) = true) ∨ ((a.kind == 4) = false ∧ (a.kind == 6) = false ∧ (a.kind == 7) = true) := by rcases hw1 with h | h | h <;> rw [h] <;> decide
            clear hw1 hw2 hrg hrg5
            rcases hr with hr | hr | hr | hr
            · have hr0 := Lib.hid hr
              rw [hr] at e2
              have hev2 := HEV.out
              rw [hr] at hev2
              have HQ1 : Hid (toR a [r0, r1, r2, r3] v = [v, r1, r2, r3]) := Lib.hid (by unfold toR; rw [if_pos HKK.out, setR, hr]; rfl)
              replace HEV := Lib.hid hev2
              clear hr hev2
              rcases hkk with j4 | ⟨j4, j6⟩ | ⟨j4, j6, j7⟩
              all_goals
                go_wp2_with fail
                go_region
                obtain ⟨WX, hWX⟩ : ∃ WX, WX = (wr.alloc (.cells #[.int .i64 a.to, .int .i64 v, .int .i64 r1, .int .i64 r2, .int .i64 r3] 94)).drew := ⟨_, rfl⟩
                have FX := Lib.hid (show Frm [] wr WX by rw [hWX]; exact ((Frm.refl [] wr).alloc _).drew)
                have RX := Lib.hid (show RowAt WX wr.heap.size 94 [.int .i64 a.to, .int .i64 v, .int .i64 r1, .int .i64 r2, .int .i64 r3] by rw [hWX]; exact (RowAt.made wr _ _ _ rfl).drew)
                rw [← hWX]
                clear hWX
                go_wp2_with fail
                have KEEP : Hid (∀ w', Frm [] WX w' → w'.cell? ⟨w.heap.size, 0, none⟩ = some (.int .i64 m.regs) ∧ w'.cell? ⟨w.heap.size, 1, none⟩ = some (.int .i64 m.data) ∧ w'.cell? ⟨w.heap.size, 2, none⟩ = some (.int .i64 m.plain) ∧ w'.cell? ⟨w.heap.size, 3, none⟩ = some (.slice (some ⟨sb, so, none⟩) m.states.length sc) ∧ w'.cell? ⟨wx.heap.size, 0, none⟩ = some (.int .i64 a.kind) ∧ w'.cell? ⟨wx.heap.size, 1, none⟩ = some (.int .i64 a.ch) ∧ w'.cell? ⟨wx.heap.size, 2, none⟩ = some (.int .i64 0) ∧ w'.cell? ⟨wx.heap.size, 3, none⟩ = some (.int .i64 a.frm) ∧ w'.cell? ⟨wx.heap.size, 4, none⟩ = some (.slice na a.not.length nc) ∧ w'.cell? ⟨wx.heap.size, 5, none⟩ = some (.int .i64 a.to) ∧ w'.cell? ⟨vb, vo + k, none⟩ = some (.int .i64 v) ∧ w'.cell? ⟨wr.heap.size, 0, none⟩ = some (.int .i64 a.to) ∧ w'.cell? ⟨wr.heap.size, 1, none⟩ = some (.int .i64 v) ∧ w'.cell? ⟨wr.heap.size, 2, none⟩ = some (.int .i64 r1) ∧ w'.cell? ⟨wr.heap.size, 3, none⟩ = some (.int .i64 r2) ∧ w'.cell? ⟨wr.heap.size, 4, none⟩ = some (.int .i64 r3)) := Lib.hid fun w' hf => by
                  have hm := (HBI.out.nil (FX.out.trans hf (by simp))).mc
                  have ha9 := (HA9I.out.frm FX.out (by simp)).frm hf (by simp)
                  rw [hr0.out] at ha9
                  have hc := RX.out.frm hf (by simp)
                  exact ⟨hm.cell (i := 0) rfl, hm.cell (i := 1) rfl, hm.cell (i := 2) rfl, hm.cell (i := 3) rfl, ha9.cell (i := 0) rfl, ha9.cell (i := 1) rfl, ha9.cell (i := 2) rfl, ha9.cell (i := 3) rfl, ha9.cell (i := 4) rfl, ha9.cell (i := 5) rfl, hf.cell (FX.out.cell HCV.out (by simp)) (by simp), hc.cell (i := 0) rfl, hc.cell (i := 1) rfl, hc.cell (i := 2) rfl, hc.cell (i := 3) rfl, hc.cell (i := 4) rfl⟩
                have HINS : Hid (∀ W' : World, Frm [] WX W' → Calls Try.prog 74 #[.slice ad L.length cp, .agg #[.int .i64 (evB m n a v), .int .i64 a.to, .int .i64 v, .int .i64 r1, .int .i64 r2, .int .i64 r3]] W' fun e w' => (∃ a' cp', e = .returned (.slice a' (insG lt6 L (evB m n a v, a.to, v, r1, r2, r3)).length cp') ∧ EL W2.heap.size w' (insG lt6 L (evB m n a v, a.to, v, r1, r2, r3)) a' cp' (setG ltM (((row.take i).flatMap (movesB m n (sN, [r0, r1, r2, r3])) ++ (V.take k).map (mkM m n a [r0, r1, r2, r3])) ++ [toM (evB m n a v, a.to, v, r1, r2, r3)])) (i * 12 + k + 1)) ∧ Frm [] W' w') := Lib.hid fun W' hf => by
                  have hE := HEL.out.frm (FX.out.trans hf (by simp))
                  refine (insE_any W2.heap.size ad cp L (evB m n a v, a.to, v, r1, r2, r3) W' hE.own hE.nil (by have := hE.len; have := HI16.out; have := HK12.out; omega) (by have := HSZ.out; have := FX.out.size; have := hf.size; omega)).mono ?_
                  rintro e5 w5 ⟨⟨a5, c5, rfl, ho5⟩, hf5⟩
                  exact ⟨⟨a5, c5, rfl, hE.step ho5⟩, hf5⟩
                have HMK : Hid ((V.take (k + 1)).map (mkM m n a [r0, r1, r2, r3]) = (V.take k).map (mkM m n a [r0, r1, r2, r3]) ++ [toM (evB m n a v, a.to, v, r1, r2, r3)]) := Lib.hid (by
                  rw [List.take_add_one, HVK.out, List.map_append]
                  congr 1
                  show [(evB m n a v, a.to, toR a [r0, r1, r2, r3] v)] = _
                  rw [HQ1.out]; rfl)
                clear e0 e2 e5 q1 q2 q3 q4 cv2 hx3
                go_region_held3 (fun w' => w'.cell? ⟨w.heap.size, 0, none⟩ = some (.int .i64 m.regs) ∧ w'.cell? ⟨w.heap.size, 1, none⟩ = some (.int .i64 m.data) ∧ w'.cell? ⟨w.heap.size, 2, none⟩ = some (.int .i64 m.plain) ∧ w'.cell? ⟨w.heap.size, 3, none⟩ = some (.slice (some ⟨sb, so, none⟩) m.states.length sc) ∧ w'.cell? ⟨wx.heap.size, 0, none⟩ = some (.int .i64 a.kind) ∧ w'.cell? ⟨wx.heap.size, 1, none⟩ = some (.int .i64 a.ch) ∧ w'.cell? ⟨wx.heap.size, 2, none⟩ = some (.int .i64 0) ∧ w'.cell? ⟨wx.heap.size, 3, none⟩ = some (.int .i64 a.frm) ∧ w'.cell? ⟨wx.heap.size, 4, none⟩ = some (.slice na a.not.length nc) ∧ w'.cell? ⟨wx.heap.size, 5, none⟩ = some (.int .i64 a.to) ∧ w'.cell? ⟨vb, vo + k, none⟩ = some (.int .i64 v) ∧ w'.cell? ⟨wr.heap.size, 0, none⟩ = some (.int .i64 a.to) ∧ w'.cell? ⟨wr.heap.size, 1, none⟩ = some (.int .i64 v) ∧ w'.cell? ⟨wr.heap.size, 2, none⟩ = some (.int .i64 r1) ∧ w'.cell? ⟨wr.heap.size, 3, none⟩ = some (.int .i64 r2) ∧ w'.cell? ⟨wr.heap.size, 4, none⟩ = some (.int .i64 r3))
                  (first | exact KEEP.out _ (Frm.refl [] WX) | exact KEEP.out _ (Frm.refl [] WX).drew | exact KEEP.out _ hy5 | exact KEEP.out _ hy6)
                  (first
                    | (go_at_call 40; refine (HEV.out _).mono ?_; rintro e5 w5 ⟨rfl, hf5⟩; have hy5 := (Frm.refl [] WX).drew.trans hf5 (by simp))
                    | (go_at_call 74; refine (HINS.out _ hy5).mono ?_; rintro e6 w6 ⟨⟨a6, c6, rfl, el6⟩, hf6⟩; have hy6 := hy5.trans hf6 (by simp)))
                go_wp2_with fail
                go_roundg (V.length - (k + 1))
                case rel => exact ⟨k + 1, _, a6, c6, rfl, by omega, by go_num, rfl, by rw [HMK.out, ← List.append_assoc]; exact el6, HFI.out.trans (FX.out.trans hy6 (by simp)) (by simp)⟩
                case measure => have := HKQ.out; omega
            · have hr0 := Lib.hid hr
              rw [hr] at e2
              have hev2 := HEV.out
              rw [hr] at hev2
              have HQ1 : Hid (toR a [r0, r1, r2, r3] v = [r0, v, r2, r3]) := Lib.hid (by unfold toR; rw [if_pos HKK.out, setR, hr]; rfl)
              replace HEV := Lib.hid hev2
              clear hr hev2
              rcases hkk with j4 | ⟨j4, j6⟩ | ⟨j4, j6, j7⟩
              all_goals
                go_wp2_with fail
                go_region
                obtain ⟨WX, hWX⟩ : ∃ WX, WX = (wr.alloc (.cells #[.int .i64 a.to, .int .i64 r0, .int .i64 v, .int .i64 r2, .int .i64 r3] 94)).drew := ⟨_, rfl⟩
                have FX := Lib.hid (show Frm [] wr WX by rw [hWX]; exact ((Frm.refl [] wr).alloc _).drew)
                have RX := Lib.hid (show RowAt WX wr.heap.size 94 [.int .i64 a.to, .int .i64 r0, .int .i64 v, .int .i64 r2, .int .i64 r3] by rw [hWX]; exact (RowAt.made wr _ _ _ rfl).drew)
                rw [← hWX]
                clear hWX
                go_wp2_with fail
                have KEEP : Hid (∀ w', Frm [] WX w' → w'.cell? ⟨w.heap.size, 0, none⟩ = some (.int .i64 m.regs) ∧ w'.cell? ⟨w.heap.size, 1, none⟩ = some (.int .i64 m.data) ∧ w'.cell? ⟨w.heap.size, 2, none⟩ = some (.int .i64 m.plain) ∧ w'.cell? ⟨w.heap.size, 3, none⟩ = some (.slice (some ⟨sb, so, none⟩) m.states.length sc) ∧ w'.cell? ⟨wx.heap.size, 0, none⟩ = some (.int .i64 a.kind) ∧ w'.cell? ⟨wx.heap.size, 1, none⟩ = some (.int .i64 a.ch) ∧ w'.cell? ⟨wx.heap.size, 2, none⟩ = some (.int .i64 1) ∧ w'.cell? ⟨wx.heap.size, 3, none⟩ = some (.int .i64 a.frm) ∧ w'.cell? ⟨wx.heap.size, 4, none⟩ = some (.slice na a.not.length nc) ∧ w'.cell? ⟨wx.heap.size, 5, none⟩ = some (.int .i64 a.to) ∧ w'.cell? ⟨vb, vo + k, none⟩ = some (.int .i64 v) ∧ w'.cell? ⟨wr.heap.size, 0, none⟩ = some (.int .i64 a.to) ∧ w'.cell? ⟨wr.heap.size, 1, none⟩ = some (.int .i64 r0) ∧ w'.cell? ⟨wr.heap.size, 2, none⟩ = some (.int .i64 v) ∧ w'.cell? ⟨wr.heap.size, 3, none⟩ = some (.int .i64 r2) ∧ w'.cell? ⟨wr.heap.size, 4, none⟩ = some (.int .i64 r3)) := Lib.hid fun w' hf => by
                  have hm := (HBI.out.nil (FX.out.trans hf (by simp))).mc
                  have ha9 := (HA9I.out.frm FX.out (by simp)).frm hf (by simp)
                  rw [hr0.out] at ha9
                  have hc := RX.out.frm hf (by simp)
                  exact ⟨hm.cell (i := 0) rfl, hm.cell (i := 1) rfl, hm.cell (i := 2) rfl, hm.cell (i := 3) rfl, ha9.cell (i := 0) rfl, ha9.cell (i := 1) rfl, ha9.cell (i := 2) rfl, ha9.cell (i := 3) rfl, ha9.cell (i := 4) rfl, ha9.cell (i := 5) rfl, hf.cell (FX.out.cell HCV.out (by simp)) (by simp), hc.cell (i := 0) rfl, hc.cell (i := 1) rfl, hc.cell (i := 2) rfl, hc.cell (i := 3) rfl, hc.cell (i := 4) rfl⟩
                have HINS : Hid (∀ W' : World, Frm [] WX W' → Calls Try.prog 74 #[.slice ad L.length cp, .agg #[.int .i64 (evB m n a v), .int .i64 a.to, .int .i64 r0, .int .i64 v, .int .i64 r2, .int .i64 r3]] W' fun e w' => (∃ a' cp', e = .returned (.slice a' (insG lt6 L (evB m n a v, a.to, r0, v, r2, r3)).length cp') ∧ EL W2.heap.size w' (insG lt6 L (evB m n a v, a.to, r0, v, r2, r3)) a' cp' (setG ltM (((row.take i).flatMap (movesB m n (sN, [r0, r1, r2, r3])) ++ (V.take k).map (mkM m n a [r0, r1, r2, r3])) ++ [toM (evB m n a v, a.to, r0, v, r2, r3)])) (i * 12 + k + 1)) ∧ Frm [] W' w') := Lib.hid fun W' hf => by
                  have hE := HEL.out.frm (FX.out.trans hf (by simp))
                  refine (insE_any W2.heap.size ad cp L (evB m n a v, a.to, r0, v, r2, r3) W' hE.own hE.nil (by have := hE.len; have := HI16.out; have := HK12.out; omega) (by have := HSZ.out; have := FX.out.size; have := hf.size; omega)).mono ?_
                  rintro e5 w5 ⟨⟨a5, c5, rfl, ho5⟩, hf5⟩
                  exact ⟨⟨a5, c5, rfl, hE.step ho5⟩, hf5⟩
                have HMK : Hid ((V.take (k + 1)).map (mkM m n a [r0, r1, r2, r3]) = (V.take k).map (mkM m n a [r0, r1, r2, r3]) ++ [toM (evB m n a v, a.to, r0, v, r2, r3)]) := Lib.hid (by
                  rw [List.take_add_one, HVK.out, List.map_append]
                  congr 1
                  show [(evB m n a v, a.to, toR a [r0, r1, r2, r3] v)] = _
                  rw [HQ1.out]; rfl)
                clear e0 e2 e5 q1 q2 q3 q4 cv2 hx3
                go_region_held3 (fun w' => w'.cell? ⟨w.heap.size, 0, none⟩ = some (.int .i64 m.regs) ∧ w'.cell? ⟨w.heap.size, 1, none⟩ = some (.int .i64 m.data) ∧ w'.cell? ⟨w.heap.size, 2, none⟩ = some (.int .i64 m.plain) ∧ w'.cell? ⟨w.heap.size, 3, none⟩ = some (.slice (some ⟨sb, so, none⟩) m.states.length sc) ∧ w'.cell? ⟨wx.heap.size, 0, none⟩ = some (.int .i64 a.kind) ∧ w'.cell? ⟨wx.heap.size, 1, none⟩ = some (.int .i64 a.ch) ∧ w'.cell? ⟨wx.heap.size, 2, none⟩ = some (.int .i64 1) ∧ w'.cell? ⟨wx.heap.size, 3, none⟩ = some (.int .i64 a.frm) ∧ w'.cell? ⟨wx.heap.size, 4, none⟩ = some (.slice na a.not.length nc) ∧ w'.cell? ⟨wx.heap.size, 5, none⟩ = some (.int .i64 a.to) ∧ w'.cell? ⟨vb, vo + k, none⟩ = some (.int .i64 v) ∧ w'.cell? ⟨wr.heap.size, 0, none⟩ = some (.int .i64 a.to) ∧ w'.cell? ⟨wr.heap.size, 1, none⟩ = some (.int .i64 r0) ∧ w'.cell? ⟨wr.heap.size, 2, none⟩ = some (.int .i64 v) ∧ w'.cell? ⟨wr.heap.size, 3, none⟩ = some (.int .i64 r2) ∧ w'.cell? ⟨wr.heap.size, 4, none⟩ = some (.int .i64 r3))
                  (first | exact KEEP.out _ (Frm.refl [] WX) | exact KEEP.out _ (Frm.refl [] WX).drew | exact KEEP.out _ hy5 | exact KEEP.out _ hy6)
                  (first
                    | (go_at_call 40; refine (HEV.out _).mono ?_; rintro e5 w5 ⟨rfl, hf5⟩; have hy5 := (Frm.refl [] WX).drew.trans hf5 (by simp))
                    | (go_at_call 74; refine (HINS.out _ hy5).mono ?_; rintro e6 w6 ⟨⟨a6, c6, rfl, el6⟩, hf6⟩; have hy6 := hy5.trans hf6 (by simp)))
                go_wp2_with fail
                go_roundg (V.length - (k + 1))
                case rel => exact ⟨k + 1, _, a6, c6, rfl, by omega, by go_num, rfl, by rw [HMK.out, ← List.append_assoc]; exact el6, HFI.out.trans (FX.out.trans hy6 (by simp)) (by simp)⟩
                case measure => have := HKQ.out; omega
            · have hr0 := Lib.hid hr
              rw [hr] at e2
              have hev2 := HEV.out
              rw [hr] at hev2
              have HQ1 : Hid (toR a [r0, r1, r2, r3] v = [r0, r1, v, r3]) := Lib.hid (by unfold toR; rw [if_pos HKK.out, setR, hr]; rfl)
              replace HEV := Lib.hid hev2
              clear hr hev2
              rcases hkk with j4 | ⟨j4, j6⟩ | ⟨j4, j6, j7⟩
              all_goals
                go_wp2_with fail
                go_region
                obtain ⟨WX, hWX⟩ : ∃ WX, WX = (wr.alloc (.cells #[.int .i64 a.to, .int .i64 r0, .int .i64 r1, .int .i64 v, .int .i64 r3] 94)).drew := ⟨_, rfl⟩
                have FX := Lib.hid (show Frm [] wr WX by rw [hWX]; exact ((Frm.refl [] wr).alloc _).drew)
                have RX := Lib.hid (show RowAt WX wr.heap.size 94 [.int .i64 a.to, .int .i64 r0, .int .i64 r1, .int .i64 v, .int .i64 r3] by rw [hWX]; exact (RowAt.made wr _ _ _ rfl).drew)
                rw [← hWX]
                clear hWX
                go_wp2_with fail
                have KEEP : Hid (∀ w', Frm [] WX w' → w'.cell? ⟨w.heap.size, 0, none⟩ = some (.int .i64 m.regs) ∧ w'.cell? ⟨w.heap.size, 1, none⟩ = some (.int .i64 m.data) ∧ w'.cell? ⟨w.heap.size, 2, none⟩ = some (.int .i64 m.plain) ∧ w'.cell? ⟨w.heap.size, 3, none⟩ = some (.slice (some ⟨sb, so, none⟩) m.states.length sc) ∧ w'.cell? ⟨wx.heap.size, 0, none⟩ = some (.int .i64 a.kind) ∧ w'.cell? ⟨wx.heap.size, 1, none⟩ = some (.int .i64 a.ch) ∧ w'.cell? ⟨wx.heap.size, 2, none⟩ = some (.int .i64 2) ∧ w'.cell? ⟨wx.heap.size, 3, none⟩ = some (.int .i64 a.frm) ∧ w'.cell? ⟨wx.heap.size, 4, none⟩ = some (.slice na a.not.length nc) ∧ w'.cell? ⟨wx.heap.size, 5, none⟩ = some (.int .i64 a.to) ∧ w'.cell? ⟨vb, vo + k, none⟩ = some (.int .i64 v) ∧ w'.cell? ⟨wr.heap.size, 0, none⟩ = some (.int .i64 a.to) ∧ w'.cell? ⟨wr.heap.size, 1, none⟩ = some (.int .i64 r0) ∧ w'.cell? ⟨wr.heap.size, 2, none⟩ = some (.int .i64 r1) ∧ w'.cell? ⟨wr.heap.size, 3, none⟩ = some (.int .i64 v) ∧ w'.cell? ⟨wr.heap.size, 4, none⟩ = some (.int .i64 r3)) := Lib.hid fun w' hf => by
                  have hm := (HBI.out.nil (FX.out.trans hf (by simp))).mc
                  have ha9 := (HA9I.out.frm FX.out (by simp)).frm hf (by simp)
                  rw [hr0.out] at ha9
                  have hc := RX.out.frm hf (by simp)
                  exact ⟨hm.cell (i := 0) rfl, hm.cell (i := 1) rfl, hm.cell (i := 2) rfl, hm.cell (i := 3) rfl, ha9.cell (i := 0) rfl, ha9.cell (i := 1) rfl, ha9.cell (i := 2) rfl, ha9.cell (i := 3) rfl, ha9.cell (i := 4) rfl, ha9.cell (i := 5) rfl, hf.cell (FX.out.cell HCV.out (by simp)) (by simp), hc.cell (i := 0) rfl, hc.cell (i := 1) rfl, hc.cell (i := 2) rfl, hc.cell (i := 3) rfl, hc.cell (i := 4) rfl⟩
                have HINS : Hid (∀ W' : World, Frm [] WX W' → Calls Try.prog 74 #[.slice ad L.length cp, .agg #[.int .i64 (evB m n a v), .int .i64 a.to, .int .i64 r0, .int .i64 r1, .int .i64 v, .int .i64 r3]] W' fun e w' => (∃ a' cp', e = .returned (.slice a' (insG lt6 L (evB m n a v, a.to, r0, r1, v, r3)).length cp') ∧ EL W2.heap.size w' (insG lt6 L (evB m n a v, a.to, r0, r1, v, r3)) a' cp' (setG ltM (((row.take i).flatMap (movesB m n (sN, [r0, r1, r2, r3])) ++ (V.take k).map (mkM m n a [r0, r1, r2, r3])) ++ [toM (evB m n a v, a.to, r0, r1, v, r3)])) (i * 12 + k + 1)) ∧ Frm [] W' w') := Lib.hid fun W' hf => by
                  have hE := HEL.out.frm (FX.out.trans hf (by simp))
                  refine (insE_any W2.heap.size ad cp L (evB m n a v, a.to, r0, r1, v, r3) W' hE.own hE.nil (by have := hE.len; have := HI16.out; have := HK12.out; omega) (by have := HSZ.out; have := FX.out.size; have := hf.size; omega)).mono ?_
                  rintro e5 w5 ⟨⟨a5, c5, rfl, ho5⟩, hf5⟩
                  exact ⟨⟨a5, c5, rfl, hE.step ho5⟩, hf5⟩
                have HMK : Hid ((V.take (k + 1)).map (mkM m n a [r0, r1, r2, r3]) = (V.take k).map (mkM m n a [r0, r1, r2, r3]) ++ [toM (evB m n a v, a.to, r0, r1, v, r3)]) := Lib.hid (by
                  rw [List.take_add_one, HVK.out, List.map_append]
                  congr 1
                  show [(evB m n a v, a.to, toR a [r0, r1, r2, r3] v)] = _
                  rw [HQ1.out]; rfl)
                clear e0 e2 e5 q1 q2 q3 q4 cv2 hx3
                go_region_held3 (fun w' => w'.cell? ⟨w.heap.size, 0, none⟩ = some (.int .i64 m.regs) ∧ w'.cell? ⟨w.heap.size, 1, none⟩ = some (.int .i64 m.data) ∧ w'.cell? ⟨w.heap.size, 2, none⟩ = some (.int .i64 m.plain) ∧ w'.cell? ⟨w.heap.size, 3, none⟩ = some (.slice (some ⟨sb, so, none⟩) m.states.length sc) ∧ w'.cell? ⟨wx.heap.size, 0, none⟩ = some (.int .i64 a.kind) ∧ w'.cell? ⟨wx.heap.size, 1, none⟩ = some (.int .i64 a.ch) ∧ w'.cell? ⟨wx.heap.size, 2, none⟩ = some (.int .i64 2) ∧ w'.cell? ⟨wx.heap.size, 3, none⟩ = some (.int .i64 a.frm) ∧ w'.cell? ⟨wx.heap.size, 4, none⟩ = some (.slice na a.not.length nc) ∧ w'.cell? ⟨wx.heap.size, 5, none⟩ = some (.int .i64 a.to) ∧ w'.cell? ⟨vb, vo + k, none⟩ = some (.int .i64 v) ∧ w'.cell? ⟨wr.heap.size, 0, none⟩ = some (.int .i64 a.to) ∧ w'.cell? ⟨wr.heap.size, 1, none⟩ = some (.int .i64 r0) ∧ w'.cell? ⟨wr.heap.size, 2, none⟩ = some (.int .i64 r1) ∧ w'.cell? ⟨wr.heap.size, 3, none⟩ = some (.int .i64 v) ∧ w'.cell? ⟨wr.heap.size, 4, none⟩ = some (.int .i64 r3))
                  (first | exact KEEP.out _ (Frm.refl [] WX) | exact KEEP.out _ (Frm.refl [] WX).drew | exact KEEP.out _ hy5 | exact KEEP.out _ hy6)
                  (first
                    | (go_at_call 40; refine (HEV.out _).mono ?_; rintro e5 w5 ⟨rfl, hf5⟩; have hy5 := (Frm.refl [] WX).drew.trans hf5 (by simp))
                    | (go_at_call 74; refine (HINS.out _ hy5).mono ?_; rintro e6 w6 ⟨⟨a6, c6, rfl, el6⟩, hf6⟩; have hy6 := hy5.trans hf6 (by simp)))
                go_wp2_with fail
                go_roundg (V.length - (k + 1))
                case rel => exact ⟨k + 1, _, a6, c6, rfl, by omega, by go_num, rfl, by rw [HMK.out, ← List.append_assoc]; exact el6, HFI.out.trans (FX.out.trans hy6 (by simp)) (by simp)⟩
                case measure => have := HKQ.out; omega
            · have hr0 := Lib.hid hr
              rw [hr] at e2
              have hev2 := HEV.out
              rw [hr] at hev2
              have HQ1 : Hid (toR a [r0, r1, r2, r3] v = [r0, r1, r2, v]) := Lib.hid (by unfold toR; rw [if_pos HKK.out, setR, hr]; rfl)
              replace HEV := Lib.hid hev2
              clear hr hev2
              rcases hkk with j4 | ⟨j4, j6⟩ | ⟨j4, j6, j7⟩
              all_goals
                go_wp2_with fail
                go_region
                obtain ⟨WX, hWX⟩ : ∃ WX, WX = (wr.alloc (.cells #[.int .i64 a.to, .int .i64 r0, .int .i64 r1, .int .i64 r2, .int .i64 v] 94)).drew := ⟨_, rfl⟩
                have FX := Lib.hid (show Frm [] wr WX by rw [hWX]; exact ((Frm.refl [] wr).alloc _).drew)
                have RX := Lib.hid (show RowAt WX wr.heap.size 94 [.int .i64 a.to, .int .i64 r0, .int .i64 r1, .int .i64 r2, .int .i64 v] by rw [hWX]; exact (RowAt.made wr _ _ _ rfl).drew)
                rw [← hWX]
                clear hWX
                go_wp2_with fail
                have KEEP : Hid (∀ w', Frm [] WX w' → w'.cell? ⟨w.heap.size, 0, none⟩ = some (.int .i64 m.regs) ∧ w'.cell? ⟨w.heap.size, 1, none⟩ = some (.int .i64 m.data) ∧ w'.cell? ⟨w.heap.size, 2, none⟩ = some (.int .i64 m.plain) ∧ w'.cell? ⟨w.heap.size, 3, none⟩ = some (.slice (some ⟨sb, so, none⟩) m.states.length sc) ∧ w'.cell? ⟨wx.heap.size, 0, none⟩ = some (.int .i64 a.kind) ∧ w'.cell? ⟨wx.heap.size, 1, none⟩ = some (.int .i64 a.ch) ∧ w'.cell? ⟨wx.heap.size, 2, none⟩ = some (.int .i64 3) ∧ w'.cell? ⟨wx.heap.size, 3, none⟩ = some (.int .i64 a.frm) ∧ w'.cell? ⟨wx.heap.size, 4, none⟩ = some (.slice na a.not.length nc) ∧ w'.cell? ⟨wx.heap.size, 5, none⟩ = some (.int .i64 a.to) ∧ w'.cell? ⟨vb, vo + k, none⟩ = some (.int .i64 v) ∧ w'.cell? ⟨wr.heap.size, 0, none⟩ = some (.int .i64 a.to) ∧ w'.cell? ⟨wr.heap.size, 1, none⟩ = some (.int .i64 r0) ∧ w'.cell? ⟨wr.heap.size, 2, none⟩ = some (.int .i64 r1) ∧ w'.cell? ⟨wr.heap.size, 3, none⟩ = some (.int .i64 r2) ∧ w'.cell? ⟨wr.heap.size, 4, none⟩ = some (.int .i64 v)) := Lib.hid fun w' hf => by
                  have hm := (HBI.out.nil (FX.out.trans hf (by simp))).mc
                  have ha9 := (HA9I.out.frm FX.out (by simp)).frm hf (by simp)
                  rw [hr0.out] at ha9
                  have hc := RX.out.frm hf (by simp)
                  exact ⟨hm.cell (i := 0) rfl, hm.cell (i := 1) rfl, hm.cell (i := 2) rfl, hm.cell (i := 3) rfl, ha9.cell (i := 0) rfl, ha9.cell (i := 1) rfl, ha9.cell (i := 2) rfl, ha9.cell (i := 3) rfl, ha9.cell (i := 4) rfl, ha9.cell (i := 5) rfl, hf.cell (FX.out.cell HCV.out (by simp)) (by simp), hc.cell (i := 0) rfl, hc.cell (i := 1) rfl, hc.cell (i := 2) rfl, hc.cell (i := 3) rfl, hc.cell (i := 4) rfl⟩
                have HINS : Hid (∀ W' : World, Frm [] WX W' → Calls Try.prog 74 #[.slice ad L.length cp, .agg #[.int .i64 (evB m n a v), .int .i64 a.to, .int .i64 r0, .int .i64 r1, .int .i64 r2, .int .i64 v]] W' fun e w' => (∃ a' cp', e = .returned (.slice a' (insG lt6 L (evB m n a v, a.to, r0, r1, r2, v)).length cp') ∧ EL W2.heap.size w' (insG lt6 L (evB m n a v, a.to, r0, r1, r2, v)) a' cp' (setG ltM (((row.take i).flatMap (movesB m n (sN, [r0, r1, r2, r3])) ++ (V.take k).map (mkM m n a [r0, r1, r2, r3])) ++ [toM (evB m n a v, a.to, r0, r1, r2, v)])) (i * 12 + k + 1)) ∧ Frm [] W' w') := Lib.hid fun W' hf => by
                  have hE := HEL.out.frm (FX.out.trans hf (by simp))
                  refine (insE_any W2.heap.size ad cp L (evB m n a v, a.to, r0, r1, r2, v) W' hE.own hE.nil (by have := hE.len; have := HI16.out; have := HK12.out; omega) (by have := HSZ.out; have := FX.out.size; have := hf.size; omega)).mono ?_
                  rintro e5 w5 ⟨⟨a5, c5, rfl, ho5⟩, hf5⟩
                  exact ⟨⟨a5, c5, rfl, hE.step ho5⟩, hf5⟩
                have HMK : Hid ((V.take (k + 1)).map (mkM m n a [r0, r1, r2, r3]) = (V.take k).map (mkM m n a [r0, r1, r2, r3]) ++ [toM (evB m n a v, a.to, r0, r1, r2, v)]) := Lib.hid (by
                  rw [List.take_add_one, HVK.out, List.map_append]
                  congr 1
                  show [(evB m n a v, a.to, toR a [r0, r1, r2, r3] v)] = _
                  rw [HQ1.out]; rfl)
                clear e0 e2 e5 q1 q2 q3 q4 cv2 hx3
                go_region_held3 (fun w' => w'.cell? ⟨w.heap.size, 0, none⟩ = some (.int .i64 m.regs) ∧ w'.cell? ⟨w.heap.size, 1, none⟩ = some (.int .i64 m.data) ∧ w'.cell? ⟨w.heap.size, 2, none⟩ = some (.int .i64 m.plain) ∧ w'.cell? ⟨w.heap.size, 3, none⟩ = some (.slice (some ⟨sb, so, none⟩) m.states.length sc) ∧ w'.cell? ⟨wx.heap.size, 0, none⟩ = some (.int .i64 a.kind) ∧ w'.cell? ⟨wx.heap.size, 1, none⟩ = some (.int .i64 a.ch) ∧ w'.cell? ⟨wx.heap.size, 2, none⟩ = some (.int .i64 3) ∧ w'.cell? ⟨wx.heap.size, 3, none⟩ = some (.int .i64 a.frm) ∧ w'.cell? ⟨wx.heap.size, 4, none⟩ = some (.slice na a.not.length nc) ∧ w'.cell? ⟨wx.heap.size, 5, none⟩ = some (.int .i64 a.to) ∧ w'.cell? ⟨vb, vo + k, none⟩ = some (.int .i64 v) ∧ w'.cell? ⟨wr.heap.size, 0, none⟩ = some (.int .i64 a.to) ∧ w'.cell? ⟨wr.heap.size, 1, none⟩ = some (.int .i64 r0) ∧ w'.cell? ⟨wr.heap.size, 2, none⟩ = some (.int .i64 r1) ∧ w'.cell? ⟨wr.heap.size, 3, none⟩ = some (.int .i64 r2) ∧ w'.cell? ⟨wr.heap.size, 4, none⟩ = some (.int .i64 v))
                  (first | exact KEEP.out _ (Frm.refl [] WX) | exact KEEP.out _ (Frm.refl [] WX).drew | exact KEEP.out _ hy5 | exact KEEP.out _ hy6)
                  (first
                    | (go_at_call 40; refine (HEV.out _).mono ?_; rintro e5 w5 ⟨rfl, hf5⟩; have hy5 := (Frm.refl [] WX).drew.trans hf5 (by simp))
                    | (go_at_call 74; refine (HINS.out _ hy5).mono ?_; rintro e6 w6 ⟨⟨a6, c6, rfl, el6⟩, hf6⟩; have hy6 := hy5.trans hf6 (by simp)))
                go_wp2_with fail
                go_roundg (V.length - (k + 1))
                case rel => exact ⟨k + 1, _, a6, c6, rfl, by omega, by go_num, rfl, by rw [HMK.out, ← List.append_assoc]; exact el6, HFI.out.trans (FX.out.trans hy6 (by simp)) (by simp)⟩
                case measure => have := HKQ.out; omega
          · by_cases hk0 : a.kind = 4 ∨ a.kind = 6 ∨ a.kind = 7
            · have hr : a.reg = -1 := by
                have h1 : ¬ 0 ≤ a.reg := fun h => hw ⟨hk0, h⟩
                omega
              have hk4 : a.kind = 4 := by
                by_cases h4 : a.kind = 4
                · exact h4
                · have := hrg5 h4
                  omega
              have j4 : (a.kind == 4) = true := by rw [hk4]; rfl
              have hr0 := Lib.hid hr
              rw [hr] at e2
              have hev2 := HEV.out
              rw [hr] at hev2
              have HQ1 : Hid (toR a [r0, r1, r2, r3] v = [r0, r1, r2, r3]) := Lib.hid (by unfold toR; rw [if_pos hk0, setR, hr]; rfl)
              replace HEV := Lib.hid hev2
              clear hr hev2 hk4 hk0 hw hrg hrg5
              go_wp2_with fail
              obtain ⟨WX, hWX⟩ : ∃ WX, WX = wr.alloc (.cells #[.int .i64 a.to, .int .i64 r0, .int .i64 r1, .int .i64 r2, .int .i64 r3] 94) := ⟨_, rfl⟩
              have FX := Lib.hid (show Frm [] wr WX by rw [hWX]; exact (Frm.refl [] wr).alloc _)
              have RX := Lib.hid (show RowAt WX wr.heap.size 94 [.int .i64 a.to, .int .i64 r0, .int .i64 r1, .int .i64 r2, .int .i64 r3] by rw [hWX]; exact RowAt.made wr _ _ _ rfl)
              rw [← hWX]
              clear hWX
              have KEEP : Hid (∀ w', Frm [] WX w' → w'.cell? ⟨w.heap.size, 0, none⟩ = some (.int .i64 m.regs) ∧ w'.cell? ⟨w.heap.size, 1, none⟩ = some (.int .i64 m.data) ∧ w'.cell? ⟨w.heap.size, 2, none⟩ = some (.int .i64 m.plain) ∧ w'.cell? ⟨w.heap.size, 3, none⟩ = some (.slice (some ⟨sb, so, none⟩) m.states.length sc) ∧ w'.cell? ⟨wx.heap.size, 0, none⟩ = some (.int .i64 a.kind) ∧ w'.cell? ⟨wx.heap.size, 1, none⟩ = some (.int .i64 a.ch) ∧ w'.cell? ⟨wx.heap.size, 2, none⟩ = some (.int .i64 (-1)) ∧ w'.cell? ⟨wx.heap.size, 3, none⟩ = some (.int .i64 a.frm) ∧ w'.cell? ⟨wx.heap.size, 4, none⟩ = some (.slice na a.not.length nc) ∧ w'.cell? ⟨wx.heap.size, 5, none⟩ = some (.int .i64 a.to) ∧ w'.cell? ⟨vb, vo + k, none⟩ = some (.int .i64 v) ∧ w'.cell? ⟨wr.heap.size, 0, none⟩ = some (.int .i64 a.to) ∧ w'.cell? ⟨wr.heap.size, 1, none⟩ = some (.int .i64 r0) ∧ w'.cell? ⟨wr.heap.size, 2, none⟩ = some (.int .i64 r1) ∧ w'.cell? ⟨wr.heap.size, 3, none⟩ = some (.int .i64 r2) ∧ w'.cell? ⟨wr.heap.size, 4, none⟩ = some (.int .i64 r3)) := Lib.hid fun w' hf => by
                have hm := (HBI.out.nil (FX.out.trans hf (by simp))).mc
                have ha9 := (HA9I.out.frm FX.out (by simp)).frm hf (by simp)
                rw [hr0.out] at ha9
                have hc := RX.out.frm hf (by simp)
                exact ⟨hm.cell (i := 0) rfl, hm.cell (i := 1) rfl, hm.cell (i := 2) rfl, hm.cell (i := 3) rfl, ha9.cell (i := 0) rfl, ha9.cell (i := 1) rfl, ha9.cell (i := 2) rfl, ha9.cell (i := 3) rfl, ha9.cell (i := 4) rfl, ha9.cell (i := 5) rfl, hf.cell (FX.out.cell HCV.out (by simp)) (by simp), hc.cell (i := 0) rfl, hc.cell (i := 1) rfl, hc.cell (i := 2) rfl, hc.cell (i := 3) rfl, hc.cell (i := 4) rfl⟩
              have HINS : Hid (∀ W' : World, Frm [] WX W' → Calls Try.prog 74 #[.slice ad L.length cp, .agg #[.int .i64 (evB m n a v), .int .i64 a.to, .int .i64 r0, .int .i64 r1, .int .i64 r2, .int .i64 r3]] W' fun e w' => (∃ a' cp', e = .returned (.slice a' (insG lt6 L (evB m n a v, a.to, r0, r1, r2, r3)).length cp') ∧ EL W2.heap.size w' (insG lt6 L (evB m n a v, a.to, r0, r1, r2, r3)) a' cp' (setG ltM (((row.take i).flatMap (movesB m n (sN, [r0, r1, r2, r3])) ++ (V.take k).map (mkM m n a [r0, r1, r2, r3])) ++ [toM (evB m n a v, a.to, r0, r1, r2, r3)])) (i * 12 + k + 1)) ∧ Frm [] W' w') := Lib.hid fun W' hf => by
                have hE := HEL.out.frm (FX.out.trans hf (by simp))
                refine (insE_any W2.heap.size ad cp L (evB m n a v, a.to, r0, r1, r2, r3) W' hE.own hE.nil (by have := hE.len; have := HI16.out; have := HK12.out; omega) (by have := HSZ.out; have := FX.out.size; have := hf.size; omega)).mono ?_
                rintro e5 w5 ⟨⟨a5, c5, rfl, ho5⟩, hf5⟩
                exact ⟨⟨a5, c5, rfl, hE.step ho5⟩, hf5⟩
              have HMK : Hid ((V.take (k + 1)).map (mkM m n a [r0, r1, r2, r3]) = (V.take k).map (mkM m n a [r0, r1, r2, r3]) ++ [toM (evB m n a v, a.to, r0, r1, r2, r3)]) := Lib.hid (by
                rw [List.take_add_one, HVK.out, List.map_append]
                congr 1
                show [(evB m n a v, a.to, toR a [r0, r1, r2, r3] v)] = _
                rw [HQ1.out]; rfl)
              clear e0 e2 e5 q1 q2 q3 q4 cv2 hx3
              go_region_held3 (fun w' => w'.cell? ⟨w.heap.size, 0, none⟩ = some (.int .i64 m.regs) ∧ w'.cell? ⟨w.heap.size, 1, none⟩ = some (.int .i64 m.data) ∧ w'.cell? ⟨w.heap.size, 2, none⟩ = some (.int .i64 m.plain) ∧ w'.cell? ⟨w.heap.size, 3, none⟩ = some (.slice (some ⟨sb, so, none⟩) m.states.length sc) ∧ w'.cell? ⟨wx.heap.size, 0, none⟩ = some (.int .i64 a.kind) ∧ w'.cell? ⟨wx.heap.size, 1, none⟩ = some (.int .i64 a.ch) ∧ w'.cell? ⟨wx.heap.size, 2, none⟩ = some (.int .i64 (-1)) ∧ w'.cell? ⟨wx.heap.size, 3, none⟩ = some (.int .i64 a.frm) ∧ w'.cell? ⟨wx.heap.size, 4, none⟩ = some (.slice na a.not.length nc) ∧ w'.cell? ⟨wx.heap.size, 5, none⟩ = some (.int .i64 a.to) ∧ w'.cell? ⟨vb, vo + k, none⟩ = some (.int .i64 v) ∧ w'.cell? ⟨wr.heap.size, 0, none⟩ = some (.int .i64 a.to) ∧ w'.cell? ⟨wr.heap.size, 1, none⟩ = some (.int .i64 r0) ∧ w'.cell? ⟨wr.heap.size, 2, none⟩ = some (.int .i64 r1) ∧ w'.cell? ⟨wr.heap.size, 3, none⟩ = some (.int .i64 r2) ∧ w'.cell? ⟨wr.heap.size, 4, none⟩ = some (.int .i64 r3))
                (first | exact KEEP.out _ (Frm.refl [] WX) | exact KEEP.out _ (Frm.refl [] WX).drew | exact KEEP.out _ hy5 | exact KEEP.out _ hy6)
                (first
                  | (go_at_call 40; refine (HEV.out _).mono ?_; rintro e5 w5 ⟨rfl, hf5⟩; have hy5 := (Frm.refl [] WX).drew.trans hf5 (by simp))
                  | (go_at_call 74; refine (HINS.out _ hy5).mono ?_; rintro e6 w6 ⟨⟨a6, c6, rfl, el6⟩, hf6⟩; have hy6 := hy5.trans hf6 (by simp)))
              go_wp2_with fail
              go_roundg (V.length - (k + 1))
              case rel => exact ⟨k + 1, _, a6, c6, rfl, by omega, by go_num, rfl, by rw [HMK.out, ← List.append_assoc]; exact el6, HFI.out.trans (FX.out.trans hy6 (by simp)) (by simp)⟩
              case measure => have := HKQ.out; omega
            · have j4 : (a.kind == 4) = false := by simp only [beq_eq_false_iff_ne]; omega
              have j6 : (a.kind == 6) = false := by simp only [beq_eq_false_iff_ne]; omega
              have j7 : (a.kind == 7) = false := by simp only [beq_eq_false_iff_ne]; omega
              have HQ1 : Hid (toR a [r0, r1, r2, r3] v = [r0, r1, r2, r3]) := Lib.hid (by unfold toR; rw [if_neg hk0])
              clear hk0 hw hrg hrg5
              go_wp2_with fail
              obtain ⟨WX, hWX⟩ : ∃ WX, WX = wr.alloc (.cells #[.int .i64 a.to, .int .i64 r0, .int .i64 r1, .int .i64 r2, .int .i64 r3] 94) := ⟨_, rfl⟩
              have FX := Lib.hid (show Frm [] wr WX by rw [hWX]; exact (Frm.refl [] wr).alloc _)
              have RX := Lib.hid (show RowAt WX wr.heap.size 94 [.int .i64 a.to, .int .i64 r0, .int .i64 r1, .int .i64 r2, .int .i64 r3] by rw [hWX]; exact RowAt.made wr _ _ _ rfl)
              rw [← hWX]
              clear hWX
              have KEEP : Hid (∀ w', Frm [] WX w' → w'.cell? ⟨w.heap.size, 0, none⟩ = some (.int .i64 m.regs) ∧ w'.cell? ⟨w.heap.size, 1, none⟩ = some (.int .i64 m.data) ∧ w'.cell? ⟨w.heap.size, 2, none⟩ = some (.int .i64 m.plain) ∧ w'.cell? ⟨w.heap.size, 3, none⟩ = some (.slice (some ⟨sb, so, none⟩) m.states.length sc) ∧ w'.cell? ⟨wx.heap.size, 0, none⟩ = some (.int .i64 a.kind) ∧ w'.cell? ⟨wx.heap.size, 1, none⟩ = some (.int .i64 a.ch) ∧ w'.cell? ⟨wx.heap.size, 2, none⟩ = some (.int .i64 a.reg) ∧ w'.cell? ⟨wx.heap.size, 3, none⟩ = some (.int .i64 a.frm) ∧ w'.cell? ⟨wx.heap.size, 4, none⟩ = some (.slice na a.not.length nc) ∧ w'.cell? ⟨wx.heap.size, 5, none⟩ = some (.int .i64 a.to) ∧ w'.cell? ⟨vb, vo + k, none⟩ = some (.int .i64 v) ∧ w'.cell? ⟨wr.heap.size, 0, none⟩ = some (.int .i64 a.to) ∧ w'.cell? ⟨wr.heap.size, 1, none⟩ = some (.int .i64 r0) ∧ w'.cell? ⟨wr.heap.size, 2, none⟩ = some (.int .i64 r1) ∧ w'.cell? ⟨wr.heap.size, 3, none⟩ = some (.int .i64 r2) ∧ w'.cell? ⟨wr.heap.size, 4, none⟩ = some (.int .i64 r3)) := Lib.hid fun w' hf => by
                have hm := (HBI.out.nil (FX.out.trans hf (by simp))).mc
                have ha9 := (HA9I.out.frm FX.out (by simp)).frm hf (by simp)
                skip
                have hc := RX.out.frm hf (by simp)
                exact ⟨hm.cell (i := 0) rfl, hm.cell (i := 1) rfl, hm.cell (i := 2) rfl, hm.cell (i := 3) rfl, ha9.cell (i := 0) rfl, ha9.cell (i := 1) rfl, ha9.cell (i := 2) rfl, ha9.cell (i := 3) rfl, ha9.cell (i := 4) rfl, ha9.cell (i := 5) rfl, hf.cell (FX.out.cell HCV.out (by simp)) (by simp), hc.cell (i := 0) rfl, hc.cell (i := 1) rfl, hc.cell (i := 2) rfl, hc.cell (i := 3) rfl, hc.cell (i := 4) rfl⟩
              have HINS : Hid (∀ W' : World, Frm [] WX W' → Calls Try.prog 74 #[.slice ad L.length cp, .agg #[.int .i64 (evB m n a v), .int .i64 a.to, .int .i64 r0, .int .i64 r1, .int .i64 r2, .int .i64 r3]] W' fun e w' => (∃ a' cp', e = .returned (.slice a' (insG lt6 L (evB m n a v, a.to, r0, r1, r2, r3)).length cp') ∧ EL W2.heap.size w' (insG lt6 L (evB m n a v, a.to, r0, r1, r2, r3)) a' cp' (setG ltM (((row.take i).flatMap (movesB m n (sN, [r0, r1, r2, r3])) ++ (V.take k).map (mkM m n a [r0, r1, r2, r3])) ++ [toM (evB m n a v, a.to, r0, r1, r2, r3)])) (i * 12 + k + 1)) ∧ Frm [] W' w') := Lib.hid fun W' hf => by
                have hE := HEL.out.frm (FX.out.trans hf (by simp))
                refine (insE_any W2.heap.size ad cp L (evB m n a v, a.to, r0, r1, r2, r3) W' hE.own hE.nil (by have := hE.len; have := HI16.out; have := HK12.out; omega) (by have := HSZ.out; have := FX.out.size; have := hf.size; omega)).mono ?_
                rintro e5 w5 ⟨⟨a5, c5, rfl, ho5⟩, hf5⟩
                exact ⟨⟨a5, c5, rfl, hE.step ho5⟩, hf5⟩
              have HMK : Hid ((V.take (k + 1)).map (mkM m n a [r0, r1, r2, r3]) = (V.take k).map (mkM m n a [r0, r1, r2, r3]) ++ [toM (evB m n a v, a.to, r0, r1, r2, r3)]) := Lib.hid (by
                rw [List.take_add_one, HVK.out, List.map_append]
                congr 1
                show [(evB m n a v, a.to, toR a [r0, r1, r2, r3] v)] = _
                rw [HQ1.out]; rfl)
              clear e0 e2 e5 q1 q2 q3 q4 cv2 hx3
              go_region_held3 (fun w' => w'.cell? ⟨w.heap.size, 0, none⟩ = some (.int .i64 m.regs) ∧ w'.cell? ⟨w.heap.size, 1, none⟩ = some (.int .i64 m.data) ∧ w'.cell? ⟨w.heap.size, 2, none⟩ = some (.int .i64 m.plain) ∧ w'.cell? ⟨w.heap.size, 3, none⟩ = some (.slice (some ⟨sb, so, none⟩) m.states.length sc) ∧ w'.cell? ⟨wx.heap.size, 0, none⟩ = some (.int .i64 a.kind) ∧ w'.cell? ⟨wx.heap.size, 1, none⟩ = some (.int .i64 a.ch) ∧ w'.cell? ⟨wx.heap.size, 2, none⟩ = some (.int .i64 a.reg) ∧ w'.cell? ⟨wx.heap.size, 3, none⟩ = some (.int .i64 a.frm) ∧ w'.cell? ⟨wx.heap.size, 4, none⟩ = some (.slice na a.not.length nc) ∧ w'.cell? ⟨wx.heap.size, 5, none⟩ = some (.int .i64 a.to) ∧ w'.cell? ⟨vb, vo + k, none⟩ = some (.int .i64 v) ∧ w'.cell? ⟨wr.heap.size, 0, none⟩ = some (.int .i64 a.to) ∧ w'.cell? ⟨wr.heap.size, 1, none⟩ = some (.int .i64 r0) ∧ w'.cell? ⟨wr.heap.size, 2, none⟩ = some (.int .i64 r1) ∧ w'.cell? ⟨wr.heap.size, 3, none⟩ = some (.int .i64 r2) ∧ w'.cell? ⟨wr.heap.size, 4, none⟩ = some (.int .i64 r3))
                (first | exact KEEP.out _ (Frm.refl [] WX) | exact KEEP.out _ (Frm.refl [] WX).drew | exact KEEP.out _ hy5 | exact KEEP.out _ hy6)
                (first
                  | (go_at_call 40; refine (HEV.out _).mono ?_; rintro e5 w5 ⟨rfl, hf5⟩; have hy5 := (Frm.refl [] WX).drew.trans hf5 (by simp))
                  | (go_at_call 74; refine (HINS.out _ hy5).mono ?_; rintro e6 w6 ⟨⟨a6, c6, rfl, el6⟩, hf6⟩; have hy6 := hy5.trans hf6 (by simp)))
              go_wp2_with fail
              go_roundg (V.length - (k + 1))
              case rel => exact ⟨k + 1, _, a6, c6, rfl, by omega, by go_num, rfl, by rw [HMK.out, ← List.append_assoc]; exact el6, HFI.out.trans (FX.out.trans hy6 (by simp)) (by simp)⟩
              case measure => have := HKQ.out; omega
        · have i9 : ¬ (k : Int) < (V.length : Int) := by omega
          have HKV := Lib.hid (show k = V.length by omega)
          go_wp2_with fail
          go_roundg (row.length - (i + 1))
          case rel =>
            refine ⟨i + 1, L, ad, cp, rfl, by omega, by go_num, rfl, ⟨?_, HEL.out.own, HEL.out.nil, by have := HEL.out.len; have := HKV.out; have := HVL.out; omega⟩, HF.out.trans (FA.out.trans HFI.out (by simp)) (by simp)⟩
            rw [HEL.out.map, HKV.out, List.take_length, List.take_add_one, HA.out, List.flatMap_append, ← HMV.out]
            simp
          case measure => have := HQ.out; omega
    · have i5 : ¬ (i : Int) < (row.length : Int) := by omega
      have i6 : (row.length : Int) ≤ 16 := by have := H16.out; omega
      have HIR := Lib.hid (show i = row.length by omega)
      go_wp2_with fail
      go_ret
      exact ⟨⟨L, ad, cp, by rw [HEL0.out.map, HIR.out, List.take_length], rfl, ownsB_mono HEL0.out.own HBX.out.frm.size⟩, HBX.out.frm.trans HF.out (by simp)⟩

end Go.Proofs.Ytfndgiinniibfaa.Ind
