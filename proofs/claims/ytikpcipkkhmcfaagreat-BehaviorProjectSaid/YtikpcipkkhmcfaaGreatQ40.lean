/- Contract of the reference's After. (Cut from C2.) -/
import Derived.Test.YtikpcipkkhmcfaaGreatQ28
import Derived.Test.YtikpcipkkhmcfaaGreatQ20
import Derived.Test.YtikpcipkkhmcfaaGreatQ39
namespace Go.Proofs.YtikpcipkkhmcfaaGreat
open Go.RowKit

def AftC (l : Lts) (fs : List Int) (ev : Int) : Prop := validB l = true ∧ fs.all (inB l.length) = true ∧ 0 ≤ ev ∧ ev ≤ 1025
structure AftU (l : Lts) (fs : List Int) (ev : Int) (n : Nat) (xs : List Int) : Prop where
 yes : AftC l fs ev → ∃ vs, xs = natI vs ∧ n = vs.length ∧ IsAft l (fs.map Int.toNat) ev vs
 no : ¬ AftC l fs ev → n = 0 ∧ xs = []
theorem AftU.unique {l : Lts} {fs : List Int} {ev : Int} {n m : Nat} {xs ys : List Int} (h : AftU l fs ev n xs) (k : AftU l fs ev m ys) : n = m ∧ xs = ys := by
 by_cases hc : AftC l fs ev
 ·obtain ⟨vs, h1, h2, h3⟩ := h.yes hc
  obtain ⟨us, k1, k2, k3⟩ := k.yes hc
  obtain rfl := h3.unique k3
  exact ⟨by omega, by rw [h1, k1]⟩
 ·obtain ⟨h1, h2⟩ := h.no hc
  obtain ⟨k1, k2⟩ := k.no hc
  exact ⟨by omega, by rw [h2, k2]⟩
def AftX (B : Nat) (l : Lts) (fs : List Int) (ev : Int) (w' : World) (e : Ending) : Prop :=
 ∃ (a : Option Addr) (c n : Nat) (xs : List Int), e = .returned (.slice a n c) ∧ w'.ownsRow B 3 1 (.slice a n c) n (ints xs) ∧ AftU l fs ev n xs
theorem AftX.nil {B : Nat} {l : Lts} {fs : List Int} {ev : Int} {w' : World} (h : ¬ AftC l fs ev) : AftX B l fs ev w' (.returned (.slice none 0 0)) :=
 ⟨none, 0, 0, [], rfl, World.ownsRow_nil _ _ _ _, ⟨fun h9 => absurd h9 h, fun _ => ⟨rfl, rfl⟩⟩⟩
theorem AftX.mk {B : Nat} {l : Lts} {fs : List Int} {ev : Int} {w' : World} {a : Option Addr} {c : Nat} {vs fr : List Nat} (hfr : fs.map Int.toNat = fr) (hc : AftC l fs ev) (ho : w'.ownsRow B 3 1 (.slice a vs.length c) vs.length (ints (natI vs))) (h : IsAft l fr ev vs) : AftX B l fs ev w' (.returned (.slice a vs.length c)) :=
 ⟨a, c, vs.length, natI vs, rfl, ho, ⟨fun _ => ⟨vs, rfl, rfl, by rw [hfr]; exact h⟩, fun h9 => absurd hc h9⟩⟩

theorem add_nx {nx : List Nat} (m : Nat) (ha : nx.Pairwise (· < ·)) : ∃ nx2 : List Nat, nx2.Pairwise (· < ·) ∧ (∀ v, v ∈ nx2 ↔ v = m ∨ v ∈ nx) ∧ nx2 ≠ [] ∧
  ∀ (B : Nat) (a7 : Option Addr) (c7 : Nat) (W : World), B ≤ W.heap.size → W.ownsRow B 3 1 (.slice a7 nx.length c7) nx.length (ints (natI nx)) → (nx = [] → a7 = none ∧ c7 = 0) → nx.length ≤ 1000000 →
   Calls Tryz.prog 73 #[.slice a7 nx.length c7, .int .i64 (m : Int)] W fun e w' => ∃ a c, e = .returned (.slice a nx2.length c) ∧ w'.ownsRow B 3 1 (.slice a nx2.length c) nx2.length (ints (natI nx2)) ∧ Frm [] W w' := by
 obtain ⟨nx2, hadd, hasc2, hmem2⟩ := add_nat (m := m) ha
 refine ⟨nx2, hasc2, hmem2, fun h0 => ?_, fun B a7 c7 W hB hown hz hl => ?_⟩
 ·have := (hmem2 m).2 (.inl rfl)
  rw [h0] at this
  cases this
 ·have hcall := add_any B a7 c7 (natI nx) (m : Int) W hB (by rw [OwnI, natI_len]; exact hown) (fun h0 => hz (by simpa [natI] using h0)) (by rw [natI_len]; omega)
  simp only [natI_len, hadd] at hcall
  refine hcall.mono ?_
  rintro e w' ⟨a, c, h1, h2, h3⟩
  rw [OwnI, natI_len] at h2
  exact ⟨a, c, h1, h2, h3⟩

set_option linter.unusedSimpArgs false in
set_option maxRecDepth 100000 in
set_option maxHeartbeats 4000000 in
theorem raft_any (B0 : Nat) (a : Option Addr) (cap : Nat) (l : Lts) (fa : Option Addr) (fc : Nat) (fs : List Int) (ev : Int) (w : World) (h : LAt B0 w a cap l) (hfr0 : Rd w.heap.size w fa fs.length fc 1 (ints fs)) (hnil : fa = none → fc = 0) (hfl : fs.length ≤ 100000) :
  Calls Tryz.prog 44 #[.agg #[.slice a l.length cap], .slice fa fs.length fc, .int .i64 ev] w fun e w' => AftX w.heap.size l fs ev w' e ∧ Frm [] w w' := by
 have f0 : Frm [] w (w.alloc (.cells #[.slice a l.length cap] 25)) := (Frm.refl [] w).alloc _
 have hcut0 := h.cut
 clear h
 have h := hcut0
 clear hcut0
 have hbox := box1 w (.slice a l.length cap) 25
 have HB := Lib.hid hbox
 have HL0 := Lib.hid (h.nil f0 rfl)
 have HFR0 := Lib.hid (hfr0.frm f0 (by simp))
 have hva := refValid_any w.heap.size a cap l _ (h.nil f0 rfl)
 have hl := h.lt
 have HNIL := Lib.hid hnil
 clear h hbox hfr0 hnil
 go_enter Tryz.func44, Tryz.ntmps44
 go_wp2_with fail
 refine hva.mono ?_
 rintro e1 w1 ⟨rfl, hf1⟩
 clear hva
 have F1 := f0.trans hf1 (by simp)
 have hb1 := (HB.out.frm hf1 (by simp)).cell (i := 0) rfl
 cases hv : validB l with
 | false =>
  have HR : Hid (AftX w.heap.size l fs ev w1 (.returned (.slice none 0 0))) := Lib.hid (AftX.nil (fun h9 => by rw [h9.1] at hv; cases hv))
  clear hv
  go_wp2_with fail
  go_ret
  exact ⟨HR.out, F1⟩
 | true =>
  have HVB := Lib.hid hv
  have HV := Lib.hid (vlts_of hv)
  have hfew := (vlts_of hv).few
  have i2 : (l.length : Int) ≤ 16384 := by omega
  have HF01 := Lib.hid hf1
  have hst := instates_any w.heap.size a cap l fa fc fs w1 (HL0.out.nil hf1 rfl) (HFR0.out.frm hf1 (by simp))
  clear hv hf1
  go_wp2_with fail
  refine hst.mono ?_
  rintro e2 w2 ⟨rfl, hf2⟩
  clear hst hb1
  have F2 := F1.trans hf2 (by simp)
  have HF02 := Lib.hid (HF01.out.trans hf2 (by simp))
  have hb2 := HF02.out.cell (HB.out.cell (i := 0) rfl) (by simp)
  clear hf2 F1
  cases hst : fs.all (inB l.length) with
  | false =>
   have HR : Hid (AftX w.heap.size l fs ev w2 (.returned (.slice none 0 0))) := Lib.hid (AftX.nil (fun h9 => by rw [h9.2.1] at hst; cases hst))
   clear hst
   go_wp2_with fail
   go_ret
   exact ⟨HR.out, F2⟩
  | true =>
   have HST := Lib.hid hst
   clear hst
   by_cases he1 : ev < 0
   ·have HR : Hid (AftX w.heap.size l fs ev w2 (.returned (.slice none 0 0))) := Lib.hid (AftX.nil (fun h9 => by have := h9.2.2.1; omega))
    go_wp2_with fail
    go_ret
    exact ⟨HR.out, F2⟩
   ·by_cases he2 : 1025 < ev
    ·have HR : Hid (AftX w.heap.size l fs ev w2 (.returned (.slice none 0 0))) := Lib.hid (AftX.nil (fun h9 => by have := h9.2.2.2; omega))
     go_wp2_with fail
     go_ret
     exact ⟨HR.out, F2⟩
    ·have HC : Hid (AftC l fs ev) := Lib.hid ⟨HVB.out, HST.out, by omega, by omega⟩
     have hsz2 := F2.size
     have HL2 := Lib.hid (HL0.out.nil HF02.out rfl)
     have hrr := rreach_any w.heap.size a cap l fa fc fs true w2 HL2.out ((HFR0.out.frm HF02.out (by simp)).mono hsz2) HNIL.out hfl
     have HF2 := Lib.hid F2
     have HB2 := Lib.hid (HB.out.frm HF02.out (by simp))
     clear F2
     go_wp2_with fail
     refine hrr.mono ?_
     rintro e3 w3 ⟨h3, hf3⟩
     rw [ReachEnd, if_pos ⟨HVB.out, HST.out⟩] at h3
     obtain ⟨a3, c3, vs, rfl, hown3, hir3⟩ := h3
     have HOWN3 := Lib.hid hown3
     have HIR3 := Lib.hid hir3
     have HF3 := Lib.hid (HF2.out.trans hf3 (by simp))
     have hsz3 := hf3.size
     have HVN : Hid (∀ v ∈ vs, v < l.length) := Lib.hid (fun v hv => by
      obtain ⟨s, hs, hp⟩ := (hir3.mem v).1 hv
      obtain ⟨x, hx, rfl⟩ := List.mem_map.1 hs
      have := (inB_iff _ _).1 (List.all_eq_true.1 HST.out x hx)
      exact hp.lt (esel_edge HV.out true) (by omega))
     have hvl : vs.length ≤ l.length := asc_few hir3.asc HVN.out
     have i3 : (vs.length : Int) ≤ 16384 := by omega
     have HL3 := Lib.hid (HL2.out.nil hf3 rfl)
     have HB3 := Lib.hid (HB2.out.frm hf3 (by simp))
     have hb3 := HB3.out.cell (i := 0) rfl
     by_cases he0 : ev = 0
     ·have HE : Hid (AftX w.heap.size l fs ev w3 (.returned (.slice a3 vs.length c3))) := Lib.hid (AftX.mk rfl HC.out (ownsB_mono hown3 (by omega)) (.inl ⟨he0, hir3⟩))
      subst he0
      clear hrr hown3 hf3 hir3 hb2
      go_wp2_with fail
      go_ret
      exact ⟨HE.out, HF3.out⟩
     ·have heb : (ev == 0) = false := by simpa using he0
      have HE0 := Lib.hid he0
      clear hrr hown3 hf3 hir3 hb2 he0
      go_wp2_with fail
      go_loopg [8, 9] vs.length (fun q s8 s9 wr => ∃ (i : Nat) (nx : List Nat) (a7 : Option Addr) (c7 : Nat), q = vs.length - i ∧ i ≤ vs.length ∧ s9 = .int .i64 (i : Int) ∧ s8 = .slice a7 nx.length c7 ∧ nx.Pairwise (· < ·) ∧ TD l ev vs i nx ∧ wr.ownsRow w3.heap.size 3 1 (.slice a7 nx.length c7) nx.length (ints (natI nx)) ∧ (nx = [] → a7 = none ∧ c7 = 0) ∧ Frm [] w3 wr)
      case atStart => exact ⟨0, [], none, 0, rfl, Nat.zero_le _, rfl, rfl, List.Pairwise.nil, TD.start _ _ _, World.ownsRow_nil _ _ _ _, fun _ => ⟨rfl, rfl⟩, Frm.refl _ _⟩
      case round =>
       obtain ⟨i, nx, a7, c7, rfl, hi, rfl, rfl, hasc, htd, hown7, hz7, hF7⟩ := hrel
       have HASC := Lib.hid hasc
       have HTD := Lib.hid htd
       have HOWN7 := Lib.hid hown7
       have HZ7 := Lib.hid hz7
       have HF7 := Lib.hid hF7
       have i9 : (0 : Int) ≤ (i : Int) := by omega
       have cb7 := hF7.cell (HB3.out.cell (i := 0) rfl) (by simp)
       clear hasc htd hown7 hz7 hF7 hb3
       by_cases hil : i < vs.length
       ·have i11 : (i : Int) < (vs.length : Int) := by omega
        obtain ⟨s, hs⟩ : ∃ s, vs[i]? = some s := ⟨_, List.getElem?_eq_getElem hil⟩
        have hsl := HVN.out s (List.mem_of_getElem? hs)
        obtain ⟨g3, c3', he, _, _, hrow3⟩ := owns_some (ownsB_mono HOWN3.out (Nat.zero_le _)) (show 0 < vs.length by omega)
        obtain ⟨rfl, rfl⟩ : a3 = some ⟨g3, 0, none⟩ ∧ c3 = c3' := by simpa using he
        have CS0 := Lib.hid (hrow3.cell (ints_get (natI_get hs)))
        have cs := HF7.out.cell CS0.out (by simp)
        obtain ⟨row, hrw⟩ : ∃ row, l[s]? = some row := ⟨_, List.getElem?_eq_getElem hsl⟩
        obtain ⟨bl, ol, ra, rc, hla, hblB, q1, hrr⟩ := HL3.out.cell s row hrw
        have hla' := hla
        subst hla'
        have hfewr := (HV.out.row row (List.mem_of_getElem? hrw)).few
        have HRR := Lib.hid hrr
        have Q1 := Lib.hid q1
        have HS := Lib.hid hs
        have HROW := Lib.hid hrw
        have i12 : (row.length : Int) ≤ 262144 := by omega
        have i13 : (0 : Int) ≤ (s : Int) := by omega
        have i14 : (s : Int) < (l.length : Int) := by omega
        clear hs hrw hrr q1 hla cs hrow3 he
        go_wp2_with fail
        go_loopg [8, 10] row.length (fun q s8 s10 wr => ∃ (j : Nat) (nx : List Nat) (a7 : Option Addr) (c7 : Nat), q = row.length - j ∧ j ≤ row.length ∧ s10 = .int .i64 (j : Int) ∧ s8 = .slice a7 nx.length c7 ∧ nx.Pairwise (· < ·) ∧ TP l ev vs i row j nx ∧ wr.ownsRow w3.heap.size 3 1 (.slice a7 nx.length c7) nx.length (ints (natI nx)) ∧ (nx = [] → a7 = none ∧ c7 = 0) ∧ Frm [] w3 wr)
        case atStart => exact ⟨0, nx, a7, c7, rfl, Nat.zero_le _, rfl, rfl, HASC.out, HTD.out.part row, HOWN7.out, HZ7.out, HF7.out⟩
        case round =>
         clear HASC HTD HOWN7 HZ7 HF7 cb7
         obtain ⟨j, nx, a7, c7, rfl, hj, rfl, rfl, hasc, htp, hown7, hz7, hF7⟩ := hrel
         have HASC := Lib.hid hasc
         have HTP := Lib.hid htp
         have HOWN7 := Lib.hid hown7
         have HZ7 := Lib.hid hz7
         have HF7 := Lib.hid hF7
         have i15 : (0 : Int) ≤ (j : Int) := by omega
         have cb7 := hF7.cell (HB3.out.cell (i := 0) rfl) (by simp)
         have cs7 := hF7.cell CS0.out (by simp)
         have q7 := hF7.cell Q1.out (by simp)
         have hsz7 := hF7.size
         have hnxl := asc_few hasc (n := l.length) (fun t ht => by
          rcases (htp t).1 ht with ⟨u, hu, h1⟩ | ⟨y, hy, -, rfl⟩
          ·exact aim_edge HV.out u t (HVN.out u (List.mem_of_mem_take hu)) h1
          ·have := (HV.out.row row (List.mem_of_getElem? HROW.out)).ok y.1 y.2 (List.mem_of_mem_take hy)
           omega)
         clear hasc htp hown7 hz7 hF7
         by_cases hjl : j < row.length
         ·have i16 : (j : Int) < (row.length : Int) := by omega
          obtain ⟨⟨e, t⟩, harc⟩ : ∃ y, row[j]? = some y := ⟨_, List.getElem?_eq_getElem hjl⟩
          have hok := (HV.out.row row (List.mem_of_getElem? HROW.out)).ok e t (List.mem_of_getElem? harc)
          obtain ⟨m, rfl⟩ : ∃ m : Nat, t = (m : Int) := ⟨t.toNat, by omega⟩
          have hml : m < l.length := by omega
          obtain ⟨g4, o4, rfl, hg4, p1, p2⟩ := HRR.out.2.2.2 j e m harc
          have d1 := HF7.out.cell p1 (by simp)
          have d2 := HF7.out.cell p2 (by simp)
          have HARC := Lib.hid harc
          clear p1 p2 harc hok
          by_cases hee : e = ev
          ·subst hee
           obtain ⟨nx2, hasc2, hmem2, hne2, hcall⟩ := add_nx m HASC.out
           have HASC2 := Lib.hid hasc2
           have HTP2 := Lib.hid (HTP.out.add HARC.out hmem2)
           have HNE2 := Lib.hid hne2
           have HCALL := Lib.hid hcall
           clear hasc2 hmem2 hne2 hcall
           go_wp2_with fail
           go_quiet (fail)
           obtain ⟨n1, hn1⟩ : ∃ x, x = nq := ⟨nq, rfl⟩
           subst hn1
           go_wp2_with fail
           go_quiet (fail)
           go_wp2_with fail
           have hfz : Frm [] wr (wr.drewN (n1 + nq + 1)) := (Frm.refl [] wr).drewN _
           have HFZ := Lib.hid hfz
           have HOZ := Lib.hid (ownsB_frm HOWN7.out hfz (by simp))
           have SB : Hid _ := Lib.hid (hfz.cell cb7 (by simp))
           have SS : Hid _ := Lib.hid (hfz.cell cs7 (by simp))
           have SQ : Hid _ := Lib.hid (hfz.cell q7 (by simp))
           have SD : Hid _ := Lib.hid (hfz.cell d2 (by simp))
           clear hfz
           go_region_held3 (fun w' => w'.cell? ⟨w.heap.size, 0, none⟩ = some (.slice (some ⟨bl, ol, none⟩) l.length cap) ∧ w'.cell? ⟨g3, i, none⟩ = some (.int .i64 (s : Int)) ∧ w'.cell? ⟨bl, ol + s, none⟩ = some (.slice (some ⟨g4, o4, none⟩) row.length rc) ∧ w'.cell? ⟨g4, o4 + j * 2 + 1, none⟩ = some (.int .i64 (m : Int))) (first | exact ⟨SB.out, SS.out, SQ.out, SD.out⟩ | exact ⟨hf9.cell SB.out (by simp), hf9.cell SS.out (by simp), hf9.cell SQ.out (by simp), hf9.cell SD.out (by simp)⟩) (first | (go_at_call 73; (with_reducible refine (HCALL.out w3.heap.size a7 c7 _ (Nat.le_trans hsz7 HFZ.out.size) HOZ.out HZ7.out (by omega)).mono ?_); rintro e9 w9 ⟨a9, c9, rfl, hown9, hf9⟩))
           have HOWN9 := Lib.hid hown9
           have HF9 := Lib.hid ((HF7.out.trans HFZ.out (by simp)).trans hf9 (by simp))
           clear hown9 hf9
           go_wp2_with fail
           go_roundg (row.length - (j + 1))
           case rel => exact ⟨j + 1, nx2, a9, c9, rfl, hjl, by go_num, rfl, HASC2.out, HTP2.out, HOWN9.out, fun h0 => absurd h0 HNE2.out, HF9.out⟩
           case measure => omega
          ·have heb2 : (e == ev) = false := by simpa using hee
           have HTP2 := Lib.hid (HTP.out.skip HARC.out hee)
           go_wp2_with fail
           go_quiet (fail)
           go_wp2_with fail
           go_quiet (fail)
           go_wp2_with fail
           go_roundg (row.length - (j + 1))
           case rel => exact ⟨j + 1, nx, a7, c7, rfl, hjl, by go_num, rfl, HASC.out, HTP2.out, HOWN7.out, HZ7.out, HF7.out.drewN _⟩
           case measure => omega
         ·have i16 : ¬ (j : Int) < (row.length : Int) := by omega
          have HTD2 := Lib.hid (HTP.out.next (by omega) HS.out HROW.out)
          go_wp2_with fail
          go_quiet (fail)
          go_wp2_with fail
          go_roundg (vs.length - (i + 1))
          case rel => exact ⟨i + 1, nx, a7, c7, rfl, hil, by go_num, rfl, HASC.out, HTD2.out, HOWN7.out, HZ7.out, HF7.out.drewN _⟩
          case measure => omega
       ·have i11 : ¬ (i : Int) < (vs.length : Int) := by omega
        have hia : IsAim l ev vs nx := ⟨HASC.out, HTD.out.all (by omega)⟩
        have HIA := Lib.hid hia
        have hnxn : ∀ t ∈ nx, t < l.length := fun t ht => by
         obtain ⟨u, hu, h1⟩ := (hia.mem t).1 ht
         exact aim_edge HV.out u t (HVN.out u hu) h1
        have hnxl := asc_few HASC.out hnxn
        have hrr := rrow_any w.heap.size a cap l a7 c7 nx true wr (HL3.out.nil HF7.out rfl) HVB.out HOWN7.out hnxn (by omega)
        have hszr := HF7.out.size
        clear hia hnxn
        go_wp2_with fail
        refine hrr.mono ?_
        rintro e5 w5 ⟨⟨a5, c5, rs2, rfl, hown5, hir5⟩, hf5⟩
        have HE : Hid (AftX w.heap.size l fs ev w5 (.returned (.slice a5 rs2.length c5))) := Lib.hid (AftX.mk rfl HC.out (ownsB_mono hown5 (by omega)) (.inr ⟨HE0.out, vs, nx, HIR3.out, HIA.out, hir5⟩))
        have HF5 := Lib.hid ((HF3.out.trans HF7.out (by simp)).trans hf5 (by simp))
        clear hrr hown5 hir5 hf5
        go_wp2_with fail
        go_ret
        exact ⟨HE.out, HF5.out⟩

end Go.Proofs.YtikpcipkkhmcfaaGreat
