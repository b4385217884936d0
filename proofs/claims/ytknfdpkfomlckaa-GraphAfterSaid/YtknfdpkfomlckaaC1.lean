/- Contract of Targets of a Walker. -/
import Derived.Test.YtknfdpkfomlckaaC0
import Derived.Test.YtknfdpkfomlckaaB4
namespace Go.Proofs.Ytknfdpkfomlckaa
open Go.RowKit

def TargEnd (B : Nat) (l : Lts) (ev : Int) (fr : List Nat) (w' : World) (e : Ending) : Prop :=
  ∃ (a : Option Addr) (c : Nat) (vs : List Nat), e = .returned (.slice a vs.length c) ∧ w'.ownsRow B 3 1 (.slice a vs.length c) vs.length (ints (natI vs)) ∧ IsAim l ev fr vs

set_option linter.unusedSimpArgs false in
set_option maxRecDepth 100000 in
set_option maxHeartbeats 4000000 in
theorem wtarg_any (B wb gs : Nat) (a : Option Addr) (cap : Nat) (l : Lts) (r : Nat) (seen0 : List Int) (fa : Option Addr) (fc : Nat) (fr : List Nat) (ev : Int) (w : World) (hv : validB l = true) (hw : WkAt B w wb gs a cap l.length r seen0) (hr : r ≤ 1000000)
    (h0 : LAt B w a cap l) (hf0 : ∀ w', Frm [wb, gs] w w' → Rd w.heap.size w' fa fr.length fc 1 (ints (natI fr))) (hfl : ∀ v ∈ fr, v < l.length) :
    Calls Try.prog 91 #[.pointer (some ⟨wb, 0, none⟩), .slice fa fr.length fc, .int .i64 ev] w fun e w' => TargEnd w.heap.size l ev fr w' e ∧ (∃ seen, WkAt B w' wb gs a cap l.length (r + 1) seen) ∧ Frm [wb, gs] w w' := by
  have HL0 := Lib.hid h0
  have hbl := hw.lo
  have hbg := (hw.own.lt gs rfl).1
  have HF0 := Lib.hid hf0
  have HFL := Lib.hid hfl
  have HV := Lib.hid (vlts_of hv)
  have hfew := (vlts_of hv).few
  have i2 : (l.length : Int) ≤ 16384 := by omega
  have hfrl := (hf0 w (Frm.refl _ _)).lt
  have hbw := hw.row.lt
  have hgw := (hw.own.lt gs rfl).2
  have hne := hw.ne
  have c0 := hw.row.cell (i := 0) rfl
  have c1 := hw.row.cell (i := 1) rfl
  have c2 := hw.row.cell (i := 2) rfl
  have z2 := hw.row.frozen 2
  have hwr : IntKind.i64.wrap ((r : Int) + 1) = (r : Int) + 1 := IntWalk.i64_in _ (by omega)
  have hk1 : WkAt B (w.setCell ⟨wb, 2, none⟩ (.int .i64 ((r : Int) + 1))) wb gs a cap l.length (r + 1) seen0 := by
    refine ⟨?_, own_set hw.own hne, hne, hw.lo, fun v hv => by have := hw.le v hv; push_cast; omega⟩
    have := hw.row.setCell 2 (.int .i64 ((r : Int) + 1))
    simpa using this
  have HK1 := Lib.hid hk1
  have hf1 : Frm [wb, gs] w (w.setCell ⟨wb, 2, none⟩ (.int .i64 ((r : Int) + 1))) := (Frm.refl _ w).setCell (p := ⟨wb, 2, none⟩) (.inl (by simp)) _
  have HF1 := Lib.hid hf1
  have hst : Mk l.length (r + 1) seen0 [] := Mk.start hw.len (fun v hv => by have := hw.le v hv; push_cast; omega)
  have HST := Lib.hid hst
  clear h0 hf0 hfl hw hv hk1 hf1 hst
  go_enter Try.func91, Try.ntmps91
  go_wp2_with fail
  go_loopg [7, 21] fr.length (fun q s7 s21 wr => ∃ (i : Nat), q = fr.length - i ∧ i ≤ fr.length ∧ s21 = .int .i64 (i : Int) ∧ (∃ (seen : List Int) (out : List Nat) (a7 : Option Addr) (c7 : Nat), s7 = .slice a7 out.length c7 ∧ Mk l.length (r + 1) seen out ∧ TD l ev fr i out ∧ wr.ownsRow w.heap.size 3 1 (.slice a7 out.length c7) out.length (ints (natI out)) ∧ WkAt B wr wb gs a cap l.length (r + 1) seen ∧ Frm [wb, gs] w wr))
  case atStart => exact ⟨0, rfl, Nat.zero_le _, rfl, seen0, [], none, 0, rfl, HST.out, TD.start _ _ _, World.ownsRow_nil _ _ _ _, HK1.out, HF1.out⟩
  case round =>
    obtain ⟨i, rfl, hi, rfl, seen1, out1, a1, cc1, rfl, hmk, htd, hown, hat, hF⟩ := hrel
    have HMK := Lib.hid hmk
    have HTD := Lib.hid htd
    have HOWN := Lib.hid hown
    have HAT := Lib.hid hat
    have HF := Lib.hid hF
    have b0 := hat.row.cell (i := 0) rfl
    have i4 : (0 : Int) ≤ (i : Int) := by omega
    have holn := hmk.few
    have hszr := hF.size
    clear hmk htd hown hat hF c0 c1 c2 z2
    by_cases hil : i < fr.length
    · have i5 : (i : Int) < (fr.length : Int) := by omega
      obtain ⟨c, hc⟩ : ∃ c, fr[i]? = some c := ⟨_, List.getElem?_eq_getElem hil⟩
      have hcl := HFL.out c (List.mem_of_getElem? hc)
      obtain ⟨fb, fo, rfl, hfb, cf⟩ := (HF0.out wr HF.out).at (natI_get hc)
      obtain ⟨row, hrow⟩ : ∃ row, l[c]? = some row := ⟨_, List.getElem?_eq_getElem hcl⟩
      obtain ⟨bl, ol, ra, rc, hla, hblB, q1, hrr⟩ := HL0.out.cell c row hrow
      have hla' := hla
      subst hla'
      have hfewr := (HV.out.row row (List.mem_of_getElem? hrow)).few
      have q2 := HF.out.cell q1 (by simp; omega)
      have HRR := Lib.hid hrr
      have i6 : (row.length : Int) ≤ 262144 := by omega
      have i7 : (0 : Int) ≤ (c : Int) := by omega
      have i8 : (c : Int) < (l.length : Int) := by omega
      have HC := Lib.hid hc
      have HROW := Lib.hid hrow
      clear hc hrow hrr q1 hla
      go_wp2_with fail
      go_loopg [7, 34] row.length (fun q s7 s34 wr => ∃ (j : Nat) (seen : List Int) (out : List Nat) (a7 : Option Addr) (c7 : Nat), q = row.length - j ∧ j ≤ row.length ∧ s34 = .int .i64 (j : Int) ∧ s7 = .slice a7 out.length c7 ∧ Mk l.length (r + 1) seen out ∧ TP l ev fr i row j out ∧ wr.ownsRow w.heap.size 3 1 (.slice a7 out.length c7) out.length (ints (natI out)) ∧ WkAt B wr wb gs (some ⟨bl, ol, none⟩) cap l.length (r + 1) seen ∧ Frm [wb, gs] w wr)
      case atStart => exact ⟨0, seen1, out1, _, cc1, rfl, Nat.zero_le _, rfl, rfl, HMK.out, HTD.out.part row, HOWN.out, HAT.out, HF.out⟩
      case round =>
        clear HMK HTD HOWN HAT HF q2 b0 hszr holn cf
        obtain ⟨j, seen, out, a7, c7, rfl, hj, rfl, rfl, hmk, htp, hown, hat, hF⟩ := hrel
        have HMK := Lib.hid hmk
        have HTP := Lib.hid htp
        have HOWN := Lib.hid hown
        have HAT := Lib.hid hat
        have HF := Lib.hid hF
        have hszr := hF.size
        have b0 := hat.row.cell (i := 0) rfl
        have b1 := hat.row.cell (i := 1) rfl
        have b2 := hat.row.cell (i := 2) rfl
        have nb := World.block_lt_of_cell? _ _ b1
        have i9 : (0 : Int) ≤ (j : Int) := by omega
        have holn := hmk.few
        simp only at nb
        clear hmk htp hown hat hF
        by_cases hjl : j < row.length
        · have i10 : (j : Int) < (row.length : Int) := by omega
          obtain ⟨⟨e, t⟩, harc⟩ : ∃ y, row[j]? = some y := ⟨_, List.getElem?_eq_getElem hjl⟩
          have hok := (HV.out.row row (List.mem_of_getElem? HROW.out)).ok e t (List.mem_of_getElem? harc)
          obtain ⟨m, rfl⟩ : ∃ m : Nat, t = (m : Int) := ⟨t.toNat, by omega⟩
          have hml : m < l.length := by omega
          obtain ⟨g3, o3, rfl, hg3, p1, p2⟩ := HRR.out.2.2.2 j e m harc
          have d1 := HF.out.cell p1 (by simp; omega)
          have d2 := HF.out.cell p2 (by simp; omega)
          have n1 := World.block_lt_of_cell? _ _ d1
          simp only at n1
          have HARC := Lib.hid harc
          have co := (own_rowg2 HAT.out.own).cell (ints_get (ix_some HAT.out.len hml))
          have zo := (own_rowg2 HAT.out.own).frozen m
          have ng := World.block_lt_of_cell? _ _ co
          simp only at ng
          obtain ⟨x, hx⟩ : ∃ x, Tj.ix seen m = x := ⟨_, rfl⟩
          rw [hx] at co
          have HX := Lib.hid hx
          have i11 : (0 : Int) ≤ (m : Int) := by omega
          have i12 : (m : Int) < (l.length : Int) := by omega
          have i13 : (out.length : Int) ≤ 16384 := by omega
          have hata := HAT.out.nil ((Frm.refl [] wr).alloc (.cells #[.int .i64 e, .int .i64 (m : Int)] 51))
          have HATA := Lib.hid hata
          clear harc hok p1 p2 hx hata
          by_cases hee : e = ev
          · subst hee
            by_cases hxr : x = (r : Int) + 1
            · subst hxr
              have hmem : m ∈ out := (HMK.out.mem m).2 ⟨hml, by rw [HX.out]; push_cast; rfl⟩
              have HTP2 := Lib.hid (HTP.out.add (out2 := out) HARC.out (fun v => ⟨.inr, fun h9 => by
                rcases h9 with h9 | h9
                · rw [h9]; exact hmem
                · exact h9⟩))
              clear hmem
              go_wp2_with fail
              go_quiet (fail)
              go_wp2_with fail
              go_roundg (row.length - (j + 1))
              case rel => exact ⟨j + 1, seen, out, a7, c7, rfl, hjl, by go_num, rfl, HMK.out, HTP2.out, owns_drewN (HOWN.out.alloc _) nq, HATA.out.nil ((Frm.refl [] _).drewN nq), (HF.out.alloc _).drewN nq⟩
              case measure => omega
            · have hxb : (x == (r : Int) + 1) = false := by simpa using hxr
              have HMK2 : Hid (Mk l.length (r + 1) (seen.set m (((r + 1 : Nat)) : Int)) (out ++ [m])) := Lib.hid (HMK.out.add hml (by rw [HX.out]; push_cast; exact hxr))
              have HTP2 := Lib.hid (HTP.out.add (out2 := out ++ [m]) HARC.out (fun v => by simp [or_comm]))
              go_wp2_with fail
              go_quiet (fail)
              go_wp2_with fail
              go_region
              have hsne : ∀ q, (Value.slice a7 out.length c7).ownBlock = some q → q ≠ gs := fun q hq => by
                have := (HOWN.out.lt q hq).1
                omega
              have HOWNS := Lib.hid (own_setv (i := m) (u := .int .i64 ((r : Int) + 1)) (p := gs) (owns_drewN (HOWN.out.alloc (.cells #[.int .i64 e, .int .i64 (m : Int)] 51)) (nq + 1)) hsne)
              have HATS := Lib.hid (((HATA.out).nil ((Frm.refl [] (wr.alloc (.cells #[.int .i64 e, .int .i64 (m : Int)] 51))).drewN (nq + 1))).mark hml ((r : Int) + 1) (by push_cast; rfl))
              have HFS := Lib.hid (((HF.out.alloc (.cells #[.int .i64 e, .int .i64 (m : Int)] 51)).drewN (nq + 1)).setCell (p := ⟨gs, m, none⟩) (.inl (by simp)) (.int .i64 ((r : Int) + 1)))
              go_wp2_with (first | (at_builtin; refine wpl_app_int rfl (.tmp 68) (.tmp 71) rfl w.heap.size out.length (out.length + 1) (.slice a7 out.length c7) (natI out) rfl (HOWNS.out.alloc _) (natI_len _) ⟨wr.heap.size + 1, 0, none⟩ 1 1 [(m : Int)] rfl rfl (cells_new_at _ (m : Int) _ _ (by simp [World.setCell])) rfl (by omega) (by simp [World.setCell]; omega) ?_) | (at_builtin; fail))
              intro a9 c9 w9 hown9 _ hf9
              have hown9' : w9.ownsRow w.heap.size 3 1 (.slice a9 (out ++ [m]).length c9) (out ++ [m]).length (ints (natI (out ++ [m]))) := by
                rw [List.length_append, natI, List.map_append]
                exact hown9
              have HOWN9 := Lib.hid hown9'
              have HF9 := Lib.hid (hf9 [wb, gs] w (fun q hq => .inr (HOWN.out.lt q hq).1) (HFS.out.alloc _))
              have hfo := hf9 (Value.slice a7 out.length c7).ownBlock.toList _ (fun q hq => .inl (by simp [hq])) (Frm.refl _ _)
              have hge := own_ge HOWN.out
              have HAT9 := Lib.hid ((HATS.out.nil ((Frm.refl [] _).alloc (.cells #[.int .i64 (m : Int)] 3))).frm hfo (fun hm => by have := hge _ hm; omega) (fun hm => by have := hge _ hm; omega))
              clear hown9 hf9 hown9' hfo hge hsne
              go_wp2_with fail
              go_roundg (row.length - (j + 1))
              case rel => exact ⟨j + 1, _, out ++ [m], a9, c9, rfl, hjl, by go_num, by rw [List.length_append]; rfl, HMK2.out, HTP2.out, HOWN9.out, HAT9.out, HF9.out⟩
              case measure => omega
          · have heb : (e == ev) = false := by simpa using hee
            have HTP2 := Lib.hid (HTP.out.skip HARC.out hee)
            go_wp2_with fail
            go_quiet (fail)
            go_wp2_with fail
            go_roundg (row.length - (j + 1))
            case rel => exact ⟨j + 1, seen, out, a7, c7, rfl, hjl, by go_num, rfl, HMK.out, HTP2.out, owns_drewN (HOWN.out.alloc _) nq, HATA.out.nil ((Frm.refl [] _).drewN nq), (HF.out.alloc _).drewN nq⟩
            case measure => omega
        · have i10 : ¬ (j : Int) < (row.length : Int) := by omega
          have HTD2 := Lib.hid (HTP.out.next (by omega) HC.out HROW.out)
          go_wp2_with fail
          go_roundg (fr.length - (i + 1))
          case rel => exact ⟨i + 1, rfl, hil, by go_num, seen, out, a7, c7, rfl, HMK.out, HTD2.out, HOWN.out, HAT.out, HF.out⟩
          case measure => omega
    · have i5 : ¬ (i : Int) < (fr.length : Int) := by omega
      have hfin := HTD.out.all (by omega)
      obtain ⟨vs, hvs, hvl, hasc, hmem⟩ := sorted_nat HMK.out.nd
      have HVS := Lib.hid hvs
      have HIA : Hid (IsAim l ev fr vs) := Lib.hid ⟨hasc, fun v => (hmem v).trans (hfin v)⟩
      have HVL := Lib.hid hvl
      clear hfin hvs hasc hmem hvl
      go_wp2_with fail
      refine (sort_any w.heap.size a1 cc1 out1.length (natI out1) wr HOWN.out (by omega)).mono ?_
      rintro e9 w9 ⟨⟨rfl, hown9⟩, hf9⟩
      rw [HVS.out] at hown9
      have hge := own_ge HOWN.out
      have HAT9 := Lib.hid (HAT.out.frm hf9 (fun hm => by have := hge _ hm; omega) (fun hm => by have := hge _ hm; omega))
      have HF9 := Lib.hid (HF.out.trans hf9 (fun q hq => .inr (hge q hq)))
      have HEND : Hid (TargEnd w.heap.size l ev fr w9 (.returned (.slice a1 out1.length cc1))) := Lib.hid ⟨a1, cc1, vs, by rw [HVL.out], by rw [HVL.out]; exact hown9, HIA.out⟩
      clear hown9 hf9 hge
      go_wp2_with fail
      go_ret
      exact ⟨HEND.out, ⟨seen1, HAT9.out⟩, HF9.out⟩

end Go.Proofs.Ytknfdpkfomlckaa
