/- Contract of graph.Lasso. -/
import Derived.Test.YtknfdpkfomlckaaY5
import Derived.Test.YtknfdpkfomlckaaAC
namespace Go.Proofs.Ytknfdpkfomlckaa
open Go.RowKit

def LassoEnd (B : Nat) (l : Lts) (s : Int) (w' : World) (e : Ending) : Prop :=
  ∃ (a1 : Option Addr) (c1 : Nat) (a2 : Option Addr) (c2 : Nat) (p c : List Nat) (ok : Bool), e = .returned (.tuple #[.slice a1 p.length c1, .slice a2 c.length c2, .bool ok]) ∧
    w'.ownsRow B 3 1 (.slice a1 p.length c1) p.length (ints (natI p)) ∧ w'.ownsRow B 3 1 (.slice a2 c.length c2) c.length (ints (natI c)) ∧ LassoIs (Esel l true) l.length (validB l) s p c ok
theorem LassoEnd.none {B : Nat} {l : Lts} {s : Int} {w' : World} (h : ¬ (validB l = true ∧ ∃ k : Nat, s = k ∧ k < l.length ∧ Div (Esel l true) k)) : LassoEnd B l s w' (.returned (.tuple #[.slice none 0 0, .slice none 0 0, .bool false])) :=
  ⟨Option.none, 0, Option.none, 0, [], [], false, rfl, World.ownsRow_nil _ _ _ _, World.ownsRow_nil _ _ _ _, ⟨(fun h => by cases h), (fun _ => ⟨rfl, rfl, h⟩)⟩⟩

def PRel (n k : Nat) (E : Nat → List Nat) (d : List Int) (w7 : World) (q : Nat) (s8 s9 : Value) (wr : World) : Prop :=
  ∃ (j g c u : Nat), q = k - j ∧ j ≤ k ∧ s8 = .slice (some ⟨g, 0, none⟩) (j + 1) c ∧ u = endN E d j n ∧ s9 = .int .i64 (u : Int) ∧ wr.ownsRow w7.heap.size 3 1 (.slice (some ⟨g, 0, none⟩) (j + 1) c) (j + 1) (ints (natI (walkN E d (j + 1) n))) ∧ Frm [] w7 wr

theorem LassoEnd.some {B : Nat} {l : Lts} {s : Int} {w' : World} (a1 : Option Addr) (c1 : Nat) (a2 : Option Addr) (c2 : Nat) (p c : List Nat) (N M : Nat) (hN : p.length = N) (hM : c.length = M)
    (h1 : w'.ownsRow B 3 1 (.slice a1 N c1) N (ints (natI p))) (h2 : w'.ownsRow B 3 1 (.slice a2 M c2) M (ints (natI c))) (h : LassoIs (Esel l true) l.length (validB l) s p c true) :
    LassoEnd B l s w' (.returned (.tuple #[.slice a1 N c1, .slice a2 M c2, .bool true])) := by
  subst hN hM
  exact ⟨a1, c1, a2, c2, p, c, true, rfl, h1, h2, h⟩
def CRel (u x m : Nat) (E : Nat → List Nat) (d : List Int) (w13 : World) (q : Nat) (s15 s16 : Value) (wr : World) : Prop :=
  ∃ (j g c z : Nat), q = m - j ∧ j ≤ m ∧ s15 = .slice (some ⟨g, 0, none⟩) (j + 1) c ∧ z = endN E d j x ∧ s16 = .int .i64 (z : Int) ∧ wr.ownsRow w13.heap.size 3 1 (.slice (some ⟨g, 0, none⟩) (j + 1) c) (j + 1) (ints (natI (u :: walkN E d j x))) ∧ Frm [] w13 wr
theorem one_goal {n u : Nat} (hu : u < n) (v : Nat) : ((List.replicate n false).set u true)[v]? = some true ↔ v = u := by
  rw [List.getElem?_set]
  by_cases h1 : u = v
  · subst h1
    simp [hu]
  · rw [if_neg h1, List.getElem?_replicate]
    have h2 : v ≠ u := fun e => h1 e.symm
    split <;> simp [h2]

set_option linter.unusedSimpArgs false in
set_option maxRecDepth 100000 in
set_option maxHeartbeats 4000000 in
theorem lasso_any (B0 : Nat) (a : Option Addr) (cap : Nat) (l : Lts) (s : Int) (w : World) (h : LAt B0 w a cap l) :
    Calls Try.prog 27 #[.agg #[.slice a l.length cap], .int .i64 s] w fun e w' => LassoEnd w.heap.size l s w' e ∧ Frm [] w w' := by
  have f0 : Frm [] w (w.alloc (.cells #[.slice a l.length cap] 25)) := (Frm.refl [] w).alloc _
  have hcut0 := h.cut
  clear h
  have h := hcut0
  clear hcut0
  have hbox := box1 w (.slice a l.length cap) 25
  have HB := Lib.hid hbox
  have HL0 := Lib.hid (h.nil f0 rfl)
  have hva := valid_any w.heap.size a cap l _ (h.nil f0 rfl)
  have hl := h.lt
  clear h hbox
  go_enter Try.func27, Try.ntmps27
  go_wp2_with fail
  refine hva.mono ?_
  rintro e1 w1 ⟨rfl, hf1⟩
  clear hva
  have F1 := f0.trans hf1 (by simp)
  have hb1 := (HB.out.frm hf1 (by simp)).cell (i := 0) rfl
  cases hv : validB l with
  | false =>
    have HR : Hid (LassoEnd w.heap.size l s w1 (.returned (.tuple #[.slice none 0 0, .slice none 0 0, .bool false]))) := Lib.hid (LassoEnd.none (by rw [hv]; simp))
    clear hv
    go_wp2_with fail
    go_ret3
    exact ⟨HR.out, F1⟩
  | true =>
    have HVB := Lib.hid hv
    have HV := Lib.hid (vlts_of hv)
    have hfew := (vlts_of hv).few
    have i2 : (l.length : Int) ≤ 16384 := by omega
    have HF1' := Lib.hid hf1
    have hst := state_any w.heap.size a cap l s w1 (HL0.out.nil hf1 rfl)
    clear hv hf1
    go_wp2_with fail
    refine hst.mono ?_
    rintro e2 w2 ⟨rfl, hf2⟩
    clear hst hb1
    have F2 := F1.trans hf2 (by simp)
    have HF12 := Lib.hid (HF1'.out.trans hf2 (by simp))
    have hb2 := HF12.out.cell (HB.out.cell (i := 0) rfl) (by simp)
    clear hf2 F1
    cases hst : inB l.length s with
    | false =>
      have HR : Hid (LassoEnd w.heap.size l s w2 (.returned (.tuple #[.slice none 0 0, .slice none 0 0, .bool false]))) := Lib.hid (LassoEnd.none (by
        rintro ⟨_, k, rfl, hk, _⟩
        simp [inB] at hst
        omega))
      clear hst
      go_wp2_with fail
      go_ret3
      exact ⟨HR.out, F2⟩
    | true =>
      obtain ⟨n, row0, rfl, hrow0, _⟩ := inB_row hst
      have hn := (List.getElem?_eq_some_iff.1 hrow0).1
      clear hst hrow0
      have HFW2 := Lib.hid F2
      have HL2 := Lib.hid (HL0.out.nil HF12.out rfl)
      have C2 := Lib.hid hb2
      have hsz2 := HF12.out.size
      simp only [World.alloc, Array.size_push] at hsz2
      clear F2
      go_wp2_with fail
      go_region_held3 (fun w' => w'.cell? ⟨w.heap.size, 0, none⟩ = some (.slice a l.length cap)) (first | exact C2.out | exact hf7.cell C2.out (by simp) | exact hf6.cell C2.out (by simp) | exact hf5.cell C2.out (by simp)) (first | (go_at_call 16; (with_reducible refine (comps_ok w.heap.size a cap l true _ (HL2.out.nil ((Frm.refl [] w2).drew) rfl) HVB.out).mono ?_); rintro e5 w5 ⟨h5, hf50⟩; obtain ⟨g5, out5, rfl, hown5, hic5⟩ := h5; have hf5 := ((Frm.refl [] w2).drew).trans hf50 (by simp)) | (go_at_call 49; (with_reducible refine (looping_any w5.heap.size a cap l HV.out (some ⟨g5, 0, none⟩) l.length out5 w5 (HL2.out.nil hf5 rfl).cut (rd_of_owns hown5 (Nat.le_refl _)) (Nat.le_refl _)).mono ?_); rintro e6 w6 ⟨g6, rfl, hown6, hf60⟩; have hf6 := hf5.trans hf60 (by simp)) | (go_at_call 48; (with_reducible refine (distances_any w6.heap.size a cap l HV.out (some ⟨g6, 0, none⟩) l.length ((List.range l.length).map (loopF (Esel l true) out5)) w6 (HL2.out.nil hf6 rfl).cut (rd_of_owns hown6 (Nat.le_refl _)) (Nat.le_refl _)).mono ?_); rintro e7 w7 ⟨h7, hf70⟩; obtain ⟨g7, out7, rfl, hown7, hid7⟩ := h7; have hf7 := hf6.trans hf70 (by simp)))
      have HF7 := Lib.hid hf7
      have HROW7 := Lib.hid (ownsB_mono hown7 (C := 0) (by simp))
      have HID := Lib.hid (isDist_loops hic5 (esel_edge HV.out true) hid7)
      have hbn := HID.out.bnd n hn
      have C7 := Lib.hid (hf7.cell C2.out (by simp))
      have hsz7 := hf7.size
      have hg7 := (hown7.lt g7 rfl).2
      have hg7' : w.heap.size ≠ g7 := by have := (hown7.lt g7 rfl).1; have := hf6.size; omega
      have c7n := hown7
      replace c7n := (own_rowg2 c7n).cell (ints_get (ix_some HID.out.len hn))
      obtain ⟨x7, hx7⟩ : ∃ x, Tj.ix out7 n = x := ⟨_, rfl⟩
      rw [hx7] at c7n hbn
      have HX7 := Lib.hid hx7
      have i4 : (0 : Int) ≤ (n : Int) := by omega
      have i5 : (n : Int) < (l.length : Int) := by omega
      clear hown5 hic5 hf50 hf5 hown6 hf60 hf6 hown7 hid7 hf70 hf7 hx7 hb2
      have hb7 := C7.out
      by_cases hneg : x7 < 0
      · have HR : Hid (LassoEnd w.heap.size l n w7 (.returned (.tuple #[.slice none 0 0, .slice none 0 0, .bool false]))) := Lib.hid (LassoEnd.none (by
          rintro ⟨_, k, hk, hk2, hdv⟩
          obtain rfl : n = k := by omega
          have := (div_iff (esel_edge HV.out true) HID.out hn).2 hdv
          rw [HX7.out] at this
          omega))
        go_wp2_with fail
        go_ret3
        exact ⟨HR.out, HFW2.out.trans HF7.out (by simp)⟩
      · obtain ⟨k, rfl⟩ : ∃ k : Nat, x7 = k := ⟨x7.toNat, by omega⟩
        have hdiv := (div_iff (esel_edge HV.out true) HID.out hn).1 (by rw [HX7.out]; omega)
        have HDIV := Lib.hid hdiv
        clear hdiv
        go_wp2_with fail
        go_loopg [8, 9] k (fun q s8 s9 wr => PRel n k (Esel l true) out7 w7 q s8 s9 wr)
        case atStart => exact ⟨0, w7.heap.size, 1, n, rfl, Nat.zero_le _, rfl, rfl, rfl, ⟨by simp [walkN, natI, ints], .inr ⟨w7.heap.size, 1, #[.int .i64 (n : Int)], rfl, Nat.le_refl _, heap_alloc_new w7 _, Nat.le_refl _, by decide, rfl, by simp [walkN, natI, ints]⟩⟩, (Frm.refl [] w7).alloc _⟩
        case round =>
          obtain ⟨j, g, c, u, rfl, hj, rfl, hu, rfl, hown, hF⟩ := hrel
          have hend := endN_ok (esel_edge HV.out true) HID.out j n hn (by rw [HX7.out]; omega)
          rw [← hu, HX7.out] at hend
          have HU := Lib.hid hu
          have HOWN := Lib.hid hown
          have HF := Lib.hid hF
          have hszr := hF.size
          have CB := Lib.hid (hF.cell C7.out (by simp))
          have hul := hend.1
          have HROWR := Lib.hid (ownsB_frm HROW7.out hF (by simp))
          obtain ⟨y, hy⟩ : ∃ y, Tj.ix out7 u = y := ⟨_, rfl⟩
          have hyb := HID.out.bnd u hul
          have hyk := hend.2
          have cu := (own_rowg2 HROWR.out).cell (ints_get (ix_some HID.out.len hul))
          rw [hy] at cu hyb hyk
          have CU := Lib.hid cu
          have HY := Lib.hid hy
          have HYK := Lib.hid hyk
          have HLR := Lib.hid ((HL2.out.nil HF7.out rfl).nil hF rfl)
          have cb := CB.out
          have nu := World.block_lt_of_cell? _ _ cu
          simp only at nu
          have i6 : (0 : Int) ≤ (u : Int) := by omega
          have i7 : (u : Int) < (l.length : Int) := by omega
          clear hu hown hF hend hy hb7 c7n hyk
          by_cases hjk : j < k
          · have i8 : 0 < y := by have := HYK.out; omega
            have hwr : IntKind.i64.wrap (y - 1) = y - 1 := IntWalk.i64_in _ (by omega)
            have hnx := nxt_ok (esel_edge HV.out true) HID.out hul (by rw [HY.out]; exact i8)
            obtain ⟨v, hvv⟩ : ∃ v, nxt (Esel l true) out7 u = v := ⟨_, rfl⟩
            rw [hvv, HY.out] at hnx
            have HNX := Lib.hid hnx.2.2.2
            have HVV := Lib.hid hvv
            have hvl := hnx.1
            clear hnx hvv
            go_wp2_with fail
            go_region_held3 (fun w' => w'.cell? ⟨w.heap.size, 0, none⟩ = some (.slice a l.length cap) ∧ w'.cell? ⟨g7, u, none⟩ = some (.int .i64 y)) (first | exact ⟨CB.out, CU.out⟩ | exact ⟨hf8.cell CB.out (by simp), hf8.cell CU.out (by simp)⟩) ((go_at_call 51; (with_reducible refine (follow_any wr.heap.size a cap l HV.out u hul (some ⟨g7, 0, none⟩) l.length out7 (y - 1) _ (HLR.out.cut.nil ((Frm.refl [] wr).drew) rfl) ((rd_of_owns HROWR.out (Nat.le_refl _)).frm ((Frm.refl [] wr).drew) (by simp))).mono ?_); rintro e8 w8 ⟨h8, hf80⟩; rw [FollowEnd, HNX.out] at h8; subst h8; have hf8 := ((Frm.refl [] wr).drew).trans hf80 (by simp)))
            have HF8 := Lib.hid hf8
            have HFW8 := Lib.hid (HF.out.trans hf8 (by simp))
            have HOWN8 := Lib.hid (own_frm_out HOWN.out hf8 (by simp))
            have hsz8 := hf8.size
            clear hf8 hf80 cb cu hwr
            go_wp2_with (first | (at_builtin; refine wpl_app_at rfl (.tmp 54) (.tmp 56) 22 3 (.int .i64 0) 1 8 Try.underlying22 infoInt rfl (by decide) rfl w7.heap.size (j + 1) (j + 1 + 1) (.slice (some ⟨g, 0, none⟩) (j + 1) c) (ints (natI (walkN (Esel l true) out7 (j + 1) n))) rfl (HOWN8.out.alloc _) ⟨w8.heap.size, 0, none⟩ 1 [.int .i64 (v : Int)] rfl rfl (cells_new_at _ (v : Int) _ _ rfl) (by simp [Value.oneCell']) rfl (by omega) (by decide) (by simp; omega) ?_) | (at_builtin; fail))
            intro g9 c9 w9 hown9 hf9 hg9
            have hv9 : v = endN (Esel l true) out7 (j + 1) n := by rw [endN_snoc, ← HU.out, HVV.out]
            have hown9' : w9.ownsRow w7.heap.size 3 1 (.slice (some ⟨g9, 0, none⟩) (j + 1 + 1) c9) (j + 1 + 1) (ints (natI (walkN (Esel l true) out7 (j + 1 + 1) n))) := by
              rw [walkN_snoc _ _ (j + 1), ← hv9, natI, List.map_append, ints_app]
              exact hown9
            have hf9' : Frm [] w7 w9 := (HFW8.out.alloc _).trans hf9 (by
              intro q hq
              simp only [Option.mem_toList] at hq
              exact .inr (HOWN8.out.lt q hq).1)
            have HV9 := Lib.hid hv9
            have HOWN9 := Lib.hid hown9'
            have HF9 := Lib.hid hf9'
            clear hown9 hf9 hg9 hv9 hown9' hf9'
            go_wp2_with fail
            go_roundg (k - (j + 1))
            case rel => exact ⟨j + 1, g9, c9, v, rfl, hjk, rfl, HV9.out, rfl, HOWN9.out, HF9.out⟩
            case measure => omega
          · have hje : k = j := by omega
            have i8 : ¬ 0 < y := by have := HYK.out; omega
            have hy0 : y = 0 := by have := HYK.out; omega
            have hgoal := ((dist_goal HID.out hul).1 (by rw [HY.out, hy0])).2
            have HG := Lib.hid hgoal
            have HCYC := Lib.hid hgoal
            have hj16 : (j : Int) < l.length := by omega
            have HJE := Lib.hid hje
            clear hgoal hy0 hje
            go_wp2_with (first | (at_make; refine wpl_make_b _ rfl (.tmp 60) rfl _ l.length rfl rfl (by omega) ?_) | (at_make; fail))
            intro w10 hown10 hf10
            have hsz10 := hf10.size
            have hjg := (HOWN.out.lt g rfl)
            have HOWNP := Lib.hid (own_frm_out HOWN.out hf10 (by simp))
            have cp := (own_rowg2 HOWNP.out).cell (i := j) (ints_get (x := (u : Int)) (by rw [walkN_snoc, ← HU.out, natI, List.map_append]; simp [walkN_len]))
            have zf := (own_rowg2 hown10).frozen u
            have cf := (own_rowg2 hown10).cell (i := u) (v := .bool false) (bools_get (by rw [List.getElem?_replicate, if_pos hul]))
            have cb10 := hf10.cell CB.out (by simp)
            have HOWN10 := Lib.hid hown10
            have HF10 := Lib.hid hf10
            clear hown10 hf10 cb cu
            go_wp2_with fail
            have hfws : Frm [] wr (w10.setCell ⟨wr.heap.size, u, none⟩ (.bool true)) := HF10.out.setCell (p := ⟨wr.heap.size, u, none⟩) (.inr (Nat.le_refl _)) _
            have HFWS := Lib.hid hfws
            have hrs := ownsB_setCell HOWN10.out (g := wr.heap.size) rfl u (.bool true)
            rw [← bools_set] at hrs
            refine (distances_any (w10.setCell ⟨wr.heap.size, u, none⟩ (.bool true)).heap.size a cap l HV.out (some ⟨wr.heap.size, 0, none⟩) l.length ((List.replicate l.length false).set u true) _ (HLR.out.nil hfws rfl).cut (rd_of_owns hrs (Nat.le_refl _)) (Nat.le_refl _)).mono ?_
            rintro e11 w11 ⟨h11, hf11⟩
            obtain ⟨g11, out11, rfl, hown11, hid11⟩ := h11
            have HID11 := Lib.hid (hid11.congr (one_goal hul))
            have HF11 := Lib.hid (HFWS.out.trans hf11 (by simp))
            have hsz11 := HF11.out.size
            have hg11 := (hown11.lt g11 rfl)
            have hsws := HFWS.out.size
            have hgb : w.heap.size ≠ g11 := by omega
            have HOWN11 := Lib.hid (ownsB_mono hown11 (C := 0) (by simp))
            have cb11 := HF11.out.cell CB.out (by simp)
            have CB11 := Lib.hid cb11
            obtain ⟨row, hrow⟩ : ∃ row, l[u]? = some row := ⟨_, List.getElem?_eq_getElem hul⟩
            have harc := arcs_any w11.heap.size a cap l u row true w11 (HLR.out.nil HF11.out rfl).cut hrow
            have hfewr := (HV.out.row row (List.mem_of_getElem? hrow)).few
            have hlen := sel_len row true
            obtain ⟨sr, hsr⟩ : ∃ sr, sel row true = sr := ⟨_, rfl⟩
            have HSEL := Lib.hid hsr
            have HROW := Lib.hid hrow
            rw [hsr] at harc hlen
            have HARC := Lib.hid harc
            have i9 : (sr.length : Int) ≤ 262144 := by omega
            clear hfws hrs hf11 hown11 hid11 harc hsr hrow cb10 cf zf cp
            go_wp2_with fail
            refine HARC.out.mono ?_
            rintro e12 w12 ⟨⟨ra, rc, rfl, hrr⟩, hf12⟩
            have HRR := Lib.hid hrr
            have HF12 := Lib.hid (HF11.out.trans hf12 (by simp))
            have HOWN12 := Lib.hid (ownsB_frm HOWN11.out hf12 (by simp))
            have hsz12 := hf12.size
            clear hrr hf12 cb11
            go_wp2_with fail
            go_loopg [12, 78] sr.length (fun q s12 s78 wx => ∃ (i : Nat), q = sr.length - i ∧ i ≤ sr.length ∧ s12 = .int .i64 (leastF out11 ((Esel l true u).take i)) ∧ s78 = .int .i64 (i : Int) ∧ Frm [] w12 wx)
            case atStart => exact ⟨0, rfl, Nat.zero_le _, by simp [leastF], rfl, Frm.refl _ _⟩
            case round =>
              obtain ⟨wx, hwxe⟩ : ∃ x, x = wr := ⟨wr, rfl⟩
              subst hwxe
              obtain ⟨i, rfl, hi, rfl, rfl, hFx⟩ := hrel
              obtain ⟨L, hL⟩ : ∃ L, leastF out11 ((Esel l true u).take i) = L := ⟨_, rfl⟩
              rw [hL]
              have HL := Lib.hid hL
              have HFX := Lib.hid hFx
              have hszx := hFx.size
              have i10 : (0 : Int) ≤ (i : Int) := by omega
              clear hL hFx
              by_cases hil : i < sr.length
              · have i11 : (i : Int) < (sr.length : Int) := by omega
                obtain ⟨⟨e, t⟩, harc⟩ : ∃ y, sr[i]? = some y := ⟨_, List.getElem?_eq_getElem hil⟩
                obtain ⟨m, rfl, hmn⟩ := sel_ok HV.out HROW.out (by rw [HSEL.out]; exact harc)
                have hEm : (Esel l true u)[i]? = some m := by
                  have := esel_get HROW.out (silent := true) (j := i) (by rw [HSEL.out]; exact harc)
                  simpa [Esel] using this
                obtain ⟨b1, o1, rfl, hb1, q1, q2⟩ := HRR.out.2.2.2 i e m harc
                have d1 := HFX.out.cell q1 (by simp)
                have d2 := HFX.out.cell q2 (by simp)
                obtain ⟨xm, hxm⟩ : ∃ xm, Tj.ix out11 m = xm := ⟨_, rfl⟩
                have cm := HFX.out.cell ((own_rowg2 HOWN12.out).cell (ints_get (ix_some HID11.out.len hmn))) (by simp)
                rw [hxm] at cm
                have n1 := World.block_lt_of_cell? _ _ cm
                have n2 := World.block_lt_of_cell? _ _ d1
                simp only at n1 n2
                have i12 : (m : Int) < (l.length : Int) := by omega
                have i13 : (0 : Int) ≤ (m : Int) := by omega
                have htk : leastF out11 ((Esel l true u).take (i + 1)) = if 0 ≤ xm ∧ (L < 0 ∨ xm < L) then xm else L := by
                  rw [List.take_add_one, hEm, Option.toList_some, leastF_snoc, hxm, HL.out]
                have HTK := Lib.hid htk
                clear harc hEm q1 q2 hxm htk
                by_cases hx0 : 0 ≤ xm
                · by_cases hL0 : L < 0
                  · have HT := Lib.hid (HTK.out.trans (if_pos ⟨hx0, .inl hL0⟩))
                    go_wp2_with fail
                    go_roundg (sr.length - (i + 1))
                    case rel => exact ⟨i + 1, rfl, hil, by rw [HT.out], by go_num, by first | exact HFX.out.alloc _ | exact (HFX.out.alloc _).drewN _ | exact ((HFX.out.alloc _).drewN _).drewN _⟩
                    case measure => omega
                  · by_cases hxL : xm < L
                    · have HT := Lib.hid (HTK.out.trans (if_pos ⟨hx0, .inr hxL⟩))
                      go_wp2_with fail
                      go_roundg (sr.length - (i + 1))
                      case rel => exact ⟨i + 1, rfl, hil, by rw [HT.out], by go_num, by first | exact HFX.out.alloc _ | exact (HFX.out.alloc _).drewN _ | exact ((HFX.out.alloc _).drewN _).drewN _⟩
                      case measure => omega
                    · have HT := Lib.hid (HTK.out.trans (if_neg (by omega)))
                      go_wp2_with fail
                      go_roundg (sr.length - (i + 1))
                      case rel => exact ⟨i + 1, rfl, hil, by rw [HT.out], by go_num, by first | exact HFX.out.alloc _ | exact (HFX.out.alloc _).drewN _ | exact ((HFX.out.alloc _).drewN _).drewN _⟩
                      case measure => omega
                · have HT := Lib.hid (HTK.out.trans (if_neg (fun h => hx0 h.1)))
                  go_wp2_with fail
                  go_roundg (sr.length - (i + 1))
                  case rel => exact ⟨i + 1, rfl, hil, by rw [HT.out], by go_num, by first | exact HFX.out.alloc _ | exact (HFX.out.alloc _).drewN _ | exact ((HFX.out.alloc _).drewN _).drewN _⟩
                  case measure => omega
              · have hin : i = sr.length := by omega
                have hlenE : (Esel l true u).length = sr.length := by rw [esel_len HROW.out, HSEL.out]
                have hLe : leastF out11 (Esel l true u) = L := by
                  have := HL.out
                  rwa [List.take_of_length_le (by omega)] at this
                obtain ⟨m, x, hm, hxf, hxE, hxm⟩ := least_cyc (esel_edge HV.out true) HID11.out hul HCYC.out
                obtain rfl : L = (m : Int) := by rw [← hLe, hm]
                have hxl := esel_edge HV.out true u x hul hxE
                have HXF := Lib.hid hxf
                have HXE := Lib.hid hxE
                have HXM := Lib.hid hxm
                have HLM := Lib.hid hm
                have i11 : ¬ (i : Int) < (sr.length : Int) := by omega
                have hfwx := HF12.out.trans HFX.out (by simp)
                have HFWX := Lib.hid hfwx
                have cbx := hfwx.cell CB.out (by simp)
                have hszwx := hfwx.size
                have nbx := World.block_lt_of_cell? _ _ cbx
                simp only at nbx
                have HOWNX := Lib.hid (ownsB_frm HOWN12.out HFX.out (by simp))
                have hmb := HID11.out.bnd x hxl
                rw [hxm] at hmb
                have hgx := ((HOWNX.out).lt g11 rfl).2
                clear hin hlenE hLe hm hxf hxE hxm hfwx
                go_wp2_with fail
                refine (follow_any wx.heap.size a cap l HV.out u hul (some ⟨g11, 0, none⟩) l.length out11 (m : Int) _ ((HLR.out.nil HFWX.out rfl).cut.nil ((Frm.refl [] wx).alloc _) rfl) ((rd_of_owns HOWNX.out (Nat.le_refl _)).frm ((Frm.refl [] wx).alloc _) (by simp))).mono ?_
                rintro e13 w13 ⟨h13, hf13⟩
                rw [FollowEnd, HXF.out] at h13
                subst h13
                have HF13 := Lib.hid hf13
                have HF13X := Lib.hid (((Frm.refl [] wx).alloc (.cells #[.int .i64 (u : Int)] 3)).trans hf13 (by simp))
                have h0row : (wx.alloc (.cells #[.int .i64 (u : Int)] 3)).ownsRow wx.heap.size 3 1 (.slice (some ⟨wx.heap.size, 0, none⟩) (0 + 1) 1) (0 + 1) (ints (natI (u :: walkN (Esel l true) out11 0 x))) := ⟨by simp [walkN, natI, ints], .inr ⟨wx.heap.size, 1, #[.int .i64 (u : Int)], rfl, Nat.le_refl _, heap_alloc_new wx _, Nat.le_refl _, by decide, rfl, by simp [walkN, natI, ints]⟩⟩
                have H0ROW := Lib.hid (own_frm_out h0row hf13 (by simp))
                clear hf13 h0row cbx
                go_wp2_with fail
                go_loopg [15, 16] m (fun q s15 s16 wy => CRel u x m (Esel l true) out11 wx q s15 s16 wy)
                case atStart => exact ⟨0, wx.heap.size, 1, x, rfl, Nat.zero_le _, rfl, rfl, rfl, H0ROW.out, HF13X.out⟩
                case round =>
                  obtain ⟨wy, hwye⟩ : ∃ x, x = wr := ⟨wr, rfl⟩
                  subst hwye
                  obtain ⟨f, g', c', z, rfl, hf', rfl, hz, rfl, hown', hF'⟩ := hrel
                  have hend := endN_ok (esel_edge HV.out true) HID11.out f x hxl (by rw [HXM.out]; omega)
                  rw [← hz, HXM.out] at hend
                  have hzl := hend.1
                  have hzg := dist_goal HID11.out hzl
                  have HZ := Lib.hid hz
                  have HOWNC := Lib.hid hown'
                  have HFC := Lib.hid hF'
                  have hszy := hF'.size
                  obtain ⟨y', hy'⟩ : ∃ y, Tj.ix out11 z = y := ⟨_, rfl⟩
                  have hyb' := HID11.out.bnd z hzl
                  have hyk' := hend.2
                  rw [hy'] at hyb' hyk' hzg
                  have HY' := Lib.hid hy'
                  have HYK' := Lib.hid hyk'
                  have HZG := Lib.hid hzg
                  have hfwy := HFWX.out.trans hF' (by simp)
                  have HFWY := Lib.hid hfwy
                  have cby := hfwy.cell CB.out (by simp)
                  have HROWY := Lib.hid (ownsB_frm HOWNX.out hF' (by simp))
                  have i14 : (0 : Int) ≤ (z : Int) := by omega
                  have i15 : (z : Int) < (l.length : Int) := by omega
                  clear hz hown' hF' hend hy' hyk' hzg hfwy
                  by_cases hfm : f < m
                  · have i16 : 0 < y' := by have := HYK'.out; omega
                    have hzu : (z : Int) ≠ (u : Int) := fun e9 => by
                      have := HZG.out.2 (by omega)
                      omega
                    have hzb : ((z : Int) == (u : Int)) = false := by simpa using hzu
                    have hwr : IntKind.i64.wrap (y' - 1) = y' - 1 := IntWalk.i64_in _ (by omega)
                    have hnx := nxt_ok (esel_edge HV.out true) HID11.out hzl (by rw [HY'.out]; exact i16)
                    obtain ⟨v, hvv⟩ : ∃ v, nxt (Esel l true) out11 z = v := ⟨_, rfl⟩
                    rw [hvv, HY'.out] at hnx
                    have HNX := Lib.hid hnx.2.2.2
                    have HVV := Lib.hid hvv
                    have hvl := hnx.1
                    clear hnx hvv
                    go_wp2_with (first | (at_builtin; refine wpl_app_at rfl (.tmp 126) (.tmp 128) 22 3 (.int .i64 0) 1 8 Try.underlying22 infoInt rfl (by decide) rfl wx.heap.size (f + 1) (f + 1 + 1) (.slice (some ⟨g', 0, none⟩) (f + 1) c') (ints (natI (u :: walkN (Esel l true) out11 f x))) rfl (HOWNC.out.alloc _) ⟨wy.heap.size, 0, none⟩ 1 [.int .i64 (z : Int)] rfl rfl (cells_new_at _ (z : Int) _ _ rfl) (by simp [Value.oneCell']) rfl (by omega) (by decide) (by simp; omega) ?_) | (at_builtin; fail))
                    intro g9 c9 w14 hown9 hf9 hg9
                    have hf14 : Frm [] wx w14 := (HFC.out.alloc _).trans hf9 (by
                      intro q hq
                      simp only [Option.mem_toList] at hq
                      exact .inr (HOWNC.out.lt q hq).1)
                    have HF14 := Lib.hid hf14
                    have HFW14 := Lib.hid (HFWX.out.trans hf14 (by simp))
                    have HROW14 := Lib.hid (ownsB_frm HOWNX.out hf14 (by simp))
                    have CB14 := Lib.hid (HFW14.out.cell CB.out (by simp))
                    have cz14 := (own_rowg2 HROW14.out).cell (ints_get (ix_some HID11.out.len hzl))
                    rw [HY'.out] at cz14
                    have CZ14 := Lib.hid cz14
                    have HOWN14 := Lib.hid hown9
                    have hsz14 := HF14.out.size
                    clear cby cz14 hown9 hf9 hg9 hf14
                    go_wp2_with fail
                    go_region_held3 (fun w' => w'.cell? ⟨w.heap.size, 0, none⟩ = some (.slice a l.length cap) ∧ w'.cell? ⟨g11, z, none⟩ = some (.int .i64 y')) (first | exact ⟨CB14.out, CZ14.out⟩ | exact ⟨hf8.cell CB14.out (by simp), hf8.cell CZ14.out (by simp)⟩) ((go_at_call 51; (with_reducible refine (follow_any w14.heap.size a cap l HV.out z hzl (some ⟨g11, 0, none⟩) l.length out11 (y' - 1) _ ((HLR.out.nil HFW14.out rfl).cut.nil ((Frm.refl [] w14).drew) rfl) ((rd_of_owns HROW14.out (Nat.le_refl _)).frm ((Frm.refl [] w14).drew) (by simp))).mono ?_); rintro e15 w15 ⟨h15, hf80⟩; rw [FollowEnd, HNX.out] at h15; subst h15; have hf8 := ((Frm.refl [] w14).drew).trans hf80 (by simp)))
                    have HF15 := Lib.hid (HF14.out.trans hf8 (by simp))
                    have hv9 : v = endN (Esel l true) out11 (f + 1) x := by rw [endN_snoc, ← HZ.out, HVV.out]
                    have hown9' : w14.ownsRow wx.heap.size 3 1 (.slice (some ⟨g9, 0, none⟩) (f + 1 + 1) c9) (f + 1 + 1) (ints (natI (u :: walkN (Esel l true) out11 (f + 1) x))) := by
                      rw [walkN_snoc _ _ f, ← HZ.out, ← List.cons_append, natI, List.map_append, ints_app]
                      exact HOWN14.out
                    have HV9 := Lib.hid hv9
                    have HOWN9 := Lib.hid (own_frm_out hown9' hf8 (by simp))
                    clear hv9 hown9' hf8 hf80
                    go_wp2_with fail
                    go_roundg (m - (f + 1))
                    case rel => exact ⟨f + 1, g9, c9, v, rfl, hfm, rfl, HV9.out, rfl, HOWN9.out, HF15.out⟩
                    case measure => omega
                  · have hfe : f = m := by omega
                    have hzu : z = u := HZG.out.1 (by have := HYK'.out; omega)
                    have hzb : ((z : Int) == (u : Int)) = true := by simp [hzu]
                    have hzi : (z : Int) = (u : Int) := by rw [hzu]
                    have HYES : Hid (LassoEnd w.heap.size l n wy (.returned (.tuple #[.slice (some ⟨g, 0, none⟩) (j + 1) c, .slice (some ⟨g', 0, none⟩) (f + 1) c', .bool true]))) := Lib.hid (LassoEnd.some _ _ _ _ (walkN (Esel l true) out7 (j + 1) n) (u :: walkN (Esel l true) out11 f x) _ _ (walkN_len _ _ _ _) (by rw [List.length_cons, walkN_len]) (ownsB_mono (own_frm_out HOWN.out HFWY.out (by simp)) (by omega)) (ownsB_mono HOWNC.out (by omega)) ⟨fun _ => ⟨HVB.out, n, rfl, hn, HDIV.out, ⟨out7, out11, k, u, x, m, HID.out, HX7.out, by rw [HJE.out]; exact HU.out, by rw [walkN_snoc, ← HU.out, HJE.out], HID11.out, HLM.out, HXF.out, HXE.out, HXM.out, by rw [hfe]⟩⟩, fun h => by cases h⟩)
                    have HFIN := Lib.hid (((HFW2.out.trans HF7.out (by simp)).trans HF.out (by simp)).trans HFWY.out (by simp))
                    clear hfe cby
                    go_wp2_with fail
                    go_ret3
                    exact ⟨HYES.out, HFIN.out⟩

end Go.Proofs.Ytknfdpkfomlckaa
