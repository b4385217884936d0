/- Contract of Distances of the reference: the walk. -/
import Derived.Test.YtknfdpkfomlckaaBA
namespace Go.Proofs.Ytknfdpkfomlckaa
open Go.RowKit

theorem rrow_any (B0 : Nat) (a : Option Addr) (cap : Nat) (l : Lts) (fa : Option Addr) (fc : Nat) (fr : List Nat) (silent : Bool) (w : World) (h : LAt B0 w a cap l) (hv : validB l = true) {B : Nat} (hown : w.ownsRow B 3 1 (.slice fa fr.length fc) fr.length (ints (natI fr))) (hlt : ∀ v ∈ fr, v < l.length) (hfl : fr.length ≤ 100000) :
    Calls Try.prog 43 #[.agg #[.slice a l.length cap], .slice fa fr.length fc, .bool silent] w fun e w' => WReachEnd w.heap.size (Esel l silent) fr w' e ∧ Frm [] w w' := by
  have hall : (natI fr).all (inB l.length) = true := List.all_eq_true.2 (fun x hx => by
    obtain ⟨v, hv, rfl⟩ := List.mem_map.1 hx
    exact (inB_iff _ _).2 ⟨by omega, by have := hlt v hv; omega⟩)
  have := rreach_any B0 a cap l fa fc (natI fr) silent w h (by rw [natI_len]; exact rd_of_owns hown (Nat.le_refl _)) (own_nilcap hown) (by rw [natI_len]; exact hfl)
  rw [natI_len] at this
  refine this.mono ?_
  rintro e w' ⟨h1, hf⟩
  rw [ReachEnd, if_pos ⟨hv, hall⟩] at h1
  obtain ⟨a', c, vs, he, ho, hr⟩ := h1
  refine ⟨⟨a', c, vs, he, ho, ?_⟩, hf⟩
  have hmap : (natI fr).map Int.toNat = fr := by
    rw [natI, List.map_map]
    refine (List.map_congr_left (fun x _ => ?_)).trans (List.map_id fr)
    simp
  rw [hmap] at hr
  exact hr

set_option linter.unusedSimpArgs false in
set_option maxRecDepth 100000 in
set_option maxHeartbeats 4000000 in
theorem rdist_any (B0 : Nat) (a : Option Addr) (cap : Nat) (l : Lts) (w : World) (h : LAt B0 w a cap l) :
    Calls Try.prog 33 #[.agg #[.slice a l.length cap]] w fun e w' => VDEnd w.heap.size l w' e ∧ Frm [] w w' := by
  have f0 : Frm [] w (w.alloc (.cells #[.slice a l.length cap] 25)) := (Frm.refl [] w).alloc _
  have hcut0 := h.cut
  clear h
  have h := hcut0
  clear hcut0
  have HB := Lib.hid (box1 w (.slice a l.length cap) 25)
  have HL0 := Lib.hid (h.nil f0 rfl)
  have hva := refValid_any w.heap.size a cap l _ (h.nil f0 rfl)
  have hl := h.lt
  clear h
  go_enter Try.func33, Try.ntmps33
  go_wp2_with fail
  refine hva.mono ?_
  rintro e1 w1 ⟨rfl, hf1⟩
  clear hva
  have F1 := f0.trans hf1 (by simp)
  have hb1 := (HB.out.frm hf1 (by simp)).cell (i := 0) rfl
  cases hv : validB l with
  | false =>
    have HR : Hid (VDEnd w.heap.size l w1 (.returned (.slice none 0 0))) := Lib.hid (by rw [VDEnd, if_neg (by rw [hv]; simp)])
    clear hv
    go_wp2_with fail
    go_ret
    exact ⟨HR.out, F1⟩
  | true =>
    have HVB := Lib.hid hv
    have HV := Lib.hid (vlts_of hv)
    have hfew := (vlts_of hv).few
    have hpos := (vlts_of hv).pos
    have i2 : (l.length : Int) ≤ 16384 := by omega
    have HF1 := Lib.hid F1
    have HL1 := Lib.hid (HL0.out.nil hf1 rfl)
    have HB1 := Lib.hid (HB.out.frm hf1 (by simp))
    have hsz1 := hf1.size
    simp only [World.alloc, Array.size_push] at hsz1
    clear hv F1 hf1
    go_wp2_with (first | (at_make; refine wpl_make_i _ rfl (.tmp 19) rfl _ l.length rfl rfl (by omega) ?_) | (at_make; fail))
    intro w2 hown2 hf2
    obtain ⟨go, hgoe⟩ : ∃ x, x = w1.heap.size := ⟨_, rfl⟩
    rw [← hgoe] at hown2 ⊢
    have HO2 := Lib.hid hown2
    have HF2 := Lib.hid hf2
    have HB2 := Lib.hid (HB1.out.frm hf2 (by simp))
    have HL2 := Lib.hid (HL1.out.nil hf2 rfl)
    have hgo2 := (hown2.lt go rfl).2
    have hgw : w.heap.size ≠ go := by omega
    have hgw2 : w.heap.size ≤ go := by omega
    have hb2 := HB2.out.cell (i := 0) rfl
    have hz : ∀ v, v < l.length → Tj.ix (List.replicate l.length (0 : Int)) v = if v < 0 then -1 else 0 := fun v hv => by
      rw [if_neg (Nat.not_lt_zero _), Tj.ix, List.getD_eq_getElem?_getD, List.getElem?_replicate, if_pos hv]; rfl
    have HZ := Lib.hid hz
    clear hown2 hf2 hb1 hgoe hz
    go_wp2_with fail
    go_loopg [4] l.length (fun q i wr => ∃ (k : Nat) (out : List Int), q = l.length - k ∧ k ≤ l.length ∧ i = .int .i64 (k : Int) ∧ out.length = l.length ∧ (∀ v, v < l.length → Tj.ix out v = if v < k then -1 else 0) ∧ wr.ownsRow go 3 1 (.slice (some ⟨go, 0, none⟩) l.length l.length) l.length (ints out) ∧ Frm [go] w2 wr)
    case atStart => exact ⟨0, _, rfl, Nat.zero_le _, rfl, by simp, HZ.out, HO2.out, Frm.refl _ _⟩
    case round =>
      obtain ⟨k, out0, rfl, hk, rfl, hol0, hneg, hown, hF⟩ := hrel
      have HNEG := Lib.hid hneg
      have HOWN := Lib.hid hown
      have HF := Lib.hid hF
      have i4 : (0 : Int) ≤ (k : Int) := by omega
      have cb := (HB2.out.frm hF (by simp; omega)).cell (i := 0) rfl
      have HLH := Lib.hid (HL2.out.frm hF (by simp; omega))
      clear hneg hown hF hb2
      by_cases hkl : k < l.length
      · have i5 : (k : Int) < (l.length : Int) := by omega
        have zo := (own_rowg2 HOWN.out).frozen k
        have co := (own_rowg2 HOWN.out).cell (ints_get (ix_some hol0 hkl))
        have hos := ownsB_setCell HOWN.out (g := go) rfl k (.int .i64 (-1))
        rw [← ints_set] at hos
        have HOS := Lib.hid hos
        have HFS := Lib.hid (HF.out.setCell (p := ⟨go, k, none⟩) (.inl (by simp)) (.int .i64 (-1)))
        have HN2 := Lib.hid (set_neg HNEG.out hol0 hkl)
        generalize Tj.ix out0 k = xo at co
        clear hos
        go_wp2_with fail
        go_roundg (l.length - (k + 1))
        case rel => exact ⟨k + 1, _, rfl, hkl, by go_num, by rw [List.length_set]; exact hol0, HN2.out, HOS.out, HFS.out⟩
        case measure => omega
      · have i5 : ¬ (k : Int) < (l.length : Int) := by omega
        have hkk : k = l.length := by omega
        have hneg := HNEG.out
        rw [hkk] at hneg
        have hrep := all_neg hneg hol0
        subst hrep
        obtain ⟨wq, hwqe⟩ : ∃ x, x = wr := ⟨wr, rfl⟩
        subst hwqe
        have HRC : Hid _ := Lib.hid (rreach_one w.heap.size a cap l 0 wq.heap.size true (wq.alloc (.cells #[.int .i64 0] 3)) (HLH.out.nil ((Frm.refl [] wq).alloc _) rfl) HVB.out (by omega) ((box1 wq (.int .i64 0) 3).cell (i := 0) rfl))
        have ncb := World.block_lt_of_cell? _ _ cb
        simp only at ncb
        have hszq := HF.out.size
        clear hkk hneg HNEG
        go_wp2_with fail
        refine HRC.out.mono ?_
        rintro e3 w3 ⟨⟨g3, c3, rs0, rfl, hown3, hir3⟩, hf3⟩
        have hfq3 : Frm [] wq w3 := ((Frm.refl [] wq).alloc (.cells #[.int .i64 0] 3)).trans hf3 (by simp)
        have HFQ3 := Lib.hid hfq3
        have hfr0 : freshL (List.replicate l.length (-1)) rs0 = rs0 := by
          rw [freshL, List.filter_eq_self]
          intro v hv
          obtain ⟨s, hs, hp⟩ := (hir3.mem v).1 hv
          rw [List.mem_singleton] at hs
          subst hs
          have hvl := hp.lt (esel_edge HV.out true) (by omega)
          rw [Tj.ix, List.getD_eq_getElem?_getD, List.getElem?_replicate, if_pos hvl]
          decide
        have hw0 : w3.ownsRow (wq.alloc (.cells #[.int .i64 0] 3)).heap.size 3 1 (.slice (some ⟨g3, 0, none⟩) (freshL (List.replicate l.length (-1)) rs0).length c3) (freshL (List.replicate l.length (-1)) rs0).length (ints (natI (freshL (List.replicate l.length (-1)) rs0))) := by rw [hfr0]; exact hown3
        have H0 : Hid (RHead l go go wq l.length (.slice (some ⟨g3, 0, none⟩) rs0.length c3) (.int .i64 0) w3) := Lib.hid ⟨0, _, [0], rs0, some ⟨g3, 0, none⟩, c3, (cneg_rep _).symm, by rw [hfr0], rfl, VD.start, Nx.start (by omega), hir3, ownsB_mono hw0 (by simp only [World.alloc, Array.size_push]; omega), own_frm_out HOWN.out hfq3 (by simp), hfq3.mono (by simp)⟩
        have hgoq := (HOWN.out.lt go rfl).2
        clear hown3 hir3 hf3 hfq3 hfr0 hw0
        go_wp2_with fail
        go_loopg [5, 6] l.length (fun q s5 s6 wr => RHead l go go wq q s5 s6 wr)
        case atStart => exact H0.out
        case round =>
          obtain ⟨wh, hwhe⟩ : ∃ x, x = wr := ⟨wr, rfl⟩
          subst hwhe
          obtain ⟨d, out, next, rs, a5, c5, rfl, rfl, rfl, hvd, hnx, hir, hown, hout, hFh⟩ := hrel
          obtain ⟨lev, hlev⟩ : ∃ x, x = freshL out rs := ⟨_, rfl⟩
          rw [← hlev] at hown ⊢
          have HLEV := Lib.hid hlev
          have HVD := Lib.hid hvd
          have HNX := Lib.hid hnx
          have HIR := Lib.hid hir
          have HOWNL := Lib.hid hown
          have HOUT := Lib.hid hout
          have HFH := Lib.hid hFh
          have HBW := Lib.hid ((HB2.out.frm HF.out (by simp; omega)).frm HFQ3.out (by simp))
          have hbh := ((HB2.out.frm HF.out (by simp; omega)).frm hFh (by simp; omega)).cell (i := 0) rfl
          have CBH := Lib.hid hbh
          have HLW := Lib.hid (HLH.out.frm hFh (by simp; omega))
          have hszh := hFh.size
          have hcnt := hvd.cnt
          have hol := hvd.len
          have hd16 : d ≤ 16384 := by omega
          have hrsn : ∀ v ∈ rs, v < l.length := fun v hv => by
            obtain ⟨s, hs, hp⟩ := (hir.mem v).1 hv
            exact hp.lt (esel_edge HV.out true) (hnx.fwd s hs).1
          have hlnd : lev.Nodup := by
            rw [hlev]
            exact List.Pairwise.filter _ (hir.asc.imp (fun hab => Nat.ne_of_lt hab))
          have hll : lev.length ≤ l.length := by
            have h1 := hlnd.length_le_of_subset (l₂ := List.range l.length) (fun v hv => List.mem_range.2 (hrsn v (by rw [hlev] at hv; exact (mem_fresh.1 hv).1)))
            simpa using h1
          have HLND := Lib.hid hlnd
          have HLN : Hid (∀ v ∈ lev, v < l.length) := Lib.hid (fun v hv => hrsn v (by rw [hlev] at hv; exact (mem_fresh.1 hv).1))
          have i3 : (lev.length : Int) ≤ 16384 := by omega
          have ngo := (hout.lt go rfl).2
          have nbh := World.block_lt_of_cell? _ _ hbh
          simp only at nbh
          clear hvd hnx hir hown hout hFh hlev hrsn hlnd cb
          by_cases hl0 : lev = []
          · have hn0 : next = [] := by
              refine List.eq_nil_iff_forall_not_mem.2 (fun s hs => ?_)
              have h1 : s ∈ lev := by
                rw [HLEV.out]
                exact mem_fresh.2 ⟨(HIR.out.mem s).2 ⟨s, hs, .refl s⟩, (HNX.out.fwd s hs).2.2⟩
              rw [hl0] at h1
              cases h1
            have hnx := HNX.out
            rw [hn0] at hnx
            have HEND : Hid (VDEnd w.heap.size l wh (.returned (.slice (some ⟨go, 0, none⟩) l.length l.length))) := Lib.hid (by
              rw [VDEnd, if_pos HVB.out]
              exact ⟨go, out, rfl, ownsB_mono HOUT.out (by omega), HVD.out.finish hnx (vr_lt HV.out)⟩)
            have HFIN := Lib.hid (((HF1.out.trans HF2.out (by simp)).trans HF.out (by simp; omega)).trans HFH.out (by simp; omega))
            subst hl0
            simp only [List.length_nil] at *
            clear hn0 hnx
            go_wp2_with fail
            go_ret
            exact ⟨HEND.out, HFIN.out⟩
          · have hlp : 0 < lev.length := List.length_pos_iff.2 hl0
            have i4' : (0 : Int) < (lev.length : Int) := by omega
            have HNE : Hid (next ≠ []) := Lib.hid (fun h0 => by
              refine hl0 (List.eq_nil_iff_forall_not_mem.2 (fun v hv => ?_))
              rw [HLEV.out] at hv
              obtain ⟨s, hs, _⟩ := (HIR.out.mem v).1 (mem_fresh.1 hv).1
              rw [h0] at hs
              cases hs)
            obtain ⟨gl, cl', he, _, _, _⟩ := owns_some (ownsB_mono HOWNL.out (Nat.zero_le _)) hlp
            obtain ⟨rfl, rfl⟩ : a5 = some ⟨gl, 0, none⟩ ∧ c5 = cl' := by simpa using he
            have hgl := (HOWNL.out.lt gl rfl).1
            have hglo : gl ≠ go := by omega
            clear hl0 he
            go_wp2_with fail
            go_loopg [8] lev.length (fun q s8 wr => ∃ (k : Nat) (o : List Int), q = lev.length - k ∧ k ≤ lev.length ∧ s8 = .int .i64 (k : Int) ∧ Part out o d (lev.take k) (lev.take k) ∧ wr.ownsRow go 3 1 (.slice (some ⟨go, 0, none⟩) l.length l.length) l.length (ints o) ∧ Frm [go] wh wr)
            case atStart => exact ⟨0, out, rfl, Nat.zero_le _, rfl, by rw [List.take_zero]; exact Part.start _ _, HOUT.out, Frm.refl _ _⟩
            case round =>
              obtain ⟨k, o, rfl, hk8, rfl, hpart, hown8, hF8⟩ := hrel
              have HP := Lib.hid hpart
              have HO8 := Lib.hid hown8
              have HF8 := Lib.hid hF8
              have i5' : (0 : Int) ≤ (k : Int) := by omega
              have hoo : o.length = l.length := by rw [hpart.len]; exact hol
              have hrl := own_rowg2 (own_frm_out HOWNL.out hF8 (by simpa using hglo))
              have cbk := hF8.cell CBH.out (by simp; omega)
              clear hpart hown8 hF8 hbh
              by_cases hkl2 : k < lev.length
              · have i6 : (k : Int) < (lev.length : Int) := by omega
                obtain ⟨s, hs⟩ : ∃ s, lev[k]? = some s := ⟨_, List.getElem?_eq_getElem hkl2⟩
                have hsl := HLN.out s (List.mem_of_getElem? hs)
                have cs := hrl.cell (ints_get (natI_get hs))
                have zo := (own_rowg2 HO8.out).frozen s
                have co := (own_rowg2 HO8.out).cell (ints_get (ix_some hoo hsl))
                have hos := ownsB_setCell HO8.out (g := go) rfl s (.int .i64 (d : Int))
                rw [← ints_set] at hos
                have HOS := Lib.hid hos
                have HFS := Lib.hid (HF8.out.setCell (p := ⟨go, s, none⟩) (.inl (by simp)) (.int .i64 (d : Int)))
                have hp2 : Part out (o.set s (d : Int)) d (lev.take (k + 1)) (lev.take (k + 1)) := by
                  have h1 := HP.out
                  have h2 := HLND.out
                  rw [HLEV.out] at h1 h2 hs ⊢
                  exact h1.all h2 hs (by omega)
                have HP2 := Lib.hid hp2
                have i7 : (0 : Int) ≤ (s : Int) := by omega
                have i8 : (s : Int) < (l.length : Int) := by omega
                generalize Tj.ix o s = xo at co
                clear hos hp2 hs hrl
                go_wp2_with fail
                go_roundg (lev.length - (k + 1))
                case rel => exact ⟨k + 1, _, rfl, hkl2, by go_num, HP2.out, HOS.out, HFS.out⟩
                case measure => omega
              · have i6 : ¬ (k : Int) < (lev.length : Int) := by omega
                have hkk2 : k = lev.length := by omega
                have hp0 := HP.out
                rw [hkk2, List.take_length] at hp0
                have hp1 : Part out o d rs lev := by
                  rw [HLEV.out] at hp0 ⊢
                  exact hp0.wide
                have HPP := Lib.hid hp1
                have HVD2 := Lib.hid (HVD.out.round HNX.out HIR.out hp1 HNE.out)
                have hless := hp1.less HNX.out HIR.out HNE.out
                obtain ⟨wl, hwle⟩ : ∃ x, x = wr := ⟨wr, rfl⟩
                subst hwle
                have HLL := Lib.hid (HLW.out.frm HF8.out (by simp; omega))
                have CBL := Lib.hid cbk
                have HRL := Lib.hid hrl
                have hszl := HF8.out.size
                have hgll := (own_frm_out HOWNL.out HF8.out (by simpa using hglo)).lt gl rfl
                clear hkk2 hp0 hp1 hrl
                go_wp2_with fail
                go_loopg [7, 9] lev.length (fun q s7 s9 wr => ∃ (i : Nat) (nx : List Nat) (a7 : Option Addr) (c7 : Nat), q = lev.length - i ∧ i ≤ lev.length ∧ s9 = .int .i64 (i : Int) ∧ s7 = .slice a7 nx.length c7 ∧ nx.Pairwise (· < ·) ∧ (∀ t ∈ nx, ∃ s ∈ lev, t ∈ Vis l s ∧ Tj.ix o t < 0) ∧ (∀ s ∈ lev.take i, ∀ t ∈ Vis l s, 0 ≤ Tj.ix o t ∨ t ∈ nx) ∧ wr.ownsRow wl.heap.size 3 1 (.slice a7 nx.length c7) nx.length (ints (natI nx)) ∧ (nx = [] → a7 = none ∧ c7 = 0) ∧ Frm [] wl wr)
                case atStart => exact ⟨0, [], none, 0, rfl, Nat.zero_le _, rfl, rfl, List.Pairwise.nil, (fun t ht => by cases ht), (fun s hs => by simp at hs), World.ownsRow_nil _ _ _ _, fun _ => ⟨rfl, rfl⟩, Frm.refl _ _⟩
                case round =>
                  obtain ⟨i, nx, a7, c7, rfl, hi, rfl, rfl, hasc, hfw, hcm, hown7, hz7, hF7⟩ := hrel
                  have HASC := Lib.hid hasc
                  have HFW := Lib.hid hfw
                  have HCM := Lib.hid hcm
                  have HOWN7 := Lib.hid hown7
                  have HZ7 := Lib.hid hz7
                  have HF7 := Lib.hid hF7
                  have i9 : (0 : Int) ≤ (i : Int) := by omega
                  have cb7 := hF7.cell CBL.out (by simp)
                  have hrl7 := HRL.out.frm hF7 (by simp)
                  have hsz7 := hF7.size
                  have hvisn : ∀ t ∈ nx, t < l.length := fun t ht => by
                    obtain ⟨s, hs, hv, _⟩ := hfw t ht
                    exact vis_edge HV.out s t (HLN.out s hs) hv
                  have hnxl := asc_few hasc hvisn
                  have HNXL := Lib.hid hvisn
                  have i10 : (nx.length : Int) ≤ 16384 := by omega
                  clear hasc hfw hcm hown7 hz7 hF7 hvisn cbk
                  by_cases hil : i < lev.length
                  · have i11 : (i : Int) < (lev.length : Int) := by omega
                    obtain ⟨s, hs⟩ : ∃ s, lev[i]? = some s := ⟨_, List.getElem?_eq_getElem hil⟩
                    have hsl := HLN.out s (List.mem_of_getElem? hs)
                    have cs := hrl7.cell (ints_get (natI_get hs))
                    obtain ⟨row, hrw⟩ : ∃ row, l[s]? = some row := ⟨_, List.getElem?_eq_getElem hsl⟩
                    obtain ⟨bl, ol, ra, rc, hla, hblB, q1, hrr⟩ := HLL.out.cell s row hrw
                    have hla' := hla
                    subst hla'
                    have hfewr := (HV.out.row row (List.mem_of_getElem? hrw)).few
                    have HRR := Lib.hid hrr
                    have Q1 := Lib.hid q1
                    have HS := Lib.hid hs
                    have HROW := Lib.hid hrw
                    have CS0 := Lib.hid (HRL.out.cell (ints_get (natI_get hs)))
                    have i12 : (row.length : Int) ≤ 262144 := by omega
                    have i13 : (0 : Int) ≤ (s : Int) := by omega
                    have i14 : (s : Int) < (l.length : Int) := by omega
                    clear hs hrw hrr q1 hla cs hrl7
                    go_wp2_with fail
                    go_loopg [7, 10] row.length (fun q s7 s10 wr => ∃ (j : Nat) (nx : List Nat) (a7 : Option Addr) (c7 : Nat), q = row.length - j ∧ j ≤ row.length ∧ s10 = .int .i64 (j : Int) ∧ s7 = .slice a7 nx.length c7 ∧ nx.Pairwise (· < ·) ∧ (∀ t ∈ nx, ∃ s ∈ lev, t ∈ Vis l s ∧ Tj.ix o t < 0) ∧ (∀ s ∈ lev.take i, ∀ t ∈ Vis l s, 0 ≤ Tj.ix o t ∨ t ∈ nx) ∧ (∀ y ∈ row.take j, y.1 ≠ 0 → 0 ≤ Tj.ix o y.2.toNat ∨ y.2.toNat ∈ nx) ∧ wr.ownsRow wl.heap.size 3 1 (.slice a7 nx.length c7) nx.length (ints (natI nx)) ∧ (nx = [] → a7 = none ∧ c7 = 0) ∧ Frm [] wl wr)
                    case atStart => exact ⟨0, nx, a7, c7, rfl, Nat.zero_le _, rfl, rfl, HASC.out, HFW.out, HCM.out, (fun y hy => by simp at hy), HOWN7.out, HZ7.out, HF7.out⟩
                    case round =>
                      clear HASC HFW HCM HOWN7 HZ7 HF7 HNXL cb7 hsz7 hnxl i10
                      obtain ⟨j, nx, a7, c7, rfl, hj, rfl, rfl, hasc, hfw, hcm, hcr, hown7, hz7, hF7⟩ := hrel
                      have HASC := Lib.hid hasc
                      have HFW := Lib.hid hfw
                      have HCM := Lib.hid hcm
                      have HCR := Lib.hid hcr
                      have HOWN7 := Lib.hid hown7
                      have HZ7 := Lib.hid hz7
                      have HF7 := Lib.hid hF7
                      have i15 : (0 : Int) ≤ (j : Int) := by omega
                      have cb7 := hF7.cell CBL.out (by simp)
                      have cs7 := hF7.cell CS0.out (by simp)
                      have q7 := hF7.cell Q1.out (by simp)
                      have n1 := World.block_lt_of_cell? _ _ cs7
                      have n2 := World.block_lt_of_cell? _ _ q7
                      have n3 := World.block_lt_of_cell? _ _ cb7
                      have hsz7 := hF7.size
                      have hnxl := asc_few hasc (n := l.length) (fun t ht => by
                        obtain ⟨s, hs, hv, _⟩ := hfw t ht
                        exact vis_edge HV.out s t (HLN.out s hs) hv)
                      simp only at n1 n2 n3
                      clear hasc hfw hcm hcr hown7 hz7 hF7
                      by_cases hjl : j < row.length
                      · have i16 : (j : Int) < (row.length : Int) := by omega
                        obtain ⟨⟨e, t⟩, harc⟩ : ∃ y, row[j]? = some y := ⟨_, List.getElem?_eq_getElem hjl⟩
                        have hok := (HV.out.row row (List.mem_of_getElem? HROW.out)).ok e t (List.mem_of_getElem? harc)
                        obtain ⟨m, rfl⟩ : ∃ m : Nat, t = (m : Int) := ⟨t.toNat, by omega⟩
                        have hml : m < l.length := by omega
                        obtain ⟨g3', o3, rfl, hg3, p1, p2⟩ := HRR.out.2.2.2 j e m harc
                        have d1 := HF7.out.cell p1 (by simp)
                        have d2 := HF7.out.cell p2 (by simp)
                        have n4 := World.block_lt_of_cell? _ _ d1
                        simp only at n4
                        obtain ⟨x, hx⟩ : ∃ x, Tj.ix o m = x := ⟨_, rfl⟩
                        have co := (own_rowg2 (own_frm_out HO8.out HF7.out (by simp))).cell (ints_get (ix_some hoo hml))
                        rw [hx] at co
                        have n5 := World.block_lt_of_cell? _ _ co
                        simp only at n5
                        have HX := Lib.hid hx
                        have HARC := Lib.hid harc
                        have i17 : (0 : Int) ≤ (m : Int) := by omega
                        have i18 : (m : Int) < (l.length : Int) := by omega
                        have hstep : ∀ nx2 : List Nat, (∀ t ∈ nx, t ∈ nx2) → (e ≠ 0 → 0 ≤ x ∨ m ∈ nx2) → ∀ y ∈ row.take (j + 1), y.1 ≠ 0 → 0 ≤ Tj.ix o y.2.toNat ∨ y.2.toNat ∈ nx2 := by
                          intro nx2 hsub hnew y hy hy0
                          rw [List.take_add_one, harc, Option.toList_some] at hy
                          rcases List.mem_append.1 hy with hy | hy
                          · exact (HCR.out y hy hy0).imp id (hsub _)
                          · rw [List.mem_singleton] at hy
                            subst hy
                            have := hnew hy0
                            simpa [hx] using this
                        have HSTEP := Lib.hid hstep
                        clear p1 p2 harc hok hx hstep
                        go_wp2_with fail
                        go_quiet (fail)
                        go_wp2_with fail
                        refine' wp_region_last (L := 12) _ (fun w' => w'.cell? ⟨w.heap.size, 0, none⟩ = some (.slice (some ⟨bl, ol, none⟩) l.length cap) ∧ w'.cell? ⟨gl, i, none⟩ = some (.int .i64 (s : Int)) ∧ w'.cell? ⟨bl, ol + s, none⟩ = some (.slice (some ⟨g3', o3, none⟩) row.length rc) ∧ w'.cell? ⟨g3', o3 + j * 2, none⟩ = some (.int .i64 e) ∧ w'.cell? ⟨g3', o3 + j * 2 + 1, none⟩ = some (.int .i64 (m : Int))) (by kernel_rfl) rfl rfl rfl rfl ?he (by kernel_rfl) (by kernel_rfl) ?hS ?h
                        case he =>
                          simp only [nopOf, List.getElem_toArray, List.getElem_cons_succ, List.getElem_cons_zero, List.setIfInBounds_toArray, List.set_cons_succ, List.set_cons_zero]
                          rfl
                        case hS => exact ⟨cb7, cs7, q7, d1, d2⟩
                        intro hHeld
                        refine wpAnyH_take (i := 0) (v := ?_) rfl (by kernel_rfl) (by kernel_rfl) (by kernel_rfl) (fun _ _ _ h => h) (Or.inl ⟨by rfl, ?_⟩) (by assumption) ?_
                        rotate_left
                        · intro w9 hS9
                          try dsimp only at hS9
                          go_split_ands
                          go_simp
                          try with_reducible rfl
                        try simp only [Act.put, List.getElem_toArray, List.getElem_cons_succ, List.getElem_cons_zero, List.setIfInBounds_toArray, List.set_cons_zero, List.set_cons_succ]
                        refine wpAnyH_take (i := 1) (v := ?_) rfl (by kernel_rfl) (by kernel_rfl) (by kernel_rfl) (fun _ _ _ h => h) (Or.inl ⟨by rfl, ?_⟩) (by assumption) ?_
                        rotate_left
                        · intro w9 hS9
                          try dsimp only at hS9
                          go_split_ands
                          go_simp
                          try with_reducible rfl
                        try simp only [Act.put, List.getElem_toArray, List.getElem_cons_succ, List.getElem_cons_zero, List.setIfInBounds_toArray, List.set_cons_zero, List.set_cons_succ]
                        refine wpAnyH_take (i := 2) (v := ?_) rfl (by kernel_rfl) (by kernel_rfl) (by kernel_rfl) (fun _ _ _ h => h) (Or.inl ⟨by rfl, ?_⟩) (by assumption) ?_
                        rotate_left
                        · intro w9 hS9
                          try dsimp only at hS9
                          go_split_ands
                          go_simp
                          try with_reducible rfl
                        try simp only [Act.put, List.getElem_toArray, List.getElem_cons_succ, List.getElem_cons_zero, List.setIfInBounds_toArray, List.set_cons_zero, List.set_cons_succ]
                        refine wpAnyH_take (i := 3) (v := ?_) rfl (by kernel_rfl) (by kernel_rfl) (by kernel_rfl) (fun _ _ _ h => h) (Or.inl ⟨by rfl, ?_⟩) (by assumption) ?_
                        rotate_left
                        · intro w9 hS9
                          try dsimp only at hS9
                          go_split_ands
                          go_simp
                          try with_reducible rfl
                        try simp only [Act.put, List.getElem_toArray, List.getElem_cons_succ, List.getElem_cons_zero, List.setIfInBounds_toArray, List.set_cons_zero, List.set_cons_succ]
                        refine wpAnyH_take (i := 4) (v := ?_) rfl (by kernel_rfl) (by kernel_rfl) (by kernel_rfl) (fun _ _ _ h => h) (Or.inl ⟨by rfl, ?_⟩) (by assumption) ?_
                        rotate_left
                        · intro w9 hS9
                          try dsimp only at hS9
                          go_split_ands
                          go_simp
                          try with_reducible rfl
                        try simp only [Act.put, List.getElem_toArray, List.getElem_cons_succ, List.getElem_cons_zero, List.setIfInBounds_toArray, List.set_cons_zero, List.set_cons_succ]
                        refine wpAnyH_take (i := 5) (v := ?_) rfl (by kernel_rfl) (by kernel_rfl) (by kernel_rfl) (fun _ _ _ h => h) (Or.inl ⟨by rfl, ?_⟩) (by assumption) ?_
                        rotate_left
                        · intro w9 hS9
                          try dsimp only at hS9
                          go_split_ands
                          go_simp
                          try with_reducible rfl
                        try simp only [Act.put, List.getElem_toArray, List.getElem_cons_succ, List.getElem_cons_zero, List.setIfInBounds_toArray, List.set_cons_zero, List.set_cons_succ]
                        refine wpAnyH_take (i := 6) (v := ?_) rfl (by kernel_rfl) (by kernel_rfl) (by kernel_rfl) (fun _ _ _ h => h) (Or.inl ⟨by rfl, ?_⟩) (by assumption) ?_
                        rotate_left
                        · intro w9 hS9
                          try dsimp only at hS9
                          go_split_ands
                          go_simp
                          try with_reducible rfl
                        try simp only [Act.put, List.getElem_toArray, List.getElem_cons_succ, List.getElem_cons_zero, List.setIfInBounds_toArray, List.set_cons_zero, List.set_cons_succ]
                        refine wpAnyH_take (i := 7) (v := ?_) rfl (by kernel_rfl) (by kernel_rfl) (by kernel_rfl) (fun _ _ _ h => h) (Or.inl ⟨by rfl, ?_⟩) (by assumption) ?_
                        rotate_left
                        · intro w9 hS9
                          try dsimp only at hS9
                          go_split_ands
                          go_simp
                          try with_reducible rfl
                        try simp only [Act.put, List.getElem_toArray, List.getElem_cons_succ, List.getElem_cons_zero, List.setIfInBounds_toArray, List.set_cons_zero, List.set_cons_succ]
                        refine wpAnyH_take (i := 8) (v := ?_) rfl (by kernel_rfl) (by kernel_rfl) (by kernel_rfl) (fun _ _ _ h => h) (Or.inl ⟨by rfl, ?_⟩) (by assumption) ?_
                        rotate_left
                        · intro w9 hS9
                          try dsimp only at hS9
                          go_split_ands
                          go_simp
                          try with_reducible rfl
                        try simp only [Act.put, List.getElem_toArray, List.getElem_cons_succ, List.getElem_cons_zero, List.setIfInBounds_toArray, List.set_cons_zero, List.set_cons_succ]
                        refine wpAnyH_take (i := 9) (v := ?_) rfl (by kernel_rfl) (by kernel_rfl) (by kernel_rfl) (fun _ _ _ h => h) (Or.inl ⟨by rfl, ?_⟩) (by assumption) ?_
                        rotate_left
                        · intro w9 hS9
                          try dsimp only at hS9
                          go_split_ands
                          go_simp
                          try with_reducible rfl
                        try simp only [Act.put, List.getElem_toArray, List.getElem_cons_succ, List.getElem_cons_zero, List.setIfInBounds_toArray, List.set_cons_zero, List.set_cons_succ]
                        refine wpAnyH_take (i := 10) (v := ?_) rfl (by kernel_rfl) (by kernel_rfl) (by kernel_rfl) (fun _ _ _ h => h) (Or.inl ⟨by rfl, ?_⟩) (by assumption) ?_
                        rotate_left
                        · intro w9 hS9
                          try dsimp only at hS9
                          go_split_ands
                          go_simp
                          try with_reducible rfl
                        try simp only [Act.put, List.getElem_toArray, List.getElem_cons_succ, List.getElem_cons_zero, List.setIfInBounds_toArray, List.set_cons_zero, List.set_cons_succ]
                        refine wpAnyH_ready (rs := [11]) (by kernel_rfl) (by simp) ?_
                        refine AllReadyH.cons rfl (fun K hK => ?_) AllReadyH.nil
                        go_simp
                        have hfa : Frm [] (wr.drewN nq).drew ((wr.drewN nq).drew.alloc (.cells #[.int .i64 0, .int .i64 0] 51)) := (Frm.refl [] _).alloc _
                        refine hK.out _ _ ?_ (fun hHeld => ?_)
                        · exact ⟨hfa.cell cb7 (by simp), hfa.cell cs7 (by simp), hfa.cell q7 (by simp), hfa.cell d1 (by simp), hfa.cell d2 (by simp)⟩
                        clear hK K
                        try simp only [Act.put, List.getElem_toArray, List.getElem_cons_succ, List.getElem_cons_zero, List.setIfInBounds_toArray, List.set_cons_zero, List.set_cons_succ]
                        refine wpAnyH_take (i := 12) (v := ?_) rfl (by kernel_rfl) (by kernel_rfl) (by kernel_rfl) (fun _ _ _ h => h) (Or.inl ⟨by rfl, ?_⟩) (by assumption) ?_
                        rotate_left
                        · intro w9 hS9
                          try dsimp only at hS9
                          go_split_ands
                          go_simp
                          try with_reducible rfl
                        try simp only [Act.put, List.getElem_toArray, List.getElem_cons_succ, List.getElem_cons_zero, List.setIfInBounds_toArray, List.set_cons_zero, List.set_cons_succ]
                        refine wpAnyH_done (by kernel_rfl) ?_ _
                        refine Qt.last rfl rfl ?_
                        simp only [List.getElem_toArray, List.getElem_cons_succ, List.getElem_cons_zero]
                        have rb : RowAt ((wr.drewN (nq + 1)).alloc (.cells #[.int .i64 0, .int .i64 0] 51)) wr.heap.size 51 [.int .i64 0, .int .i64 0] := RowAt.made (wr.drewN (nq + 1)) _ _ _ rfl
                        have kb0 := rb.cell (i := 0) rfl
                        have kb1 := rb.cell (i := 1) rfl
                        have zb0 := rb.frozen 0
                        have zb1 := rb.frozen 1
                        go_simp
                        have hfz : Frm [] wr ((((wr.drewN (nq + 1)).alloc (.cells #[.int .i64 0, .int .i64 0] 51)).setCell ⟨wr.heap.size, 0, none⟩ (.int .i64 e)).setCell ⟨wr.heap.size, 1, none⟩ (.int .i64 (m : Int))) := (((((Frm.refl [] wr).drewN _).alloc _).setCell (p := ⟨wr.heap.size, 0, none⟩) (.inr (Nat.le_refl _)) _).setCell (p := ⟨wr.heap.size, 1, none⟩) (.inr (Nat.le_refl _)) _)
                        have co9 := hfz.cell co (by simp)
                        have HFZ := Lib.hid hfz
                        have HOZ := Lib.hid (ownsB_frm HOWN7.out hfz (by simp))
                        have HF9 := Lib.hid (HF7.out.trans hfz (by simp))
                        clear hfz co
                        by_cases happ : e ≠ 0 ∧ x < 0
                        · obtain ⟨he0, hx0⟩ := happ
                          have heb : (e == 0) = false := by simpa using he0
                          obtain ⟨nx2, hadd, hasc2, hmem2⟩ := add_nat (m := m) HASC.out
                          have HFW2 : Hid (∀ t ∈ nx2, ∃ s ∈ lev, t ∈ Vis l s ∧ Tj.ix o t < 0) := Lib.hid (fun t ht => by
                            rcases (hmem2 t).1 ht with rfl | ht
                            · exact ⟨s, List.mem_of_getElem? HS.out, (mem_vis HROW.out).2 ⟨(e, (t : Int)), List.mem_of_getElem? HARC.out, he0, by simp⟩, by rw [HX.out]; exact hx0⟩
                            · exact HFW.out t ht)
                          have HCM2 : Hid (∀ s ∈ lev.take i, ∀ t ∈ Vis l s, 0 ≤ Tj.ix o t ∨ t ∈ nx2) := Lib.hid (fun s hs t ht => (HCM.out s hs t ht).imp id (fun h9 => (hmem2 t).2 (.inr h9)))
                          have HCR2 := Lib.hid (HSTEP.out nx2 (fun t ht => (hmem2 t).2 (.inr ht)) (fun _ => .inr ((hmem2 m).2 (.inl rfl))))
                          have HASC2 := Lib.hid hasc2
                          have HADD := Lib.hid hadd
                          have HNE2 : Hid (nx2 ≠ []) := Lib.hid (fun h0 => by
                            have := (hmem2 m).2 (.inl rfl)
                            rw [h0] at this
                            cases this)
                          clear hadd hasc2 hmem2
                          go_wp2_with fail
                          have hadd := add_any wl.heap.size a7 c7 (natI nx) (m : Int) _ (Nat.le_trans hsz7 HFZ.out.size) (by rw [OwnI, natI_len]; exact HOZ.out) (fun h0 => HZ7.out (by simpa [natI] using h0)) (by rw [natI_len]; omega)
                          simp only [natI_len, HADD.out] at hadd
                          refine hadd.mono ?_
                          rintro e9 w9 ⟨a9, c9, rfl, hown9, hf9⟩
                          rw [OwnI, natI_len] at hown9
                          have HOWN9 := Lib.hid hown9
                          have HFX := Lib.hid (HF9.out.trans hf9 (by simp))
                          clear hadd hown9 hf9
                          go_wp2_with fail
                          go_roundg (row.length - (j + 1))
                          case rel => exact ⟨j + 1, nx2, a9, c9, rfl, hjl, by go_num, rfl, HASC2.out, HFW2.out, HCM2.out, HCR2.out, HOWN9.out, fun h0 => absurd h0 HNE2.out, HFX.out⟩
                          case measure => omega
                        · have HCR2 := Lib.hid (HSTEP.out nx (fun t ht => ht) (fun h9 => .inl (by
                            have : ¬ x < 0 := fun h8 => happ ⟨h9, h8⟩
                            omega)))
                          by_cases he0 : e = 0
                          · subst he0
                            go_wp2_with fail
                            go_roundg (row.length - (j + 1))
                            case rel => exact ⟨j + 1, nx, a7, c7, rfl, hjl, by go_num, rfl, HASC.out, HFW.out, HCM.out, HCR2.out, HOZ.out, HZ7.out, HF9.out⟩
                            case measure => omega
                          · have heb : (e == 0) = false := by simpa using he0
                            have hx0 : ¬ x < 0 := fun h8 => happ ⟨he0, h8⟩
                            go_wp2_with fail
                            go_roundg (row.length - (j + 1))
                            case rel => exact ⟨j + 1, nx, a7, c7, rfl, hjl, by go_num, rfl, HASC.out, HFW.out, HCM.out, HCR2.out, HOZ.out, HZ7.out, HF9.out⟩
                            case measure => omega
                      · have i16 : ¬ (j : Int) < (row.length : Int) := by omega
                        have HCM2 : Hid (∀ s ∈ lev.take (i + 1), ∀ t ∈ Vis l s, 0 ≤ Tj.ix o t ∨ t ∈ nx) := Lib.hid (fun u hu t ht => by
                          rw [List.take_add_one, HS.out, Option.toList_some] at hu
                          rcases List.mem_append.1 hu with hu | hu
                          · exact HCM.out u hu t ht
                          · rw [List.mem_singleton] at hu
                            subst hu
                            obtain ⟨y, hy, hy0, rfl⟩ := (mem_vis HROW.out).1 ht
                            refine HCR.out y ?_ hy0
                            rw [List.take_of_length_le (by omega)]
                            exact hy)
                        go_wp2_with fail
                        go_quiet (fail)
                        go_wp2_with fail
                        go_roundg (lev.length - (i + 1))
                        case rel => exact ⟨i + 1, nx, a7, c7, rfl, hil, by go_num, rfl, HASC.out, HFW.out, HCM2.out, HOWN7.out, HZ7.out, HF7.out.drewN _⟩
                        case measure => omega
                  · have i11 : ¬ (i : Int) < (lev.length : Int) := by omega
                    have hii : i = lev.length := by omega
                    have hcm := HCM.out
                    rw [hii, List.take_length] at hcm
                    obtain ⟨wn, hwne⟩ : ∃ x, x = wr := ⟨wr, rfl⟩
                    subst hwne
                    have hnx2 := HVD.out.next HVD2.out HNX.out HIR.out HPP.out (vr_lt HV.out) HFW.out hcm
                    have HNX2 := Lib.hid hnx2
                    have hrr := rrow_any w.heap.size a cap l a7 c7 nx true wn ((HLL.out.frm HF7.out (by simp)).mono (Nat.le_refl _)) HVB.out HOWN7.out HNXL.out (by omega)
                    have HFW4 := Lib.hid (HF8.out.trans HF7.out (by simp))
                    have HOX := Lib.hid (own_frm_out HO8.out HF7.out (by simp))
                    have CBN := Lib.hid cb7
                    clear hii hcm hrl7
                    go_wp2_with fail
                    refine hrr.mono ?_
                    rintro e5 w5 ⟨⟨a5', c5', rs2, rfl, hown5, hir5⟩, hf5⟩
                    have HIR5 := Lib.hid hir5
                    have HOWN5 := Lib.hid hown5
                    have HF5 := Lib.hid hf5
                    have hsz5 := hf5.size
                    have HRS2 : Hid (∀ v ∈ rs2, v < l.length) := Lib.hid (fun v hv => by
                      obtain ⟨s, hs, hp⟩ := (hir5.mem v).1 hv
                      exact hp.lt (esel_edge HV.out true) (hnx2.fwd s hs).1)
                    have hrs2l : rs2.length ≤ l.length := asc_few hir5.asc HRS2.out
                    have HOY := Lib.hid (own_frm_out HOX.out hf5 (by simp))
                    have i12 : (rs2.length : Int) ≤ 16384 := by omega
                    clear hrr hown5 hir5 hf5 hnx2
                    go_wp2_with fail
                    go_loopg [5, 13] rs2.length (fun q s5 s13 wr => ∃ (k : Nat) (lv : List Nat) (a5 : Option Addr) (c5 : Nat), q = rs2.length - k ∧ k ≤ rs2.length ∧ s13 = .int .i64 (k : Int) ∧ s5 = .slice a5 lv.length c5 ∧ Hid (lv = freshL o (rs2.take k)) ∧ lv.length ≤ k ∧ wr.ownsRow w5.heap.size 3 1 (.slice a5 lv.length c5) lv.length (ints (natI lv)) ∧ Frm [] w5 wr)
                    case atStart => exact ⟨0, [], none, 0, rfl, Nat.zero_le _, rfl, rfl, Lib.hid rfl, Nat.le_refl _, World.ownsRow_nil _ _ _ _, Frm.refl _ _⟩
                    case round =>
                      obtain ⟨k, lv, a6, c6, rfl, hk6, rfl, rfl, HLV, hlvk, hown6, hF6⟩ := hrel
                      have HOWN6 := Lib.hid hown6
                      have HF6 := Lib.hid hF6
                      have i13 : (0 : Int) ≤ (k : Int) := by omega
                      have hsz6 := hF6.size
                      clear hown6 hF6
                      by_cases hk7 : k < rs2.length
                      · have i14 : (k : Int) < (rs2.length : Int) := by omega
                        obtain ⟨s, hs⟩ : ∃ s, rs2[k]? = some s := ⟨_, List.getElem?_eq_getElem hk7⟩
                        have hsl := HRS2.out s (List.mem_of_getElem? hs)
                        obtain ⟨gr, cr', he, _, _, hrow⟩ := owns_some (ownsB_mono (ownsB_frm HOWN5.out HF6.out (by simp)) (Nat.zero_le _)) (show 0 < rs2.length by omega)
                        obtain ⟨rfl, rfl⟩ : a5' = some ⟨gr, 0, none⟩ ∧ c5' = cr' := by simpa using he
                        have cs := hrow.cell (ints_get (natI_get hs))
                        obtain ⟨x, hx⟩ : ∃ x, Tj.ix o s = x := ⟨_, rfl⟩
                        have co := (own_rowg2 (own_frm_out HOY.out HF6.out (by simp))).cell (ints_get (ix_some hoo hsl))
                        rw [hx] at co
                        have n6 := World.block_lt_of_cell? _ _ co
                        have n7 := World.block_lt_of_cell? _ _ cs
                        simp only at n6 n7
                        have HTK : Hid (freshL o (rs2.take (k + 1)) = freshL o (rs2.take k) ++ (if x < 0 then [s] else [])) := Lib.hid (by
                          rw [List.take_add_one, hs, Option.toList_some, freshL, freshL, List.filter_append]
                          congr 1
                          by_cases h9 : x < 0
                          · rw [if_pos h9, List.filter_cons_of_pos (by rw [hx]; simpa using h9), List.filter_nil]
                          · rw [if_neg h9, List.filter_cons_of_neg (by rw [hx]; simpa using h9), List.filter_nil])
                        have i15 : (0 : Int) ≤ (s : Int) := by omega
                        have i16 : (s : Int) < (l.length : Int) := by omega
                        have i17 : (lv.length : Int) ≤ 16384 := by omega
                        clear he hrow hs hx
                        by_cases hx0 : x < 0
                        · have HLV2 : Hid (lv ++ [s] = freshL o (rs2.take (k + 1))) := Lib.hid (by rw [HTK.out, if_pos hx0, HLV.out])
                          go_wp2_with (first | (at_builtin; refine wpl_app_int rfl (.tmp 113) (.tmp 118) rfl w5.heap.size lv.length (lv.length + 1) (.slice a6 lv.length c6) (natI lv) rfl (HOWN6.out.alloc _) (natI_len _) ⟨wr.heap.size, 0, none⟩ 1 1 [(s : Int)] rfl rfl (cells_new_at _ (s : Int) _ _ (by simp)) rfl (by omega) (by simp; omega) ?_) | (at_builtin; fail))
                          intro a9 c9 w9 hown9 _ hf9
                          have hown9' : w9.ownsRow w5.heap.size 3 1 (.slice a9 (lv ++ [s]).length c9) (lv ++ [s]).length (ints (natI (lv ++ [s]))) := by
                            rw [List.length_append, natI, List.map_append]
                            exact hown9
                          have HOWN9 := Lib.hid hown9'
                          have HF9 := Lib.hid (hf9 [] w5 (fun q hq => .inr (HOWN6.out.lt q hq).1) (HF6.out.alloc _))
                          clear hown9 hf9 hown9'
                          go_wp2_with fail
                          go_roundg (rs2.length - (k + 1))
                          case rel => exact ⟨k + 1, lv ++ [s], a9, c9, rfl, hk7, by go_num, by rw [List.length_append]; rfl, HLV2, by rw [List.length_append]; simp; omega, HOWN9.out, HF9.out⟩
                          case measure => omega
                        · have HLV2 : Hid (lv = freshL o (rs2.take (k + 1))) := Lib.hid (by rw [HTK.out, if_neg hx0, List.append_nil]; exact HLV.out)
                          go_wp2_with fail
                          go_roundg (rs2.length - (k + 1))
                          case rel => exact ⟨k + 1, lv, a6, c6, rfl, hk7, by go_num, rfl, HLV2, by omega, HOWN6.out, HF6.out⟩
                          case measure => omega
                      · have i14 : ¬ (k : Int) < (rs2.length : Int) := by omega
                        have hkk7 : k = rs2.length := by omega
                        have hlv := HLV.out
                        rw [hkk7, List.take_length] at hlv
                        have HLVE := Lib.hid hlv
                        have HEND : Hid (RHead l go go wq (cneg o) (.slice a6 lv.length c6) (.int .i64 ((d + 1 : Nat) : Int)) wr) := Lib.hid (by
                          have h1 := ownsB_mono HOWN6.out (C := wq.heap.size) (by omega)
                          rw [hlv] at h1 ⊢
                          exact ⟨d + 1, o, nx, rs2, a6, c6, rfl, rfl, rfl, HVD2.out, HNX2.out, HIR5.out, h1, own_frm_out HOY.out HF6.out (by simp), (((HFH.out.trans HFW4.out (by simp)).trans HF5.out (by simp)).trans HF6.out (by simp))⟩)
                        clear hkk7 hlv
                        go_wp2_with fail
                        go_roundg (cneg o)
                        case rel => exact HEND.out
                        case measure => exact hless

end Go.Proofs.Ytknfdpkfomlckaa
