/- Contract of graph.Distances. -/
import Derived.Test.YtknfdpkfomlckaaB8
import Derived.Test.YtknfdpkfomlckaaB4
namespace Go.Proofs.Ytknfdpkfomlckaa
open Go.RowKit

theorem rd_keep {fp : List Nat} {w w' : World} {B n c : Nat} {a : Option Addr} {xs : List Value} (h : w.ownsRow B 3 1 (.slice a n c) n xs) (hf : Frm fp w w') (hn : ∀ k ∈ fp, k < B) : Rd w.heap.size w' a n c 1 xs := by
  have hk : ∀ q, (Value.slice a n c).ownBlock = some q → q ∉ fp := fun q hq hm => by
    have := (h.lt q hq).1
    have := hn q hm
    omega
  have h1 := rd_of_owns (ownsB_frm h hf hk) (Nat.le_refl _)
  refine ⟨h1.len, h1.le, h1.max, fun i u hu => ?_⟩
  obtain ⟨b, o, ha, _, hc⟩ := h1.cell i u hu
  exact ⟨b, o, ha, (h.lt b (by rw [ha]; rfl)).2, hc⟩

/-- append of integers to a long row. -/
theorem wpl_app_wide {w : World} {ops : Array Oper} {rest : List Oper} {o : Oper} {a : Act} {Q : Exit → Act → World → Prop} (hgd : o.guard = none) (s x : Operand)
    (ho : o.op = .call { callee := .builtin .append, args := #[s, x], argTypes := #[22, 22] })
    (B n N : Nat) (v : Value) (xs : List Int) (hs : a.eval s = v) (hown : w.ownsRow B 3 1 v n (ints xs)) (hn : xs.length = n) (ad : Addr) (m c : Nat) (ys : List Int) (hx : a.eval x = .slice (some ad) m c) (hm : ys.length = m)
    (hnews : ∀ (j : Nat) (u : Value), (ints ys)[j]? = some u → w.cell? (ad.add j) = some u) (hN : n + m = N) (hb : N ≤ 100000000000) (hB : B ≤ w.heap.size)
    (h : ∀ a' cp w', w'.ownsRow B 3 1 (.slice a' N cp) N (ints (xs ++ ys)) → (∀ w0 : World, w0.heap.size ≤ B → Frm [] w0 w → Frm [] w0 w') → (∀ fp (w0 : World), (∀ k, v.ownBlock = some k → k ∈ fp ∨ w0.heap.size ≤ k) → Frm fp w0 w → Frm fp w0 w') → wpList Try.prog ops Q rest (a.put o.dst (.slice a' N cp)) w') : wpList Try.prog ops Q (o :: rest) a w := by
  obtain ⟨i0, hi, hz0, hz1, hz2⟩ := info_parts infoInt
  subst hm hn hN
  refine wpList_append_own w hgd s x 22 ho B 3 i0 (.int .i64 0) 1 8 Try.underlying22 hi hz0 hz1 hz2 rfl (by decide) v xs.length (ints xs) hs hown ad ys.length c (ints ys) hx (by simp [ints]) hnews (ints_one ys) (by unfold maxLen; omega) (by omega) hB ?_
  intro v' w' hown' hgr hnew
  rw [← ints_app] at hown'
  obtain ⟨a', cp, rfl, _⟩ := owns_shape (ownsB_mono hown' (Nat.zero_le B))
  exact h a' cp w' hown' (fun w0 h0 hF => hF.grown hgr (fun k hk => .inr (by have := (hown.lt k hk).1; omega))) (fun fp w0 hk hF => hF.grown hgr hk)

def VDEnd (B : Nat) (l : Lts) (w' : World) (e : Ending) : Prop :=
  if validB l = true then ∃ g out, e = .returned (.slice (some ⟨g, 0, none⟩) l.length l.length) ∧ w'.ownsRow B 3 1 (.slice (some ⟨g, 0, none⟩) l.length l.length) l.length (ints out) ∧ IsVD (Esel l true) (Vis l) l.length out
  else e = .returned (.slice none 0 0)

/-- At the head of a round. -/
def DHead (l : Lts) (B wb gs go : Nat) (a : Option Addr) (cap : Nat) (w3 : World) (q : Nat) (s5 s6 : Value) (wr : World) : Prop :=
  ∃ (d : Nat) (out : List Int) (next : List Nat) (a5 : Option Addr) (c5 : Nat) (seen : List Int), q = cneg out ∧ s5 = .slice a5 next.length c5 ∧ s6 = .int .i64 (d : Int) ∧ VD (Esel l true) (Vis l) l.length out d ∧ Nx (Esel l true) (Vis l) l.length out d next ∧ next.length ≤ 5000000000 ∧
    wr.ownsRow w3.heap.size 3 1 (.slice a5 next.length c5) next.length (ints (natI next)) ∧ wr.ownsRow B 3 1 (.slice (some ⟨go, 0, none⟩) l.length l.length) l.length (ints out) ∧ WkAt B wr wb gs a cap l.length d seen ∧ Frm [wb, gs, go] w3 wr

set_option linter.unusedSimpArgs false in
set_option maxRecDepth 100000 in
set_option maxHeartbeats 4000000 in
theorem dist_any (B0 : Nat) (a : Option Addr) (cap : Nat) (l : Lts) (w : World) (h : LAt B0 w a cap l) :
    Calls Try.prog 32 #[.agg #[.slice a l.length cap]] w fun e w' => VDEnd w.heap.size l w' e ∧ Frm [] w w' := by
  have f0 : Frm [] w (w.alloc (.cells #[.slice a l.length cap] 25)) := (Frm.refl [] w).alloc _
  have hcut0 := h.cut
  clear h
  have h := hcut0
  clear hcut0
  have HB := Lib.hid (box1 w (.slice a l.length cap) 25)
  have HL0 := Lib.hid (h.nil f0 rfl)
  have hva := valid_any w.heap.size a cap l _ (h.nil f0 rfl)
  have hl := h.lt
  clear h
  go_enter Try.func32, Try.ntmps32
  go_wp2_with fail
  refine hva.mono ?_
  rintro e1 w1 ⟨rfl, hf1⟩
  clear hva
  have F1 := f0.trans hf1 (by simp)
  have hb1 := (HB.out.frm hf1 (by simp)).cell (i := 0) rfl
  cases hv : validB l with
  | false =>
    have HR : Hid (VDEnd w.heap.size l w1 (.returned (.slice none 0 0))) := Lib.hid (by rw [VDEnd, if_neg (by rw [hv]; simp)])
    clear hv
    go_wp2_with fail
    go_ret
    exact ⟨HR.out, F1⟩
  | true =>
    have HVB := Lib.hid hv
    have HV := Lib.hid (vlts_of hv)
    have hfew := (vlts_of hv).few
    have hpos := (vlts_of hv).pos
    have i2 : (l.length : Int) ≤ 16384 := by omega
    have HF1 := Lib.hid F1
    have HL1 := Lib.hid (HL0.out.nil hf1 rfl)
    have HB1 := Lib.hid (HB.out.frm hf1 (by simp))
    have hsz1 := hf1.size
    simp only [World.alloc, Array.size_push] at hsz1
    have hnew := wnew_any a cap l.length w1 (by omega)
    clear hv F1 hf1
    go_wp2_with fail
    refine hnew.mono ?_
    rintro e2 w2 ⟨wb, gs, rfl, hw, hf2⟩
    have HW2 := Lib.hid hw
    have HF2 := Lib.hid hf2
    have HB2 := Lib.hid (HB1.out.frm hf2 (by simp))
    have hb2 := HB2.out.cell (i := 0) rfl
    have nb2 := World.block_lt_of_cell? _ _ hb2
    simp only at nb2
    have hwlo := hw.lo
    have hgslo := (hw.own.lt gs rfl).1
    have hsz2 := hf2.size
    have hminus := (box1 w2 (.int .i64 (-1)) 3).cell (i := 0) rfl
    have hrep := repeat_any w2.heap.size 0 1 l.length (-1) _ hminus (by omega) (by omega)
    have HREP := Lib.hid hrep
    clear hnew hw hf2 hb1 hminus hrep
    go_wp2_with fail
    refine HREP.out.mono ?_
    rintro e3 w3 ⟨go, rfl, hro3, hf3⟩
    have hf23 : Frm [] w2 w3 := ((Frm.refl [] w2).alloc (.cells #[.int .i64 (-1)] 3)).trans hf3 (by simp)
    have HF23 := Lib.hid hf23
    have hgo2 := (hro3.lt go rfl)
    simp only [World.alloc, Array.size_push] at hgo2
    have hsz3 := hf23.size
    have HW3 := Lib.hid (HW2.out.nil hf23)
    have hwb3 := HW3.out.row.lt
    have hgs3 := (HW3.out.own.lt gs rfl).2
    have hwb2 := HW2.out.row.lt
    have hgs2 := (HW2.out.own.lt gs rfl).2
    have HB3 := Lib.hid (HB2.out.frm hf23 (by simp))
    have hb3 := HB3.out.cell (i := 0) rfl
    have nb3 := World.block_lt_of_cell? _ _ hb3
    simp only at nb3
    have HL3 := Lib.hid ((HL1.out.nil HF2.out rfl).nil hf23 rfl)
    have HRO3 : Hid (w3.ownsRow w1.heap.size 3 1 (.slice (some ⟨go, 0, none⟩) l.length l.length) l.length (ints (List.replicate l.length (-1)))) := Lib.hid (ownsB_mono hro3 (by simp only [World.alloc, Array.size_push]; omega))
    have HNE : Hid (wb ≠ gs ∧ wb ≠ go ∧ gs ≠ go) := Lib.hid ⟨HW2.out.ne, by omega, by omega⟩
    have hwle : w.heap.size ≤ w1.heap.size := by omega
    clear hro3 hf3 hf23 hb2
    go_wp2_with fail
    go_loopg [5, 6] l.length (fun q s5 s6 wr => DHead l w1.heap.size wb gs go a cap w3 q s5 s6 wr)
    case atStart =>
      refine ⟨0, List.replicate l.length (-1), [0], some ⟨w3.heap.size, 0, none⟩, 1, _, (cneg_rep _).symm, rfl, rfl, VD.start, Nx.start (by omega), by simp, ?_, ownsB_mono (HRO3.out.alloc _) (Nat.le_refl _), HW3.out.nil ((Frm.refl [] w3).alloc _), ((Frm.refl [] w3).alloc _).mono (by simp)⟩
      exact ⟨by simp [natI, ints], .inr ⟨w3.heap.size, 1, #[.int .i64 0], rfl, Nat.le_refl _, heap_alloc_new w3 _, Nat.le_refl _, by decide, rfl, by simp [natI, ints]⟩⟩
    case round =>
      obtain ⟨wh, hwhe⟩ : ∃ x, x = wr := ⟨wr, rfl⟩
      subst hwhe
      obtain ⟨d, out, next, a5, c5, seen, rfl, rfl, rfl, hvd, hnx, hnl, hown, hout, hwk, hF⟩ := hrel
      have HVD := Lib.hid hvd
      have HNX := Lib.hid hnx
      have HOWN := Lib.hid hown
      have HOUT := Lib.hid hout
      have HWK := Lib.hid hwk
      have HF := Lib.hid hF
      have hszh := hF.size
      have hbne : w.heap.size ∉ [wb, gs, go] := by simp; omega
      have cb := (HB3.out.frm hF hbne).cell (i := 0) rfl
      have HLH := Lib.hid (HL3.out.frm hF (by simp; omega))
      have hcnt := hvd.cnt
      have hd16 : d ≤ 16384 := by omega
      have hlo := hvd.len
      have i3 : (next.length : Int) ≤ 5000000000 := by omega
      clear hvd hnx hown hout hwk hF hb3
      by_cases hn0 : next = []
      · subst hn0
        have HEND : Hid (VDEnd w.heap.size l wh (.returned (.slice (some ⟨go, 0, none⟩) l.length l.length))) := Lib.hid (by
          rw [VDEnd, if_pos HVB.out]
          exact ⟨go, out, rfl, ownsB_mono HOUT.out (by omega), HVD.out.finish HNX.out (vr_lt HV.out)⟩)
        have HFIN := Lib.hid ((((HF1.out.trans HF2.out (by simp)).trans HF23.out (by simp)).trans HF.out (by simp; omega)))
        simp only [List.length_nil] at *
        go_wp2_with fail
        go_ret
        exact ⟨HEND.out, HFIN.out⟩
      · have hnp : 0 < next.length := List.length_pos_iff.2 hn0
        have i4 : (0 : Int) < (next.length : Int) := by omega
        have hwr := wreach_any w1.heap.size wb gs a cap l d seen a5 c5 next true wh HVB.out HWK.out (by omega) (HLH.out.mono (by omega)) (fun w' hf' => rd_keep HOWN.out hf' (by simp; omega)) (fun v hv => (HNX.out.fwd v hv).1)
        have HNE0 := Lib.hid hn0
        clear hn0
        go_wp2_with fail
        refine hwr.mono ?_
        rintro e4 w4 ⟨h4, ⟨seen4, hwk4⟩, hf4⟩
        obtain ⟨ar, cr, rs, rfl, hownr, hir⟩ := h4
        have HWK4 := Lib.hid hwk4
        have HF4 := Lib.hid hf4
        have HOWNR := Lib.hid hownr
        have HIR := Lib.hid hir
        have hsz4 := hf4.size
        have HOUT4 := Lib.hid (own_frm_out HOUT.out hf4 (by have := HNE.out; simp; omega))
        have HRSL : Hid (∀ v ∈ rs, v < l.length) := Lib.hid (fun v hv => by
          obtain ⟨s, hs, hp⟩ := (hir.mem v).1 hv
          exact hp.lt (esel_edge HV.out true) (HNX.out.fwd s hs).1)
        have hrsl : rs.length ≤ l.length := by
          have hnd : rs.Nodup := hir.asc.imp (fun hab => Nat.ne_of_lt hab)
          have := hnd.length_le_of_subset (l₂ := List.range l.length) (fun v hv => List.mem_range.2 (HRSL.out v hv))
          simpa using this
        have i5 : (rs.length : Int) ≤ 16384 := by omega
        clear hwr hwk4 hf4 hownr hir
        go_wp2_with fail
        go_loopg [7, 34] rs.length (fun q s7 s34 wr => ∃ (k : Nat) (o : List Int) (lev : List Nat) (a7 : Option Addr) (c7 : Nat), q = rs.length - k ∧ k ≤ rs.length ∧ s34 = .int .i64 (k : Int) ∧ s7 = .slice a7 lev.length c7 ∧ lev.length ≤ k ∧ Part out o d (rs.take k) lev ∧ wr.ownsRow w4.heap.size 3 1 (.slice a7 lev.length c7) lev.length (ints (natI lev)) ∧ wr.ownsRow w1.heap.size 3 1 (.slice (some ⟨go, 0, none⟩) l.length l.length) l.length (ints o) ∧ Frm [go] w4 wr)
        case atStart => exact ⟨0, out, [], none, 0, rfl, Nat.zero_le _, rfl, rfl, Nat.le_refl _, by rw [List.take_zero]; exact Part.start _ _, World.ownsRow_nil _ _ _ _, HOUT4.out, Frm.refl _ _⟩
        case round =>
          obtain ⟨k, o, lev, a7, c7, rfl, hk, rfl, rfl, hlk, hpart, hown7, hout7, hF7⟩ := hrel
          have HP := Lib.hid hpart
          have HOWN7 := Lib.hid hown7
          have HOUT7 := Lib.hid hout7
          have HF7 := Lib.hid hF7
          have hszr := hF7.size
          have hol : o.length = l.length := by rw [hpart.len]; exact hlo
          have i6 : (0 : Int) ≤ (k : Int) := by omega
          clear hpart hown7 hout7 hF7
          by_cases hkl : k < rs.length
          · have i7 : (k : Int) < (rs.length : Int) := by omega
            obtain ⟨s, hs⟩ : ∃ s, rs[k]? = some s := ⟨_, List.getElem?_eq_getElem hkl⟩
            have hsl := HRSL.out s (List.mem_of_getElem? hs)
            have hrr := ownsB_frm HOWNR.out HF7.out (fun q hq hm => by
              have := (HOWNR.out.lt q hq).1
              simp at hm
              omega)
            obtain ⟨gr, cr', he, _, _, hrow⟩ := owns_some (ownsB_mono hrr (Nat.zero_le _)) (show 0 < rs.length by omega)
            obtain ⟨rfl, rfl⟩ : ar = some ⟨gr, 0, none⟩ ∧ cr = cr' := by simpa using he
            have cs := hrow.cell (ints_get (natI_get hs))
            obtain ⟨x, hx⟩ : ∃ x, Tj.ix o s = x := ⟨_, rfl⟩
            have co := (own_rowg2 HOUT7.out).cell (ints_get (ix_some hol hsl))
            have zo := (own_rowg2 HOUT7.out).frozen s
            rw [hx] at co
            have HX := Lib.hid hx
            have HS := Lib.hid hs
            have i8 : (0 : Int) ≤ (s : Int) := by omega
            have i9 : (s : Int) < (l.length : Int) := by omega
            have i10 : (lev.length : Int) ≤ 16384 := by omega
            have htk : rs.take (k + 1) = rs.take k ++ [s] := by rw [List.take_add_one, hs]; rfl
            have HTK := Lib.hid htk
            have ng := World.block_lt_of_cell? _ _ co
            simp only at ng
            clear he hrow hrr hx hs htk
            by_cases hx0 : x < 0
            · have HP2 : Hid (Part out (o.set s (d : Int)) d (rs.take (k + 1)) (lev ++ [s])) := Lib.hid (by rw [HTK.out]; exact HP.out.yes (by omega) (by rw [HX.out]; exact hx0))
              have hne7 : ∀ q, (Value.slice a7 lev.length c7).ownBlock = some q → q ≠ go := fun q hq => by
                have := (HOWN7.out.lt q hq).1
                omega
              have HOWNS := Lib.hid (own_setv (i := s) (u := .int .i64 (d : Int)) HOWN7.out hne7)
              have hos := ownsB_setCell HOUT7.out (g := go) rfl s (.int .i64 (d : Int))
              rw [← ints_set] at hos
              have HOS := Lib.hid hos
              have HFS := Lib.hid (HF7.out.setCell (p := ⟨go, s, none⟩) (.inl (by simp)) (.int .i64 (d : Int)))
              clear hos hne7
              go_wp2_with (first | (at_builtin; refine wpl_app_int rfl (.tmp 47) (.tmp 49) rfl w4.heap.size lev.length (lev.length + 1) (.slice a7 lev.length c7) (natI lev) rfl (HOWNS.out.alloc _) (natI_len _) ⟨wr.heap.size, 0, none⟩ 1 1 [(s : Int)] rfl rfl (cells_new_at _ (s : Int) _ _ (by simp [World.setCell])) rfl (by omega) (by simp [World.setCell]; omega) ?_) | (at_builtin; fail))
              intro a9 c9 w9 hown9 _ hf9
              have hown9' : w9.ownsRow w4.heap.size 3 1 (.slice a9 (lev ++ [s]).length c9) (lev ++ [s]).length (ints (natI (lev ++ [s]))) := by
                rw [List.length_append, natI, List.map_append]
                exact hown9
              have HOWN9 := Lib.hid hown9'
              have HF9 := Lib.hid (hf9 [go] w4 (fun q hq => .inr (HOWN7.out.lt q hq).1) (HFS.out.alloc _))
              have hfo := hf9 (Value.slice a7 lev.length c7).ownBlock.toList _ (fun q hq => .inl (by simp [hq])) (Frm.refl _ _)
              have hge := own_ge HOWN7.out
              have HOUT9 := Lib.hid (own_frm_out (HOS.out.alloc (.cells #[.int .i64 (s : Int)] 3)) hfo (fun hm => by have := hge _ hm; omega))
              clear hown9 hf9 hown9' hfo hge
              go_wp2_with fail
              go_roundg (rs.length - (k + 1))
              case rel => exact ⟨k + 1, _, lev ++ [s], a9, c9, rfl, hkl, by go_num, by rw [List.length_append]; rfl, by rw [List.length_append]; simp; omega, HP2.out, HOWN9.out, HOUT9.out, HF9.out⟩
              case measure => omega
            · have HP2 : Hid (Part out o d (rs.take (k + 1)) lev) := Lib.hid (by rw [HTK.out]; exact HP.out.no (by rw [HX.out]; omega))
              go_wp2_with fail
              go_roundg (rs.length - (k + 1))
              case rel => exact ⟨k + 1, o, lev, a7, c7, rfl, hkl, by go_num, rfl, by omega, HP2.out, HOWN7.out, HOUT7.out, HF7.out⟩
              case measure => omega
          · have i7 : ¬ (k : Int) < (rs.length : Int) := by omega
            have hkk : k = rs.length := by omega
            have hp := HP.out
            rw [hkk, List.take_length] at hp
            have HVD2 := Lib.hid (HVD.out.round HNX.out HIR.out hp HNE0.out)
            have hless := hp.less HNX.out HIR.out HNE0.out
            have HPP := Lib.hid hp
            obtain ⟨wl, hwle2⟩ : ∃ x, x = wr := ⟨wr, rfl⟩
            subst hwle2
            have hlevn : ∀ s ∈ lev, s < l.length := fun s hs => HRSL.out s ((hp.lvl s).1 hs).1
            have HLEVN := Lib.hid hlevn
            have cbl := ((HB3.out.frm HF.out hbne).frm ((HF4.out.mono (fq := [wb, gs, go]) (by simp)).trans HF7.out (by simp)) hbne).cell (i := 0) rfl
            have CBL := Lib.hid cbl
            have nbl := World.block_lt_of_cell? _ _ cbl
            simp only at nbl
            have HLL := Lib.hid (HLH.out.frm ((HF4.out.mono (fq := [wb, gs, go]) (by simp)).trans HF7.out (by simp)) (by simp; omega))
            have hgol := (HOUT7.out.lt go rfl).2
            have hlev16 : lev.length ≤ 16384 := by omega
            have i8 : (lev.length : Int) ≤ 16384 := by omega
            clear hkk hp hlevn
            go_wp2_with fail
            go_loopg [5, 54] lev.length (fun q s5 s54 wr => ∃ (i : Nat) (nx : List Nat) (a5 : Option Addr) (c5 : Nat), q = lev.length - i ∧ i ≤ lev.length ∧ s54 = .int .i64 (i : Int) ∧ s5 = .slice a5 nx.length c5 ∧ nx.length ≤ 262144 * i ∧ (∀ t ∈ nx, ∃ s ∈ lev, t ∈ Vis l s ∧ Tj.ix o t < 0) ∧ (∀ s ∈ lev.take i, ∀ t ∈ Vis l s, 0 ≤ Tj.ix o t ∨ t ∈ nx) ∧ wr.ownsRow wl.heap.size 3 1 (.slice a5 nx.length c5) nx.length (ints (natI nx)) ∧ Frm [] wl wr)
            case atStart => exact ⟨0, [], none, 0, rfl, Nat.zero_le _, rfl, rfl, Nat.zero_le _, (fun t ht => by cases ht), (fun s hs => by simp at hs), World.ownsRow_nil _ _ _ _, Frm.refl _ _⟩
            case round =>
              obtain ⟨i, nx, a5, c5, rfl, hi, rfl, rfl, hnxl, hfw, hcm, hown5, hF5⟩ := hrel
              have HFW := Lib.hid hfw
              have HCM := Lib.hid hcm
              have HOWN5 := Lib.hid hown5
              have HF5 := Lib.hid hF5
              have hsz5 := hF5.size
              have cb5 := hF5.cell CBL.out (by simp)
              have i9 : (0 : Int) ≤ (i : Int) := by omega
              clear hfw hcm hown5 hF5 cbl
              by_cases hil : i < lev.length
              · have i10 : (i : Int) < (lev.length : Int) := by omega
                obtain ⟨s, hs⟩ : ∃ s, lev[i]? = some s := ⟨_, List.getElem?_eq_getElem hil⟩
                have hsl := HLEVN.out s (List.mem_of_getElem? hs)
                have hlr := ownsB_frm HOWN7.out HF5.out (by simp)
                obtain ⟨gl, cl', he, _, _, hrow⟩ := owns_some (ownsB_mono hlr (Nat.zero_le _)) (show 0 < lev.length by omega)
                obtain ⟨rfl, rfl⟩ : a7 = some ⟨gl, 0, none⟩ ∧ c7 = cl' := by simpa using he
                have cs := hrow.cell (ints_get (natI_get hs))
                obtain ⟨row, hrw⟩ : ∃ row, l[s]? = some row := ⟨_, List.getElem?_eq_getElem hsl⟩
                obtain ⟨bl, ol, ra, rc, hla, hblB, q1, hrr⟩ := HLL.out.cell s row hrw
                have hla' := hla
                subst hla'
                have hfewr := (HV.out.row row (List.mem_of_getElem? hrw)).few
                have q2 := HF5.out.cell q1 (by simp)
                have HRR := Lib.hid hrr
                have HS := Lib.hid hs
                have HROW := Lib.hid hrw
                have i11 : (row.length : Int) ≤ 262144 := by omega
                have i12 : (0 : Int) ≤ (s : Int) := by omega
                have i13 : (s : Int) < (l.length : Int) := by omega
                clear he hrow hlr hs hrw hrr q1 hla
                go_wp2_with fail
                go_loopg [5, 64] row.length (fun q s5 s64 wr => ∃ (j : Nat) (nx : List Nat) (a5 : Option Addr) (c5 : Nat), q = row.length - j ∧ j ≤ row.length ∧ s64 = .int .i64 (j : Int) ∧ s5 = .slice a5 nx.length c5 ∧ nx.length ≤ 262144 * i + j ∧ (∀ t ∈ nx, ∃ s ∈ lev, t ∈ Vis l s ∧ Tj.ix o t < 0) ∧ (∀ s ∈ lev.take i, ∀ t ∈ Vis l s, 0 ≤ Tj.ix o t ∨ t ∈ nx) ∧ (∀ y ∈ row.take j, y.1 ≠ 0 → 0 ≤ Tj.ix o y.2.toNat ∨ y.2.toNat ∈ nx) ∧ wr.ownsRow wl.heap.size 3 1 (.slice a5 nx.length c5) nx.length (ints (natI nx)) ∧ Frm [] wl wr)
                case atStart => exact ⟨0, nx, a5, c5, rfl, Nat.zero_le _, rfl, rfl, by omega, HFW.out, HCM.out, (fun y hy => by simp at hy), HOWN5.out, HF5.out⟩
                case round =>
                  obtain ⟨j, nx, a5, c5, rfl, hj, rfl, rfl, hnxl, hfw, hcm, hcr, hown5, hF5⟩ := hrel
                  clear HFW HCM HOWN5 HF5 cs cb5 q2
                  have HFW := Lib.hid hfw
                  have HCM := Lib.hid hcm
                  have HCR := Lib.hid hcr
                  have HOWN5 := Lib.hid hown5
                  have HF5 := Lib.hid hF5
                  have hsz6 := hF5.size
                  have i14 : (0 : Int) ≤ (j : Int) := by omega
                  clear hfw hcm hcr hown5 hF5
                  by_cases hjl : j < row.length
                  · have i15 : (j : Int) < (row.length : Int) := by omega
                    obtain ⟨⟨e, t⟩, harc⟩ : ∃ y, row[j]? = some y := ⟨_, List.getElem?_eq_getElem hjl⟩
                    have hok := (HV.out.row row (List.mem_of_getElem? HROW.out)).ok e t (List.mem_of_getElem? harc)
                    obtain ⟨m, rfl⟩ : ∃ m : Nat, t = (m : Int) := ⟨t.toNat, by omega⟩
                    have hml : m < l.length := by omega
                    obtain ⟨g3, o3, rfl, hg3, p1, p2⟩ := HRR.out.2.2.2 j e m harc
                    have d1 := HF5.out.cell p1 (by simp)
                    have d2 := HF5.out.cell p2 (by simp)
                    have n1 := World.block_lt_of_cell? _ _ d1
                    simp only at n1
                    obtain ⟨x, hx⟩ : ∃ x, Tj.ix o m = x := ⟨_, rfl⟩
                    have co := (own_rowg2 (own_frm_out HOUT7.out HF5.out (by simp))).cell (ints_get (ix_some hol hml))
                    rw [hx] at co
                    have ng := World.block_lt_of_cell? _ _ co
                    simp only at ng
                    have HX := Lib.hid hx
                    have HARC := Lib.hid harc
                    have i16 : (0 : Int) ≤ (m : Int) := by omega
                    have i17 : (m : Int) < (l.length : Int) := by omega
                    have i18 : (nx.length : Int) ≤ 5000000000 := by omega
                    have hstep : ∀ nx2 : List Nat, (∀ t ∈ nx, t ∈ nx2) → (e ≠ 0 → 0 ≤ x ∨ m ∈ nx2) → ∀ y ∈ row.take (j + 1), y.1 ≠ 0 → 0 ≤ Tj.ix o y.2.toNat ∨ y.2.toNat ∈ nx2 := by
                      intro nx2 hsub hnew y hy hy0
                      rw [List.take_add_one, harc, Option.toList_some] at hy
                      rcases List.mem_append.1 hy with hy | hy
                      · exact (HCR.out y hy hy0).imp id (hsub _)
                      · rw [List.mem_singleton] at hy
                        subst hy
                        have := hnew hy0
                        simpa [hx] using this
                    have HSTEP := Lib.hid hstep
                    clear p1 p2 harc hok hx hstep
                    by_cases happ : e ≠ 0 ∧ x < 0
                    · obtain ⟨he0, hx0⟩ := happ
                      have heb : (e == 0) = false := by simpa using he0
                      have HFW2 : Hid (∀ t ∈ nx ++ [m], ∃ s ∈ lev, t ∈ Vis l s ∧ Tj.ix o t < 0) := Lib.hid (fun t ht => by
                        rcases List.mem_append.1 ht with ht | ht
                        · exact HFW.out t ht
                        · rw [List.mem_singleton] at ht
                          subst ht
                          exact ⟨s, List.mem_of_getElem? HS.out, (mem_vis HROW.out).2 ⟨(e, (t : Int)), List.mem_of_getElem? HARC.out, he0, by simp⟩, by rw [HX.out]; exact hx0⟩)
                      have HCM2 : Hid (∀ s ∈ lev.take i, ∀ t ∈ Vis l s, 0 ≤ Tj.ix o t ∨ t ∈ nx ++ [m]) := Lib.hid (fun s hs t ht => (HCM.out s hs t ht).imp id (List.mem_append_left _))
                      have HCR2 := Lib.hid (HSTEP.out (nx ++ [m]) (fun t ht => List.mem_append_left _ ht) (fun _ => .inr (by simp)))
                      go_wp2_with (first | (at_builtin; refine wpl_app_wide rfl (.tmp 79) (.tmp 82) rfl wl.heap.size nx.length (nx.length + 1) (.slice a5 nx.length c5) (natI nx) rfl ((HOWN5.out.alloc _).alloc _) (natI_len _) ⟨wr.heap.size + 1, 0, none⟩ 1 1 [(m : Int)] rfl rfl (cells_new_at _ (m : Int) _ _ (by simp)) rfl (by omega) (by simp; omega) ?_) | (at_builtin; fail))
                      intro a9 c9 w9 hown9 hf9 _
                      have hown9' : w9.ownsRow wl.heap.size 3 1 (.slice a9 (nx ++ [m]).length c9) (nx ++ [m]).length (ints (natI (nx ++ [m]))) := by
                        rw [List.length_append, natI, List.map_append]
                        exact hown9
                      have HOWN9 := Lib.hid hown9'
                      have HF9 := Lib.hid (hf9 wl (Nat.le_refl _) ((HF5.out.alloc _).alloc _))
                      clear hown9 hf9 hown9'
                      go_wp2_with fail
                      go_roundg (row.length - (j + 1))
                      case rel => exact ⟨j + 1, nx ++ [m], a9, c9, rfl, hjl, by go_num, by rw [List.length_append]; rfl, by rw [List.length_append]; simp; omega, HFW2.out, HCM2.out, HCR2.out, HOWN9.out, HF9.out⟩
                      case measure => omega
                    · have HCR2 := Lib.hid (HSTEP.out nx (fun t ht => ht) (fun h9 => .inl (by
                        have : ¬ x < 0 := fun h8 => happ ⟨h9, h8⟩
                        omega)))
                      by_cases he0 : e = 0
                      · subst he0
                        go_wp2_with fail
                        go_roundg (row.length - (j + 1))
                        case rel => exact ⟨j + 1, nx, a5, c5, rfl, hjl, by go_num, rfl, by omega, HFW.out, HCM.out, HCR2.out, HOWN5.out.alloc _, HF5.out.alloc _⟩
                        case measure => omega
                      · have heb : (e == 0) = false := by simpa using he0
                        have hx0 : ¬ x < 0 := fun h8 => happ ⟨he0, h8⟩
                        go_wp2_with fail
                        go_roundg (row.length - (j + 1))
                        case rel => exact ⟨j + 1, nx, a5, c5, rfl, hjl, by go_num, rfl, by omega, HFW.out, HCM.out, HCR2.out, HOWN5.out.alloc _, HF5.out.alloc _⟩
                        case measure => omega
                  · have i15 : ¬ (j : Int) < (row.length : Int) := by omega
                    have HCM2 : Hid (∀ s ∈ lev.take (i + 1), ∀ t ∈ Vis l s, 0 ≤ Tj.ix o t ∨ t ∈ nx) := Lib.hid (fun u hu t ht => by
                      rw [List.take_add_one, HS.out, Option.toList_some] at hu
                      rcases List.mem_append.1 hu with hu | hu
                      · exact HCM.out u hu t ht
                      · rw [List.mem_singleton] at hu
                        subst hu
                        obtain ⟨y, hy, hy0, rfl⟩ := (mem_vis HROW.out).1 ht
                        refine HCR.out y ?_ hy0
                        rw [List.take_of_length_le (by omega)]
                        exact hy)
                    go_wp2_with fail
                    go_roundg (lev.length - (i + 1))
                    case rel => exact ⟨i + 1, nx, a5, c5, rfl, hil, by go_num, rfl, by omega, HFW.out, HCM2.out, HOWN5.out, HF5.out⟩
                    case measure => omega
              · have i10 : ¬ (i : Int) < (lev.length : Int) := by omega
                have hii : i = lev.length := by omega
                have hcm := HCM.out
                rw [hii, List.take_length] at hcm
                have HNX2 := Lib.hid (HVD.out.next HVD2.out HNX.out HIR.out HPP.out (vr_lt HV.out) HFW.out hcm)
                have HFX := Lib.hid ((HF.out.trans ((HF4.out.mono (fq := [wb, gs, go]) (by simp)).trans HF7.out (by simp)) (by simp)).trans HF5.out (by simp))
                have HOX := Lib.hid (own_frm_out HOUT7.out HF5.out (by simp))
                have HWX := Lib.hid ((HWK4.out.frm HF7.out (by have := HNE.out; simp; omega) (by have := HNE.out; simp; omega)).nil HF5.out)
                have HNX5 := Lib.hid (ownsB_mono HOWN5.out (C := w3.heap.size) (by omega))
                clear hii hcm
                go_wp2_with fail
                go_roundg (cneg o)
                case rel => exact ⟨d + 1, o, nx, a5, c5, seen4, rfl, rfl, by go_num, HVD2.out, HNX2.out, by omega, HNX5.out, HOX.out, HWX.out, HFX.out⟩
                case measure => exact hless

end Go.Proofs.Ytknfdpkfomlckaa
