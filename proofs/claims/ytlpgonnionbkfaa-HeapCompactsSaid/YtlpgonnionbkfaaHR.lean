/- Contract of Compact of the program's heap. -/
import Derived.Test.YtlpgonnionbkfaaHQ
import Derived.Test.YtlpgonnionbkfaaHT
namespace Go.Proofs.Ytlpgonnionbkfaa
open Go.RowKit

def CmpEnd (th : TypeId) (w : World) (hb : Nat) (fp : List Nat) (most : Int) (cs' : List HC) (out : List Int) (w' : World) (e : Ending) : Prop :=
  ∃ fp' a cap, e = .returned (.slice a out.length cap) ∧ IntsAt w' (.slice a out.length cap) out ∧ (∀ k, (Value.slice a out.length cap).ownBlock = some k → w.heap.size ≤ k ∧ k ∉ fp') ∧ HW th w' hb fp' most cs' ∧ Frm fp w w' ∧ ∀ x ∈ fp', x ∈ fp ∨ w.heap.size ≤ x

theorem HeapRep.put {w : World} {hb : Nat} {th : TypeId} {cv : Value} {vs : List Value} {most : Int} {cs : List HC} (h : HeapRep w hb th cv vs most cs) {i : Nat} {c : HC} {v : Value} {g : Nat} (hi : cs[i]? = some c) (hv : vs[i]? = some v) (hg : v.ownBlock = some g) (k : Nat) (x : Int) :
    HeapRep (w.setCell ⟨g, k, none⟩ (.int .i64 x)) hb th cv vs most (cs.set i ⟨c.kind, c.num, c.refs.set k x⟩) := by
  have hn : hb ∉ cv.ownBlock.toList ++ blocksOf vs := (List.nodup_cons.1 h.apart).1
  refine (h.cel.put hi hv hg k x).heap (h.hd.other _ (fun e => hn (List.mem_append_right _ (mem_blocksOf.2 ⟨i, v, hv, ?_⟩)))) hn
  rw [hg, e]
theorem own_cap {a : Option Addr} {n c n' c' k : Nat} (h : (Value.slice a n c).ownBlock = some k) : (Value.slice a n' c').ownBlock = some k := by
  cases a with
  | none => simp [Value.ownBlock] at h
  | some p => simpa [Value.ownBlock] using h
theorem mem_fp {hb : Nat} {cv : Value} {vs : List Value} {i : Nat} {v : Value} {g : Nat} (hv : vs[i]? = some v) (hg : v.ownBlock = some g) : g ∈ fpOf hb cv vs := by
  simp only [fpOf, List.mem_cons, List.mem_append]
  exact .inr (.inr (mem_blocksOf.2 ⟨i, v, hv, hg⟩))

set_option linter.unusedSimpArgs false in
set_option maxRecDepth 100000 in
set_option maxHeartbeats 4000000 in
theorem compact_any {w : World} {hb : Nat} {fp : List Nat} {most : Int} {cs : List HC} (h : HW 60 w hb fp most cs) (ho : HOk cs) (v : Value) (rs : List Int) (hv : IntsAt w v rs) (hvn : ∀ k, v.ownBlock = some k → k ∉ fp) (hrl : rs.length ≤ 1000) :
    Calls Try.prog 23 #[.pointer (some ⟨hb, 0, none⟩), v] w fun e w' => CmpEnd 60 w hb fp most (compC cs rs) (compO cs rs) w' e := by
  obtain ⟨cv, vs, h, rfl⟩ := h
  obtain ⟨a, cap, rfl, hl⟩ := owns_shape h.row
  obtain ⟨a2, cap2, rfl, hl2⟩ := hv.shape
  have h1 := h.hd.cell (i := 1) rfl
  have hsm := h.small
  have hhb := h.hd.lt
  have HH := Lib.hid h
  have HO := Lib.hid ho
  have HV := Lib.hid hv
  have HVN := Lib.hid hvn
  have irl : (rs.length : Int) ≤ 1000 := by omega
  obtain ⟨FP, hFP⟩ : ∃ x, x = fpOf hb (.slice a cs.length cap) vs := ⟨_, rfl⟩
  have HFP := Lib.hid hFP
  clear h ho hv hvn hFP
  go_enter Try.func23, Try.ntmps23
  go_wp2_with fail
  go_loopg [25] cs.length (fun q s25 wr => ∃ i : Nat, q = cs.length - i ∧ i ≤ cs.length ∧ s25 = .int .i64 (i : Int) ∧ HeapRep wr hb 60 (.slice a cs.length cap) vs most (midL (thrT cs) (folI cs) cs i 0) ∧ Frm (fpOf hb (.slice a cs.length cap) vs) w wr)
  case atStart => exact ⟨0, rfl, Nat.zero_le _, rfl, by rw [midL_zero]; exact HH.out, Frm.refl _ _⟩
  case round =>
    obtain ⟨i, rfl, hi, rfl, hR, hF⟩ := hrel
    have HF := Lib.hid hF
    have hszr := hF.size
    have i4 : (0 : Int) ≤ (i : Int) := by omega
    have HR := Lib.hid hR
    clear hF
    by_cases hil : i < cs.length
    · have i5 : (i : Int) < (cs.length : Int) := by omega
      have i3 : (cs.length : Int) ≤ 65536 := by omega
      obtain ⟨⟨kd, nm, rf⟩, hc⟩ : ∃ c, cellAt cs i = c := ⟨_, rfl⟩
      have hg0 := midL_get (T := thrT cs) (f := folI cs) (k := 0) hil
      rw [parR_zero, hc] at hg0
      have hsh := hR.shape (by rw [midL_len]; omega)
      rw [midL_len] at hsh
      obtain ⟨cb, cap9, he9, _, hcm9, hcc9⟩ := hsh
      obtain ⟨rfl, rfl⟩ : a = some ⟨cb, 0, none⟩ ∧ cap = cap9 := by simpa using he9
      obtain ⟨vr, hvr, k0, k1, k2, _, _, _, hrf⟩ := hcc9 i _ hg0
      obtain ⟨ar, cr, rfl, hlr⟩ := owns_shape hrf
      have hq9 := hR.hd.cell (i := 1) rfl
      have htwo := HO.out.few hil
      rw [hc] at htwo
      have HC := Lib.hid hc
      have HVR := Lib.hid hvr
      clear hg0 hcc9 he9 hrf hc hR hvr
      simp only at k0 k1 k2 htwo hlr
      by_cases hk : kd = 3
      · subst hk
        have HN := Lib.hid (midL_next (T := thrT cs) (f := folI cs) (k := 0) hil (by rw [parR_zero, HC.out]; rfl))
        go_wp2_with fail
        go_roundg (cs.length - (i + 1))
        case rel => exact ⟨i + 1, rfl, hil, by go_num, by rw [← HN.out]; exact HR.out, HF.out⟩
        case measure => omega
      · have hkb : (kd == 3) = false := by simp [hk]
        have HKN : Hid ((cellAt cs i).kind ≠ 3) := Lib.hid (by rw [HC.out]; exact hk)
        clear hk
        go_wp2_with fail
        obtain ⟨wx, hwx⟩ : ∃ x, x = wr := ⟨_, rfl⟩
        subst hwx
        go_loopg [46] rf.length (fun q s46 wr => ∃ k : Nat, q = rf.length - k ∧ k ≤ rf.length ∧ s46 = .int .i64 (k : Int) ∧ HeapRep wr hb 60 (.slice (some ⟨cb, 0, none⟩) cs.length cap) vs most (midL (thrT cs) (folI cs) cs i k) ∧ Frm (fpOf hb (.slice (some ⟨cb, 0, none⟩) cs.length cap) vs) w wr)
        case atStart => exact ⟨0, rfl, Nat.zero_le _, rfl, HR.out, HF.out⟩
        case round =>
          clear HF HR hszr k0 k1 k2 hq9
          obtain ⟨k, rfl, hk, rfl, hR, hF⟩ := hrel
          have HF := Lib.hid hF
          have hszr := hF.size
          have i6 : (0 : Int) ≤ (k : Int) := by omega
          have HR := Lib.hid hR
          clear hF
          by_cases hkl : k < rf.length
          · have i7 : (k : Int) < (rf.length : Int) := by omega
            have hgk := midL_get (T := thrT cs) (f := folI cs) (k := k) hil
            obtain ⟨r, hr⟩ : ∃ r, (cellAt cs i).refs[k]? = some r := ⟨_, List.getElem?_eq_getElem (by rw [HC.out]; exact hkl)⟩
            have hrr := HO.out.ref hil r (List.mem_of_getElem? hr)
            obtain ⟨m, rfl⟩ := Int.eq_ofNat_of_zero_le hrr.1
            have hm : m < cs.length := by omega
            have hpl : (parR (folI cs) k (cellAt cs i)).refs.length = rf.length := by rw [parR_len, HC.out]
            obtain ⟨g, cp, hvi, hc1, hc2, hrow⟩ := hR.cel.ref hgk (parR_at hr)
            rw [HVR.out, hpl] at hvi
            rw [hpl] at hc1
            obtain ⟨rfl, rfl⟩ : ar = some ⟨g, 0, none⟩ ∧ cr = cp := by simpa using hvi
            have q0 := hrow.cell (ints_get (parR_at (f := folI cs) hr))
            have z0 := hrow.frozen k
            have hsh := hR.shape (by rw [midL_len]; omega)
            obtain ⟨cb9, cap9, he9, _, _, hcc9⟩ := hsh
            obtain ⟨rfl, rfl⟩ : cb = cb9 ∧ cap = cap9 := by simpa using And.intro (Value.slice.inj he9).1 (Value.slice.inj he9).2.2
            obtain ⟨vr, hvr, _, _, k2, _, _, _, _⟩ := hcc9 i _ hgk
            rw [HVR.out] at hvr
            obtain rfl := Option.some.inj hvr
            have hq9 := hR.hd.cell (i := 1) rfl
            have hfo : fol (midL (thrT cs) (folI cs) cs i k) cs.length m = some (tgt cs m) := by
              rw [fol_mid cs (.inr HKN.out)]
              exact HO.out.tgt hm
            have HFO := Lib.hid hfo
            have i8 : (rf.length : Int) ≤ (cr : Int) := by omega
            have i9 : (cr : Int) ≤ 9223372036854775807 := by unfold maxLen at hc2; omega
            have hput := hR.put hgk HVR.out rfl k (folI cs (m : Int))
            rw [midL_put hil hr] at hput
            have hfp : Frm (fpOf hb (.slice (some ⟨cb, 0, none⟩) cs.length cap) vs) wr (wr.setCell ⟨g, k, none⟩ (.int .i64 (folI cs (m : Int)))) := (Frm.refl _ _).setCell (p := ⟨g, k, none⟩) (.inl (mem_fp HVR.out rfl)) _
            have hfi : folI cs (m : Int) = ((tgt cs m : Nat) : Int) := by rw [folI, Int.toNat_natCast]
            rw [hfi] at hput hfp
            have HPUT := Lib.hid (hput.frm ((Frm.refl [] _).drew) (by simp))
            have HF2 := Lib.hid ((HF.out.trans hfp (fun x hx => .inl hx)).drew)
            clear hR hgk hr hrr hm hpl hvi hrow hcc9 he9 hvr hfo hput hfp hfi hc2 hc1
            go_wp2_with fail
            go_region_law (first | (go_simp; go_at_call 28; refine (follow_any (HR.out.frm ((Frm.refl [] _).drew) (by simp)) _ m _ HFO.out).mono ?_; rintro e3 w3 ⟨rfl, rfl⟩))
            all_goals
              go_wp2_with fail
              go_roundg (rf.length - (k + 1))
              case rel => exact ⟨k + 1, rfl, hkl, by go_num, HPUT.out, HF2.out⟩
              case measure => omega
          · have i7 : ¬ (k : Int) < (rf.length : Int) := by omega
            have HN := Lib.hid (midL_next (T := thrT cs) (f := folI cs) (k := k) hil (by
              rw [parR_all (by rw [HC.out]; show rf.length ≤ k; omega), thrT, if_neg HKN.out]))
            have HX : Hid (HeapRep wr hb 60 (.slice (some ⟨cb, 0, none⟩) cs.length cap) vs most (midL (thrT cs) (folI cs) cs (i + 1) 0)) := Lib.hid (by rw [← HN.out]; exact HR.out)
            clear hR
            go_wp2_with fail
            go_roundg (cs.length - (i + 1))
            case rel => exact ⟨i + 1, rfl, hil, by go_num, HX.out, HF.out⟩
            case measure => omega
    · have hi9 : i = cs.length := by omega
      have i5 : ¬ (i : Int) < (cs.length : Int) := by omega
      have HT : Hid (HeapRep wr hb 60 (.slice a cs.length cap) vs most (thr cs)) := Lib.hid (by rw [thr_eq, ← midL_done (T := thrT cs) (f := folI cs) (i := i) (k := 0) (by omega)]; exact HR.out)
      clear HR hR
      obtain ⟨wx, hwx⟩ : ∃ x, x = wr := ⟨_, rfl⟩
      subst hwx
      have hcl := clone_any (.slice a2 rs.length cap2) rs wx (HV.out.frm HF.out HVN.out) (by omega)
      go_wp2_with fail
      refine hcl.mono ?_
      rintro e2 w2 ⟨a3, c3, rfl, hown2, hf2⟩
      clear hi9 i5 i4 hil hi
      have HOWN2 := Lib.hid (ownsB_mono hown2 (C := w.heap.size) hszr)
      have HT2 := Lib.hid (HT.out.frm hf2 (by simp))
      have HF2 := Lib.hid (HF.out.trans hf2 (by simp))
      clear hcl hown2 hf2 HT HF hszr
      go_wp2_with fail
      go_loopg [70] rs.length (fun q s70 wr => ∃ j : Nat, q = rs.length - j ∧ j ≤ rs.length ∧ s70 = .int .i64 (j : Int) ∧ wr.ownsRow w.heap.size 3 1 (.slice a3 rs.length c3) rs.length (ints (parL (outF cs) j rs)) ∧ HeapRep wr hb 60 (.slice a cs.length cap) vs most (thr cs) ∧ Frm (fpOf hb (.slice a cs.length cap) vs) w wr)
      case atStart => exact ⟨0, rfl, Nat.zero_le _, rfl, by rw [parL_zero]; exact HOWN2.out, HT2.out, HF2.out⟩
      case round =>
        clear HOWN2 HT2 HF2
        obtain ⟨j, rfl, hj, rfl, ho3, hR, hF⟩ := hrel
        have HO3 := Lib.hid ho3
        have HR := Lib.hid hR
        have HF := Lib.hid hF
        have hszr := hF.size
        have i4 : (0 : Int) ≤ (j : Int) := by omega
        clear hF
        by_cases hjl : j < rs.length
        · have i5 : (j : Int) < (rs.length : Int) := by omega
          obtain ⟨x, hx⟩ : ∃ x, rs[j]? = some x := ⟨_, List.getElem?_eq_getElem hjl⟩
          obtain ⟨g3, cp3, he3, hc3, hm3, hr3⟩ := owns_some (owns_base ho3) (by omega)
          obtain ⟨rfl, rfl⟩ : a3 = some ⟨g3, 0, none⟩ ∧ c3 = cp3 := by simpa using he3
          have q0 := hr3.cell (ints_get (parL_at (f := outF cs) hx))
          have z0 := hr3.frozen j
          have i8 : (rs.length : Int) ≤ (c3 : Int) := by omega
          have i9 : (c3 : Int) ≤ 9223372036854775807 := by unfold maxLen at hm3; omega
          have hg3 := (HO3.out.lt g3 rfl).1
          have n3 : g3 ∉ fpOf hb (.slice a cs.length cap) vs := fun hm => by have := HH.out.lt g3 hm; omega
          have f8 : Frm [g3] wr (wr.setCell ⟨g3, j, none⟩ (.int .i64 (-1))) := (Frm.refl _ _).setCell (.inl (by simp)) _
          have hR8 := hR.frm f8 (fun k hk hm => n3 (by rw [List.mem_singleton] at hm; rw [← hm]; exact hk))
          have HF8 := Lib.hid (HF.out.trans f8 (fun x hx => .inr (by rw [List.mem_singleton] at hx; omega)))
          have HO8 := Lib.hid (owns_put HO3.out j (.int .i64 (-1)))
          have HX := Lib.hid hx
          cases hin : inL cs x with
          | false =>
            have hex := exists_no hR8 x (by have := inL_no hin; rw [thr_len]; exact this)
            have HP8 : Hid ((wr.setCell ⟨g3, j, none⟩ (.int .i64 (-1))).ownsRow w.heap.size 3 1 (.slice (some ⟨g3, 0, none⟩) rs.length c3) rs.length (ints (parL (outF cs) (j + 1) rs))) := Lib.hid (by
              have h9 : outF cs x = -1 := by rw [outF, if_neg (by simp [hin])]
              rw [← parL_put HX.out, h9, ints_set]; exact HO8.out)
            have HR8 := Lib.hid hR8
            clear hR hx he3 hr3 f8 hR8 hin n3 hc3 hm3 ho3
            go_wp2_with fail
            refine hex.mono ?_
            rintro e4 w4 ⟨rfl, rfl⟩
            clear hex
            go_wp2_with fail
            go_roundg (rs.length - (j + 1))
            case rel => exact ⟨j + 1, rfl, hjl, by go_num, HP8.out, HR8.out, HF8.out⟩
            case measure => omega
          | true =>
            obtain ⟨k, rfl, hk⟩ := inL_nat hin
            have hex := exists_yes hR8 k (by rw [thr_len]; exact hk)
            have hfo := follow_any hR8 cs.length k (tgt cs k) (by rw [fol_thr]; exact HO.out.tgt hk)
            have f9 : Frm [g3] (wr.setCell ⟨g3, j, none⟩ (.int .i64 (-1))) ((wr.setCell ⟨g3, j, none⟩ (.int .i64 (-1))).setCell ⟨g3, j, none⟩ (.int .i64 (tgt cs k : Nat))) := (Frm.refl _ _).setCell (.inl (by simp)) _
            have HP8 : Hid (((wr.setCell ⟨g3, j, none⟩ (.int .i64 (-1))).setCell ⟨g3, j, none⟩ (.int .i64 (tgt cs k : Nat))).ownsRow w.heap.size 3 1 (.slice (some ⟨g3, 0, none⟩) rs.length c3) rs.length (ints (parL (outF cs) (j + 1) rs))) := Lib.hid (by
              have h9 : outF cs (k : Int) = ((tgt cs k : Nat) : Int) := by rw [outF, if_pos hin, folI, Int.toNat_natCast]
              have h8 := owns_put HO8.out j (.int .i64 (tgt cs k : Nat))
              rw [List.set_set] at h8
              rw [← parL_put HX.out, h9, ints_set]; exact h8)
            have HR8 := Lib.hid (hR8.frm f9 (fun k hk hm => n3 (by rw [List.mem_singleton] at hm; rw [← hm]; exact hk)))
            have HF9 := Lib.hid (HF8.out.trans f9 (fun x hx => .inr (by rw [List.mem_singleton] at hx; omega)))
            clear hR hx he3 hr3 f8 f9 hR8 hin n3 hc3 hm3 ho3 hk
            go_wp2_with fail
            refine hex.mono ?_
            rintro e4 w4 ⟨rfl, rfl⟩
            clear hex
            go_wp2_with fail
            refine hfo.mono ?_
            rintro e5 w5 ⟨rfl, rfl⟩
            clear hfo
            go_wp2_with fail
            go_roundg (rs.length - (j + 1))
            case rel => exact ⟨j + 1, rfl, hjl, by go_num, HP8.out, HR8.out, HF9.out⟩
            case measure => omega
        · have i5 : ¬ (j : Int) < (rs.length : Int) := by omega
          have HO4 : Hid (wr.ownsRow w.heap.size 3 1 (.slice a3 rs.length c3) rs.length (ints (outs cs rs))) := Lib.hid (by rw [outs_eq, ← parL_all (f := outF cs) (j := j) (by omega)]; exact HO3.out)
          clear HO3 ho3 hR
          obtain ⟨wx, hwx⟩ : ∃ x, x = wr := ⟨_, rfl⟩
          subst hwx
          have hmm := @run_makeMap Try.prog
          go_wp2_with (first | (refine wpl_map_ins rfl _ _ _ rfl wx.heap.size 0 (fun _ => 0) rfl (MapI.made wx) (by decide) (-1) (-1) rfl rfl (by unfold fit64; omega) (by unfold fit64; omega) ?_) | fail)
          intro w4 hm4 hf4
          obtain ⟨gm, hgm⟩ : ∃ x, x = wx.heap.size := ⟨_, rfl⟩
          rw [← hgm] at hm4 hf4 ⊢
          have hf04 : Frm [gm] wx w4 := ((Frm.refl [gm] wx).alloc _).trans hf4 (fun x hx => .inl hx)
          have ngm : ∀ k ∈ fpOf hb (.slice a cs.length cap) vs, k ∉ [gm] := fun k hk hm => by
            have := HH.out.lt k hk
            rw [List.mem_singleton] at hm
            omega
          have NGM := Lib.hid ngm
          have hR4 := HR.out.frm hf04 ngm
          have ho4 := ownsB_frm HO4.out hf04 (fun k hk hm => by
            have := (HO4.out.lt k hk).2
            rw [List.mem_singleton] at hm
            omega)
          have hol : (outs cs rs).length = rs.length := by simp [outs]
          have hi4 : IntsAt w4 (.slice a3 rs.length c3) (outs cs rs) := by
            have h9 := ho4
            rw [← hol] at h9 ⊢
            exact ints_of_owns h9
          have hre := reach_any ⟨_, _, hR4, rfl⟩ (thr_ok HO.out) (.slice a3 rs.length c3) (outs cs rs) hi4 (by rw [hol]; exact hrl)
          obtain ⟨KL, hKL⟩ : ∃ x, x = kept cs rs := ⟨_, rfl⟩
          rw [show rset (thr cs) (rts (thr cs) (outs cs rs)) = KL from hKL.symm] at hre
          have hre2 : Calls Try.prog 24 #[.pointer (some ⟨hb, 0, none⟩), .slice a3 rs.length c3] w4 (fun e w' => ∃ a4 c4, e = .returned (.slice a4 KL.length c4) ∧ IntsAt w' (.slice a4 KL.length c4) (natI KL) ∧ (∀ k, (Value.slice a4 KL.length c4).ownBlock = some k → w4.heap.size ≤ k) ∧ Frm [] w4 w') := by
            refine hre.mono ?_
            rintro e w' ⟨⟨a4, c4, h1, h2, h3⟩, h4⟩
            rw [natI_len] at h1 h2 h3
            exact ⟨a4, c4, h1, h2, h3, h4⟩
          have hgm4 := hm4.lt
          have HM4 := Lib.hid hm4
          have HR4 := Lib.hid hR4
          have HO5 := Lib.hid ho4
          have HF4 := Lib.hid (HF.out.trans hf04 (fun x hx => .inr (by rw [List.mem_singleton] at hx; omega)))
          have HKL := Lib.hid hKL
          have hkn : KL.Nodup := by rw [hKL]; exact rset_nodup _ _
          have hkl : ∀ v ∈ KL, v < cs.length := fun v hv => by rw [hKL] at hv; exact kept_lt HO.out rs hv
          have hkc : KL.length ≤ cs.length := by rw [hKL, ← compC_len HO.out rs]; exact compC_small HO.out rs
          have HKN := Lib.hid hkn
          have HKT := Lib.hid hkl
          have hgw : w.heap.size ≤ gm := by omega
          clear hm4 hf4 hR4 ho4 hi4 hf04 HO4 hKL ngm HR HF hkn hkl hgm hmm i5 hjl i4 hj hszr
          go_wp2_with fail
          refine hre2.mono ?_
          rintro e5 w5 ⟨a4, c4, rfl, hi5, hb5, hf5⟩
          have HI5 := Lib.hid hi5
          have HB5 := Lib.hid hb5
          have HM5 := Lib.hid (HM4.out.frm hf5 (by simp))
          have HR5 := Lib.hid (HR4.out.frm hf5 (by simp))
          have HO6 := Lib.hid (ownsB_frm HO5.out hf5 (by simp))
          have HF5 := Lib.hid (HF4.out.trans hf5 (by simp))
          have hsz5 := hf5.size
          clear hre hre2 hi5 hb5 hf5 HM4 HR4 HO5 HF4
          go_wp2_with fail
          go_loopg [12, 94] KL.length (fun q s12 s94 wr => ∃ (j : Nat) (a12 : Option Addr) (c12 : Nat) (f : Int → Int), q = KL.length - j ∧ j ≤ KL.length ∧ s94 = .int .i64 (j : Int) ∧ s12 = .slice a12 j c12 ∧
            wr.ownsRow w5.heap.size 32 3 (.slice a12 j c12) j (flat ((KL.take j).map (cellAt (thr cs))) ((KL.take j).map (vAt vs))) ∧ MapI wr gm (1 + j) f ∧ MapK KL j f ∧ Frm [gm] w5 wr)
          case atStart => exact ⟨0, none, 0, _, rfl, Nat.zero_le _, rfl, rfl, World.ownsRow_nil _ _ _ _, HM5.out, MapK.start _, Frm.refl _ _⟩
          case round =>
            obtain ⟨j, a12, c12, f, rfl, hj, rfl, rfl, ho12, hmp, hmk, hF⟩ := hrel
            have HO12 := Lib.hid ho12
            have HMP := Lib.hid hmp
            have HMK := Lib.hid hmk
            have HF := Lib.hid hF
            have hszr := hF.size
            have i4 : (0 : Int) ≤ (j : Int) := by omega
            clear ho12 hmp hmk hF
            by_cases hjl : j < KL.length
            · have i5 : (j : Int) < (KL.length : Int) := by omega
              obtain ⟨v, hv⟩ : ∃ v, KL[j]? = some v := ⟨_, List.getElem?_eq_getElem hjl⟩
              have hvc := HKT.out v (List.mem_of_getElem? hv)
              obtain ⟨b4, o4, rfl, qx, hnn, hc4, hm4⟩ := (HI5.out.frm HF.out (fun k hk hm => by
                have := HB5.out k hk
                rw [List.mem_singleton] at hm
                omega)).at (natI_get hv)
              have i8 : (KL.length : Int) ≤ (c4 : Int) := by omega
              have i9 : (c4 : Int) ≤ 9223372036854775807 := by unfold maxLen at hm4; omega
              have HV4 := Lib.hid hv
              have HMN := Lib.hid (HMK.out.next HKN.out hv)
              clear hc4 hm4 hv hnn
              go_wp2_with (first | (at_mapUpdate; refine wpl_map_put rfl _ _ _ rfl gm (1 + j) f rfl HMP.out (by unfold maxLen; omega) (v : Int) (j : Int) rfl rfl (by unfold fit64; omega) (by unfold fit64; omega) ?_) | (at_mapUpdate; fail))
              intro w6 hm6 hf6
              have HM6 := Lib.hid hm6
              have hf56 := HF.out.trans hf6 (fun x hx => .inl hx)
              have hR6 := HR5.out.frm hf56 NGM.out
              have hcs := cellAt_get (cs := thr cs) (i := v) (by rw [thr_len]; exact hvc)
              have hsh := hR6.shape (by rw [thr_len]; omega)
              rw [thr_len] at hsh
              obtain ⟨cb, cap9, he9, _, hcm9, hcc9⟩ := hsh
              obtain ⟨rfl, rfl⟩ : a = some ⟨cb, 0, none⟩ ∧ cap = cap9 := by simpa using he9
              obtain ⟨vr, hvr, k0, k1, k2, _, _, _, hrf⟩ := hcc9 v _ hcs
              have hva : vAt vs v = vr := by rw [vAt, List.getD_eq_getElem?_getD, hvr]; rfl
              obtain ⟨ar, cr, rfl, hlr⟩ := owns_shape hrf
              have hq9 := hR6.hd.cell (i := 1) rfl
              have hft := flat_take (cs := thr cs) (vs := vs) HV4.out
              rw [hva] at hft
              obtain ⟨⟨kd, nm, rf⟩, hc⟩ : ∃ c, cellAt (thr cs) v = c := ⟨_, rfl⟩
              rw [hc] at hft k0 k1 k2
              simp only at hft k0 k1 k2
              have HFT := Lib.hid hft
              have i6 : (v : Int) < (cs.length : Int) := by omega
              have i7 : (0 : Int) ≤ (v : Int) := by omega
              have i3 : (cs.length : Int) ≤ 65536 := by omega
              have n6 : ∀ k, (Value.slice a12 j c12).ownBlock = some k → k ∉ [gm] := fun k hk hm => by
                rw [List.mem_singleton] at hm
                have := (HO12.out.lt k hk).1
                omega
              have HN6 := Lib.hid n6
              have HO66 := Lib.hid (ownsB_frm HO12.out hf6 n6)
              have hsz6 := hf6.size
              have HF56 := Lib.hid hf56
              clear hm6 hf6 hf56 hR6 hcs he9 hcc9 hvr hrf hva hft hc n6 hcm9
              have y0 : (w6.alloc (.cells #[.int .i64 kd, .int .i64 nm, .slice ar rf.length cr] 32)).cell? ((⟨w6.heap.size, 0, none⟩ : Addr).add 0) = some (.int .i64 kd) := by
                have := cells_new w6 [.int .i64 kd, .int .i64 nm, .slice ar rf.length cr] 32 0 _ rfl
                simpa using this
              have y1 : (w6.alloc (.cells #[.int .i64 kd, .int .i64 nm, .slice ar rf.length cr] 32)).cell? ((⟨w6.heap.size, 0, none⟩ : Addr).add 1) = some (.int .i64 nm) := by
                have := cells_new w6 [.int .i64 kd, .int .i64 nm, .slice ar rf.length cr] 32 1 _ rfl
                simpa using this
              have y2 : (w6.alloc (.cells #[.int .i64 kd, .int .i64 nm, .slice ar rf.length cr] 32)).cell? ((⟨w6.heap.size, 0, none⟩ : Addr).add 2) = some (.slice ar rf.length cr) := by
                have := cells_new w6 [.int .i64 kd, .int .i64 nm, .slice ar rf.length cr] 32 2 _ rfl
                simpa using this
              go_wp2_with (first | (at_builtin; refine app_cell rfl (.tmp 102) (.tmp 110) rfl w5.heap.size j (.slice a12 j c12) _ rfl (HO66.out.alloc _) ⟨w6.heap.size, 0, none⟩ 1 kd nm ar rf.length cr rfl y0 y1 y2 (by omega) (by simp; omega) ?_) | (at_builtin; fail))
              intro a7 c7 w7 hown7 hf7 hloc7
              have f7 : Frm [] w6 (w6.alloc (.cells #[.int .i64 kd, .int .i64 nm, .slice ar rf.length cr] 32)) := (Frm.refl [] _).alloc _
              have HM7 := Lib.hid ((HM6.out.frm f7 (by simp)).frm hf7 (fun hm => by
                have := (HO12.out.lt gm (by simpa using hm)).1
                omega))
              have HF7 : Hid (Frm [gm] w5 w7) := Lib.hid ((HF56.out.trans f7 (by simp)).trans hf7 (fun x hx => .inr (HO12.out.lt x (by simpa using hx)).1))
              have HO7 : Hid (w7.ownsRow w5.heap.size 32 3 (.slice a7 (j + 1) c7) (j + 1) (flat ((KL.take (j + 1)).map (cellAt (thr cs))) ((KL.take (j + 1)).map (vAt vs)))) := Lib.hid (by rw [HFT.out]; simp only [List.map_take]; exact hown7)
              clear hown7 hf7 hloc7 f7 y0 y1 y2
              go_wp2_with fail
              go_roundg (KL.length - (j + 1))
              case rel => exact ⟨j + 1, a7, c7, _, rfl, hjl, by go_num, rfl, HO7.out, HM7.out, HMN.out, HF7.out⟩
              case measure => omega
            · have i5 : ¬ (j : Int) < (KL.length : Int) := by omega
              obtain rfl : j = KL.length := by omega
              obtain ⟨w7, hw7⟩ : ∃ x, x = wr := ⟨_, rfl⟩
              subst hw7
              have hbf : ∀ k ∈ blocksOf vs, k ∈ fpOf hb (.slice a cs.length cap) vs := fun k hk => by simp only [fpOf, List.mem_cons, List.mem_append]; exact .inr (.inr hk)
              have HBF := Lib.hid hbf
              have hbw : ∀ k ∈ blocksOf vs, k < w.heap.size := fun k hk => HH.out.lt k (hbf k hk)
              have HBW := Lib.hid hbw
              have hF5s := HF5.out.size
              have hcel : Cel w7 (.slice a12 KL.length c12) (KL.map (vAt vs)) (KL.map (cellAt (thr cs))) := by
                refine HR5.out.cel.sel HKN.out (fun x hx => by rw [thr_len]; exact HKT.out x hx) ?_ HF.out (fun k hk => NGM.out k (hbf k hk)) (fun k hk hm => ?_)
                · have h9 := owns_base HO12.out
                  rw [List.take_of_length_le (Nat.le_refl _)] at h9
                  exact h9
                · have h8 := (HO12.out.lt k hk).1
                  have h7 := hbw k hm
                  omega
              have hsub : ∀ k ∈ blocksOf (KL.map (vAt vs)), k ∈ blocksOf vs := fun k hk => blocks_sel_sub (fun x hx => by rw [HR5.out.len, thr_len]; exact HKT.out x hx) hk
              have hfit : ∀ i r, i < KL.length → r ∈ (cellAt (KL.map (cellAt (thr cs))) i).refs → fit64 r ∧ f r = numI cs rs r := fun i r hi hr => by
                obtain ⟨v, hv⟩ : ∃ v, KL[i]? = some v := ⟨_, List.getElem?_eq_getElem hi⟩
                have h1 : cellAt (KL.map (cellAt (thr cs))) i = cellAt (thr cs) v := by
                  rw [cellAt, List.getD_eq_getElem?_getD, List.getElem?_map, hv]; rfl
                rw [h1] at hr
                have hvk := List.mem_of_getElem? hv
                rw [HKL.out] at hvk
                have h2 := kept_ref HO.out rs hvk hr
                have h3 := kept_lt HO.out rs h2.2
                refine ⟨by unfold fit64; omega, ?_⟩
                have h4 := HMK.out.idx (Nat.le_refl _) (v := r.toNat) (by rw [HKL.out]; exact h2.2)
                rw [Int.toNat_of_nonneg h2.1, HKL.out] at h4
                exact h4
              have hdone : (KL.map (cellAt (thr cs))).map (mapR f) = compC cs rs := by
                rw [compC, ← HKL.out, List.map_map]
                refine List.map_congr_left (fun v hv => ?_)
                obtain ⟨i, hi⟩ := List.getElem?_of_mem hv
                have h1 : cellAt (KL.map (cellAt (thr cs))) i = cellAt (thr cs) v := by
                  rw [cellAt, List.getD_eq_getElem?_getD, List.getElem?_map, hi]; rfl
                show mapR f (cellAt (thr cs) v) = _
                rw [mapR, mapR, HC.mk.injEq]
                refine ⟨rfl, rfl, List.map_congr_left (fun r hr => (hfit i r (List.getElem?_eq_some_iff.1 hi).1 (by rw [h1]; exact hr)).2)⟩
              have hclen : (KL.map (cellAt (thr cs))).length = KL.length := List.length_map ..
              have hfo : ∀ x ∈ outs cs rs, fit64 x := fun x hx => by
                obtain ⟨r, hr, rfl⟩ := List.mem_map.1 hx
                show fit64 (if _ then _ else _)
                split
                · rename_i hin
                  have h3 := kept_lt HO.out rs (kept_root HO.out rs hr hin)
                  have h4 := folI_in HO.out hin
                  simp only [inL, decide_eq_true_eq] at h4
                  unfold fit64; omega
                · unfold fit64; omega
              have hfd : (outs cs rs).map f = compO cs rs := by
                rw [outs, compO, List.map_map]
                refine List.map_congr_left (fun r hr => ?_)
                dsimp only [Function.comp]
                by_cases hin : inL cs r = true
                · rw [if_pos hin, if_pos hin]
                  have h2 := kept_root HO.out rs hr hin
                  have h4 := HMK.out.idx (Nat.le_refl _) (v := (folI cs r).toNat) (by rw [HKL.out]; exact h2)
                  have h5 := folI_in HO.out hin
                  simp only [inL, decide_eq_true_eq] at h5
                  rw [Int.toNat_of_nonneg h5.1, HKL.out] at h4
                  exact h4
                · rw [if_neg hin, if_neg hin]
                  exact HMK.out.1
              obtain ⟨cs2, hcs2⟩ : ∃ x, x = KL.map (cellAt (thr cs)) := ⟨_, rfl⟩
              obtain ⟨vs2, hvs2⟩ : ∃ x, x = KL.map (vAt vs) := ⟨_, rfl⟩
              rw [← hcs2, ← hvs2] at hcel
              rw [← hvs2] at hsub
              rw [← hcs2] at hfit hdone hclen
              have HCEL := Lib.hid hcel
              have HSUB := Lib.hid hsub
              have HFIT := Lib.hid hfit
              have HDONE := Lib.hid hdone
              have HCL := Lib.hid hclen
              have HFO := Lib.hid hfo
              have HFD := Lib.hid hfd
              have HOL := Lib.hid hol
              have hg12 : ∀ k, (Value.slice a12 KL.length c12).ownBlock = some k → w5.heap.size ≤ k ∧ k < w7.heap.size := fun k hk => HO12.out.lt k hk
              have HG12 := Lib.hid hg12
              have hvl : vs2.length = KL.length := by rw [hcel.len, hclen]
              have HVL := Lib.hid hvl
              have H7S := Lib.hid hszr
              clear hcel hsub hfit hdone hclen hcs2 hvs2 hbf hbw hfo hfd hol hg12 hvl hjl hj i4 hszr
              have hfit2 := fun i hi r hr => (HFIT.out i r hi hr).1
              have HFT2 := Lib.hid hfit2
              clear hfit2 HFIT
              go_wp2_with fail
              go_loopg [115] KL.length (fun q s115 wr => ∃ i : Nat, q = KL.length - i ∧ i ≤ KL.length ∧ s115 = .int .i64 (i : Int) ∧ Cel wr (.slice a12 KL.length c12) vs2 (midL (mapR f) f cs2 i 0) ∧ Frm (blocksOf vs) w7 wr)
              case atStart => exact ⟨0, rfl, Nat.zero_le _, rfl, by rw [midL_zero]; exact HCEL.out, Frm.refl _ _⟩
              case round =>
                obtain ⟨i, rfl, hi, rfl, hC, hF6⟩ := hrel
                have HC6 := Lib.hid hC
                have HF6 := Lib.hid hF6
                have hszr := hF6.size
                have i4 : (0 : Int) ≤ (i : Int) := by omega
                clear hF6
                by_cases hil : i < KL.length
                · have i5 : (i : Int) < (KL.length : Int) := by omega
                  have i3 : (KL.length : Int) ≤ 65536 := by omega
                  have hil2 : i < cs2.length := by rw [HCL.out]; exact hil
                  obtain ⟨⟨kd, nm, rf⟩, hc⟩ : ∃ c, cellAt cs2 i = c := ⟨_, rfl⟩
                  have hg0 := midL_get (T := mapR f) (f := f) (k := 0) hil2
                  rw [parR_zero, hc] at hg0
                  have hsh := hC.shape (by rw [midL_len]; omega)
                  rw [midL_len, HCL.out] at hsh
                  obtain ⟨cb, cap9, he9, _, hcm9, hcc9⟩ := hsh
                  obtain ⟨rfl, rfl⟩ : a12 = some ⟨cb, 0, none⟩ ∧ c12 = cap9 := by simpa using he9
                  obtain ⟨vr, hvr, k0, k1, k2, _, _, _, hrf⟩ := hcc9 i _ hg0
                  obtain ⟨ar, cr, rfl, hlr⟩ := owns_shape hrf
                  have HC2 := Lib.hid hc
                  have HVR := Lib.hid hvr
                  simp only at k0 k1 k2 hlr
                  have i6 : (KL.length : Int) ≤ (c12 : Int) := by omega
                  have i7 : (c12 : Int) ≤ 9223372036854775807 := by unfold maxLen at hcm9; omega
                  clear hg0 hcc9 he9 hrf hc hC hvr hcm9
                  go_wp2_with fail
                  obtain ⟨wx, hwx⟩ : ∃ x, x = wr := ⟨_, rfl⟩
                  subst hwx
                  go_loopg [124] rf.length (fun q s124 wr => ∃ k : Nat, q = rf.length - k ∧ k ≤ rf.length ∧ s124 = .int .i64 (k : Int) ∧ Cel wr (.slice (some ⟨cb, 0, none⟩) KL.length c12) vs2 (midL (mapR f) f cs2 i k) ∧ Frm (blocksOf vs) w7 wr)
                  case atStart => exact ⟨0, rfl, Nat.zero_le _, rfl, HC6.out, HF6.out⟩
                  case round =>
                    clear HF6 HC6 hszr k0 k1 k2
                    obtain ⟨k, rfl, hk, rfl, hC, hF6⟩ := hrel
                    have HF6 := Lib.hid hF6
                    have hszr := hF6.size
                    have i8 : (0 : Int) ≤ (k : Int) := by omega
                    have HC6 := Lib.hid hC
                    by_cases hkl : k < rf.length
                    · have i9 : (k : Int) < (rf.length : Int) := by omega
                      have hgk := midL_get (T := mapR f) (f := f) (k := k) hil2
                      obtain ⟨r, hr⟩ : ∃ r, (cellAt cs2 i).refs[k]? = some r := ⟨_, List.getElem?_eq_getElem (by rw [HC2.out]; exact hkl)⟩
                      have hrr := HFT2.out i hil r (List.mem_of_getElem? hr)
                      have hpl : (parR f k (cellAt cs2 i)).refs.length = rf.length := by rw [parR_len, HC2.out]
                      obtain ⟨g, cp, hvi, hc1, hc2, hrow⟩ := hC.ref hgk (parR_at hr)
                      rw [HVR.out, hpl] at hvi
                      rw [hpl] at hc1
                      obtain ⟨rfl, rfl⟩ : ar = some ⟨g, 0, none⟩ ∧ cr = cp := by simpa using hvi
                      have q0 := hrow.cell (ints_get (parR_at (f := f) hr))
                      have z0 := hrow.frozen k
                      have hsh := hC.shape (by rw [midL_len]; omega)
                      obtain ⟨cb9, cap9, he9, _, _, hcc9⟩ := hsh
                      obtain ⟨rfl, rfl⟩ : cb = cb9 ∧ c12 = cap9 := by simpa using And.intro (Value.slice.inj he9).1 (Value.slice.inj he9).2.2
                      obtain ⟨vr, hvr, _, _, k2, _, _, _, _⟩ := hcc9 i _ hgk
                      rw [HVR.out] at hvr
                      obtain rfl := Option.some.inj hvr
                      have i10 : (rf.length : Int) ≤ (cr : Int) := by omega
                      have i11 : (cr : Int) ≤ 9223372036854775807 := by unfold maxLen at hc2; omega
                      have hput := hC.put hgk HVR.out rfl k (f r)
                      rw [midL_put hil2 hr] at hput
                      have hgb : g ∈ blocksOf vs := HSUB.out g (mem_blocksOf.2 ⟨i, _, HVR.out, rfl⟩)
                      have hfp : Frm (blocksOf vs) wr (wr.setCell ⟨g, k, none⟩ (.int .i64 (f r))) := (Frm.refl _ _).setCell (p := ⟨g, k, none⟩) (.inl hgb) _
                      have hmw := HMP.out.frm hF6 (fun hm => NGM.out gm (HBF.out gm hm) (by simp))
                      have l0 := hmw.look r hrr
                      have l1 := (hmw.block (w' := wr.drew) rfl).look r hrr
                      have HPUT := Lib.hid (hput.frm ((Frm.refl [] _).drew) (by simp))
                      have HFX := Lib.hid ((HF6.out.trans hfp (fun x hx => .inl hx)).drew)
                      clear hC hgk hr hrr hpl hvi hrow hcc9 he9 hvr hput hfp hgb hmw hF6 hc1 hc2
                      go_wp2_with fail
                      go_region
                      go_wp2_with fail
                      go_roundg (rf.length - (k + 1))
                      case rel => exact ⟨k + 1, rfl, hkl, by go_num, HPUT.out, HFX.out⟩
                      case measure => omega
                    · have i9 : ¬ (k : Int) < (rf.length : Int) := by omega
                      have HN := Lib.hid (midL_next (T := mapR f) (f := f) (k := k) hil2 (parR_all (by rw [HC2.out]; show rf.length ≤ k; omega)))
                      have HX : Hid (Cel wr (.slice (some ⟨cb, 0, none⟩) KL.length c12) vs2 (midL (mapR f) f cs2 (i + 1) 0)) := Lib.hid (by rw [← HN.out]; exact HC6.out)
                      clear hC hF6
                      go_wp2_with fail
                      go_roundg (KL.length - (i + 1))
                      case rel => exact ⟨i + 1, rfl, hil, by go_num, HX.out, HF6.out⟩
                      case measure => omega
                · have i5 : ¬ (i : Int) < (KL.length : Int) := by omega
                  have HX : Hid (Cel wr (.slice a12 KL.length c12) vs2 (compC cs rs)) := Lib.hid (by
                    rw [← HDONE.out, ← midL_done (T := mapR f) (f := f) (i := i) (k := 0) (by rw [HCL.out]; omega)]; exact HC6.out)
                  clear hC HC6
                  obtain ⟨w8, hw8⟩ : ∃ x, x = wr := ⟨_, rfl⟩
                  subst hw8
                  have hnb3 : ∀ k, (Value.slice a3 rs.length c3).ownBlock = some k → w.heap.size ≤ k ∧ k < w5.heap.size ∧ k ≠ gm := fun k hk => ⟨(HO6.out.lt k hk).1, (HO6.out.lt k hk).2, HM5.out.nb HO6.out k hk⟩
                  have HNB3 := Lib.hid hnb3
                  have hO7 := ownsB_frm HO6.out HF.out (fun k hk hm => by
                    rw [List.mem_singleton] at hm
                    exact (hnb3 k hk).2.2 hm)
                  have hO8 := ownsB_frm hO7 HF6.out (fun k hk hm => by
                    have h1 := HBW.out k hm
                    have h2 := (hnb3 k hk).1
                    omega)
                  have HO8 := Lib.hid hO8
                  have HMP8 := Lib.hid (HMP.out.frm HF6.out (fun hm => NGM.out gm (HBF.out gm hm) (by simp)))
                  have hap := (List.nodup_cons.1 HR5.out.apart).1
                  have HD8 := Lib.hid ((HR5.out.hd.frm HF.out (NGM.out hb (by simp [fpOf]))).frm HF6.out (fun hm => hap (List.mem_append_right _ hm)))
                  have HAP := Lib.hid hap
                  clear hnb3 hO7 hO8 hap
                  go_wp2_with fail
                  clear i5 i4 hil hi hszr
                  go_loopg [143] rs.length (fun q s143 wr => ∃ j : Nat, q = rs.length - j ∧ j ≤ rs.length ∧ s143 = .int .i64 (j : Int) ∧ wr.ownsRow w.heap.size 3 1 (.slice a3 rs.length c3) rs.length (ints (parL f j (outs cs rs))) ∧ Frm (Value.slice a3 rs.length c3).ownBlock.toList w8 wr)
                  case atStart => exact ⟨0, rfl, Nat.zero_le _, rfl, by rw [parL_zero]; exact HO8.out, Frm.refl _ _⟩
                  case round =>
                    obtain ⟨j, rfl, hj, rfl, ho3, hF9⟩ := hrel
                    have HO3 := Lib.hid ho3
                    have HF9 := Lib.hid hF9
                    have i4 : (0 : Int) ≤ (j : Int) := by omega
                    by_cases hjl : j < rs.length
                    · have i5 : (j : Int) < (rs.length : Int) := by omega
                      obtain ⟨x, hx⟩ : ∃ x, (outs cs rs)[j]? = some x := ⟨_, List.getElem?_eq_getElem (by rw [HOL.out]; exact hjl)⟩
                      obtain ⟨g3, cp3, he3, hc3, hm3, hr3⟩ := owns_some (owns_base ho3) (by omega)
                      obtain ⟨rfl, rfl⟩ : a3 = some ⟨g3, 0, none⟩ ∧ c3 = cp3 := by simpa using he3
                      have q0 := hr3.cell (ints_get (parL_at (f := f) hx))
                      have z0 := hr3.frozen j
                      have i8 : (rs.length : Int) ≤ (c3 : Int) := by omega
                      have i9 : (c3 : Int) ≤ 9223372036854775807 := by unfold maxLen at hm3; omega
                      have hfx := HFO.out x (List.mem_of_getElem? hx)
                      have hmw := HMP8.out.frm hF9 (fun hm => (HNB3.out gm (by simpa using hm)).2.2 rfl)
                      have l0 := hmw.look x hfx
                      have hp := owns_put ho3 j (.int .i64 (f x))
                      rw [← ints_set, parL_put hx] at hp
                      have HP := Lib.hid hp
                      have HFX : Hid (Frm (Value.slice (some ⟨g3, 0, none⟩) rs.length c3).ownBlock.toList w8 (wr.setCell ⟨g3, j, none⟩ (.int .i64 (f x)))) := Lib.hid (hF9.setCell (p := ⟨g3, j, none⟩) (.inl (by simp [Value.ownBlock])) _)
                      clear ho3 hF9 hx he3 hr3 hfx hmw hp hc3 hm3
                      go_wp2_with fail
                      go_roundg (rs.length - (j + 1))
                      case rel => exact ⟨j + 1, rfl, hjl, by go_num, HP.out, HFX.out⟩
                      case measure => omega
                    · have i5 : ¬ (j : Int) < (rs.length : Int) := by omega
                      have hfin : parL f j (outs cs rs) = compO cs rs := by rw [parL_all (by rw [HOL.out]; omega)]; exact HFD.out
                      rw [hfin] at ho3
                      have hco : (compO cs rs).length = rs.length := by simp [compO]
                      have hclp := own_clip ho3 hco
                      have hdw := HD8.out.frm hF9 (fun hm => by have := (HNB3.out hb (by simpa using hm)).1; omega)
                      have q1 := hdw.cell (i := 1) rfl
                      have z1 := hdw.frozen 1
                      have hcw := HX.out.frm hF9 (fun k hk hm => by
                        have h1 := HNB3.out k (by simpa using hm)
                        rcases List.mem_append.1 hk with h2 | h2
                        · have h3 := (HG12.out k (by simpa using h2)).1
                          omega
                        · have h3 := HBW.out k (HSUB.out k h2)
                          omega)
                      have hcp := clip_any a3 rs.length c3 (wr.setCell ⟨hb, 1, none⟩ (.slice a12 KL.length c12)) hclp.1 hclp.2.1
                      have HCLP := Lib.hid hclp
                      have HDW := Lib.hid hdw
                      have HCW := Lib.hid hcw
                      have HCO := Lib.hid hco
                      have HO33 := Lib.hid ho3
                      clear ho3 hF9 hfin hco hclp hdw hcw HO3
                      go_wp2_with fail
                      refine hcp.mono ?_
                      rintro e9 w9 ⟨rfl, rfl⟩
                      clear hcp
                      go_wp2_with fail
                      go_ret
                      have hn2 : hb ∉ (Value.slice a12 KL.length c12).ownBlock.toList ++ blocksOf vs2 := fun hm => by
                        rcases List.mem_append.1 hm with h2 | h2
                        · have h3 := (HG12.out hb (by simpa using h2)).1
                          omega
                        · exact HAP.out (List.mem_append_right _ (HSUB.out hb h2))
                      have f9 : Frm [hb] wr (wr.setCell ⟨hb, 1, none⟩ (.slice a12 KL.length c12)) := (Frm.refl _ _).setCell (p := ⟨hb, 1, none⟩) (.inl (by simp)) _
                      have hfin := (HCW.out.frm f9 (fun k hk hm => by
                        rw [List.mem_singleton] at hm
                        exact hn2 (hm ▸ hk))).heap (HDW.out.setCell 1 (.slice a12 KL.length c12)) hn2
                      have HF9b : Frm (fpOf hb (.slice a cs.length cap) vs) w wr := (((HF5.out.trans HF.out (fun x hx => .inr (by rw [List.mem_singleton] at hx; omega))).trans HF6.out (fun x hx => .inl (HBF.out x hx))).trans HF9.out (fun x hx => .inr (HNB3.out x (by simpa using hx)).1))
                      refine ⟨fpOf hb (.slice a12 KL.length c12) vs2, a3, rs.length, by rw [HCO.out]; rfl, ?_, ?_, ⟨_, _, hfin, rfl⟩, HF9b.setCell (p := ⟨hb, 1, none⟩) (.inl (by simp [fpOf])) _, fun x hx => ?_⟩
                      · rw [HCO.out]
                        refine HCLP.out.2.2.1.frm f9 (fun k hk hm => ?_)
                        rw [List.mem_singleton] at hm
                        have := (HNB3.out k (own_cap hk)).1
                        omega
                      · rw [HCO.out]
                        intro k hk
                        have h1 := HNB3.out k (own_cap hk)
                        refine ⟨h1.1, fun hm => ?_⟩
                        simp only [fpOf, List.mem_cons, List.mem_append] at hm
                        rcases hm with h2 | h2 | h2
                        · omega
                        · have h3 := (HG12.out k (by simpa using h2)).1
                          omega
                        · have h3 := HBW.out k (HSUB.out k h2)
                          omega
                      · simp only [fpOf, List.mem_cons, List.mem_append] at hx ⊢
                        rcases hx with h2 | h2 | h2
                        · exact .inl (.inl h2)
                        · have h3 := (HG12.out x (by simpa using h2)).1
                          exact .inr (by omega)
                        · exact .inl (.inr (.inr (HSUB.out x h2)))

end Go.Proofs.Ytlpgonnionbkfaa
