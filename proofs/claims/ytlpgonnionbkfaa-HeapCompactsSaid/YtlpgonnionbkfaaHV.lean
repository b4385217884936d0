/- Contract of Compact of the reference's heap. -/
import Derived.Test.YtlpgonnionbkfaaHU
namespace Go.Proofs.Ytlpgonnionbkfaa
open Go.RowKit

set_option linter.unusedSimpArgs false in
set_option maxRecDepth 100000 in
set_option maxHeartbeats 4000000 in
theorem rcompact_any {w : World} {hb : Nat} {fp : List Nat} {most : Int} {cs : List HC} (h : HW 76 w hb fp most cs) (ho : HOk cs) (v : Value) (rs : List Int) (hv : IntsAt w v rs) (hvn : ∀ k, v.ownBlock = some k → k ∉ fp) (hrl : rs.length ≤ 1000) :
    Calls Try.prog 38 #[.pointer (some ⟨hb, 0, none⟩), v] w fun e w' => CmpEnd 76 w hb fp most (compC cs rs) (compO cs rs) w' e := by
  obtain ⟨cv, vs, h, rfl⟩ := h
  obtain ⟨a, cap, rfl, hl⟩ := owns_shape h.row
  obtain ⟨a2, cap2, rfl, hl2⟩ := hv.shape
  have h1 := h.hd.cell (i := 1) rfl
  have hsm := h.small
  have hhb := h.hd.lt
  have HH := Lib.hid h
  have HO := Lib.hid ho
  have HV := Lib.hid hv
  have HVN := Lib.hid hvn
  have irl : (rs.length : Int) ≤ 1000 := by omega
  obtain ⟨n, hn⟩ : ∃ n, n = cs.length := ⟨_, rfl⟩
  have HN := Lib.hid hn
  rw [← hn] at h1 hl hsm HH HVN ⊢
  have i3 : (n : Int) ≤ 65536 := by omega
  clear h ho hv hvn hn
  go_enter Try.func38, Try.ntmps38
  go_wp2_with (first | (at_make; refine wpl_make_i _ rfl (.tmp 23) rfl _ n rfl rfl (by omega) ?_) | (at_make; fail))
  intro w1 hown1 hf1
  obtain ⟨gt, hgt⟩ : ∃ x, x = w.heap.size := ⟨_, rfl⟩
  rw [← hgt] at hown1 ⊢
  have HOWN1 := Lib.hid (ownsB_mono hown1 (C := w.heap.size) (by omega))
  have HF1 := Lib.hid hf1
  have hgt0 : w.heap.size ≤ gt := by omega
  clear hown1 hf1 hgt
  go_wp2_with fail
  go_loopg [6] n (fun q s6 wr => ∃ i : Nat, q = n - i ∧ i ≤ n ∧ s6 = .int .i64 (i : Int) ∧ wr.ownsRow w.heap.size 3 1 (.slice (some ⟨gt, 0, none⟩) n n) n (ints (fillN (fun v => (tgt cs v : Nat)) n i)) ∧ Frm [] w wr)
  case atStart => exact ⟨0, rfl, Nat.zero_le _, rfl, by rw [fillN_zero]; exact HOWN1.out, HF1.out⟩
  case round =>
    clear HOWN1 HF1
    obtain ⟨i, rfl, hi, rfl, ho5, hF⟩ := hrel
    have HO5 := Lib.hid ho5
    have HF := Lib.hid hF
    have hszr := hF.size
    have i4 : (0 : Int) ≤ (i : Int) := by omega
    have hR := HH.out.frm hF (by simp)
    have hq9 := hR.hd.cell (i := 1) rfl
    by_cases hil : i < n
    · have i5 : (i : Int) < (n : Int) := by omega
      have q0 := (own_rowg2 ho5).cell (ints_get (fillN_at hil))
      have z0 := (own_rowg2 ho5).frozen i
      have hfo := find_any hR cs.length i (tgt cs i) (HO.out.tgt (by rw [← HN.out]; exact hil))
      have hp := owns_put ho5 i (.int .i64 ((tgt cs i : Nat) : Int))
      rw [← ints_set, fillN_put hil (F := fun v => (tgt cs v : Nat))] at hp
      have HP := Lib.hid hp
      have hgl := (ho5.lt gt rfl).1
      have HF2 : Hid (Frm [] w (wr.setCell ⟨gt, i, none⟩ (.int .i64 ((tgt cs i : Nat) : Int)))) := Lib.hid (hF.setCell (p := ⟨gt, i, none⟩) (.inr hgl) _)
      clear ho5 hF hR hp
      go_wp2_with fail
      refine hfo.mono ?_
      rintro e4 w4 ⟨rfl, rfl⟩
      clear hfo
      go_wp2_with fail
      go_roundg (n - (i + 1))
      case rel => exact ⟨i + 1, rfl, hil, by go_num, HP.out, HF2.out⟩
      case measure => omega
    · have i5 : ¬ (i : Int) < (n : Int) := by omega
      have hto : ∀ m, m < n → wr.cell? ⟨gt, m, none⟩ = some (.int .i64 ((tgt cs m : Nat) : Int)) := fun m hm => (own_rowg2 ho5).cell (ints_get (fillN_get hm (by omega)))
      have HTO := Lib.hid hto
      have hgtl := (ho5.lt gt rfl).2
      have HR1 := Lib.hid hR
      clear ho5 hF hto hR HO5
      go_wp2_with fail
      obtain ⟨w2, hw2⟩ : ∃ x, x = wr := ⟨_, rfl⟩
      subst hw2
      clear i5 i4 hil hi hq9
      go_loopg [7] n (fun q s7 wr => ∃ i : Nat, q = n - i ∧ i ≤ n ∧ s7 = .int .i64 (i : Int) ∧ HeapRep wr hb 76 (.slice a n cap) vs most (midL (thrT cs) (folI cs) cs i 0) ∧ Frm (blocksOf vs) w2 wr)
      case atStart => exact ⟨0, rfl, Nat.zero_le _, rfl, by rw [midL_zero]; exact HR1.out, Frm.refl _ _⟩
      case round =>
        obtain ⟨i, rfl, hi, rfl, hR, hF2⟩ := hrel
        have HF2 := Lib.hid hF2
        have hszr2 := hF2.size
        have i4 : (0 : Int) ≤ (i : Int) := by omega
        have HR := Lib.hid hR
        have hq9 := hR.hd.cell (i := 1) rfl
        clear hF2
        by_cases hil : i < n
        · have i5 : (i : Int) < (n : Int) := by omega
          have hilc : i < cs.length := by rw [← HN.out]; exact hil
          have HILC := Lib.hid hilc
          obtain ⟨⟨kd, nm, rf⟩, hc⟩ : ∃ c, cellAt cs i = c := ⟨_, rfl⟩
          have hg0 := midL_get (T := thrT cs) (f := folI cs) (k := 0) hilc
          rw [parR_zero, hc] at hg0
          have hsh := hR.shape (by rw [midL_len]; omega)
          rw [midL_len, ← HN.out] at hsh
          obtain ⟨cb, cap9, he9, _, hcm9, hcc9⟩ := hsh
          obtain ⟨rfl, rfl⟩ : a = some ⟨cb, 0, none⟩ ∧ cap = cap9 := by simpa using he9
          obtain ⟨vr, hvr, k0, k1, k2, _, _, _, hrf⟩ := hcc9 i _ hg0
          obtain ⟨ar, cr, rfl, hlr⟩ := owns_shape hrf
          have htwo := HO.out.few hilc
          rw [hc] at htwo
          have HC := Lib.hid hc
          have HVR := Lib.hid hvr
          clear hg0 hcc9 he9 hrf hc hR hvr hilc
          simp only at k0 k1 k2 htwo hlr
          by_cases hk : kd = 3
          · subst hk
            have HNX := Lib.hid (midL_next (T := thrT cs) (f := folI cs) (k := 0) HILC.out (by rw [parR_zero, HC.out]; rfl))
            go_wp2_with fail
            go_roundg (n - (i + 1))
            case rel => exact ⟨i + 1, rfl, hil, by go_num, by rw [← HNX.out]; exact HR.out, HF2.out⟩
            case measure => omega
          · have hkb : (kd == 3) = false := by simp [hk]
            have HKN : Hid ((cellAt cs i).kind ≠ 3) := Lib.hid (by rw [HC.out]; exact hk)
            clear hk
            go_wp2_with fail
            obtain ⟨wx, hwx⟩ : ∃ x, x = wr := ⟨_, rfl⟩
            subst hwx
            go_loopg [8] rf.length (fun q s8 wr => ∃ k : Nat, q = rf.length - k ∧ k ≤ rf.length ∧ s8 = .int .i64 (k : Int) ∧ HeapRep wr hb 76 (.slice (some ⟨cb, 0, none⟩) n cap) vs most (midL (thrT cs) (folI cs) cs i k) ∧ Frm (blocksOf vs) w2 wr)
            case atStart => exact ⟨0, rfl, Nat.zero_le _, rfl, HR.out, HF2.out⟩
            case round =>
              clear HF2 HR hszr2 k0 k1 k2 hq9
              obtain ⟨k, rfl, hk, rfl, hR, hF2⟩ := hrel
              have HF2 := Lib.hid hF2
              have hszr2 := hF2.size
              have i6 : (0 : Int) ≤ (k : Int) := by omega
              have HR := Lib.hid hR
              have hgk := midL_get (T := thrT cs) (f := folI cs) (k := k) HILC.out
              have hsh := hR.shape (by rw [midL_len]; have := HILC.out; omega)
              obtain ⟨cb9, cap9, he9, _, _, hcc9⟩ := hsh
              obtain ⟨rfl, rfl⟩ : cb = cb9 ∧ cap = cap9 := by simpa using And.intro (Value.slice.inj he9).1 (Value.slice.inj he9).2.2
              obtain ⟨vr, hvr, _, _, k2, _, _, _, _⟩ := hcc9 i _ hgk
              rw [HVR.out] at hvr
              obtain rfl := Option.some.inj hvr
              have hq9 := hR.hd.cell (i := 1) rfl
              clear he9 hcc9 hvr
              by_cases hkl : k < rf.length
              · have i7 : (k : Int) < (rf.length : Int) := by omega
                obtain ⟨r, hr⟩ : ∃ r, (cellAt cs i).refs[k]? = some r := ⟨_, List.getElem?_eq_getElem (by rw [HC.out]; exact hkl)⟩
                have hrr := HO.out.ref HILC.out r (List.mem_of_getElem? hr)
                obtain ⟨m, rfl⟩ := Int.eq_ofNat_of_zero_le hrr.1
                have hm : m < n := by rw [HN.out]; omega
                have hpl : (parR (folI cs) k (cellAt cs i)).refs.length = rf.length := by rw [parR_len, HC.out]
                obtain ⟨g, cp, hvi, hc1, hc2, hrow⟩ := hR.cel.ref hgk (parR_at hr)
                rw [HVR.out, hpl] at hvi
                rw [hpl] at hc1
                obtain ⟨rfl, rfl⟩ : ar = some ⟨g, 0, none⟩ ∧ cr = cp := by simpa using hvi
                have q0 := hrow.cell (ints_get (parR_at (f := folI cs) hr))
                have z0 := hrow.frozen k
                have i8 : (rf.length : Int) ≤ (cr : Int) := by omega
                have i9 : (cr : Int) ≤ 9223372036854775807 := by unfold maxLen at hc2; omega
                have i10 : (m : Int) < (n : Int) := by omega
                have i11 : (0 : Int) ≤ (m : Int) := by omega
                have ngt : gt ∉ blocksOf vs := fun hm2 => by
                  have := HH.out.lt gt (by simp only [fpOf, List.mem_cons, List.mem_append]; exact .inr (.inr hm2))
                  omega
                have qt := HF2.out.cell (HTO.out m hm) ngt
                have hput := hR.put hgk HVR.out rfl k (folI cs (m : Int))
                rw [midL_put HILC.out hr] at hput
                have hfp : Frm (blocksOf vs) wr (wr.setCell ⟨g, k, none⟩ (.int .i64 (folI cs (m : Int)))) := (Frm.refl _ _).setCell (p := ⟨g, k, none⟩) (.inl (mem_blocksOf.2 ⟨i, _, HVR.out, rfl⟩)) _
                have hfi : folI cs (m : Int) = ((tgt cs m : Nat) : Int) := by rw [folI, Int.toNat_natCast]
                rw [hfi] at hput hfp
                have HPUT := Lib.hid (hput.frm ((Frm.refl [] _).drew) (by simp))
                have HFX := Lib.hid ((HF2.out.trans hfp (fun x hx => .inl hx)).drew)
                clear hR hgk hr hrr hm hpl hvi hrow hput hfp hfi hc2 hc1 ngt
                go_wp2_with fail
                go_region
                go_wp2_with fail
                go_roundg (rf.length - (k + 1))
                case rel => exact ⟨k + 1, rfl, hkl, by go_num, HPUT.out, HFX.out⟩
                case measure => omega
              · have i7 : ¬ (k : Int) < (rf.length : Int) := by omega
                have HNX := Lib.hid (midL_next (T := thrT cs) (f := folI cs) (k := k) HILC.out (by
                  rw [parR_all (by rw [HC.out]; show rf.length ≤ k; omega), thrT, if_neg HKN.out]))
                have HX : Hid (HeapRep wr hb 76 (.slice (some ⟨cb, 0, none⟩) n cap) vs most (midL (thrT cs) (folI cs) cs (i + 1) 0)) := Lib.hid (by rw [← HNX.out]; exact HR.out)
                clear hR hgk
                go_wp2_with fail
                go_roundg (n - (i + 1))
                case rel => exact ⟨i + 1, rfl, hil, by go_num, HX.out, HF2.out⟩
                case measure => omega
        · have i5 : ¬ (i : Int) < (n : Int) := by omega
          have HT : Hid (HeapRep wr hb 76 (.slice a n cap) vs most (thr cs)) := Lib.hid (by rw [thr_eq, ← midL_done (T := thrT cs) (f := folI cs) (i := i) (k := 0) (by rw [← HN.out]; omega)]; exact HR.out)
          clear HR hR
          go_wp2_with fail
          obtain ⟨w4, hw4⟩ : ∃ x, x = wr := ⟨_, rfl⟩
          subst hw4
          have hbf : ∀ k ∈ blocksOf vs, k ∈ fpOf hb (.slice a n cap) vs := fun k hk => by simp only [fpOf, List.mem_cons, List.mem_append]; exact .inr (.inr hk)
          have HBF := Lib.hid hbf
          have hbw : ∀ k ∈ blocksOf vs, k < w.heap.size := fun k hk => HH.out.lt k (hbf k hk)
          have HBW := Lib.hid hbw
          have ngt : gt ∉ blocksOf vs := fun hm => by have := hbw gt hm; omega
          have HTO4 := Lib.hid (fun m hm => HF2.out.cell (HTO.out m hm) ngt)
          have HF4 : Hid (Frm (fpOf hb (.slice a n cap) vs) w w4) := Lib.hid ((HF.out.mono (fq := fpOf hb (.slice a n cap) vs) (by simp)).trans HF2.out (fun x hx => .inl (hbf x hx)))
          have HV4 := Lib.hid ((HV.out.frm HF.out (by simp)).frm HF2.out (fun k hk hm => HVN.out k hk (hbf k hm)))
          have hs4 : w.heap.size ≤ w4.heap.size := by omega
          have hgt4 : gt < w4.heap.size := by omega
          clear hbf hbw ngt HTO HF2 HF i5 i4 hil hi hq9 hszr hszr2
          go_loopg [9, 10] rs.length (fun q s9 s10 wr => ∃ (j N : Nat) (a9 : Option Addr) (c9 : Nat), q = rs.length - j ∧ j ≤ rs.length ∧ s10 = .int .i64 (j : Int) ∧ s9 = .slice a9 N c9 ∧ (atL cs (rs.take j)).length = N ∧ wr.ownsRow w4.heap.size 3 1 (.slice a9 N c9) N (ints (atL cs (rs.take j))) ∧ Frm [] w4 wr)
          case atStart => exact ⟨0, 0, none, 0, rfl, Nat.zero_le _, rfl, rfl, rfl, World.ownsRow_nil _ _ _ _, Frm.refl _ _⟩
          case round =>
            obtain ⟨j, N, a9, c9, rfl, hj, rfl, rfl, hN, ho9, hF5⟩ := hrel
            have hN2 : N ≤ 1000 := by
              have h9 := atL_len cs (rs.take j)
              rw [hN, List.length_take] at h9
              omega
            have HNN := Lib.hid hN
            have HO9 := Lib.hid ho9
            have HF5 := Lib.hid hF5
            have hszr := hF5.size
            have i4 : (0 : Int) ≤ (j : Int) := by omega
            have hR := HT.out.frm hF5 (by simp)
            clear hN ho9 hF5
            by_cases hjl : j < rs.length
            · have i5 : (j : Int) < (rs.length : Int) := by omega
              obtain ⟨x, hx⟩ : ∃ x, rs[j]? = some x := ⟨_, List.getElem?_eq_getElem hjl⟩
              obtain ⟨b2, o2, rfl, qx, hnn, hc2, hm2⟩ := (HV4.out.frm HF5.out (by simp)).at hx
              have i6 : (rs.length : Int) ≤ (cap2 : Int) := by omega
              have HX := Lib.hid hx
              clear hnn hc2 hm2 hx
              cases hin : inL cs x with
              | false =>
                have hex := there_no hR x (by have := inL_no hin; rw [thr_len]; exact this)
                have HA := Lib.hid (atL_no HX.out hin)
                clear hin hR
                go_wp2_with fail
                refine hex.mono ?_
                rintro e4 w4 ⟨rfl, rfl⟩
                clear hex
                go_wp2_with fail
                go_roundg (rs.length - (j + 1))
                case rel => exact ⟨j + 1, N, a9, c9, rfl, hjl, by go_num, rfl, by rw [HA.out]; exact HNN.out, by rw [HA.out]; exact HO9.out, HF5.out⟩
                case measure => omega
              | true =>
                obtain ⟨k, rfl, hk⟩ := inL_nat hin
                have hex := there_yes hR k (by rw [thr_len]; exact hk)
                have HA := Lib.hid (atL_yes HX.out hin)
                have hkn : k < n := by rw [HN.out]; exact hk
                have qt := HF5.out.cell (HTO4.out k hkn) (by simp)
                have i10 : (k : Int) < (n : Int) := by omega
                have i11 : (0 : Int) ≤ (k : Int) := by omega
                clear hin hR hk
                go_wp2_with (first | (refine hex.mono ?_; rintro e4 w5 ⟨rfl, rfl⟩) | (at_builtin; refine app_ints rfl (.tmp 107) (.tmp 115) rfl w4.heap.size N (N + 1) (.slice a9 N c9) (atL cs (rs.take j)) rfl (HO9.out.alloc _) (.slice (some ⟨_, 0, none⟩) 1 1) [((tgt cs k : Nat) : Int)] rfl (ints_new _ _ (by simp)) rfl (by omega) (by simp; omega) ?_) | (at_builtin; fail))
                intro a8 c8 w8 hown8 hf8 hloc8
                have f8 : Frm [] wr (wr.alloc (.cells #[.int .i64 ((tgt cs k : Nat) : Int)] 3)) := (Frm.refl [] _).alloc _
                have HF8 : Hid (Frm [] w4 w8) := Lib.hid ((HF5.out.trans f8 (by simp)).trans hf8 (fun x hx => .inr (HO9.out.lt x (by simpa using hx)).1))
                have H8 : Hid (w8.ownsRow w4.heap.size 3 1 (.slice a8 (N + 1) c8) (N + 1) (ints (atL cs (rs.take (j + 1))))) := Lib.hid (by rw [HA.out, folI, Int.toNat_natCast]; exact hown8)
                have HN8 : Hid ((atL cs (rs.take (j + 1))).length = N + 1) := Lib.hid (by rw [HA.out, List.length_append, HNN.out]; rfl)
                clear hown8 hf8 hloc8 f8 hex
                go_wp2_with fail
                go_roundg (rs.length - (j + 1))
                case rel => exact ⟨j + 1, N + 1, a8, c8, rfl, hjl, by go_num, rfl, HN8.out, H8.out, HF8.out⟩
                case measure => omega
            · have i5 : ¬ (j : Int) < (rs.length : Int) := by omega
              have htk : rs.take j = rs := List.take_of_length_le (by omega)
              rw [htk] at HNN HO9
              obtain ⟨w5, hw5⟩ : ∃ x, x = wr := ⟨_, rfl⟩
              subst hw5
              have hai : IntsAt w5 (.slice a9 N c9) (atL cs rs) := by
                have h9 := HO9.out
                have h8 := HNN.out
                rw [← h8] at h9 ⊢
                exact ints_of_owns h9
              have hre := reached_any ⟨_, _, hR, rfl⟩ (thr_ok HO.out) (.slice a9 N c9) (atL cs rs) hai (Nat.le_trans (atL_len cs rs) hrl)
              have hre2 : Calls Try.prog 50 #[.pointer (some ⟨hb, 0, none⟩), .slice a9 N c9] w5 (fun e w' => ∃ (g : Nat) (seen : List Bool), e = .returned (.slice (some ⟨g, 0, none⟩) n n) ∧ w'.ownsRow w5.heap.size 4 1 (.slice (some ⟨g, 0, none⟩) n n) n (bools seen) ∧ (∀ v : Nat, seen[v]? = some true ↔ v ∈ kept cs rs) ∧ Frm [] w5 w') := by
                refine hre.mono ?_
                rintro e w' ⟨⟨g, seen, h1, h2, h3⟩, h4⟩
                rw [thr_len, ← HN.out] at h1 h2
                rw [atL_rts HO.out] at h3
                exact ⟨g, seen, h1, h2, h3, h4⟩
              have HR5 := Lib.hid hR
              clear hre htk hai hR
              go_wp2_with fail
              refine hre2.mono ?_
              rintro e6 w6 ⟨gs, seen, rfl, hos, hmem, hf6⟩
              have HR6 := Lib.hid (HR5.out.frm hf6 (by simp))
              have HOS6 := Lib.hid hos
              have HMEM := Lib.hid hmem
              have HF6 := Lib.hid (HF5.out.trans hf6 (by simp))
              have hq9 := HR6.out.hd.cell (i := 1) rfl
              have hs6 := hf6.size
              have HSL : Hid (seen.length = n) := Lib.hid (by have := hos.1; simpa [bools] using this)
              clear hre2 hos hmem hf6 HR5 HF5 i5 i4 hjl hj HO9 HNN
              go_wp2_with (first | (at_make; refine wpl_make_i _ rfl (.tmp 124) rfl _ n rfl rfl (by omega) ?_) | (at_make; fail))
              intro w7 hown7 hf7
              obtain ⟨gn, hgn⟩ : ∃ x, x = w6.heap.size := ⟨_, rfl⟩
              rw [← hgn] at hown7 ⊢
              have HGN := Lib.hid hgn
              have hgn0 : w.heap.size ≤ gn := by omega
              have hgn4 : w4.heap.size ≤ gn := by omega
              have hgs6 : gs < gn := by rw [hgn]; exact (HOS6.out.lt gs rfl).2
              have hgn7 := (hown7.lt gn rfl).2
              have HOWN7 := Lib.hid (ownsB_mono hown7 (C := w.heap.size) (by omega))
              have HR7 := Lib.hid (HR6.out.frm hf7 (by simp))
              have HOS7 := Lib.hid (ownsB_frm HOS6.out hf7 (by simp))
              have HF7 := Lib.hid (HF6.out.trans hf7 (by simp))
              clear hown7 hf7 hgn HR6 HOS6 HF6 hq9
              go_wp2_with fail
              go_loopg [13, 14] n (fun q s13 s14 wr => ∃ (i N : Nat) (a13 : Option Addr) (c13 : Nat) (NUM : List Int), q = n - i ∧ i ≤ n ∧ s14 = .int .i64 (i : Int) ∧ s13 = .slice a13 N c13 ∧ (trues seen i).length = N ∧ N ≤ i ∧ wr.ownsRow w7.heap.size 32 3 (.slice a13 N c13) N (flat ((trues seen i).map (cellAt (thr cs))) ((trues seen i).map (vAt vs))) ∧ NumK (trues seen i) n NUM ∧
                wr.ownsRow w.heap.size 3 1 (.slice (some ⟨gn, 0, none⟩) n n) n (ints NUM) ∧ Frm [gn] w7 wr)
              case atStart => exact ⟨0, 0, none, 0, _, rfl, Nat.zero_le _, rfl, rfl, rfl, Nat.le_refl _, World.ownsRow_nil _ _ _ _, NumK.start n, HOWN7.out, Frm.refl _ _⟩
              case round =>
                clear HOWN7
                obtain ⟨i, N, a13, c13, NUM, rfl, hi, rfl, rfl, hN, hNi, ho13, hnk, honum, hF8⟩ := hrel
                have HNN := Lib.hid hN
                have HO13 := Lib.hid ho13
                have HNK := Lib.hid hnk
                have HNUM := Lib.hid honum
                have HF8 := Lib.hid hF8
                have hszr := hF8.size
                have i4 : (0 : Int) ≤ (i : Int) := by omega
                have nfp : ∀ k ∈ fpOf hb (.slice a n cap) vs, k ∉ [gn] := fun k hk hm => by
                  rw [List.mem_singleton] at hm
                  have := HH.out.lt k hk
                  omega
                have NFP := Lib.hid nfp
                have hR := HR7.out.frm hF8 nfp
                have hq9 := hR.hd.cell (i := 1) rfl
                have hOS := ownsB_frm HOS7.out hF8 (fun k hk hm => by
                  rw [List.mem_singleton] at hm
                  have : gs = k := by simpa [Value.ownBlock] using hk
                  omega)
                clear hN ho13 hnk hF8 nfp
                by_cases hil : i < n
                · have i5 : (i : Int) < (n : Int) := by omega
                  obtain ⟨b, hb9⟩ : ∃ b, seen[i]? = some b := ⟨_, List.getElem?_eq_getElem (by rw [HSL.out]; exact hil)⟩
                  have qs := (own_rowg2 hOS).cell (bools_get hb9)
                  have HB9 := Lib.hid hb9
                  have HR := Lib.hid hR
                  clear hb9 hOS hR
                  cases b with
                  | false =>
                    have HTR := Lib.hid (trues_no (seen := seen) (k := i) (by rw [HB9.out]; simp))
                    clear honum
                    go_wp2_with fail
                    go_roundg (n - (i + 1))
                    case rel => exact ⟨i + 1, N, a13, c13, NUM, rfl, hil, by go_num, rfl, by rw [HTR.out]; exact HNN.out, by omega, by rw [HTR.out]; exact HO13.out, by rw [HTR.out]; exact HNK.out, HNUM.out, HF8.out⟩
                    case measure => omega
                  | true =>
                    have HTR := Lib.hid (trues_yes (seen := seen) (k := i) HB9.out)
                    obtain ⟨y, hy⟩ : ∃ y, NUM[i]? = some y := ⟨_, List.getElem?_eq_getElem (by rw [HNK.out.1]; exact hil)⟩
                    have qn := (own_rowg2 honum).cell (ints_get hy)
                    have zn := (own_rowg2 honum).frozen i
                    have hcs := cellAt_get (cs := thr cs) (i := i) (by rw [thr_len, ← HN.out]; exact hil)
                    have f1 : Frm [gn] wr (wr.setCell ⟨gn, i, none⟩ (.int .i64 (N : Int))) := (Frm.refl _ _).setCell (p := ⟨gn, i, none⟩) (.inl (by simp)) _
                    have hR1 := HR.out.frm f1 NFP.out
                    have hsh := hR1.shape (by rw [thr_len, ← HN.out]; omega)
                    rw [thr_len, ← HN.out] at hsh
                    obtain ⟨cb, cap9, he9, _, hcm9, hcc9⟩ := hsh
                    obtain ⟨rfl, rfl⟩ : a = some ⟨cb, 0, none⟩ ∧ cap = cap9 := by simpa using he9
                    obtain ⟨vr, hvr, k0, k1, k2, _, _, _, hrf⟩ := hcc9 i _ hcs
                    have hva : vAt vs i = vr := by rw [vAt, List.getD_eq_getElem?_getD, hvr]; rfl
                    obtain ⟨ar, cr, rfl, hlr⟩ := owns_shape hrf
                    have hq1 := hR1.hd.cell (i := 1) rfl
                    have hft := flat_snoc2 (cs := thr cs) (vs := vs) (T := trues seen i) (v := i)
                    rw [hva] at hft
                    obtain ⟨⟨kd, nm, rf⟩, hc⟩ : ∃ c, cellAt (thr cs) i = c := ⟨_, rfl⟩
                    rw [hc] at hft k0 k1 k2
                    simp only at hft k0 k1 k2
                    have HFT := Lib.hid hft
                    have hni : i ∉ trues seen i := fun hm => by
                      rw [trues, List.mem_filter, List.mem_range] at hm
                      omega
                    have hnx := HNK.out.next hni hil
                    rw [HNN.out] at hnx
                    have HNX := Lib.hid hnx
                    have hnum2 := owns_put honum i (.int .i64 (N : Int))
                    rw [← ints_set] at hnum2
                    have HNUM2 := Lib.hid hnum2
                    have n13 : ∀ k, (Value.slice a13 N c13).ownBlock = some k → k ∉ [gn] := fun k hk hm => by
                      rw [List.mem_singleton] at hm
                      have := (HO13.out.lt k hk).1
                      omega
                    have HO1 := Lib.hid (ownsB_frm HO13.out f1 n13)
                    have HF1 := Lib.hid (HF8.out.trans f1 (fun x hx => .inl hx))
                    have hcbl : cb < w.heap.size := HH.out.lt cb (by simp [fpOf, Value.ownBlock])
                    have m1 : cb ≠ gn := by omega
                    have m2 : hb ≠ gn := by omega
                    have HR1 := Lib.hid hR1
                    clear honum hy hcs f1 hR1 he9 hcc9 hvr hrf hva hft hc hni hnx hnum2 n13 hcm9
                    have y0 : ((wr.setCell ⟨gn, i, none⟩ (.int .i64 (N : Int))).alloc (.cells #[.int .i64 kd, .int .i64 nm, .slice ar rf.length cr] 32)).cell? ((⟨wr.heap.size, 0, none⟩ : Addr).add 0) = some (.int .i64 kd) := by
                      have := cells_new (wr.setCell ⟨gn, i, none⟩ (.int .i64 (N : Int))) [.int .i64 kd, .int .i64 nm, .slice ar rf.length cr] 32 0 _ rfl
                      simpa using this
                    have y1 : ((wr.setCell ⟨gn, i, none⟩ (.int .i64 (N : Int))).alloc (.cells #[.int .i64 kd, .int .i64 nm, .slice ar rf.length cr] 32)).cell? ((⟨wr.heap.size, 0, none⟩ : Addr).add 1) = some (.int .i64 nm) := by
                      have := cells_new (wr.setCell ⟨gn, i, none⟩ (.int .i64 (N : Int))) [.int .i64 kd, .int .i64 nm, .slice ar rf.length cr] 32 1 _ rfl
                      simpa using this
                    have y2 : ((wr.setCell ⟨gn, i, none⟩ (.int .i64 (N : Int))).alloc (.cells #[.int .i64 kd, .int .i64 nm, .slice ar rf.length cr] 32)).cell? ((⟨wr.heap.size, 0, none⟩ : Addr).add 2) = some (.slice ar rf.length cr) := by
                      have := cells_new (wr.setCell ⟨gn, i, none⟩ (.int .i64 (N : Int))) [.int .i64 kd, .int .i64 nm, .slice ar rf.length cr] 32 2 _ rfl
                      simpa using this
                    go_wp2_with (first | (at_builtin; refine app_cell rfl (.tmp 144) (.tmp 152) rfl w7.heap.size N (.slice a13 N c13) _ rfl (HO1.out.alloc _) ⟨wr.heap.size, 0, none⟩ 1 kd nm ar rf.length cr rfl y0 y1 y2 (by omega) (by simp; omega) ?_) | (at_builtin; fail))
                    intro a9 c9 w9 hown9 hf9 hloc9
                    have f9 : Frm [] (wr.setCell ⟨gn, i, none⟩ (.int .i64 (N : Int))) ((wr.setCell ⟨gn, i, none⟩ (.int .i64 (N : Int))).alloc (.cells #[.int .i64 kd, .int .i64 nm, .slice ar rf.length cr] 32)) := (Frm.refl [] _).alloc _
                    have HNUM9 := Lib.hid (ownsB_frm (HNUM2.out.alloc (.cells #[.int .i64 kd, .int .i64 nm, .slice ar rf.length cr] 32)) hf9 (fun k hk hm => by
                      have h1 := (HO13.out.lt k (by simpa using hm)).1
                      have h2 : gn = k := by simpa [Value.ownBlock] using hk
                      omega))
                    have HF9 : Hid (Frm [gn] w7 w9) := Lib.hid ((HF1.out.trans f9 (by simp)).trans hf9 (fun x hx => .inr (HO13.out.lt x (by simpa using hx)).1))
                    have HO9 : Hid (w9.ownsRow w7.heap.size 32 3 (.slice a9 (N + 1) c9) (N + 1) (flat ((trues seen (i + 1)).map (cellAt (thr cs))) ((trues seen (i + 1)).map (vAt vs)))) := Lib.hid (by rw [HTR.out, HFT.out]; exact hown9)
                    have HNN9 : Hid ((trues seen (i + 1)).length = N + 1) := Lib.hid (by rw [HTR.out, List.length_append, HNN.out]; rfl)
                    clear hown9 hf9 hloc9 f9 y0 y1 y2
                    go_wp2_with fail
                    go_roundg (n - (i + 1))
                    case rel => exact ⟨i + 1, N + 1, a9, c9, NUM.set i (N : Int), rfl, hil, by go_num, rfl, HNN9.out, by omega, HO9.out, by rw [HTR.out]; exact HNX.out, HNUM9.out, HF9.out⟩
                    case measure => omega
                · have i5 : ¬ (i : Int) < (n : Int) := by omega
                  obtain rfl : n = i := by omega
                  obtain ⟨w8, hw8⟩ : ∃ x, x = wr := ⟨_, rfl⟩
                  subst hw8
                  have hkt : trues seen n = kept cs rs := by
                    have h9 := trues_rset (cs := thr cs) (fr := rts (thr cs) (outs cs rs)) (seen := seen) HMEM.out
                    rw [thr_len, ← HN.out] at h9
                    exact h9
                  obtain ⟨KL, hKL⟩ : ∃ x, x = kept cs rs := ⟨_, rfl⟩
                  rw [hkt, ← hKL] at HNN HO13 HNK
                  have hkn : KL.Nodup := by rw [hKL]; exact rset_nodup _ _
                  have hkl : ∀ v ∈ KL, v < cs.length := fun v hv => by rw [hKL] at hv; exact kept_lt HO.out rs hv
                  have hcel : Cel w8 (.slice a13 N c13) (KL.map (vAt vs)) (KL.map (cellAt (thr cs))) := by
                    refine HR7.out.cel.sel hkn (fun x hx => by rw [thr_len]; exact hkl x hx) ?_ HF8.out (fun k hk => NFP.out k (HBF.out k hk)) (fun k hk hm => ?_)
                    · rw [HNN.out]
                      exact owns_base HO13.out
                    · have h8 := (HO13.out.lt k hk).1
                      have h7 := HBW.out k hm
                      omega
                  have hsub : ∀ k ∈ blocksOf (KL.map (vAt vs)), k ∈ blocksOf vs := fun k hk => blocks_sel_sub (fun x hx => by rw [HR7.out.len, thr_len]; exact hkl x hx) hk
                  have hqn : ∀ m, m ∈ KL → w8.cell? ⟨gn, m, none⟩ = some (.int .i64 (numI cs rs (m : Int))) := fun m hm => by
                    have h9 := HNK.out.at hm
                    rw [numI, Int.toNat_natCast, ← hKL]
                    exact (own_rowg2 honum).cell (ints_get h9)
                  have hrf : ∀ i r, i < N → r ∈ (cellAt (KL.map (cellAt (thr cs))) i).refs → 0 ≤ r ∧ r.toNat ∈ KL := fun i r hi hr => by
                    obtain ⟨v, hv⟩ : ∃ v, KL[i]? = some v := ⟨_, List.getElem?_eq_getElem (by rw [HNN.out]; exact hi)⟩
                    have h1 : cellAt (KL.map (cellAt (thr cs))) i = cellAt (thr cs) v := by
                      rw [cellAt, List.getD_eq_getElem?_getD, List.getElem?_map, hv]; rfl
                    rw [h1] at hr
                    have hvk := List.mem_of_getElem? hv
                    rw [hKL] at hvk ⊢
                    exact kept_ref HO.out rs hvk hr
                  have hdone : (KL.map (cellAt (thr cs))).map (mapR (numI cs rs)) = compC cs rs := by
                    rw [compC, ← hKL, List.map_map]; rfl
                  have hclen : (KL.map (cellAt (thr cs))).length = N := by rw [List.length_map]; exact HNN.out
                  have hroot : ∀ k, k < n → (k : Int) ∈ rs → tgt cs k ∈ KL ∧ tgt cs k < n := fun k hk hm => by
                    have h1 := kept_root HO.out rs hm (by simp only [inL, decide_eq_true_eq]; rw [← HN.out]; omega)
                    rw [folI, Int.toNat_natCast, Int.toNat_natCast, ← hKL] at h1
                    exact ⟨h1, by rw [HN.out]; exact hkl _ h1⟩
                  obtain ⟨cs2, hcs2⟩ : ∃ x, x = KL.map (cellAt (thr cs)) := ⟨_, rfl⟩
                  obtain ⟨vs2, hvs2⟩ : ∃ x, x = KL.map (vAt vs) := ⟨_, rfl⟩
                  rw [← hcs2, ← hvs2] at hcel
                  rw [← hvs2] at hsub
                  rw [← hcs2] at hrf hdone hclen
                  have HCEL := Lib.hid hcel
                  have HSUB := Lib.hid hsub
                  have HQN := Lib.hid hqn
                  have HRFS := Lib.hid hrf
                  have HDONE := Lib.hid hdone
                  have HCL := Lib.hid hclen
                  have HROOT := Lib.hid hroot
                  have HKLT : Hid (∀ v ∈ KL, v < n) := Lib.hid (fun v hv => by rw [HN.out]; exact hkl v hv)
                  have hg13 : ∀ k, (Value.slice a13 N c13).ownBlock = some k → w7.heap.size ≤ k ∧ k < w8.heap.size := fun k hk => HO13.out.lt k hk
                  have HG13 := Lib.hid hg13
                  have H8S := Lib.hid hszr
                  clear hcel hsub hqn hrf hdone hclen hcs2 hvs2 hkn hkl hroot hg13 hkt honum hOS hR hq9 hKL
                  have hN5 : N ≤ 65536 := by omega
                  have iN5 : (N : Int) ≤ 65536 := by omega
                  have hq9 := (HR7.out.frm HF8.out NFP.out).hd.cell (i := 1) rfl
                  go_wp2_with fail
                  clear i5 i4 hil hi hNi hszr hq9
                  go_loopg [15] N (fun q s15 wr => ∃ i : Nat, q = N - i ∧ i ≤ N ∧ s15 = .int .i64 (i : Int) ∧ Cel wr (.slice a13 N c13) vs2 (midL (mapR (numI cs rs)) (numI cs rs) cs2 i 0) ∧ Frm (blocksOf vs) w8 wr)
                  case atStart => exact ⟨0, rfl, Nat.zero_le _, rfl, by rw [midL_zero]; exact HCEL.out, Frm.refl _ _⟩
                  case round =>
                    obtain ⟨j, rfl, hj, rfl, hC, hF6⟩ := hrel
                    have HC6 := Lib.hid hC
                    have HF6 := Lib.hid hF6
                    have hszr := hF6.size
                    have i4 : (0 : Int) ≤ (j : Int) := by omega
                    clear hF6
                    by_cases hil : j < N
                    · have i5 : (j : Int) < (N : Int) := by omega
                      have hil2 : j < cs2.length := by rw [HCL.out]; exact hil
                      have HIL2 := Lib.hid hil2
                      obtain ⟨⟨kd, nm, rf⟩, hc⟩ : ∃ c, cellAt cs2 j = c := ⟨_, rfl⟩
                      have hg0 := midL_get (T := mapR (numI cs rs)) (f := numI cs rs) (k := 0) hil2
                      rw [parR_zero, hc] at hg0
                      have hsh := hC.shape (by rw [midL_len]; omega)
                      rw [midL_len, HCL.out] at hsh
                      obtain ⟨cb, cap9, he9, _, hcm9, hcc9⟩ := hsh
                      obtain ⟨rfl, rfl⟩ : a13 = some ⟨cb, 0, none⟩ ∧ c13 = cap9 := by simpa using he9
                      obtain ⟨vr, hvr, k0, k1, k2, _, _, _, hrf⟩ := hcc9 j _ hg0
                      obtain ⟨ar, cr, rfl, hlr⟩ := owns_shape hrf
                      have HC2 := Lib.hid hc
                      have HVR := Lib.hid hvr
                      simp only at k0 k1 k2 hlr
                      have i6 : (N : Int) ≤ (c13 : Int) := by omega
                      have i7 : (c13 : Int) ≤ 9223372036854775807 := by unfold maxLen at hcm9; omega
                      clear hg0 hcc9 he9 hrf hc hC hvr hcm9 hil2
                      go_wp2_with fail
                      obtain ⟨wx, hwx⟩ : ∃ x, x = wr := ⟨_, rfl⟩
                      subst hwx
                      go_loopg [16] rf.length (fun q s16 wr => ∃ k : Nat, q = rf.length - k ∧ k ≤ rf.length ∧ s16 = .int .i64 (k : Int) ∧ Cel wr (.slice (some ⟨cb, 0, none⟩) N c13) vs2 (midL (mapR (numI cs rs)) (numI cs rs) cs2 j k) ∧ Frm (blocksOf vs) w8 wr)
                      case atStart => exact ⟨0, rfl, Nat.zero_le _, rfl, HC6.out, HF6.out⟩
                      case round =>
                        clear HF6 HC6 hszr k0 k1 k2
                        obtain ⟨k, rfl, hk, rfl, hC, hF6⟩ := hrel
                        have HF6 := Lib.hid hF6
                        have hszr := hF6.size
                        have i8 : (0 : Int) ≤ (k : Int) := by omega
                        have HC6 := Lib.hid hC
                        have hgk := midL_get (T := mapR (numI cs rs)) (f := numI cs rs) (k := k) HIL2.out
                        have hsh := hC.shape (by rw [midL_len]; have := HIL2.out; omega)
                        obtain ⟨cb9, cap9, he9, _, _, hcc9⟩ := hsh
                        obtain ⟨rfl, rfl⟩ : cb = cb9 ∧ c13 = cap9 := by simpa using And.intro (Value.slice.inj he9).1 (Value.slice.inj he9).2.2
                        obtain ⟨vr, hvr, _, _, k2, _, _, _, _⟩ := hcc9 j _ hgk
                        rw [HVR.out] at hvr
                        obtain rfl := Option.some.inj hvr
                        clear he9 hcc9 hvr
                        by_cases hkl : k < rf.length
                        · have i9 : (k : Int) < (rf.length : Int) := by omega
                          obtain ⟨r, hr⟩ : ∃ r, (cellAt cs2 j).refs[k]? = some r := ⟨_, List.getElem?_eq_getElem (by rw [HC2.out]; exact hkl)⟩
                          have hrr := HRFS.out j r hil (List.mem_of_getElem? hr)
                          obtain ⟨m, rfl⟩ := Int.eq_ofNat_of_zero_le hrr.1
                          have hmk : m ∈ KL := by simpa using hrr.2
                          have hmi := HKLT.out m hmk
                          have i12 : (m : Int) < (n : Int) := by omega
                          have i13 : (0 : Int) ≤ (m : Int) := by omega
                          have hpl : (parR (numI cs rs) k (cellAt cs2 j)).refs.length = rf.length := by rw [parR_len, HC2.out]
                          obtain ⟨g, cp, hvi, hc1, hc2, hrow⟩ := hC.ref hgk (parR_at hr)
                          rw [HVR.out, hpl] at hvi
                          rw [hpl] at hc1
                          obtain ⟨rfl, rfl⟩ : ar = some ⟨g, 0, none⟩ ∧ cr = cp := by simpa using hvi
                          have q0 := hrow.cell (ints_get (parR_at (f := numI cs rs) hr))
                          have z0 := hrow.frozen k
                          have i10 : (rf.length : Int) ≤ (cr : Int) := by omega
                          have i11 : (cr : Int) ≤ 9223372036854775807 := by unfold maxLen at hc2; omega
                          have hput := hC.put hgk HVR.out rfl k (numI cs rs (m : Int))
                          rw [midL_put HIL2.out hr] at hput
                          have hgb : g ∈ blocksOf vs := HSUB.out g (mem_blocksOf.2 ⟨j, _, HVR.out, rfl⟩)
                          have hfp : Frm (blocksOf vs) wr (wr.setCell ⟨g, k, none⟩ (.int .i64 (numI cs rs (m : Int)))) := (Frm.refl _ _).setCell (p := ⟨g, k, none⟩) (.inl hgb) _
                          have ngn : gn ∉ blocksOf vs := fun hm => NFP.out gn (HBF.out gn hm) (by simp)
                          have qn := HF6.out.cell (HQN.out m hmk) ngn
                          have HPUT := Lib.hid (hput.frm ((Frm.refl [] _).drew) (by simp))
                          have HFX := Lib.hid ((HF6.out.trans hfp (fun x hx => .inl hx)).drew)
                          clear hC hgk hr hrr hpl hvi hrow hput hfp hgb hF6 hc1 hc2 hmk hmi ngn
                          go_wp2_with fail
                          go_region
                          go_wp2_with fail
                          go_roundg (rf.length - (k + 1))
                          case rel => exact ⟨k + 1, rfl, hkl, by go_num, HPUT.out, HFX.out⟩
                          case measure => omega
                        · have i9 : ¬ (k : Int) < (rf.length : Int) := by omega
                          have HNX := Lib.hid (midL_next (T := mapR (numI cs rs)) (f := numI cs rs) (k := k) HIL2.out (parR_all (by rw [HC2.out]; show rf.length ≤ k; omega)))
                          have HX : Hid (Cel wr (.slice (some ⟨cb, 0, none⟩) N c13) vs2 (midL (mapR (numI cs rs)) (numI cs rs) cs2 (j + 1) 0)) := Lib.hid (by rw [← HNX.out]; exact HC6.out)
                          clear hC hF6 hgk
                          go_wp2_with fail
                          go_roundg (N - (j + 1))
                          case rel => exact ⟨j + 1, rfl, hil, by go_num, HX.out, HF6.out⟩
                          case measure => omega
                    · have i5 : ¬ (j : Int) < (N : Int) := by omega
                      have HX : Hid (Cel wr (.slice a13 N c13) vs2 (compC cs rs)) := Lib.hid (by
                        rw [← HDONE.out, ← midL_done (T := mapR (numI cs rs)) (f := numI cs rs) (i := j) (k := 0) (by rw [HCL.out]; omega)]; exact HC6.out)
                      clear hC HC6
                      go_wp2_with fail
                      obtain ⟨w9, hw9⟩ : ∃ x, x = wr := ⟨_, rfl⟩
                      subst hw9
                      have ngt : gt ∉ blocksOf vs := fun hm => by have := HBW.out gt hm; omega
                      have ngn : gn ∉ blocksOf vs := fun hm => NFP.out gn (HBF.out gn hm) (by simp)
                      have hF49 : Frm [gn] w4 w8 := HF7.out.trans HF8.out (fun x hx => .inr (by rw [List.mem_singleton] at hx; omega)) |>.mono (by simp)
                      have HQN9 := Lib.hid (fun m hm => HF6.out.cell (HQN.out m hm) ngn)
                      have HTO9 := Lib.hid (fun m hm => HF6.out.cell (hF49.cell (HTO4.out m hm) (fun hm => by rw [List.mem_singleton] at hm; simp only at hm; omega)) ngt)
                      have HR9 := Lib.hid ((HR7.out.frm HF8.out NFP.out).hd.frm HF6.out (fun hm => (List.nodup_cons.1 HR7.out.apart).1 (List.mem_append_right _ hm)))
                      have HV9 := Lib.hid ((HV4.out.frm hF49 (fun k hk hm => by
                        rw [List.mem_singleton] at hm
                        have := HV4.out.blk k hk
                        omega)).frm HF6.out (fun k hk hm => HVN.out k hk (HBF.out k hm)))
                      have hs9 : w.heap.size ≤ w9.heap.size := by have := H8S.out; omega
                      clear ngt ngn i5 i4 hil hj hszr
                      go_loopg [17, 18] rs.length (fun q s17 s18 wr => ∃ (j : Nat) (a17 : Option Addr) (c17 : Nat), q = rs.length - j ∧ j ≤ rs.length ∧ s18 = .int .i64 (j : Int) ∧ s17 = .slice a17 j c17 ∧ wr.ownsRow w9.heap.size 3 1 (.slice a17 j c17) j (ints ((rs.take j).map (gO cs rs))) ∧ Frm [] w9 wr)
                      case atStart => exact ⟨0, none, 0, rfl, Nat.zero_le _, rfl, rfl, World.ownsRow_nil _ _ _ _, Frm.refl _ _⟩
                      case round =>
                        obtain ⟨j, a17, c17, rfl, hj, rfl, rfl, ho17, hF9⟩ := hrel
                        have HO17 := Lib.hid ho17
                        have HF9 := Lib.hid hF9
                        have hszr := hF9.size
                        have i4 : (0 : Int) ≤ (j : Int) := by omega
                        have hdw := HR9.out.frm hF9 (by simp)
                        clear ho17
                        by_cases hjl : j < rs.length
                        · have i5 : (j : Int) < (rs.length : Int) := by omega
                          obtain ⟨x, hx⟩ : ∃ x, rs[j]? = some x := ⟨_, List.getElem?_eq_getElem hjl⟩
                          obtain ⟨b2, o2, rfl, qx, hnn, hc2, hm2⟩ := (HV9.out.frm hF9 (by simp)).at hx
                          have i6 : (rs.length : Int) ≤ (cap2 : Int) := by omega
                          have HX2 := Lib.hid hx
                          have HTM := Lib.hid (take_map_snoc (f := gO cs rs) hx)
                          cases hin : inL cs x with
                          | false =>
                            have hex := row_no hdw i3 x (by have := inL_no hin; rw [HN.out]; exact this)
                            have HG : Hid (gO cs rs x = -1) := Lib.hid (by rw [gO, if_neg (by simp [hin])])
                            clear hnn hc2 hm2 hx hin hdw hF9
                            go_wp2_with (first | (refine hex.mono ?_; rintro e4 w5 ⟨rfl, rfl⟩) | (at_builtin; refine app_ints rfl (.tmp 213) (.tmp 214) rfl w9.heap.size j (j + 1) (.slice a17 j c17) ((rs.take j).map (gO cs rs)) rfl (HO17.out.alloc _) (.slice (some ⟨_, 0, none⟩) 1 1) [-1] rfl (ints_new _ _ (by simp)) rfl (by omega) (by simp; omega) ?_) | (at_builtin; fail))
                            intro a8 c8 w10 hown8 hf8 hloc8
                            have f8 : Frm [] wr (wr.alloc (.cells #[.int .i64 (-1)] 3)) := (Frm.refl [] _).alloc _
                            have HF8 : Hid (Frm [] w9 w10) := Lib.hid ((HF9.out.trans f8 (by simp)).trans hf8 (fun x hx => .inr (HO17.out.lt x (by simpa using hx)).1))
                            have H8 : Hid (w10.ownsRow w9.heap.size 3 1 (.slice a8 (j + 1) c8) (j + 1) (ints ((rs.take (j + 1)).map (gO cs rs)))) := Lib.hid (by rw [HTM.out, HG.out]; simp only [List.map_take]; exact hown8)
                            clear hown8 hf8 hloc8 f8 hex
                            go_wp2_with fail
                            go_roundg (rs.length - (j + 1))
                            case rel => exact ⟨j + 1, a8, c8, rfl, hjl, by go_num, rfl, H8.out, HF8.out⟩
                            case measure => omega
                          | true =>
                            obtain ⟨k, rfl, hk⟩ := inL_nat hin
                            have hkn : k < n := by rw [HN.out]; exact hk
                            have hex := row_yes hdw i3 k hkn
                            have hro := HROOT.out k hkn (List.mem_of_getElem? hx)
                            have HG : Hid (gO cs rs (k : Int) = numI cs rs ((tgt cs k : Nat) : Int)) := Lib.hid (by rw [gO, if_pos hin, folI, Int.toNat_natCast])
                            have qt := hF9.cell (HTO9.out k hkn) (by simp)
                            have qn := hF9.cell (HQN9.out _ hro.1) (by simp)
                            have htl := hro.2
                            have i10 : (k : Int) < (n : Int) := by omega
                            have i11 : (0 : Int) ≤ (k : Int) := by omega
                            have i12 : ((tgt cs k : Nat) : Int) < (n : Int) := by omega
                            have i13 : (0 : Int) ≤ ((tgt cs k : Nat) : Int) := by omega
                            clear hnn hc2 hm2 hx hin hdw hF9 hro hk
                            go_wp2_with (first | (refine hex.mono ?_; rintro e4 w5 ⟨rfl, rfl⟩) | (at_builtin; refine app_ints rfl (.tmp 200) (.tmp 211) rfl w9.heap.size j (j + 1) (.slice a17 j c17) ((rs.take j).map (gO cs rs)) rfl (HO17.out.alloc _) (.slice (some ⟨_, 0, none⟩) 1 1) [numI cs rs ((tgt cs k : Nat) : Int)] rfl (ints_new _ _ (by simp)) rfl (by omega) (by simp; omega) ?_) | (at_builtin; fail))
                            intro a8 c8 w10 hown8 hf8 hloc8
                            have f8 : Frm [] wr (wr.alloc (.cells #[.int .i64 (numI cs rs ((tgt cs k : Nat) : Int))] 3)) := (Frm.refl [] _).alloc _
                            have HF8 : Hid (Frm [] w9 w10) := Lib.hid ((HF9.out.trans f8 (by simp)).trans hf8 (fun x hx => .inr (HO17.out.lt x (by simpa using hx)).1))
                            have H8 : Hid (w10.ownsRow w9.heap.size 3 1 (.slice a8 (j + 1) c8) (j + 1) (ints ((rs.take (j + 1)).map (gO cs rs)))) := Lib.hid (by rw [HTM.out, HG.out]; simp only [List.map_take]; exact hown8)
                            clear hown8 hf8 hloc8 f8 hex
                            go_wp2_with fail
                            go_roundg (rs.length - (j + 1))
                            case rel => exact ⟨j + 1, a8, c8, rfl, hjl, by go_num, rfl, H8.out, HF8.out⟩
                            case measure => omega
                        · have i5 : ¬ (j : Int) < (rs.length : Int) := by omega
                          obtain rfl : j = rs.length := by omega
                          have q1 := hdw.cell (i := 1) rfl
                          have z1 := hdw.frozen 1
                          have hrow : wr.ownsRow w9.heap.size 3 1 (.slice a17 rs.length c17) rs.length (ints (compO cs rs)) := by
                            have h9 := HO17.out
                            rw [List.take_of_length_le (Nat.le_refl _), ← compO_eq] at h9
                            exact h9
                          have HROW := Lib.hid hrow
                          have HDW := Lib.hid hdw
                          have HCW := Lib.hid (HX.out.frm hF9 (by simp))
                          clear hF9 hrow hdw HO17
                          go_wp2_with fail
                          go_ret
                          have hco : (compO cs rs).length = rs.length := by simp [compO]
                          have hap := (List.nodup_cons.1 HR7.out.apart).1
                          have hhn : hb ∉ blocksOf vs := fun hm => hap (List.mem_append_right _ hm)
                          have h8s := H8S.out
                          have hn2 : hb ∉ (Value.slice a13 N c13).ownBlock.toList ++ blocksOf vs2 := fun hm => by
                            rcases List.mem_append.1 hm with h2 | h2
                            · have h3 := (HG13.out hb (by simpa using h2)).1
                              omega
                            · exact hhn (HSUB.out hb h2)
                          have f9 : Frm [hb] wr (wr.setCell ⟨hb, 1, none⟩ (.slice a13 N c13)) := (Frm.refl _ _).setCell (p := ⟨hb, 1, none⟩) (.inl (by simp)) _
                          have hfin := (HCW.out.frm f9 (fun k hk hm => by
                            rw [List.mem_singleton] at hm
                            exact hn2 (hm ▸ hk))).heap (HDW.out.setCell 1 (.slice a13 N c13)) hn2
                          have HFA : Frm (fpOf hb (.slice a n cap) vs) w wr := (((HF4.out.trans HF7.out (by simp)).trans HF8.out (fun x hx => .inr (by rw [List.mem_singleton] at hx; omega))).trans HF6.out (fun x hx => .inl (HBF.out x hx))).trans HF9.out (by simp)
                          have hit : IntsAt wr (.slice a17 rs.length c17) (compO cs rs) := by
                            have h9 := HROW.out
                            rw [← hco] at h9 ⊢
                            exact ints_of_owns h9
                          have hlt : ∀ k, (Value.slice a17 rs.length c17).ownBlock = some k → w9.heap.size ≤ k := fun k hk => (HROW.out.lt k hk).1
                          have hszr2 := HF6.out.size
                          refine ⟨fpOf hb (.slice a13 N c13) vs2, a17, c17, by rw [hco]; rfl, ?_, ?_, ⟨_, _, hfin, rfl⟩, HFA.setCell (p := ⟨hb, 1, none⟩) (.inl (by simp [fpOf])) _, fun x hx => ?_⟩
                          · rw [hco]
                            refine hit.frm f9 (fun k hk hm => ?_)
                            rw [List.mem_singleton] at hm
                            have := hlt k hk
                            omega
                          · rw [hco]
                            intro k hk
                            have h1 := hlt k hk
                            refine ⟨by omega, fun hm => ?_⟩
                            simp only [fpOf, List.mem_cons, List.mem_append] at hm
                            rcases hm with h2 | h2 | h2
                            · omega
                            · have h3 := (HG13.out k (by simpa using h2)).2
                              omega
                            · have h3 := HBW.out k (HSUB.out k h2)
                              omega
                          · simp only [fpOf, List.mem_cons, List.mem_append] at hx ⊢
                            rcases hx with h2 | h2 | h2
                            · exact .inl (.inl h2)
                            · have h3 := (HG13.out x (by simpa using h2)).1
                              exact .inr (by omega)
                            · exact .inl (.inr (.inr (HSUB.out x h2)))

end Go.Proofs.Ytlpgonnionbkfaa
