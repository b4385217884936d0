/- Contract of Lasso of the reference. -/
import Derived.Test.YtknfdpkfomlckaaCE
namespace Go.Proofs.Ytknfdpkfomlckaa
open Go.RowKit

set_option linter.unusedSimpArgs false in
set_option maxRecDepth 100000 in
set_option maxHeartbeats 4000000 in
theorem rlasso_any (B0 : Nat) (a : Option Addr) (cap : Nat) (l : Lts) (s : Int) (w : World) (h : LAt B0 w a cap l)
    (hex : ∀ k : Nat, s = k → k < l.length → validB l = true → Div (Esel l true) k → ∃ p c, IsLas (Esel l true) l.length k p c) :
    Calls Try.prog 47 #[.agg #[.slice a l.length cap], .int .i64 s] w fun e w' => LassoEnd 0 l s w' e ∧ Frm [] w w' := by
  have f0 : Frm [] w (w.alloc (.cells #[.slice a l.length cap] 25)) := (Frm.refl [] w).alloc _
  have hcut0 := h.cut
  clear h
  have h := hcut0
  clear hcut0
  have HB := Lib.hid (box1 w (.slice a l.length cap) 25)
  have HL0 := Lib.hid (h.nil f0 rfl)
  have hva := refValid_any w.heap.size a cap l _ (h.nil f0 rfl)
  have hl := h.lt
  have HEX := Lib.hid hex
  clear h hex
  go_enter Try.func47, Try.ntmps47
  go_wp2_with fail
  refine hva.mono ?_
  rintro e1 w1 ⟨rfl, hf1⟩
  clear hva
  have F1 := f0.trans hf1 (by simp)
  have hb1 := (HB.out.frm hf1 (by simp)).cell (i := 0) rfl
  cases hv : validB l with
  | false =>
    have HR : Hid (LassoEnd 0 l s w1 (.returned (.tuple #[.slice none 0 0, .slice none 0 0, .bool false]))) := Lib.hid (LassoEnd.none (by rw [hv]; simp))
    clear hv
    go_wp2_with fail
    go_ret3
    exact ⟨HR.out, F1⟩
  | true =>
    have HVB := Lib.hid hv
    have HV := Lib.hid (vlts_of hv)
    have hfew := (vlts_of hv).few
    have i2 : (l.length : Int) ≤ 16384 := by omega
    have HF1 := Lib.hid F1
    have HL1 := Lib.hid (HL0.out.nil hf1 rfl)
    have HB1 := Lib.hid (HB.out.frm hf1 (by simp))
    have hsz1 := hf1.size
    simp only [World.alloc, Array.size_push] at hsz1
    by_cases hs0 : s < 0
    · have HR : Hid (LassoEnd 0 l s w1 (.returned (.tuple #[.slice none 0 0, .slice none 0 0, .bool false]))) := Lib.hid (LassoEnd.none (by
        rintro ⟨_, k, rfl, hk, _⟩
        omega))
      clear hv
      go_wp2_with fail
      go_ret3
      exact ⟨HR.out, F1⟩
    · by_cases hs1 : (l.length : Int) ≤ s
      · have HR : Hid (LassoEnd 0 l s w1 (.returned (.tuple #[.slice none 0 0, .slice none 0 0, .bool false]))) := Lib.hid (LassoEnd.none (by
          rintro ⟨_, k, rfl, hk, _⟩
          omega))
        clear hv
        go_wp2_with fail
        go_ret3
        exact ⟨HR.out, F1⟩
      · obtain ⟨n, rfl⟩ : ∃ n : Nat, s = n := ⟨s.toNat, by omega⟩
        have hn : n < l.length := by omega
        have i4 : (0 : Int) ≤ (n : Int) := by omega
        have i5 : (n : Int) < (l.length : Int) := by omega
        have hdv := rdiv_any w.heap.size a cap l w1 HL1.out
        clear hv hs0 hs1 F1 hf1
        go_wp2_with fail
        refine hdv.mono ?_
        rintro e2 w2 ⟨h2, hf2⟩
        rw [DivEnd, if_pos HVB.out] at h2
        obtain ⟨gd, bs, rfl, hown, hdiv⟩ := h2
        have hgd := (hown.lt gd rfl).2
        obtain ⟨b, hb⟩ : ∃ b, bs[n]? = some b := ⟨_, List.getElem?_eq_getElem (by rw [hdiv.len]; exact hn)⟩
        have cd := (own_rowg2 hown).cell (bools_get hb)
        have hbd : b = true ↔ Div (Esel l true) n := by
          have := hdiv.iff n hn
          rw [hb] at this
          simpa using this
        have HBD := Lib.hid hbd
        have HF2 := Lib.hid (HF1.out.trans hf2 (by simp))
        have HB2 := Lib.hid (HB1.out.frm hf2 (by simp))
        have HL2 := Lib.hid (HL1.out.nil hf2 rfl)
        have hsz2 := hf2.size
        clear hdv hb1 hown hdiv hb hf2 hbd
        cases b with
        | false =>
          have HR : Hid (LassoEnd 0 l n w2 (.returned (.tuple #[.slice none 0 0, .slice none 0 0, .bool false]))) := Lib.hid (LassoEnd.none (by
            rintro ⟨_, k, hk, hk2, hdv⟩
            obtain rfl : n = k := by omega
            have := HBD.out.2 hdv
            cases this))
          go_wp2_with fail
          go_ret3
          exact ⟨HR.out, HF2.out⟩
        | true =>
          obtain ⟨p, c, ⟨d, d', K, t, x, m, hd, hK, ht, hp, hd', hm, hf, hx, hxm, hc⟩⟩ := HEX.out n rfl hn HVB.out (HBD.out.1 rfl)
          have hE := esel_edge HV.out true
          have HE := Lib.hid hE
          obtain ⟨G, hG0⟩ : ∃ G : Nat → Bool, ∀ v, G v = true ↔ (v < l.length ∧ OnC (Esel l true) v) := by
            classical
            exact ⟨fun v => decide (v < l.length ∧ OnC (Esel l true) v), fun v => by simp⟩
          have hG1 : ∀ v, v < l.length → (G v = true ↔ (v < l.length ∧ OnC (Esel l true) v)) := fun v _ => hG0 v
          have hG2 : ∀ v, G v = true → v < l.length := fun v h9 => ((hG0 v).1 h9).1
          have HG := Lib.hid hG0
          have HHIT := Lib.hid (lv_hit hE hG1 hG2 hd hn hK)
          have HNON : Hid (∀ i, i < K → fstL G (Lv (Esel l true) n i) = none) := Lib.hid (fun i hi => lv_none hG1 hG2 hd hn hK hi)
          have hKn : K < l.length := by have := hd.bnd n hn; omega
          have hend := endN_ok hE hd K n hn (by omega)
          rw [← ht] at hend HHIT
          have htn := hend.1
          have HPC : Hid (IsLas (Esel l true) l.length n p c) := Lib.hid ⟨d, d', K, t, x, m, hd, hK, ht, hp, hd', hm, hf, hx, hxm, hc⟩
          have HC := Lib.hid (show ∀ (w9 : World), LAt w.heap.size w9 a cap l → Calls Try.prog 72 #[.agg #[.slice a l.length cap], .int .i64 (t : Int)] w9 fun e w' => RCycEnd c w' e ∧ Frm [] w9 w' from fun w9 hl9 => by
            rw [hc]
            exact rcycle_any w.heap.size a cap l t m x d' w9 hl9 HVB.out htn hd' hm hf hx hxm)
          rw [← hp] at HHIT
          have HPL : Hid (p.length = K + 1) := Lib.hid (by rw [hp, List.length_append, walkN_len]; rfl)
          have HT := Lib.hid htn
          have HPE : Hid (lastN p = t) := Lib.hid (by rw [hp, lastN_snoc])
          have hp1 := Ps.one w2 n
          have HPS0 := Lib.hid hp1
          have HF2' := Lib.hid (((Frm.refl [] w2).alloc (.cells #[.int .i64 (n : Int)] 3)).alloc (.cells #[.slice (some ⟨w2.heap.size, 0, none⟩) 1 1] 22))
          obtain ⟨w3, hw3⟩ : ∃ y, y = (w2.alloc (.cells #[.int .i64 (n : Int)] 3)).alloc (.cells #[.slice (some ⟨w2.heap.size, 0, none⟩) 1 1] 22) := ⟨_, rfl⟩
          rw [← hw3] at HPS0 HF2'
          have HW3 := Lib.hid hw3
          have HF3 := Lib.hid (HF2.out.trans HF2'.out (by simp))
          have HB3 := Lib.hid (HB2.out.frm HF2'.out (by simp))
          have HL3 := Lib.hid (HL2.out.nil HF2'.out rfl)
          clear hd hK ht hp hd' hm hf hx hxm hc hE hG0 hG1 hG2 hend hp1 hw3 htn
          go_wp2_with fail
          rw [← HW3.out]
          have HN := Lib.hid hn
          clear hn i4 i5
          rename_i h99
          clear h99
          go_loopg [7, 8, 9] K (fun q s7 s8 s9 wr => ∃ (i : Nat) (X : List (List Nat)) (a5 : Option Addr) (c5 : Nat) (xs : List Value), q = K - i ∧ i ≤ K ∧ s7 = .slice a5 X.length c5 ∧ Hid (X = Lv (Esel l true) n i) ∧ Ps 0 wr a5 c5 X xs ∧ Frm [] w3 wr)
          case atStart => exact ⟨0, [[n]], some ⟨w2.heap.size + 1, 0, none⟩, 1, _, rfl, Nat.zero_le _, rfl, Lib.hid rfl, HPS0.out, Frm.refl _ _⟩
          case round =>
            obtain ⟨i, X, a5, c5, xs, rfl, hi, rfl, HX, hps, hF⟩ := hrel
            obtain ⟨N, hN⟩ : ∃ N, N = i + 1 := ⟨_, rfl⟩
            obtain ⟨M, hM⟩ : ∃ M, M = i := ⟨_, rfl⟩
            have hok : LvOk l.length N X := by rw [HX.out, hN]; exact Lv_ok HE.out HN.out i
            have HOK := Lib.hid hok
            have hxl : X.length ≤ 16384 := by have := Lv_few HE.out HN.out i; rw [← HX.out] at this; omega
            have iX : (X.length : Int) ≤ 16384 := by omega
            have iN : (N : Int) ≤ 100000 := by omega
            have iM : (0 : Int) ≤ (M : Int) := by omega
            have iMN : (M : Int) < (N : Int) := by omega
            have iwr : IntKind.i64.wrap ((N : Int) - 1) = (M : Int) := by
              have : (N : Int) - 1 = (M : Int) := by omega
              rw [this]
              exact IntWalk.i64_in _ (by omega)
            have HNM : Hid (N = M + 1) := Lib.hid (by omega)
            have HNI : Hid (N = i + 1) := Lib.hid hN
            have hN0 : 0 < N := by omega
            have hMN : M < N := by omega
            have hNb : N ≤ 100000 := by omega
            have HPS := Lib.hid hps
            have HF := Lib.hid hF
            clear hok hps hF hN hM
            go_wp2_with fail
            go_loopg [8, 9] X.length (fun q s8 s9 wr' => ∃ (k : Nat), q = X.length - k ∧ k ≤ X.length ∧ s8 = .int .i64 (k : Int) ∧ (∀ r ∈ X.take k, G (lastN r) = false) ∧ Frm [] wr wr')
            case atStart => exact ⟨0, rfl, Nat.zero_le _, rfl, (fun r hr => by simp at hr), Frm.refl _ _⟩
            case round =>
              obtain ⟨k, rfl, hk, rfl, hno, hF2⟩ := hrel
              have HNO := Lib.hid hno
              have HF2r := Lib.hid hF2
              have HF7 := Lib.hid (HF.out.trans hF2 (by simp))
              have HPS7 := Lib.hid (HPS.out.frm hF2)
              have i6 : (0 : Int) ≤ (k : Int) := by omega
              clear hno hF2
              by_cases hkl : k < X.length
              · have i7 : (k : Int) < (X.length : Int) := by omega
                obtain ⟨r, hr⟩ : ∃ r, X[k]? = some r := ⟨_, List.getElem?_eq_getElem hkl⟩
                have hrl := HOK.out.len r (List.mem_of_getElem? hr)
                have hru := HOK.out.rng r (List.mem_of_getElem? hr)
                obtain ⟨u, hu⟩ : ∃ u, lastN r = u := ⟨_, rfl⟩
                obtain ⟨gp, gq, cq, rfl, hcp, hoq, hcq⟩ := HPS7.out.at hr (by omega)
                have hM' : N - 1 = M := by have := HNM.out; omega
                rw [hrl, hu, hM'] at hcq
                rw [hu] at hru
                rw [hrl] at hcp hoq
                obtain ⟨wn, hwne⟩ : ∃ x, x = wr := ⟨wr, rfl⟩
                subst hwne
                have HOQ := Lib.hid hoq
                have HR := Lib.hid hr
                have HRL := Lib.hid hrl
                have HU := Lib.hid hu
                have HFW := Lib.hid (HF3.out.trans HF7.out (by simp))
                have HF7D := Lib.hid (HF7.out.drewN 1)
                have CB7 := Lib.hid (HF7.out.cell (HB3.out.cell (i := 0) rfl) (by simp))
                have HL7 := Lib.hid (HL3.out.nil HF7.out rfl)
                have CP := Lib.hid hcp
                have gp7 := World.block_lt_of_cell? _ _ hcp
                have gw7 := World.block_lt_of_cell? _ _ CB7.out
                simp only at gp7 gw7
                have HON := Lib.hid (fun (w9 : World) (hw9 : Frm [] wn w9) => onc_any w.heap.size a cap l u w9 (HL7.out.nil hw9 rfl) HVB.out hru)
                have HRU := Lib.hid hru
                clear hr hrl hu hoq hM' hru
                go_wp2_with fail
                go_quiet (fail)
                have cb7 := CB7.out
                go_wp2_with fail
                refine (HON.out _ ((Frm.refl [] wn).drewN _)).mono ?_
                rintro e4 w4 ⟨hb4, hf4⟩
                obtain ⟨b, rfl, hb⟩ := hb4
                have HBI := Lib.hid hb
                have HF4 := Lib.hid (((Frm.refl [] wn).drewN _).trans hf4 (by simp))
                clear hb hf4
                have hsz4 := HF4.out.size
                cases b with
                | false =>
                  have HNO2 : Hid (∀ r ∈ X.take (k + 1), G (lastN r) = false) := Lib.hid (fun r' hr' => by
                    rw [List.take_add_one, HR.out, Option.toList_some] at hr'
                    rcases List.mem_append.1 hr' with h9 | h9
                    · exact HNO.out r' h9
                    · rw [List.mem_singleton] at h9
                      rw [h9, HU.out]
                      cases hG9 : G u with
                      | false => rfl
                      | true => exact absurd (HBI.out.2 ((HG.out u).1 hG9).2) (by simp))
                  have HF2n := Lib.hid (HF2r.out.trans HF4.out (by simp))
                  go_wp2_with fail
                  go_roundg (X.length - (k + 1))
                  case rel => exact ⟨k + 1, rfl, hkl, by go_num, HNO2.out, HF2n.out⟩
                  case measure => omega
                | true =>
                  have hgu : G (lastN r) = true := by rw [HU.out]; exact (HG.out u).2 ⟨HRU.out, HBI.out.1 rfl⟩
                  have hfst := fst_hit HNO.out HR.out hgu
                  have hiK : i = K := by
                    rcases Nat.lt_or_ge i K with h9 | h9
                    · have := HNON.out i h9
                      rw [← HX.out, hfst] at this
                      cases this
                    · omega
                  have hrp : r = p := by
                    rw [HX.out, hiK, HHIT.out] at hfst
                    simpa using hfst.symm
                  have hut : u = t := by
                    rw [← HU.out, hrp, HPE.out]
                  have HU2 := Lib.hid hut
                  have CP4 := Lib.hid (HF4.out.cell CP.out (by simp))
                  have CB4 := Lib.hid (HF4.out.cell CB7.out (by simp))
                  have HL4 := Lib.hid (HL7.out.nil HF4.out rfl)
                  have HOQ4 : Hid (w4.ownsRow 0 3 1 (.slice (some ⟨gq, 0, none⟩) N cq) N (ints (natI p))) := Lib.hid (by rw [← hrp]; exact ownsB_frm HOQ.out HF4.out (by simp))
                  have HPN : Hid (p.length = N) := Lib.hid (by rw [← hrp, HRL.out])
                  have HCU := HC
                  rw [← hut] at HCU
                  have HD4 : Hid (Frm [] w4 w4.drew) := Lib.hid ((Frm.refl [] w4).drew)
                  clear hgu hfst hrp hut
                  go_wp2_with fail
                  go_region_held3 (fun w' => w'.cell? ⟨w.heap.size, 0, none⟩ = some (.slice a l.length cap) ∧ w'.cell? ⟨gp, k, none⟩ = some (.slice (some ⟨gq, 0, none⟩) N cq)) (first | exact ⟨HD4.out.cell CB4.out (by simp), HD4.out.cell CP4.out (by simp)⟩ | exact ⟨hf5.cell (HD4.out.cell CB4.out (by simp)) (by simp), hf5.cell (HD4.out.cell CP4.out (by simp)) (by simp)⟩) (first | (go_at_call 72; (with_reducible refine (HCU.out _ (HL4.out.nil HD4.out rfl)).mono ?_); rintro e5 w5 ⟨⟨a5', c5', rfl, hc5⟩, hf5⟩))
                  go_wp2_with fail
                  have hf45 := HD4.out.trans hf5 (by simp)
                  have HLI : Hid (LassoIs (Esel l true) l.length (validB l) (n : Int) p c true) := Lib.hid ⟨fun _ => ⟨HVB.out, n, rfl, HN.out, HBD.out.1 (by first | trivial | rfl), HPC.out⟩, fun h9 => by cases h9⟩
                  go_ret3
                  exact ⟨LassoEnd.some (some ⟨gq, 0, none⟩) cq a5' c5' p c N c.length HPN.out rfl (ownsB_frm HOQ4.out hf45 (by simp)) hc5 HLI.out, (HFW.out.trans HF4.out (by simp)).trans hf45 (by simp)⟩
              · have i7 : ¬ (k : Int) < (X.length : Int) := by omega
                have hnone := fst_no HNO.out (show X.length ≤ k by omega)
                have hik : i < K := by
                  rcases Nat.lt_or_ge i K with h9 | h9
                  · exact h9
                  · obtain rfl : i = K := by omega
                    rw [HX.out, HHIT.out] at hnone
                    cases hnone
                have cb7 := HF7.out.cell (HB3.out.cell (i := 0) rfl) (by simp)
                have HL7 := Lib.hid (HL3.out.nil HF7.out rfl)
                obtain ⟨wn, hwne⟩ : ∃ x, x = wr := ⟨wr, rfl⟩
                subst hwne
                have HF7W := Lib.hid HF7.out
                have hpb := rpaths_any w.heap.size a cap l a5 c5 X xs N M wn HL7.out HVB.out HPS7.out HOK.out HNM.out hNb (by omega)
                clear hnone
                go_wp2_with fail
                refine hpb.mono ?_
                rintro e4 w4 ⟨⟨a2, c2, xs2, rfl, hps2⟩, hf4⟩
                have hxl2 := extL_len (esel_few2 HV.out) X
                have hth := rthin_any a2 c2 (extL (Esel l true) X) xs2 (N + 1) N l.length w4 (hps2.mono (Nat.zero_le _)) (HOK.out.ext HE.out) rfl (by omega) hfew (by have := Nat.mul_le_mul_left 262144 hxl; omega)
                have HF4' := Lib.hid (HF7W.out.trans hf4 (by simp))
                clear hpb hps2 hf4 hxl2
                go_wp2_with fail
                refine hth.mono ?_
                rintro e5 w5 ⟨⟨a3, c3, xs3, rfl, hps3⟩, hf5⟩
                have HPS3 := Lib.hid (hps3.mono (C := 0) (Nat.zero_le _))
                have HF5 := Lib.hid (HF4'.out.trans hf5 (by simp))
                have HX3 : Hid (thinL (extL (Esel l true) X) = Lv (Esel l true) n (i + 1)) := Lib.hid (by rw [HX.out]; rfl)
                clear hth hps3 hf5
                go_wp2_with fail
                go_roundg (K - (i + 1))
                case rel => exact ⟨i + 1, _, a3, c3, xs3, rfl, hik, rfl, HX3, HPS3.out, HF5.out⟩
                case measure => omega

end Go.Proofs.Ytknfdpkfomlckaa
