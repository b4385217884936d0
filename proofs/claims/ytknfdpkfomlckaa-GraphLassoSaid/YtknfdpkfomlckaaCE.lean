/- Contract of cycle of the reference. -/
import Derived.Test.YtknfdpkfomlckaaCD
namespace Go.Proofs.Ytknfdpkfomlckaa
open Go.RowKit

theorem extL_len {E : Nat → List Nat} {K : Nat} (hE : ∀ v, (E v).length ≤ K) : ∀ (X : List (List Nat)), (extL E X).length ≤ K * X.length
  | [] => by simp [extL]
  | q :: X => by
    have ih := extL_len hE X
    have := hE (lastN q)
    rw [extL] at ih ⊢
    rw [List.flatMap_cons, List.length_append, List.length_map, List.length_cons, Nat.mul_add]
    omega
theorem esel_few2 {l : Lts} (hv : VLts l) (v : Nat) : (Esel l true v).length ≤ 262144 := by
  rcases Nat.lt_or_ge v l.length with h | h
  · obtain ⟨row, hrow⟩ : ∃ row, l[v]? = some row := ⟨_, List.getElem?_eq_getElem h⟩
    rw [esel_of hrow, List.length_map]
    have := sel_len row true
    have := (hv.row row (List.mem_of_getElem? hrow)).few
    omega
  · have : l.getD v [] = [] := by rw [List.getD_eq_getElem?_getD, List.getElem?_eq_none h]; rfl
    rw [Esel, this]
    simp [sel]
theorem Cv_few {l : Lts} (hv : VLts l) {t : Nat} (ht : t < l.length) : ∀ i, (Cv (Esel l true) t i).length ≤ 262144
  | 0 => by
    have := extL_len (esel_few2 hv) [[t]]
    rw [Cv]
    simpa using this
  | i + 1 => by
    have h1 := thin_few ((Cv_ok (esel_edge hv true) ht i).ext (esel_edge hv true))
    have := hv.few
    rw [Cv]
    omega
theorem fst_hit {G : Nat → Bool} {X : List (List Nat)} {k : Nat} {r : List Nat} (h : ∀ q ∈ X.take k, G (lastN q) = false) (hr : X[k]? = some r) (hg : G (lastN r) = true) : fstL G X = some r := by
  have hk : k < X.length := (List.getElem?_eq_some_iff.1 hr).1
  have hs : X = X.take k ++ r :: X.drop (k + 1) := by
    have hg2 : X[k] = r := by rw [List.getElem?_eq_getElem hk] at hr; simpa using hr
    rw [← hg2, List.getElem_cons_drop hk, List.take_append_drop]
  rw [fstL, hs, List.find?_append]
  have : (X.take k).find? (fun q => G (lastN q)) = none := List.find?_eq_none.2 (fun q hq => by rw [h q hq]; simp)
  rw [this, List.find?_cons_of_pos (p := fun q => G (lastN q)) hg]
  rfl
theorem fst_no {G : Nat → Bool} {X : List (List Nat)} {k : Nat} (h : ∀ q ∈ X.take k, G (lastN q) = false) (hk : X.length ≤ k) : fstL G X = none :=
  List.find?_eq_none.2 (fun q hq => by rw [h q (by rw [List.take_of_length_le hk]; exact hq)]; simp)
/-- One path of one state, in memory. -/
theorem Ps.one (w : World) (t : Nat) : Ps 0 ((w.alloc (.cells #[.int .i64 (t : Int)] 3)).alloc (.cells #[.slice (some ⟨w.heap.size, 0, none⟩) 1 1] 22)) (some ⟨w.heap.size + 1, 0, none⟩) 1 [[t]] [.slice (some ⟨w.heap.size, 0, none⟩) 1 1] := by
  refine ⟨?_, fun i q hi => ?_⟩
  · have := owns_made_full (w.alloc (.cells #[.int .i64 (t : Int)] 3)) 22 1 [.slice (some ⟨w.heap.size, 0, none⟩) 1 1] 1 rfl (by decide)
    simpa only [World.alloc, Array.size_push, List.length_cons, List.length_nil] using this
  · cases i with
    | zero =>
      simp only [List.getElem?_cons_zero, Option.some.injEq] at hi
      subst hi
      exact ⟨_, _, rfl, (owns_made_full w 3 1 [.int .i64 (t : Int)] 1 rfl (by decide)).alloc _⟩
    | succ i => simp at hi

def RCycEnd (c : List Nat) (w' : World) (e : Ending) : Prop :=
  ∃ (a : Option Addr) (cp : Nat), e = .returned (.slice a c.length cp) ∧ w'.ownsRow 0 3 1 (.slice a c.length cp) c.length (ints (natI c))

set_option linter.unusedSimpArgs false in
set_option maxRecDepth 100000 in
set_option maxHeartbeats 4000000 in
theorem rcycle_any (B0 : Nat) (a : Option Addr) (cap : Nat) (l : Lts) (t m x : Nat) (d : List Int) (w : World) (h : LAt B0 w a cap l) (hv : validB l = true) (ht : t < l.length)
    (hd : IsDist (Esel l true) l.length (fun v => v = t) d) (hm : leastF d (Esel l true t) = m) (hf : followL d m (Esel l true t) = x) (hx : x ∈ Esel l true t) (hxm : Tj.ix d x = m) :
    Calls Try.prog 72 #[.agg #[.slice a l.length cap], .int .i64 (t : Int)] w fun e w' => RCycEnd (t :: walkN (Esel l true) d m x) w' e ∧ Frm [] w w' := by
  have f0 : Frm [] w (w.alloc (.cells #[.slice a l.length cap] 25)) := (Frm.refl [] w).alloc _
  have hcut0 := h.cut
  clear h
  have h := hcut0
  clear hcut0
  have HB := Lib.hid (box1 w (.slice a l.length cap) 25)
  have HL0 := Lib.hid (h.nil f0 rfl)
  have HF0 := Lib.hid f0
  have hs0 : (w.alloc (.cells #[.slice a l.length cap] 25)).heap.size = w.heap.size + 1 := by simp only [World.alloc, Array.size_push]
  have HVB := Lib.hid hv
  have HV := Lib.hid (vlts_of hv)
  have hE := esel_edge (vlts_of hv) true
  have HE := Lib.hid hE
  have hfew := (vlts_of hv).few
  have hl := h.lt
  have hmn : m < l.length := by have := hd.bnd x (hE _ _ ht hx); omega
  have HHIT := Lib.hid (cv_hit hE hd ht hm hf hx hxm)
  have HNON : Hid (∀ i, i < m → fstL (fun v => v == t) (Cv (Esel l true) t i) = none) := Lib.hid (fun i hi => cv_none hE hd ht hm hi)
  have hp1 := Ps.one (w.alloc (.cells #[.slice a l.length cap] 25)) t
  have hf2 : Frm [] (w.alloc (.cells #[.slice a l.length cap] 25)) (((w.alloc (.cells #[.slice a l.length cap] 25)).alloc (.cells #[.int .i64 (t : Int)] 3)).alloc (.cells #[.slice (some ⟨(w.alloc (.cells #[.slice a l.length cap] 25)).heap.size, 0, none⟩) 1 1] 22)) := ((Frm.refl [] _).alloc _).alloc _
  have hpa := rpaths_any w.heap.size a cap l _ _ [[t]] _ 1 0 _ (HL0.out.nil hf2 rfl) hv hp1 (Lv_ok hE ht 0) rfl (by omega) (by simp)
  have HPA := Lib.hid hpa
  have HF2 := Lib.hid hf2
  clear h hv hd hm hf hx hxm hE f0 hp1 hf2 hpa
  go_enter Try.func72, Try.ntmps72
  go_wp2_with fail
  rw [hs0] at HPA HF2
  refine HPA.out.mono ?_
  rintro e1 w1 ⟨⟨a1, c1, xs1, rfl, hps1⟩, hf1⟩
  have HPS1 := Lib.hid hps1
  have HF1 := Lib.hid ((HF0.out.trans HF2.out (by simp)).trans hf1 (by simp))
  have HF1' := Lib.hid (HF2.out.trans hf1 (by simp))
  have HB1 := Lib.hid (HB.out.frm HF1'.out (by simp))
  have HL1 := Lib.hid (HL0.out.nil HF1'.out rfl)
  clear hps1 hf1
  go_wp2_with fail
  go_loopg [5, 6] m (fun q s5 s6 wr => ∃ (i : Nat) (X : List (List Nat)) (a5 : Option Addr) (c5 : Nat) (xs : List Value), q = m - i ∧ i ≤ m ∧ s5 = .slice a5 X.length c5 ∧ Hid (X = Cv (Esel l true) t i) ∧ Ps 0 wr a5 c5 X xs ∧ Frm [] w1 wr)
  case atStart => exact ⟨0, _, a1, c1, xs1, rfl, Nat.zero_le _, rfl, Lib.hid rfl, HPS1.out.mono (Nat.zero_le _), Frm.refl _ _⟩
  case round =>
    obtain ⟨i, X, a5, c5, xs, rfl, hi, rfl, HX, hps, hF⟩ := hrel
    obtain ⟨N, hN⟩ : ∃ N, N = i + 2 := ⟨_, rfl⟩
    obtain ⟨M, hM⟩ : ∃ M, M = i + 1 := ⟨_, rfl⟩
    have hok : LvOk l.length N X := by rw [HX.out, hN]; exact Cv_ok HE.out ht i
    have HOK := Lib.hid hok
    have hxl : X.length ≤ 262144 := by rw [HX.out]; exact Cv_few HV.out ht i
    have iX : (X.length : Int) ≤ 262144 := by omega
    have iN : (N : Int) ≤ 100000 := by omega
    have iM : (0 : Int) ≤ (M : Int) := by omega
    have iMN : (M : Int) < (N : Int) := by omega
    have iwr : IntKind.i64.wrap ((N : Int) - 1) = (M : Int) := by
      have : (N : Int) - 1 = (M : Int) := by omega
      rw [this]
      exact IntWalk.i64_in _ (by omega)
    have HNM : Hid (N = M + 1) := Lib.hid (by omega)
    have hN0 : 0 < N := by omega
    have hMN : M < N := by omega
    have hNb : N ≤ 100000 := by omega
    have HPS := Lib.hid hps
    have HF := Lib.hid hF
    have hN1 := Lib.hid hN
    clear hok hps hF hN hM
    go_wp2_with fail
    go_loopg [6] X.length (fun q s6 wr' => ∃ (k : Nat), q = X.length - k ∧ k ≤ X.length ∧ s6 = .int .i64 (k : Int) ∧ (∀ r ∈ X.take k, (lastN r == t) = false) ∧ Frm [] wr wr')
    case atStart => exact ⟨0, rfl, Nat.zero_le _, rfl, (fun r hr => by simp at hr), Frm.refl _ _⟩
    case round =>
      obtain ⟨k, rfl, hk, rfl, hno, hF2⟩ := hrel
      have HNO := Lib.hid hno
      have HF2 := Lib.hid hF2
      have HF7 := Lib.hid (HF.out.trans hF2 (by simp))
      have HPS7 := Lib.hid (HPS.out.frm hF2)
      have i4 : (0 : Int) ≤ (k : Int) := by omega
      clear hno hF2
      by_cases hkl : k < X.length
      · have i5 : (k : Int) < (X.length : Int) := by omega
        obtain ⟨r, hr⟩ : ∃ r, X[k]? = some r := ⟨_, List.getElem?_eq_getElem hkl⟩
        have hrl := HOK.out.len r (List.mem_of_getElem? hr)
        obtain ⟨u, hu⟩ : ∃ u, lastN r = u := ⟨_, rfl⟩
        obtain ⟨gp, gq, cq, rfl, hcp, hoq, hcq⟩ := HPS7.out.at hr (by omega)
        have hM' : N - 1 = M := by have := HNM.out; omega
        rw [hrl, hu, hM'] at hcq
        rw [hrl] at hcp hoq
        have hcap : N ≤ cq := by
          obtain ⟨g', c', he, h9, _, _⟩ := owns_some hoq hN0
          obtain ⟨_, rfl⟩ : some (⟨gq, 0, none⟩ : Addr) = some ⟨g', 0, none⟩ ∧ cq = c' := by simpa using he
          exact h9
        have icap : (M : Int) ≤ (cq : Int) := by omega
        have HOQ := Lib.hid hoq
        have HR := Lib.hid hr
        have HRL := Lib.hid hrl
        have HU := Lib.hid hu
        clear hr hrl hu hoq hM'
        by_cases hut : u = t
        · have hfst := fst_hit (G := fun v => v == t) HNO.out HR.out (by rw [HU.out]; simpa using hut)
          have hrm : r = (t :: walkN (Esel l true) d m x) ++ [t] := by
            rcases Nat.lt_or_ge i m with h9 | h9
            · have := HNON.out i h9
              rw [← HX.out, hfst] at this
              cases this
            · obtain rfl : i = m := by omega
              rw [HX.out, HHIT.out] at hfst
              simpa using hfst.symm
          have hcl : (t :: walkN (Esel l true) d m x).length = M := by
            have h1 := HRL.out
            rw [hrm, List.length_append] at h1
            have := HNM.out
            simp only [List.length_cons, List.length_nil] at h1 ⊢
            omega
          have hpre := owns_prefix HOQ.out (m := M) (by omega) (by simp)
          have htk : (ints (natI r)).take (M * 1) = ints (natI (t :: walkN (Esel l true) d m x)) := by
            rw [Nat.mul_one, hrm, natI, List.map_append, ints, List.map_append, List.take_append_of_le_length (by rw [List.length_map, List.length_map, hcl]; exact Nat.le_refl _), List.take_of_length_le (by rw [List.length_map, List.length_map, hcl]; exact Nat.le_refl _)]
            rfl
          rw [htk] at hpre
          have HEND : Hid (∀ w', Frm [] wr w' → RCycEnd (t :: walkN (Esel l true) d m x) w' (.returned (.slice (some ⟨gq, 0, none⟩) M cq))) := Lib.hid (fun w' hf' => ⟨some ⟨gq, 0, none⟩, cq, by rw [hcl], by rw [hcl]; exact ownsB_frm hpre hf' (by simp)⟩)
          subst hut
          clear hfst hrm hcl hpre htk
          go_wp2_with fail
          go_quiet (fail)
          go_wp2_with fail
          go_quiet (fail)
          go_wp2_with fail
          go_ret
          exact ⟨HEND.out _ (((Frm.refl [] wr).drewN _).drewN _), ((HF1.out.trans HF7.out (by simp)).drewN _).drewN _⟩
        · have hub : ((u : Int) == (t : Int)) = false := by simp only [beq_eq_false_iff_ne, ne_eq]; omega
          have HNO2 : Hid (∀ r ∈ X.take (k + 1), (lastN r == t) = false) := Lib.hid (fun r' hr' => by
            rw [List.take_add_one, HR.out, Option.toList_some] at hr'
            rcases List.mem_append.1 hr' with h9 | h9
            · exact HNO.out r' h9
            · rw [List.mem_singleton] at h9
              rw [h9, HU.out]
              simpa using hut)
          go_wp2_with fail
          go_quiet (fail)
          go_wp2_with fail
          go_roundg (X.length - (k + 1))
          case rel => exact ⟨k + 1, rfl, hkl, by go_num, HNO2.out, HF2.out.drewN _⟩
          case measure => omega
      · have i5 : ¬ (k : Int) < (X.length : Int) := by omega
        have hnone := fst_no (G := fun v => v == t) HNO.out (show X.length ≤ k by omega)
        have him : i < m := by
          rcases Nat.lt_or_ge i m with h9 | h9
          · exact h9
          · obtain rfl : i = m := by omega
            rw [HX.out, HHIT.out] at hnone
            cases hnone
        have cb7 := HF7.out.cell (HB1.out.cell (i := 0) rfl) (by simp)
        have HL7 := Lib.hid (HL1.out.nil HF7.out rfl)
        obtain ⟨wn, hwne⟩ : ∃ x, x = wr := ⟨wr, rfl⟩
        subst hwne
        have HF7W := Lib.hid HF7.out
        have hpb := rpaths_any w.heap.size a cap l a5 c5 X xs N M wn HL7.out HVB.out HPS7.out HOK.out HNM.out hNb hxl
        clear hnone
        go_wp2_with fail
        refine hpb.mono ?_
        rintro e2 w2 ⟨⟨a2, c2, xs2, rfl, hps2⟩, hf2⟩
        have hxl2 := extL_len (esel_few2 HV.out) X
        have hth := rthin_any a2 c2 (extL (Esel l true) X) xs2 (N + 1) N l.length w2 (hps2.mono (Nat.zero_le _)) (HOK.out.ext HE.out) rfl (by omega) hfew (by have := Nat.mul_le_mul_left 262144 hxl; omega)
        have HF2' := Lib.hid (HF7W.out.trans hf2 (by simp))
        clear hpb hps2 hf2 hxl2
        go_wp2_with fail
        refine hth.mono ?_
        rintro e3 w3 ⟨⟨a3, c3, xs3, rfl, hps3⟩, hf3⟩
        have HPS3 := Lib.hid (hps3.mono (C := 0) (Nat.zero_le _))
        have HF3 := Lib.hid (HF2'.out.trans hf3 (by simp))
        have HX3 : Hid (thinL (extL (Esel l true) X) = Cv (Esel l true) t (i + 1)) := Lib.hid (by rw [HX.out]; rfl)
        clear hth hps3 hf3
        go_wp2_with fail
        go_roundg (m - (i + 1))
        case rel => exact ⟨i + 1, _, a3, c3, xs3, rfl, him, rfl, HX3, HPS3.out, HF3.out⟩
        case measure => omega

end Go.Proofs.Ytknfdpkfomlckaa
