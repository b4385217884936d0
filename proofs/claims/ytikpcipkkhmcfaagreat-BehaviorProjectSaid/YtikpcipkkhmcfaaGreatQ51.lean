/- Texts FI, FP, WH, FQ. -/
import Derived.Test.YtikpcipkkhmcfaaGreatQ48
import Derived.Test.YtikpcipkkhmcfaaGreatQ50
import Derived.Test.YtikpcipkkhmcfaaGreatQ49
import Derived.Deep.DeepCutAuto
import Derived.Test.YtikpcipkkhmcfaaGreatQ42
import Derived.Test.YtikpcipkkhmcfaaGreatQ07
import Derived.Test.YtikpcipkkhmcfaaGreatQ44
import Derived.Test.YtikpcipkkhmcfaaGreatQ36
/- The reference's Valid of behaviors. -/
namespace Go.Proofs.YtikpcipkkhmcfaaGreat.Beh
open Go.Shelf Go.RowKit Go.Lib Go.Sort Go.Maps Go.Proofs.YtikpcipkkhmcfaaGreat Go.Proofs.YtikpcipkkhmcfaaGreat.Ind

/-- What is known after the first i entries. -/
structure RvTo (b : List En) (i : Nat) : Prop where
 vto : VbTo b i
 pre : ∀ a x, a < i → b[a]? = some x → x.1 ≠ [] → ∃ y ∈ b, y.1 = x.1.dropLast
theorem rvTo_zero (b : List En) : RvTo b 0 := ⟨vbTo_zero b, by omega⟩
theorem RvTo.next {b : List En} {i : Nat} {x : En} (h : RvTo b i) (hx : b[i]? = some x) (h1 : EntOk x) (h2 : ∀ p y, i = p + 1 → b[p]? = some y → ltT y.1 x.1 = true) (h3 : x.1 ≠ [] → ∃ y ∈ b, y.1 = x.1.dropLast) : RvTo b (i + 1) := by
 refine ⟨h.vto.next hx h1 h2, fun a z ha hz hne => ?_⟩
 by_cases he : a = i
 ·subst he; rw [hx] at hz; cases hz; exact h3 hne
 ·exact h.pre a z (by omega) hz hne
theorem RvTo.vb {b : List En} (h : RvTo b b.length) (h0 : ∃ p, b[0]? = some p ∧ p.1 = []) : VB b :=
 h.vto.vb h0 (fun x hx hne => by
  obtain ⟨a, ha⟩ := List.getElem?_of_mem hx
  exact h.pre a x (List.getElem?_eq_some_iff.1 ha).1 ha hne)
theorem findE_isSome {b : List En} {t : List Int} : (∃ x, findE b t = some x) ↔ ∃ y ∈ b, y.1 = t := by
 constructor
 ·rintro ⟨x, hx⟩
  exact ⟨x, (findE_mem hx).1, (findE_mem hx).2⟩
 ·rintro ⟨y, hy, e⟩
  cases hf : findE b t with
  | some x => exact ⟨x, rfl⟩
  | none => exact absurd e (findE_none.1 hf y hy)
set_option linter.unusedSimpArgs false in
set_option maxRecDepth 100000 in
set_option maxHeartbeats 8000000 in
theorem refValidB_any {F : List Nat} (w : World) (v : Value) (b : List En) (h : BehAt w F v b) :
  Calls Tryz.prog 23 #[v] w fun e w' => e = .returned (.bool (vbB b)) ∧ Frm [] w w' := by
 have l1 := beh_few h
 obtain ⟨va, vc, rfl⟩ := h.shape
 by_cases hb0 : b.length = 0
 ·have HN : Hid (vbB b = false) := Lib.hid (vbB_no (fun hv => by
   obtain ⟨p, hp, _⟩ := hv.head
   have := (List.getElem?_eq_some_iff.1 hp).1
   omega))
  have i0 : ((b.length : Int) == 0) = true := by rw [beq_iff_eq]; omega
  clear h hb0
  go_enter Tryz.func23, Tryz.ntmps23
  go_wp2_with fail
  go_ret
  exact ⟨by rw [HN.out]; rfl, Frm.refl _ _⟩
 have HAT : Hid (∀ W, Frm [] w W → ∀ (i : Nat) (x : En), b[i]? = some x → ∃ b1 o1 ta tc la lc, va = some ⟨b1, o1, none⟩ ∧ W.cell? ⟨b1, o1 + i * 3, none⟩ = some (.slice ta x.1.length tc) ∧ W.cell? ⟨b1, o1 + i * 3 + 1, none⟩ = some (.slice la x.2.1.length lc) ∧ W.cell? ⟨b1, o1 + i * 3 + 2, none⟩ = some (.bool x.2.2) ∧ RowV W F (.slice ta x.1.length tc) x.1.length 1 (ints x.1) ∧ SetsAt W F (.slice la x.2.1.length lc) x.2.1) := Lib.hid fun W hf i x hx => by
  obtain ⟨b1, o1, d1, ta, tc, la, lc, e1, x0, x1, x2, xt, xl⟩ := h.at_ hx
  obtain ⟨rfl, rfl⟩ : va = some ⟨b1, o1, none⟩ ∧ vc = d1 := by simpa using e1
  exact ⟨b1, o1, ta, tc, la, lc, rfl, hf.cell x0 (by simp), by rw [Nat.add_assoc]; exact hf.cell x1 (by simp), by rw [Nat.add_assoc]; exact hf.cell x2 (by simp), xt.nil hf, xl.nil hf⟩
 have H := Lib.hid h
 have i0 : ((b.length : Int) == 0) = false := beq_eq_false_iff_ne.2 (by omega)
 have i00 : (0 : Int) < (b.length : Int) := by omega
 obtain ⟨y0, hy0⟩ : ∃ y, b[0]? = some y := ⟨_, List.getElem?_eq_getElem (by omega)⟩
 obtain ⟨b1, o1, ta0, tc0, _, _, rfl, z0, _, _, zt, _⟩ := HAT.out w (Frm.refl _ _) 0 y0 hy0
 rw [Nat.zero_mul, Nat.add_zero] at z0
 have lz := zt.rd.lt
 have HY0 := Lib.hid hy0
 clear h zt hy0
 by_cases ht0 : 0 < y0.1.length
 ·have i1 : ((y0.1.length : Int) != 0) = true := by rw [bne_iff_ne]; omega
  have HN : Hid (vbB b = false) := Lib.hid (vbB_no (fun hv => by
   obtain ⟨p, hp, h9⟩ := hv.head
   rw [HY0.out] at hp
   cases hp
   rw [h9] at ht0
   simp at ht0))
  clear ht0
  go_enter Tryz.func23, Tryz.ntmps23
  go_wp2_with fail
  go_ret
  exact ⟨by rw [HN.out]; rfl, Frm.refl _ _⟩
 have i1 : ((y0.1.length : Int) != 0) = false := by rw [bne_eq_false_iff_eq]; omega
 have HH : Hid (∃ p, b[0]? = some p ∧ p.1 = []) := Lib.hid ⟨y0, HY0.out, List.eq_nil_of_length_eq_zero (by omega)⟩
 clear ht0 HY0
 go_enter Tryz.func23, Tryz.ntmps23
 go_wp2_with fail
 clear z0 i1 lz
 go_loopg [3] b.length (fun q t3 wr => ∃ (i : Nat), q = b.length - i ∧ i ≤ b.length ∧ t3 = .int .i64 i ∧ RvTo b i ∧ Frm [] w wr)
 case atStart => exact ⟨0, rfl, Nat.zero_le _, rfl, rvTo_zero _, Frm.refl _ _⟩
 case round =>
  obtain ⟨i, hq, hi, rfl, hd, hF⟩ := hrel
  have HQ := Lib.hid hq
  have HF := Lib.hid hF
  have HD := Lib.hid hd
  have i4 : (0 : Int) ≤ (i : Int) := by omega
  clear hq hF hd
  by_cases hlt : i < b.length
  ·have i5 : (i : Int) < (b.length : Int) := by omega
   obtain ⟨x, hx⟩ : ∃ x, b[i]? = some x := ⟨_, List.getElem?_eq_getElem hlt⟩
   obtain ⟨b', o', ta, tc, la, lc, e9, x0, x1, _, xt, xl⟩ := HAT.out wr HF.out i x hx
   obtain ⟨rfl, rfl⟩ : b1 = b' ∧ o1 = o' := by simpa using e9
   have HX := Lib.hid hx
   have lt9 := xt.rd.lt
   have ll9 := sets_few xl
   have hxc : x.1.length ≤ tc := xt.rd.le
   have XT : Hid (∀ W, Frm [] wr W → RowV W F (.slice ta x.1.length tc) x.1.length 1 (ints x.1)) := Lib.hid fun W hf => xt.nil hf
   have XL : Hid (∀ W, Frm [] wr W → SetsAt W F (.slice la x.2.1.length lc) x.2.1) := Lib.hid fun W hf => xl.nil hf
   have HAN : Hid (∀ W, Frm [] wr W → Calls Tryz.prog 49 #[.slice la x.2.1.length lc] W fun e w' => e = .returned (.bool (antiB x.2.1)) ∧ Frm [] W w') := Lib.hid fun W hf => antichain_any W _ _ (xl.nil hf)
   have C1 : Hid (∀ W, Frm [] wr W → W.cell? ⟨b1, o1 + i * 3 + 1, none⟩ = some (.slice la x.2.1.length lc)) := Lib.hid fun W hf => hf.cell x1 (by simp)
   clear xt xl e9 hx
   go_upto_region 7 with fail
   go_cut [58] (fun s58 wx => ∃ bb : Bool, s58 = .bool bb ∧ (bb = true → ¬ VB b) ∧ (bb = false → x.1.length ≤ 24 ∧ antiB x.2.1 = true ∧ ∀ p y, i = p + 1 → b[p]? = some y → ltT y.1 x.1 = true) ∧ Frm [] wr wx)
   case first =>
    by_cases hlong : 24 < x.1.length
    ·have k1 : (24 : Int) < (x.1.length : Int) := by omega
     go_wp2_with fail
     go_meet
     exact ⟨_, rfl, (fun _ hv => by have := (hv.ent x (List.mem_of_getElem? HX.out)).short; omega), (by simp), Frm.refl _ _⟩
    ·have k1 : ¬ (24 : Int) < (x.1.length : Int) := by omega
     have HSH : Hid (x.1.length ≤ 24) := Lib.hid (by omega)
     have HAB : Hid (antiB x.2.1 = false → ¬ VB b) := Lib.hid fun e hv => by
      have h9 := antiB_iff.2 (hv.ent x (List.mem_of_getElem? HX.out)).anti
      rw [e] at h9
      cases h9
     rcases (show i = 0 ∨ ∃ p, i = p + 1 by cases i; exact .inl rfl; exact .inr ⟨_, rfl⟩) with hi0 | ⟨p, hip⟩
     ·have j0 : ¬ (0 : Int) < (i : Int) := by omega
      have j0n : ¬ 0 < i := by omega
      have HI0 := Lib.hid hi0
      clear hi0 hlong
      go_wp2_with (first | (go_at_call 49; refine (HAN.out _ (Frm.refl _ _)).mono ?_; rintro e5 w5 ⟨rfl, hf5⟩) | fail)
      go_meet
      refine ⟨_, rfl, fun e => HAB.out (by simpa using e), fun e => ⟨HSH.out, by simpa using e, fun p9 y9 h9 => by have := HI0.out; omega⟩, hf5⟩
     ·obtain ⟨y, hy⟩ : ∃ y, b[p]? = some y := ⟨_, List.getElem?_eq_getElem (by omega)⟩
      obtain ⟨b', o', ya, yc, _, _, e9, c0, _, _, yt, _⟩ := HAT.out wr HF.out p y hy
      obtain ⟨rfl, rfl⟩ : b1 = b' ∧ o1 = o' := by simpa using e9
      have j1 : (0 : Int) < (i : Int) := by omega
      have j1n : 0 < i := by omega
      have j2 : IntKind.i64.wrap ((i : Int) - 1) = (p : Int) := by rw [IntWalk.i64_in _ (by omega)]; omega
      have j3 : (0 : Int) ≤ (p : Int) := by omega
      have j6 : (p : Int) < (b.length : Int) := by omega
      have HYY := Lib.hid hy
      have HIP := Lib.hid hip
      have hls := refLess_any wr _ _ y.1 x.1 yt (XT.out _ (Frm.refl _ _))
      clear hip hy yt e9 hlong
      cases hr2 : ltT y.1 x.1 with
      | false =>
       rw [hr2] at hls
       have HLS := Lib.hid hls
       have HR2 := Lib.hid hr2
       clear hls hr2
       go_wp2_with (first | (go_at_call 25; refine HLS.out.mono ?_; rintro e5 w5 ⟨rfl, hf5⟩) | fail)
       go_meet
       refine ⟨_, rfl, fun e hv => ?_, by simp, hf5⟩
       have h9 := hv.asc p y x HYY.out (by rw [← HIP.out]; exact HX.out)
       rw [HR2.out] at h9
       cases h9
      | true =>
       rw [hr2] at hls
       have HLS := Lib.hid hls
       have HR2 := Lib.hid hr2
       clear hls hr2
       go_wp2_with (first | (go_at_call 25; refine HLS.out.mono ?_; rintro e5 w5 ⟨rfl, hf5⟩; have c1' := C1.out _ hf5) | (go_at_call 49; refine (HAN.out _ hf5).mono ?_; rintro e6 w6 ⟨rfl, hf6⟩) | fail)
       go_meet
       refine ⟨_, rfl, fun e => HAB.out (by simpa using e), fun e => ⟨HSH.out, by simpa using e, fun p9 y9 hp9 hy9 => ?_⟩, hf5.trans hf6 (by simp)⟩
       obtain rfl : p = p9 := by have := HIP.out; omega
       have e9 := HYY.out.symm.trans hy9
       cases e9
       exact HR2.out
   case rest =>
    obtain ⟨bb, rfl, hb1, hb2, hFX⟩ := hcut
    cases bb with
    | true =>
     have HN : Hid (vbB b = false) := Lib.hid (vbB_no (hb1 rfl))
     clear hb1 hb2
     go_wp2_with fail
     go_ret
     exact ⟨by rw [HN.out]; rfl, HF.out.trans hFX (by simp)⟩
    | false =>
     obtain ⟨h5, h6, h7⟩ := hb2 rfl
     have HSH := Lib.hid h5
     have HAB := Lib.hid (antiB_iff.1 h6)
     have HLT := Lib.hid h7
     have FX := Lib.hid hFX
     have hsh : (x.1.length : Int) ≤ 24 := by omega
     clear hb1 hb2 h5 h6 h7 hFX x0 x1 HAN
     go_wp2_with fail
     obtain ⟨wx, hwx⟩ : ∃ wx, wx = wr := ⟨wr, rfl⟩
     rw [← hwx] at HF FX XT XL C1
     clear hwx
     go_loopg [5] x.1.length (fun q t5 wr => ∃ (k : Nat), q = x.1.length - k ∧ k ≤ x.1.length ∧ t5 = .int .i64 k ∧ (∀ e ∈ x.1.take k, 1 ≤ e ∧ e ≤ 1025) ∧ Frm [] wx wr)
     case atStart => exact ⟨0, rfl, Nat.zero_le _, rfl, by simp, FX.out⟩
     case round =>
      clear FX
      obtain ⟨k, hq2, hk, rfl, hd2, hF2⟩ := hrel
      have HQ2 := Lib.hid hq2
      have F2 := Lib.hid hF2
      have HD2 := Lib.hid hd2
      have k4 : (0 : Int) ≤ (k : Int) := by omega
      clear hq2 hF2 hd2
      by_cases hlt2 : k < x.1.length
      ·have k5 : (k : Int) < (x.1.length : Int) := by omega
       obtain ⟨e, he⟩ : ∃ e, x.1[k]? = some e := ⟨_, List.getElem?_eq_getElem hlt2⟩
       obtain ⟨gt, ot, rfl, _, ce⟩ := (XT.out wr F2.out).rd.at he
       have HE := Lib.hid he
       clear he
       by_cases he1 : e < 1
       ·have HN : Hid (vbB b = false) := Lib.hid (vbB_no (fun hv => by
         have := visB_iff.1 (hv.ent x (List.mem_of_getElem? HX.out)).vis e (List.mem_of_getElem? HE.out)
         omega))
        go_wp2_with fail
        go_ret
        exact ⟨by rw [HN.out]; rfl, HF.out.trans F2.out (by simp)⟩
       ·by_cases he2 : 1025 < e
        ·have HN : Hid (vbB b = false) := Lib.hid (vbB_no (fun hv => by
          have := visB_iff.1 (hv.ent x (List.mem_of_getElem? HX.out)).vis e (List.mem_of_getElem? HE.out)
          omega))
         go_wp2_with fail
         go_ret
         exact ⟨by rw [HN.out]; rfl, HF.out.trans F2.out (by simp)⟩
        ·have HEE : Hid (1 ≤ e ∧ e ≤ 1025) := Lib.hid (by omega)
         go_wp2_with fail
         go_roundg (x.1.length - (k + 1))
         case rel => exact ⟨k + 1, rfl, by omega, by go_num, (fun z hz => by
          rw [take_snoc HE.out] at hz
          rcases List.mem_append.1 hz with h9 | h9
          ·exact HD2.out z h9
          ·rw [List.mem_singleton.1 h9]; exact HEE.out), F2.out⟩
         case measure => have := HQ2.out; omega
      ·have k5 : ¬ (k : Int) < (x.1.length : Int) := by omega
       have HVT : Hid (visB x.1 = true) := Lib.hid (visB_iff.2 (fun e he => HD2.out e (by rw [List.take_of_length_le (by omega)]; exact he)))
       clear HD2
       go_wp2_with fail
       go_loopg [6] x.2.1.length (fun q t6 wr => ∃ (m : Nat), q = x.2.1.length - m ∧ m ≤ x.2.1.length ∧ t6 = .int .i64 m ∧ (∀ y ∈ x.2.1.take m, visB y = true) ∧ Frm [] wx wr)
       case atStart => exact ⟨0, rfl, Nat.zero_le _, rfl, by simp, F2.out⟩
       case round =>
        clear F2 HQ2
        obtain ⟨m, hq3, hm, rfl, hd3, hF3⟩ := hrel
        have HQ3 := Lib.hid hq3
        have F3 := Lib.hid hF3
        have HD3 := Lib.hid hd3
        have m4 : (0 : Int) ≤ (m : Int) := by omega
        have c1 := C1.out _ hF3
        clear hq3 hF3 hd3 k4 k5
        by_cases hlt3 : m < x.2.1.length
        ·have m5 : (m : Int) < (x.2.1.length : Int) := by omega
         obtain ⟨y, hy⟩ : ∃ y, x.2.1[m]? = some y := ⟨_, List.getElem?_eq_getElem hlt3⟩
         obtain ⟨b3, o3, d3, ya, yc, e3, y1, y2⟩ := (XL.out wr F3.out).at_ hy
         obtain ⟨rfl, rfl⟩ : la = some ⟨b3, o3, none⟩ ∧ lc = d3 := by simpa using e3
         have ly := y2.rd.lt
         have HY := Lib.hid hy
         have hasc := HAB.out.rise y (List.mem_of_getElem? hy)
         have hve := visB_ends hasc
         clear e3 hy hasc
         by_cases hy0 : y.length = 0
         ·have n1 : ¬ (0 : Int) < (y.length : Int) := by omega
          have HVY : Hid (visB y = true) := Lib.hid (by rw [List.eq_nil_of_length_eq_zero hy0]; rfl)
          clear hve y2
          go_wp2_with fail
          go_roundg (x.2.1.length - (m + 1))
          case rel => exact ⟨m + 1, rfl, by omega, by go_num, (fun z hz => by
           rw [take_snoc HY.out] at hz
           rcases List.mem_append.1 hz with h9 | h9
           ·exact HD3.out z h9
           ·rw [List.mem_singleton.1 h9]; exact HVY.out), F3.out⟩
          case measure => have := HQ3.out; omega
         ·have n1 : (0 : Int) < (y.length : Int) := by omega
          obtain ⟨f, hf⟩ : ∃ f, y[0]? = some f := ⟨_, List.getElem?_eq_getElem (by omega)⟩
          obtain ⟨z, hz⟩ : ∃ z, y[y.length - 1]? = some z := ⟨_, List.getElem?_eq_getElem (by omega)⟩
          obtain ⟨gy, oy, rfl, _, cf⟩ := y2.rd.at hf
          obtain ⟨gy', oy', e8, _, cz⟩ := y2.rd.at hz
          obtain ⟨rfl, rfl⟩ : gy = gy' ∧ oy = oy' := by simpa using e8
          rw [Nat.add_zero] at cf
          have n2 : IntKind.i64.wrap ((y.length : Int) - 1) = ((y.length - 1 : Nat) : Int) := by rw [IntWalk.i64_in _ (by omega)]; omega
          have n3 : ((y.length - 1 : Nat) : Int) < (y.length : Int) := by omega
          have n4 : (0 : Int) ≤ ((y.length - 1 : Nat) : Int) := by omega
          have hhead : y.head? = some f := by rw [List.head?_eq_getElem?]; exact hf
          have hlast : y.getLast? = some z := by rw [List.getLast?_eq_getElem?]; exact hz
          have HVE : Hid (visB y = true ↔ (1 ≤ f ∧ z ≤ 1025)) := Lib.hid (hve.trans ⟨fun h => h f z hhead hlast, fun h a c ha hc => by
           rw [hhead] at ha
           rw [hlast] at hc
           cases ha
           cases hc
           exact h⟩)
          have HNV : Hid (¬ (1 ≤ f ∧ z ≤ 1025) → vbB b = false) := Lib.hid fun hn => vbB_no (fun hv => hn (HVE.out.1 ((hv.ent x (List.mem_of_getElem? HX.out)).acc y (List.mem_of_getElem? HY.out))))
          clear hve y2 e8 hf hz hhead hlast hy0
          by_cases hf1 : f < 1
          ·have HN := Lib.hid (HNV.out (by omega))
           go_wp2_with fail
           go_ret
           exact ⟨by rw [HN.out]; rfl, HF.out.trans F3.out (by simp)⟩
          ·by_cases hz1 : 1025 < z
           ·have HN := Lib.hid (HNV.out (by omega))
            go_wp2_with fail
            go_ret
            exact ⟨by rw [HN.out]; rfl, HF.out.trans F3.out (by simp)⟩
           ·have HVY := Lib.hid (HVE.out.2 (by omega))
            go_wp2_with fail
            go_roundg (x.2.1.length - (m + 1))
            case rel => exact ⟨m + 1, rfl, by omega, by go_num, (fun u hu => by
             rw [take_snoc HY.out] at hu
             rcases List.mem_append.1 hu with h9 | h9
             ·exact HD3.out u h9
             ·rw [List.mem_singleton.1 h9]; exact HVY.out), F3.out⟩
            case measure => have := HQ3.out; omega
        ·have m5 : ¬ (m : Int) < (x.2.1.length : Int) := by omega
         have HOK : Hid (EntOk x) := Lib.hid ⟨HSH.out, HVT.out, fun y hy => HD3.out y (by rw [List.take_of_length_le (by omega)]; exact hy), HAB.out⟩
         clear HD3
         by_cases hx0 : x.1.length = 0
         ·have n1 : ¬ (0 : Int) < (x.1.length : Int) := by omega
          have HNX := Lib.hid (HD.out.next HX.out HOK.out HLT.out (fun hne => absurd (List.eq_nil_of_length_eq_zero hx0) hne))
          clear hx0
          go_wp2_with fail
          go_roundg (b.length - (i + 1))
          case rel => exact ⟨i + 1, rfl, by omega, by go_num, HNX.out, HF.out.trans F3.out (by simp)⟩
          case measure => have := HQ.out; omega
         ·have n1 : (0 : Int) < (x.1.length : Int) := by omega
          have n2 : IntKind.i64.wrap ((x.1.length : Int) - 1) = ((x.1.length - 1 : Nat) : Int) := by rw [IntWalk.i64_in _ (by omega)]; omega
          have n3 : ((x.1.length - 1 : Nat) : Int) ≤ (tc : Int) := by omega
          have n4 : (0 : Int) ≤ ((x.1.length - 1 : Nat) : Int) := by omega
          have n5 : x.1.length - 1 ≤ tc := by omega
          have hne : x.1 ≠ [] := fun e => hx0 (by rw [e]; rfl)
          have hdr := row_drop (XT.out wr F3.out) hne
          have hfd := refFind_any wr _ _ b x.1.dropLast (H.out.nil (HF.out.trans F3.out (by simp))) hdr
          unfold FindEnd at hfd
          have HNE := Lib.hid hne
          clear hx0 hne hdr
          cases hfe : findE b x.1.dropLast with
          | some y =>
           rw [hfe] at hfd
           dsimp only at hfd
           have HFD := Lib.hid hfd
           have HNX := Lib.hid (HD.out.next HX.out HOK.out HLT.out (fun _ => findE_isSome.1 ⟨y, hfe⟩))
           clear hfd hfe
           go_wp2_with (first | (go_at_call 41; refine HFD.out.mono ?_; rintro e5 w5 ⟨⟨ya, yc, za, zc, rfl, _, _⟩, hf5⟩) | fail)
           go_roundg (b.length - (i + 1))
           case rel => exact ⟨i + 1, rfl, by omega, by go_num, HNX.out, ((HF.out.trans F3.out (by simp)).trans hf5 (by simp)).alloc _⟩
           case measure => have := HQ.out; omega
          | none =>
           rw [hfe] at hfd
           dsimp only at hfd
           have HFD := Lib.hid hfd
           have HN : Hid (vbB b = false) := Lib.hid (vbB_no (fun hv => by
            obtain ⟨y, hy⟩ := findE_isSome.2 (hv.pre x (List.mem_of_getElem? HX.out) HNE.out)
            rw [hfe] at hy
            cases hy))
           clear hfd hfe
           go_wp2_with (first | (go_at_call 41; refine HFD.out.mono ?_; rintro e5 w5 ⟨rfl, hf5⟩) | fail)
           go_ret
           exact ⟨by rw [HN.out]; rfl, ((HF.out.trans F3.out (by simp)).trans hf5 (by simp)).alloc _⟩
  ·have i5 : ¬ (i : Int) < (b.length : Int) := by omega
   have HV : Hid (vbB b = true) := Lib.hid (vbB_iff.2 (RvTo.vb (by have := HD.out; rwa [show i = b.length by omega] at this) HH.out))
   go_wp2_with fail
   go_ret
   exact ⟨by rw [HV.out]; rfl, HF.out⟩
end Go.Proofs.YtikpcipkkhmcfaaGreat.Beh

/- The reference's Project. -/
namespace Go.Proofs.YtikpcipkkhmcfaaGreat.Beh
open Go.Shelf Go.RowKit Go.Lib Go.Sort Go.Maps Go.Proofs.YtikpcipkkhmcfaaGreat Go.Proofs.YtikpcipkkhmcfaaGreat.Ind

set_option linter.unusedSimpArgs false in
set_option maxRecDepth 100000 in
set_option maxHeartbeats 8000000 in
theorem refProject_any {F : List Nat} (w : World) (v : Value) (b : List En) (m : Int) (h : BehAt w F v b) (hn : b.length ≤ 1000000) :
  Calls Tryz.prog 51 #[v, .int .i64 m] w (ProjEnd b m w) := by
 have l1 := beh_few h
 obtain ⟨va, vc, rfl⟩ := h.shape
 have HK : Hid (∀ W, Calls Tryz.prog 82 #[.int .i64 m] W fun e w' => e = .returned (.bool (modB m)) ∧ Frm [] W w') := Lib.hid (fun W => modelOK_any m W)
 have HVA := Lib.hid (refValidB_any w _ b h)
 have H := Lib.hid h
 clear h
 cases hvb : vbB b with
 | false =>
  have HBAD : Hid ((vbB b && modB m) = false) := Lib.hid (by rw [hvb, Bool.false_and])
  rw [hvb] at HVA
  clear hvb
  go_enter Tryz.func51, Tryz.ntmps51
  go_wp2_with (first | (go_at_call 23; refine HVA.out.mono ?_; rintro e1 w1 ⟨rfl, hf1⟩) | fail)
  go_ret2
  exact projEnd_bad HBAD.out hf1
 | true =>
 rw [hvb] at HVA
 cases hmk : modB m with
 | false =>
  rw [hmk] at HK
  have HBAD : Hid ((vbB b && modB m) = false) := Lib.hid (by rw [hmk, Bool.and_false])
  clear hmk hvb
  go_enter Tryz.func51, Tryz.ntmps51
  go_wp2_with (first | (go_at_call 23; refine HVA.out.mono ?_; rintro e1 w1 ⟨rfl, hf1⟩) | (go_at_call 82; refine (HK.out _).mono ?_; rintro e2 w2 ⟨rfl, hf2⟩) | fail)
  go_ret2
  exact projEnd_bad HBAD.out (hf1.trans hf2 (by simp))
 | true =>
 rw [hmk] at HK
 have HOK : Hid ((vbB b && modB m) = true) := Lib.hid (by rw [hvb, hmk]; rfl)
 have HMK := Lib.hid hmk
 clear hmk hvb
 go_enter Tryz.func51, Tryz.ntmps51
 go_wp2_with (first
  | (go_at_call 23; refine HVA.out.mono ?_; rintro e1 w1 ⟨rfl, hf1⟩)
  | (go_at_call 82; refine (HK.out _).mono ?_; rintro e2 w4 ⟨rfl, hf2⟩; have f4 := hf1.trans hf2 (by simp))
  | fail)
 have F4 := Lib.hid f4
 clear f4 hf1 hf2 HK HVA
 have hnn : (b.length : Int) ≤ 1000000 := by omega
 go_loopg [6, 7] b.length (fun q t7 t24 wr => ∃ (i : Nat) (a : Option Addr) (c : Nat) (qs : List EV), q = b.length - i ∧ i ≤ b.length ∧ t24 = .int .i64 (i : Int) ∧ t7 = .slice a qs.length c ∧ OutE w4.heap.size wr a c qs ∧ qs.map (·.2) = projT b m i ∧ Frm [] w4 wr)
 case atStart => exact ⟨0, none, 0, [], rfl, Nat.zero_le _, rfl, rfl, OutE.start _ _, rfl, Frm.refl _ _⟩
 case round =>
  obtain ⟨i, a, c, qs, hq, hi, rfl, rfl, ho, hp, hF4⟩ := hrel
  have HQ := Lib.hid hq
  have HO := Lib.hid ho
  have HP := Lib.hid hp
  have HF : Hid (Frm [] w wr) := Lib.hid (F4.out.trans hF4 (by simp))
  have i4 : (0 : Int) ≤ (i : Int) := by omega
  have hqn : qs.length ≤ i := by
   have h1 := congrArg List.length hp
   rw [List.length_map] at h1
   have h2 := projT_len b m i
   omega
  by_cases hlt : i < b.length
  ·have i5 : (i : Int) < (b.length : Int) := by omega
   obtain ⟨x, hx⟩ : ∃ x, b[i]? = some x := ⟨_, List.getElem?_eq_getElem hlt⟩
   obtain ⟨b1, o1, d1, ta, tc, la, lc, e1, x0, x1, x2, xt, xl⟩ := H.out.at_ hx
   obtain ⟨rfl, rfl⟩ : va = some ⟨b1, o1, none⟩ ∧ vc = d1 := by simpa using e1
   have c0 := HF.out.cell x0 (by simp)
   have c1 : wr.cell? ⟨b1, o1 + i * 3 + 1, none⟩ = some (.slice la x.2.1.length lc) := by rw [Nat.add_assoc]; exact HF.out.cell x1 (by simp)
   have c2 : wr.cell? ⟨b1, o1 + i * 3 + 2, none⟩ = some (.bool x.2.2) := by rw [Nat.add_assoc]; exact HF.out.cell x2 (by simp)
   have HX := Lib.hid hx
   have fB : Frm [] w (wr.alloc (.cells #[.slice ta x.1.length tc, .slice la x.2.1.length lc, .bool x.2.2] 69)) := HF.out.alloc _
   have hsz := HF.out.size
   have hw4 := F4.out.size
   have hFk : ∀ k ∈ wr.heap.size :: (Value.slice a qs.length c).ownBlock.toList, k ∈ F ∨ w.heap.size ≤ k := fun k hk => by
    rcases List.mem_cons.1 hk with rfl | hk
    ·exact .inr hsz
    ·exact .inr (Nat.le_trans hw4 (ho.own.lt k (by simpa using hk)).1)
   have HB9 := RowAt.made wr 69 [.slice ta x.1.length tc, .slice la x.2.1.length lc, .bool x.2.2] #[.slice ta x.1.length tc, .slice la x.2.1.length lc, .bool x.2.2] rfl
   have fa : Frm [] wr (wr.alloc (.cells #[.slice ta x.1.length tc, .slice la x.2.1.length lc, .bool x.2.2] 69)) := (Frm.refl [] wr).alloc _
   go_upto_region 8 with fail
   have r5 := xt.step fB (by simp) hFk
   have s5 := xl.step fB (by simp) hFk
   generalize wr.alloc (.cells #[.slice ta x.1.length tc, .slice la x.2.1.length lc, .bool x.2.2] 69) = w5 at *
   have HR5 := Lib.hid r5
   have HS5 := Lib.hid s5
   have FR5 := Lib.hid fa
   have FB := Lib.hid fB
   have rb := HB9
   have y0 := rb.cell (i := 0) rfl
   have y1 := rb.cell (i := 1) rfl
   have y2 := rb.cell (i := 2) rfl
   have z0 := rb.frozen 0
   have z1 := rb.frozen 1
   have z2 := rb.frozen 2
   have RB := Lib.hid rb
   have FR4 := Lib.hid hF4
   clear hq ho hp hF4 hx xt xl x0 x1 x2 fB hFk c0 c1 c2 HB9 fa r5 s5 rb
   have hm3 : m = 1 ∨ m = 2 ∨ m = 3 := by
    have := HMK.out
    simp only [modB, Bool.or_eq_true, decide_eq_true_eq] at this
    exact this
   rcases hm3 with rfl | rfl | rfl
   ·go_upto_region 15 with fail
    have fr9 : Frm [] wr ((w5.setCell ⟨wr.heap.size, 1, none⟩ (.slice none 0 0)).setCell ⟨wr.heap.size, 2, none⟩ (.bool false)) := ((FR5.out.setCell (p := ⟨wr.heap.size, 1, none⟩) (.inr (Nat.le_refl _)) _).setCell (p := ⟨wr.heap.size, 2, none⟩) (.inr (Nat.le_refl _)) _)
    have f69 : Frm [wr.heap.size] w5 ((w5.setCell ⟨wr.heap.size, 1, none⟩ (.slice none 0 0)).setCell ⟨wr.heap.size, 2, none⟩ (.bool false)) := (((Frm.refl [wr.heap.size] w5).setCell (p := ⟨wr.heap.size, 1, none⟩) (.inl (by simp)) _).setCell (p := ⟨wr.heap.size, 2, none⟩) (.inl (by simp)) _)
    have rb9 := ((RB.out.setCell 1 (.slice none 0 0)).setCell 2 (.bool false))
    simp only [List.set_cons_zero, List.set_cons_succ] at rb9
    have u0 := rb9.cell (i := 0) rfl
    have u1 := rb9.cell (i := 1) rfl
    have u2 := rb9.cell (i := 2) rfl
    clear rb9 y0 y1 y2 z0 z1 z2
    obtain ⟨W9, hW9⟩ : ∃ W9, W9 = ((w5.setCell ⟨wr.heap.size, 1, none⟩ (.slice none 0 0)).setCell ⟨wr.heap.size, 2, none⟩ (.bool false)) := ⟨_, rfl⟩
    rw [← hW9] at fr9 f69 u0 u1 u2 ⊢
    have FR9 := Lib.hid fr9
    have F69 := Lib.hid f69
    clear fr9 f69 hW9
    go_wp2_with (first | (at_builtin; refine app_rowB rfl (.tmp 45) (.tmp 47) 36 69 _ 3 56 rfl Tryz.underlying36 infoEnC rfl (by decide) w4.heap.size qs.length (.slice a qs.length c) (qs.flatMap enE) rfl (ownsB_frm HO.out.own (FR9.out.alloc _) (by simp)) _ 1 [.slice ta x.1.length tc, .slice none 0 0, .bool false] [] rfl (rowV_cells (size := 3) (RowAt.made W9 69 [.slice ta x.1.length tc, .slice none 0 0, .bool false] #[.slice ta x.1.length tc, .slice none 0 0, .bool false] rfl) rfl (Nat.le_refl _) (by decide) (by simp)) (enE_one1 _ _ _ _ _ _ _) (qs.length + 1) rfl (by omega) (by omega) (Nat.le_trans FR4.out.size (FR9.out.alloc _).size) ?_; intro a9 c9 w9 own9 hf9 hb9) | fail)
    have hpe : projE 1 x = (x.1, [], false) := by simp [projE]
    have hnx : projT b 1 (i + 1) = projT b 1 i ++ [(x.1, [], false)] := by rw [← hpe]; exact projT_keep HX.out (by rfl)
    have hout := HO.out.push (p := (((.slice ta x.1.length tc, .slice none 0 0), (x.1, [], false)) : EV)) rfl (Nat.le_refl _) FR5.out ⟨HR5.out, [], rfl, RowV.nil0 _ _ _, fun p hp => (by cases hp)⟩ (F69.out.alloc _) own9 hf9 hb9
    obtain ⟨qs9, hq9⟩ : ∃ qs9, qs9 = qs ++ [(((.slice ta x.1.length tc, .slice none 0 0), (x.1, [], false)) : EV)] := ⟨_, rfl⟩
    have hl9 : qs.length + 1 = qs9.length := by rw [hq9]; simp
    have hm9 : qs9.map (·.2) = projT b 1 (i + 1) := by rw [hq9, hnx, List.map_append, HP.out]; rfl
    rw [← hq9] at hout
    have HOUT := Lib.hid hout
    have HL9 := Lib.hid hl9
    have HM9 := Lib.hid hm9
    have HF9 := Lib.hid hf9
    clear hq9 hl9 hm9 hnx hpe hout own9 hf9 hb9
    go_roundg (b.length - (i + 1))
    case rel => exact ⟨i + 1, a9, c9, qs9, rfl, by omega, by go_num, by rw [HL9.out], HOUT.out, HM9.out, (FR4.out.trans (FR9.out.alloc _) (by simp)).trans HF9.out (fun k hk => .inr (HO.out.own.lt k (by simpa using hk)).1)⟩
    case measure => have := HQ.out; omega
   ·go_upto_region 15 with fail
    have fr9 : Frm [] wr (w5.setCell ⟨wr.heap.size, 2, none⟩ (.bool false)) := (FR5.out.setCell (p := ⟨wr.heap.size, 2, none⟩) (.inr (Nat.le_refl _)) _)
    have f69 : Frm [wr.heap.size] w5 (w5.setCell ⟨wr.heap.size, 2, none⟩ (.bool false)) := ((Frm.refl [wr.heap.size] w5).setCell (p := ⟨wr.heap.size, 2, none⟩) (.inl (by simp)) _)
    have rb9 := (RB.out.setCell 2 (.bool false))
    simp only [List.set_cons_zero, List.set_cons_succ] at rb9
    have u0 := rb9.cell (i := 0) rfl
    have u1 := rb9.cell (i := 1) rfl
    have u2 := rb9.cell (i := 2) rfl
    clear rb9 y0 y1 y2 z0 z1 z2
    obtain ⟨W9, hW9⟩ : ∃ W9, W9 = (w5.setCell ⟨wr.heap.size, 2, none⟩ (.bool false)) := ⟨_, rfl⟩
    rw [← hW9] at fr9 f69 u0 u1 u2 ⊢
    have FR9 := Lib.hid fr9
    have F69 := Lib.hid f69
    clear fr9 f69 hW9
    go_wp2_with (first | (at_builtin; refine app_rowB rfl (.tmp 45) (.tmp 47) 36 69 _ 3 56 rfl Tryz.underlying36 infoEnC rfl (by decide) w4.heap.size qs.length (.slice a qs.length c) (qs.flatMap enE) rfl (ownsB_frm HO.out.own (FR9.out.alloc _) (by simp)) _ 1 [.slice ta x.1.length tc, .slice la x.2.1.length lc, .bool false] [] rfl (rowV_cells (size := 3) (RowAt.made W9 69 [.slice ta x.1.length tc, .slice la x.2.1.length lc, .bool false] #[.slice ta x.1.length tc, .slice la x.2.1.length lc, .bool false] rfl) rfl (Nat.le_refl _) (by decide) (by simp)) (enE_one1 _ _ _ _ _ _ _) (qs.length + 1) rfl (by omega) (by omega) (Nat.le_trans FR4.out.size (FR9.out.alloc _).size) ?_; intro a9 c9 w9 own9 hf9 hb9) | fail)
    have hpe : projE 2 x = (x.1, x.2.1, false) := by simp [projE]
    have hnx : projT b 2 (i + 1) = projT b 2 i ++ [(x.1, x.2.1, false)] := by rw [← hpe]; exact projT_keep HX.out (by rfl)
    have hout := HO.out.push (p := (((.slice ta x.1.length tc, .slice la x.2.1.length lc), (x.1, x.2.1, false)) : EV)) rfl (Nat.le_refl _) FR5.out ⟨HR5.out, HS5.out⟩ (F69.out.alloc _) own9 hf9 hb9
    obtain ⟨qs9, hq9⟩ : ∃ qs9, qs9 = qs ++ [(((.slice ta x.1.length tc, .slice la x.2.1.length lc), (x.1, x.2.1, false)) : EV)] := ⟨_, rfl⟩
    have hl9 : qs.length + 1 = qs9.length := by rw [hq9]; simp
    have hm9 : qs9.map (·.2) = projT b 2 (i + 1) := by rw [hq9, hnx, List.map_append, HP.out]; rfl
    rw [← hq9] at hout
    have HOUT := Lib.hid hout
    have HL9 := Lib.hid hl9
    have HM9 := Lib.hid hm9
    have HF9 := Lib.hid hf9
    clear hq9 hl9 hm9 hnx hpe hout own9 hf9 hb9
    go_roundg (b.length - (i + 1))
    case rel => exact ⟨i + 1, a9, c9, qs9, rfl, by omega, by go_num, by rw [HL9.out], HOUT.out, HM9.out, (FR4.out.trans (FR9.out.alloc _) (by simp)).trans HF9.out (fun k hk => .inr (HO.out.own.lt k (by simpa using hk)).1)⟩
    case measure => have := HQ.out; omega
   ·have hby := refBeyond_any w5 _ _ b x.1 (H.out.nil FB.out) HR5.out
    cases hd : beyondB b x.1 with
    | true =>
     rw [hd] at hby
     have HBY := Lib.hid hby
     have HD := Lib.hid hd
     clear hd hby
     go_wp2_with (first | (go_at_call 83; refine HBY.out.mono ?_; rintro e6 w6 ⟨rfl, hf6⟩; have rb := RB.out.frm hf6 (by simp); have v0 := rb.cell (i := 0) rfl; have v1 := rb.cell (i := 1) rfl; have v2 := rb.cell (i := 2) rfl; have t0 := rb.frozen 0; have t1 := rb.frozen 1; have t2 := rb.frozen 2; have FR6 : Hid (Frm [] wr w6) := Lib.hid (FR5.out.trans hf6 (by simp)); have f56 := hf6) | fail)
     have HNX : Hid (projT b 3 (i + 1) = projT b 3 i) := Lib.hid (projT_drop HX.out (by rw [HD.out]; rfl))
     go_roundg (b.length - (i + 1))
     case rel => exact ⟨i + 1, a, c, qs, rfl, by omega, by go_num, rfl, HO.out.nil FR6.out, by rw [HNX.out]; exact HP.out, FR4.out.trans FR6.out (by simp)⟩
     case measure => have := HQ.out; omega
    | false =>
     rw [hd] at hby
     have HBY := Lib.hid hby
     have HD := Lib.hid hd
     clear hd hby
     obtain ⟨t, l, dv⟩ := x
     dsimp only at *
     cases dv with
     | true =>
      go_upto_region 15 with (first | (go_at_call 83; refine HBY.out.mono ?_; rintro e6 w6 ⟨rfl, hf6⟩; have rb := RB.out.frm hf6 (by simp); have v0 := rb.cell (i := 0) rfl; have v1 := rb.cell (i := 1) rfl; have v2 := rb.cell (i := 2) rfl; have t0 := rb.frozen 0; have t1 := rb.frozen 1; have t2 := rb.frozen 2; have FR6 : Hid (Frm [] wr w6) := Lib.hid (FR5.out.trans hf6 (by simp)); have f56 := hf6) | fail)
      have fr9 : Frm [] wr (w6.setCell ⟨wr.heap.size, 1, none⟩ (.slice none 0 0)) := (FR6.out.setCell (p := ⟨wr.heap.size, 1, none⟩) (.inr (Nat.le_refl _)) _)
      have f69 : Frm [wr.heap.size] w5 (w6.setCell ⟨wr.heap.size, 1, none⟩ (.slice none 0 0)) := (((Frm.refl [wr.heap.size] w5).trans f56 (by simp)).setCell (p := ⟨wr.heap.size, 1, none⟩) (.inl (by simp)) _)
      have rb9 := (rb.setCell 1 (.slice none 0 0))
      simp only [List.set_cons_zero, List.set_cons_succ] at rb9
      have u0 := rb9.cell (i := 0) rfl
      have u1 := rb9.cell (i := 1) rfl
      have u2 := rb9.cell (i := 2) rfl
      clear rb9 v0 v1 v2 t0 t1 t2 rb
      obtain ⟨W9, hW9⟩ : ∃ W9, W9 = (w6.setCell ⟨wr.heap.size, 1, none⟩ (.slice none 0 0)) := ⟨_, rfl⟩
      rw [← hW9] at fr9 f69 u0 u1 u2 ⊢
      have FR9 := Lib.hid fr9
      have F69 := Lib.hid f69
      clear fr9 f69 hW9
      go_wp2_with (first | (at_builtin; refine app_rowB rfl (.tmp 45) (.tmp 47) 36 69 _ 3 56 rfl Tryz.underlying36 infoEnC rfl (by decide) w4.heap.size qs.length (.slice a qs.length c) (qs.flatMap enE) rfl (ownsB_frm HO.out.own (FR9.out.alloc _) (by simp)) _ 1 [.slice ta t.length tc, .slice none 0 0, .bool true] [] rfl (rowV_cells (size := 3) (RowAt.made W9 69 [.slice ta t.length tc, .slice none 0 0, .bool true] #[.slice ta t.length tc, .slice none 0 0, .bool true] rfl) rfl (Nat.le_refl _) (by decide) (by simp)) (enE_one1 _ _ _ _ _ _ _) (qs.length + 1) rfl (by omega) (by omega) (Nat.le_trans FR4.out.size (FR9.out.alloc _).size) ?_; intro a9 c9 w9 own9 hf9 hb9) | fail)
      have hpe : projE 3 (t, l, true) = (t, [], true) := by simp [projE]
      have hnx : projT b 3 (i + 1) = projT b 3 i ++ [(t, [], true)] := by rw [← hpe]; exact projT_keep HX.out (by rw [HD.out]; rfl)
      have hout := HO.out.push (p := (((.slice ta t.length tc, .slice none 0 0), (t, [], true)) : EV)) rfl (Nat.le_refl _) FR5.out ⟨HR5.out, [], rfl, RowV.nil0 _ _ _, fun p hp => (by cases hp)⟩ (F69.out.alloc _) own9 hf9 hb9
      obtain ⟨qs9, hq9⟩ : ∃ qs9, qs9 = qs ++ [(((.slice ta t.length tc, .slice none 0 0), (t, [], true)) : EV)] := ⟨_, rfl⟩
      have hl9 : qs.length + 1 = qs9.length := by rw [hq9]; simp
      have hm9 : qs9.map (·.2) = projT b 3 (i + 1) := by rw [hq9, hnx, List.map_append, HP.out]; rfl
      rw [← hq9] at hout
      have HOUT := Lib.hid hout
      have HL9 := Lib.hid hl9
      have HM9 := Lib.hid hm9
      have HF9 := Lib.hid hf9
      clear hq9 hl9 hm9 hnx hpe hout own9 hf9 hb9
      go_roundg (b.length - (i + 1))
      case rel => exact ⟨i + 1, a9, c9, qs9, rfl, by omega, by go_num, by rw [HL9.out], HOUT.out, HM9.out, (FR4.out.trans (FR9.out.alloc _) (by simp)).trans HF9.out (fun k hk => .inr (HO.out.own.lt k (by simpa using hk)).1)⟩
      case measure => have := HQ.out; omega
     | false =>
      go_upto_region 15 with (first | (go_at_call 83; refine HBY.out.mono ?_; rintro e6 w6 ⟨rfl, hf6⟩; have rb := RB.out.frm hf6 (by simp); have v0 := rb.cell (i := 0) rfl; have v1 := rb.cell (i := 1) rfl; have v2 := rb.cell (i := 2) rfl; have t0 := rb.frozen 0; have t1 := rb.frozen 1; have t2 := rb.frozen 2; have FR6 : Hid (Frm [] wr w6) := Lib.hid (FR5.out.trans hf6 (by simp)); have f56 := hf6) | fail)
      have fr9 : Frm [] wr w6 := FR6.out
      have f69 : Frm [wr.heap.size] w5 w6 := ((Frm.refl [wr.heap.size] w5).trans f56 (by simp))
      have rb9 := rb
      skip
      have u0 := rb9.cell (i := 0) rfl
      have u1 := rb9.cell (i := 1) rfl
      have u2 := rb9.cell (i := 2) rfl
      clear rb9 v0 v1 v2 t0 t1 t2 rb
      obtain ⟨W9, hW9⟩ : ∃ W9, W9 = w6 := ⟨_, rfl⟩
      rw [← hW9] at fr9 f69 u0 u1 u2 ⊢
      have FR9 := Lib.hid fr9
      have F69 := Lib.hid f69
      clear fr9 f69 hW9
      go_wp2_with (first | (at_builtin; refine app_rowB rfl (.tmp 45) (.tmp 47) 36 69 _ 3 56 rfl Tryz.underlying36 infoEnC rfl (by decide) w4.heap.size qs.length (.slice a qs.length c) (qs.flatMap enE) rfl (ownsB_frm HO.out.own (FR9.out.alloc _) (by simp)) _ 1 [.slice ta t.length tc, .slice la l.length lc, .bool false] [] rfl (rowV_cells (size := 3) (RowAt.made W9 69 [.slice ta t.length tc, .slice la l.length lc, .bool false] #[.slice ta t.length tc, .slice la l.length lc, .bool false] rfl) rfl (Nat.le_refl _) (by decide) (by simp)) (enE_one1 _ _ _ _ _ _ _) (qs.length + 1) rfl (by omega) (by omega) (Nat.le_trans FR4.out.size (FR9.out.alloc _).size) ?_; intro a9 c9 w9 own9 hf9 hb9) | fail)
      have hpe : projE 3 (t, l, false) = (t, l, false) := by simp [projE]
      have hnx : projT b 3 (i + 1) = projT b 3 i ++ [(t, l, false)] := by rw [← hpe]; exact projT_keep HX.out (by rw [HD.out]; rfl)
      have hout := HO.out.push (p := (((.slice ta t.length tc, .slice la l.length lc), (t, l, false)) : EV)) rfl (Nat.le_refl _) FR5.out ⟨HR5.out, HS5.out⟩ (F69.out.alloc _) own9 hf9 hb9
      obtain ⟨qs9, hq9⟩ : ∃ qs9, qs9 = qs ++ [(((.slice ta t.length tc, .slice la l.length lc), (t, l, false)) : EV)] := ⟨_, rfl⟩
      have hl9 : qs.length + 1 = qs9.length := by rw [hq9]; simp
      have hm9 : qs9.map (·.2) = projT b 3 (i + 1) := by rw [hq9, hnx, List.map_append, HP.out]; rfl
      rw [← hq9] at hout
      have HOUT := Lib.hid hout
      have HL9 := Lib.hid hl9
      have HM9 := Lib.hid hm9
      have HF9 := Lib.hid hf9
      clear hq9 hl9 hm9 hnx hpe hout own9 hf9 hb9
      go_roundg (b.length - (i + 1))
      case rel => exact ⟨i + 1, a9, c9, qs9, rfl, by omega, by go_num, by rw [HL9.out], HOUT.out, HM9.out, (FR4.out.trans (FR9.out.alloc _) (by simp)).trans HF9.out (fun k hk => .inr (HO.out.own.lt k (by simpa using hk)).1)⟩
      case measure => have := HQ.out; omega
  ·have i5 : ¬ (i : Int) < (b.length : Int) := by omega
   have HPE : Hid (qs.map (·.2) = projB b m) := Lib.hid (by rw [HP.out, projT_all (by omega)])
   go_wp2_with fail
   go_ret2
   exact projEnd_ok HOK.out HO.out HPE.out HF.out
end Go.Proofs.YtikpcipkkhmcfaaGreat.Beh

/- Contracts of behaves and sane of the law. -/
namespace Go.Proofs.YtikpcipkkhmcfaaGreat.Beh
open Go.Shelf Go.RowKit Go.Lib Go.Sort Go.Maps Go.Proofs.YtikpcipkkhmcfaaGreat Go.Proofs.YtikpcipkkhmcfaaGreat.Ind

theorem ex_lat (w : World) : LAt ((w.alloc (.cells #[.int .i64 2, .int .i64 1] 66)).alloc (.cells #[.slice (some ⟨w.heap.size, 0, none⟩) 1 1, .slice none 0 0] 63)).heap.size ((w.alloc (.cells #[.int .i64 2, .int .i64 1] 66)).alloc (.cells #[.slice (some ⟨w.heap.size, 0, none⟩) 1 1, .slice none 0 0] 63)) (some ⟨w.heap.size + 1, 0, none⟩) 2 exS := by
 have r0 := (RowAt.made w 66 [.int .i64 2, .int .i64 1] #[.int .i64 2, .int .i64 1] rfl).alloc (.cells #[.slice (some ⟨w.heap.size, 0, none⟩) 1 1, .slice none 0 0] 63)
 have r1 := row_made1 w (.cells #[.int .i64 2, .int .i64 1] 66) 63 [.slice (some ⟨w.heap.size, 0, none⟩) 1 1, .slice none 0 0] #[.slice (some ⟨w.heap.size, 0, none⟩) 1 1, .slice none 0 0] rfl
 refine ⟨by decide, by decide, by decide, fun i row hi => ?_⟩
 match i, hi with
 | 0, hi =>
  cases hi
  refine ⟨w.heap.size + 1, 0, some ⟨w.heap.size, 0, none⟩, 1, rfl, by simp, r1.cell (i := 0) rfl, by decide, by decide, by decide, fun j e t hj => ?_⟩
  match j, hj with
  | 0, hj =>
   cases hj
   exact ⟨w.heap.size, 0, rfl, by simp; omega, r0.cell (i := 0) rfl, r0.cell (i := 1) rfl⟩
  | j + 1, hj => simp at hj
 | 1, hi =>
  cases hi
  refine ⟨w.heap.size + 1, 0, none, 0, rfl, by simp, r1.cell (i := 1) rfl, by decide, by decide, by decide, fun j e t hj => ?_⟩
  simp at hj
 | i + 2, hi => simp [exS] at hi
set_option linter.unusedSimpArgs false in
set_option maxRecDepth 100000 in
set_option maxHeartbeats 4000000 in
theorem sane_any (w : World) : Calls Tryz.prog 16 #[] w fun e w' => e = .returned (.bool true) ∧ Frm [] w w' := by
 have hl := ex_lat w
 have F0 := Lib.hid (((Frm.refl [] w).alloc (.cells #[.int .i64 2, .int .i64 1] 66)).alloc (.cells #[.slice (some ⟨w.heap.size, 0, none⟩) 1 1, .slice none 0 0] 63))
 have hof := of_any _ [] _ _ 2 exS 2 hl (by simp)
 have hof2 := hof.mono fun _ _ h => h.res
 rw [ex_of] at hof2
 have HOF := Lib.hid hof2
 clear hl hof hof2
 go_enter Tryz.func16, Tryz.ntmps16
 go_wp2_with (first
  | (go_at_call 30; refine HOF.out.mono ?_; rintro e1 w1 ⟨⟨a1, c1, rfl, hb1⟩, hf1⟩; have F1 := Lib.hid (F0.out.trans hf1 (by simp)); have A1 := Lib.hid hb1; clear hb1 hf1)
  | fail)
 have S := ((((((Sep.start w1).box w1.heap.size rfl 3 [.int .i64 2] #[.int .i64 2] rfl).box (w1.heap.size + 1) (by simp) 22 [.slice (some ⟨w1.heap.size, 0, none⟩) 1 1] #[.slice (some ⟨w1.heap.size, 0, none⟩) 1 1] rfl).box (w1.heap.size + 1 + 1) (by simp) 3 [.int .i64 2] #[.int .i64 2] rfl).box (w1.heap.size + 1 + 1 + 1) (by simp) 3 [] #[] rfl).box (w1.heap.size + 1 + 1 + 1 + 1) (by simp) 22 [.slice (some ⟨w1.heap.size + 1 + 1 + 1, 0, none⟩) 0 0] #[.slice (some ⟨w1.heap.size + 1 + 1 + 1, 0, none⟩) 0 0] rfl).box (w1.heap.size + 1 + 1 + 1 + 1 + 1) (by simp) 69 [.slice none 0 0, .slice (some ⟨w1.heap.size + 1, 0, none⟩) 1 1, .bool false, .slice (some ⟨w1.heap.size + 1 + 1, 0, none⟩) 1 1, .slice (some ⟨w1.heap.size + 1 + 1 + 1 + 1, 0, none⟩) 1 1, .bool false] #[.slice none 0 0, .slice (some ⟨w1.heap.size + 1, 0, none⟩) 1 1, .bool false, .slice (some ⟨w1.heap.size + 1 + 1, 0, none⟩) 1 1, .slice (some ⟨w1.heap.size + 1 + 1 + 1 + 1, 0, none⟩) 1 1, .bool false] rfl
 generalize World.alloc (World.alloc (World.alloc (World.alloc (World.alloc (World.alloc w1 _) _) _) _) _) _ = W at *
 have hbeh : BehAt W [] (.slice (some ⟨w1.heap.size + 1 + 1 + 1 + 1 + 1, 0, none⟩) 2 2) exB := by
  refine ⟨[((.slice none 0 0, .slice (some ⟨w1.heap.size + 1, 0, none⟩) 1 1), ([], [[2]], false)), ((.slice (some ⟨w1.heap.size + 1 + 1, 0, none⟩) 1 1, .slice (some ⟨w1.heap.size + 1 + 1 + 1 + 1, 0, none⟩) 1 1), ([2], [[]], false))], rfl, rowV_cells (size := 3) (S.at_ 0 rfl) rfl (Nat.le_refl _) (by decide) (by simp), fun p hp => ?_⟩
  rcases List.mem_cons.1 hp with rfl | hp
  ·refine ⟨RowV.nil0 _ _ _, [(.slice (some ⟨w1.heap.size, 0, none⟩) 1 1, [2])], rfl, rowV_cells (size := 1) (S.at_ 4 rfl) rfl (Nat.le_refl _) (by decide) (by simp), fun q hq => ?_⟩
   rw [List.mem_singleton.1 hq]
   exact rowV_cells (size := 1) (S.at_ 5 rfl) rfl (Nat.le_refl _) (by decide) (by simp)
  ·rw [List.mem_singleton.1 hp]
   refine ⟨rowV_cells (size := 1) (S.at_ 3 rfl) rfl (Nat.le_refl _) (by decide) (by simp), [(.slice (some ⟨w1.heap.size + 1 + 1 + 1, 0, none⟩) 0 0, [])], rfl, rowV_cells (size := 1) (S.at_ 1 rfl) rfl (Nat.le_refl _) (by decide) (by simp), fun q hq => ?_⟩
   rw [List.mem_singleton.1 hq]
   exact RowV.zero W [] _ 0 0 1 rfl (by decide)
 have HBH := Lib.hid hbeh
 have FW := Lib.hid S.frm
 clear hbeh S
 refine (refSame_any W _ _ exB exB (A1.out.nil FW.out) HBH.out).mono ?_
 rintro e3 w3 ⟨he3, hf3⟩
 rw [decide_eq_true rfl] at he3
 subst he3
 go_wp2_with fail
 go_ret
 exact ⟨rfl, (F1.out.trans FW.out (by simp)).trans hf3 (by simp)⟩
end Go.Proofs.YtikpcipkkhmcfaaGreat.Beh

/- BehaviorProject of the law answers true. -/
namespace Go.Proofs.YtikpcipkkhmcfaaGreat.Beh
open Go.Shelf Go.RowKit Go.Lib Go.Sort Go.Maps Go.Proofs.YtikpcipkkhmcfaaGreat Go.Proofs.YtikpcipkkhmcfaaGreat.Ind

set_option linter.unusedSimpArgs false in
set_option maxRecDepth 100000 in
set_option maxHeartbeats 4000000 in
theorem projects_any {F : List Nat} (w : World) (v : Value) (b : List En) (m : Int) (h : BehAt w F v b) (hfit : Fits b) (hn : b.length ≤ 1000000) :
  Calls Tryz.prog 26 #[v, .int .i64 m] w fun e w' => e = .returned (.bool true) ∧ Frm [] w w' := by
 obtain ⟨R, hR⟩ : ∃ R, R = projRes b m := ⟨_, rfl⟩
 have HP : Hid (Calls Tryz.prog 32 #[v, .int .i64 m] w fun e w' => (∃ a c, e = .returned (.tuple #[.slice a R.2.length c, .int .i64 R.1]) ∧ BehAt w' [] (.slice a R.2.length c) R.2) ∧ Frm [] w w') := Lib.hid (by
  rw [hR]
  exact project_any w v b m h hfit hn)
 have HRF : Hid (∀ W, Frm [] w W → Calls Tryz.prog 51 #[v, .int .i64 m] W fun e w' => (∃ a c, e = .returned (.tuple #[.slice a R.2.length c, .int .i64 R.1]) ∧ BehAt w' [] (.slice a R.2.length c) R.2) ∧ Frm [] W w') := Lib.hid fun W hf => by
  rw [hR]
  exact refProject_any W v b m (h.nil hf) hn
 have jn : (R.1 == R.1) = true := by simp
 clear h hfit hR
 go_enter Tryz.func26, Tryz.ntmps26
 go_wp2_with (first
  | (go_at_call 32; refine HP.out.mono ?_; rintro e1 w1 ⟨⟨a1, c1, rfl, hb1⟩, hf1⟩; have A1 := Lib.hid hb1; clear hb1)
  | (go_at_call 51; refine (HRF.out _ hf1).mono ?_; rintro e2 w2 ⟨⟨a2, c2, rfl, hb2⟩, hf2⟩; have A2 := Lib.hid hb2; have A12 := Lib.hid (A1.out.nil hf2); clear hb2)
  | (go_at_call 33; refine (refSame_any w2 _ _ R.2 R.2 A12.out A2.out).mono ?_; rintro e3 w3 ⟨he3, hf3⟩; rw [decide_eq_true rfl] at he3; subst he3)
  | fail)
 go_ret
 exact ⟨rfl, (hf1.trans hf2 (by simp)).trans hf3 (by simp)⟩
set_option linter.unusedSimpArgs false in
set_option maxRecDepth 100000 in
set_option maxHeartbeats 8000000 in
theorem project_walk (ta : Option Addr) (tcap : Nat) (xs : List Int) (v : Value) (b0 : List En) (m : Int) (w : World) (ht : Rd w.heap.size w ta xs.length tcap 1 (ints xs)) (hx : ∀ x ∈ xs, -9223372036854775808 ≤ x ∧ x ≤ 9223372036854775807) (hb0 : BehAt w [] v b0) (hfit0 : Fits b0) :
  Calls Tryz.prog 6 #[.slice ta xs.length tcap, v, .int .i64 m] w fun e w' => e = .returned (.bool true) ∧ Frm [] w w' := by
 obtain ⟨va, vc, rfl⟩ := hb0.shape
 have hnew := tape_new w.heap.size ta tcap xs _ ht hx
 have hbl0 := beh_few hb0
 have HB0 := Lib.hid hb0
 have HFIT0 := Lib.hid hfit0
 clear ht hx hb0 hfit0
 go_enter Tryz.func6, Tryz.ntmps6
 go_wp2_with fail
 refine hnew.mono ?_
 rintro e1 w1 ⟨rfl, hf1, hT1, hsz1⟩
 have HF1 := Lib.hid hf1
 have HT1 := Lib.hid hT1
 clear hnew hf1 hT1
 go_wp2_with fail
 go_loopg [8] 4 (fun q i wr => ∃ (j : Nat), q = 4 - j ∧ j ≤ 4 ∧ i = .int .i64 (j : Int) ∧ TapeOk w.heap.size wr w.heap.size (20000 * j) ∧ Frm [w.heap.size] w1 wr)
 case atStart => exact ⟨0, rfl, Nat.zero_le _, rfl, HT1.out, Frm.refl _ _⟩
 case round =>
  obtain ⟨j, rfl, hj, rfl, hT, hF⟩ := hrel
  have HT := Lib.hid hT
  have HF := Lib.hid hF
  have hszr := hF.size
  have i4 : (0 : Int) ≤ (j : Int) := by omega
  clear hT hF
  by_cases hj5 : j < 4
  ·have i5 : (j : Int) < 4 := by omega
   go_wp2_with fail
   refine (chain_any w.heap.size w.heap.size (20000 * j) 4 wr HT.out (Nat.le_refl _) (by omega) (by omega) (by omega)).mono ?_
   rintro e5 w5 ⟨x, g, rfl, hg, hM, hS, hT5, hf5⟩
   have hfew := hS.few
   have hrows2 : ∀ row ∈ x, row.length ≤ 140737488355328 := fun row hr => by
    have := (sys_rows hS row hr).2.2
    omega
   obtain ⟨b, hres, hfb, hbl, hbp, -⟩ := of_res3 hS
   have hsz5 := hf5.size
   have hdr := draw_any w5.heap.size [w.heap.size] w5 (.pointer (some ⟨w.heap.size, 0, none⟩)) _ _ x 3 (hM.lat (by omega) hrows2) (fun k hk => by simp at hk; omega)
   rw [hres] at hdr
   have HDR := Lib.hid hdr
   have HT5 := Lib.hid hT5
   have HF5 := Lib.hid (HF.out.trans hf5 (fun k hk => .inl hk))
   have HFB := Lib.hid hfb
   clear hdr hM hS hT5 hf5 hres hfb hrows2 hfew
   go_wp2_with fail
   refine HDR.out.mono ?_
   rintro e6 w6 ⟨⟨a6, c6, rfl, hb6⟩, hf6⟩
   have hb9 : BehAt w6 [w.heap.size] (.slice a6 b.length c6) b := hb6
   have HBEH : Hid (∀ W, Frm [w.heap.size] w6 W → BehAt W [w.heap.size] (.slice a6 b.length c6) b) := Lib.hid fun W hf => hb9.step hf (fun k hk => .inl hk) (fun k hk => .inl hk)
   have hs6 := hf6.size
   have HF6 := Lib.hid (HF5.out.trans hf6 (by simp))
   have HT6 := Lib.hid (HT5.out.nil hf6)
   have HFI := Lib.hid (HFB.out.fits (by decide))
   clear hb6 hb9 hf6 HDR HT5
   go_wp2_with (first
    | (go_at_call 26; refine (projects_any (F := [w.heap.size]) w12 _ d m12 HD12 HFD (by omega)).mono ?_; rintro e13 w13 ⟨rfl, hf13⟩)
    | (go_at_call 27; refine (model_any w.heap.size w.heap.size (20000 * j + 2000 + 1 + 2) w11 hT11 (Nat.le_refl _) (by omega)).mono ?_; rintro e12 w12 ⟨⟨m12, rfl, -, -⟩, hT12, hf12⟩; have f12 := f11.trans hf12 (fun k hk => .inl hk); have HD12 := hd11.step hf12 (F' := [w.heap.size]) (fun k hk => .inl hk) (fun k hk => .inl hk))
    | (go_at_call 21; refine (spoilB_any w.heap.size w.heap.size (20000 * j + 2000 + 1) [w.heap.size] w10 _ b (HBEH.out _ f10) hT10 (Nat.le_refl _) (by omega) (by simp) (fun k hk => by have := f10.size; simp at hk; omega) (by omega) (by omega) HFB.out).mono ?_; rintro e11 w11 ⟨a11, c11, d, rfl, hd11, hfit11, hdl, hT11, hf11⟩; have f11 := f10.trans hf11 (fun k hk => .inl hk); have HFD := hfit11.fits (by decide))
    | (go_at_call 26; refine (projects_any (F := [w.heap.size]) w9 _ b m (HBEH.out _ f9) HFI.out (by omega)).mono ?_; rintro e10 w10 ⟨rfl, hf10⟩; have f10 := f9.trans hf10 (by simp); have hT10 := hT9.nil hf10)
    | (go_at_call 26; refine (projects_any (F := [w.heap.size]) w8 _ b 3 (HBEH.out _ f8) HFI.out (by omega)).mono ?_; rintro e9 w9 ⟨rfl, hf9⟩; have f9 := f8.trans hf9 (by simp); have hT9 := hT8.nil hf9)
    | (go_at_call 26; refine (projects_any (F := [w.heap.size]) w7 _ b m7 (HBEH.out _ f7) HFI.out (by omega)).mono ?_; rintro e8 w8 ⟨rfl, hf8⟩; have f8 := f7.trans hf8 (by simp); have hT8 := hT7.nil hf8)
    | (go_at_call 27; refine (model_any w.heap.size w.heap.size (20000 * j + 2000) w6 HT6.out (Nat.le_refl _) (by omega)).mono ?_; rintro e7 w7 ⟨⟨m7, rfl, -, -⟩, hT7, f7⟩)
    | fail)
   go_roundg (4 - (j + 1))
   case rel => exact ⟨j + 1, rfl, hj5, by go_num, (hT12.nil hf13).mono (by omega), (HF6.out.trans f12 (fun k hk => .inl hk)).trans hf13 (by simp)⟩
   case measure => omega
  ·have i5 : ¬ (j : Int) < 4 := by omega
   have HFW : Hid (Frm [w.heap.size] w wr) := Lib.hid ((HF1.out.mono (by simp)).trans HF.out (by simp))
   have HFIN : Hid (Frm [] w wr) := Lib.hid (HF1.out.trans HF.out (fun k hk => .inr (by simp at hk; omega)))
   have HBR := Lib.hid (HB0.out.step (F' := []) HFW.out (fun k hk => .inr (by simp at hk; omega)) (by simp))
   have HSA : Hid (∀ W, Calls Tryz.prog 16 #[] W fun e w' => e = .returned (.bool true) ∧ Frm [] W w') := Lib.hid sane_any
   clear hj5
   by_cases h6 : 12 < b0.length
   ·have i6 : (12 : Int) < (b0.length : Int) := by omega
    go_wp2_with fail
    go_ret
    exact ⟨rfl, HFIN.out⟩
   ·have i6 : ¬ (12 : Int) < (b0.length : Int) := by omega
    go_wp2_with (first
     | (go_at_call 26; refine (projects_any (F := []) wr _ b0 m HBR.out HFIT0.out (by omega)).mono ?_; rintro e4 w4 ⟨rfl, hf4⟩)
     | (go_at_call 16; refine (HSA.out _).mono ?_; rintro e5 w5 ⟨rfl, hf5⟩)
     | fail)
    go_ret
    exact ⟨rfl, (HFIN.out.trans hf4 (by simp)).trans hf5 (by simp)⟩
end Go.Proofs.YtikpcipkkhmcfaaGreat.Beh
