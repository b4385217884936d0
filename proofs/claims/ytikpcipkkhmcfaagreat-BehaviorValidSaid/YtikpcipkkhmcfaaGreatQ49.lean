/- Texts FI, WH, FJ. -/
import Derived.Test.YtikpcipkkhmcfaaGreatQ47
import Derived.Test.YtikpcipkkhmcfaaGreatQ48
import Derived.Test.YtikpcipkkhmcfaaGreatQ41
import Derived.Test.YtikpcipkkhmcfaaGreatQ07
import Derived.Test.YtikpcipkkhmcfaaGreatQ43
import Derived.Test.YtikpcipkkhmcfaaGreatQ35
/- The reference's Valid of behaviors. -/
namespace Go.Proofs.YtikpcipkkhmcfaaGreat.Beh
open Go.Shelf Go.RowKit Go.Lib Go.Sort Go.Maps Go.Proofs.YtikpcipkkhmcfaaGreat Go.Proofs.YtikpcipkkhmcfaaGreat.Ind

/-- What is known after the first i entries. -/
structure RvTo (b : List En) (i : Nat) : Prop where
 vto : VbTo b i
 pre : ∀ a x, a < i → b[a]? = some x → x.1 ≠ [] → ∃ y ∈ b, y.1 = x.1.dropLast
theorem rvTo_zero (b : List En) : RvTo b 0 := ⟨vbTo_zero b, by omega⟩
theorem RvTo.next {b : List En} {i : Nat} {x : En} (h : RvTo b i) (hx : b[i]? = some x) (h1 : EntOk x) (h2 : ∀ p y, i = p + 1 → b[p]? = some y → ltT y.1 x.1 = true) (h3 : x.1 ≠ [] → ∃ y ∈ b, y.1 = x.1.dropLast) : RvTo b (i + 1) := by
 refine ⟨h.vto.next hx h1 h2, fun a z ha hz hne => ?_⟩
 by_cases he : a = i
 ·subst he; rw [hx] at hz; cases hz; exact h3 hne
 ·exact h.pre a z (by omega) hz hne
theorem RvTo.vb {b : List En} (h : RvTo b b.length) (h0 : ∃ p, b[0]? = some p ∧ p.1 = []) : VB b :=
 h.vto.vb h0 (fun x hx hne => by
  obtain ⟨a, ha⟩ := List.getElem?_of_mem hx
  exact h.pre a x (List.getElem?_eq_some_iff.1 ha).1 ha hne)
theorem findE_isSome {b : List En} {t : List Int} : (∃ x, findE b t = some x) ↔ ∃ y ∈ b, y.1 = t := by
 constructor
 ·rintro ⟨x, hx⟩
  exact ⟨x, (findE_mem hx).1, (findE_mem hx).2⟩
 ·rintro ⟨y, hy, e⟩
  cases hf : findE b t with
  | some x => exact ⟨x, rfl⟩
  | none => exact absurd e (findE_none.1 hf y hy)
set_option linter.unusedSimpArgs false in
set_option maxRecDepth 100000 in
set_option maxHeartbeats 8000000 in
theorem refValidB_any {F : List Nat} (w : World) (v : Value) (b : List En) (h : BehAt w F v b) :
  Calls Tryz.prog 23 #[v] w fun e w' => e = .returned (.bool (vbB b)) ∧ Frm [] w w' := by
 have l1 := beh_few h
 obtain ⟨va, vc, rfl⟩ := h.shape
 by_cases hb0 : b.length = 0
 ·have HN : Hid (vbB b = false) := Lib.hid (vbB_no (fun hv => by
   obtain ⟨p, hp, _⟩ := hv.head
   have := (List.getElem?_eq_some_iff.1 hp).1
   omega))
  have i0 : ((b.length : Int) == 0) = true := by rw [beq_iff_eq]; omega
  clear h hb0
  go_enter Tryz.func23, Tryz.ntmps23
  go_wp2_with fail
  go_ret
  exact ⟨by rw [HN.out]; rfl, Frm.refl _ _⟩
 have HAT : Hid (∀ W, Frm [] w W → ∀ (i : Nat) (x : En), b[i]? = some x → ∃ b1 o1 ta tc la lc, va = some ⟨b1, o1, none⟩ ∧ W.cell? ⟨b1, o1 + i * 3, none⟩ = some (.slice ta x.1.length tc) ∧ W.cell? ⟨b1, o1 + i * 3 + 1, none⟩ = some (.slice la x.2.1.length lc) ∧ W.cell? ⟨b1, o1 + i * 3 + 2, none⟩ = some (.bool x.2.2) ∧ RowV W F (.slice ta x.1.length tc) x.1.length 1 (ints x.1) ∧ SetsAt W F (.slice la x.2.1.length lc) x.2.1) := Lib.hid fun W hf i x hx => by
  obtain ⟨b1, o1, d1, ta, tc, la, lc, e1, x0, x1, x2, xt, xl⟩ := h.at_ hx
  obtain ⟨rfl, rfl⟩ : va = some ⟨b1, o1, none⟩ ∧ vc = d1 := by simpa using e1
  exact ⟨b1, o1, ta, tc, la, lc, rfl, hf.cell x0 (by simp), by rw [Nat.add_assoc]; exact hf.cell x1 (by simp), by rw [Nat.add_assoc]; exact hf.cell x2 (by simp), xt.nil hf, xl.nil hf⟩
 have H := Lib.hid h
 have i0 : ((b.length : Int) == 0) = false := beq_eq_false_iff_ne.2 (by omega)
 have i00 : (0 : Int) < (b.length : Int) := by omega
 obtain ⟨y0, hy0⟩ : ∃ y, b[0]? = some y := ⟨_, List.getElem?_eq_getElem (by omega)⟩
 obtain ⟨b1, o1, ta0, tc0, _, _, rfl, z0, _, _, zt, _⟩ := HAT.out w (Frm.refl _ _) 0 y0 hy0
 rw [Nat.zero_mul, Nat.add_zero] at z0
 have lz := zt.rd.lt
 have HY0 := Lib.hid hy0
 clear h zt hy0
 by_cases ht0 : 0 < y0.1.length
 ·have i1 : ((y0.1.length : Int) != 0) = true := by rw [bne_iff_ne]; omega
  have HN : Hid (vbB b = false) := Lib.hid (vbB_no (fun hv => by
   obtain ⟨p, hp, h9⟩ := hv.head
   rw [HY0.out] at hp
   cases hp
   rw [h9] at ht0
   simp at ht0))
  clear ht0
  go_enter Tryz.func23, Tryz.ntmps23
  go_wp2_with fail
  go_ret
  exact ⟨by rw [HN.out]; rfl, Frm.refl _ _⟩
 have i1 : ((y0.1.length : Int) != 0) = false := by rw [bne_eq_false_iff_eq]; omega
 have HH : Hid (∃ p, b[0]? = some p ∧ p.1 = []) := Lib.hid ⟨y0, HY0.out, List.eq_nil_of_length_eq_zero (by omega)⟩
 clear ht0 HY0
 go_enter Tryz.func23, Tryz.ntmps23
 go_wp2_with fail
 clear z0 i1 lz
 go_loopg [3] b.length (fun q t3 wr => ∃ (i : Nat), q = b.length - i ∧ i ≤ b.length ∧ t3 = .int .i64 i ∧ RvTo b i ∧ Frm [] w wr)
 case atStart => exact ⟨0, rfl, Nat.zero_le _, rfl, rvTo_zero _, Frm.refl _ _⟩
 case round =>
  obtain ⟨i, hq, hi, rfl, hd, hF⟩ := hrel
  have HQ := Lib.hid hq
  have HF := Lib.hid hF
  have HD := Lib.hid hd
  have i4 : (0 : Int) ≤ (i : Int) := by omega
  clear hq hF hd
  by_cases hlt : i < b.length
  ·have i5 : (i : Int) < (b.length : Int) := by omega
   obtain ⟨x, hx⟩ : ∃ x, b[i]? = some x := ⟨_, List.getElem?_eq_getElem hlt⟩
   obtain ⟨b', o', ta, tc, la, lc, e9, x0, x1, _, xt, xl⟩ := HAT.out wr HF.out i x hx
   obtain ⟨rfl, rfl⟩ : b1 = b' ∧ o1 = o' := by simpa using e9
   have HX := Lib.hid hx
   have lt9 := xt.rd.lt
   have ll9 := sets_few xl
   have hxc : x.1.length ≤ tc := xt.rd.le
   have XT : Hid (∀ W, Frm [] wr W → RowV W F (.slice ta x.1.length tc) x.1.length 1 (ints x.1)) := Lib.hid fun W hf => xt.nil hf
   have XL : Hid (∀ W, Frm [] wr W → SetsAt W F (.slice la x.2.1.length lc) x.2.1) := Lib.hid fun W hf => xl.nil hf
   have HAN : Hid (∀ W, Frm [] wr W → Calls Tryz.prog 49 #[.slice la x.2.1.length lc] W fun e w' => e = .returned (.bool (antiB x.2.1)) ∧ Frm [] W w') := Lib.hid fun W hf => antichain_any W _ _ (xl.nil hf)
   have C1 : Hid (∀ W, Frm [] wr W → W.cell? ⟨b1, o1 + i * 3 + 1, none⟩ = some (.slice la x.2.1.length lc)) := Lib.hid fun W hf => hf.cell x1 (by simp)
   clear xt xl e9 hx
   go_upto_region 7 with fail
   go_cut [58] (fun s58 wx => ∃ bb : Bool, s58 = .bool bb ∧ (bb = true → ¬ VB b) ∧ (bb = false → x.1.length ≤ 24 ∧ antiB x.2.1 = true ∧ ∀ p y, i = p + 1 → b[p]? = some y → ltT y.1 x.1 = true) ∧ Frm [] wr wx)
   case first =>
    by_cases hlong : 24 < x.1.length
    ·have k1 : (24 : Int) < (x.1.length : Int) := by omega
     go_wp2_with fail
     go_meet
     exact ⟨_, rfl, (fun _ hv => by have := (hv.ent x (List.mem_of_getElem? HX.out)).short; omega), (by simp), Frm.refl _ _⟩
    ·have k1 : ¬ (24 : Int) < (x.1.length : Int) := by omega
     have HSH : Hid (x.1.length ≤ 24) := Lib.hid (by omega)
     have HAB : Hid (antiB x.2.1 = false → ¬ VB b) := Lib.hid fun e hv => by
      have h9 := antiB_iff.2 (hv.ent x (List.mem_of_getElem? HX.out)).anti
      rw [e] at h9
      cases h9
     rcases (show i = 0 ∨ ∃ p, i = p + 1 by cases i; exact .inl rfl; exact .inr ⟨_, rfl⟩) with hi0 | ⟨p, hip⟩
     ·have j0 : ¬ (0 : Int) < (i : Int) := by omega
      have j0n : ¬ 0 < i := by omega
      have HI0 := Lib.hid hi0
      clear hi0 hlong
      go_wp2_with (first | (go_at_call 49; refine (HAN.out _ (Frm.refl _ _)).mono ?_; rintro e5 w5 ⟨rfl, hf5⟩) | fail)
      go_meet
      refine ⟨_, rfl, fun e => HAB.out (by simpa using e), fun e => ⟨HSH.out, by simpa using e, fun p9 y9 h9 => by have := HI0.out; omega⟩, hf5⟩
     ·obtain ⟨y, hy⟩ : ∃ y, b[p]? = some y := ⟨_, List.getElem?_eq_getElem (by omega)⟩
      obtain ⟨b', o', ya, yc, _, _, e9, c0, _, _, yt, _⟩ := HAT.out wr HF.out p y hy
      obtain ⟨rfl, rfl⟩ : b1 = b' ∧ o1 = o' := by simpa using e9
      have j1 : (0 : Int) < (i : Int) := by omega
      have j1n : 0 < i := by omega
      have j2 : IntKind.i64.wrap ((i : Int) - 1) = (p : Int) := by rw [IntWalk.i64_in _ (by omega)]; omega
      have j3 : (0 : Int) ≤ (p : Int) := by omega
      have j6 : (p : Int) < (b.length : Int) := by omega
      have HYY := Lib.hid hy
      have HIP := Lib.hid hip
      have hls := refLess_any wr _ _ y.1 x.1 yt (XT.out _ (Frm.refl _ _))
      clear hip hy yt e9 hlong
      cases hr2 : ltT y.1 x.1 with
      | false =>
       rw [hr2] at hls
       have HLS := Lib.hid hls
       have HR2 := Lib.hid hr2
       clear hls hr2
       go_wp2_with (first | (go_at_call 25; refine HLS.out.mono ?_; rintro e5 w5 ⟨rfl, hf5⟩) | fail)
       go_meet
       refine ⟨_, rfl, fun e hv => ?_, by simp, hf5⟩
       have h9 := hv.asc p y x HYY.out (by rw [← HIP.out]; exact HX.out)
       rw [HR2.out] at h9
       cases h9
      | true =>
       rw [hr2] at hls
       have HLS := Lib.hid hls
       have HR2 := Lib.hid hr2
       clear hls hr2
       go_wp2_with (first | (go_at_call 25; refine HLS.out.mono ?_; rintro e5 w5 ⟨rfl, hf5⟩; have c1' := C1.out _ hf5) | (go_at_call 49; refine (HAN.out _ hf5).mono ?_; rintro e6 w6 ⟨rfl, hf6⟩) | fail)
       go_meet
       refine ⟨_, rfl, fun e => HAB.out (by simpa using e), fun e => ⟨HSH.out, by simpa using e, fun p9 y9 hp9 hy9 => ?_⟩, hf5.trans hf6 (by simp)⟩
       obtain rfl : p = p9 := by have := HIP.out; omega
       have e9 := HYY.out.symm.trans hy9
       cases e9
       exact HR2.out
   case rest =>
    obtain ⟨bb, rfl, hb1, hb2, hFX⟩ := hcut
    cases bb with
    | true =>
     have HN : Hid (vbB b = false) := Lib.hid (vbB_no (hb1 rfl))
     clear hb1 hb2
     go_wp2_with fail
     go_ret
     exact ⟨by rw [HN.out]; rfl, HF.out.trans hFX (by simp)⟩
    | false =>
     obtain ⟨h5, h6, h7⟩ := hb2 rfl
     have HSH := Lib.hid h5
     have HAB := Lib.hid (antiB_iff.1 h6)
     have HLT := Lib.hid h7
     have FX := Lib.hid hFX
     have hsh : (x.1.length : Int) ≤ 24 := by omega
     clear hb1 hb2 h5 h6 h7 hFX x0 x1 HAN
     go_wp2_with fail
     obtain ⟨wx, hwx⟩ : ∃ wx, wx = wr := ⟨wr, rfl⟩
     rw [← hwx] at HF FX XT XL C1
     clear hwx
     go_loopg [5] x.1.length (fun q t5 wr => ∃ (k : Nat), q = x.1.length - k ∧ k ≤ x.1.length ∧ t5 = .int .i64 k ∧ (∀ e ∈ x.1.take k, 1 ≤ e ∧ e ≤ 1025) ∧ Frm [] wx wr)
     case atStart => exact ⟨0, rfl, Nat.zero_le _, rfl, by simp, FX.out⟩
     case round =>
      clear FX
      obtain ⟨k, hq2, hk, rfl, hd2, hF2⟩ := hrel
      have HQ2 := Lib.hid hq2
      have F2 := Lib.hid hF2
      have HD2 := Lib.hid hd2
      have k4 : (0 : Int) ≤ (k : Int) := by omega
      clear hq2 hF2 hd2
      by_cases hlt2 : k < x.1.length
      ·have k5 : (k : Int) < (x.1.length : Int) := by omega
       obtain ⟨e, he⟩ : ∃ e, x.1[k]? = some e := ⟨_, List.getElem?_eq_getElem hlt2⟩
       obtain ⟨gt, ot, rfl, _, ce⟩ := (XT.out wr F2.out).rd.at he
       have HE := Lib.hid he
       clear he
       by_cases he1 : e < 1
       ·have HN : Hid (vbB b = false) := Lib.hid (vbB_no (fun hv => by
         have := visB_iff.1 (hv.ent x (List.mem_of_getElem? HX.out)).vis e (List.mem_of_getElem? HE.out)
         omega))
        go_wp2_with fail
        go_ret
        exact ⟨by rw [HN.out]; rfl, HF.out.trans F2.out (by simp)⟩
       ·by_cases he2 : 1025 < e
        ·have HN : Hid (vbB b = false) := Lib.hid (vbB_no (fun hv => by
          have := visB_iff.1 (hv.ent x (List.mem_of_getElem? HX.out)).vis e (List.mem_of_getElem? HE.out)
          omega))
         go_wp2_with fail
         go_ret
         exact ⟨by rw [HN.out]; rfl, HF.out.trans F2.out (by simp)⟩
        ·have HEE : Hid (1 ≤ e ∧ e ≤ 1025) := Lib.hid (by omega)
         go_wp2_with fail
         go_roundg (x.1.length - (k + 1))
         case rel => exact ⟨k + 1, rfl, by omega, by go_num, (fun z hz => by
          rw [take_snoc HE.out] at hz
          rcases List.mem_append.1 hz with h9 | h9
          ·exact HD2.out z h9
          ·rw [List.mem_singleton.1 h9]; exact HEE.out), F2.out⟩
         case measure => have := HQ2.out; omega
      ·have k5 : ¬ (k : Int) < (x.1.length : Int) := by omega
       have HVT : Hid (visB x.1 = true) := Lib.hid (visB_iff.2 (fun e he => HD2.out e (by rw [List.take_of_length_le (by omega)]; exact he)))
       clear HD2
       go_wp2_with fail
       go_loopg [6] x.2.1.length (fun q t6 wr => ∃ (m : Nat), q = x.2.1.length - m ∧ m ≤ x.2.1.length ∧ t6 = .int .i64 m ∧ (∀ y ∈ x.2.1.take m, visB y = true) ∧ Frm [] wx wr)
       case atStart => exact ⟨0, rfl, Nat.zero_le _, rfl, by simp, F2.out⟩
       case round =>
        clear F2 HQ2
        obtain ⟨m, hq3, hm, rfl, hd3, hF3⟩ := hrel
        have HQ3 := Lib.hid hq3
        have F3 := Lib.hid hF3
        have HD3 := Lib.hid hd3
        have m4 : (0 : Int) ≤ (m : Int) := by omega
        have c1 := C1.out _ hF3
        clear hq3 hF3 hd3 k4 k5
        by_cases hlt3 : m < x.2.1.length
        ·have m5 : (m : Int) < (x.2.1.length : Int) := by omega
         obtain ⟨y, hy⟩ : ∃ y, x.2.1[m]? = some y := ⟨_, List.getElem?_eq_getElem hlt3⟩
         obtain ⟨b3, o3, d3, ya, yc, e3, y1, y2⟩ := (XL.out wr F3.out).at_ hy
         obtain ⟨rfl, rfl⟩ : la = some ⟨b3, o3, none⟩ ∧ lc = d3 := by simpa using e3
         have ly := y2.rd.lt
         have HY := Lib.hid hy
         have hasc := HAB.out.rise y (List.mem_of_getElem? hy)
         have hve := visB_ends hasc
         clear e3 hy hasc
         by_cases hy0 : y.length = 0
         ·have n1 : ¬ (0 : Int) < (y.length : Int) := by omega
          have HVY : Hid (visB y = true) := Lib.hid (by rw [List.eq_nil_of_length_eq_zero hy0]; rfl)
          clear hve y2
          go_wp2_with fail
          go_roundg (x.2.1.length - (m + 1))
          case rel => exact ⟨m + 1, rfl, by omega, by go_num, (fun z hz => by
           rw [take_snoc HY.out] at hz
           rcases List.mem_append.1 hz with h9 | h9
           ·exact HD3.out z h9
           ·rw [List.mem_singleton.1 h9]; exact HVY.out), F3.out⟩
          case measure => have := HQ3.out; omega
         ·have n1 : (0 : Int) < (y.length : Int) := by omega
          obtain ⟨f, hf⟩ : ∃ f, y[0]? = some f := ⟨_, List.getElem?_eq_getElem (by omega)⟩
          obtain ⟨z, hz⟩ : ∃ z, y[y.length - 1]? = some z := ⟨_, List.getElem?_eq_getElem (by omega)⟩
          obtain ⟨gy, oy, rfl, _, cf⟩ := y2.rd.at hf
          obtain ⟨gy', oy', e8, _, cz⟩ := y2.rd.at hz
          obtain ⟨rfl, rfl⟩ : gy = gy' ∧ oy = oy' := by simpa using e8
          rw [Nat.add_zero] at cf
          have n2 : IntKind.i64.wrap ((y.length : Int) - 1) = ((y.length - 1 : Nat) : Int) := by rw [IntWalk.i64_in _ (by omega)]; omega
          have n3 : ((y.length - 1 : Nat) : Int) < (y.length : Int) := by omega
          have n4 : (0 : Int) ≤ ((y.length - 1 : Nat) : Int) := by omega
          have hhead : y.head? = some f := by rw [List.head?_eq_getElem?]; exact hf
          have hlast : y.getLast? = some z := by rw [List.getLast?_eq_getElem?]; exact hz
          have HVE : Hid (visB y = true ↔ (1 ≤ f ∧ z ≤ 1025)) := Lib.hid (hve.trans ⟨fun h => h f z hhead hlast, fun h a c ha hc => by
           rw [hhead] at ha
           rw [hlast] at hc
           cases ha
           cases hc
           exact h⟩)
          have HNV : Hid (¬ (1 ≤ f ∧ z ≤ 1025) → vbB b = false) := Lib.hid fun hn => vbB_no (fun hv => hn (HVE.out.1 ((hv.ent x (List.mem_of_getElem? HX.out)).acc y (List.mem_of_getElem? HY.out))))
          clear hve y2 e8 hf hz hhead hlast hy0
          by_cases hf1 : f < 1
          ·have HN := Lib.hid (HNV.out (by omega))
           go_wp2_with fail
           go_ret
           exact ⟨by rw [HN.out]; rfl, HF.out.trans F3.out (by simp)⟩
          ·by_cases hz1 : 1025 < z
           ·have HN := Lib.hid (HNV.out (by omega))
            go_wp2_with fail
            go_ret
            exact ⟨by rw [HN.out]; rfl, HF.out.trans F3.out (by simp)⟩
           ·have HVY := Lib.hid (HVE.out.2 (by omega))
            go_wp2_with fail
            go_roundg (x.2.1.length - (m + 1))
            case rel => exact ⟨m + 1, rfl, by omega, by go_num, (fun u hu => by
             rw [take_snoc HY.out] at hu
             rcases List.mem_append.1 hu with h9 | h9
             ·exact HD3.out u h9
             ·rw [List.mem_singleton.1 h9]; exact HVY.out), F3.out⟩
            case measure => have := HQ3.out; omega
        ·have m5 : ¬ (m : Int) < (x.2.1.length : Int) := by omega
         have HOK : Hid (EntOk x) := Lib.hid ⟨HSH.out, HVT.out, fun y hy => HD3.out y (by rw [List.take_of_length_le (by omega)]; exact hy), HAB.out⟩
         clear HD3
         by_cases hx0 : x.1.length = 0
         ·have n1 : ¬ (0 : Int) < (x.1.length : Int) := by omega
          have HNX := Lib.hid (HD.out.next HX.out HOK.out HLT.out (fun hne => absurd (List.eq_nil_of_length_eq_zero hx0) hne))
          clear hx0
          go_wp2_with fail
          go_roundg (b.length - (i + 1))
          case rel => exact ⟨i + 1, rfl, by omega, by go_num, HNX.out, HF.out.trans F3.out (by simp)⟩
          case measure => have := HQ.out; omega
         ·have n1 : (0 : Int) < (x.1.length : Int) := by omega
          have n2 : IntKind.i64.wrap ((x.1.length : Int) - 1) = ((x.1.length - 1 : Nat) : Int) := by rw [IntWalk.i64_in _ (by omega)]; omega
          have n3 : ((x.1.length - 1 : Nat) : Int) ≤ (tc : Int) := by omega
          have n4 : (0 : Int) ≤ ((x.1.length - 1 : Nat) : Int) := by omega
          have n5 : x.1.length - 1 ≤ tc := by omega
          have hne : x.1 ≠ [] := fun e => hx0 (by rw [e]; rfl)
          have hdr := row_drop (XT.out wr F3.out) hne
          have hfd := refFind_any wr _ _ b x.1.dropLast (H.out.nil (HF.out.trans F3.out (by simp))) hdr
          unfold FindEnd at hfd
          have HNE := Lib.hid hne
          clear hx0 hne hdr
          cases hfe : findE b x.1.dropLast with
          | some y =>
           rw [hfe] at hfd
           dsimp only at hfd
           have HFD := Lib.hid hfd
           have HNX := Lib.hid (HD.out.next HX.out HOK.out HLT.out (fun _ => findE_isSome.1 ⟨y, hfe⟩))
           clear hfd hfe
           go_wp2_with (first | (go_at_call 41; refine HFD.out.mono ?_; rintro e5 w5 ⟨⟨ya, yc, za, zc, rfl, _, _⟩, hf5⟩) | fail)
           go_roundg (b.length - (i + 1))
           case rel => exact ⟨i + 1, rfl, by omega, by go_num, HNX.out, ((HF.out.trans F3.out (by simp)).trans hf5 (by simp)).alloc _⟩
           case measure => have := HQ.out; omega
          | none =>
           rw [hfe] at hfd
           dsimp only at hfd
           have HFD := Lib.hid hfd
           have HN : Hid (vbB b = false) := Lib.hid (vbB_no (fun hv => by
            obtain ⟨y, hy⟩ := findE_isSome.2 (hv.pre x (List.mem_of_getElem? HX.out) HNE.out)
            rw [hfe] at hy
            cases hy))
           clear hfd hfe
           go_wp2_with (first | (go_at_call 41; refine HFD.out.mono ?_; rintro e5 w5 ⟨rfl, hf5⟩) | fail)
           go_ret
           exact ⟨by rw [HN.out]; rfl, ((HF.out.trans F3.out (by simp)).trans hf5 (by simp)).alloc _⟩
  ·have i5 : ¬ (i : Int) < (b.length : Int) := by omega
   have HV : Hid (vbB b = true) := Lib.hid (vbB_iff.2 (RvTo.vb (by have := HD.out; rwa [show i = b.length by omega] at this) HH.out))
   go_wp2_with fail
   go_ret
   exact ⟨by rw [HV.out]; rfl, HF.out⟩
end Go.Proofs.YtikpcipkkhmcfaaGreat.Beh

/- Contracts of behaves and sane of the law. -/
namespace Go.Proofs.YtikpcipkkhmcfaaGreat.Beh
open Go.Shelf Go.RowKit Go.Lib Go.Sort Go.Maps Go.Proofs.YtikpcipkkhmcfaaGreat Go.Proofs.YtikpcipkkhmcfaaGreat.Ind

theorem ex_lat (w : World) : LAt ((w.alloc (.cells #[.int .i64 2, .int .i64 1] 66)).alloc (.cells #[.slice (some ⟨w.heap.size, 0, none⟩) 1 1, .slice none 0 0] 63)).heap.size ((w.alloc (.cells #[.int .i64 2, .int .i64 1] 66)).alloc (.cells #[.slice (some ⟨w.heap.size, 0, none⟩) 1 1, .slice none 0 0] 63)) (some ⟨w.heap.size + 1, 0, none⟩) 2 exS := by
 have r0 := (RowAt.made w 66 [.int .i64 2, .int .i64 1] #[.int .i64 2, .int .i64 1] rfl).alloc (.cells #[.slice (some ⟨w.heap.size, 0, none⟩) 1 1, .slice none 0 0] 63)
 have r1 := row_made1 w (.cells #[.int .i64 2, .int .i64 1] 66) 63 [.slice (some ⟨w.heap.size, 0, none⟩) 1 1, .slice none 0 0] #[.slice (some ⟨w.heap.size, 0, none⟩) 1 1, .slice none 0 0] rfl
 refine ⟨by decide, by decide, by decide, fun i row hi => ?_⟩
 match i, hi with
 | 0, hi =>
  cases hi
  refine ⟨w.heap.size + 1, 0, some ⟨w.heap.size, 0, none⟩, 1, rfl, by simp, r1.cell (i := 0) rfl, by decide, by decide, by decide, fun j e t hj => ?_⟩
  match j, hj with
  | 0, hj =>
   cases hj
   exact ⟨w.heap.size, 0, rfl, by simp; omega, r0.cell (i := 0) rfl, r0.cell (i := 1) rfl⟩
  | j + 1, hj => simp at hj
 | 1, hi =>
  cases hi
  refine ⟨w.heap.size + 1, 0, none, 0, rfl, by simp, r1.cell (i := 1) rfl, by decide, by decide, by decide, fun j e t hj => ?_⟩
  simp at hj
 | i + 2, hi => simp [exS] at hi
set_option linter.unusedSimpArgs false in
set_option maxRecDepth 100000 in
set_option maxHeartbeats 4000000 in
theorem sane_any (w : World) : Calls Tryz.prog 16 #[] w fun e w' => e = .returned (.bool true) ∧ Frm [] w w' := by
 have hl := ex_lat w
 have F0 := Lib.hid (((Frm.refl [] w).alloc (.cells #[.int .i64 2, .int .i64 1] 66)).alloc (.cells #[.slice (some ⟨w.heap.size, 0, none⟩) 1 1, .slice none 0 0] 63))
 have hof := of_any _ [] _ _ 2 exS 2 hl (by simp)
 have hof2 := hof.mono fun _ _ h => h.res
 rw [ex_of] at hof2
 have HOF := Lib.hid hof2
 clear hl hof hof2
 go_enter Tryz.func16, Tryz.ntmps16
 go_wp2_with (first
  | (go_at_call 30; refine HOF.out.mono ?_; rintro e1 w1 ⟨⟨a1, c1, rfl, hb1⟩, hf1⟩; have F1 := Lib.hid (F0.out.trans hf1 (by simp)); have A1 := Lib.hid hb1; clear hb1 hf1)
  | fail)
 have S := ((((((Sep.start w1).box w1.heap.size rfl 3 [.int .i64 2] #[.int .i64 2] rfl).box (w1.heap.size + 1) (by simp) 22 [.slice (some ⟨w1.heap.size, 0, none⟩) 1 1] #[.slice (some ⟨w1.heap.size, 0, none⟩) 1 1] rfl).box (w1.heap.size + 1 + 1) (by simp) 3 [.int .i64 2] #[.int .i64 2] rfl).box (w1.heap.size + 1 + 1 + 1) (by simp) 3 [] #[] rfl).box (w1.heap.size + 1 + 1 + 1 + 1) (by simp) 22 [.slice (some ⟨w1.heap.size + 1 + 1 + 1, 0, none⟩) 0 0] #[.slice (some ⟨w1.heap.size + 1 + 1 + 1, 0, none⟩) 0 0] rfl).box (w1.heap.size + 1 + 1 + 1 + 1 + 1) (by simp) 69 [.slice none 0 0, .slice (some ⟨w1.heap.size + 1, 0, none⟩) 1 1, .bool false, .slice (some ⟨w1.heap.size + 1 + 1, 0, none⟩) 1 1, .slice (some ⟨w1.heap.size + 1 + 1 + 1 + 1, 0, none⟩) 1 1, .bool false] #[.slice none 0 0, .slice (some ⟨w1.heap.size + 1, 0, none⟩) 1 1, .bool false, .slice (some ⟨w1.heap.size + 1 + 1, 0, none⟩) 1 1, .slice (some ⟨w1.heap.size + 1 + 1 + 1 + 1, 0, none⟩) 1 1, .bool false] rfl
 generalize World.alloc (World.alloc (World.alloc (World.alloc (World.alloc (World.alloc w1 _) _) _) _) _) _ = W at *
 have hbeh : BehAt W [] (.slice (some ⟨w1.heap.size + 1 + 1 + 1 + 1 + 1, 0, none⟩) 2 2) exB := by
  refine ⟨[((.slice none 0 0, .slice (some ⟨w1.heap.size + 1, 0, none⟩) 1 1), ([], [[2]], false)), ((.slice (some ⟨w1.heap.size + 1 + 1, 0, none⟩) 1 1, .slice (some ⟨w1.heap.size + 1 + 1 + 1 + 1, 0, none⟩) 1 1), ([2], [[]], false))], rfl, rowV_cells (size := 3) (S.at_ 0 rfl) rfl (Nat.le_refl _) (by decide) (by simp), fun p hp => ?_⟩
  rcases List.mem_cons.1 hp with rfl | hp
  ·refine ⟨RowV.nil0 _ _ _, [(.slice (some ⟨w1.heap.size, 0, none⟩) 1 1, [2])], rfl, rowV_cells (size := 1) (S.at_ 4 rfl) rfl (Nat.le_refl _) (by decide) (by simp), fun q hq => ?_⟩
   rw [List.mem_singleton.1 hq]
   exact rowV_cells (size := 1) (S.at_ 5 rfl) rfl (Nat.le_refl _) (by decide) (by simp)
  ·rw [List.mem_singleton.1 hp]
   refine ⟨rowV_cells (size := 1) (S.at_ 3 rfl) rfl (Nat.le_refl _) (by decide) (by simp), [(.slice (some ⟨w1.heap.size + 1 + 1 + 1, 0, none⟩) 0 0, [])], rfl, rowV_cells (size := 1) (S.at_ 1 rfl) rfl (Nat.le_refl _) (by decide) (by simp), fun q hq => ?_⟩
   rw [List.mem_singleton.1 hq]
   exact RowV.zero W [] _ 0 0 1 rfl (by decide)
 have HBH := Lib.hid hbeh
 have FW := Lib.hid S.frm
 clear hbeh S
 refine (refSame_any W _ _ exB exB (A1.out.nil FW.out) HBH.out).mono ?_
 rintro e3 w3 ⟨he3, hf3⟩
 rw [decide_eq_true rfl] at he3
 subst he3
 go_wp2_with fail
 go_ret
 exact ⟨rfl, (F1.out.trans FW.out (by simp)).trans hf3 (by simp)⟩
end Go.Proofs.YtikpcipkkhmcfaaGreat.Beh

/- BehaviorValid of the law answers true. -/
namespace Go.Proofs.YtikpcipkkhmcfaaGreat.Beh
open Go.Shelf Go.RowKit Go.Lib Go.Sort Go.Maps Go.Proofs.YtikpcipkkhmcfaaGreat Go.Proofs.YtikpcipkkhmcfaaGreat.Ind

set_option linter.unusedSimpArgs false in
set_option maxRecDepth 100000 in
set_option maxHeartbeats 8000000 in
theorem valid_walk (ta : Option Addr) (tcap : Nat) (xs : List Int) (v : Value) (b0 : List En) (u1 : Value) (t1 : List Int) (u2 : Value) (t2 : List Int) (w : World) (ht : Rd w.heap.size w ta xs.length tcap 1 (ints xs)) (hx : ∀ x ∈ xs, -9223372036854775808 ≤ x ∧ x ≤ 9223372036854775807) (hb0 : BehAt w [] v b0) (hfit0 : Fits b0) (hu1 : RowV w [] u1 t1.length 1 (ints t1)) (_ : t1.length ≤ 17592186044416) (hu2 : RowV w [] u2 t2.length 1 (ints t2)) (_ : t2.length ≤ 17592186044416) :
  Calls Tryz.prog 5 #[.slice ta xs.length tcap, v, u1, u2] w fun e w' => e = .returned (.bool true) ∧ Frm [] w w' := by
 obtain ⟨va, vc, rfl⟩ := hb0.shape
 obtain ⟨ua1, uc1, rfl⟩ := hu1.shape
 obtain ⟨ua2, uc2, rfl⟩ := hu2.shape
 have hnew := tape_new w.heap.size ta tcap xs _ ht hx
 have hbl0 := beh_few hb0
 have hul1 := hu1.rd.lt
 have hul2 := hu2.rd.lt
 have HB0 := Lib.hid hb0
 have HU1 := Lib.hid hu1
 have HU2 := Lib.hid hu2
 have HFIT0 := Lib.hid hfit0
 clear ht hx hb0 hu1 hu2 hfit0
 go_enter Tryz.func5, Tryz.ntmps5
 go_wp2_with fail
 refine hnew.mono ?_
 rintro e1 w1 ⟨rfl, hf1, hT1, hsz1⟩
 have HF1 := Lib.hid hf1
 have HT1 := Lib.hid hT1
 clear hnew hf1 hT1
 go_wp2_with fail
 go_loopg [10] 4 (fun q i wr => ∃ (j : Nat), q = 4 - j ∧ j ≤ 4 ∧ i = .int .i64 (j : Int) ∧ TapeOk w.heap.size wr w.heap.size (20000 * j) ∧ Frm [w.heap.size] w1 wr)
 case atStart => exact ⟨0, rfl, Nat.zero_le _, rfl, HT1.out, Frm.refl _ _⟩
 case round =>
  obtain ⟨j, rfl, hj, rfl, hT, hF⟩ := hrel
  have HT := Lib.hid hT
  have HF := Lib.hid hF
  have hszr := hF.size
  have i4 : (0 : Int) ≤ (j : Int) := by omega
  clear hT hF
  by_cases hj5 : j < 4
  ·have i5 : (j : Int) < 4 := by omega
   go_wp2_with fail
   refine (chain_any w.heap.size w.heap.size (20000 * j) 4 wr HT.out (Nat.le_refl _) (by omega) (by omega) (by omega)).mono ?_
   rintro e5 w5 ⟨x, g, rfl, hg, hM, hS, hT5, hf5⟩
   have hfew := hS.few
   have hrows2 : ∀ row ∈ x, row.length ≤ 140737488355328 := fun row hr => by
    have := (sys_rows hS row hr).2.2
    omega
   obtain ⟨b, hres, hfb, hbl, hbp, hvb, -⟩ := of_resN (n := 2) hS (by decide) (by decide) (by decide) (by decide)
   have hsz5 := hf5.size
   have hdr := draw_any w5.heap.size [w.heap.size] w5 (.pointer (some ⟨w.heap.size, 0, none⟩)) _ _ x ((2 : Nat) : Int) (hM.lat (by omega) hrows2) (fun k hk => by simp at hk; omega)
   rw [hres] at hdr
   have HDR := Lib.hid hdr
   have HT5 := Lib.hid hT5
   have HF5 := Lib.hid (HF.out.trans hf5 (fun k hk => .inl hk))
   have HFB := Lib.hid hfb
   have HVB := Lib.hid (vbB_iff.2 hvb)
   clear hdr hM hS hT5 hf5 hres hfb hvb hrows2 hfew
   go_wp2_with fail
   refine HDR.out.mono ?_
   rintro e6 w6 ⟨⟨a6, c6, rfl, hb6⟩, hf6⟩
   have hb9 : BehAt w6 [w.heap.size] (.slice a6 b.length c6) b := hb6
   have HBEH : Hid (∀ W, Frm [w.heap.size] w6 W → BehAt W [w.heap.size] (.slice a6 b.length c6) b) := Lib.hid fun W hf => hb9.step hf (fun k hk => .inl hk) (fun k hk => .inl hk)
   have hs6 := hf6.size
   have HF6 := Lib.hid (HF5.out.trans hf6 (by simp))
   have HT6 := Lib.hid (HT5.out.nil hf6)
   clear hb6 hb9 hf6 HDR HT5
   go_wp2_with fail
   refine (spoilB_any w.heap.size w.heap.size (20000 * j + 2000) [w.heap.size] w6 _ b (HBEH.out _ (Frm.refl _ _)) HT6.out (Nat.le_refl _) (by omega) (by simp) (fun k hk => by simp at hk; omega) (by omega) (by omega) HFB.out).mono ?_
   rintro e7 w7 ⟨a7, c7, d, rfl, hd7, hfit7, hdl, hT7, hf7⟩
   have HT7 := Lib.hid hT7
   have F7 := Lib.hid hf7
   have HD7 : Hid (∀ W, Frm [] w7 W → BehAt W [w.heap.size] (.slice a7 d.length c7) d) := Lib.hid fun W hf => hd7.nil hf
   have HDF := Lib.hid (hfit7.fits (by decide))
   have HCV := validB_any w7 _ b (HBEH.out _ hf7) (HFB.out.fits (by decide))
   rw [HVB.out] at HCV
   have HCV := Lib.hid HCV
   have jn : (vbB d != vbB d) = false := by simp
   clear hT7 hf7 hd7 hfit7
   go_wp2_with (first
    | (go_at_call 22; refine (validB_any w8 _ d (HD7.out _ hf8) HDF.out).mono ?_; rintro e9 w9 ⟨rfl, hf9⟩; have f9 := hf8.trans hf9 (by simp))
    | (go_at_call 22; refine HCV.out.mono ?_; rintro e8 w8 ⟨rfl, hf8⟩)
    | (go_at_call 23; refine (refValidB_any w9 _ d (HD7.out _ f9)).mono ?_; rintro e10 w10 ⟨rfl, hf10⟩; have f10 := f9.trans hf10 (by simp))
    | fail)
   have HT10 := Lib.hid (HT7.out.nil f10)
   have F10 := Lib.hid (F7.out.trans f10 (by simp))
   clear f10 f9 hf8 hf9 hf10 HCV HD7
   refine (trace_any w.heap.size w.heap.size (20000 * j + 2000 + 2) 4 w10 HT10.out (Nat.le_refl _) (by omega) (by omega)).mono ?_
   rintro e11 w11 ⟨a11, c11, y11, rfl, hy11, own11, hT11, hf11⟩
   have HO11 := Lib.hid own11
   have HT11 := Lib.hid hT11
   have F11 := Lib.hid (F10.out.trans hf11 (fun k hk => .inl hk))
   have hs11 := hf11.size
   have hs10 := F10.out.size
   clear own11 hT11 hf11
   go_wp2_with fail
   refine (trace_any w.heap.size w.heap.size (20000 * j + 2000 + 2 + 2000) 4 w11 HT11.out (Nat.le_refl _) (by omega) (by omega)).mono ?_
   rintro e12 w12 ⟨a12, c12, y12, rfl, hy12, own12, hT12, hf12⟩
   have HO12 := Lib.hid (rowV_of_owns (F := []) own12 (by simp))
   have HT12 := Lib.hid hT12
   have HO11 := Lib.hid (rowV_of_owns (F := []) (ownsB_frm HO11.out hf12 (fun q hq hm => by have := (HO11.out.lt q hq).1; simp at hm; omega)) (by simp))
   have F12 := Lib.hid (F11.out.trans hf12 (fun k hk => .inl hk))
   have jl : (ltT y11 y12 != ltT y11 y12) = false := by simp
   clear own12 hT12 hf12
   go_wp2_with (first
    | (go_at_call 24; refine (lessB_any w12 _ _ y11 y12 HO11.out HO12.out).mono ?_; rintro e13 w13 ⟨rfl, hf13⟩)
    | (go_at_call 25; refine (refLess_any w13 _ _ y11 y12 (HO11.out.nil hf13) (HO12.out.nil hf13)).mono ?_; rintro e14 w14 ⟨rfl, hf14⟩)
    | fail)
   go_roundg (4 - (j + 1))
   case rel => exact ⟨j + 1, rfl, hj5, by go_num, ((HT12.out.nil hf13).nil hf14).mono (by omega), ((HF6.out.trans F12.out (fun k hk => .inl hk)).trans hf13 (by simp)).trans hf14 (by simp)⟩
   case measure => omega
  ·have i5 : ¬ (j : Int) < 4 := by omega
   have HFW : Hid (Frm [w.heap.size] w wr) := Lib.hid ((HF1.out.mono (by simp)).trans HF.out (by simp))
   have HFIN : Hid (Frm [] w wr) := Lib.hid (HF1.out.trans HF.out (fun k hk => .inr (by simp at hk; omega)))
   have HBR : Hid (∀ W, Frm [] wr W → BehAt W [] (.slice va b0.length vc) b0) := Lib.hid fun W hf => (HB0.out.step (F' := []) HFW.out (fun k hk => .inr (by simp at hk; omega)) (by simp)).nil hf
   have HUR1 : Hid (∀ W, Frm [] wr W → RowV W [] (.slice ua1 t1.length uc1) t1.length 1 (ints t1)) := Lib.hid fun W hf => (HU1.out.step (F' := []) HFW.out (fun k hk => .inr (by simp at hk; omega)) (by simp)).nil hf
   have HUR2 : Hid (∀ W, Frm [] wr W → RowV W [] (.slice ua2 t2.length uc2) t2.length 1 (ints t2)) := Lib.hid fun W hf => (HU2.out.step (F' := []) HFW.out (fun k hk => .inr (by simp at hk; omega)) (by simp)).nil hf
   have HSA : Hid (∀ W, Calls Tryz.prog 16 #[] W fun e w' => e = .returned (.bool true) ∧ Frm [] W w') := Lib.hid sane_any
   clear hj5
   by_cases h6 : 12 < b0.length
   ·have i6 : (12 : Int) < (b0.length : Int) := by omega
    go_wp2_with (first | (go_at_call 16; refine (HSA.out _).mono ?_; rintro e5 w5 ⟨rfl, hf5⟩) | fail)
    go_ret
    exact ⟨rfl, HFIN.out.trans hf5 (by simp)⟩
   ·have i6 : ¬ (12 : Int) < (b0.length : Int) := by omega
    by_cases h7 : 30 < t1.length
    ·have i7 : (30 : Int) < (t1.length : Int) := by omega
     go_wp2_with (first | (go_at_call 16; refine (HSA.out _).mono ?_; rintro e5 w5 ⟨rfl, hf5⟩) | fail)
     go_ret
     exact ⟨rfl, HFIN.out.trans hf5 (by simp)⟩
    ·have i7 : ¬ (30 : Int) < (t1.length : Int) := by omega
     by_cases h8 : 30 < t2.length
     ·have i8 : (30 : Int) < (t2.length : Int) := by omega
      go_wp2_with (first | (go_at_call 16; refine (HSA.out _).mono ?_; rintro e5 w5 ⟨rfl, hf5⟩) | fail)
      go_ret
      exact ⟨rfl, HFIN.out.trans hf5 (by simp)⟩
     ·have i8 : ¬ (30 : Int) < (t2.length : Int) := by omega
      have jn : (vbB b0 == vbB b0) = true := by simp
      have jl : (ltT t1 t2 == ltT t1 t2) = true := by simp
      go_wp2_with (first
       | (go_at_call 22; refine (validB_any wr _ b0 (HBR.out _ (Frm.refl _ _)) HFIT0.out).mono ?_; rintro e9 w9 ⟨rfl, hf9⟩)
       | (go_at_call 23; refine (refValidB_any w9 _ b0 (HBR.out _ hf9)).mono ?_; rintro e10 w10 ⟨rfl, hf10⟩; have f10 := hf9.trans hf10 (by simp))
       | (go_at_call 24; refine (lessB_any w10 _ _ t1 t2 (HUR1.out _ f10) (HUR2.out _ f10)).mono ?_; rintro e11 w11 ⟨rfl, hf11⟩; have f11 := f10.trans hf11 (by simp))
       | (go_at_call 25; refine (refLess_any w11 _ _ t1 t2 (HUR1.out _ f11) (HUR2.out _ f11)).mono ?_; rintro e12 w12 ⟨rfl, hf12⟩; have f12 := f11.trans hf12 (by simp))
       | (go_at_call 16; refine (HSA.out _).mono ?_; rintro e13 w13 ⟨rfl, hf13⟩; have f13 := f12.trans hf13 (by simp))
       | fail)
      go_ret
      exact ⟨rfl, HFIN.out.trans f13 (by simp)⟩
end Go.Proofs.YtikpcipkkhmcfaaGreat.Beh
