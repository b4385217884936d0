/- diamond.subset: of two ascending lists. -/
import Derived.Test.YtikpcipkkhmcfaaGreatQ05
import Derived.Test.YtikpcipkkhmcfaaGreatQ01
namespace Go.Proofs.YtikpcipkkhmcfaaGreat.Beh
open Go.RowKit Go.Lib Go.Proofs.YtikpcipkkhmcfaaGreat Go.Proofs.YtikpcipkkhmcfaaGreat.Ind

theorem sub_skip {x y : Int} {r s : List Int} (hr : (x :: r).Pairwise (· < ·)) (h : y < x) : subI (x :: r) (y :: s) = subI (x :: r) s := by
 rw [Bool.eq_iff_iff, subI_iff, subI_iff]
 constructor
 ·intro h1 z hz
  rcases List.mem_cons.1 (h1 z hz) with e | e
  ·exfalso
   subst e
   rcases List.mem_cons.1 hz with e2 | e2
   ·omega
   ·have := (List.pairwise_cons.1 hr).1 z e2
    omega
  ·exact e
 ·exact fun h1 z hz => List.mem_cons_of_mem _ (h1 z hz)
theorem sub_empty (x : Int) (r : List Int) : subI (x :: r) [] = false := by simp [subI]
theorem sub_miss {x y : Int} {r s : List Int} (hs : (y :: s).Pairwise (· < ·)) (h : x < y) : subI (x :: r) (y :: s) = false := by
 rw [Bool.eq_false_iff]
 intro h1
 rw [subI_iff] at h1
 rcases List.mem_cons.1 (h1 x (by simp)) with e | e
 ·omega
 ·have := (List.pairwise_cons.1 hs).1 x e
  omega
theorem sub_hit (x : Int) (r s : List Int) : subI (x :: r) (x :: s) = subI r (x :: s) := by
 rw [Bool.eq_iff_iff, subI_iff, subI_iff]
 constructor
 ·exact fun h1 z hz => h1 z (List.mem_cons_of_mem _ hz)
 ·intro h1 z hz
  rcases List.mem_cons.1 hz with e | e
  ·subst e; simp
  ·exact h1 z e
theorem pair_drop {l : List Int} (h : l.Pairwise (· < ·)) (k : Nat) : (l.drop k).Pairwise (· < ·) := h.sublist (List.drop_sublist k l)
set_option maxRecDepth 100000 in
set_option maxHeartbeats 2000000 in
theorem dsubset_any {F G : List Nat} (w : World) (u v : Value) (a b : List Int) (h1 : RowV w F u a.length 1 (ints a)) (h2 : RowV w G v b.length 1 (ints b)) (ha : a.Pairwise (· < ·)) (hb : b.Pairwise (· < ·)) :
  Calls Tryz.prog 105 #[u, v] w fun e w' => e = .returned (.bool (subI a b)) ∧ Frm [] w w' := by
 obtain ⟨aa, ac, rfl⟩ := RowV.shape h1
 obtain ⟨ba, bc, rfl⟩ := RowV.shape h2
 have l1 := h1.rd.lt
 have l2 := h2.rd.lt
 have H1 := Lib.hid h1
 have H2 := Lib.hid h2
 have HA := Lib.hid ha
 have HB := Lib.hid hb
 clear h1 h2 ha hb
 go_enter Tryz.func105, Tryz.ntmps105
 go_wp2_with fail
 go_loopg [5, 10] a.length (fun q t5 t10 wr => ∃ (i k : Nat), q = a.length - i ∧ i ≤ a.length ∧ k ≤ b.length ∧ t5 = .int .i64 k ∧ t10 = .int .i64 i ∧ subI (a.drop i) (b.drop k) = subI a b ∧ Frm [] w wr)
 case atStart => exact ⟨0, 0, rfl, Nat.zero_le _, Nat.zero_le _, rfl, rfl, rfl, Frm.refl _ _⟩
 case round =>
  obtain ⟨i, k, hq, hi, hk, rfl, rfl, hd, hF⟩ := hrel
  have HQ := Lib.hid hq
  have HF := Lib.hid hF
  have HD := Lib.hid hd
  have i4 : (0 : Int) ≤ (i : Int) := by omega
  clear hq hF hd
  by_cases hlt : i < a.length
  ·have i5 : (i : Int) < (a.length : Int) := by omega
   obtain ⟨x, hx⟩ : ∃ x, a[i]? = some x := ⟨_, List.getElem?_eq_getElem hlt⟩
   obtain ⟨g, o, rfl, _, c1⟩ := H1.out.rd.at hx
   have d1 := HF.out.cell c1 (by simp)
   have HX := Lib.hid hx
   clear c1 hx
   go_wp2_with fail
   go_loopg [5] (b.length - k) (fun q t5 wr2 => ∃ (k : Nat), q = b.length - k ∧ k ≤ b.length ∧ t5 = .int .i64 k ∧ subI (a.drop i) (b.drop k) = subI a b ∧ Frm [] w wr2)
   case atStart => exact ⟨k, rfl, hk, rfl, HD.out, HF.out⟩
   case round =>
    clear HD HF d1
    obtain ⟨k, hq2, hk, rfl, hd, hF⟩ := hrel
    have HQ2 := Lib.hid hq2
    have HF := Lib.hid hF
    have j4 : (0 : Int) ≤ (k : Int) := by omega
    rw [drop_cons HX.out] at hd
    clear hq2 hF
    by_cases hlt2 : k < b.length
    ·have j5 : (k : Int) < (b.length : Int) := by omega
     obtain ⟨y, hy⟩ : ∃ y, b[k]? = some y := ⟨_, List.getElem?_eq_getElem hlt2⟩
     obtain ⟨g2, o2, rfl, _, c2⟩ := H2.out.rd.at hy
     have d2 := HF.out.cell c2 (by simp)
     rw [drop_cons hy] at hd
     have pa := pair_drop HA.out i
     rw [drop_cons HX.out] at pa
     have pb := pair_drop HB.out k
     rw [drop_cons hy] at pb
     by_cases hyx : y < x
     ·rw [sub_skip pa hyx, ← drop_cons HX.out] at hd
      have HD := Lib.hid hd
      clear c2 hy hd pa pb
      go_wp2_with fail
      go_roundg (b.length - (k + 1))
      case rel => exact ⟨k + 1, rfl, by omega, by go_num, HD.out, HF.out⟩
      case measure => have := HQ2.out; omega
     ·by_cases hxy : y = x
      ·subst hxy
       rw [sub_hit, ← drop_cons hy] at hd
       have HD := Lib.hid hd
       have jn : ¬ (k : Int) = (b.length : Int) := by omega
       clear c2 hy hd pa pb
       go_wp2_with fail
       go_roundg (a.length - (i + 1))
       case rel => exact ⟨i + 1, k, rfl, by omega, hk, rfl, by go_num, HD.out, HF.out⟩
       case measure => have := HQ.out; omega
      ·have hlx : x < y := by omega
       rw [sub_miss pb hlx] at hd
       have HD := Lib.hid hd
       have jn : ¬ (k : Int) = (b.length : Int) := by omega
       have jne : (y != x) = true := by simpa using hxy
       clear c2 hy hd pa pb hxy
       go_wp2_with fail
       go_ret
       exact ⟨by rw [← HD.out]; rfl, HF.out⟩
    ·have hkl : k = b.length := by omega
     have e9 : b.drop k = [] := List.drop_eq_nil_of_le (by omega)
     rw [e9, sub_empty] at hd
     have HD := Lib.hid hd
     subst hkl
     clear hd
     go_wp2_with fail
     go_ret
     exact ⟨by rw [← HD.out]; rfl, HF.out⟩
  ·have i5 : ¬ (i : Int) < (a.length : Int) := by omega
   have HR : Hid (subI a b = true) := Lib.hid (by rw [← HD.out, List.drop_eq_nil_of_le (by omega)]; rfl)
   go_wp2_with fail
   go_ret
   exact ⟨by rw [HR.out]; rfl, HF.out⟩
end Go.Proofs.YtikpcipkkhmcfaaGreat.Beh
