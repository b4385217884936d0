/- The reference's beyond. -/
import Derived.Test.YtikpcipkkhmcfaaGreatQ09
namespace Go.Proofs.YtikpcipkkhmcfaaGreat.Beh
open Go.RowKit Go.Lib Go.Proofs.YtikpcipkkhmcfaaGreat Go.Proofs.YtikpcipkkhmcfaaGreat.Ind

theorem rowV_pre {w : World} {F : List Nat} {a : Option Addr} {c k : Nat} {t : List Int} (h : RowV w F (.slice a t.length c) t.length 1 (ints t)) (hk : k ≤ t.length) : RowV w F (.slice a (t.take k).length c) (t.take k).length 1 (ints (t.take k)) := by
 obtain ⟨_, a', c', e, h2, h3, h4, h5⟩ := h
 cases e
 refine ⟨by simp [ints], a, c, rfl, by rw [List.length_take]; omega, h3, h4, fun i u hu => h5 i u ?_⟩
 have hi : i < k := by
  have := (List.getElem?_eq_some_iff.1 hu).1
  simp [ints] at this
  omega
 rw [ints, List.getElem?_map, List.getElem?_take_of_lt hi] at hu
 rw [ints, List.getElem?_map]
 exact hu
/-- Whether one of the first k prefixes diverges. -/
def bupto (b : List En) (t : List Int) (k : Nat) : Bool := (List.range k).any fun n => match findE b (t.take n) with | some x => x.2.2 | none => false
theorem bupto_succ (b : List En) (t : List Int) (k : Nat) : bupto b t (k + 1) = (bupto b t k || match findE b (t.take k) with | some x => x.2.2 | none => false) := by
 simp [bupto, List.range_succ]
theorem bupto_true {b : List En} {t : List Int} {k : Nat} (hk : k ≤ t.length) (h : bupto b t k = true) : beyondB b t = true := by
 unfold bupto at h
 unfold beyondB
 rw [List.any_eq_true] at h ⊢
 obtain ⟨n, hn, h⟩ := h
 exact ⟨n, List.mem_range.2 (by have := List.mem_range.1 hn; omega), h⟩
set_option linter.unusedSimpArgs false in
set_option maxRecDepth 100000 in
set_option maxHeartbeats 4000000 in
theorem refBeyond_any {F G : List Nat} (w : World) (v u : Value) (b : List En) (t : List Int) (h1 : BehAt w F v b) (h2 : RowV w G u t.length 1 (ints t)) :
  Calls Tryz.prog 83 #[v, u] w fun e w' => e = .returned (.bool (beyondB b t)) ∧ Frm [] w w' := by
 obtain ⟨va, vc, rfl⟩ := h1.shape
 obtain ⟨ua, uc, rfl⟩ := RowV.shape h2
 have l2 := h2.rd.lt
 have huc : (t.length : Int) ≤ (uc : Int) := by
  obtain ⟨_, a', c', e, h2, _⟩ := h2
  cases e
  omega
 have H1 := Lib.hid h1
 have H2 := Lib.hid h2
 clear h1 h2
 go_enter Tryz.func83, Tryz.ntmps83
 go_wp2_with fail
 go_loopg [5] t.length (fun q i wr => ∃ (k : Nat), q = t.length - k ∧ k ≤ t.length ∧ i = .int .i64 k ∧ bupto b t k = false ∧ Frm [] w wr)
 case atStart => exact ⟨0, rfl, Nat.zero_le _, rfl, rfl, Frm.refl _ _⟩
 case round =>
  obtain ⟨k, hq, hk, rfl, hd, hF⟩ := hrel
  have HQ := Lib.hid hq
  have HF := Lib.hid hF
  have HB := Lib.hid hd
  have i4 : (0 : Int) ≤ (k : Int) := by omega
  clear hq hF hd
  by_cases hlt : k < t.length
  ·have i5 : (k : Int) < (t.length : Int) := by omega
   have i6 : (k : Int) ≤ (uc : Int) := by omega
   obtain ⟨y, hy⟩ : ∃ y, t[k]? = some y := ⟨_, List.getElem?_eq_getElem hlt⟩
   obtain ⟨g, o, rfl, _, _⟩ := H2.out.rd.at hy
   have hkl : (t.take k).length = k := by rw [List.length_take]; omega
   have hcall := refFind_any wr _ _ b (t.take k) (H1.out.nil HF.out) (rowV_pre (H2.out.nil HF.out) (Nat.le_of_lt hlt))
   rw [hkl] at hcall
   clear hy hkl
   unfold FindEnd at hcall
   have hs := bupto_succ b t k
   rw [HB.out, Bool.false_or] at hs
   cases hf : findE b (t.take k) with
   | none =>
    simp only [hf] at hcall hs
    have HC := Lib.hid hcall
    have HD := Lib.hid hs
    clear hcall hs hf
    go_wp2_with (go_at_call 41; refine HC.out.mono ?_; rintro e5 w5 ⟨rfl, hf5⟩)
    go_roundg (t.length - (k + 1))
    case rel => exact ⟨k + 1, rfl, by omega, by go_num, HD.out, (HF.out.trans hf5 (by simp)).alloc _⟩
    case measure => have := HQ.out; omega
   | some x =>
    simp only [hf] at hcall hs
    obtain ⟨xd, hxd⟩ : ∃ d, d = x.2.2 := ⟨_, rfl⟩
    rw [← hxd] at hs
    simp only [← hxd] at hcall
    have HC := Lib.hid hcall
    have HD := Lib.hid hs
    clear hcall hs hf hxd
    cases xd with
    | false =>
     go_wp2_with (go_at_call 41; refine HC.out.mono ?_; rintro e5 w5 ⟨⟨ta, tc, la, lc, rfl, -, -⟩, hf5⟩)
     go_roundg (t.length - (k + 1))
     case rel => exact ⟨k + 1, rfl, by omega, by go_num, HD.out, (HF.out.trans hf5 (by simp)).alloc _⟩
     case measure => have := HQ.out; omega
    | true =>
     have HR := Lib.hid (bupto_true (k := k + 1) (by omega) HD.out)
     go_wp2_with (go_at_call 41; refine HC.out.mono ?_; rintro e5 w5 ⟨⟨ta, tc, la, lc, rfl, -, -⟩, hf5⟩)
     go_ret
     exact ⟨by rw [HR.out]; rfl, (HF.out.trans hf5 (by simp)).alloc _⟩
  ·have i5 : ¬ (k : Int) < (t.length : Int) := by omega
   have HD : Hid (beyondB b t = false) := Lib.hid (by
    have := HB.out
    rw [show k = t.length by omega] at this
    exact this)
   go_wp2_with fail
   go_ret
   exact ⟨by rw [HD.out]; rfl, HF.out⟩
end Go.Proofs.YtikpcipkkhmcfaaGreat.Beh
