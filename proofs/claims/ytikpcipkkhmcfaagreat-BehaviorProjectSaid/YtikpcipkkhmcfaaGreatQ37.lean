/- The reference's Minimal. (Its drawn region is printed by region.py.) -/
import Derived.Test.YtikpcipkkhmcfaaGreatQ00
import Derived.Test.YtikpcipkkhmcfaaGreatQ36
import Derived.Test.YtikpcipkkhmcfaaGreatQ31
import Derived.Deep.RegionHeld3
namespace Go.Proofs.YtikpcipkkhmcfaaGreat.Beh
open Go.Shelf Go.RowKit Go.Lib Go.Proofs.YtikpcipkkhmcfaaGreat Go.Proofs.YtikpcipkkhmcfaaGreat.Ind

def hitR (x y : List Int) : Bool := decide (y.length < x.length) && subI y x
def leastR (l : List (List Int)) (x : List Int) : Bool := !(l.any (hitR x))
theorem refMin_def (l : List (List Int)) : refMin l = setG ltL (l.filter (leastR l)) := rfl
def RMinEnd (w : World) (F : List Nat) (rows : List (List Int)) (e : Ending) (w' : World) : Prop :=
 (∃ (a : Option Addr) (c : Nat), e = .returned (.slice a (minL rows).length c) ∧ SetsAt w' F (.slice a (minL rows).length c) (minL rows)) ∧ Frm [] w w'
set_option linter.unusedSimpArgs false in
set_option maxRecDepth 100000 in
set_option maxHeartbeats 8000000 in
theorem rmin_any (F : List Nat) (w : World) (v : Value) (rows : List (List Int)) (h : SetsAt w F v rows) (hF : ∀ k ∈ F, k < w.heap.size) (hn : rows.length ≤ 1000000) :
  Calls Tryz.prog 120 #[v] w (RMinEnd w F rows) := by
 obtain ⟨va, vc, rfl⟩ := h.shape
 obtain ⟨ps, hrows, hrow, hp⟩ := h.ps
 have l1 : (rows.length : Int) ≤ 1000000 := by omega
 have H := Lib.hid hrow
 have HP := Lib.hid hp
 have HRW := Lib.hid hrows
 have HFL := Lib.hid hF
 have HAT : Hid (∀ W, Frm [] w W → ∀ (i : Nat) (x : List Int), rows[i]? = some x → ∃ b o xa xc, va = some ⟨b, o, none⟩ ∧ W.cell? ⟨b, o + i, none⟩ = some (.slice xa x.length xc) ∧ RowV W F (.slice xa x.length xc) x.length 1 (ints x)) := Lib.hid fun W hf i x hx => by
  obtain ⟨b, o, d, xa, xc, e1, x1, x2⟩ := SetsAt.at_ ⟨ps, hrows, hrow, hp⟩ hx
  obtain ⟨rfl, rfl⟩ : va = some ⟨b, o, none⟩ ∧ vc = d := by simpa using e1
  exact ⟨b, o, xa, xc, rfl, hf.cell x1 (by simp), x2.nil hf⟩
 clear h hp hrows hrow hF
 go_enter Tryz.func120, Tryz.ntmps120
 go_wp2_with fail
 go_loopg [4] rows.length (fun q t wr => ∃ (k : Nat), q = rows.length - k ∧ k ≤ rows.length ∧ t = .int .i64 k ∧ (rows.take k).all Ind.ascB = true ∧ Frm [] w wr)
 case atStart => exact ⟨0, rfl, Nat.zero_le _, rfl, rfl, Frm.refl _ _⟩
 case round =>
  obtain ⟨k, hq, hk, rfl, hd, hF⟩ := hrel
  have HQ := Lib.hid hq
  have HF := Lib.hid hF
  have HD := Lib.hid hd
  have i4 : (0 : Int) ≤ (k : Int) := by omega
  clear hq hF hd
  by_cases hlt : k < rows.length
  ·have i5 : (k : Int) < (rows.length : Int) := by omega
   obtain ⟨x, hx⟩ : ∃ x, rows[k]? = some x := ⟨_, List.getElem?_eq_getElem hlt⟩
   obtain ⟨b, o, xa, xc, rfl, c0, hrx⟩ := HAT.out wr HF.out k x hx
   have hcall := rising_any wr.heap.size xa xc x wr hrx.rd
   have hall : (rows.take (k + 1)).all Ind.ascB = ((rows.take k).all Ind.ascB && Ind.ascB x) := by
    rw [take_snoc hx, List.all_append, List.all_cons, List.all_nil, Bool.and_true]
   rw [HD.out, Bool.true_and] at hall
   clear hrx
   cases hb : Ind.ascB x with
   | true =>
    rw [hb] at hcall hall
    have HC := Lib.hid hcall
    have HA := Lib.hid hall
    clear hcall hall hb hx
    go_wp2_with (go_at_call 80; refine HC.out.mono ?_; rintro e5 w5 ⟨rfl, hf5⟩)
    go_roundg (rows.length - (k + 1))
    case rel => exact ⟨k + 1, rfl, by omega, by go_num, HA.out, HF.out.trans hf5 (by simp)⟩
    case measure => have := HQ.out; omega
   | false =>
    rw [hb] at hcall
    have HC := Lib.hid hcall
    have HR : Hid (minL rows = []) := Lib.hid (by rw [minL, if_neg (by rw [all_drop hx hb]; simp)])
    clear hcall hall hb hx
    go_wp2_with (go_at_call 80; refine HC.out.mono ?_; rintro e5 w5 ⟨rfl, hf5⟩)
    go_ret
    refine ⟨⟨none, 0, by rw [HR.out]; rfl, ?_⟩, HF.out.trans hf5 (by simp)⟩
    rw [HR.out]
    exact ⟨[], rfl, RowV.nil0 _ _ _, by simp⟩
  ·have i5 : ¬ (k : Int) < (rows.length : Int) := by omega
   have hall : rows.all Ind.ascB = true := by
    have := HD.out
    rw [List.take_of_length_le (by omega)] at this
    exact this
   have HML : Hid (minL rows = setG ltL (rows.filter (leastR rows))) := Lib.hid (by rw [minL, if_pos hall, ← refMin_def, refMin_eq (fun x hx => List.all_eq_true.1 hall x hx)])
   clear HD hall
   go_wp2_with fail
   go_loopg [3, 5] rows.length (fun q t3 t5 wr => ∃ (i : Nat) (a3 : Option Addr) (c3 : Nat) (qs : List PV), q = rows.length - i ∧ i ≤ rows.length ∧ t5 = .int .i64 i ∧ t3 = .slice a3 qs.length c3 ∧ wr.ownsRow w.heap.size 22 1 (.slice a3 qs.length c3) qs.length (qs.map (·.1)) ∧ PsAt wr F qs ∧ qs.map (·.2) = setG ltL ((rows.take i).filter (leastR rows)) ∧ qs.length ≤ i ∧ Frm [] w wr)
   case atStart => exact ⟨0, none, 0, [], rfl, Nat.zero_le _, rfl, rfl, World.ownsRow_nil _ _ _ _, (fun p hp => by cases hp), rfl, Nat.zero_le _, HF.out⟩
   case round =>
    clear HF HQ
    obtain ⟨i, a3, c3, qs, hq, hi, rfl, rfl, hown, hqat, hqr, hql, hF⟩ := hrel
    have HQ := Lib.hid hq
    have HF := Lib.hid hF
    have HOWN := Lib.hid hown
    have HQAT := Lib.hid hqat
    have HQR := Lib.hid hqr
    have j4 : (0 : Int) ≤ (i : Int) := by omega
    clear hq hF hown hqat hqr i4 i5
    by_cases hlt : i < rows.length
    ·have j5 : (i : Int) < (rows.length : Int) := by omega
     obtain ⟨x, hx⟩ : ∃ x, rows[i]? = some x := ⟨_, List.getElem?_eq_getElem hlt⟩
     obtain ⟨b, o, xa, xc, rfl, _, _⟩ := HAT.out wr HF.out i x hx
     have HX := Lib.hid hx
     obtain ⟨wx, hwx⟩ : ∃ wx, wx = wr := ⟨wr, rfl⟩
     rw [← hwx] at HF HOWN HQAT ⊢
     clear hx hwx
     go_wp2_with fail
     go_loopg [6, 7] rows.length (fun q t6 t7 wr => ∃ (k : Nat), q = rows.length - k ∧ k ≤ rows.length ∧ t6 = .bool (!((rows.take k).any (hitR x))) ∧ t7 = .int .i64 k ∧ Frm [] wx wr)
     case atStart => exact ⟨0, rfl, Nat.zero_le _, rfl, rfl, Frm.refl _ _⟩
     case round =>
      obtain ⟨k, hq2, hk2, rfl, rfl, hF2⟩ := hrel
      have HQ2 := Lib.hid hq2
      have HF2 := Lib.hid hF2
      have FW := Lib.hid (HF.out.trans hF2 (by simp))
      have k4 : (0 : Int) ≤ (k : Int) := by omega
      obtain ⟨B, hB⟩ : ∃ B, B = !((rows.take k).any (hitR x)) := ⟨_, rfl⟩
      rw [← hB]
      clear hq2 hF2
      by_cases hlt2 : k < rows.length
      ·have k5 : (k : Int) < (rows.length : Int) := by omega
       obtain ⟨y, hy⟩ : ∃ y, rows[k]? = some y := ⟨_, List.getElem?_eq_getElem hlt2⟩
       obtain ⟨b', o', ya, yc, e9, cy, hry⟩ := HAT.out wr FW.out k y hy
       obtain ⟨rfl, rfl⟩ : b = b' ∧ o = o' := by simpa using e9
       obtain ⟨b'', o'', xa', xc', e8, cx, hrx⟩ := HAT.out wr FW.out i x HX.out
       obtain ⟨rfl, rfl⟩ : b = b'' ∧ o = o'' := by simpa using e8
       have hnx := any_next (p := hitR x) hy
       have KEEP : Hid (∀ w', Frm [] wr w' → w'.cell? ⟨b, o + k, none⟩ = some (.slice ya y.length yc) ∧ w'.cell? ⟨b, o + i, none⟩ = some (.slice xa' x.length xc')) := Lib.hid fun w' hf => ⟨hf.cell cy (by simp), hf.cell cx (by simp)⟩
       have HC0 : Hid (∀ W, Frm [] wr W → Calls Tryz.prog 81 #[.slice ya y.length yc, .slice xa' x.length xc'] W fun e w' => e = .returned (.bool (subI y x)) ∧ Frm [] W w') := Lib.hid fun W hf => refSubset_any W _ _ y x (hry.nil hf) (hrx.nil hf)
       clear cy cx hry hrx e9 e8 hy
       cases B with
       | false =>
        have HA : Hid ((!((rows.take (k + 1)).any (hitR x))) = false) := Lib.hid (by
         rw [hnx]
         have : (rows.take k).any (hitR x) = true := by simpa using hB.symm
         rw [this]; rfl)
        clear hnx hB
        go_wp2_with fail
        refine wp_region_held_drew (S := fun w' => w'.cell? ⟨b, o + k, none⟩ = some (.slice ya y.length yc) ∧ w'.cell? ⟨b, o + i, none⟩ = some (.slice xa' x.length xc')) (by kernel_rfl) (KEEP.out _ (Frm.refl [] wr).drew) ?_
        intro hHeld
        refine qtk 0 (v := ?_) rfl (by kernel_rfl) (fun _ _ _ h => h) (by rfl) (by assumption) ?_ ?_
        rotate_left
        ·(intro w9 hS9; (try dsimp only at hS9); go_split_ands; go_simp; try with_reducible rfl)
        try simp only [Act.put, qgA, qgS, qg0, qsA, qs0, qsS]
        refine qtk 1 (v := ?_) rfl (by kernel_rfl) (fun _ _ _ h => h) (by rfl) (by assumption) ?_ ?_
        rotate_left
        ·(intro w9 hS9; (try dsimp only at hS9); go_split_ands; go_simp; try with_reducible rfl)
        try simp only [Act.put, qgA, qgS, qg0, qsA, qs0, qsS]
        first
        | (refine qdr 2 rfl (by kernel_rfl) (fun _ _ _ h => h) (by rfl) (by assumption) ?_)
        | (refine qtk 2 (v := ?_) rfl (by kernel_rfl) (fun _ _ _ h => h) (by rfl) (by assumption) ?_ ?_; rotate_left; (intro w9 hS9; (try dsimp only at hS9); go_split_ands; go_simp; try with_reducible rfl))
        try simp only [Act.put, qgA, qgS, qg0, qsA, qs0, qsS]
        first
        | (refine qdr 3 rfl (by kernel_rfl) (fun _ _ _ h => h) (by rfl) (by assumption) ?_)
        | (refine qtk 3 (v := ?_) rfl (by kernel_rfl) (fun _ _ _ h => h) (by rfl) (by assumption) ?_ ?_; rotate_left; (intro w9 hS9; (try dsimp only at hS9); go_split_ands; go_simp; try with_reducible rfl))
        try simp only [Act.put, qgA, qgS, qg0, qsA, qs0, qsS]
        first
        | (refine qdr 4 rfl (by kernel_rfl) (fun _ _ _ h => h) (by rfl) (by assumption) ?_)
        | (refine qtk 4 (v := ?_) rfl (by kernel_rfl) (fun _ _ _ h => h) (by rfl) (by assumption) ?_ ?_; rotate_left; (intro w9 hS9; (try dsimp only at hS9); go_split_ands; go_simp; try with_reducible rfl))
        try simp only [Act.put, qgA, qgS, qg0, qsA, qs0, qsS]
        first
        | (refine qdr 5 rfl (by kernel_rfl) (fun _ _ _ h => h) (by rfl) (by assumption) ?_)
        | (refine qtk 5 (v := ?_) rfl (by kernel_rfl) (fun _ _ _ h => h) (by rfl) (by assumption) ?_ ?_; rotate_left; (intro w9 hS9; (try dsimp only at hS9); go_split_ands; go_simp; try with_reducible rfl))
        try simp only [Act.put, qgA, qgS, qg0, qsA, qs0, qsS]
        first
        | (refine qdr 6 rfl (by kernel_rfl) (fun _ _ _ h => h) (by rfl) (by assumption) ?_)
        | (refine qtk 6 (v := ?_) rfl (by kernel_rfl) (fun _ _ _ h => h) (by rfl) (by assumption) ?_ ?_; rotate_left; (intro w9 hS9; (try dsimp only at hS9); go_split_ands; go_simp; try with_reducible rfl))
        try simp only [Act.put, qgA, qgS, qg0, qsA, qs0, qsS]
        first
        | (refine qdr 7 rfl (by kernel_rfl) (fun _ _ _ h => h) (by rfl) (by assumption) ?_)
        | (refine qtk 7 (v := ?_) rfl (by kernel_rfl) (fun _ _ _ h => h) (by rfl) (by assumption) ?_ ?_; rotate_left; (intro w9 hS9; (try dsimp only at hS9); go_split_ands; go_simp; try with_reducible rfl))
        try simp only [Act.put, qgA, qgS, qg0, qsA, qs0, qsS]
        first
        | (refine qdr 8 rfl (by kernel_rfl) (fun _ _ _ h => h) (by rfl) (by assumption) ?_)
        | (refine qtk 8 (v := ?_) rfl (by kernel_rfl) (fun _ _ _ h => h) (by rfl) (by assumption) ?_ ?_; rotate_left; (intro w9 hS9; (try dsimp only at hS9); go_split_ands; go_simp; try with_reducible rfl))
        try simp only [Act.put, qgA, qgS, qg0, qsA, qs0, qsS]
        first
        | (refine qdr 9 rfl (by kernel_rfl) (fun _ _ _ h => h) (by rfl) (by assumption) ?_)
        | (refine qtk 9 (v := ?_) rfl (by kernel_rfl) (fun _ _ _ h => h) (by rfl) (by assumption) ?_ ?_; rotate_left; (intro w9 hS9; (try dsimp only at hS9); go_split_ands; go_simp; try with_reducible rfl))
        try simp only [Act.put, qgA, qgS, qg0, qsA, qs0, qsS]
        first
        | (refine qdr 10 rfl (by kernel_rfl) (fun _ _ _ h => h) (by rfl) (by assumption) ?_)
        | (refine qtk 10 (v := ?_) rfl (by kernel_rfl) (fun _ _ _ h => h) (by rfl) (by assumption) ?_ ?_; rotate_left; (intro w9 hS9; (try dsimp only at hS9); go_split_ands; go_simp; try with_reducible rfl))
        try simp only [Act.put, qgA, qgS, qg0, qsA, qs0, qsS]
        first
        | (refine qdr 11 rfl (by kernel_rfl) (fun _ _ _ h => h) (by rfl) (by assumption) ?_)
        | (refine qtk 11 (v := ?_) rfl (by kernel_rfl) (fun _ _ _ h => h) (by rfl) (by assumption) ?_ ?_; rotate_left; (intro w9 hS9; (try dsimp only at hS9); go_split_ands; go_simp; try with_reducible rfl))
        try simp only [Act.put, qgA, qgS, qg0, qsA, qs0, qsS]
        first
        | (refine qdr 12 rfl (by kernel_rfl) (fun _ _ _ h => h) (by rfl) (by assumption) ?_)
        | (refine qtk 12 (v := ?_) rfl (by kernel_rfl) (fun _ _ _ h => h) (by rfl) (by assumption) ?_ ?_; rotate_left; (intro w9 hS9; (try dsimp only at hS9); go_split_ands; go_simp; try with_reducible rfl))
        try simp only [Act.put, qgA, qgS, qg0, qsA, qs0, qsS]
        first
        | (refine qdr 13 rfl (by kernel_rfl) (fun _ _ _ h => h) (by rfl) (by assumption) ?_)
        | (refine qtk 13 (v := ?_) rfl (by kernel_rfl) (fun _ _ _ h => h) (by rfl) (by assumption) ?_ ?_; rotate_left; (intro w9 hS9; (try dsimp only at hS9); go_split_ands; go_simp; try with_reducible rfl))
        try simp only [Act.put, qgA, qgS, qg0, qsA, qs0, qsS]
        first
        | (refine qdr 14 rfl (by kernel_rfl) (fun _ _ _ h => h) (by rfl) (by assumption) ?_)
        | (refine qtk 14 (v := ?_) rfl (by kernel_rfl) (fun _ _ _ h => h) (by rfl) (by assumption) ?_ ?_; rotate_left; (intro w9 hS9; (try dsimp only at hS9); go_split_ands; go_simp; try with_reducible rfl))
        try simp only [Act.put, qgA, qgS, qg0, qsA, qs0, qsS]
        first
        | (refine qdr 15 rfl (by kernel_rfl) (fun _ _ _ h => h) (by rfl) (by assumption) ?_)
        | (refine qtk 15 (v := ?_) rfl (by kernel_rfl) (fun _ _ _ h => h) (by rfl) (by assumption) ?_ ?_; rotate_left; (intro w9 hS9; (try dsimp only at hS9); go_split_ands; go_simp; try with_reducible rfl))
        try simp only [Act.put, qgA, qgS, qg0, qsA, qs0, qsS]
        first
        | (refine qdr 16 rfl (by kernel_rfl) (fun _ _ _ h => h) (by rfl) (by assumption) ?_)
        | (refine qtk 16 (v := ?_) rfl (by kernel_rfl) (fun _ _ _ h => h) (by rfl) (by assumption) ?_ ?_; rotate_left; (intro w9 hS9; (try dsimp only at hS9); go_split_ands; go_simp; try with_reducible rfl))
        try simp only [Act.put, qgA, qgS, qg0, qsA, qs0, qsS]
        first
        | (refine qdr 17 rfl (by kernel_rfl) (fun _ _ _ h => h) (by rfl) (by assumption) ?_)
        | (refine qtk 17 (v := ?_) rfl (by kernel_rfl) (fun _ _ _ h => h) (by rfl) (by assumption) ?_ ?_; rotate_left; (intro w9 hS9; (try dsimp only at hS9); go_split_ands; go_simp; try with_reducible rfl))
        try simp only [Act.put, qgA, qgS, qg0, qsA, qs0, qsS]
        first
        | (refine qdr 18 rfl (by kernel_rfl) (fun _ _ _ h => h) (by rfl) (by assumption) ?_)
        | (refine qtk 18 (v := ?_) rfl (by kernel_rfl) (fun _ _ _ h => h) (by rfl) (by assumption) ?_ ?_; rotate_left; (intro w9 hS9; (try dsimp only at hS9); go_split_ands; go_simp; try with_reducible rfl))
        try simp only [Act.put, qgA, qgS, qg0, qsA, qs0, qsS]
        first
        | (refine qdr 19 rfl (by kernel_rfl) (fun _ _ _ h => h) (by rfl) (by assumption) ?_)
        | (refine qtk 19 (v := ?_) rfl (by kernel_rfl) (fun _ _ _ h => h) (by rfl) (by assumption) ?_ ?_; rotate_left; (intro w9 hS9; (try dsimp only at hS9); go_split_ands; go_simp; try with_reducible rfl))
        try simp only [Act.put, qgA, qgS, qg0, qsA, qs0, qsS]
        first
        | (refine qdr 20 rfl (by kernel_rfl) (fun _ _ _ h => h) (by rfl) (by assumption) ?_)
        | (refine qtk 20 (v := ?_) rfl (by kernel_rfl) (fun _ _ _ h => h) (by rfl) (by assumption) ?_ ?_; rotate_left; (intro w9 hS9; (try dsimp only at hS9); go_split_ands; go_simp; try with_reducible rfl))
        try simp only [Act.put, qgA, qgS, qg0, qsA, qs0, qsS]
        first
        | (refine qdr 21 rfl (by kernel_rfl) (fun _ _ _ h => h) (by rfl) (by assumption) ?_)
        | (refine qtk 21 (v := ?_) rfl (by kernel_rfl) (fun _ _ _ h => h) (by rfl) (by assumption) ?_ ?_; rotate_left; (intro w9 hS9; (try dsimp only at hS9); go_split_ands; go_simp; try with_reducible rfl))
        try simp only [Act.put, qgA, qgS, qg0, qsA, qs0, qsS]
        first
        | (refine qdr 22 rfl (by kernel_rfl) (fun _ _ _ h => h) (by rfl) (by assumption) ?_)
        | (refine qtk 22 (v := ?_) rfl (by kernel_rfl) (fun _ _ _ h => h) (by rfl) (by assumption) ?_ ?_; rotate_left; (intro w9 hS9; (try dsimp only at hS9); go_split_ands; go_simp; try with_reducible rfl))
        try simp only [Act.put, qgA, qgS, qg0, qsA, qs0, qsS]
        first
        | (refine qdr 23 rfl (by kernel_rfl) (fun _ _ _ h => h) (by rfl) (by assumption) ?_)
        | (refine qtk 23 (v := ?_) rfl (by kernel_rfl) (fun _ _ _ h => h) (by rfl) (by assumption) ?_ ?_; rotate_left; (intro w9 hS9; (try dsimp only at hS9); go_split_ands; go_simp; try with_reducible rfl))
        try simp only [Act.put, qgA, qgS, qg0, qsA, qs0, qsS]
        first
        | (refine qdr 24 rfl (by kernel_rfl) (fun _ _ _ h => h) (by rfl) (by assumption) ?_)
        | (refine qtk 24 (v := ?_) rfl (by kernel_rfl) (fun _ _ _ h => h) (by rfl) (by assumption) ?_ ?_; rotate_left; (intro w9 hS9; (try dsimp only at hS9); go_split_ands; go_simp; try with_reducible rfl))
        try simp only [Act.put, qgA, qgS, qg0, qsA, qs0, qsS]
        refine qtk 25 (v := ?_) rfl (by kernel_rfl) (fun _ _ _ h => h) (by rfl) (by assumption) ?_ ?_
        rotate_left
        ·(intro w9 hS9; (try dsimp only at hS9); go_split_ands; go_simp; try with_reducible rfl)
        try simp only [Act.put, qgA, qgS, qg0, qsA, qs0, qsS]
        refine qtk 26 (v := ?_) rfl (by kernel_rfl) (fun _ _ _ h => h) (by rfl) (by assumption) ?_ ?_
        rotate_left
        ·(intro w9 hS9; (try dsimp only at hS9); go_split_ands; go_simp; try with_reducible rfl)
        try simp only [Act.put, qgA, qgS, qg0, qsA, qs0, qsS]
        refine wpAnyH_done (by kernel_rfl) ?_ _
        go_wp2_with fail
        go_roundg (rows.length - (k + 1))
        case rel => exact ⟨k + 1, rfl, by omega, by rw [HA.out], by go_num, HF2.out.trans (Frm.refl [] wr).drew (by simp)⟩
        case measure => have := HQ2.out; omega
       | true =>
        have hno : (rows.take k).any (hitR x) = false := by simpa using hB.symm
        rw [hno, Bool.false_or] at hnx
        by_cases hll : y.length < x.length
        ·have jd : decide ((y.length : Int) < (x.length : Int)) = true := by rw [decide_eq_true_eq]; omega
         have je : decide (y.length < x.length) = true := decide_eq_true hll
         have hh : hitR x y = subI y x := by rw [hitR, decide_eq_true hll, Bool.true_and]
         rw [hh] at hnx
         obtain ⟨s, hs⟩ : ∃ s, s = subI y x := ⟨_, rfl⟩
         rw [← hs] at HC0 hnx
         have HC := HC0
         have HA := Lib.hid hnx
         clear hnx hB hno hh hs hll HC0
         go_wp2_with fail
         refine wp_region_held_drew (S := fun w' => w'.cell? ⟨b, o + k, none⟩ = some (.slice ya y.length yc) ∧ w'.cell? ⟨b, o + i, none⟩ = some (.slice xa' x.length xc')) (by kernel_rfl) (KEEP.out _ (Frm.refl [] wr).drew) ?_
         intro hHeld
         refine qtk 0 (v := ?_) rfl (by kernel_rfl) (fun _ _ _ h => h) (by rfl) (by assumption) ?_ ?_
         rotate_left
         ·(intro w9 hS9; (try dsimp only at hS9); go_split_ands; go_simp; try with_reducible rfl)
         try simp only [Act.put, qgA, qgS, qg0, qsA, qs0, qsS]
         refine qtk 1 (v := ?_) rfl (by kernel_rfl) (fun _ _ _ h => h) (by rfl) (by assumption) ?_ ?_
         rotate_left
         ·(intro w9 hS9; (try dsimp only at hS9); go_split_ands; go_simp; try with_reducible rfl)
         try simp only [Act.put, qgA, qgS, qg0, qsA, qs0, qsS]
         refine qtk 2 (v := ?_) rfl (by kernel_rfl) (fun _ _ _ h => h) (by rfl) (by assumption) ?_ ?_
         rotate_left
         ·(intro w9 hS9; (try dsimp only at hS9); go_split_ands; go_simp; try with_reducible rfl)
         try simp only [Act.put, qgA, qgS, qg0, qsA, qs0, qsS]
         refine qtk 3 (v := ?_) rfl (by kernel_rfl) (fun _ _ _ h => h) (by rfl) (by assumption) ?_ ?_
         rotate_left
         ·(intro w9 hS9; (try dsimp only at hS9); go_split_ands; go_simp; try with_reducible rfl)
         try simp only [Act.put, qgA, qgS, qg0, qsA, qs0, qsS]
         refine qtk 4 (v := ?_) rfl (by kernel_rfl) (fun _ _ _ h => h) (by rfl) (by assumption) ?_ ?_
         rotate_left
         ·(intro w9 hS9; (try dsimp only at hS9); go_split_ands; go_simp; try with_reducible rfl)
         try simp only [Act.put, qgA, qgS, qg0, qsA, qs0, qsS]
         refine qtk 5 (v := ?_) rfl (by kernel_rfl) (fun _ _ _ h => h) (by rfl) (by assumption) ?_ ?_
         rotate_left
         ·(intro w9 hS9; (try dsimp only at hS9); go_split_ands; go_simp; try with_reducible rfl)
         try simp only [Act.put, qgA, qgS, qg0, qsA, qs0, qsS]
         refine qtk 6 (v := ?_) rfl (by kernel_rfl) (fun _ _ _ h => h) (by rfl) (by assumption) ?_ ?_
         rotate_left
         ·(intro w9 hS9; (try dsimp only at hS9); go_split_ands; go_simp; try with_reducible rfl)
         try simp only [Act.put, qgA, qgS, qg0, qsA, qs0, qsS]
         refine qtk 7 (v := ?_) rfl (by kernel_rfl) (fun _ _ _ h => h) (by rfl) (by assumption) ?_ ?_
         rotate_left
         ·(intro w9 hS9; (try dsimp only at hS9); go_split_ands; go_simp; try with_reducible rfl)
         try simp only [Act.put, qgA, qgS, qg0, qsA, qs0, qsS]
         refine qtk 8 (v := ?_) rfl (by kernel_rfl) (fun _ _ _ h => h) (by rfl) (by assumption) ?_ ?_
         rotate_left
         ·(intro w9 hS9; (try dsimp only at hS9); go_split_ands; go_simp; try with_reducible rfl)
         try simp only [Act.put, qgA, qgS, qg0, qsA, qs0, qsS]
         refine qtk 9 (v := ?_) rfl (by kernel_rfl) (fun _ _ _ h => h) (by rfl) (by assumption) ?_ ?_
         rotate_left
         ·(intro w9 hS9; (try dsimp only at hS9); go_split_ands; go_simp; try with_reducible rfl)
         try simp only [Act.put, qgA, qgS, qg0, qsA, qs0, qsS]
         refine qtk 10 (v := ?_) rfl (by kernel_rfl) (fun _ _ _ h => h) (by rfl) (by assumption) ?_ ?_
         rotate_left
         ·(intro w9 hS9; (try dsimp only at hS9); go_split_ands; go_simp; try with_reducible rfl)
         try simp only [Act.put, qgA, qgS, qg0, qsA, qs0, qsS]
         refine qtk 11 (v := ?_) rfl (by kernel_rfl) (fun _ _ _ h => h) (by rfl) (by assumption) ?_ ?_
         rotate_left
         ·(intro w9 hS9; (try dsimp only at hS9); go_split_ands; go_simp; try with_reducible rfl)
         try simp only [Act.put, qgA, qgS, qg0, qsA, qs0, qsS]
         refine qtk 12 (v := ?_) rfl (by kernel_rfl) (fun _ _ _ h => h) (by rfl) (by assumption) ?_ ?_
         rotate_left
         ·(intro w9 hS9; (try dsimp only at hS9); go_split_ands; go_simp; try with_reducible rfl)
         try simp only [Act.put, qgA, qgS, qg0, qsA, qs0, qsS]
         try simp only [jd, je]
         refine qtk 13 (v := ?_) rfl (by kernel_rfl) (fun _ _ _ h => h) (by rfl) (by assumption) ?_ ?_
         rotate_left
         ·(intro w9 hS9; (try dsimp only at hS9); go_split_ands; go_simp; try with_reducible rfl)
         try simp only [Act.put, qgA, qgS, qg0, qsA, qs0, qsS]
         refine qtk 14 (v := ?_) rfl (by kernel_rfl) (fun _ _ _ h => h) (by rfl) (by assumption) ?_ ?_
         rotate_left
         ·(intro w9 hS9; (try dsimp only at hS9); go_split_ands; go_simp; try with_reducible rfl)
         try simp only [Act.put, qgA, qgS, qg0, qsA, qs0, qsS]
         refine qtk 15 (v := ?_) rfl (by kernel_rfl) (fun _ _ _ h => h) (by rfl) (by assumption) ?_ ?_
         rotate_left
         ·(intro w9 hS9; (try dsimp only at hS9); go_split_ands; go_simp; try with_reducible rfl)
         try simp only [Act.put, qgA, qgS, qg0, qsA, qs0, qsS]
         refine qtk 16 (v := ?_) rfl (by kernel_rfl) (fun _ _ _ h => h) (by rfl) (by assumption) ?_ ?_
         rotate_left
         ·(intro w9 hS9; (try dsimp only at hS9); go_split_ands; go_simp; try with_reducible rfl)
         try simp only [Act.put, qgA, qgS, qg0, qsA, qs0, qsS]
         refine qtk 17 (v := ?_) rfl (by kernel_rfl) (fun _ _ _ h => h) (by rfl) (by assumption) ?_ ?_
         rotate_left
         ·(intro w9 hS9; (try dsimp only at hS9); go_split_ands; go_simp; try with_reducible rfl)
         try simp only [Act.put, qgA, qgS, qg0, qsA, qs0, qsS]
         refine qtk 18 (v := ?_) rfl (by kernel_rfl) (fun _ _ _ h => h) (by rfl) (by assumption) ?_ ?_
         rotate_left
         ·(intro w9 hS9; (try dsimp only at hS9); go_split_ands; go_simp; try with_reducible rfl)
         try simp only [Act.put, qgA, qgS, qg0, qsA, qs0, qsS]
         refine qtk 19 (v := ?_) rfl (by kernel_rfl) (fun _ _ _ h => h) (by rfl) (by assumption) ?_ ?_
         rotate_left
         ·(intro w9 hS9; (try dsimp only at hS9); go_split_ands; go_simp; try with_reducible rfl)
         try simp only [Act.put, qgA, qgS, qg0, qsA, qs0, qsS]
         refine qtk 20 (v := ?_) rfl (by kernel_rfl) (fun _ _ _ h => h) (by rfl) (by assumption) ?_ ?_
         rotate_left
         ·(intro w9 hS9; (try dsimp only at hS9); go_split_ands; go_simp; try with_reducible rfl)
         try simp only [Act.put, qgA, qgS, qg0, qsA, qs0, qsS]
         refine qtk 21 (v := ?_) rfl (by kernel_rfl) (fun _ _ _ h => h) (by rfl) (by assumption) ?_ ?_
         rotate_left
         ·(intro w9 hS9; (try dsimp only at hS9); go_split_ands; go_simp; try with_reducible rfl)
         try simp only [Act.put, qgA, qgS, qg0, qsA, qs0, qsS]
         refine wpAnyH_ready (rs := [22]) (by kernel_rfl) (by simp) ?_
         refine AllReadyH.cons rfl (fun K hK => ?_) AllReadyH.nil
         go_simp
         refine (HC.out _ (Frm.refl [] wr).drew).mono ?_
         rintro e5 w5 ⟨rfl, hf5⟩
         have hy5 := (Frm.refl [] wr).drew.trans hf5 (by simp)
         refine hK.out _ _ ?_ (fun hHeld => ?_)
         ·exact KEEP.out _ hy5
         clear hK K
         try simp only [Act.put, qgA, qgS, qg0, qsA, qs0, qsS]
         refine qtk 23 (v := ?_) rfl (by kernel_rfl) (fun _ _ _ h => h) (by rfl) (by assumption) ?_ ?_
         rotate_left
         ·(intro w9 hS9; (try dsimp only at hS9); go_split_ands; go_simp; try with_reducible rfl)
         try simp only [Act.put, qgA, qgS, qg0, qsA, qs0, qsS]
         refine qtk 24 (v := ?_) rfl (by kernel_rfl) (fun _ _ _ h => h) (by rfl) (by assumption) ?_ ?_
         rotate_left
         ·(intro w9 hS9; (try dsimp only at hS9); go_split_ands; go_simp; try with_reducible rfl)
         try simp only [Act.put, qgA, qgS, qg0, qsA, qs0, qsS]
         refine qtk 25 (v := ?_) rfl (by kernel_rfl) (fun _ _ _ h => h) (by rfl) (by assumption) ?_ ?_
         rotate_left
         ·(intro w9 hS9; (try dsimp only at hS9); go_split_ands; go_simp; try with_reducible rfl)
         try simp only [Act.put, qgA, qgS, qg0, qsA, qs0, qsS]
         refine qtk 26 (v := ?_) rfl (by kernel_rfl) (fun _ _ _ h => h) (by rfl) (by assumption) ?_ ?_
         rotate_left
         ·(intro w9 hS9; (try dsimp only at hS9); go_split_ands; go_simp; try with_reducible rfl)
         try simp only [Act.put, qgA, qgS, qg0, qsA, qs0, qsS]
         refine wpAnyH_done (by kernel_rfl) ?_ _
         go_wp2_with fail
         go_roundg (rows.length - (k + 1))
         case rel => exact ⟨k + 1, rfl, by omega, by rw [HA.out], by go_num, HF2.out.trans hy5 (by simp)⟩
         case measure => have := HQ2.out; omega
        ·have jd : decide ((y.length : Int) < (x.length : Int)) = false := by rw [decide_eq_false_iff_not]; omega
         have je : decide (y.length < x.length) = false := decide_eq_false hll
         have hh : hitR x y = false := by rw [hitR, decide_eq_false hll, Bool.false_and]
         rw [hh] at hnx
         have HA := Lib.hid hnx
         clear hnx hB hno hh hll HC0
         go_wp2_with fail
         refine wp_region_held_drew (S := fun w' => w'.cell? ⟨b, o + k, none⟩ = some (.slice ya y.length yc) ∧ w'.cell? ⟨b, o + i, none⟩ = some (.slice xa' x.length xc')) (by kernel_rfl) (KEEP.out _ (Frm.refl [] wr).drew) ?_
         intro hHeld
         refine qtk 0 (v := ?_) rfl (by kernel_rfl) (fun _ _ _ h => h) (by rfl) (by assumption) ?_ ?_
         rotate_left
         ·(intro w9 hS9; (try dsimp only at hS9); go_split_ands; go_simp; try with_reducible rfl)
         try simp only [Act.put, qgA, qgS, qg0, qsA, qs0, qsS]
         refine qtk 1 (v := ?_) rfl (by kernel_rfl) (fun _ _ _ h => h) (by rfl) (by assumption) ?_ ?_
         rotate_left
         ·(intro w9 hS9; (try dsimp only at hS9); go_split_ands; go_simp; try with_reducible rfl)
         try simp only [Act.put, qgA, qgS, qg0, qsA, qs0, qsS]
         refine qtk 2 (v := ?_) rfl (by kernel_rfl) (fun _ _ _ h => h) (by rfl) (by assumption) ?_ ?_
         rotate_left
         ·(intro w9 hS9; (try dsimp only at hS9); go_split_ands; go_simp; try with_reducible rfl)
         try simp only [Act.put, qgA, qgS, qg0, qsA, qs0, qsS]
         refine qtk 3 (v := ?_) rfl (by kernel_rfl) (fun _ _ _ h => h) (by rfl) (by assumption) ?_ ?_
         rotate_left
         ·(intro w9 hS9; (try dsimp only at hS9); go_split_ands; go_simp; try with_reducible rfl)
         try simp only [Act.put, qgA, qgS, qg0, qsA, qs0, qsS]
         refine qtk 4 (v := ?_) rfl (by kernel_rfl) (fun _ _ _ h => h) (by rfl) (by assumption) ?_ ?_
         rotate_left
         ·(intro w9 hS9; (try dsimp only at hS9); go_split_ands; go_simp; try with_reducible rfl)
         try simp only [Act.put, qgA, qgS, qg0, qsA, qs0, qsS]
         refine qtk 5 (v := ?_) rfl (by kernel_rfl) (fun _ _ _ h => h) (by rfl) (by assumption) ?_ ?_
         rotate_left
         ·(intro w9 hS9; (try dsimp only at hS9); go_split_ands; go_simp; try with_reducible rfl)
         try simp only [Act.put, qgA, qgS, qg0, qsA, qs0, qsS]
         refine qtk 6 (v := ?_) rfl (by kernel_rfl) (fun _ _ _ h => h) (by rfl) (by assumption) ?_ ?_
         rotate_left
         ·(intro w9 hS9; (try dsimp only at hS9); go_split_ands; go_simp; try with_reducible rfl)
         try simp only [Act.put, qgA, qgS, qg0, qsA, qs0, qsS]
         refine qtk 7 (v := ?_) rfl (by kernel_rfl) (fun _ _ _ h => h) (by rfl) (by assumption) ?_ ?_
         rotate_left
         ·(intro w9 hS9; (try dsimp only at hS9); go_split_ands; go_simp; try with_reducible rfl)
         try simp only [Act.put, qgA, qgS, qg0, qsA, qs0, qsS]
         refine qtk 8 (v := ?_) rfl (by kernel_rfl) (fun _ _ _ h => h) (by rfl) (by assumption) ?_ ?_
         rotate_left
         ·(intro w9 hS9; (try dsimp only at hS9); go_split_ands; go_simp; try with_reducible rfl)
         try simp only [Act.put, qgA, qgS, qg0, qsA, qs0, qsS]
         refine qtk 9 (v := ?_) rfl (by kernel_rfl) (fun _ _ _ h => h) (by rfl) (by assumption) ?_ ?_
         rotate_left
         ·(intro w9 hS9; (try dsimp only at hS9); go_split_ands; go_simp; try with_reducible rfl)
         try simp only [Act.put, qgA, qgS, qg0, qsA, qs0, qsS]
         refine qtk 10 (v := ?_) rfl (by kernel_rfl) (fun _ _ _ h => h) (by rfl) (by assumption) ?_ ?_
         rotate_left
         ·(intro w9 hS9; (try dsimp only at hS9); go_split_ands; go_simp; try with_reducible rfl)
         try simp only [Act.put, qgA, qgS, qg0, qsA, qs0, qsS]
         refine qtk 11 (v := ?_) rfl (by kernel_rfl) (fun _ _ _ h => h) (by rfl) (by assumption) ?_ ?_
         rotate_left
         ·(intro w9 hS9; (try dsimp only at hS9); go_split_ands; go_simp; try with_reducible rfl)
         try simp only [Act.put, qgA, qgS, qg0, qsA, qs0, qsS]
         refine qtk 12 (v := ?_) rfl (by kernel_rfl) (fun _ _ _ h => h) (by rfl) (by assumption) ?_ ?_
         rotate_left
         ·(intro w9 hS9; (try dsimp only at hS9); go_split_ands; go_simp; try with_reducible rfl)
         try simp only [Act.put, qgA, qgS, qg0, qsA, qs0, qsS]
         try simp only [jd, je]
         refine qtk 13 (v := ?_) rfl (by kernel_rfl) (fun _ _ _ h => h) (by rfl) (by assumption) ?_ ?_
         rotate_left
         ·(intro w9 hS9; (try dsimp only at hS9); go_split_ands; go_simp; try with_reducible rfl)
         try simp only [Act.put, qgA, qgS, qg0, qsA, qs0, qsS]
         first
         | (refine qdr 14 rfl (by kernel_rfl) (fun _ _ _ h => h) (by rfl) (by assumption) ?_)
         | (refine qtk 14 (v := ?_) rfl (by kernel_rfl) (fun _ _ _ h => h) (by rfl) (by assumption) ?_ ?_; rotate_left; (intro w9 hS9; (try dsimp only at hS9); go_split_ands; go_simp; try with_reducible rfl))
         try simp only [Act.put, qgA, qgS, qg0, qsA, qs0, qsS]
         first
         | (refine qdr 15 rfl (by kernel_rfl) (fun _ _ _ h => h) (by rfl) (by assumption) ?_)
         | (refine qtk 15 (v := ?_) rfl (by kernel_rfl) (fun _ _ _ h => h) (by rfl) (by assumption) ?_ ?_; rotate_left; (intro w9 hS9; (try dsimp only at hS9); go_split_ands; go_simp; try with_reducible rfl))
         try simp only [Act.put, qgA, qgS, qg0, qsA, qs0, qsS]
         first
         | (refine qdr 16 rfl (by kernel_rfl) (fun _ _ _ h => h) (by rfl) (by assumption) ?_)
         | (refine qtk 16 (v := ?_) rfl (by kernel_rfl) (fun _ _ _ h => h) (by rfl) (by assumption) ?_ ?_; rotate_left; (intro w9 hS9; (try dsimp only at hS9); go_split_ands; go_simp; try with_reducible rfl))
         try simp only [Act.put, qgA, qgS, qg0, qsA, qs0, qsS]
         first
         | (refine qdr 17 rfl (by kernel_rfl) (fun _ _ _ h => h) (by rfl) (by assumption) ?_)
         | (refine qtk 17 (v := ?_) rfl (by kernel_rfl) (fun _ _ _ h => h) (by rfl) (by assumption) ?_ ?_; rotate_left; (intro w9 hS9; (try dsimp only at hS9); go_split_ands; go_simp; try with_reducible rfl))
         try simp only [Act.put, qgA, qgS, qg0, qsA, qs0, qsS]
         first
         | (refine qdr 18 rfl (by kernel_rfl) (fun _ _ _ h => h) (by rfl) (by assumption) ?_)
         | (refine qtk 18 (v := ?_) rfl (by kernel_rfl) (fun _ _ _ h => h) (by rfl) (by assumption) ?_ ?_; rotate_left; (intro w9 hS9; (try dsimp only at hS9); go_split_ands; go_simp; try with_reducible rfl))
         try simp only [Act.put, qgA, qgS, qg0, qsA, qs0, qsS]
         first
         | (refine qdr 19 rfl (by kernel_rfl) (fun _ _ _ h => h) (by rfl) (by assumption) ?_)
         | (refine qtk 19 (v := ?_) rfl (by kernel_rfl) (fun _ _ _ h => h) (by rfl) (by assumption) ?_ ?_; rotate_left; (intro w9 hS9; (try dsimp only at hS9); go_split_ands; go_simp; try with_reducible rfl))
         try simp only [Act.put, qgA, qgS, qg0, qsA, qs0, qsS]
         first
         | (refine qdr 20 rfl (by kernel_rfl) (fun _ _ _ h => h) (by rfl) (by assumption) ?_)
         | (refine qtk 20 (v := ?_) rfl (by kernel_rfl) (fun _ _ _ h => h) (by rfl) (by assumption) ?_ ?_; rotate_left; (intro w9 hS9; (try dsimp only at hS9); go_split_ands; go_simp; try with_reducible rfl))
         try simp only [Act.put, qgA, qgS, qg0, qsA, qs0, qsS]
         first
         | (refine qdr 21 rfl (by kernel_rfl) (fun _ _ _ h => h) (by rfl) (by assumption) ?_)
         | (refine qtk 21 (v := ?_) rfl (by kernel_rfl) (fun _ _ _ h => h) (by rfl) (by assumption) ?_ ?_; rotate_left; (intro w9 hS9; (try dsimp only at hS9); go_split_ands; go_simp; try with_reducible rfl))
         try simp only [Act.put, qgA, qgS, qg0, qsA, qs0, qsS]
         first
         | (refine qdr 22 rfl (by kernel_rfl) (fun _ _ _ h => h) (by rfl) (by assumption) ?_)
         | (refine qtk 22 (v := ?_) rfl (by kernel_rfl) (fun _ _ _ h => h) (by rfl) (by assumption) ?_ ?_; rotate_left; (intro w9 hS9; (try dsimp only at hS9); go_split_ands; go_simp; try with_reducible rfl))
         try simp only [Act.put, qgA, qgS, qg0, qsA, qs0, qsS]
         refine qtk 23 (v := ?_) rfl (by kernel_rfl) (fun _ _ _ h => h) (by rfl) (by assumption) ?_ ?_
         rotate_left
         ·(intro w9 hS9; (try dsimp only at hS9); go_split_ands; go_simp; try with_reducible rfl)
         try simp only [Act.put, qgA, qgS, qg0, qsA, qs0, qsS]
         refine qtk 24 (v := ?_) rfl (by kernel_rfl) (fun _ _ _ h => h) (by rfl) (by assumption) ?_ ?_
         rotate_left
         ·(intro w9 hS9; (try dsimp only at hS9); go_split_ands; go_simp; try with_reducible rfl)
         try simp only [Act.put, qgA, qgS, qg0, qsA, qs0, qsS]
         refine qtk 25 (v := ?_) rfl (by kernel_rfl) (fun _ _ _ h => h) (by rfl) (by assumption) ?_ ?_
         rotate_left
         ·(intro w9 hS9; (try dsimp only at hS9); go_split_ands; go_simp; try with_reducible rfl)
         try simp only [Act.put, qgA, qgS, qg0, qsA, qs0, qsS]
         refine qtk 26 (v := ?_) rfl (by kernel_rfl) (fun _ _ _ h => h) (by rfl) (by assumption) ?_ ?_
         rotate_left
         ·(intro w9 hS9; (try dsimp only at hS9); go_split_ands; go_simp; try with_reducible rfl)
         try simp only [Act.put, qgA, qgS, qg0, qsA, qs0, qsS]
         refine wpAnyH_done (by kernel_rfl) ?_ _
         go_wp2_with fail
         go_roundg (rows.length - (k + 1))
         case rel => exact ⟨k + 1, rfl, by omega, by rw [HA.out]; rfl, by go_num, HF2.out.trans (Frm.refl [] wr).drew (by simp)⟩
         case measure => have := HQ2.out; omega
      ·have k5 : ¬ (k : Int) < (rows.length : Int) := by omega
       have hBl : B = leastR rows x := by rw [hB, List.take_of_length_le (by omega)]; rfl
       obtain ⟨b'', o'', xa', xc', e8, cx, hrx⟩ := HAT.out wr FW.out i x HX.out
       obtain ⟨rfl, rfl⟩ : b = b'' ∧ o = o'' := by simpa using e8
       have hflt := filter_next (p := leastR rows) HX.out
       have hown := ownsB_frm HOWN.out HF2.out (by simp)
       have hadd := addSet_any w.heap.size F wr a3 c3 qs (.slice xa' x.length xc') x hown (HQAT.out.nil HF2.out) hrx (by omega) FW.out.size
       unfold AddEnd at hadd
       rw [HQR.out] at hadd
       have HADD := Lib.hid hadd
       clear hadd hrx e8 hown
       cases B with
       | true =>
        rw [← hBl, if_pos rfl] at hflt
        have HFLT := Lib.hid hflt
        clear hflt hBl hB
        go_wp2_with (first
         | (go_at_call 142; refine HADD.out.mono ?_; rintro e5 w5 ⟨⟨a5, c5, qs5, rfl, own5, hat5, hr5⟩, hf5⟩)
         | fail)
        have hlen : qs5.length ≤ i + 1 := by
         have h1 := congrArg List.length hr5
         rw [List.length_map] at h1
         have h2 := insG_len (lt := ltL) (setG ltL ((rows.take i).filter (leastR rows))) x
         have h3 := congrArg List.length HQR.out
         rw [List.length_map] at h3
         omega
        go_roundg (rows.length - (i + 1))
        case rel => exact ⟨i + 1, a5, c5, qs5, rfl, by omega, by go_num, rfl, own5, hat5, by rw [hr5, HFLT.out, setG_snoc], hlen, FW.out.trans hf5 (by simp)⟩
        case measure => have := HQ.out; omega
       | false =>
        rw [← hBl, if_neg (by simp), List.append_nil] at hflt
        have HFLT := Lib.hid hflt
        clear hflt hBl hB HADD
        go_wp2_with fail
        go_roundg (rows.length - (i + 1))
        case rel => exact ⟨i + 1, a3, c3, qs, rfl, by omega, by go_num, rfl, ownsB_frm HOWN.out HF2.out (by simp), HQAT.out.nil HF2.out, by rw [HFLT.out, HQR.out], by omega, FW.out⟩
        case measure => have := HQ.out; omega
    ·have j5 : ¬ (i : Int) < (rows.length : Int) := by omega
     have htk : rows.take i = rows := List.take_of_length_le (by omega)
     have hm := HML.out
     rw [htk] at HQR
     rw [← HQR.out] at hm
     have HM := Lib.hid hm
     have HL9 : Hid ((minL rows).length = qs.length) := Lib.hid (by rw [hm, List.length_map])
     clear hm htk
     go_wp2_with fail
     go_ret
     refine ⟨⟨a3, c3, by rw [HL9.out]; rfl, ?_⟩, HF.out⟩
     rw [HL9.out]
     refine ⟨qs, HM.out.symm, ?_, HQAT.out⟩
     rw [HL9.out]
     exact rowV_of_owns HOWN.out (fun k hk e => by
      have h1 := (HOWN.out.lt k e).1
      have h2 := HFL.out k hk
      omega)
end Go.Proofs.YtikpcipkkhmcfaaGreat.Beh
