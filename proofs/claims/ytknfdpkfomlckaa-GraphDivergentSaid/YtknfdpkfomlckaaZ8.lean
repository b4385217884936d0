/- GraphDivergent of the law answers true. -/
import Derived.Test.YtknfdpkfomlckaaAG
import Derived.Test.YtknfdpkfomlckaaZ6
import Derived.Test.YtknfdpkfomlckaaQ1
import Derived.Test.YtknfdpkfomlckaaQ2
namespace Go.Proofs.Ytknfdpkfomlckaa
open Go.RowKit

def DivU (l : Lts) (n : Nat) (bs : List Bool) : Prop := if validB l = true then n = l.length ∧ IsDiv (Esel l true) l.length bs else n = 0 ∧ bs = []
theorem DivU.unique {l : Lts} {n m : Nat} {xs ys : List Bool} (h : DivU l n xs) (k : DivU l m ys) : n = m ∧ xs = ys := by
  unfold DivU at h k
  split at h
  · rename_i hv
    rw [if_pos hv] at k
    exact ⟨by omega, h.2.unique k.2⟩
  · rename_i hv
    rw [if_neg hv] at k
    exact ⟨by omega, by rw [h.2, k.2]⟩
def DivX (B : Nat) (l : Lts) (w' : World) (e : Ending) : Prop :=
  ∃ (a : Option Addr) (c n : Nat) (bs : List Bool), e = .returned (.slice a n c) ∧ w'.ownsRow B 4 1 (.slice a n c) n (bools bs) ∧ DivU l n bs
theorem DivEnd.x {B : Nat} {l : Lts} {w' : World} {e : Ending} (h : DivEnd B l w' e) : DivX B l w' e := by
  unfold DivEnd at h
  split at h
  · rename_i hv
    obtain ⟨g, out, he, hown, hc⟩ := h
    exact ⟨_, _, _, out, he, hown, by rw [DivU, if_pos hv]; exact ⟨rfl, hc⟩⟩
  · rename_i hv
    exact ⟨none, 0, 0, [], h, World.ownsRow_nil _ _ _ _, by rw [DivU, if_neg hv]; exact ⟨rfl, rfl⟩⟩
theorem div_x (B0 : Nat) (a : Option Addr) (cap : Nat) (l : Lts) (w : World) (h : LAt B0 w a cap l) :
    Calls Try.prog 26 #[.agg #[.slice a l.length cap]] w fun e w' => DivX w.heap.size l w' e ∧ Frm [] w w' :=
  (divergent_any B0 a cap l w h).mono fun _ _ h => ⟨h.1.x, h.2⟩
theorem rdiv_x (B0 : Nat) (a : Option Addr) (cap : Nat) (l : Lts) (w : World) (h : LAt B0 w a cap l) :
    Calls Try.prog 45 #[.agg #[.slice a l.length cap]] w fun e w' => DivX w.heap.size l w' e ∧ Frm [] w w' :=
  (rdiv_any B0 a cap l w h).mono fun _ _ h => ⟨h.1.x, h.2⟩

set_option linter.unusedSimpArgs false in
set_option maxRecDepth 100000 in
set_option maxHeartbeats 4000000 in
theorem divergents_any (B0 : Nat) (a : Option Addr) (cap : Nat) (l : Lts) (w : World) (h : LAt B0 w a cap l) :
    Calls Try.prog 20 #[.agg #[.slice a l.length cap]] w fun e w' => e = .returned (.bool true) ∧ Frm [] w w' := by
  have f0 : Frm [] w (w.alloc (.cells #[.slice a l.length cap] 25)) := (Frm.refl [] w).alloc _
  have hcut0 := h.cut
  clear h
  have h := hcut0
  clear hcut0
  have HL0 := Lib.hid (h.nil f0 rfl)
  have hbox := (box1 w (.slice a l.length cap) 25).cell (i := 0) rfl
  have C0 := Lib.hid hbox
  clear h
  go_enter Try.func20, Try.ntmps20
  go_wp2_with fail
  obtain ⟨w0, hw0⟩ : ∃ x, x = w.alloc (.cells #[.slice a l.length cap] 25) := ⟨_, rfl⟩
  rw [← hw0] at HL0 C0 f0 ⊢
  have HF0 := Lib.hid f0
  clear hbox hw0 f0
  go_region_held3 (fun w' => w'.cell? ⟨w.heap.size, 0, none⟩ = some (.slice a l.length cap)) (first | exact C0.out | exact hf4.cell C0.out (by simp) | exact hf3.cell C0.out (by simp)) (first | (go_at_call 26; (with_reducible refine (div_x w.heap.size a cap l w0.drew (HL0.out.nil ((Frm.refl [] w0).drew) rfl)).mono ?_); rintro e3 w3 ⟨h3, hf30⟩; obtain ⟨a3, c3, n3, b3, rfl, hown3, hu3⟩ := h3; have hf3 := ((Frm.refl [] w0).drew).trans hf30 (by simp)) | (go_at_call 45; (with_reducible refine (rdiv_x w.heap.size a cap l w3 (HL0.out.nil hf3 rfl)).mono ?_); rintro e4 w4 ⟨h4, hf40⟩; obtain ⟨a4, c4, n4, b4, rfl, hown4, hu4⟩ := h4; obtain ⟨rfl, rfl⟩ := hu4.unique hu3; have hf4 := hf3.trans hf40 (by simp)))
  have hl4 := hown4.1
  rw [bools, List.length_map] at hl4
  have R3 := Lib.hid (rd_of_owns (ownsB_frm hown3 hf40 (by simp)) (Nat.le_refl _))
  have R4 := Lib.hid (rd_of_owns hown4 (Nat.le_refl _))
  have hn4 := R4.out.lt
  have HF4 := Lib.hid (HF0.out.trans hf4 (by simp))
  clear hown3 hown4 hu3 hu4 hf4 hf40 hf3 hf30
  go_wp2_with fail
  go_loopg [5] n4 (fun q s5 wr => ∃ (k : Nat), q = n4 - k ∧ k ≤ n4 ∧ s5 = .int .i64 (k : Int) ∧ Frm [] w4 wr)
  case atStart => exact ⟨0, rfl, Nat.zero_le _, rfl, Frm.refl _ _⟩
  case round =>
    obtain ⟨k, rfl, hk, rfl, hF⟩ := hrel
    have HF := Lib.hid hF
    have i4 : (0 : Int) ≤ (k : Int) := by omega
    clear hF
    by_cases hkl : k < n4
    · have i5 : (k : Int) < (n4 : Int) := by omega
      obtain ⟨b, hb⟩ : ∃ b, b4[k]? = some b := ⟨_, List.getElem?_eq_getElem (by omega)⟩
      obtain ⟨g3, o3, rfl, _, p3⟩ := R3.out.cell k _ (bools_get hb)
      obtain ⟨g4, o4, rfl, _, p4⟩ := R4.out.cell k _ (bools_get hb)
      have d3 := HF.out.cell p3 (by simp)
      have d4 := HF.out.cell p4 (by simp)
      clear p3 p4 hb
      cases b with
      | true =>
        go_wp2_with fail
        go_quiet (fail)
        go_wp2_with fail
        go_roundg (n4 - (k + 1))
        case rel => exact ⟨k + 1, rfl, hkl, by go_num, HF.out.drewN nq⟩
        case measure => omega
      | false =>
        go_wp2_with fail
        go_quiet (fail)
        go_wp2_with fail
        go_roundg (n4 - (k + 1))
        case rel => exact ⟨k + 1, rfl, hkl, by go_num, HF.out.drewN nq⟩
        case measure => omega
    · have i5 : ¬ (k : Int) < (n4 : Int) := by omega
      go_wp2_with fail
      go_ret
      exact ⟨rfl, HF4.out.trans HF.out (by simp)⟩

set_option linter.unusedSimpArgs false in
set_option maxRecDepth 100000 in
set_option maxHeartbeats 4000000 in
theorem divergent_law (ta : Option Addr) (tcap : Nat) (xs : List Int) (a : Option Addr) (cap : Nat) (l : Lts) (w : World) (ht : Rd w.heap.size w ta xs.length tcap 1 (ints xs)) (hx : ∀ x ∈ xs, -9223372036854775808 ≤ x ∧ x ≤ 9223372036854775807) (h : LAt w.heap.size w a cap l) :
    Calls Try.prog 4 #[.slice ta xs.length tcap, .agg #[.slice a l.length cap]] w fun e w' => e = .returned (.bool true) ∧ Frm [] w w' := by
  have f0 : Frm [] w (w.alloc (.cells #[.slice a l.length cap] 25)) := (Frm.refl [] w).alloc _
  have HB := Lib.hid (box1 w (.slice a l.length cap) 25)
  have hnew := tape_new w.heap.size ta tcap xs _ (ht.frm f0 (by simp)) hx
  have HL0 := Lib.hid (h.nil f0 rfl)
  clear ht hx h
  go_enter Try.func4, Try.ntmps4
  go_wp2_with fail
  refine hnew.mono ?_
  rintro e1 w1 ⟨rfl, hf1, hT1, hsz1⟩
  have hs0 : (w.alloc (.cells #[.slice a l.length cap] 25)).heap.size = w.heap.size + 1 := by simp only [World.alloc, Array.size_push]
  rw [hs0] at hsz1 hT1 ⊢
  have HF1 := Lib.hid hf1
  have HT1 := Lib.hid hT1
  clear hnew hf1 hT1
  go_wp2_with fail
  go_loopg [6] 5 (fun q i wr => ∃ (j : Nat), q = 5 - j ∧ j ≤ 5 ∧ i = .int .i64 (j : Int) ∧ TapeOk w.heap.size wr (w.heap.size + 1) (4000 * j) ∧ Frm [w.heap.size + 1] w1 wr)
  case atStart => exact ⟨0, rfl, Nat.zero_le _, rfl, HT1.out, Frm.refl _ _⟩
  case round =>
    obtain ⟨j, rfl, hj, rfl, hT, hF⟩ := hrel
    have HT := Lib.hid hT
    have HF := Lib.hid hF
    have hszr := hF.size
    have HFW := Lib.hid (((HF1.out.mono (fq := [w.heap.size + 1]) (by simp)).trans hF (by simp)))
    have i4 : (0 : Int) ≤ (j : Int) := by omega
    clear hT hF
    by_cases hj5 : j < 5
    · have i5 : (j : Int) < 5 := by omega
      go_wp2_with fail
      refine (lts_any w.heap.size (w.heap.size + 1) (4000 * j) 8 wr HT.out (by omega) (by omega) (by omega) (by omega)).mono ?_
      rintro e5 w5 ⟨x, g, rfl, hg, hM, hS, hT5, hf5⟩
      have hpos := hS.pos
      have hfew := hS.few
      have hrows : ∀ row ∈ x, row.length ≤ 1000 := fun row hr => by
        obtain ⟨i, hi⟩ := List.getElem?_of_mem hr
        have := (hS.row i row hi).2.2
        omega
      have HROWS := Lib.hid hrows
      have HROWS2 : Hid (∀ row ∈ x, row.length ≤ 140737488355328) := Lib.hid (fun row hr => by have := hrows row hr; omega)
      have hsz5 := hf5.size
      have hgl := hM.lt
      have HM := Lib.hid (hM.frm ((Frm.refl [] w5).alloc (.cells #[.slice (some ⟨g, 0, none⟩) x.length x.length] 25)) (by simp))
      have HT6 : Hid (TapeOk w.heap.size (w5.alloc (.cells #[.slice (some ⟨g, 0, none⟩) x.length x.length] 25)) (w.heap.size + 1) (4000 * j + 1000)) := Lib.hid (hT5.nil ((Frm.refl [] w5).alloc _))
      have HF6 := Lib.hid ((HF.out.trans hf5 (by simp)).alloc (.cells #[.slice (some ⟨g, 0, none⟩) x.length x.length] 25))
      have HB6 := Lib.hid (box1 w5 (.slice (some ⟨g, 0, none⟩) x.length x.length) 25)
      have hlen : x.length ≤ 140737488355328 := by omega
      have i6 : (x.length : Int) ≤ 1000 := by omega
      clear hM hS hT5 hf5 hrows
      have hb6 := HB6.out.cell (i := 0) rfl
      go_wp2_with fail
      refine (divergents_any _ (some ⟨g, 0, none⟩) x.length x _ (HM.out.lat hlen HROWS2.out)).mono ?_
      rintro e7 w7 ⟨rfl, hf7⟩
      have HF7 := Lib.hid hf7
      have HT7 := Lib.hid (HT6.out.nil hf7)
      have HB7 := Lib.hid (HB6.out.frm hf7 (by simp))
      have hb7 := HB7.out.cell (i := 0) rfl
      have HM7 := Lib.hid (HM.out.frm hf7 (by simp))
      clear hf7 hb6
      go_wp2_with fail
      refine (calm_any w.heap.size (w.heap.size + 1) (4000 * j + 1000) 8 w7 HT7.out (by omega) (by omega) (by omega) (by omega)).mono ?_
      rintro e8 w8 ⟨h8, hT8, hf8⟩
      obtain ⟨l8, g8, rfl, hl8⟩ := h8
      have HF8 := Lib.hid (HF7.out.mono (fq := [w.heap.size + 1]) (by simp) |>.trans hf8 (by simp))
      have HT8 := Lib.hid hT8
      have HB8 := Lib.hid (HB7.out.frm hf8 (by simp; omega))
      have HM8 := Lib.hid (HM7.out.frm hf8 (by simp; omega))
      have hb8 := HB8.out.cell (i := 0) rfl
      clear hf8 hT8 hb7
      go_wp2_with fail
      refine (divergents_any _ (some ⟨g8, 0, none⟩) l8.length l8 w8 hl8).mono ?_
      rintro e9 w9 ⟨rfl, hf9⟩
      have HF9 := Lib.hid (HF8.out.trans hf9 (by simp))
      have HT9 := Lib.hid (HT8.out.nil hf9)
      have HB9 := Lib.hid (HB8.out.frm hf9 (by simp))
      have HM9 := Lib.hid (HM8.out.frm hf9 (by simp))
      have hb9 := HB9.out.cell (i := 0) rfl
      clear hf9 hb8 hl8
      go_wp2_with fail
      refine (spoil_any w.heap.size (w.heap.size + 1) (4000 * j + 1000 + 2000) g x w9 HT9.out (by omega) (by omega) HM9.out (by omega) hpos (by omega) HROWS.out).mono ?_
      rintro e10 w10 ⟨h10, hT10, hf10⟩
      obtain ⟨a10, c10, l10, rfl, hl10⟩ := h10
      have HF10 := Lib.hid (HF9.out.trans hf10 (by simp))
      have HT10 := Lib.hid hT10
      clear hf10 hT10 hb9
      go_wp2_with fail
      refine (divergents_any _ a10 c10 l10 w10 hl10).mono ?_
      rintro e11 w11 ⟨rfl, hf11⟩
      have HF11 := Lib.hid (HF6.out.trans (HF10.out.trans hf11 (by simp)) (by simp))
      have HT11 := Lib.hid (HT10.out.nil hf11)
      clear hf11 hl10
      go_wp2_with fail
      go_roundg (5 - (j + 1))
      case rel => exact ⟨j + 1, rfl, hj5, by go_num, HT11.out.mono (by omega), HF11.out⟩
      case measure => omega
    · have i5 : ¬ (j : Int) < 5 := by omega
      have cb := (HB.out.frm HFW.out (by simp)).cell (i := 0) rfl
      have HLR := Lib.hid (HL0.out.frm HFW.out (by simp))
      have CB := Lib.hid cb
      have HFIN : Hid (Frm [] w wr) := Lib.hid (f0.trans HFW.out (by simp))
      clear hj5
      go_wp2_with fail
      refine (huge_any w.heap.size a cap l wr HLR.out).mono ?_
      rintro e3 w3 ⟨h3, hf3⟩
      obtain ⟨b, rfl, -⟩ := h3
      have HF3 := Lib.hid hf3
      have cb3 := hf3.cell CB.out (by simp)
      have HL3 := Lib.hid (HLR.out.nil hf3 rfl)
      clear hf3 cb
      cases b with
      | true =>
        go_wp2_with fail
        go_ret
        exact ⟨rfl, HFIN.out.trans HF3.out (by simp)⟩
      | false =>
        go_wp2_with fail
        refine (divergents_any w.heap.size a cap l w3 HL3.out).mono ?_
        rintro e4 w4 ⟨rfl, hf4⟩
        have HF4 := Lib.hid hf4
        clear hf4 cb3
        go_wp2_with fail
        refine (sane_any w4).mono ?_
        rintro e5 w5 ⟨rfl, hf5⟩
        have HF5 := Lib.hid hf5
        clear hf5
        go_wp2_with fail
        go_ret
        exact ⟨rfl, ((HFIN.out.trans HF3.out (by simp)).trans HF4.out (by simp)).trans HF5.out (by simp)⟩

end Go.Proofs.Ytknfdpkfomlckaa
