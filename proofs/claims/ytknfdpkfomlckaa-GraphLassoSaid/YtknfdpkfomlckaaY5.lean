/- Contract of graph.Divergent. -/
import Derived.Test.YtknfdpkfomlckaaW2
import Derived.Test.YtknfdpkfomlckaaAD
import Derived.Test.YtknfdpkfomlckaaAC
namespace Go.Proofs.Ytknfdpkfomlckaa
open Go.RowKit

theorem comps_ok (B0 : Nat) (a : Option Addr) (cap : Nat) (l : Lts) (silent : Bool) (w : World) (h : LAt B0 w a cap l) (hv : validB l = true) :
    Calls Try.prog 16 #[.agg #[.slice a l.length cap], .bool silent] w fun e w' => (∃ g out, e = .returned (.slice (some ⟨g, 0, none⟩) l.length l.length) ∧ w'.ownsRow w.heap.size 3 1 (.slice (some ⟨g, 0, none⟩) l.length l.length) l.length (ints out) ∧ Tj.IsComp (Esel l silent) l.length out) ∧ Frm [] w w' := by
  refine (comps_any B0 a cap l silent w h).mono ?_
  rintro e w' ⟨h1, hf⟩
  rw [CompEnd, if_pos hv] at h1
  exact ⟨h1, hf⟩

def DivEnd (B : Nat) (l : Lts) (w' : World) (e : Ending) : Prop :=
  if validB l = true then ∃ g bs, e = .returned (.slice (some ⟨g, 0, none⟩) l.length l.length) ∧ w'.ownsRow B 4 1 (.slice (some ⟨g, 0, none⟩) l.length l.length) l.length (bools bs) ∧ IsDiv (Esel l true) l.length bs
  else e = .returned (.slice none 0 0)

set_option linter.unusedSimpArgs false in
set_option maxRecDepth 100000 in
set_option maxHeartbeats 2000000 in
theorem divergent_any (B0 : Nat) (a : Option Addr) (cap : Nat) (l : Lts) (w : World) (h : LAt B0 w a cap l) :
    Calls Try.prog 26 #[.agg #[.slice a l.length cap]] w fun e w' => DivEnd w.heap.size l w' e ∧ Frm [] w w' := by
  have f0 : Frm [] w (w.alloc (.cells #[.slice a l.length cap] 25)) := (Frm.refl [] w).alloc _
  have hcut0 := h.cut
  clear h
  have h := hcut0
  clear hcut0
  have hbox := box1 w (.slice a l.length cap) 25
  have HB := Lib.hid hbox
  have HL0 := Lib.hid (h.nil f0 rfl)
  have hva := valid_any w.heap.size a cap l _ (h.nil f0 rfl)
  have hl := h.lt
  clear h hbox
  go_enter Try.func26, Try.ntmps26
  go_wp2_with fail
  refine hva.mono ?_
  rintro e1 w1 ⟨rfl, hf1⟩
  clear hva
  have F1 := f0.trans hf1 (by simp)
  have hb1 := (HB.out.frm hf1 (by simp)).cell (i := 0) rfl
  cases hv : validB l with
  | false =>
    have HR : Hid (DivEnd w.heap.size l w1 (.returned (.slice none 0 0))) := Lib.hid (by rw [DivEnd, if_neg (by rw [hv]; simp)])
    clear hv
    go_wp2_with fail
    go_ret
    exact ⟨HR.out, F1⟩
  | true =>
    have HVB := Lib.hid hv
    have HV := Lib.hid (vlts_of hv)
    have hfew := (vlts_of hv).few
    have i2 : (l.length : Int) ≤ 16384 := by omega
    have HF1 := Lib.hid F1
    have HL1 := Lib.hid (HL0.out.nil hf1 rfl)
    have C1 := Lib.hid hb1
    have hsz1 := hf1.size
    simp only [World.alloc, Array.size_push] at hsz1
    clear hv F1 hf1 hb1
    go_wp2_with fail
    go_region_held3 (fun w' => w'.cell? ⟨w.heap.size, 0, none⟩ = some (.slice a l.length cap)) (first | exact C1.out | exact hf7.cell C1.out (by simp) | exact hf6.cell C1.out (by simp) | exact hf5.cell C1.out (by simp)) (first | (go_at_call 16; (with_reducible refine (comps_ok w.heap.size a cap l true _ (HL1.out.nil ((Frm.refl [] w1).drew) rfl) HVB.out).mono ?_); rintro e5 w5 ⟨h5, hf50⟩; obtain ⟨g5, out5, rfl, hown5, hic5⟩ := h5; have hf5 := ((Frm.refl [] w1).drew).trans hf50 (by simp)) | (go_at_call 49; (with_reducible refine (looping_any w5.heap.size a cap l HV.out (some ⟨g5, 0, none⟩) l.length out5 w5 (HL1.out.nil hf5 rfl).cut (rd_of_owns hown5 (Nat.le_refl _)) (Nat.le_refl _)).mono ?_); rintro e6 w6 ⟨g6, rfl, hown6, hf60⟩; have hf6 := hf5.trans hf60 (by simp)) | (go_at_call 48; (with_reducible refine (distances_any w6.heap.size a cap l HV.out (some ⟨g6, 0, none⟩) l.length ((List.range l.length).map (loopF (Esel l true) out5)) w6 (HL1.out.nil hf6 rfl).cut (rd_of_owns hown6 (Nat.le_refl _)) (Nat.le_refl _)).mono ?_); rintro e7 w7 ⟨h7, hf70⟩; obtain ⟨g7, out7, rfl, hown7, hid7⟩ := h7; have hf7 := hf6.trans hf70 (by simp)))
    have HF7 := Lib.hid hf7
    have HROW7 := Lib.hid hown7
    have HID := Lib.hid (isDist_loops hic5 (esel_edge HV.out true) hid7)
    have C7 := hf7.cell C1.out (by simp)
    have hsz7 := hf7.size
    have hsz6 := hf6.size
    have hsz61 := hf70.size
    have hg7 := (hown7.lt g7 rfl)
    clear hown5 hic5 hf50 hf5 hown6 hf60 hf6 hown7 hid7 hf70 hf7
    go_wp2_with (first | (at_make; refine wpl_make_b _ rfl (.tmp 17) rfl _ l.length rfl rfl (by omega) ?_) | (at_make; fail))
    intro w8 hown8 hf8
    rw [← bsAt_zero l.length (divF out7)] at hown8
    have HOWN8 := Lib.hid hown8
    have HF8 := Lib.hid hf8
    clear hown8 hf8 C7
    go_wp2_with fail
    go_loopg [21] l.length (fun q i wr => ∃ (k : Nat), q = l.length - k ∧ k ≤ l.length ∧ i = .int .i64 (k : Int) ∧ wr.ownsRow w7.heap.size 4 1 (.slice (some ⟨w7.heap.size, 0, none⟩) l.length l.length) l.length (bools (bsAt l.length (divF out7) k false)) ∧ Frm [w7.heap.size] w8 wr)
    case atStart => exact ⟨0, rfl, Nat.zero_le _, rfl, HOWN8.out, Frm.refl _ _⟩
    case round =>
      obtain ⟨k, rfl, hk, rfl, hown, hF⟩ := hrel
      have HOWN := Lib.hid hown
      have HF := Lib.hid hF
      have HFB := Lib.hid ((HF8.out.mono (fq := [w7.heap.size]) (by simp)).trans hF (by simp))
      have i4 : (0 : Int) ≤ (k : Int) := by omega
      clear hown hF
      by_cases hlt2 : k < l.length
      · have i5 : (k : Int) < (l.length : Int) := by omega
        have hx : out7[k]? = some (Tj.ix out7 k) := ix_some HID.out.len hlt2
        have c7 := HFB.out.cell ((own_rowg2 HROW7.out).cell (ints_get hx)) (by simp; omega)
        have zf := (own_rowg2 HOWN.out).frozen k
        have cf := (own_rowg2 HOWN.out).cell (bools_get (bsAt_get l.length (divF out7) k false k hlt2))
        have n1 := World.block_lt_of_cell? _ _ c7
        simp only at n1
        obtain ⟨x, hxx⟩ : ∃ x, Tj.ix out7 k = x := ⟨_, rfl⟩
        rw [hxx] at c7
        have HXX := Lib.hid hxx
        clear hx hxx
        go_wp2_with fail
        go_roundg (l.length - (k + 1))
        case rel =>
          refine ⟨k + 1, rfl, hlt2, by go_num, ?_, ?_⟩
          · have h9 := ownsB_setCell HOWN.out (g := w7.heap.size) rfl k (.bool (divF out7 k))
            rw [← bools_set, bsAt_set, bsAt_next] at h9
            have h8 : divF out7 k = decide (0 ≤ x) := by rw [divF, HXX.out]
            rw [h8] at h9
            first | exact h9 | exact owns_drew h9 | exact owns_drewN h9 _
          · exact HF.out.setCell (p := ⟨w7.heap.size, k, none⟩) (.inl (by simp)) _
        case measure => omega
      · have i5 : ¬ (k : Int) < (l.length : Int) := by omega
        have hkl : k = l.length := by omega
        subst hkl
        have hfin := (HF1.out.trans HF7.out (by simp)).trans HFB.out (by simp; omega)
        have HFIN := Lib.hid hfin
        have hend : DivEnd w.heap.size l wr (.returned (.slice (some ⟨w7.heap.size, 0, none⟩) l.length l.length)) := by
          rw [DivEnd, if_pos HVB.out]
          have h9 := HOWN.out
          rw [bsAt_end] at h9
          exact ⟨_, _, rfl, ownsB_mono h9 (by omega), isDiv_of (esel_edge HV.out true) HID.out⟩
        have HEND := Lib.hid hend
        clear hfin hend
        go_wp2_with fail
        go_ret
        exact ⟨HEND.out, HFIN.out⟩

end Go.Proofs.Ytknfdpkfomlckaa
