/- Contract of Reach of the reference's heap. -/
import Derived.Test.YtlpgonnionbkfaaHM
namespace Go.Proofs.Ytlpgonnionbkfaa
open Go.RowKit

set_option linter.unusedSimpArgs false in
set_option maxRecDepth 100000 in
set_option maxHeartbeats 4000000 in
theorem rreach_any {w : World} {hb : Nat} {fp : List Nat} {most : Int} {cs : List HC} (h : HW 76 w hb fp most cs) (ho : HOk cs) (v : Value) (rs : List Int) (hv : IntsAt w v rs) (hrl : rs.length ≤ 1000) :
    Calls Try.prog 39 #[.pointer (some ⟨hb, 0, none⟩), v] w fun e w' => RchEnd w.heap.size (natI (rset cs (rts cs rs))) w' e ∧ Frm [] w w' := by
  have hsm := h.small
  have hre := reached_any h ho v rs hv hrl
  obtain ⟨a2, cap2, rfl, hl2⟩ := hv.shape
  clear h ho hv hrl
  go_enter Try.func39, Try.ntmps39
  go_wp2_with fail
  refine hre.mono ?_
  rintro e1 w1 ⟨⟨g, seen, rfl, hown1, hmem⟩, hf1⟩
  have HOWN := Lib.hid hown1
  have HF1 := Lib.hid hf1
  have HM := Lib.hid hmem
  have hsz1 := hf1.size
  have HSL : Hid (seen.length = cs.length) := Lib.hid (by have := hown1.1; simpa [bools] using this)
  clear hre hown1 hf1 hmem
  go_wp2_with fail
  go_loopg [5, 7] cs.length (fun q s5 s7 wr => ∃ (i N : Nat) (out : List Nat) (a5 : Option Addr) (c5 : Nat), q = cs.length - i ∧ i ≤ cs.length ∧ s7 = .int .i64 (i : Int) ∧ s5 = .slice a5 N c5 ∧ out = trues seen i ∧ out.length = N ∧ N ≤ i ∧ wr.ownsRow w1.heap.size 3 1 (.slice a5 N c5) N (ints (natI out)) ∧ Frm [] w1 wr)
  case atStart => exact ⟨0, 0, [], none, 0, rfl, Nat.zero_le _, rfl, rfl, rfl, rfl, Nat.le_refl _, World.ownsRow_nil _ _ _ _, Frm.refl _ _⟩
  case round =>
    obtain ⟨i, N, out, a5, c5, rfl, hi, rfl, rfl, hout, hN, hNi, ho5, hF⟩ := hrel
    have HO := Lib.hid hout
    have HN := Lib.hid hN
    have HO5 := Lib.hid ho5
    have HF := Lib.hid hF
    have hszr := hF.size
    have i0 : (0 : Int) ≤ (i : Int) := by omega
    have hS := ownsB_frm HOWN.out hF (by simp)
    clear hout hN ho5 hF
    by_cases hil : i < cs.length
    · have i1 : (i : Int) < (cs.length : Int) := by omega
      obtain ⟨b, hb⟩ : ∃ b, seen[i]? = some b := ⟨_, List.getElem?_eq_getElem (by rw [HSL.out]; exact hil)⟩
      have qs := (own_rowg2 hS).cell (bools_get hb)
      have HB := Lib.hid hb
      clear hb hS
      cases b with
      | false =>
        have HT := Lib.hid (trues_no (seen := seen) (k := i) (by rw [HB.out]; simp))
        go_wp2_with fail
        go_roundg (cs.length - (i + 1))
        case rel => exact ⟨i + 1, N, out, a5, c5, rfl, hil, by go_num, rfl, by rw [HT.out]; exact HO.out, HN.out, by omega, HO5.out, HF.out⟩
        case measure => omega
      | true =>
        have HT := Lib.hid (trues_yes (seen := seen) (k := i) HB.out)
        have i2 : i ≤ 65536 := by omega
        go_wp2_with (first | (at_builtin; refine app_ints rfl (.tmp 21) (.tmp 23) rfl w1.heap.size N (N + 1) (.slice a5 N c5) (natI out) rfl (HO5.out.alloc _) (.slice (some ⟨_, 0, none⟩) 1 1) [(i : Int)] rfl (ints_new _ _ (by simp)) rfl (by omega) (by simp; omega) ?_) | (at_builtin; fail))
        intro a9 c9 w9 hown9 hf9 hloc9
        have f9 : Frm [] wr (wr.alloc (.cells #[.int .i64 (i : Int)] 3)) := (Frm.refl [] _).alloc _
        have HF9 : Hid (Frm [] w1 w9) := Lib.hid ((HF.out.trans f9 (by simp)).trans hf9 (fun x hx => .inr (HO5.out.lt x (by simpa using hx)).1))
        have H9 : Hid (w9.ownsRow w1.heap.size 3 1 (.slice a9 (N + 1) c9) (N + 1) (ints (natI (out ++ [i])))) := Lib.hid (owns_cast hown9 (by rw [natI, natI, List.map_append]; rfl))
        have HN9 : Hid ((out ++ [i]).length = N + 1) := Lib.hid (by rw [List.length_append, HN.out]; rfl)
        clear hown9 hf9 hloc9 f9
        go_wp2_with fail
        go_roundg (cs.length - (i + 1))
        case rel => exact ⟨i + 1, N + 1, out ++ [i], a9, c9, rfl, hil, by go_num, rfl, by rw [HT.out, HO.out], HN9.out, by omega, H9.out, HF9.out⟩
        case measure => omega
    · have i1 : ¬ (i : Int) < (cs.length : Int) := by omega
      go_wp2_with fail
      go_ret
      have hi9 : i = cs.length := by omega
      have hres : out = rset cs (rts cs rs) := by rw [HO.out, hi9]; exact trues_rset HM.out
      have hN9 := HN.out
      have hln : (rset cs (rts cs rs)).length = N := by rw [← hres]; exact HN.out
      refine ⟨⟨a5, c5, ?_, ?_, ?_⟩, HF1.out.trans HF.out (by simp)⟩
      · rw [natI_len, hln]; rfl
      · rw [natI_len, hln, ← hres]
        have h9 : N = (natI out).length := by rw [natI_len, hN9]
        rw [h9]
        refine ints_of_owns (B := w1.heap.size) ?_
        rw [← h9]
        exact HO5.out
      · rw [natI_len, hln]
        exact fun k hk => Nat.le_trans hsz1 (HO5.out.lt k hk).1

end Go.Proofs.Ytlpgonnionbkfaa
