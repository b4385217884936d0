/- Contracts of heap.New, exists, follow, Size, Read. -/
import Derived.Test.YtlpgonnionbkfaaW4
import Derived.Deep.QuietTactic
import Derived.BigQuiet
import Derived.Deep.RegionHeld3
namespace Go.Proofs.Ytlpgonnionbkfaa
open Go.RowKit

section
variable {w : World} {hb : Nat} {cv : Value} {vs : List Value} {most : Int} {cs : List HC}

theorem new_bad (most : Int) (w : World) (h : most < 1 ∨ 65536 < most) :
    Calls Try.prog 8 #[.int .i64 most] w fun e w' => e = .returned (.tuple #[.pointer none, .int .i64 1]) ∧ w = w' := by
  rcases h with h | h
  · go_enter Try.func8, Try.ntmps8
    go_wp2
    go_ret2
    exact ⟨rfl, rfl⟩
  · have : 1 ≤ most := by omega
    go_enter Try.func8, Try.ntmps8
    go_wp2
    go_ret2
    exact ⟨rfl, rfl⟩

theorem new_any (most : Int) (w : World) (h1 : 1 ≤ most) (h2 : most ≤ 65536) :
    Calls Try.prog 8 #[.int .i64 most] w fun e w' => e = .returned (.tuple #[.pointer (some ⟨w.heap.size, 0, none⟩), .int .i64 0]) ∧ Frm [] w w' ∧ w'.heap.size = w.heap.size + 1 ∧
      HeapRep w' w.heap.size 60 (.slice none 0 0) [] most [] := by
  go_enter Try.func8, Try.ntmps8
  go_wp2
  go_ret2
  refine ⟨rfl, (Frm.refl _ _).alloc _, by simp, RowAt.made _ _ _ _ rfl, World.ownsRow_nil _ _ _ _, rfl, by simp, by simp [fpOf, blocksOf, Value.ownBlock], by simp⟩

theorem exists_yes (h : HeapRep w hb 60 cv vs most cs) (r : Nat) (hr : r < cs.length) :
    Calls Try.prog 27 #[.pointer (some ⟨hb, 0, none⟩), .int .i64 r] w fun e w' => e = .returned (.bool true) ∧ w = w' := by
  obtain ⟨a, cap, rfl, hl⟩ := owns_shape h.row
  have h1 := h.hd.cell (i := 1) rfl
  go_enter Try.func27, Try.ntmps27
  go_wp2
  go_ret
  exact ⟨rfl, rfl⟩

theorem exists_no (h : HeapRep w hb 60 cv vs most cs) (r : Int) (hr : r < 0 ∨ (cs.length : Int) ≤ r) :
    Calls Try.prog 27 #[.pointer (some ⟨hb, 0, none⟩), .int .i64 r] w fun e w' => e = .returned (.bool false) ∧ w = w' := by
  obtain ⟨a, cap, rfl, hl⟩ := owns_shape h.row
  have h1 := h.hd.cell (i := 1) rfl
  rcases hr with hr | hr
  · go_enter Try.func27, Try.ntmps27
    go_wp2
    go_ret
    exact ⟨rfl, rfl⟩
  · have : 0 ≤ r := by omega
    go_enter Try.func27, Try.ntmps27
    go_wp2
    go_ret
    refine ⟨?_, rfl⟩
    show Ending.returned (.bool (decide (r < ↑cs.length))) = _
    rw [decide_eq_false (by omega)]

theorem size_any (h : HeapRep w hb 60 cv vs most cs) :
    Calls Try.prog 21 #[.pointer (some ⟨hb, 0, none⟩)] w fun e w' => e = .returned (.int .i64 cs.length) ∧ w = w' := by
  obtain ⟨a, cap, rfl, hl⟩ := owns_shape h.row
  have h1 := h.hd.cell (i := 1) rfl
  go_enter Try.func21, Try.ntmps21
  go_wp2
  go_ret
  exact ⟨rfl, rfl⟩

set_option maxHeartbeats 400000 in
theorem follow_any (h : HeapRep w hb 60 cv vs most cs) (n r t : Nat) (hf : fol cs n r = some t) :
    Calls Try.prog 28 #[.pointer (some ⟨hb, 0, none⟩), .int .i64 r] w fun e w' => e = .returned (.int .i64 t) ∧ w = w' := by
  obtain ⟨cb, cap, rfl, hc1, hc2, hc⟩ := h.shape (by have := (fol_lt hf).2.1; omega)
  have h1 := h.hd.cell (i := 1) rfl
  have hsm := h.small
  go_enter Try.func28, Try.ntmps28
  go_wp2
  go_loopg [1] n (fun k p wr => ∃ r' : Nat, p = .int .i64 r' ∧ w = wr ∧ fol cs k r' = some t)
  case atStart => exact ⟨r, rfl, rfl, hf⟩
  case round =>
    obtain ⟨r', rfl, rfl, hk⟩ := hrel
    cases gk with
    | zero => simp [fol] at hk
    | succ gk =>
      have hr := (fol_lt hk).2.1
      obtain ⟨c, hce⟩ : ∃ c, cs[r']? = some c := ⟨_, List.getElem?_eq_getElem hr⟩
      obtain ⟨v, hv, hcell⟩ := hc r' c hce
      unfold fol at hk
      rw [hce] at hk
      clear hce
      obtain ⟨c0, c1, c2, _, _, _, hrf⟩ := hcell
      obtain ⟨kd, nm, rf⟩ := c
      simp only at hk c0 c1 c2 hrf
      split at hk
      case isTrue hkd =>
        subst hkd
        obtain ⟨t1, ts, rfl⟩ : ∃ t1 ts, rf = t1 :: ts := by
          cases rf with
          | nil => simp at hk
          | cons a b => exact ⟨a, b, rfl⟩
        simp only at hk
        split at hk
        case isFalse => simp at hk
        case isTrue h0 =>
        obtain ⟨u, rfl⟩ := Int.eq_ofNat_of_zero_le h0
        obtain ⟨g, cap', rfl, hg1, hg2, hrow⟩ := owns_some hrf (by simp)
        have hx0 := hrow.cell (i := 0) rfl
        have hk' : fol cs gk u = some t := by simpa using hk
        have H := Lib.hid hk'
        clear hk hk' hf hc hrf hv h
        go_wp2
        go_roundg gk
        case rel => exact ⟨u, rfl, rfl, H.out⟩
        case measure => omega
      case isFalse hkd =>
        have e3 : (kd == 3) = false := by simpa using hkd
        clear hf hc hv h
        go_wp2
        have : r' = t := by simpa using hk
        subst this
        go_ret
        exact ⟨rfl, rfl⟩

/-- the zero cell that a result's variable holds -/
abbrev zcell : Array Value := #[.int .i64 0, .int .i64 0, .slice none 0 0]

theorem read_no (h : HeapRep w hb 60 cv vs most cs) (r : Int) (hr : r < 0 ∨ (cs.length : Int) ≤ r) :
    Calls Try.prog 13 #[.pointer (some ⟨hb, 0, none⟩), .int .i64 r] w fun e w' => e = .returned (.tuple #[.agg zcell, .int .i64 0, .int .i64 21]) ∧ Frm [] w w' := by
  have f0 : Frm [] w (w.alloc (.cells zcell 32)) := (Frm.refl _ _).alloc _
  have h' := h.frm f0 (by simp)
  go_enter Try.func13, Try.ntmps13
  go_wp2_with fail
  refine (exists_no h' r hr).mono ?_
  rintro e w1 ⟨rfl, rfl⟩
  go_wp2
  refine bodyPost_ret (v := .tuple #[.agg zcell, .int .i64 0, .int .i64 21]) (by simp [results, Try.results13, go_sem]) rfl ⟨rfl, f0⟩

set_option maxHeartbeats 400000 in
theorem read_yes (h : HeapRep w hb 60 cv vs most cs) (r t : Nat) (c : HC) (hr : r < cs.length) (hf : fol cs cs.length r = some t) (hc : cs[t]? = some c) (hlc : c.refs.length ≤ 4096) :
    Calls Try.prog 13 #[.pointer (some ⟨hb, 0, none⟩), .int .i64 r] w fun e w' => ∃ a cap, e = .returned (.tuple #[.agg #[.int .i64 c.kind, .int .i64 c.num, .slice a c.refs.length cap], .int .i64 t, .int .i64 0]) ∧
      w'.ownsRow w.heap.size 3 1 (.slice a c.refs.length cap) c.refs.length (ints c.refs) ∧ Frm [] w w' := by
  have f0 : Frm [] w (w.alloc (.cells zcell 32)) := (Frm.refl _ _).alloc _
  have h' := h.frm f0 (by simp)
  have r1 := RowAt.made w 32 [.int .i64 0, .int .i64 0, .slice none 0 0] zcell rfl
  have ht := (fol_lt hf).1
  obtain ⟨cb, cap, rfl, hc1, hc2, hcs⟩ := h'.shape (by omega)
  have h1 := h'.hd.cell (i := 1) rfl
  have hsm := h.small
  obtain ⟨v, hv, c0, c1, c2, _, _, _, hrf⟩ := hcs t c hc
  have hi := ints_of_owns (xs := c.refs) (v := v) hrf
  obtain ⟨a0, cap0, rfl, _⟩ := owns_shape hrf
  clear hcs hc hv
  go_enter Try.func13, Try.ntmps13
  go_wp2_with fail
  refine (exists_yes h' r hr).mono ?_
  rintro e w1 ⟨rfl, rfl⟩
  go_wp2_with fail
  refine (follow_any h' _ r t hf).mono ?_
  rintro e w1 ⟨rfl, rfl⟩
  go_wp2_with fail
  refine (cloneCell_any _ _ _ _ _ hi (by omega)).mono ?_
  rintro e w1 ⟨a, cp, rfl, hown, hf1⟩
  have s1 := r1.frm hf1 (by simp)
  have d0 := s1.cell (i := 0) rfl
  have d1 := s1.cell (i := 1) rfl
  have d2 := s1.cell (i := 2) rfl
  have y0 := s1.frozen 0
  have y1 := s1.frozen 1
  have y2 := s1.frozen 2
  have f2 := f0.trans hf1 (by simp)
  clear h h' f0 hi hf
  go_wp2
  refine bodyPost_ret (v := .tuple #[.agg #[.int .i64 c.kind, .int .i64 c.num, .slice a c.refs.length cp], .int .i64 t, .int .i64 0]) (by simp [results, Try.results13, go_sem, d0, d1, d2]) rfl ⟨a, cp, rfl, ?_, ?_⟩
  · exact ownsB_mono (ownsB_other (ownsB_other (ownsB_other hown (by simp) _) (by simp) _) (by simp) _) (by simp)
  · exact ((f2.setCell (.inr (by simp)) _).setCell (.inr (by simp)) _).setCell (.inr (by simp)) _

end
end Go.Proofs.Ytlpgonnionbkfaa
