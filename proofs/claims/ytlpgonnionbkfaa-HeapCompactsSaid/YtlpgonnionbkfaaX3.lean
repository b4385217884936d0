/- Contracts of cspcheckhelp.Equal, WithSpare, Unchanged at int. -/
import Derived.Test.YtlpgonnionbkfaaX1
namespace Go.Proofs.Ytlpgonnionbkfaa
open Go.RowKit

theorem take_eq_step {xs ys : List Int} {k : Nat} (h : xs.take k = ys.take k) (hx : k < xs.length) (hy : k < ys.length) (he : xs[k] = ys[k]) : xs.take (k + 1) = ys.take (k + 1) := by
  rw [List.take_succ_eq_append_getElem hx, List.take_succ_eq_append_getElem hy, h, he]

set_option maxHeartbeats 1000000 in
theorem equal_any (v u : Value) (xs ys : List Int) (w : World) (h : IntsAt w v xs) (g : IntsAt w u ys) :
    Calls Try.prog 16 #[v, u] w fun e w' => e = .returned (.bool (decide (xs = ys))) ∧ ∃ n, w' = w.drewN n := by
  obtain ⟨a, cap, rfl, hl⟩ := h.shape
  obtain ⟨a2, cap2, rfl, hl2⟩ := g.shape
  by_cases hlen : xs.length = ys.length
  · have hne : ((xs.length : Int) != (ys.length : Int)) = false := by rw [bne_eq_false_iff_eq]; omega
    have HL := Lib.hid hlen
    have HH := Lib.hid h
    have HG := Lib.hid g
    clear hlen h g
    go_enter Try.func16, Try.ntmps16
    go_wp2_with fail
    go_loopg [5] xs.length (fun q i wr => ∃ (k n : Nat), q = xs.length - k ∧ k ≤ xs.length ∧ i = .int .i64 k ∧ wr = w.drewN n ∧ xs.take k = ys.take k)
    case atStart => exact ⟨0, 0, rfl, Nat.zero_le _, rfl, rfl, rfl⟩
    case round =>
      obtain ⟨k, n, rfl, hk, rfl, rfl, htk⟩ := hrel
      have HT := Lib.hid htk
      clear htk
      have hl := HL.out
      by_cases hlt : k < xs.length
      · have hlty : k < ys.length := by omega
        clear hl
        rcases HH.out with ⟨h0, rfl⟩ | ⟨b, o, cp, h0, h1, h2, h3, h4⟩
        · simp at hlt
        rcases HG.out with ⟨g0, rfl⟩ | ⟨b2, o2, cp2, g0, g1, g2, g3, g4⟩
        · simp at hlty
        obtain ⟨rfl, rfl⟩ : a = some ⟨b, o, none⟩ ∧ cap = cp := by simpa using h0
        obtain ⟨rfl, rfl⟩ : a2 = some ⟨b2, o2, none⟩ ∧ cap2 = cp2 := by simpa using g0
        have c1 := h4 k xs[k] (by simp)
        have c2 := g4 k ys[k] (by simp)
        clear h4 g4 h0 g0
        have HSTEP : Hid (xs[k] = ys[k] → xs.take (k + 1) = ys.take (k + 1)) := fun e => take_eq_step HT.out hlt hlty e
        have HNE : Hid (xs[k] ≠ ys[k] → xs ≠ ys) := fun hne e => hne (by subst e; rfl)
        generalize xs[k] = x at *
        generalize ys[k] = y at *
        have i1 : (k : Int) < (xs.length : Int) := by omega
        have i2 : (k : Int) < (ys.length : Int) := by omega
        have i3 : (0 : Int) ≤ (k : Int) := by omega
        by_cases hxy : x = y
        · have hb : (x != y) = false := by simpa using hxy
          have HXY := Lib.hid hxy
          clear hxy
          go_wp2_with fail
          go_quiet (fail)
          go_wp2_with fail
          go_roundg (xs.length - (k + 1))
          case rel => exact ⟨k + 1, n + nq, rfl, by omega, by go_num, by simp [World.drewN], HSTEP.out HXY.out⟩
          case measure => omega
        · have hb : (x != y) = true := by simpa using hxy
          have HXY := Lib.hid hxy
          clear hxy
          go_wp2_with fail
          go_quiet (fail)
          go_wp2_with fail
          go_ret
          exact ⟨by rw [decide_eq_false (HNE.out HXY.out)]; rfl, n + nq, by simp [World.drewN]; omega⟩
      · go_wp2_with fail
        go_ret
        refine ⟨?_, n, rfl⟩
        have := HT.out
        rw [List.take_of_length_le (by omega), List.take_of_length_le (by omega)] at this
        rw [decide_eq_true this]; rfl
  · have hne : ((xs.length : Int) != (ys.length : Int)) = true := by rw [bne_iff_ne]; omega
    have HL := Lib.hid hlen
    clear hlen
    go_enter Try.func16, Try.ntmps16
    go_wp2_with fail
    go_ret
    exact ⟨by rw [decide_eq_false (fun e => HL.out (by rw [e]))]; rfl, 0, rfl⟩

theorem rowAt_of_owns {w : World} {B : Nat} {e : TypeId} {size g n cap : Nat} {xs : List Value} (h : w.ownsRow B e size (.slice (some ⟨g, 0, none⟩) n cap) n xs) : B ≤ g ∧ RowAt w g e xs := by
  rcases h.2 with ⟨h0, _⟩ | ⟨g', cap', cur, h0, hb, hg, h1, h2, h3, h4⟩
  · cases h0
  · obtain ⟨rfl, rfl⟩ : g = g' ∧ cap = cap' := by simpa using h0
    exact ⟨hb, cur, hg, by rw [h.1]; exact h4⟩

set_option maxHeartbeats 1000000 in
theorem spare_any (v : Value) (f : Int) (xs : List Int) (w : World) (h : IntsAt w v xs) (hl : xs.length ≤ 1000000) (h0 : 0 < xs.length) :
    Calls Try.prog 14 #[v, .int .i64 f] w fun e w' => ∃ g, e = .returned (.slice (some ⟨g, 0, none⟩) xs.length (xs.length + 3)) ∧ w.heap.size ≤ g ∧ RowAt w' g 3 (ints (xs ++ [f, f, f])) ∧ Frm [] w w' := by
  obtain ⟨i0, hi, hz0, hz1, hz2⟩ := info_parts Try.info3
  rcases h with ⟨_, rfl⟩ | ⟨b, o, cap, rfl, h1, h2, h3, h4⟩
  · simp at h0
  have H4 := Lib.hid h4
  clear h4
  go_enter Try.func14, Try.ntmps14
  go_wp2_with (first | (at_builtin; refine wpList_append_own _ rfl (.tmp 6) (.tmp 7) 30 rfl w.heap.size 3 i0 (.int .i64 0) 1 8 Try.underlying30 hi hz0 hz1 hz2 rfl (by decide) _ 0 [] rfl ?h1 ⟨b, o, none⟩ xs.length cap (ints xs) rfl ?h2 ?h3 ?h4 ?h5 ?h6 ?h7 ?_) | fail)
  case h1 => exact World.ownsRow_made w #[] 0 (Nat.le_refl _) (by decide) rfl
  case h2 => simp [ints]
  case h3 =>
    intro j u hu
    simp only [ints, List.getElem?_map, Option.map_eq_some_iff] at hu
    obtain ⟨x, hx, rfl⟩ := hu
    rw [Addr.add_lit, World.cell?_alloc_lt _ _ _ h3]
    exact H4.out j x hx
  case h4 => intro u hu; simp only [ints, List.mem_map] at hu; obtain ⟨x, _, rfl⟩ := hu; rfl
  case h5 => unfold maxLen; omega
  case h6 => omega
  case h7 => simp
  intro v1 w1 hown1 hgr1 hnil1
  have F1 : Frm [] w w1 := ((Frm.refl [] w).alloc _).grown hgr1 (by intro k hk; simp [Value.ownBlock] at hk; omega)
  obtain ⟨a1, c1, rfl, _⟩ := owns_shape (owns_base hown1)
  clear hgr1 hnil1
  go_wp2_with (first | (at_builtin; refine wpList_append_own _ rfl (.tmp 9) (.tmp 13) 30 rfl w.heap.size 3 i0 (.int .i64 0) 1 8 Try.underlying30 hi hz0 hz1 hz2 rfl (by decide) _ xs.length (ints xs) rfl (hown1.alloc _) ⟨w1.heap.size, 0, none⟩ 3 3 [.int .i64 f, .int .i64 f, .int .i64 f] rfl rfl (cells_new w1 _ _) (by simp; rfl) (by unfold maxLen; omega) (by omega) (by have := F1.size; simp; omega) ?_) | fail)
  intro v2 w2 hown2 hgr2 _
  have hs : v2 ≠ .slice none 0 0 := by
    rcases hown2.2 with ⟨_, h⟩ | ⟨g, cp, cur, rfl, _⟩
    · omega
    · simp
  obtain ⟨g, c2, rfl, hc2, hc3, _⟩ := owns_some (owns_base hown2) (by omega)
  have hr := rowAt_of_owns hown2
  have F2 : Frm [] w w2 := (F1.alloc _).grown hgr2 (by intro k hk; exact .inr (hown1.lt k hk).1)
  clear hgr2 hown2 hown1 hs F1
  unfold maxLen at hc3
  go_wp2
  go_ret
  exact ⟨g, rfl, hr.1, by simpa [ints] using hr.2, F2⟩

theorem ints_of_row {w : World} {g n cap : Nat} {xs ys : List Int} (h : RowAt w g 3 (ints (xs ++ ys))) (hn : n = xs.length) (hc : n ≤ cap) (hm : cap ≤ maxLen) : IntsAt w (.slice (some ⟨g, 0, none⟩) n cap) xs := by
  subst hn
  refine .inr ⟨g, 0, cap, rfl, hc, hm, h.lt, fun i x hx => ?_⟩
  rw [Nat.zero_add]
  exact h.cell (by rw [ints, List.getElem?_map, List.getElem?_append_left (List.getElem?_eq_some_iff.1 hx).1, hx]; rfl)

set_option maxHeartbeats 1000000 in
theorem unchanged_any (u : Value) (f : Int) (xs : List Int) (g : Nat) (w : World) (h : RowAt w g 3 (ints (xs ++ [f, f, f]))) (hu : IntsAt w u xs) (hl : xs.length ≤ 1000000) :
    Calls Try.prog 15 #[.slice (some ⟨g, 0, none⟩) xs.length (xs.length + 3), u, .int .i64 f] w fun e w' => e = .returned (.bool true) ∧ ∃ n, w' = w.drewN n := by
  have hin := ints_of_row h rfl (Nat.le_add_right _ 3) (by unfold maxLen; omega)
  obtain ⟨a, cap, rfl, _⟩ := hu.shape
  have he := equal_any _ _ xs xs w hin hu
  rw [decide_eq_true rfl] at he
  have cell : ∀ k : Nat, k < 3 → w.cell? ⟨g, xs.length + k, none⟩ = some (.int .i64 f) := by
    intro k hk
    refine h.cell ?_
    simp only [ints, List.getElem?_map]
    rw [List.getElem?_append_right (by omega)]
    rw [show xs.length + k - xs.length = k by omega]
    match k, hk with
    | 0, _ => rfl
    | 1, _ => rfl
    | 2, _ => rfl
  have HC := Lib.hid cell
  clear cell h hu hin
  go_enter Try.func15, Try.ntmps15
  go_wp2_with fail
  refine he.mono ?_
  rintro e w1 ⟨rfl, n0, rfl⟩
  clear he
  go_wp2_with fail
  go_loopg [8] 3 (fun q i wr => ∃ (k : Nat), q = 3 - k ∧ k ≤ 3 ∧ i = .int .i64 (xs.length + k : Nat) ∧ wr = w.drewN n0)
  case atStart => exact ⟨0, rfl, by omega, rfl, rfl⟩
  case round =>
    obtain ⟨k, rfl, hk, rfl, rfl⟩ := hrel
    by_cases hlt : k < 3
    · have c := HC.out k hlt
      have hff : (f != f) = false := by simp
      have i1 : ((xs.length + k : Nat) : Int) < (xs.length : Int) + 3 := by omega
      go_wp2_with fail
      go_roundg (3 - (k + 1))
      case rel => exact ⟨k + 1, rfl, by omega, by go_num, rfl⟩
      case measure => omega
    · obtain rfl : k = 3 := by omega
      go_wp2_with fail
      go_ret
      exact ⟨rfl, _, rfl⟩

end Go.Proofs.Ytlpgonnionbkfaa
