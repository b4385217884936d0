/- Contracts of the reference's heap: NewHeap, there, Size, find, refs, own, Read. -/
import Derived.Test.YtlpgonnionbkfaaHA
import Derived.Deep.QuietTactic
import Derived.BigQuiet
import Derived.Deep.RegionHeld3
namespace Go.Proofs.Ytlpgonnionbkfaa
open Go.RowKit

section
variable {w : World} {hb : Nat} {cv : Value} {vs : List Value} {most : Int} {cs : List HC}

theorem rnew_bad (most : Int) (w : World) (h : most < 1 ∨ 65536 < most) :
    Calls Try.prog 29 #[.int .i64 most] w fun e w' => e = .returned (.tuple #[.pointer none, .int .i64 1]) ∧ w = w' := by
  rcases h with h | h
  · go_enter Try.func29, Try.ntmps29
    go_wp2
    go_ret2
    exact ⟨rfl, rfl⟩
  · have : 1 ≤ most := by omega
    go_enter Try.func29, Try.ntmps29
    go_wp2
    go_ret2
    exact ⟨rfl, rfl⟩

theorem rnew_any (most : Int) (w : World) (h1 : 1 ≤ most) (h2 : most ≤ 65536) :
    Calls Try.prog 29 #[.int .i64 most] w fun e w' => e = .returned (.tuple #[.pointer (some ⟨w.heap.size, 0, none⟩), .int .i64 0]) ∧ Frm [] w w' ∧ w'.heap.size = w.heap.size + 1 ∧
      HeapRep w' w.heap.size 76 (.slice none 0 0) [] most [] := by
  go_enter Try.func29, Try.ntmps29
  go_wp2
  go_ret2
  refine ⟨rfl, (Frm.refl _ _).alloc _, by simp, RowAt.made _ _ _ _ rfl, World.ownsRow_nil _ _ _ _, rfl, by simp, by simp [fpOf, blocksOf, Value.ownBlock], by simp⟩

theorem there_yes (h : HeapRep w hb 76 cv vs most cs) (r : Nat) (hr : r < cs.length) :
    Calls Try.prog 48 #[.pointer (some ⟨hb, 0, none⟩), .int .i64 r] w fun e w' => e = .returned (.bool true) ∧ w = w' := by
  obtain ⟨a, cap, rfl, hl⟩ := owns_shape h.row
  have h1 := h.hd.cell (i := 1) rfl
  go_enter Try.func48, Try.ntmps48
  go_wp2
  go_ret
  exact ⟨rfl, rfl⟩

theorem there_no (h : HeapRep w hb 76 cv vs most cs) (r : Int) (hr : r < 0 ∨ (cs.length : Int) ≤ r) :
    Calls Try.prog 48 #[.pointer (some ⟨hb, 0, none⟩), .int .i64 r] w fun e w' => e = .returned (.bool false) ∧ w = w' := by
  obtain ⟨a, cap, rfl, hl⟩ := owns_shape h.row
  have h1 := h.hd.cell (i := 1) rfl
  rcases hr with hr | hr
  · go_enter Try.func48, Try.ntmps48
    go_wp2
    go_ret
    exact ⟨rfl, rfl⟩
  · have : 0 ≤ r := by omega
    go_enter Try.func48, Try.ntmps48
    go_wp2
    go_ret
    refine ⟨?_, rfl⟩
    show Ending.returned (.bool (decide (r < ↑cs.length))) = _
    rw [decide_eq_false (by omega)]

theorem rsize_any (h : HeapRep w hb 76 cv vs most cs) :
    Calls Try.prog 31 #[.pointer (some ⟨hb, 0, none⟩)] w fun e w' => e = .returned (.int .i64 cs.length) ∧ w = w' := by
  obtain ⟨a, cap, rfl, hl⟩ := owns_shape h.row
  have h1 := h.hd.cell (i := 1) rfl
  go_enter Try.func31, Try.ntmps31
  go_wp2
  go_ret
  exact ⟨rfl, rfl⟩

set_option maxHeartbeats 400000 in
theorem find_any (h : HeapRep w hb 76 cv vs most cs) (n r t : Nat) (hf : fol cs n r = some t) :
    Calls Try.prog 49 #[.pointer (some ⟨hb, 0, none⟩), .int .i64 r] w fun e w' => e = .returned (.int .i64 t) ∧ w = w' := by
  obtain ⟨cb, cap, rfl, hc1, hc2, hc⟩ := h.shape (by have := (fol_lt hf).2.1; omega)
  have h1 := h.hd.cell (i := 1) rfl
  have hsm := h.small
  go_enter Try.func49, Try.ntmps49
  go_wp2
  go_loopg [1] n (fun k p wr => ∃ r' : Nat, p = .int .i64 r' ∧ w = wr ∧ fol cs k r' = some t)
  case atStart => exact ⟨r, rfl, rfl, hf⟩
  case round =>
    obtain ⟨r', rfl, rfl, hk⟩ := hrel
    cases gk with
    | zero => simp [fol] at hk
    | succ gk =>
      have hr := (fol_lt hk).2.1
      obtain ⟨c, hce⟩ : ∃ c, cs[r']? = some c := ⟨_, List.getElem?_eq_getElem hr⟩
      obtain ⟨v, hv, hcell⟩ := hc r' c hce
      unfold fol at hk
      rw [hce] at hk
      clear hce
      obtain ⟨c0, c1, c2, _, _, _, hrf⟩ := hcell
      obtain ⟨kd, nm, rf⟩ := c
      simp only at hk c0 c1 c2 hrf
      split at hk
      case isTrue hkd =>
        subst hkd
        obtain ⟨t1, ts, rfl⟩ : ∃ t1 ts, rf = t1 :: ts := by
          cases rf with
          | nil => simp at hk
          | cons a b => exact ⟨a, b, rfl⟩
        simp only at hk
        split at hk
        case isFalse => simp at hk
        case isTrue h0 =>
        obtain ⟨u, rfl⟩ := Int.eq_ofNat_of_zero_le h0
        obtain ⟨g, cap', rfl, hg1, hg2, hrow⟩ := owns_some hrf (by simp)
        have hx0 := hrow.cell (i := 0) rfl
        have hk' : fol cs gk u = some t := by simpa using hk
        have H := Lib.hid hk'
        clear hk hk' hf hc hrf hv h
        go_wp2
        go_roundg gk
        case rel => exact ⟨u, rfl, rfl, H.out⟩
        case measure => omega
      case isFalse hkd =>
        have e3 : (kd == 3) = false := by simpa using hkd
        clear hf hc hv h
        go_wp2
        have : r' = t := by simpa using hk
        subst this
        go_ret
        exact ⟨rfl, rfl⟩


end

theorem Try.infoI : (Try.prog.info? 3).map (fun i => (i.zero, i.size, i.bytes)) = some (some (.int .i64 0), 1, 8) := by kernel_rfl

/-- refs of the reference. -/
theorem refs_any (v : Value) (xs : List Int) (top lim : Int) (w : World) (h : IntsAt w v xs) (hlim : lim = top + 1) :
    Calls Try.prog 46 #[v, .int .i64 top] w fun e w' => e = .returned (.bool (refersB lim xs)) ∧ w = w' := by
  subst hlim
  obtain ⟨a, cap, rfl, hl⟩ := h.shape
  by_cases hlen : 4096 < xs.length
  · have i1 : (4096 : Int) < (xs.length : Int) := by omega
    have hr : refersB (top + 1) xs = false := by
      cases hq : refersB (top + 1) xs with
      | false => rfl
      | true => have := (refersB_iff.1 hq).1; omega
    rw [hr]
    clear hr hlen
    go_enter Try.func46, Try.ntmps46
    go_wp2
    go_ret
    exact ⟨rfl, rfl⟩
  · have i1 : ¬ (4096 : Int) < (xs.length : Int) := by omega
    have i2 : (xs.length : Int) ≤ 4096 := by omega
    have HH := Lib.hid h
    clear h
    go_enter Try.func46, Try.ntmps46
    go_wp2
    go_loopg [5] xs.length (fun q i wr => ∃ (k : Nat), q = xs.length - k ∧ k ≤ xs.length ∧ i = .int .i64 (k : Int) ∧ (∀ r ∈ xs.take k, 0 ≤ r ∧ r < top + 1) ∧ w = wr)
    case atStart => exact ⟨0, rfl, Nat.zero_le _, rfl, (fun r hr => by simp at hr), rfl⟩
    case round =>
      obtain ⟨k, rfl, hk, rfl, hok, rfl⟩ := hrel
      have HOK := Lib.hid hok
      have i3 : (0 : Int) ≤ (k : Int) := by omega
      clear hok
      by_cases hkl : k < xs.length
      · have i4 : (k : Int) < (xs.length : Int) := by omega
        obtain ⟨x, hx⟩ : ∃ x, xs[k]? = some x := ⟨_, List.getElem?_eq_getElem hkl⟩
        have hc := HH.out
        rcases hc with ⟨h1, h2⟩ | ⟨g, o, cp, he, h2, h3, hgl, hrow⟩
        · subst h2; simp at hkl
        · obtain ⟨rfl, rfl⟩ : a = some ⟨g, o, none⟩ ∧ cap = cp := by simpa using he
          have hcell := hrow k x hx
          have hmem : x ∈ xs := List.mem_of_getElem? hx
          have HX := Lib.hid hx
          by_cases hb : 0 ≤ x ∧ x < top + 1
          · have i5 : ¬ x < 0 := by omega
            have i6 : ¬ top < x := by omega
            have HN : Hid (∀ r ∈ xs.take (k + 1), 0 ≤ r ∧ r < top + 1) := Lib.hid (fun r hr => by
              rw [List.take_add_one, HX.out, Option.toList_some] at hr
              rcases List.mem_append.1 hr with hr | hr
              · exact HOK.out r hr
              · rw [List.mem_singleton] at hr; rw [hr]; exact hb)
            clear hrow he h3 hx hb
            go_wp2
            go_roundg (xs.length - (k + 1))
            case rel => exact ⟨k + 1, rfl, hkl, by go_num, HN.out, rfl⟩
            case measure => omega
          · have hr : refersB (top + 1) xs = false := by
              cases hq : refersB (top + 1) xs with
              | false => rfl
              | true => exact absurd ((refersB_iff.1 hq).2 x hmem) hb
            have HR := Lib.hid hr
            clear hr
            by_cases i5 : x < 0
            · clear hrow he h3 hx hb
              go_wp2
              go_ret
              exact ⟨by rw [HR.out]; rfl, rfl⟩
            · have i6 : top < x := by omega
              clear hrow he h3 hx hb
              go_wp2
              go_ret
              exact ⟨by rw [HR.out]; rfl, rfl⟩
      · have i4 : ¬ (k : Int) < (xs.length : Int) := by omega
        have hr : refersB (top + 1) xs = true := refersB_iff.2 ⟨by omega, fun r hr => HOK.out r (by rw [List.take_of_length_le (by omega)]; exact hr)⟩
        have HR := Lib.hid hr
        clear hr
        go_wp2
        go_ret
        exact ⟨by rw [HR.out]; rfl, rfl⟩
end Go.Proofs.Ytlpgonnionbkfaa
