/- Contracts of closeComponent and of graph.arcs. -/
import Derived.Test.YtknfdpkfomlckaaGR
namespace Go.Proofs.Ytknfdpkfomlckaa
open Go.RowKit

/-- A list of numbers, one value put at each of the places l. -/
def setAll (out l : List Int) (v : Int) : List Int := l.foldl (fun o t => o.set t.toNat v) out
theorem setAll_len (out l : List Int) (v : Int) : (setAll out l v).length = out.length := by
  induction l generalizing out with
  | nil => rfl
  | cons a r ih => simp only [setAll, List.foldl_cons] at ih ⊢; rw [ih]; simp
theorem setAll_snoc (out l : List Int) (x v : Int) : setAll out (l ++ [x]) v = (setAll out l v).set x.toNat v := by
  simp [setAll]
theorem ints_set (xs : List Int) (i : Nat) (v : Int) : ints (xs.set i v) = (ints xs).set i (.int .i64 v) := by
  simp [ints, List.map_set]
theorem ints_get {xs : List Int} {i : Nat} {x : Int} (h : xs[i]? = some x) : (ints xs)[i]? = some (.int .i64 x) := by simp [ints, h]
/-- A row of integers at the head of block g. -/
abbrev IRow (B : Nat) (w : World) (g n : Nat) (xs : List Int) : Prop := w.ownsRow B 3 1 (.slice (some ⟨g, 0, none⟩) n n) n (ints xs)
theorem own_row {B : Nat} {w : World} {e g n cap : Nat} {xs : List Value} (h : w.ownsRow B e 1 (.slice (some ⟨g, 0, none⟩) n cap) n xs) : RowAt w g e xs := by
  rcases h.2 with ⟨h0, _⟩ | ⟨g', cp', cur, h0, hb, hg, h1, h2, h3, h4⟩
  · cases h0
  · obtain ⟨rfl, rfl⟩ : g = g' ∧ cap = cp' := by simpa using h0
    exact ⟨cur, hg, by have := h.1; rw [this]; exact h4⟩
theorem own_frm_out {B : Nat} {w w' : World} {e size g n cap : Nat} {xs : List Value} {fp : List Nat} (h : w.ownsRow B e size (.slice (some ⟨g, 0, none⟩) n cap) n xs) (hf : Frm fp w w') (hn : g ∉ fp) : w'.ownsRow B e size (.slice (some ⟨g, 0, none⟩) n cap) n xs :=
  ownsB_frm h hf (fun k hk hm => by simp only [Value.ownBlock, Option.some.injEq] at hk; subst hk; exact hn hm)

set_option maxRecDepth 100000 in
set_option maxHeartbeats 1000000 in
theorem close_any (B C g cap go n m p : Nat) (xs out : List Int) (s : Int) (w : World) (hop : w.ownsRow B 3 1 (.slice (some ⟨g, 0, none⟩) n cap) n (ints xs)) (hnx : xs.length = n) (hout : w.ownsRow C 3 1 (.slice (some ⟨go, 0, none⟩) m m) m (ints out)) (hgo : go ≠ g)
    (hp : xs[p]? = some s) (hlast : ∀ i : Nat, p < i → xs[i]? ≠ some s) (hin : ∀ (i : Nat) (x : Int), p ≤ i → xs[i]? = some x → 0 ≤ x ∧ x < (m : Int)) (hn : n ≤ 1000000) :
    Calls Try.prog 41 #[.slice (some ⟨g, 0, none⟩) n cap, .int .i64 s, .slice (some ⟨go, 0, none⟩) m m] w fun e w' => e = .returned (.slice (some ⟨g, 0, none⟩) p cap) ∧ w'.ownsRow C 3 1 (.slice (some ⟨go, 0, none⟩) m m) m (ints (setAll out (xs.drop p) (Lib.minOf (xs.drop p)))) ∧ Frm [go] w w' := by
  have hrow := own_row hop
  have hpn : p < n := by have := (List.getElem?_eq_some_iff.1 hp).1; omega
  have hcap : n ≤ cap ∧ cap ≤ maxLen := by
    have := (OwnI.rd (xs := xs) (a := some ⟨g, 0, none⟩) (cap := cap) (by rw [OwnI, hnx]; exact hop) (Nat.le_refl _))
    have h1 := this.le
    exact ⟨by omega, this.max⟩
  obtain ⟨hcap, hcm⟩ := hcap
  have hmm : m ≤ maxLen := by
    rcases hout.2 with ⟨h0, _⟩ | ⟨g', cp', cur, h0, hb, hg, h1, h2, h3, h4⟩
    · cases h0
    · obtain ⟨rfl, rfl⟩ : go = g' ∧ m = cp' := by simpa using h0
      exact h2
  unfold maxLen at hmm hcm
  have HX := Lib.hid hnx
  have HR := Lib.hid hrow
  have HP := Lib.hid hp
  have HL := Lib.hid hlast
  have HIN := Lib.hid hin
  have HO := Lib.hid hout
  have i0 : (n : Int) ≤ 1000000 := by omega
  have i1 : (p : Int) < (n : Int) := by omega
  clear hop hnx hout hrow hp hlast hin
  go_enter Try.func41, Try.ntmps41
  go_wp2_with fail
  go_loopg [7] n (fun q i wr => ∃ (k : Nat), q = k + 1 ∧ p ≤ k ∧ k < n ∧ i = .int .i64 (k : Int) ∧ wr = w)
  case atStart => exact ⟨n - 1, by omega, by omega, by omega, by rw [show ((n - 1 : Nat) : Int) = (n : Int) - 1 by omega], rfl⟩
  case round =>
    obtain ⟨k, rfl, hk1, hk2, rfl, rfl⟩ := hrel
    have i4 : (0 : Int) ≤ (k : Int) := by omega
    have i5 : (k : Int) < (n : Int) := by omega
    obtain ⟨x, hx⟩ : ∃ x, xs[k]? = some x := ⟨_, List.getElem?_eq_getElem (by rw [HX.out]; exact hk2)⟩
    have d1 := HR.out.cell (ints_get hx)
    by_cases hkp : k = p
    · subst hkp
      have hxs : x = s := by have := HP.out; rw [hx] at this; simpa using this
      subst hxs
      have hkc : ¬ k = cap := by omega
      have hkc2 : ¬ cap = k := by omega
      have hmin := Try.slices_Min_int g k (n - k) (cap - k) (xs.drop k) wr (by omega) (by rw [List.length_drop, HX.out]; omega) (by omega) (fun j hj => by
        rw [List.length_drop, HX.out] at hj
        have : (xs.drop k).getD j 0 = xs[k + j]'(by rw [HX.out]; omega) := by
          rw [List.getD_eq_getElem?_getD, List.getElem?_drop, List.getElem?_eq_getElem (by rw [HX.out]; omega)]; rfl
        rw [this]
        exact HR.out.cell (ints_get (List.getElem?_eq_getElem (by rw [HX.out]; omega))))
      rw [List.take_of_length_le (by rw [List.length_drop, HX.out]; omega)] at hmin
      have HMIN := Lib.hid hmin
      clear hx hmin
      obtain ⟨L, hL⟩ : ∃ L, Lib.minOf (xs.drop k) = L := ⟨_, rfl⟩
      have HLL := Lib.hid hL
      clear hL
      go_wp2_with fail
      refine HMIN.out.mono ?_
      rintro e1 w1 ⟨rfl, rfl⟩
      rw [HLL.out]
      clear HMIN
      go_wp2_with fail
      go_loopg [30] (n - k) (fun q i wr => ∃ (j : Nat), q = n - k - j ∧ k + j ≤ n ∧ i = .int .i64 (j : Int) ∧ wr.ownsRow C 3 1 (.slice (some ⟨go, 0, none⟩) m m) m (ints (setAll out ((xs.drop k).take j) L)) ∧ Frm [go] w1 wr)
      case atStart => exact ⟨0, rfl, by omega, rfl, HO.out, Frm.refl _ _⟩
      case round =>
        obtain ⟨j, rfl, hj, rfl, hown, hF⟩ := hrel
        have HF := Lib.hid hF
        have HW := Lib.hid hown
        have i6 : (0 : Int) ≤ (j : Int) := by omega
        clear hF hown
        by_cases hlt : j < n - k
        · have i7 : (j : Int) < (n : Int) - (k : Int) := by omega
          have i8 : (j : Int) < ((n - k : Nat) : Int) := by omega
          obtain ⟨y, hy⟩ : ∃ y, xs[k + j]? = some y := ⟨_, List.getElem?_eq_getElem (by rw [HX.out]; omega)⟩
          obtain ⟨hy0, hym⟩ := HIN.out (k + j) y (by omega) hy
          obtain ⟨t, rfl⟩ : ∃ t : Nat, y = (t : Int) := ⟨y.toNat, by omega⟩
          have e1 := HF.out.cell (HR.out.cell (ints_get hy)) (by simp; exact fun h => hgo h.symm)
          have e2 : wr.frozen? ⟨go, t, none⟩ = false := (own_row HW.out).frozen t
          obtain ⟨z, hz⟩ : ∃ z, (setAll out ((xs.drop k).take j) L)[t]? = some z := ⟨_, List.getElem?_eq_getElem (by
            have := HW.out.1
            rw [ints_len] at this
            omega)⟩
          have e3 := (own_row HW.out).cell (ints_get hz)
          have HY := Lib.hid hy
          clear hy hz
          go_wp2_with fail
          go_roundg (n - k - (j + 1))
          case rel =>
            refine ⟨j + 1, rfl, by omega, by go_num, ?_, HF.out.setCell (.inl (by simp)) _⟩
            have h9 : (xs.drop k).take (j + 1) = (xs.drop k).take j ++ [(t : Int)] := by
              rw [List.take_add_one, List.getElem?_drop, HY.out]; rfl
            rw [h9, setAll_snoc, ints_set, Int.toNat_natCast]
            exact ownsB_setCell HW.out rfl t _
          case measure => omega
        · have hjn : j = n - k := by omega
          subst hjn
          have i8 : ¬ ((n - k : Nat) : Int) < ((n - k : Nat) : Int) := by omega
          go_wp2_with fail
          go_ret
          refine ⟨rfl, ?_, HF.out⟩
          have := HW.out
          rw [List.take_of_length_le (by rw [List.length_drop, HX.out]; omega)] at this
          rw [HLL.out]
          exact this
    · have hne : (x != s) = true := by
        rw [bne_iff_ne]
        rintro rfl
        exact HL.out k (by omega) hx
      have hpk : p < k := by omega
      have i6 : (1 : Int) ≤ (k : Int) := by omega
      clear hx hkp
      go_wp2_with fail
      go_roundg k
      case rel => exact ⟨k - 1, by omega, by omega, by omega, by rw [show ((k - 1 : Nat) : Int) = (k : Int) - 1 by omega], rfl⟩
      case measure => omega

end Go.Proofs.Ytknfdpkfomlckaa
