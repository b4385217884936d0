/- Contract of next inside Crash of the program's disk. -/
import Derived.Test.YtkebdgbjgbcneaaDN
namespace Go.Proofs.Ytkebdgbjgbcneaa
open Go.RowKit Go.Maps

theorem ints_len (xs : List Int) : (ints xs).length = xs.length := by simp [ints]
/-- A row of integers that can be read, in a block below B that is not in S. -/
structure RdS (B : Nat) (S : List Nat) (w : World) (a : Option Addr) (n cap : Nat) (xs : List Int) : Prop where
  len : xs.length = n
  le : n ≤ cap
  max : cap ≤ maxLen
  cell : ∀ (i : Nat) (x : Int), xs[i]? = some x → ∃ b o, a = some ⟨b, o, none⟩ ∧ b < B ∧ b ∉ S ∧ w.cell? ⟨b, o + i, none⟩ = some (.int .i64 x)
theorem RdS.frm {B n c : Nat} {S : List Nat} {w w' : World} {a : Option Addr} {xs : List Int} {fp : List Nat} (h : RdS B S w a n c xs) (hf : Frm fp w w') (hn : ∀ k ∈ fp, k ∈ S ∨ B ≤ k) : RdS B S w' a n c xs :=
  ⟨h.len, h.le, h.max, fun i x hx => by
    obtain ⟨b, o, e, h1, h2, h3⟩ := h.cell i x hx
    refine ⟨b, o, e, h1, h2, hf.cell h3 (fun hm => ?_)⟩
    rcases hn _ hm with h9 | h9
    · exact h2 h9
    · exact absurd h1 (Nat.not_lt.2 h9)⟩
/-- What is left of keep. -/
def KeepAt (B : Nat) (S : List Nat) (w : World) (kb : Nat) (keep : List Int) (j : Nat) : Prop := ∃ a n c, RowAt w kb 32 [.slice a n c] ∧ RdS B S w a n c (keep.drop j)
theorem KeepAt.frm {B kb j : Nat} {S : List Nat} {w w' : World} {keep : List Int} {fp : List Nat} (h : KeepAt B S w kb keep j) (hf : Frm fp w w') (hn : ∀ k ∈ fp, k ∈ S ∨ B ≤ k) (hk : kb ∉ fp) : KeepAt B S w' kb keep j := by
  obtain ⟨a, n, c, h1, h2⟩ := h
  exact ⟨a, n, c, h1.frm hf hk, h2.frm hf hn⟩
theorem RdS.tail {B : Nat} {S : List Nat} {w : World} {b o n c : Nat} {x : Int} {r : List Int} (h : RdS B S w (some ⟨b, o, none⟩) n c (x :: r)) : RdS B S w (some ⟨b, o + 1, none⟩) (n - 1) (c - 1) r := by
  have h1 := h.len
  have h2 := h.le
  have h3 := h.max
  simp only [List.length_cons] at h1
  refine ⟨by omega, by omega, by omega, fun i u hu => ?_⟩
  obtain ⟨b', o', he, hb, hs, hc⟩ := h.cell (i + 1) u (by simpa using hu)
  simp only [Option.some.injEq, Addr.mk.injEq, and_true] at he
  obtain ⟨rfl, rfl⟩ := he
  exact ⟨b, o + 1, rfl, hb, hs, by rw [show o + 1 + i = o + (i + 1) by omega]; exact hc⟩
theorem RdS.none_of {B : Nat} {S : List Nat} {w : World} {a : Option Addr} {n c : Nat} (hn : n ≤ c) (hc : c ≤ maxLen) (h0 : n = 0) : RdS B S w a n c [] := by
  subst h0
  exact ⟨rfl, hn, hc, fun i u hu => by simp at hu⟩

set_option linter.unusedSimpArgs false in
set_option maxRecDepth 100000 in
set_option maxHeartbeats 1000000 in
theorem next_any2 {B kb j : Nat} {S : List Nat} {w : World} {keep : List Int} (h : KeepAt B S w kb keep j) (hB : B ≤ kb) (n : Nat) (hn : n ≤ 1000000000) :
    Calls Try.prog 36 #[.int .i64 (n : Int), .pointer (some ⟨kb, 0, none⟩)] w fun e w' => e = .returned (.int .i64 ((pickM keep j % (n + 1) : Nat) : Int)) ∧ KeepAt B S w' kb keep (j + 1) ∧ Frm [kb] w w' := by
  obtain ⟨a, n2, c, h1, h2⟩ := h
  have c0 := h1.cell (i := 0) rfl
  have z0 := h1.frozen 0
  have hl := h2.len
  have hle := h2.le
  have hmx := h2.max
  have i1 : (n2 : Int) ≤ (c : Int) := by omega
  have i2 : (c : Int) ≤ 9223372036854775807 := by unfold maxLen at hmx; omega
  have iw : IntKind.i64.wrap ((n : Int) + 1) = ((n + 1 : Nat) : Int) := by rw [IntWalk.i64_in _ (by omega)]; omega
  have iw2 : RowKit.wrap64 ((n : Int) + 1) = ((n + 1 : Nat) : Int) := by rw [← IntWalk.i64_left]; exact iw
  have hm0 : ((n + 1 : Nat) : Int) ≠ 0 := by omega
  have H1 := Lib.hid h1
  have H2 := Lib.hid h2
  have HB := Lib.hid hB
  obtain ⟨p, hp⟩ : ∃ p, p = pickM keep j := ⟨_, rfl⟩
  have HP := Lib.hid hp
  obtain ⟨r, hr⟩ : ∃ r, r = p % (n + 1) := ⟨_, rfl⟩
  have hrl : r < n + 1 := by rw [hr]; exact Nat.mod_lt _ (by omega)
  have hmod : (p : Int).tmod ((n + 1 : Nat) : Int) = (r : Int) := by rw [hr]; exact (Int.ofNat_tmod p (n + 1)).symm
  have HMD : Hid ((p : Int) % ((n : Int) + 1) = (r : Int)) := Lib.hid (by rw [hr]; exact (Int.natCast_emod p (n + 1)).symm)
  have irw : IntKind.i64.wrap (r : Int) = (r : Int) := IntWalk.i64_in _ (by omega)
  rw [← hp, ← hr]
  have HR := Lib.hid hr
  have HR0 : Hid (p = 0 → r = 0) := Lib.hid (fun h9 => by rw [HR.out, h9]; exact Nat.zero_mod _)
  cases hd : keep.drop j with
  | nil =>
    rw [hd] at hl
    obtain rfl : n2 = 0 := by simpa using hl.symm
    have hp0 : p = 0 := by
      rw [hp, pickM, List.getD_eq_getElem?_getD]
      have : keep[j]? = none := by
        have := List.drop_eq_nil_iff.1 hd
        exact List.getElem?_eq_none this
      rw [this]; rfl
    have hr0 : r = 0 := by rw [hr, hp0, Nat.zero_mod]
    subst hr0
    have hmod0 : (0 : Int).tmod ((n + 1 : Nat) : Int) = 0 := by simp
    have hK : Hid (KeepAt B S w kb keep (j + 1)) := Lib.hid ⟨a, 0, c, h1, by
      have : keep.drop (j + 1) = [] := by
        have := List.drop_eq_nil_iff.1 hd
        exact List.drop_eq_nil_of_le (by omega)
      rw [this]
      rw [hd] at h2
      exact h2⟩
    clear h1 h2 hl hle hmx hd hp hr hp0 hmod hrl hB hn irw
    go_enter Try.func36, Try.ntmps36
    go_wp2_with fail
    go_ret
    exact ⟨rfl, hK.out, Frm.refl _ _⟩
  | cons x xs =>
    rw [hd] at hl h2 H2
    have hkx : keep[j]? = some x := by
      have := congrArg (fun l => l[0]?) hd
      simpa using this
    have hd2 : keep.drop (j + 1) = xs := by
      have := congrArg (List.drop 1) hd
      rw [List.drop_drop] at this
      simpa using this
    obtain ⟨b, o, rfl, hb, _, hx⟩ := h2.cell 0 x rfl
    have hpx : (p : Int) = max x 0 := by
      rw [hp, pickM, List.getD_eq_getElem?_getD, hkx]
      show ((x.toNat : Nat) : Int) = _
      omega
    have i3 : (0 : Int) < (n2 : Int) := by simp at hl; omega
    have HD2 := Lib.hid hd2
    have HL := Lib.hid hl
    have i4 : (1 : Int) ≤ (n2 : Int) := by omega
    have i5 : (1 : Int) ≤ (c : Int) := by omega
    have hbk : b ≠ kb := by omega
    have hx' : w.cell? ⟨b, o, none⟩ = some (.int .i64 x) := hx
    have HPX := Lib.hid hpx
    have HMOD := Lib.hid hmod
    clear h1 h2 hl hle hmx hd hp hr hd2 hkx hB hn hx hpx hmod
    have hmxp : max x 0 = (p : Int) := HPX.out.symm
    go_enter Try.func36, Try.ntmps36
    go_wp2_with fail
    go_region
    have hK : KeepAt B S (w.setCell ⟨kb, 0, none⟩ (.slice (if c = 1 then some ⟨b, o, none⟩ else some ⟨b, o + 1, none⟩) (n2 - 1) (c - 1))).drew kb keep (j + 1) := by
      refine ⟨_, _, _, (H1.out.setCell 0 _).drew, ?_⟩
      rw [HD2.out]
      refine RdS.frm (fp := [kb]) (w := w) ?_ (((Frm.refl [kb] w).setCell (p := ⟨kb, 0, none⟩) (.inl (by simp)) _).drew) (fun k hk => .inr (by rw [List.mem_singleton] at hk; rw [hk]; exact HB.out))
      by_cases hc : c = 1
      · rw [if_pos hc]
        have h9 := H2.out.le
        have h8 := H2.out.max
        have h7 := HL.out
        obtain rfl : xs = [] := List.eq_nil_of_length_eq_zero (by simp only [List.length_cons] at h7; omega)
        exact RdS.none_of (by omega) (by omega) (by omega)
      · rw [if_neg hc]
        exact H2.out.tail
    have hF : Frm [kb] w (w.setCell ⟨kb, 0, none⟩ (.slice (if c = 1 then some ⟨b, o, none⟩ else some ⟨b, o + 1, none⟩) (n2 - 1) (c - 1))).drew := ((Frm.refl [kb] w).setCell (p := ⟨kb, 0, none⟩) (.inl (by simp)) _).drew
    have HK := Lib.hid hK
    have HF := Lib.hid hF
    clear hK hF
    generalize (w.setCell ⟨kb, 0, none⟩ (.slice (if c = 1 then some ⟨b, o, none⟩ else some ⟨b, o + 1, none⟩) (n2 - 1) (c - 1))).drew = w9 at *
    have hmod := HMOD.out
    go_wp2_with fail
    all_goals
      go_ret
      refine ⟨?_, HK.out, HF.out⟩
      first
        | rfl
        | (show Ending.returned (Value.int .i64 ((p : Int) % ((n : Int) + 1))) = _
           rw [HMD.out])
        | (rw [HR0.out (by first | rfl | trivial)]
           rfl)

end Go.Proofs.Ytkebdgbjgbcneaa
