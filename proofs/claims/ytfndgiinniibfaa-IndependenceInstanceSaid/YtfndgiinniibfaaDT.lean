/- Rows that can be read; the tape of numbers: contracts of New, Next. -/
import Derived.Test.YtfndgiinniibfaaLib
import Derived.Test.YtfndgiinniibfaaRows
import Derived.WalkSpells
import Derived.WalkLawsBesides
import Derived.Deep.LoopGhost
import Derived.Deep.QuietTactic
import Derived.BigQuiet
import Derived.Deep.RegionHeld3
import Derived.Deep.RegionLaw
import Derived.Deep.AppendLies
import Derived.Deep.OwnRows
namespace Go.Proofs.Ytfndgiinniibfaa
open Go.RowKit

theorem infoInt : (Try.prog.info? 3).map (fun i => (i.zero, i.size, i.bytes)) = some (some (.int .i64 0), 1, 8) := by kernel_rfl

def ints (xs : List Int) : List Value := xs.map (Value.int .i64)

/-- A slice of n elements (of 'size' cells each) that can be read; its block lies below B. -/
structure Rd (B : Nat) (w : World) (a : Option Addr) (n cap size : Nat) (xs : List Value) : Prop where
  len : xs.length = n * size
  le : n ≤ cap
  max : cap ≤ maxLen
  cell : ∀ (i : Nat) (u : Value), xs[i]? = some u → ∃ b o, a = some ⟨b, o, none⟩ ∧ b < B ∧ w.cell? ⟨b, o + i, none⟩ = some u

theorem Rd.frm {B : Nat} {fp : List Nat} {w w' : World} {a : Option Addr} {n cap size : Nat} {xs : List Value} (h : Rd B w a n cap size xs) (hf : Frm fp w w') (hn : ∀ k ∈ fp, B ≤ k) : Rd B w' a n cap size xs :=
  ⟨h.len, h.le, h.max, fun i u hu => by
    obtain ⟨b, o, ha, hb, hc⟩ := h.cell i u hu
    exact ⟨b, o, ha, hb, hf.cell hc (fun hm => by have := hn _ hm; simp at this; omega)⟩⟩

theorem Rd.mono {B C : Nat} {w : World} {a : Option Addr} {n cap size : Nat} {xs : List Value} (h : Rd B w a n cap size xs) (hc : B ≤ C) : Rd C w a n cap size xs :=
  ⟨h.len, h.le, h.max, fun i u hu => by
    obtain ⟨b, o, ha, hb, hcc⟩ := h.cell i u hu
    exact ⟨b, o, ha, by omega, hcc⟩⟩

theorem Rd.lt {B : Nat} {w : World} {a : Option Addr} {n cap size : Nat} {xs : List Value} (h : Rd B w a n cap size xs) : (n : Int) ≤ 9223372036854775807 := by
  have h1 := h.le
  have h2 := h.max
  unfold maxLen at h2
  omega

/-- What a slice of integers gives at an index. -/
theorem Rd.at {B : Nat} {w : World} {a : Option Addr} {cap : Nat} {xs : List Int} {n : Nat} (h : Rd B w a n cap 1 (ints xs)) {i : Nat} {x : Int} (hx : xs[i]? = some x) : ∃ b o, a = some ⟨b, o, none⟩ ∧ b < B ∧ w.cell? ⟨b, o + i, none⟩ = some (.int .i64 x) :=
  h.cell i _ (by simp [ints, hx])

theorem rd_of_owns {B C : Nat} {w : World} {e size n cap : Nat} {a : Option Addr} {xs : List Value} (h : w.ownsRow B e size (.slice a n cap) n xs) (hc : w.heap.size ≤ C) : Rd C w a n cap size xs := by
  rcases h.2 with ⟨h0, rfl⟩ | ⟨g, cp, cur, h0, hb, hg, h1, h2, h3, h4⟩
  · cases h0
    exact ⟨h.1, Nat.le_refl _, Nat.zero_le _, fun i u hu => by
      have : xs = [] := List.eq_nil_of_length_eq_zero (by simpa using h.1)
      subst this; simp at hu⟩
  · obtain ⟨rfl, rfl⟩ : a = some ⟨g, 0, none⟩ ∧ cap = cp := by simpa using h0
    refine ⟨h.1, h1, h2, fun i u hu => ⟨g, 0, rfl, by have := (Array.getElem?_eq_some_iff.1 hg).1; omega, ?_⟩⟩
    rw [Nat.zero_add]
    exact RowAt.cell (xs := xs) ⟨cur, hg, by rw [h.1]; exact h4⟩ hu

/-- A tape lies at block tb; at most N numbers have been drawn. -/
def TapeOk (B : Nat) (w : World) (tb : Nat) (N : Nat) : Prop := ∃ (a : Option Addr) (cap : Nat) (xs : List Int) (at0 : Nat),
  RowAt w tb 63 [.slice a xs.length cap, .int .i64 at0] ∧ Rd B w a xs.length cap 1 (ints xs) ∧ (∀ x ∈ xs, -9223372036854775808 ≤ x ∧ x ≤ 9223372036854775807) ∧ at0 ≤ N

theorem TapeOk.frm {B : Nat} {fp : List Nat} {w w' : World} {tb N : Nat} (h : TapeOk B w tb N) (hf : Frm fp w w') (hn : ∀ k ∈ fp, B ≤ k) (ht : tb ∉ fp) : TapeOk B w' tb N := by
  obtain ⟨a, cap, xs, at0, h1, h2, h3, h4⟩ := h
  exact ⟨a, cap, xs, at0, h1.frm hf ht, h2.frm hf hn, h3, h4⟩

theorem TapeOk.nil {B : Nat} {w w' : World} {tb N : Nat} (h : TapeOk B w tb N) (hf : Frm [] w w') : TapeOk B w' tb N := h.frm hf (by simp) (by simp)

theorem TapeOk.mono {B : Nat} {w : World} {tb N M : Nat} (h : TapeOk B w tb N) (hm : N ≤ M) : TapeOk B w tb M := by
  obtain ⟨a, cap, xs, at0, h1, h2, h3, h4⟩ := h
  exact ⟨a, cap, xs, at0, h1, h2, h3, by omega⟩

theorem TapeOk.lt {B : Nat} {w : World} {tb N : Nat} (h : TapeOk B w tb N) : tb < w.heap.size := by
  obtain ⟨a, cap, xs, at0, h1, _⟩ := h
  exact h1.lt

theorem tape_new (B : Nat) (a : Option Addr) (cap : Nat) (xs : List Int) (w : World) (h : Rd B w a xs.length cap 1 (ints xs)) (hx : ∀ x ∈ xs, -9223372036854775808 ≤ x ∧ x ≤ 9223372036854775807) :
    Calls Try.prog 12 #[.slice a xs.length cap] w fun e w' => e = .returned (.pointer (some ⟨w.heap.size, 0, none⟩)) ∧ Frm [] w w' ∧ TapeOk B w' w.heap.size 0 ∧ w'.heap.size = w.heap.size + 1 := by
  have f0 : Frm [] w (w.alloc (.cells #[.slice a xs.length cap, .int .i64 0] 63)) := (Frm.refl [] w).alloc _
  have hT : TapeOk B (w.alloc (.cells #[.slice a xs.length cap, .int .i64 0] 63)) w.heap.size 0 :=
    ⟨a, cap, xs, 0, RowAt.made _ _ _ _ rfl, h.frm f0 (by simp), hx, Nat.le_refl _⟩
  have hl := h.lt
  have HT := Lib.hid hT
  clear hx hT h
  go_enter Try.func12, Try.ntmps12
  go_wp2
  go_ret
  exact ⟨rfl, f0, HT.out, by simp⟩

set_option maxRecDepth 100000 in
set_option maxHeartbeats 2000000 in
theorem next_any (B tb N : Nat) (n : Int) (w : World) (h : TapeOk B w tb N) (hB : B ≤ tb) (hN : N ≤ 1000000000) (hn : n ≤ 1000000000) :
    Calls Try.prog 19 #[.pointer (some ⟨tb, 0, none⟩), .int .i64 n] w fun e w' => (∃ v : Int, e = .returned (.int .i64 v) ∧ (1 ≤ n → 0 ≤ v ∧ v < n) ∧ (n < 1 → v = 0)) ∧ TapeOk B w' tb (N + 1) ∧ Frm [tb] w w' := by
  obtain ⟨a, cap, xs, at0, h1, h2, h3, h4⟩ := h
  have hl := h2.lt
  have c0 := h1.cell (i := 0) rfl
  have c1 := h1.cell (i := 1) rfl
  have z1 := h1.frozen 1
  have i0 : (0 : Int) ≤ (at0 : Int) := by omega
  have i1 : (at0 : Int) ≤ 1000000000 := by omega
  have hend : ∀ k : Nat, TapeOk B ((w.setCell ⟨tb, 1, none⟩ (.int .i64 ((at0 : Int) + 1))).drewN k) tb (N + 1) := by
    intro k
    refine ⟨a, cap, xs, at0 + 1, ?_, ?_, h3, by omega⟩
    · have := h1.setCell 1 (.int .i64 ((at0 + 1 : Nat) : Int))
      exact this.drewN k
    · refine (h2.frm (fp := [tb]) ?_ (by simp; omega))
      exact ((Frm.refl _ _).setCell (.inl (by simp)) _).drewN k
  have HEND := Lib.hid hend
  by_cases hlt : at0 < xs.length
  · obtain ⟨x, hx⟩ : ∃ x, xs[at0]? = some x := ⟨_, List.getElem?_eq_getElem hlt⟩
    obtain ⟨b, o, rfl, hb, hc⟩ := h2.at hx
    have hxb := h3 x (List.mem_of_getElem? hx)
    obtain ⟨x1, x2⟩ := hxb
    have i2 : (at0 : Int) < (xs.length : Int) := by omega
    clear h1 h2 h3 hx hend
    by_cases hn1 : n < 1
    · have HN := Lib.hid hn1
      go_enter Try.func19, Try.ntmps19
      go_wp2_with fail
      go_quiet (fail)
      go_wp2_with fail
      go_quiet (fail)
      go_wp2_with fail
      go_ret
      exact ⟨⟨0, rfl, fun h => by have := HN.out; omega, fun _ => rfl⟩, HEND.out _, ((Frm.refl _ _).setCell (.inl (by simp)) _).drewN _⟩
    · have hn2 : 1 ≤ n := by omega
      clear hn1
      by_cases hx0 : 0 ≤ x
      · have e1 : 0 ≤ x % n := Int.emod_nonneg _ (by omega)
        have e2 : x % n < n := Int.emod_lt_of_pos _ (by omega)
        go_enter Try.func19, Try.ntmps19
        go_wp2_with fail
        go_quiet (fail)
        go_wp2_with fail
        go_quiet (fail)
        go_wp2_with fail
        go_ret
        exact ⟨⟨_, rfl, fun _ => ⟨e1, e2⟩, fun h => by omega⟩, HEND.out _, ((Frm.refl _ _).setCell (.inl (by simp)) _).drewN _⟩
      · have hx0' : x < 0 := by omega
        have e1 : x.tmod n ≤ 0 := by
          have := Int.tmod_nonneg (a := -x) n (by omega); rw [Int.neg_tmod] at this; omega
        have e2 : -n < x.tmod n := by
          have := Int.tmod_lt_of_pos (-x) (show 0 < n by omega); rw [Int.neg_tmod] at this; omega
        clear hx0
        by_cases hz : x.tmod n < 0
        · have hz2 := hz
          go_enter Try.func19, Try.ntmps19
          go_wp2_with fail
          go_quiet (fail)
          go_wp2_with fail
          go_quiet (fail)
          go_wp2_with fail
          go_ret
          exact ⟨⟨_, rfl, fun _ => ⟨by omega, by omega⟩, fun h => by omega⟩, HEND.out _, ((Frm.refl _ _).setCell (.inl (by simp)) _).drewN _⟩
        · have hz2 : 0 ≤ x.tmod n := by omega
          clear hz
          go_enter Try.func19, Try.ntmps19
          go_wp2_with fail
          go_quiet (fail)
          go_wp2_with fail
          go_quiet (fail)
          go_wp2_with fail
          go_ret
          exact ⟨⟨_, rfl, fun _ => ⟨by omega, by omega⟩, fun h => by omega⟩, HEND.out _, ((Frm.refl _ _).setCell (.inl (by simp)) _).drewN _⟩
  · have i2 : (xs.length : Int) ≤ (at0 : Int) := by omega
    clear h1 h2 h3 hend
    by_cases hn1 : n < 1
    · have HN := Lib.hid hn1
      go_enter Try.func19, Try.ntmps19
      go_wp2_with fail
      go_quiet (fail)
      go_wp2_with fail
      go_ret
      exact ⟨⟨0, rfl, fun h => by have := HN.out; omega, fun _ => rfl⟩, HEND.out _, ((Frm.refl _ _).setCell (.inl (by simp)) _).drewN _⟩
    · have hn2 : 1 ≤ n := by omega
      clear hn1
      · have e1 : 0 ≤ (5 * (at0 : Int) + 3) % n := Int.emod_nonneg _ (by omega)
        have e2 : (5 * (at0 : Int) + 3) % n < n := Int.emod_lt_of_pos _ (by omega)
        go_enter Try.func19, Try.ntmps19
        go_wp2_with fail
        go_quiet (fail)
        go_wp2_with fail
        go_ret
        exact ⟨⟨_, rfl, fun _ => ⟨e1, e2⟩, fun h => by omega⟩, HEND.out _, ((Frm.refl _ _).setCell (.inl (by simp)) _).drewN _⟩

end Go.Proofs.Ytfndgiinniibfaa
