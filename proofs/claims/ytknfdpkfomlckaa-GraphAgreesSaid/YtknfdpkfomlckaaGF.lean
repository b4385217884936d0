/- Contracts of graph.state, flow.Stable, Has of the reference. -/
import Derived.Test.YtknfdpkfomlckaaGE
namespace Go.Proofs.Ytknfdpkfomlckaa
open Go.RowKit

/-- A row of integers that the call has made (or nil). -/
abbrev OwnI (B : Nat) (w : World) (a : Option Addr) (cap : Nat) (xs : List Int) : Prop := w.ownsRow B 3 1 (.slice a xs.length cap) xs.length (ints xs)

theorem ints_len (xs : List Int) : (ints xs).length = xs.length := by simp [ints]
theorem ints_app (xs ys : List Int) : ints (xs ++ ys) = ints xs ++ ints ys := by simp [ints]
theorem ints_one (xs : List Int) : ∀ u ∈ ints xs, u.oneCell' = true := by
  intro u hu
  simp only [ints, List.mem_map] at hu
  obtain ⟨x, _, rfl⟩ := hu
  rfl
theorem OwnI.rd {B C : Nat} {w : World} {a : Option Addr} {cap : Nat} {xs : List Int} (h : OwnI B w a cap xs) (hc : w.heap.size ≤ C) : Rd C w a xs.length cap 1 (ints xs) := rd_of_owns h hc
theorem OwnI.nil (B : Nat) (w : World) : OwnI B w none 0 [] := ⟨rfl, .inl ⟨rfl, rfl⟩⟩

def inB (n : Nat) (s : Int) : Bool := decide (0 ≤ s) && decide (s < (n : Int))
theorem inB_iff (n : Nat) (s : Int) : inB n s = true ↔ 0 ≤ s ∧ s < (n : Int) := by simp [inB]
theorem inB_false (n : Nat) (s : Int) : inB n s = false ↔ s < 0 ∨ (0 ≤ s ∧ (n : Int) ≤ s) := by
  simp only [inB, Bool.and_eq_false_iff, decide_eq_false_iff_not]
  omega

theorem ret_bool {a b : Bool} (h : a = b) : Ending.returned (.bool a) = .returned (.bool b) := by rw [h]
theorem ret_int {a b : Int} (h : a = b) : Ending.returned (.int .i64 a) = .returned (.int .i64 b) := by rw [h]

theorem state_any (B : Nat) (a : Option Addr) (cap : Nat) (l : Lts) (s : Int) (w : World) (h : LAt B w a cap l) :
    Calls Try.prog 50 #[.agg #[.slice a l.length cap], .int .i64 s] w fun e w' => e = .returned (.bool (inB l.length s)) ∧ Frm [] w w' := by
  have f0 : Frm [] w (w.alloc (.cells #[.slice a l.length cap] 25)) := (Frm.refl [] w).alloc _
  have hl := h.lt
  cases hb : inB l.length s with
  | true =>
    obtain ⟨h1, h2⟩ := (inB_iff _ _).1 hb
    clear hb h
    go_enter Try.func50, Try.ntmps50
    go_wp2
    go_ret
    exact ⟨rfl, f0⟩
  | false =>
    rcases (inB_false _ _).1 hb with h1 | ⟨h1, h2⟩
    all_goals
      clear hb h
      go_enter Try.func50, Try.ntmps50
      go_wp2
      go_ret
      first | exact ⟨rfl, f0⟩ | exact ⟨ret_bool (by simp; omega), f0⟩

def stableR (row : List Arc) : Bool := match row with
  | [] => true
  | a :: _ => decide (a.1 ≠ 0)

set_option maxRecDepth 100000 in
theorem fstable_any (B : Nat) (a : Option Addr) (cap : Nat) (l : Lts) (s : Nat) (row : List Arc) (w : World) (h : LAt B w a cap l) (hs : l[s]? = some row) :
    Calls Try.prog 76 #[.agg #[.slice a l.length cap], .int .i64 (s : Int)] w fun e w' => e = .returned (.bool (stableR row)) ∧ Frm [] w w' := by
  have f0 : Frm [] w (w.alloc (.cells #[.slice a l.length cap] 25)) := (Frm.refl [] w).alloc _
  have hl := h.lt
  have h' := h.nil f0 rfl
  have hsl : s < l.length := (List.getElem?_eq_some_iff.1 hs).1
  obtain ⟨b, o, ra, rc, rfl, hb, hc, hrr⟩ := h'.cell s row hs
  have i1 : (s : Int) < (l.length : Int) := by omega
  have i2 : (0 : Int) ≤ (s : Int) := by omega
  have hrl := hrr.lt
  cases row with
  | nil =>
    clear h h' hs hrr
    go_enter Try.func76, Try.ntmps76
    go_wp2
    go_ret
    exact ⟨rfl, f0⟩
  | cons x r =>
    obtain ⟨e, t⟩ := x
    obtain ⟨b1, o1, rfl, hb1, d1, d2⟩ := hrr.2.2.2 0 e t rfl
    have i3 : ((((e, t) :: r).length : Int) == 0) = false := by simp; omega
    have i4 : (0 : Int) < (((e, t) :: r).length : Int) := by simp only [List.length_cons]; omega
    have hn : (((e, t) :: r).length : Int) = (r.length : Int) + 1 := by simp
    rw [hn] at i3 i4 hrl
    simp only [List.length_cons] at hc
    have hst : stableR ((e, t) :: r) = decide (e ≠ 0) := rfl
    obtain ⟨n, hn2⟩ : ∃ n : Nat, r.length + 1 = n := ⟨_, rfl⟩
    have hn3 : (r.length : Int) + 1 = (n : Int) := by omega
    rw [hn2] at hc
    rw [hn3] at i3 i4 hrl
    simp only [Nat.zero_mul, Nat.add_zero] at d1 d2
    rw [hst]
    clear h h' hs hrr hn hst hn3
    by_cases he : e = 0
    · subst he
      go_enter Try.func76, Try.ntmps76
      go_wp2
      go_ret
      exact ⟨rfl, f0⟩
    · have he2 : (e != 0) = true := by simpa using he
      have HE : Hid (decide (e ≠ 0) = true) := Lib.hid (by simpa using he)
      clear he
      go_enter Try.func76, Try.ntmps76
      go_wp2
      go_ret
      exact ⟨by rw [HE.out]; rfl, f0⟩

def hasB (xs : List Int) (x : Int) : Bool := xs.any fun y => decide (y = x)

set_option maxRecDepth 100000 in
theorem has_any (B : Nat) (a : Option Addr) (cap : Nat) (xs : List Int) (x : Int) (w : World) (h : Rd B w a xs.length cap 1 (ints xs)) :
    Calls Try.prog 44 #[.slice a xs.length cap, .int .i64 x] w fun e w' => e = .returned (.bool (hasB xs x)) ∧ Frm [] w w' := by
  have l1 := h.lt
  obtain ⟨R, hR⟩ : ∃ R, hasB xs x = R := ⟨_, rfl⟩
  rw [hR]
  have H := Lib.hid h
  clear h
  go_enter Try.func44, Try.ntmps44
  go_wp2_with fail
  go_loopg [5] xs.length (fun q i wr => ∃ (k : Nat), q = xs.length - k ∧ k ≤ xs.length ∧ i = .int .i64 k ∧ hasB (xs.drop k) x = R ∧ Frm [] w wr)
  case atStart => exact ⟨0, rfl, Nat.zero_le _, rfl, hR, Frm.refl _ _⟩
  case round =>
    clear hR
    obtain ⟨k, rfl, hk, rfl, hd, hF⟩ := hrel
    have HF := Lib.hid hF
    have i4 : (0 : Int) ≤ (k : Int) := by omega
    clear hF
    by_cases hlt : k < xs.length
    · have i5 : (k : Int) < (xs.length : Int) := by omega
      obtain ⟨y, hy⟩ : ∃ y, xs[k]? = some y := ⟨_, List.getElem?_eq_getElem hlt⟩
      rw [drop_cons hy, hasB, List.any_cons] at hd
      obtain ⟨g, o, rfl, _, c1⟩ := H.out.at hy
      have d1 := HF.out.cell c1 (by simp)
      clear c1 hy
      by_cases hxy : y = x
      · subst hxy
        have HD : Hid (R = true) := Lib.hid (by rw [← hd]; simp)
        clear hd
        go_wp2_with fail
        go_ret
        exact ⟨by rw [HD.out]; rfl, HF.out⟩
      · have hne : (y == x) = false := by simpa using hxy
        rw [decide_eq_false hxy, Bool.false_or] at hd
        have HD := Lib.hid hd
        clear hd hxy
        go_wp2_with fail
        go_roundg (xs.length - (k + 1))
        case rel => exact ⟨k + 1, rfl, by omega, by go_num, HD.out, HF.out⟩
        case measure => omega
    · have i5 : ¬ (k : Int) < (xs.length : Int) := by omega
      have HR : Hid (R = false) := Lib.hid (by rw [← hd, List.drop_eq_nil_of_le (by omega)]; rfl)
      clear hd
      go_wp2_with fail
      go_ret
      exact ⟨by rw [HR.out]; rfl, HF.out⟩

end Go.Proofs.Ytknfdpkfomlckaa
