/- The reference's disk: rows that are only read; contracts of find and good. -/
import Derived.Test.YtkebdgbjgbcneaaDG
namespace Go.Proofs.Ytkebdgbjgbcneaa
open Go.RowKit Go.Maps Go.Shelf

/-- A row of n elements of 'size' cells that is only read; its block is none of F. -/
def RowV (w : World) (F : List Nat) (v : Value) (n size : Nat) (xs : List Value) : Prop :=
  xs.length = n * size ∧ ∃ a c, v = .slice a n c ∧ n ≤ c ∧ c ≤ maxLen ∧ (a = none → c = 0) ∧ ∀ (i : Nat) (u : Value), xs[i]? = some u → ∃ b o, a = some ⟨b, o, none⟩ ∧ b ∉ F ∧ b < w.heap.size ∧ w.cell? ⟨b, o + i, none⟩ = some u
theorem RowV.step {w w' : World} {F F' : List Nat} {v : Value} {n size : Nat} {xs : List Value} {fp : List Nat} (h : RowV w F v n size xs) (hf : Frm fp w w') (hn : ∀ k ∈ fp, k ∈ F ∨ w.heap.size ≤ k) (hF : ∀ k ∈ F', k ∈ F ∨ w.heap.size ≤ k) : RowV w' F' v n size xs := by
  obtain ⟨h1, a, c, e, h2, h3, h5, h4⟩ := h
  refine ⟨h1, a, c, e, h2, h3, h5, fun i u hu => ?_⟩
  obtain ⟨b, o, e2, hb, hl, hc⟩ := h4 i u hu
  refine ⟨b, o, e2, fun hm => ?_, Nat.lt_of_lt_of_le hl hf.size, hf.cell hc (fun hm => ?_)⟩
  · rcases hF b hm with h9 | h9
    · exact hb h9
    · omega
  · rcases hn _ hm with h9 | h9
    · exact hb h9
    · simp at h9; omega
theorem RowV.frm {w w' : World} {F : List Nat} {v : Value} {n size : Nat} {xs : List Value} {fp : List Nat} (h : RowV w F v n size xs) (hf : Frm fp w w') (hn : ∀ k ∈ fp, k ∈ F ∨ w.heap.size ≤ k) : RowV w' F v n size xs := h.step hf hn (fun _ hk => .inl hk)
theorem RowV.nil {w w' : World} {F : List Nat} {v : Value} {n size : Nat} {xs : List Value} (h : RowV w F v n size xs) (hf : Frm [] w w') : RowV w' F v n size xs := h.frm hf (by simp)
theorem RowV.less {w : World} {F F' : List Nat} {v : Value} {n size : Nat} {xs : List Value} (h : RowV w F v n size xs) (hF : ∀ k ∈ F', k ∈ F) : RowV w F' v n size xs := h.step (Frm.refl [] w) (by simp) (fun k hk => .inl (hF k hk))
def dirC (l : Dir) : List Value := l.flatMap fun p => [str p.1, .int .i64 (p.2 : Int)]
theorem dirC_len (l : Dir) : (dirC l).length = l.length * 2 := by
  induction l with
  | nil => rfl
  | cons p r ih =>
    simp only [dirC, List.flatMap_cons, List.length_append, List.length_cons, List.length_nil] at ih ⊢
    omega
theorem dirC_get : ∀ {l : Dir} {i : Nat} {p : Nm × Nat}, l[i]? = some p → (dirC l)[i * 2]? = some (str p.1) ∧ (dirC l)[i * 2 + 1]? = some (.int .i64 (p.2 : Int))
  | [], i, p, h => by simp at h
  | q :: r, 0, p, h => by
    simp only [List.getElem?_cons_zero, Option.some.injEq] at h
    subst h
    exact ⟨rfl, rfl⟩
  | q :: r, i + 1, p, h => by
    rw [List.getElem?_cons_succ] at h
    obtain ⟨h1, h2⟩ := dirC_get h
    have e1 : (i + 1) * 2 = (i * 2) + 2 := by omega
    exact ⟨by rw [e1]; exact h1, by rw [e1]; exact h2⟩
def findI (l : Dir) (s : Nm) : Int := match findD l s with | some i => (i : Int) | none => -1

set_option linter.unusedSimpArgs false in
set_option maxRecDepth 100000 in
set_option maxHeartbeats 1000000 in
theorem rfind_eq {w : World} {F : List Nat} {v : Value} {l : Dir} (h : RowV w F v l.length 2 (dirC l)) (s : Nm) :
    Calls Try.prog 56 #[v, str s] w fun e w' => e = .returned (.int .i64 (findI l s)) ∧ w' = w := by
  obtain ⟨_, a, c, rfl, hlc, hcm, _, hcell⟩ := h
  have i1 : (l.length : Int) ≤ (c : Int) := by omega
  have i2 : (c : Int) ≤ 9223372036854775807 := by unfold maxLen at hcm; omega
  have HC := Lib.hid hcell
  clear hcell hlc hcm
  go_enter Try.func56, Try.ntmps56
  go_wp2_with fail
  go_loopg [5] l.length (fun q s5 wr => ∃ k : Nat, q = l.length - k ∧ k ≤ l.length ∧ s5 = .int .i64 (k : Int) ∧ findD (l.drop k) s = findD l s ∧ wr = w)
  case atStart => exact ⟨0, rfl, Nat.zero_le _, rfl, rfl, rfl⟩
  case round =>
    obtain ⟨k, rfl, hk, rfl, hfd, hF⟩ := hrel
    have HF : Hid (Frm [] w wr) := Lib.hid (by rw [hF]; exact Frm.refl _ _)
    have HFE := Lib.hid hF
    have HFD := Lib.hid hfd
    have i4 : (0 : Int) ≤ (k : Int) := by omega
    clear hF hfd
    by_cases hlt : k < l.length
    · have i5 : (k : Int) < (l.length : Int) := by omega
      obtain ⟨p, hp⟩ : ∃ p, l[k]? = some p := ⟨_, List.getElem?_eq_getElem hlt⟩
      obtain ⟨g0, g1⟩ := dirC_get hp
      obtain ⟨b, o, rfl, _, _, c0⟩ := HC.out _ _ g0
      obtain ⟨b', o', e', _, _, c1⟩ := HC.out _ _ g1
      simp only [Option.some.injEq, Addr.mk.injEq, and_true] at e'
      obtain ⟨rfl, rfl⟩ := e'
      have d0 := HF.out.cell c0 (by simp)
      have d1 := HF.out.cell c1 (by simp)
      rw [← Nat.add_assoc] at d1
      have hstep := HFD.out
      rw [drop_get hp] at hstep
      have HST := Lib.hid hstep
      clear hp g0 g1 c0 c1 hstep
      by_cases he : p.1 = s
      · have hb : (p.1 == s) = true := by simpa using he
        have HR : Hid (findI l s = (p.2 : Int)) := Lib.hid (by
          have h9 := HST.out
          rw [findD, List.find?_cons_of_pos (by simpa using he)] at h9
          rw [findI, ← h9]
          rfl)
        go_wp2_with fail
        go_ret
        exact ⟨by rw [HR.out]; rfl, HFE.out⟩
      · have hb : (p.1 == s) = false := beq_eq_false_iff_ne.2 he
        have HR : Hid (findD (l.drop (k + 1)) s = findD l s) := Lib.hid (by
          have h9 := HST.out
          rw [findD, List.find?_cons_of_neg (by simpa using he)] at h9
          exact h9)
        clear he
        go_wp2_with fail
        go_roundg (l.length - (k + 1))
        case rel => exact ⟨k + 1, rfl, hlt, by go_num, HR.out, HFE.out⟩
        case measure => omega
    · have i5 : ¬ (k : Int) < (l.length : Int) := by omega
      have HR : Hid (findI l s = -1) := Lib.hid (by
        have h9 := HFD.out
        rw [List.drop_eq_nil_of_le (by omega)] at h9
        rw [findI, ← h9]
        rfl)
      go_wp2_with fail
      go_ret
      exact ⟨by rw [HR.out]; rfl, HFE.out⟩

theorem rfind_any {w : World} {F : List Nat} {v : Value} {l : Dir} (h : RowV w F v l.length 2 (dirC l)) (s : Nm) :
    Calls Try.prog 56 #[v, str s] w fun e w' => e = .returned (.int .i64 (findI l s)) ∧ Frm [] w w' := by
  refine (rfind_eq h s).mono ?_
  rintro e w' ⟨h1, rfl⟩
  exact ⟨h1, Frm.refl _ _⟩

end Go.Proofs.Ytkebdgbjgbcneaa
