/- Contracts of same (two arcs), validNot. -/
import Derived.Test.YtfndgiinniibfaaK1
namespace Go.Proofs.Ytfndgiinniibfaa.Ind
open Go.Shelf
open Go.RowKit

def arcV (v : Value) (a : RA) : Value := .agg #[.int .i64 a.kind, .int .i64 a.ch, .int .i64 a.reg, .int .i64 a.frm, v, .int .i64 a.to]
def sameB (a b : RA) : Bool := a.kind == b.kind && a.ch == b.ch && a.reg == b.reg && a.frm == b.frm && a.to == b.to && decide (a.not = b.not)
theorem sameB_iff {a b : RA} : sameB a b = true ↔ a = b := by
  cases a; cases b
  simp [sameB]
  constructor
  · rintro ⟨⟨⟨⟨⟨h1, h2⟩, h3⟩, h4⟩, h5⟩, h6⟩
    exact ⟨h1, h2, h3, h4, h6, h5⟩
  · rintro ⟨h1, h2, h3, h4, h5, h6⟩
    exact ⟨⟨⟨⟨⟨h1, h2⟩, h3⟩, h4⟩, h6⟩, h5⟩
/-- A value of an arc whose list can be read. -/
def NotAt (w : World) (F : List Nat) (v : Value) (a : RA) : Prop := RowV w F v a.not.length 1 (ints a.not)

set_option maxRecDepth 100000 in
set_option linter.unusedSimpArgs false in
theorem same_any {F G : List Nat} (w : World) (u v : Value) (a b : RA) (hu : NotAt w F u a) (hv : NotAt w G v b) :
    Calls Try.prog 37 #[arcV u a, arcV v b] w fun e w' => e = .returned (.bool (sameB a b)) ∧ Frm [] w w' := by
  obtain ⟨a1, c1, rfl⟩ := hu.shape
  obtain ⟨a2, c2, rfl⟩ := hv.shape
  obtain ⟨R, hR⟩ : ∃ R, sameB a b = R := ⟨_, rfl⟩
  rw [hR]
  rw [sameB] at hR
  obtain ⟨kind, ch, reg, frm, not, tgt⟩ := a
  obtain ⟨kind', ch', reg', frm', not', tgt'⟩ := b
  have hu1 := hu.rd
  have hv1 := hv.rd
  simp only at hR hu1 hv1
  clear hu hv
  have HU := Lib.hid hu1
  have HV := Lib.hid hv1
  clear hu1 hv1
  unfold arcV
  cases h0 : (kind == kind')
  · rw [h0] at hR
    simp only [Bool.false_and, Bool.and_false] at hR
    subst hR
    go_enter Try.func37, Try.ntmps37
    go_wp2_with fail
    go_ret
    exact ⟨rfl, (Frm.refl [] w).alloc _ |>.alloc _⟩
  · rw [h0] at hR
    cases h1 : (ch == ch')
    · rw [h1] at hR
      simp only [Bool.false_and, Bool.and_false] at hR
      subst hR
      go_enter Try.func37, Try.ntmps37
      go_wp2_with fail
      go_ret
      exact ⟨rfl, (Frm.refl [] w).alloc _ |>.alloc _⟩
    · rw [h1] at hR
      cases h2 : (reg == reg')
      · rw [h2] at hR
        simp only [Bool.false_and, Bool.and_false] at hR
        subst hR
        go_enter Try.func37, Try.ntmps37
        go_wp2_with fail
        go_ret
        exact ⟨rfl, (Frm.refl [] w).alloc _ |>.alloc _⟩
      · rw [h2] at hR
        cases h3 : (frm == frm')
        · rw [h3] at hR
          simp only [Bool.false_and, Bool.and_false] at hR
          subst hR
          go_enter Try.func37, Try.ntmps37
          go_wp2_with fail
          go_ret
          exact ⟨rfl, (Frm.refl [] w).alloc _ |>.alloc _⟩
        · rw [h3] at hR
          cases h4 : (tgt == tgt')
          · rw [h4] at hR
            simp only [Bool.false_and, Bool.and_false] at hR
            subst hR
            go_enter Try.func37, Try.ntmps37
            go_wp2_with fail
            go_ret
            exact ⟨rfl, (Frm.refl [] w).alloc _ |>.alloc _⟩
          · rw [h4] at hR
            simp only [Bool.true_and] at hR
            have HR := Lib.hid hR
            clear hR
            go_enter Try.func37, Try.ntmps37
            go_wp2_with fail
            refine (equal_any _ a1 a2 c1 c2 not not' _ (HU.out.nil ((Frm.refl [] w).alloc _ |>.alloc _)) (HV.out.nil ((Frm.refl [] w).alloc _ |>.alloc _))).mono ?_
            rintro e1 w1 ⟨rfl, hf1⟩
            go_wp2_with fail
            go_ret
            exact ⟨ret_bool HR.out, ((Frm.refl [] w).alloc _ |>.alloc _).trans hf1 (by simp)⟩

set_option maxRecDepth 100000 in
set_option linter.unusedSimpArgs false in
theorem sameArc_any {F G : List Nat} (w : World) (u v : Value) (a b : RA) (hu : NotAt w F u a) (hv : NotAt w G v b) :
    Calls Try.prog 39 #[arcV u a, arcV v b] w fun e w' => e = .returned (.bool (sameB a b)) ∧ Frm [] w w' := by
  obtain ⟨a1, c1, rfl⟩ := hu.shape
  obtain ⟨a2, c2, rfl⟩ := hv.shape
  obtain ⟨R, hR⟩ : ∃ R, sameB a b = R := ⟨_, rfl⟩
  rw [hR]
  rw [sameB] at hR
  obtain ⟨kind, ch, reg, frm, not, tgt⟩ := a
  obtain ⟨kind', ch', reg', frm', not', tgt'⟩ := b
  have hu1 := hu.rd
  have hv1 := hv.rd
  simp only at hR hu1 hv1
  clear hu hv
  have HU := Lib.hid hu1
  have HV := Lib.hid hv1
  clear hu1 hv1
  unfold arcV
  cases h0 : (kind == kind')
  · rw [h0] at hR
    simp only [Bool.false_and, Bool.and_false] at hR
    subst hR
    go_enter Try.func39, Try.ntmps39
    go_wp2_with fail
    go_ret
    exact ⟨rfl, (Frm.refl [] w).alloc _ |>.alloc _⟩
  · rw [h0] at hR
    cases h1 : (ch == ch')
    · rw [h1] at hR
      simp only [Bool.false_and, Bool.and_false] at hR
      subst hR
      go_enter Try.func39, Try.ntmps39
      go_wp2_with fail
      go_ret
      exact ⟨rfl, (Frm.refl [] w).alloc _ |>.alloc _⟩
    · rw [h1] at hR
      cases h2 : (reg == reg')
      · rw [h2] at hR
        simp only [Bool.false_and, Bool.and_false] at hR
        subst hR
        go_enter Try.func39, Try.ntmps39
        go_wp2_with fail
        go_ret
        exact ⟨rfl, (Frm.refl [] w).alloc _ |>.alloc _⟩
      · rw [h2] at hR
        cases h3 : (frm == frm')
        · rw [h3] at hR
          simp only [Bool.false_and, Bool.and_false] at hR
          subst hR
          go_enter Try.func39, Try.ntmps39
          go_wp2_with fail
          go_ret
          exact ⟨rfl, (Frm.refl [] w).alloc _ |>.alloc _⟩
        · rw [h3] at hR
          cases h4 : (tgt == tgt')
          · rw [h4] at hR
            simp only [Bool.false_and, Bool.and_false] at hR
            subst hR
            go_enter Try.func39, Try.ntmps39
            go_wp2_with fail
            go_ret
            exact ⟨rfl, (Frm.refl [] w).alloc _ |>.alloc _⟩
          · rw [h4] at hR
            simp only [Bool.true_and] at hR
            have HR := Lib.hid hR
            clear hR
            go_enter Try.func39, Try.ntmps39
            go_wp2_with fail
            refine (ints_same _ a1 a2 c1 c2 not not' _ (HU.out.nil ((Frm.refl [] w).alloc _ |>.alloc _)) (HV.out.nil ((Frm.refl [] w).alloc _ |>.alloc _))).mono ?_
            rintro e1 w1 ⟨rfl, hf1⟩
            go_wp2_with fail
            go_ret
            exact ⟨ret_bool HR.out, ((Frm.refl [] w).alloc _ |>.alloc _).trans hf1 (by simp)⟩


theorem notB_snoc (regs : Int) : ∀ {l : List Int} {k : Nat} {r : Int}, l[k]? = some r → notB regs (l.take (k + 1)) = (notB regs (l.take k) && (belowB r regs && match k with | 0 => true | j + 1 => decide ((l[j]?).getD 0 < r))) := by
  intro l k r h
  have hasc : ∀ (l : List Int) (k : Nat) (r : Int), l[k]? = some r → ascB (l.take (k + 1)) = (ascB (l.take k) && match k with | 0 => true | j + 1 => decide ((l[j]?).getD 0 < r)) := by
    intro l
    induction l with
    | nil => intro k r h; simp at h
    | cons a t ih =>
      intro k r h
      cases k with
      | zero => simp [ascB]
      | succ k =>
        rw [List.getElem?_cons_succ] at h
        cases t with
        | nil => simp at h
        | cons b t =>
          have := ih k r h
          rw [List.take_succ_cons] at this ⊢
          rw [List.take_succ_cons, ascB, this]
          cases k with
          | zero =>
            simp at h
            simp [ascB, h]
          | succ k =>
            show _ = ((decide (a < b) && ascB (b :: List.take k t)) && _)
            rw [Bool.and_assoc, List.take_succ_cons]
            rfl
  rw [notB, notB, hasc l k r h, List.take_add_one, h]
  simp only [Option.toList_some, List.all_append, List.all_cons, List.all_nil, Bool.and_true]
  cases (l.take k).all fun r => belowB r regs <;> cases belowB r regs <;> simp

theorem asc_pre : ∀ {l : List Int} {k : Nat}, ascB (l.take k) = false → ascB l = false
  | [], k, h => by simp [ascB] at h
  | [a], 0, h => by simp [ascB] at h
  | [a], k + 1, h => by simpa using h
  | a :: b :: r, 0, h => by simp [ascB] at h
  | a :: b :: r, 1, h => by simp [ascB] at h
  | a :: b :: r, k + 2, h => by
    rw [List.take_succ_cons, List.take_succ_cons, ascB, Bool.and_eq_false_iff] at h
    rw [ascB, Bool.and_eq_false_iff]
    rcases h with h | h
    · exact .inl h
    · exact .inr (asc_pre (k := k + 1) (by rw [List.take_succ_cons]; exact h))
theorem notB_pre {regs : Int} {l : List Int} {k : Nat} (h : notB regs (l.take k) = false) : notB regs l = false := by
  rw [notB, Bool.and_eq_false_iff] at h ⊢
  rcases h with h | h
  · left
    rw [Bool.eq_false_iff] at h ⊢
    intro h2
    apply h
    rw [List.all_eq_true] at h2 ⊢
    exact fun x hx => h2 x (List.mem_of_mem_take hx)
  · exact .inr (asc_pre h)
set_option maxRecDepth 100000 in
set_option linter.unusedSimpArgs false in
theorem validNot_any (B : Nat) (m : RM) (sv : Value) (a : Option Addr) (cap : Nat) (xs : List Int) (w : World) (h : Rd B w a xs.length cap 1 (ints xs)) :
    Calls Try.prog 42 #[machV m sv, .slice a xs.length cap] w fun e w' => e = .returned (.bool (notB m.regs xs)) ∧ Frm [] w w' := by
  have l1 := h.lt
  obtain ⟨R, hR⟩ : ∃ R, notB m.regs xs = R := ⟨_, rfl⟩
  rw [hR]
  have HR := Lib.hid hR
  have H := Lib.hid h
  obtain ⟨regs, data, plain, states⟩ := m
  unfold machV
  clear h hR
  go_enter Try.func42, Try.ntmps42
  go_wp2_with fail
  obtain ⟨B0, hB0⟩ : ∃ B0, B0 = w.heap.size := ⟨_, rfl⟩
  rw [← hB0]
  have HB0 := Lib.hid hB0
  clear hB0
  go_loopg [9] xs.length (fun q i wr => ∃ (k : Nat), q = xs.length - k ∧ k ≤ xs.length ∧ i = .int .i64 k ∧ notB regs (xs.take k) = true ∧ Frm [] w wr ∧ wr.cell? ⟨B0, 0, none⟩ = some (.int .i64 regs))
  case atStart => exact ⟨0, rfl, Nat.zero_le _, rfl, rfl, (Frm.refl [] w).alloc _, by rw [HB0.out]; exact (RowAt.made w _ [.int .i64 regs] _ rfl).cell rfl⟩
  case round =>
    obtain ⟨k, rfl, hk, rfl, hd, hF, hc⟩ := hrel
    have HF := Lib.hid hF
    have i4 : (0 : Int) ≤ (k : Int) := by omega
    clear hF
    by_cases hlt : k < xs.length
    · have i5 : (k : Int) < (xs.length : Int) := by omega
      obtain ⟨r, hr⟩ : ∃ r, xs[k]? = some r := ⟨_, List.getElem?_eq_getElem hlt⟩
      have hs := notB_snoc regs hr
      rw [hd, Bool.true_and] at hs
      obtain ⟨g, o, rfl, _, c1⟩ := H.out.at hr
      have d1 := HF.out.cell c1 (by simp)
      have hbl := below_any r regs wr
      have HC := Lib.hid hc
      cases hb : belowB r regs with
      | false =>
        rw [hb] at hbl hs
        rw [Bool.false_and] at hs
        have HX : Hid (R = false) := Lib.hid (by rw [← HR.out]; exact notB_pre hs)
        clear hb hs hd hr
        go_wp2_with fail
        refine hbl.mono ?_
        rintro e1 w1 ⟨rfl, rfl⟩
        go_wp2_with fail
        go_ret
        exact ⟨by rw [HX.out]; rfl, HF.out⟩
      | true =>
        rw [hb] at hbl hs
        rw [Bool.true_and] at hs
        cases k with
        | zero =>
          have HS := Lib.hid hs
          rw [Nat.add_zero] at d1
          clear hb hs hd hr c1
          go_wp2_with fail
          refine hbl.mono ?_
          rintro e1 w1 ⟨rfl, rfl⟩
          go_wp2_with fail
          go_roundg (xs.length - (0 + 1))
          case rel => exact ⟨1, rfl, by omega, by first | rfl | go_num, HS.out, HF.out, HC.out⟩
          case measure => omega
        | succ j =>
          obtain ⟨p, hp⟩ : ∃ p, xs[j]? = some p := ⟨_, List.getElem?_eq_getElem (by omega)⟩
          obtain ⟨g', o', e9, _, c2⟩ := H.out.at hp
          cases e9
          have d2 := HF.out.cell c2 (by simp)
          simp only [hp, Option.getD_some] at hs
          have i3 : IntKind.i64.wrap (((j + 1 : Nat) : Int) - 1) = (j : Int) := by rw [IntWalk.i64_in _ (by omega)]; omega
          have i2 : (0 : Int) ≤ (j : Int) := by omega
          have i6 : (j : Int) < (xs.length : Int) := by omega
          have i7 : (0 : Int) < ((j + 1 : Nat) : Int) := by omega
          clear c1 c2 hb hd hr hp
          by_cases hpr : p < r
          · have hpr2 : ¬ r ≤ p := by omega
            rw [decide_eq_true hpr] at hs
            have HS := Lib.hid hs
            clear hs
            generalize hj1 : j + 1 = j1 at *
            go_wp2_with fail
            refine hbl.mono ?_
            rintro e1 w1 ⟨rfl, rfl⟩
            go_wp2_with fail
            go_roundg (xs.length - (j1 + 1))
            case rel => exact ⟨j1 + 1, rfl, by omega, by first | rfl | go_num, HS.out, HF.out, HC.out⟩
            case measure => omega
          · have hpr2 : r ≤ p := by omega
            rw [decide_eq_false hpr] at hs
            have HX : Hid (R = false) := Lib.hid (by rw [← HR.out]; exact notB_pre hs)
            clear hs hpr
            generalize hj1 : j + 1 = j1 at *
            go_wp2_with fail
            refine hbl.mono ?_
            rintro e1 w1 ⟨rfl, rfl⟩
            go_wp2_with fail
            go_ret
            exact ⟨by rw [HX.out]; rfl, HF.out⟩
    · have i5 : ¬ (k : Int) < (xs.length : Int) := by omega
      have HT : Hid (R = true) := Lib.hid (by rw [← HR.out, ← hd, List.take_of_length_le (by omega)])
      clear hd
      go_wp2_with fail
      go_ret
      exact ⟨by rw [HT.out]; rfl, HF.out⟩

end Go.Proofs.Ytfndgiinniibfaa.Ind
