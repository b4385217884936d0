/- Texts K1, K2, K3. -/
import Derived.Test.YtdknbgejhhoaiaaGreatQ04
import Derived.Shelf.Abstract
import Derived.Deep.DeepCutAuto
/- Lists of integers: below, Equal, Ints, Has, Index, Contains, IndexFunc, ContainsFunc, Rising, Compare, Or. -/
namespace Go.Proofs.YtdknbgejhhoaiaaGreat.Ind
open Go.Shelf
open Go.RowKit

theorem ret_bool {x y : Bool} (h : x = y) : Ending.returned (.bool x) = .returned (.bool y) := by rw [h]
theorem ret_int {a b : Int} (h : a = b) : Ending.returned (.int .i64 a) = .returned (.int .i64 b) := by rw [h]
theorem drop_cons {α : Type} {l : List α} {i : Nat} {x : α} (h : l[i]? = some x) : l.drop i = x :: l.drop (i + 1) := drop_get h
def IdxP (b : Bool) (v : Int) : Prop := (b = true → 0 ≤ v) ∧ (b = false → v = -1)

theorem below_any (n limit : Int) (w : World) : Calls Tryz.prog 45 #[.int .i64 n, .int .i64 limit] w fun e w' => e = .returned (.bool (belowB n limit)) ∧ w' = w := by
  by_cases h1 : 0 ≤ n
  · by_cases h2 : n < limit
    · have hb : belowB n limit = true := by simp [belowB, h1, h2]
      rw [hb]
      clear hb
      go_enter Tryz.func45, Tryz.ntmps45
      go_wp2_with fail
      go_ret
      exact ⟨rfl, rfl⟩
    · have hb : belowB n limit = false := by simp [belowB, h2]
      rw [hb]
      clear hb
      go_enter Tryz.func45, Tryz.ntmps45
      go_wp2_with fail
      go_ret
      exact ⟨rfl, rfl⟩
  · have hb : belowB n limit = false := by simp [belowB, h1]
    rw [hb]
    clear hb
    go_enter Tryz.func45, Tryz.ntmps45
    go_wp2_with fail
    go_ret
    exact ⟨rfl, rfl⟩

set_option maxRecDepth 100000 in
theorem equal_any (B : Nat) (a b : Option Addr) (ca cb : Nat) (xs ys : List Int) (w : World) (h1 : Rd B w a xs.length ca 1 (ints xs)) (h2 : Rd B w b ys.length cb 1 (ints ys)) :
    Calls Tryz.prog 67 #[.slice a xs.length ca, .slice b ys.length cb] w fun e w' => e = .returned (.bool (decide (xs = ys))) ∧ Frm [] w w' := by
  have l1 := h1.lt
  have l2 := h2.lt
  have H1 := Lib.hid h1
  have H2 := Lib.hid h2
  clear h1 h2
  by_cases hl : xs.length = ys.length
  · have HL := Lib.hid hl
    have e0 : ((xs.length : Int) == (ys.length : Int)) = true := by simp [hl]
    have e1 : (xs.length : Int) = (ys.length : Int) := by omega
    clear hl
    go_enter Tryz.func67, Tryz.ntmps67
    go_wp2_with fail
    go_loopg [13] xs.length (fun q i wr => ∃ (k : Nat), q = xs.length - k ∧ k ≤ xs.length ∧ i = .int .i64 k ∧ decide (xs = ys) = decide (xs.drop k = ys.drop k) ∧ Frm [] w wr)
    case atStart => exact ⟨0, rfl, Nat.zero_le _, rfl, by simp, Frm.refl _ _⟩
    case round =>
      obtain ⟨k, rfl, hk, rfl, hd, hF⟩ := hrel
      have HD := Lib.hid hd
      have HF := Lib.hid hF
      have i4 : (0 : Int) ≤ (k : Int) := by omega
      clear hd hF
      by_cases hlt : k < xs.length
      · have i5 : (k : Int) < (xs.length : Int) := by omega
        have i6 : (k : Int) < (ys.length : Int) := by have := HL.out; omega
        obtain ⟨x, hx⟩ : ∃ x, xs[k]? = some x := ⟨_, List.getElem?_eq_getElem hlt⟩
        obtain ⟨y, hy⟩ : ∃ y, ys[k]? = some y := ⟨_, List.getElem?_eq_getElem (by have := HL.out; omega)⟩
        have hdx := drop_cons hx
        have hdy := drop_cons hy
        obtain ⟨g, o, rfl, _, c1⟩ := H1.out.at hx
        obtain ⟨g', o', rfl, _, c2⟩ := H2.out.at hy
        have d1 := HF.out.cell c1 (by simp)
        have d2 := HF.out.cell c2 (by simp)
        have HDX := Lib.hid hdx
        have HDY := Lib.hid hdy
        clear hx hy hdx hdy c1 c2
        by_cases hxy : x = y
        · subst hxy
          go_wp2_with fail
          go_quiet (fail)
          go_wp2_with fail
          go_roundg (xs.length - (k + 1))
          case rel => exact ⟨k + 1, rfl, by omega, by go_num, by rw [HD.out, HDX.out, HDY.out]; simp, HF.out.drewN _⟩
          case measure => omega
        · have hne : (x == y) = false := by simpa using hxy
          have HR : Hid (decide (xs = ys) = false) := Lib.hid (by rw [HD.out, HDX.out, HDY.out]; simp [hxy])
          go_wp2_with fail
          go_quiet (fail)
          go_wp2_with fail
          go_ret
          exact ⟨by rw [HR.out]; rfl, HF.out.drewN _⟩
      · have i5 : ¬ (k : Int) < (xs.length : Int) := by omega
        have HR : Hid (decide (xs = ys) = true) := Lib.hid (by rw [HD.out, List.drop_eq_nil_of_le (by omega), List.drop_eq_nil_of_le (by have := HL.out; omega)]; simp)
        go_wp2_with fail
        go_ret
        exact ⟨by rw [HR.out]; rfl, HF.out⟩
  · have e0 : ((xs.length : Int) == (ys.length : Int)) = false := by simp; omega
    have e1 : ¬ (xs.length : Int) = (ys.length : Int) := by omega
    have HR : Hid (decide (xs = ys) = false) := Lib.hid (by simp; rintro rfl; exact hl rfl)
    clear hl
    go_enter Tryz.func67, Tryz.ntmps67
    go_wp2_with fail
    go_ret
    exact ⟨by rw [HR.out]; rfl, Frm.refl _ _⟩

def hasB (xs : List Int) (x : Int) : Bool := xs.any fun y => decide (y = x)
set_option maxRecDepth 100000 in
theorem has_any (B : Nat) (a : Option Addr) (cap : Nat) (xs : List Int) (x : Int) (w : World) (h : Rd B w a xs.length cap 1 (ints xs)) :
    Calls Tryz.prog 26 #[.slice a xs.length cap, .int .i64 x] w fun e w' => e = .returned (.bool (hasB xs x)) ∧ Frm [] w w' := by
  have l1 := h.lt
  obtain ⟨R, hR⟩ : ∃ R, hasB xs x = R := ⟨_, rfl⟩
  rw [hR]
  have H := Lib.hid h
  clear h
  go_enter Tryz.func26, Tryz.ntmps26
  go_wp2_with fail
  go_loopg [5] xs.length (fun q i wr => ∃ (k : Nat), q = xs.length - k ∧ k ≤ xs.length ∧ i = .int .i64 k ∧ hasB (xs.drop k) x = R ∧ Frm [] w wr)
  case atStart => exact ⟨0, rfl, Nat.zero_le _, rfl, hR, Frm.refl _ _⟩
  case round =>
    clear hR
    obtain ⟨k, rfl, hk, rfl, hd, hF⟩ := hrel
    have HF := Lib.hid hF
    have i4 : (0 : Int) ≤ (k : Int) := by omega
    clear hF
    by_cases hlt : k < xs.length
    · have i5 : (k : Int) < (xs.length : Int) := by omega
      obtain ⟨y, hy⟩ : ∃ y, xs[k]? = some y := ⟨_, List.getElem?_eq_getElem hlt⟩
      rw [drop_cons hy, hasB, List.any_cons] at hd
      obtain ⟨g, o, rfl, _, c1⟩ := H.out.at hy
      have d1 := HF.out.cell c1 (by simp)
      clear c1 hy
      by_cases hxy : y = x
      · subst hxy
        have HD : Hid (R = true) := Lib.hid (by rw [← hd]; simp)
        clear hd
        go_wp2_with fail
        go_ret
        exact ⟨by rw [HD.out]; rfl, HF.out⟩
      · have hne : (y == x) = false := by simpa using hxy
        rw [decide_eq_false hxy, Bool.false_or] at hd
        have HD := Lib.hid hd
        clear hd hxy
        go_wp2_with fail
        go_roundg (xs.length - (k + 1))
        case rel => exact ⟨k + 1, rfl, by omega, by go_num, HD.out, HF.out⟩
        case measure => omega
    · have i5 : ¬ (k : Int) < (xs.length : Int) := by omega
      have HR : Hid (R = false) := Lib.hid (by rw [← hd, List.drop_eq_nil_of_le (by omega)]; rfl)
      clear hd
      go_wp2_with fail
      go_ret
      exact ⟨by rw [HR.out]; rfl, HF.out⟩

set_option maxRecDepth 100000 in
theorem index_any (B : Nat) (a : Option Addr) (cap : Nat) (xs : List Int) (x : Int) (w : World) (h : Rd B w a xs.length cap 1 (ints xs)) :
    Calls Tryz.prog 116 #[.slice a xs.length cap, .int .i64 x] w fun e w' => (∃ v : Int, e = .returned (.int .i64 v) ∧ IdxP (hasB xs x) v) ∧ Frm [] w w' := by
  have l1 := h.lt
  obtain ⟨R, hR⟩ : ∃ R, hasB xs x = R := ⟨_, rfl⟩
  rw [hR]
  have H := Lib.hid h
  clear h
  go_enter Tryz.func116, Tryz.ntmps116
  go_wp2_with fail
  go_loopg [8] xs.length (fun q i wr => ∃ (k : Nat), q = xs.length - k ∧ k ≤ xs.length ∧ i = .int .i64 k ∧ hasB (xs.drop k) x = R ∧ Frm [] w wr)
  case atStart => exact ⟨0, rfl, Nat.zero_le _, rfl, hR, Frm.refl _ _⟩
  case round =>
    clear hR
    obtain ⟨k, rfl, hk, rfl, hd, hF⟩ := hrel
    have HF := Lib.hid hF
    have i4 : (0 : Int) ≤ (k : Int) := by omega
    clear hF
    by_cases hlt : k < xs.length
    · have i5 : (k : Int) < (xs.length : Int) := by omega
      obtain ⟨y, hy⟩ : ∃ y, xs[k]? = some y := ⟨_, List.getElem?_eq_getElem hlt⟩
      rw [drop_cons hy, hasB, List.any_cons] at hd
      obtain ⟨g, o, rfl, _, c1⟩ := H.out.at hy
      have d1 := HF.out.cell c1 (by simp)
      clear c1 hy
      by_cases hxy : y = x
      · subst hxy
        have HD : Hid (R = true) := Lib.hid (by rw [← hd]; simp)
        clear hd
        go_wp2_with fail
        go_ret
        exact ⟨⟨_, rfl, by rw [HD.out]; exact ⟨(fun _ => by omega), (fun h9 => by cases h9)⟩⟩, HF.out⟩
      · have hne : (x == y) = false := by simpa using Ne.symm hxy
        rw [decide_eq_false hxy, Bool.false_or] at hd
        have HD := Lib.hid hd
        clear hd hxy
        go_wp2_with fail
        go_roundg (xs.length - (k + 1))
        case rel => exact ⟨k + 1, rfl, by omega, by go_num, HD.out, HF.out⟩
        case measure => omega
    · have i5 : ¬ (k : Int) < (xs.length : Int) := by omega
      have HR : Hid (R = false) := Lib.hid (by rw [← hd, List.drop_eq_nil_of_le (by omega)]; rfl)
      clear hd
      go_wp2_with fail
      go_ret
      exact ⟨⟨-1, rfl, by rw [HR.out]; exact ⟨(fun h9 => by cases h9), fun _ => rfl⟩⟩, HF.out⟩

theorem contains_any (B : Nat) (a : Option Addr) (cap : Nat) (xs : List Int) (x : Int) (w : World) (h : Rd B w a xs.length cap 1 (ints xs)) :
    Calls Tryz.prog 112 #[.slice a xs.length cap, .int .i64 x] w fun e w' => e = .returned (.bool (hasB xs x)) ∧ Frm [] w w' := by
  have hi := index_any B a cap xs x w h
  have HI := Lib.hid hi
  clear hi h
  go_enter Tryz.func112, Tryz.ntmps112
  go_wp2_with fail
  refine HI.out.mono ?_
  rintro e1 w1 ⟨⟨v, rfl, hv⟩, hf1⟩
  obtain ⟨h1, h2⟩ := hv
  cases hr : hasB xs x with
  | true =>
    have h3 := h1 hr
    have HR := Lib.hid hr
    clear h1 h2 hr HI
    go_wp2_with fail
    go_ret
    exact ⟨ret_bool (by rw [HR.out]), hf1⟩
  | false =>
    have h3 := h2 hr
    subst h3
    have HR := Lib.hid hr
    clear h1 h2 hr HI
    go_wp2_with fail
    go_ret
    exact ⟨ret_bool (by rw [HR.out]), hf1⟩


set_option maxRecDepth 100000 in
theorem rising_any (B : Nat) (a : Option Addr) (cap : Nat) (xs : List Int) (w : World) (h : Rd B w a xs.length cap 1 (ints xs)) :
    Calls Tryz.prog 72 #[.slice a xs.length cap] w fun e w' => e = .returned (.bool (ascB xs)) ∧ Frm [] w w' := by
  have l1 := h.lt
  obtain ⟨R, hR⟩ : ∃ R, ascB xs = R := ⟨_, rfl⟩
  rw [hR]
  have H := Lib.hid h
  clear h
  go_enter Tryz.func72, Tryz.ntmps72
  go_wp2_with fail
  go_loopg [3] xs.length (fun q i wr => ∃ (k : Nat), q = xs.length - k ∧ i = .int .i64 ((k + 1 : Nat) : Int) ∧ k ≤ xs.length ∧ ascB (xs.drop k) = R ∧ Frm [] w wr)
  case atStart => exact ⟨0, rfl, rfl, Nat.zero_le _, hR, Frm.refl _ _⟩
  case round =>
    clear hR
    obtain ⟨k, rfl, rfl, hk, hd, hF⟩ := hrel
    have HF := Lib.hid hF
    have i4 : (0 : Int) ≤ ((k + 1 : Nat) : Int) := by omega
    have i3 : IntKind.i64.wrap (((k + 1 : Nat) : Int) - 1) = (k : Int) := by rw [IntWalk.i64_in _ (by omega)]; omega
    have i2 : (0 : Int) ≤ (k : Int) := by omega
    clear hF
    by_cases hlt : k + 1 < xs.length
    · have i5 : ((k + 1 : Nat) : Int) < (xs.length : Int) := by omega
      have i6 : (k : Int) < (xs.length : Int) := by omega
      obtain ⟨x, hx⟩ : ∃ x, xs[k]? = some x := ⟨_, List.getElem?_eq_getElem (by omega)⟩
      obtain ⟨y, hy⟩ : ∃ y, xs[k + 1]? = some y := ⟨_, List.getElem?_eq_getElem hlt⟩
      rw [drop_cons hx, drop_cons hy, ascB] at hd
      obtain ⟨g, o, rfl, _, c1⟩ := H.out.at hx
      obtain ⟨g', o', e9, _, c2⟩ := H.out.at hy
      cases e9
      have d1 := HF.out.cell c1 (by simp)
      have d2 := HF.out.cell c2 (by simp)
      clear c1 c2
      by_cases hxy : x < y
      · have hxy2 : ¬ y ≤ x := by omega
        rw [decide_eq_true hxy, Bool.true_and, ← drop_cons hy] at hd
        have HD := Lib.hid hd
        clear hd hx hy
        generalize hk1 : k + 1 = k1 at *
        go_wp2_with fail
        go_quiet (fail)
        go_wp2_with fail
        go_roundg (xs.length - k1)
        case rel => exact ⟨k1, rfl, by first | rfl | go_num, by omega, HD.out, HF.out.drewN _⟩
        case measure => omega
      · have hxy2 : y ≤ x := by omega
        rw [decide_eq_false hxy, Bool.false_and] at hd
        have HD := Lib.hid hd
        clear hd hx hy hxy
        generalize hk1 : k + 1 = k1 at *
        go_wp2_with fail
        go_quiet (fail)
        go_wp2_with fail
        go_ret
        exact ⟨by rw [← HD.out]; rfl, HF.out.drewN _⟩
    · have i5 : ¬ ((k + 1 : Nat) : Int) < (xs.length : Int) := by omega
      have HR : Hid (R = true) := Lib.hid (by
        rw [← hd]
        have hl : (xs.drop k).length ≤ 1 := by rw [List.length_drop]; omega
        match xs.drop k, hl with
        | [], _ => rfl
        | [_], _ => rfl)
      clear hd
      go_wp2_with fail
      go_ret
      exact ⟨by rw [HR.out]; rfl, HF.out⟩

end Go.Proofs.YtdknbgejhhoaiaaGreat.Ind

/- Contracts of same (two arcs), validNot. -/
namespace Go.Proofs.YtdknbgejhhoaiaaGreat.Ind
open Go.Shelf
open Go.RowKit

def arcV (v : Value) (a : RA) : Value := .agg #[.int .i64 a.kind, .int .i64 a.ch, .int .i64 a.reg, .int .i64 a.frm, v, .int .i64 a.to]
def sameB (a b : RA) : Bool := a.kind == b.kind && a.ch == b.ch && a.reg == b.reg && a.frm == b.frm && a.to == b.to && decide (a.not = b.not)
theorem sameB_iff {a b : RA} : sameB a b = true ↔ a = b := by
  cases a; cases b
  simp [sameB]
  constructor
  · rintro ⟨⟨⟨⟨⟨h1, h2⟩, h3⟩, h4⟩, h5⟩, h6⟩
    exact ⟨h1, h2, h3, h4, h6, h5⟩
  · rintro ⟨h1, h2, h3, h4, h5, h6⟩
    exact ⟨⟨⟨⟨⟨h1, h2⟩, h3⟩, h4⟩, h6⟩, h5⟩
/-- A value of an arc whose list can be read. -/
def NotAt (w : World) (F : List Nat) (v : Value) (a : RA) : Prop := RowV w F v a.not.length 1 (ints a.not)

set_option maxRecDepth 100000 in
set_option linter.unusedSimpArgs false in
theorem same_any {F G : List Nat} (w : World) (u v : Value) (a b : RA) (hu : NotAt w F u a) (hv : NotAt w G v b) :
    Calls Tryz.prog 70 #[arcV u a, arcV v b] w fun e w' => e = .returned (.bool (sameB a b)) ∧ Frm [] w w' := by
  obtain ⟨a1, c1, rfl⟩ := hu.shape
  obtain ⟨a2, c2, rfl⟩ := hv.shape
  obtain ⟨R, hR⟩ : ∃ R, sameB a b = R := ⟨_, rfl⟩
  rw [hR]
  rw [sameB] at hR
  obtain ⟨kind, ch, reg, frm, not, tgt⟩ := a
  obtain ⟨kind', ch', reg', frm', not', tgt'⟩ := b
  have hu1 := hu.rd
  have hv1 := hv.rd
  simp only at hR hu1 hv1
  clear hu hv
  have HU := Lib.hid hu1
  have HV := Lib.hid hv1
  clear hu1 hv1
  unfold arcV
  cases h0 : (kind == kind')
  · rw [h0] at hR
    simp only [Bool.false_and, Bool.and_false] at hR
    subst hR
    go_enter Tryz.func70, Tryz.ntmps70
    go_wp2_with fail
    go_ret
    exact ⟨rfl, (Frm.refl [] w).alloc _ |>.alloc _⟩
  · rw [h0] at hR
    cases h1 : (ch == ch')
    · rw [h1] at hR
      simp only [Bool.false_and, Bool.and_false] at hR
      subst hR
      go_enter Tryz.func70, Tryz.ntmps70
      go_wp2_with fail
      go_ret
      exact ⟨rfl, (Frm.refl [] w).alloc _ |>.alloc _⟩
    · rw [h1] at hR
      cases h2 : (reg == reg')
      · rw [h2] at hR
        simp only [Bool.false_and, Bool.and_false] at hR
        subst hR
        go_enter Tryz.func70, Tryz.ntmps70
        go_wp2_with fail
        go_ret
        exact ⟨rfl, (Frm.refl [] w).alloc _ |>.alloc _⟩
      · rw [h2] at hR
        cases h3 : (frm == frm')
        · rw [h3] at hR
          simp only [Bool.false_and, Bool.and_false] at hR
          subst hR
          go_enter Tryz.func70, Tryz.ntmps70
          go_wp2_with fail
          go_ret
          exact ⟨rfl, (Frm.refl [] w).alloc _ |>.alloc _⟩
        · rw [h3] at hR
          cases h4 : (tgt == tgt')
          · rw [h4] at hR
            simp only [Bool.false_and, Bool.and_false] at hR
            subst hR
            go_enter Tryz.func70, Tryz.ntmps70
            go_wp2_with fail
            go_ret
            exact ⟨rfl, (Frm.refl [] w).alloc _ |>.alloc _⟩
          · rw [h4] at hR
            simp only [Bool.true_and] at hR
            have HR := Lib.hid hR
            clear hR
            go_enter Tryz.func70, Tryz.ntmps70
            go_wp2_with fail
            refine (equal_any _ a1 a2 c1 c2 not not' _ (HU.out.nil ((Frm.refl [] w).alloc _ |>.alloc _)) (HV.out.nil ((Frm.refl [] w).alloc _ |>.alloc _))).mono ?_
            rintro e1 w1 ⟨rfl, hf1⟩
            go_wp2_with fail
            go_ret
            exact ⟨ret_bool HR.out, ((Frm.refl [] w).alloc _ |>.alloc _).trans hf1 (by simp)⟩


theorem notB_snoc (regs : Int) : ∀ {l : List Int} {k : Nat} {r : Int}, l[k]? = some r → notB regs (l.take (k + 1)) = (notB regs (l.take k) && (belowB r regs && match k with | 0 => true | j + 1 => decide ((l[j]?).getD 0 < r))) := by
  intro l k r h
  have hasc : ∀ (l : List Int) (k : Nat) (r : Int), l[k]? = some r → ascB (l.take (k + 1)) = (ascB (l.take k) && match k with | 0 => true | j + 1 => decide ((l[j]?).getD 0 < r)) := by
    intro l
    induction l with
    | nil => intro k r h; simp at h
    | cons a t ih =>
      intro k r h
      cases k with
      | zero => simp [ascB]
      | succ k =>
        rw [List.getElem?_cons_succ] at h
        cases t with
        | nil => simp at h
        | cons b t =>
          have := ih k r h
          rw [List.take_succ_cons] at this ⊢
          rw [List.take_succ_cons, ascB, this]
          cases k with
          | zero =>
            simp at h
            simp [ascB, h]
          | succ k =>
            show _ = ((decide (a < b) && ascB (b :: List.take k t)) && _)
            rw [Bool.and_assoc, List.take_succ_cons]
            rfl
  rw [notB, notB, hasc l k r h, List.take_add_one, h]
  simp only [Option.toList_some, List.all_append, List.all_cons, List.all_nil, Bool.and_true]
  cases (l.take k).all fun r => belowB r regs <;> cases belowB r regs <;> simp

theorem asc_pre : ∀ {l : List Int} {k : Nat}, ascB (l.take k) = false → ascB l = false
  | [], k, h => by simp [ascB] at h
  | [a], 0, h => by simp [ascB] at h
  | [a], k + 1, h => by simpa using h
  | a :: b :: r, 0, h => by simp [ascB] at h
  | a :: b :: r, 1, h => by simp [ascB] at h
  | a :: b :: r, k + 2, h => by
    rw [List.take_succ_cons, List.take_succ_cons, ascB, Bool.and_eq_false_iff] at h
    rw [ascB, Bool.and_eq_false_iff]
    rcases h with h | h
    · exact .inl h
    · exact .inr (asc_pre (k := k + 1) (by rw [List.take_succ_cons]; exact h))
theorem notB_pre {regs : Int} {l : List Int} {k : Nat} (h : notB regs (l.take k) = false) : notB regs l = false := by
  rw [notB, Bool.and_eq_false_iff] at h ⊢
  rcases h with h | h
  · left
    rw [Bool.eq_false_iff] at h ⊢
    intro h2
    apply h
    rw [List.all_eq_true] at h2 ⊢
    exact fun x hx => h2 x (List.mem_of_mem_take hx)
  · exact .inr (asc_pre h)
set_option maxRecDepth 100000 in
set_option linter.unusedSimpArgs false in
theorem validNot_any (B : Nat) (m : RM) (sv : Value) (a : Option Addr) (cap : Nat) (xs : List Int) (w : World) (h : Rd B w a xs.length cap 1 (ints xs)) :
    Calls Tryz.prog 69 #[machV m sv, .slice a xs.length cap] w fun e w' => e = .returned (.bool (notB m.regs xs)) ∧ Frm [] w w' := by
  have l1 := h.lt
  obtain ⟨R, hR⟩ : ∃ R, notB m.regs xs = R := ⟨_, rfl⟩
  rw [hR]
  have HR := Lib.hid hR
  have H := Lib.hid h
  obtain ⟨regs, data, plain, states⟩ := m
  unfold machV
  clear h hR
  go_enter Tryz.func69, Tryz.ntmps69
  go_wp2_with fail
  obtain ⟨B0, hB0⟩ : ∃ B0, B0 = w.heap.size := ⟨_, rfl⟩
  rw [← hB0]
  have HB0 := Lib.hid hB0
  clear hB0
  go_loopg [9] xs.length (fun q i wr => ∃ (k : Nat), q = xs.length - k ∧ k ≤ xs.length ∧ i = .int .i64 k ∧ notB regs (xs.take k) = true ∧ Frm [] w wr ∧ wr.cell? ⟨B0, 0, none⟩ = some (.int .i64 regs))
  case atStart => exact ⟨0, rfl, Nat.zero_le _, rfl, rfl, (Frm.refl [] w).alloc _, by rw [HB0.out]; exact (RowAt.made w _ [.int .i64 regs] _ rfl).cell rfl⟩
  case round =>
    obtain ⟨k, rfl, hk, rfl, hd, hF, hc⟩ := hrel
    have HF := Lib.hid hF
    have i4 : (0 : Int) ≤ (k : Int) := by omega
    clear hF
    by_cases hlt : k < xs.length
    · have i5 : (k : Int) < (xs.length : Int) := by omega
      obtain ⟨r, hr⟩ : ∃ r, xs[k]? = some r := ⟨_, List.getElem?_eq_getElem hlt⟩
      have hs := notB_snoc regs hr
      rw [hd, Bool.true_and] at hs
      obtain ⟨g, o, rfl, _, c1⟩ := H.out.at hr
      have d1 := HF.out.cell c1 (by simp)
      have hbl := below_any r regs wr
      have HC := Lib.hid hc
      cases hb : belowB r regs with
      | false =>
        rw [hb] at hbl hs
        rw [Bool.false_and] at hs
        have HX : Hid (R = false) := Lib.hid (by rw [← HR.out]; exact notB_pre hs)
        clear hb hs hd hr
        go_wp2_with fail
        refine hbl.mono ?_
        rintro e1 w1 ⟨rfl, rfl⟩
        go_wp2_with fail
        go_ret
        exact ⟨by rw [HX.out]; rfl, HF.out⟩
      | true =>
        rw [hb] at hbl hs
        rw [Bool.true_and] at hs
        cases k with
        | zero =>
          have HS := Lib.hid hs
          rw [Nat.add_zero] at d1
          clear hb hs hd hr c1
          go_wp2_with fail
          refine hbl.mono ?_
          rintro e1 w1 ⟨rfl, rfl⟩
          go_wp2_with fail
          go_roundg (xs.length - (0 + 1))
          case rel => exact ⟨1, rfl, by omega, by first | rfl | go_num, HS.out, HF.out, HC.out⟩
          case measure => omega
        | succ j =>
          obtain ⟨p, hp⟩ : ∃ p, xs[j]? = some p := ⟨_, List.getElem?_eq_getElem (by omega)⟩
          obtain ⟨g', o', e9, _, c2⟩ := H.out.at hp
          cases e9
          have d2 := HF.out.cell c2 (by simp)
          simp only [hp, Option.getD_some] at hs
          have i3 : IntKind.i64.wrap (((j + 1 : Nat) : Int) - 1) = (j : Int) := by rw [IntWalk.i64_in _ (by omega)]; omega
          have i2 : (0 : Int) ≤ (j : Int) := by omega
          have i6 : (j : Int) < (xs.length : Int) := by omega
          have i7 : (0 : Int) < ((j + 1 : Nat) : Int) := by omega
          clear c1 c2 hb hd hr hp
          by_cases hpr : p < r
          · have hpr2 : ¬ r ≤ p := by omega
            rw [decide_eq_true hpr] at hs
            have HS := Lib.hid hs
            clear hs
            generalize hj1 : j + 1 = j1 at *
            go_wp2_with fail
            refine hbl.mono ?_
            rintro e1 w1 ⟨rfl, rfl⟩
            go_wp2_with fail
            go_roundg (xs.length - (j1 + 1))
            case rel => exact ⟨j1 + 1, rfl, by omega, by first | rfl | go_num, HS.out, HF.out, HC.out⟩
            case measure => omega
          · have hpr2 : r ≤ p := by omega
            rw [decide_eq_false hpr] at hs
            have HX : Hid (R = false) := Lib.hid (by rw [← HR.out]; exact notB_pre hs)
            clear hs hpr
            generalize hj1 : j + 1 = j1 at *
            go_wp2_with fail
            refine hbl.mono ?_
            rintro e1 w1 ⟨rfl, rfl⟩
            go_wp2_with fail
            go_ret
            exact ⟨by rw [HX.out]; rfl, HF.out⟩
    · have i5 : ¬ (k : Int) < (xs.length : Int) := by omega
      have HT : Hid (R = true) := Lib.hid (by rw [← HR.out, ← hd, List.take_of_length_le (by omega)])
      clear hd
      go_wp2_with fail
      go_ret
      exact ⟨by rw [HT.out]; rfl, HF.out⟩

end Go.Proofs.YtdknbgejhhoaiaaGreat.Ind

/- Contract of validArc. -/
namespace Go.Proofs.YtdknbgejhhoaiaaGreat.Ind
open Go.Shelf
open Go.RowKit

def unusedA (a : RA) : RA :=
  if a.kind = 3 then ⟨a.kind, a.ch, 0, 0, [], a.to⟩
  else if a.kind = 4 then ⟨a.kind, a.ch, a.reg, 0, a.not, a.to⟩
  else if a.kind = 5 then ⟨a.kind, a.ch, a.reg, 0, [], a.to⟩
  else if a.kind = 6 then ⟨a.kind, 0, a.reg, 0, [], a.to⟩
  else if a.kind = 7 then ⟨a.kind, 0, a.reg, a.frm, [], a.to⟩
  else ⟨a.kind, 0, 0, 0, [], a.to⟩
def okB (m : RM) (a : RA) : Bool :=
  if a.kind = 1 ∨ a.kind = 2 then true
  else if a.kind = 3 then belowB a.ch m.plain
  else if a.kind = 4 then belowB a.ch m.data && (a.reg == -1 || belowB a.reg m.regs) && notB m.regs a.not
  else if a.kind = 5 then belowB a.ch m.data && belowB a.reg m.regs
  else if a.kind = 6 then belowB a.reg m.regs
  else if a.kind = 7 then belowB a.reg m.regs && belowB a.frm m.regs
  else false
theorem arcB_ok (m : RM) (a : RA) : arcB m a = (okB m a && sameB a (unusedA a) && belowB a.to m.states.length) := by
  obtain ⟨kind, ch, reg, frm, not, tgt⟩ := a
  rw [Bool.eq_iff_iff]
  simp only [arcB, okB, Bool.and_eq_true, sameB_iff, unusedA, restB]
  by_cases h12 : kind = 1 ∨ kind = 2
  · have h3 : kind ≠ 3 := by omega
    have h4 : kind ≠ 4 := by omega
    have h5 : kind ≠ 5 := by omega
    have h6 : kind ≠ 6 := by omega
    have h7 : kind ≠ 7 := by omega
    simp only [h12, h3, h4, h5, h6, h7, if_true, if_false]
    simp
    grind
  · by_cases h3 : kind = 3
    · subst h3; simp; grind
    · by_cases h4 : kind = 4
      · subst h4; simp; grind
      · by_cases h5 : kind = 5
        · subst h5; simp; grind
        · by_cases h6 : kind = 6
          · subst h6; simp; grind
          · by_cases h7 : kind = 7
            · subst h7; simp; grind
            · simp only [h12, h3, h4, h5, h6, h7, if_false]; simp

/-- A machine's value in a box: what the box shows. -/
theorem box_mach (w : World) (m : RM) (sv : Value) (t : TypeId) : RowAt (w.alloc (.cells #[.int .i64 m.regs, .int .i64 m.data, .int .i64 m.plain, sv] t)) w.heap.size t [.int .i64 m.regs, .int .i64 m.data, .int .i64 m.plain, sv] := RowAt.made w _ _ _ rfl

theorem notAt_nil (w : World) (F : List Nat) (a : RA) (h : a.not = []) : NotAt w F (.slice none 0 0) a := by
  unfold NotAt
  rw [h]
  exact RowV.nil0 w F 1

end Go.Proofs.YtdknbgejhhoaiaaGreat.Ind
