/- Texts A4, A5. -/
import Derived.Test.YtikpcipkkhmcfaaGreatQ04
import Derived.Shelf.Abstract
/- Merged text: GE, GF, GG of the notes. -/
/- Contract of Ints of the reference. -/
namespace Go.Proofs.YtikpcipkkhmcfaaGreat
open Go.RowKit

set_option maxRecDepth 100000 in
theorem ints_same (B : Nat) (a b : Option Addr) (ca cb : Nat) (xs ys : List Int) (w : World) (h1 : Rd B w a xs.length ca 1 (ints xs)) (h2 : Rd B w b ys.length cb 1 (ints ys)) :
    Calls Tryz.prog 34 #[.slice a xs.length ca, .slice b ys.length cb] w fun e w' => e = .returned (.bool (decide (xs = ys))) ∧ Frm [] w w' := by
  have l1 := h1.lt
  have l2 := h2.lt
  have H1 := Lib.hid h1
  have H2 := Lib.hid h2
  clear h1 h2
  by_cases hl : xs.length = ys.length
  · have HL := Lib.hid hl
    have e0 : ((xs.length : Int) == (ys.length : Int)) = true := by simp [hl]
    have e1 : (xs.length : Int) = (ys.length : Int) := by omega
    clear hl
    go_enter Tryz.func34, Tryz.ntmps34
    go_wp2_with fail
    go_loopg [5] xs.length (fun q i wr => ∃ (k : Nat), q = xs.length - k ∧ k ≤ xs.length ∧ i = .int .i64 k ∧ decide (xs = ys) = decide (xs.drop k = ys.drop k) ∧ Frm [] w wr)
    case atStart => exact ⟨0, rfl, Nat.zero_le _, rfl, by simp, Frm.refl _ _⟩
    case round =>
      obtain ⟨k, rfl, hk, rfl, hd, hF⟩ := hrel
      have HD := Lib.hid hd
      have HF := Lib.hid hF
      have i4 : (0 : Int) ≤ (k : Int) := by omega
      clear hd hF
      by_cases hlt : k < xs.length
      · have i5 : (k : Int) < (xs.length : Int) := by omega
        have i6 : (k : Int) < (ys.length : Int) := by have := HL.out; omega
        obtain ⟨x, hx⟩ : ∃ x, xs[k]? = some x := ⟨_, List.getElem?_eq_getElem hlt⟩
        obtain ⟨y, hy⟩ : ∃ y, ys[k]? = some y := ⟨_, List.getElem?_eq_getElem (by have := HL.out; omega)⟩
        have hdx := drop_cons hx
        have hdy := drop_cons hy
        obtain ⟨g, o, rfl, _, c1⟩ := H1.out.at hx
        obtain ⟨g', o', rfl, _, c2⟩ := H2.out.at hy
        have d1 := HF.out.cell c1 (by simp)
        have d2 := HF.out.cell c2 (by simp)
        have HDX := Lib.hid hdx
        have HDY := Lib.hid hdy
        clear hx hy hdx hdy c1 c2
        by_cases hxy : x = y
        · subst hxy
          go_wp2_with fail
          go_quiet (fail)
          go_wp2_with fail
          go_roundg (xs.length - (k + 1))
          case rel => exact ⟨k + 1, rfl, by omega, by go_num, by rw [HD.out, HDX.out, HDY.out]; simp, HF.out.drewN _⟩
          case measure => omega
        · have hne : (x == y) = false := by simpa using hxy
          have HR : Hid (decide (xs = ys) = false) := Lib.hid (by rw [HD.out, HDX.out, HDY.out]; simp [hxy])
          go_wp2_with fail
          go_quiet (fail)
          go_wp2_with fail
          go_ret
          exact ⟨by rw [HR.out]; rfl, HF.out.drewN _⟩
      · have i5 : ¬ (k : Int) < (xs.length : Int) := by omega
        have HR : Hid (decide (xs = ys) = true) := Lib.hid (by rw [HD.out, List.drop_eq_nil_of_le (by omega), List.drop_eq_nil_of_le (by have := HL.out; omega)]; simp)
        go_wp2_with fail
        go_ret
        exact ⟨by rw [HR.out]; rfl, HF.out⟩
  · have e0 : ((xs.length : Int) == (ys.length : Int)) = false := by simp; omega
    have e1 : ¬ (xs.length : Int) = (ys.length : Int) := by omega
    have HR : Hid (decide (xs = ys) = false) := Lib.hid (by simp; rintro rfl; exact hl rfl)
    clear hl
    go_enter Tryz.func34, Tryz.ntmps34
    go_wp2_with fail
    go_ret
    exact ⟨by rw [HR.out]; rfl, Frm.refl _ _⟩

end Go.Proofs.YtikpcipkkhmcfaaGreat

/- Contracts of graph.state, flow.Stable, Has of the reference. -/
namespace Go.Proofs.YtikpcipkkhmcfaaGreat
open Go.RowKit

/-- A row of integers that the call has made (or nil). -/
abbrev OwnI (B : Nat) (w : World) (a : Option Addr) (cap : Nat) (xs : List Int) : Prop := w.ownsRow B 3 1 (.slice a xs.length cap) xs.length (ints xs)

theorem ints_len (xs : List Int) : (ints xs).length = xs.length := by simp [ints]
theorem ints_app (xs ys : List Int) : ints (xs ++ ys) = ints xs ++ ints ys := by simp [ints]
theorem ints_one (xs : List Int) : ∀ u ∈ ints xs, u.oneCell' = true := by
  intro u hu
  simp only [ints, List.mem_map] at hu
  obtain ⟨x, _, rfl⟩ := hu
  rfl
theorem OwnI.rd {B C : Nat} {w : World} {a : Option Addr} {cap : Nat} {xs : List Int} (h : OwnI B w a cap xs) (hc : w.heap.size ≤ C) : Rd C w a xs.length cap 1 (ints xs) := rd_of_owns h hc
theorem OwnI.nil (B : Nat) (w : World) : OwnI B w none 0 [] := ⟨rfl, .inl ⟨rfl, rfl⟩⟩

def inB (n : Nat) (s : Int) : Bool := decide (0 ≤ s) && decide (s < (n : Int))
theorem inB_iff (n : Nat) (s : Int) : inB n s = true ↔ 0 ≤ s ∧ s < (n : Int) := by simp [inB]
theorem inB_false (n : Nat) (s : Int) : inB n s = false ↔ s < 0 ∨ (0 ≤ s ∧ (n : Int) ≤ s) := by
  simp only [inB, Bool.and_eq_false_iff, decide_eq_false_iff_not]
  omega

theorem ret_bool {a b : Bool} (h : a = b) : Ending.returned (.bool a) = .returned (.bool b) := by rw [h]
def stableR (row : List Arc) : Bool := match row with
  | [] => true
  | a :: _ => decide (a.1 ≠ 0)

set_option maxRecDepth 100000 in
theorem fstable_any (B : Nat) (a : Option Addr) (cap : Nat) (l : Lts) (s : Nat) (row : List Arc) (w : World) (h : LAt B w a cap l) (hs : l[s]? = some row) :
    Calls Tryz.prog 114 #[.agg #[.slice a l.length cap], .int .i64 (s : Int)] w fun e w' => e = .returned (.bool (stableR row)) ∧ Frm [] w w' := by
  have f0 : Frm [] w (w.alloc (.cells #[.slice a l.length cap] 25)) := (Frm.refl [] w).alloc _
  have hl := h.lt
  have h' := h.nil f0 rfl
  have hsl : s < l.length := (List.getElem?_eq_some_iff.1 hs).1
  obtain ⟨b, o, ra, rc, rfl, hb, hc, hrr⟩ := h'.cell s row hs
  have i1 : (s : Int) < (l.length : Int) := by omega
  have i2 : (0 : Int) ≤ (s : Int) := by omega
  have hrl := hrr.lt
  cases row with
  | nil =>
    clear h h' hs hrr
    go_enter Tryz.func114, Tryz.ntmps114
    go_wp2
    go_ret
    exact ⟨rfl, f0⟩
  | cons x r =>
    obtain ⟨e, t⟩ := x
    obtain ⟨b1, o1, rfl, hb1, d1, d2⟩ := hrr.2.2.2 0 e t rfl
    have i3 : ((((e, t) :: r).length : Int) == 0) = false := by simp; omega
    have i4 : (0 : Int) < (((e, t) :: r).length : Int) := by simp only [List.length_cons]; omega
    have hn : (((e, t) :: r).length : Int) = (r.length : Int) + 1 := by simp
    rw [hn] at i3 i4 hrl
    simp only [List.length_cons] at hc
    have hst : stableR ((e, t) :: r) = decide (e ≠ 0) := rfl
    obtain ⟨n, hn2⟩ : ∃ n : Nat, r.length + 1 = n := ⟨_, rfl⟩
    have hn3 : (r.length : Int) + 1 = (n : Int) := by omega
    rw [hn2] at hc
    rw [hn3] at i3 i4 hrl
    simp only [Nat.zero_mul, Nat.add_zero] at d1 d2
    rw [hst]
    clear h h' hs hrr hn hst hn3
    by_cases he : e = 0
    · subst he
      go_enter Tryz.func114, Tryz.ntmps114
      go_wp2
      go_ret
      exact ⟨rfl, f0⟩
    · have he2 : (e != 0) = true := by simpa using he
      have HE : Hid (decide (e ≠ 0) = true) := Lib.hid (by simpa using he)
      clear he
      go_enter Tryz.func114, Tryz.ntmps114
      go_wp2
      go_ret
      exact ⟨by rw [HE.out]; rfl, f0⟩

def hasB (xs : List Int) (x : Int) : Bool := xs.any fun y => decide (y = x)

set_option maxRecDepth 100000 in
theorem has_any (B : Nat) (a : Option Addr) (cap : Nat) (xs : List Int) (x : Int) (w : World) (h : Rd B w a xs.length cap 1 (ints xs)) :
    Calls Tryz.prog 107 #[.slice a xs.length cap, .int .i64 x] w fun e w' => e = .returned (.bool (hasB xs x)) ∧ Frm [] w w' := by
  have l1 := h.lt
  obtain ⟨R, hR⟩ : ∃ R, hasB xs x = R := ⟨_, rfl⟩
  rw [hR]
  have H := Lib.hid h
  clear h
  go_enter Tryz.func107, Tryz.ntmps107
  go_wp2_with fail
  go_loopg [5] xs.length (fun q i wr => ∃ (k : Nat), q = xs.length - k ∧ k ≤ xs.length ∧ i = .int .i64 k ∧ hasB (xs.drop k) x = R ∧ Frm [] w wr)
  case atStart => exact ⟨0, rfl, Nat.zero_le _, rfl, hR, Frm.refl _ _⟩
  case round =>
    clear hR
    obtain ⟨k, rfl, hk, rfl, hd, hF⟩ := hrel
    have HF := Lib.hid hF
    have i4 : (0 : Int) ≤ (k : Int) := by omega
    clear hF
    by_cases hlt : k < xs.length
    · have i5 : (k : Int) < (xs.length : Int) := by omega
      obtain ⟨y, hy⟩ : ∃ y, xs[k]? = some y := ⟨_, List.getElem?_eq_getElem hlt⟩
      rw [drop_cons hy, hasB, List.any_cons] at hd
      obtain ⟨g, o, rfl, _, c1⟩ := H.out.at hy
      have d1 := HF.out.cell c1 (by simp)
      clear c1 hy
      by_cases hxy : y = x
      · subst hxy
        have HD : Hid (R = true) := Lib.hid (by rw [← hd]; simp)
        clear hd
        go_wp2_with fail
        go_ret
        exact ⟨by rw [HD.out]; rfl, HF.out⟩
      · have hne : (y == x) = false := by simpa using hxy
        rw [decide_eq_false hxy, Bool.false_or] at hd
        have HD := Lib.hid hd
        clear hd hxy
        go_wp2_with fail
        go_roundg (xs.length - (k + 1))
        case rel => exact ⟨k + 1, rfl, by omega, by go_num, HD.out, HF.out⟩
        case measure => omega
    · have i5 : ¬ (k : Int) < (xs.length : Int) := by omega
      have HR : Hid (R = false) := Lib.hid (by rw [← hd, List.drop_eq_nil_of_le (by omega)]; rfl)
      clear hd
      go_wp2_with fail
      go_ret
      exact ⟨by rw [HR.out]; rfl, HF.out⟩

end Go.Proofs.YtikpcipkkhmcfaaGreat

/- Contracts of flow.Ticks and flow.Initials. -/
namespace Go.Proofs.YtikpcipkkhmcfaaGreat
open Go.RowKit

/-! ### append to a row of integers that the call has made -/
theorem wpl_app_int {w : World} {ops : Array Oper} {rest : List Oper} {o : Oper} {a : Act} {Q : Exit → Act → World → Prop} (hgd : o.guard = none) (s x : Operand)
    (ho : o.op = .call { callee := .builtin .append, args := #[s, x], argTypes := #[22, 22] })
    (B n N : Nat) (v : Value) (xs : List Int) (hs : a.eval s = v) (hown : w.ownsRow B 3 1 v n (ints xs)) (hn : xs.length = n) (ad : Addr) (m c : Nat) (ys : List Int) (hx : a.eval x = .slice (some ad) m c) (hm : ys.length = m)
    (hnews : ∀ (j : Nat) (u : Value), (ints ys)[j]? = some u → w.cell? (ad.add j) = some u) (hN : n + m = N) (hb : N ≤ 1000000000) (hB : B ≤ w.heap.size)
    (h : ∀ a' cp w', w'.ownsRow B 3 1 (.slice a' N cp) N (ints (xs ++ ys)) → (∀ w0 : World, w0.heap.size ≤ B → Frm [] w0 w → Frm [] w0 w') → (∀ fp (w0 : World), (∀ k, v.ownBlock = some k → k ∈ fp ∨ w0.heap.size ≤ k) → Frm fp w0 w → Frm fp w0 w') → wpList Tryz.prog ops Q rest (a.put o.dst (.slice a' N cp)) w') : wpList Tryz.prog ops Q (o :: rest) a w := by
  obtain ⟨i0, hi, hz0, hz1, hz2⟩ := info_parts infoInt
  subst hm hn hN
  refine wpList_append_own w hgd s x 22 ho B 3 i0 (.int .i64 0) 1 8 Tryz.underlying22 hi hz0 hz1 hz2 rfl (by decide) v xs.length (ints xs) hs hown ad ys.length c (ints ys) hx (by simp [ints]) hnews (ints_one ys) (by unfold maxLen; omega) (by omega) hB ?_
  intro v' w' hown' hgr hnew
  rw [← ints_app] at hown'
  obtain ⟨a', cp, rfl, _⟩ := owns_shape (ownsB_mono hown' (Nat.zero_le B))
  exact h a' cp w' hown' (fun w0 h0 hF => hF.grown hgr (fun k hk => .inr (by have := (hown.lt k hk).1; omega))) (fun fp w0 hk hF => hF.grown hgr hk)

theorem cells_new_int (w : World) (x : Int) (t : TypeId) : ∀ (j : Nat) (u : Value), (ints [x])[j]? = some u → (w.alloc (.cells #[.int .i64 x] t)).cell? ((⟨w.heap.size, 0, none⟩ : Addr).add j) = some u := cells_new w [.int .i64 x] t

/-! ### ContainsFunc over a row of arcs -/
def anyA (p : Arc → Bool) (row : List Arc) : Bool := row.any p
def IdxP (b : Bool) (v : Int) : Prop := (b = true → 0 ≤ v) ∧ (b = false → v = -1)
def PredA (g : Nat) (p : Arc → Bool) : Prop := ∀ (W : World) (e t : Int), Calls Tryz.prog g #[.agg #[.int .i64 e, .int .i64 t]] W fun e' w' => e' = .returned (.bool (p (e, t))) ∧ Frm [] W w'

set_option maxRecDepth 100000 in
theorem idxArc_any (B g : Nat) (p : Arc → Bool) (eg : ∀ args w, (callFunc g args).run Tryz.prog w = .ok (.enter g args) w) (hp : PredA g p) (a : Option Addr) (cap : Nat) (row : List Arc) (w : World) (h : RowR B w a cap row) :
    Calls Tryz.prog 158 #[.slice a row.length cap, .func (.func g) #[] #[]] w fun e w' => (∃ v : Int, e = .returned (.int .i64 v) ∧ IdxP (anyA p row) v) ∧ Frm [] w w' := by
  have l1 := h.lt
  have H := Lib.hid h
  have HP := Lib.hid hp
  clear h hp
  go_enter Tryz.func158, Tryz.ntmps158
  go_wp2_with fail
  go_loopg [8] row.length (fun q i wr => ∃ (k : Nat), q = row.length - k ∧ k ≤ row.length ∧ i = .int .i64 k ∧ anyA p (row.drop k) = anyA p row ∧ Frm [] w wr)
  case atStart => exact ⟨0, rfl, Nat.zero_le _, rfl, rfl, Frm.refl _ _⟩
  case round =>
    obtain ⟨k, rfl, hk, rfl, hd, hF⟩ := hrel
    have HF := Lib.hid hF
    have i4 : (0 : Int) ≤ (k : Int) := by omega
    clear hF
    by_cases hlt : k < row.length
    · have i5 : (k : Int) < (row.length : Int) := by omega
      obtain ⟨⟨e, t⟩, hy⟩ : ∃ y, row[k]? = some y := ⟨_, List.getElem?_eq_getElem hlt⟩
      rw [drop_cons hy, anyA, List.any_cons] at hd
      obtain ⟨g1, o1, rfl, _, c1, c2⟩ := H.out.2.2.2 k e t hy
      have d1 := HF.out.cell c1 (by simp)
      have d2 := HF.out.cell c2 (by simp)
      clear c1 c2 hy
      have hcall := fun W => HP.out W e t
      cases hpe : p (e, t) with
      | true =>
        rw [hpe] at hcall hd
        have HD : Hid (anyA p row = true) := Lib.hid (by rw [← hd]; simp)
        have HC := Lib.hid hcall
        clear hd hpe hcall
        go_wp2_with (go_at_fn g; refine (HC.out _).mono ?_; rintro e7 w7 ⟨rfl, hf7⟩)
        go_ret
        exact ⟨⟨_, rfl, by rw [HD.out]; exact ⟨(fun _ => by omega), (fun h9 => by cases h9)⟩⟩, HF.out.trans hf7 (by simp)⟩
      | false =>
        rw [hpe] at hcall hd
        rw [Bool.false_or] at hd
        change anyA p _ = _ at hd
        have HD := Lib.hid hd
        have HC := Lib.hid hcall
        clear hd hpe hcall
        go_wp2_with (go_at_fn g; refine (HC.out _).mono ?_; rintro e7 w7 ⟨rfl, hf7⟩)
        go_roundg (row.length - (k + 1))
        case rel => exact ⟨k + 1, rfl, by omega, by go_num, HD.out, HF.out.trans hf7 (by simp)⟩
        case measure => omega
    · have i5 : ¬ (k : Int) < (row.length : Int) := by omega
      have HR : Hid (anyA p row = false) := Lib.hid (by rw [← hd, List.drop_eq_nil_of_le (by omega)]; rfl)
      clear hd
      go_wp2_with fail
      go_ret
      exact ⟨⟨-1, rfl, by rw [HR.out]; exact ⟨(fun h9 => by cases h9), fun _ => rfl⟩⟩, HF.out⟩

theorem containsArc_any (B g : Nat) (p : Arc → Bool) (eg : ∀ args w, (callFunc g args).run Tryz.prog w = .ok (.enter g args) w) (hp : PredA g p) (a : Option Addr) (cap : Nat) (row : List Arc) (w : World) (h : RowR B w a cap row) :
    Calls Tryz.prog 136 #[.slice a row.length cap, .func (.func g) #[] #[]] w fun e w' => e = .returned (.bool (anyA p row)) ∧ Frm [] w w' := by
  have hi := idxArc_any B g p eg hp a cap row w h
  have HI := Lib.hid hi
  clear hi h hp
  go_enter Tryz.func136, Tryz.ntmps136
  go_wp2_with fail
  refine HI.out.mono ?_
  rintro e1 w1 ⟨⟨v, rfl, hv⟩, hf1⟩
  obtain ⟨h1, h2⟩ := hv
  cases hr : anyA p row with
  | true =>
    have h3 := h1 hr
    have HR := Lib.hid hr
    clear h1 h2 hr HI
    go_wp2_with fail
    go_ret
    exact ⟨ret_bool (by rw [HR.out]), hf1⟩
  | false =>
    have h3 := h2 hr
    subst h3
    have HR := Lib.hid hr
    clear h1 h2 hr HI
    go_wp2_with fail
    go_ret
    exact ⟨ret_bool (by rw [HR.out]), hf1⟩

def isTick (a : Arc) : Bool := decide (a.1 = 1)
theorem tick1 : PredA 137 isTick := by
  intro W e t
  have f0 : Frm [] W (W.alloc (.cells #[.int .i64 e, .int .i64 t] 66)) := (Frm.refl [] W).alloc _
  go_enter Tryz.func137, Tryz.ntmps137
  go_wp2
  go_ret
  exact ⟨ret_bool (by simp [isTick]; by_cases h : e = 1 <;> simp [h]), f0⟩

set_option maxRecDepth 100000 in
set_option maxHeartbeats 1000000 in
theorem ticks_any (B : Nat) (a : Option Addr) (cap : Nat) (l : Lts) (s : Nat) (row : List Arc) (w : World) (h : LAt B w a cap l) (hs : l[s]? = some row) :
    Calls Tryz.prog 113 #[.agg #[.slice a l.length cap], .int .i64 (s : Int)] w fun e w' => e = .returned (.bool (anyA isTick row)) ∧ Frm [] w w' := by
  have f0 : Frm [] w (w.alloc (.cells #[.slice a l.length cap] 25)) := (Frm.refl [] w).alloc _
  have hbox := box1 w (.slice a l.length cap) 25
  have hl := h.lt
  have h' := h.nil f0 rfl
  have hsl : s < l.length := (List.getElem?_eq_some_iff.1 hs).1
  obtain ⟨b, o, ra, rc, rfl, hb, hc, hrr⟩ := h'.cell s row hs
  have i1 : (s : Int) < (l.length : Int) := by omega
  have i2 : (0 : Int) ≤ (s : Int) := by omega
  have hrl := hrr.lt
  have H := Lib.hid hrr
  have HB := Lib.hid hbox
  have HC := Lib.hid hc
  have eg : ∀ args w, (callFunc 137 args).run Tryz.prog w = .ok (.enter 137 args) w := enters_of Tryz.func137 (by kernel_rfl) rfl
  have HCon := Lib.hid (fun W hW => containsArc_any B 137 isTick eg tick1 ra rc row W hW)
  clear h h' hs hrr hbox eg
  go_enter Tryz.func113, Tryz.ntmps113
  go_wp2_with fail
  clear hc
  go_loopg [13] row.length (fun q i wr => ∃ (k : Nat), q = row.length - k ∧ k ≤ row.length ∧ i = .int .i64 k ∧ anyA isTick (row.drop k) = anyA isTick row ∧ Frm [] (w.alloc (.cells #[.slice (some ⟨b, o, none⟩) l.length cap] 25)) wr)
  case atStart => exact ⟨0, rfl, Nat.zero_le _, rfl, rfl, Frm.refl _ _⟩
  case round =>
    obtain ⟨k, rfl, hk, rfl, hd, hF⟩ := hrel
    have HF := Lib.hid hF
    have i4 : (0 : Int) ≤ (k : Int) := by omega
    have hbc := (HB.out.frm hF (by simp)).cell (i := 0) rfl
    have hcc := hF.cell HC.out (by simp)
    have n1 : w.heap.size < wr.heap.size := World.block_lt_of_cell? _ _ hbc
    have n2 : b < wr.heap.size := World.block_lt_of_cell? _ _ hcc
    clear hF
    by_cases hlt : k < row.length
    · have i5 : (k : Int) < (row.length : Int) := by omega
      obtain ⟨⟨e, t⟩, hy⟩ : ∃ y, row[k]? = some y := ⟨_, List.getElem?_eq_getElem hlt⟩
      rw [drop_cons hy, anyA, List.any_cons] at hd
      obtain ⟨g1, o1, rfl, _, c1, c2⟩ := H.out.2.2.2 k e t hy
      have d1 := HF.out.cell c1 (by simp)
      have d2 := HF.out.cell c2 (by simp)
      clear c1 c2 hy
      by_cases he1 : e = 1
      · subst he1
        have HD : Hid (anyA isTick row = true) := Lib.hid (by rw [← hd]; rfl)
        clear hd
        go_wp2_with fail
        go_ret
        exact ⟨by rw [HD.out]; rfl, f0.trans (HF.out.alloc _) (by simp)⟩
      · rw [show isTick (e, t) = false from decide_eq_false he1, Bool.false_or] at hd
        change anyA isTick _ = _ at hd
        have HD := Lib.hid hd
        have he2 : (e == 1) = false := by simpa using he1
        clear hd he1
        by_cases hge : 1 ≤ e
        · have HC2 := Lib.hid (HCon.out _ ((H.out.frm HF.out (by simp)).frm (((Frm.refl [] wr).alloc (.cells #[.int .i64 e, .int .i64 t] 66))) (by simp)))
          go_wp2_with fail
          refine HC2.out.mono ?_
          rintro e7 w7 ⟨rfl, hf7⟩
          go_wp2_with fail
          go_ret
          exact ⟨rfl, f0.trans ((HF.out.alloc _).trans hf7 (by simp)) (by simp)⟩
        · have hge2 : e < 1 := by omega
          clear hge
          go_wp2_with fail
          go_roundg (row.length - (k + 1))
          case rel => exact ⟨k + 1, rfl, by omega, by go_num, HD.out, HF.out.alloc _⟩
          case measure => omega
    · have i5 : ¬ (k : Int) < (row.length : Int) := by omega
      have HRR : Hid (anyA isTick row = false) := Lib.hid (by rw [← hd, List.drop_eq_nil_of_le (by omega)]; rfl)
      clear hd
      go_wp2_with fail
      go_ret
      exact ⟨by rw [HRR.out]; rfl, f0.trans HF.out (by simp)⟩

end Go.Proofs.YtikpcipkkhmcfaaGreat

/- Merged text: GH, GI of the notes. -/
/- Contract of flow.Initials. -/
namespace Go.Proofs.YtikpcipkkhmcfaaGreat
open Go.RowKit

def initP : List Int → List Arc → List Int
  | acc, [] => acc
  | acc, a :: r => if acc.getLast? = some a.1 then initP acc r else initP (acc ++ [a.1]) r
def evs (row : List Arc) : List Int := initP [] row

theorem cells_new_at (w : World) (x : Int) (t : TypeId) (k : Nat) (hk : w.heap.size = k) : ∀ (j : Nat) (u : Value), (ints [x])[j]? = some u → (w.alloc (.cells #[.int .i64 x] t)).cell? ((⟨k, 0, none⟩ : Addr).add j) = some u := by
  subst hk
  exact cells_new_int w x t
theorem owns_drewN {B : Nat} {w : World} {e size n : Nat} {v : Value} {xs : List Value} (h : w.ownsRow B e size v n xs) (k : Nat) : (w.drewN k).ownsRow B e size v n xs := h

set_option maxRecDepth 100000 in
set_option maxHeartbeats 1000000 in
theorem finitials_any (B : Nat) (a : Option Addr) (cap : Nat) (l : Lts) (s : Nat) (row : List Arc) (w : World) (h : LAt B w a cap l) (hs : l[s]? = some row) (hfew : row.length ≤ 1000000) :
    Calls Tryz.prog 115 #[.agg #[.slice a l.length cap], .int .i64 (s : Int)] w fun e w' => ∃ a' cp, e = .returned (.slice a' (evs row).length cp) ∧ OwnI w.heap.size w' a' cp (evs row) ∧ Frm [] w w' := by
  have f0 : Frm [] w (w.alloc (.cells #[.slice a l.length cap] 25)) := (Frm.refl [] w).alloc _
  have hbox := box1 w (.slice a l.length cap) 25
  have hl := h.lt
  have h' := h.nil f0 rfl
  have hsl : s < l.length := (List.getElem?_eq_some_iff.1 hs).1
  obtain ⟨b, o, ra, rc, rfl, hb, hc, hrr⟩ := h'.cell s row hs
  have i1 : (s : Int) < (l.length : Int) := by omega
  have i2 : (0 : Int) ≤ (s : Int) := by omega
  have hrl : (row.length : Int) ≤ 1000000 := by omega
  have H := Lib.hid hrr
  have HB := Lib.hid hbox
  have HC := Lib.hid hc
  clear h h' hs hrr hbox
  go_enter Tryz.func115, Tryz.ntmps115
  go_wp2_with fail
  clear hc
  go_loopg [5, 14] row.length (fun q v i wr => ∃ (k n : Nat) (acc : List Int) (a' : Option Addr) (cp : Nat), q = row.length - k ∧ k ≤ row.length ∧ i = .int .i64 k ∧ v = .slice a' n cp ∧ acc.length = n ∧ n ≤ k ∧ initP acc (row.drop k) = evs row ∧ wr.ownsRow (w.heap.size + 1) 3 1 (.slice a' n cp) n (ints acc) ∧ Frm [] (w.alloc (.cells #[.slice (some ⟨b, o, none⟩) l.length cap] 25)) wr)
  case atStart => exact ⟨0, 0, [], none, 0, rfl, Nat.zero_le _, rfl, rfl, rfl, Nat.le_refl _, rfl, OwnI.nil _ _, Frm.refl _ _⟩
  case round =>
    obtain ⟨k, n, acc, a', cp, rfl, hk, rfl, rfl, hn, hnk, hd, hown, hF⟩ := hrel
    have HF := Lib.hid hF
    have i4 : (0 : Int) ≤ (k : Int) := by omega
    have i6 : (n : Int) ≤ 1000000 := by omega
    have hbc := (HB.out.frm hF (by simp)).cell (i := 0) rfl
    have hcc := hF.cell HC.out (by simp)
    have n1 : w.heap.size < wr.heap.size := World.block_lt_of_cell? _ _ hbc
    have n2 : b < wr.heap.size := World.block_lt_of_cell? _ _ hcc
    have HOWN := Lib.hid hown
    have HN := Lib.hid hn
    clear hF hown hn
    by_cases hlt : k < row.length
    · have i5 : (k : Int) < (row.length : Int) := by omega
      obtain ⟨⟨e, t⟩, hy⟩ : ∃ y, row[k]? = some y := ⟨_, List.getElem?_eq_getElem hlt⟩
      rw [drop_cons hy, initP] at hd
      obtain ⟨g1, o1, rfl, _, c1, c2⟩ := H.out.2.2.2 k e t hy
      have d1 := HF.out.cell c1 (by simp)
      have d2 := HF.out.cell c2 (by simp)
      have hnew : RowAt (wr.alloc (.cells #[.int .i64 e, .int .i64 t] 66)) wr.heap.size 66 [.int .i64 e, .int .i64 t] := RowAt.made _ _ _ _ rfl
      have HNEW := Lib.hid hnew
      clear c1 c2 hy hnew
      by_cases hsame : acc.getLast? = some e
      · rw [if_pos hsame] at hd
        have HD := Lib.hid hd
        obtain ⟨m, rfl⟩ : ∃ m, n = m + 1 := ⟨n - 1, by
          have := HN.out
          cases n with
          | zero => rw [List.eq_nil_of_length_eq_zero this] at hsame; simp at hsame
          | succ m => omega⟩
        obtain ⟨g, cp', hsl, _, _, hrow⟩ := owns_some (ownsB_mono HOWN.out (Nat.zero_le _)) (by omega)
        obtain ⟨rfl, rfl⟩ : a' = some ⟨g, 0, none⟩ ∧ cp = cp' := by simpa using hsl
        have hlast : (ints acc)[m]? = some (.int .i64 e) := by
          rw [List.getLast?_eq_getElem?, HN.out, Nat.add_sub_cancel] at hsame
          simp [ints, hsame]
        have hcell := (hrow.alloc (.cells #[.int .i64 e, .int .i64 t] 66)).cell hlast
        have hcell2 := hrow.cell hlast
        have n3 : g < wr.heap.size := hrow.lt
        have hw1 : IntKind.i64.wrap (m : Int) = (m : Int) := IntWalk.i64_in _ (by omega)
        have i7 : (0 : Int) ≤ (m : Int) := by omega
        have i8 : (m : Int) < (m : Int) + 1 := by omega
        have i9 : ((m : Int) + 1 == 0) = false := by simp; omega
        have hee : (e != e) = false := by simp
        clear hd hsame hsl hrow hlast
        go_wp2_with fail
        go_quiet (fail)
        go_wp2_with fail
        go_roundg (row.length - (k + 1))
        case rel => exact ⟨k + 1, m + 1, acc, _, _, rfl, by omega, by go_num, rfl, HN.out, by omega, HD.out, owns_drewN (HOWN.out.alloc _) _, (HF.out.alloc _).drewN _⟩
        case measure => omega
      · rw [if_neg hsame] at hd
        have HD := Lib.hid hd
        have hlen9 : (acc ++ [e]).length = n + 1 := by rw [List.length_append, HN.out]; rfl
        have HLEN := Lib.hid hlen9
        have hbs : w.heap.size + 1 ≤ wr.heap.size := by omega
        clear hlen9
        cases n with
        | zero =>
          clear hd hsame
          go_wp2_with fail
          go_quiet (fail)
          go_wp2_with (first | (at_builtin; refine wpl_app_int rfl (.tmp 32) (.tmp 35) rfl (w.heap.size + 1) 0 1 (.slice _ 0 _) acc rfl ((owns_drewN (HOWN.out.alloc _) _).alloc _) HN.out ⟨wr.heap.size + 1, 0, none⟩ 1 1 [e] rfl rfl (cells_new_at _ e _ _ (by simp)) rfl (by omega) (by simp; omega) ?_) | (at_builtin; fail))
          intro a6 cp6 w6 hown6 hf6 _
          have G6 := hf6 (w.alloc (.cells #[.slice (some ⟨b, o, none⟩) l.length cap] 25)) (by simp) (((HF.out.alloc _).drewN _).alloc _)
          clear hf6
          go_wp2_with fail
          go_roundg (row.length - (k + 1))
          case rel => exact ⟨k + 1, 1, acc ++ [e], _, _, rfl, by omega, by go_num, rfl, HLEN.out, by omega, HD.out, hown6, G6⟩
          case measure => omega
        | succ m =>
          obtain ⟨g, cp', hsl, _, _, hrow⟩ := owns_some (ownsB_mono HOWN.out (Nat.zero_le _)) (by omega)
          obtain ⟨rfl, rfl⟩ : a' = some ⟨g, 0, none⟩ ∧ cp = cp' := by simpa using hsl
          obtain ⟨y, hy⟩ : ∃ y, acc[m]? = some y := ⟨_, List.getElem?_eq_getElem (by rw [HN.out]; omega)⟩
          have hye : (y != e) = true := by
            rw [List.getLast?_eq_getElem?, HN.out, Nat.add_sub_cancel, hy] at hsame
            simpa using hsame
          have hlast : (ints acc)[m]? = some (.int .i64 y) := by simp [ints, hy]
          have hcell := (hrow.alloc (.cells #[.int .i64 e, .int .i64 t] 66)).cell hlast
          have hcell2 := hrow.cell hlast
          have n3 : g < wr.heap.size := hrow.lt
          have hw1 : IntKind.i64.wrap (m : Int) = (m : Int) := IntWalk.i64_in _ (by omega)
          have i7 : (0 : Int) ≤ (m : Int) := by omega
          have i8 : (m : Int) < (m : Int) + 1 := by omega
          have i9 : ((m : Int) + 1 == 0) = false := by simp; omega
          clear hd hsame hsl hrow hlast hy
          go_wp2_with fail
          go_quiet (fail)
          go_wp2_with (first | (at_builtin; refine wpl_app_int rfl (.tmp 32) (.tmp 35) rfl (w.heap.size + 1) (m + 1) (m + 2) (.slice _ (m + 1) _) acc rfl ((owns_drewN (HOWN.out.alloc _) _).alloc _) HN.out ⟨wr.heap.size + 1, 0, none⟩ 1 1 [e] rfl rfl (cells_new_at _ e _ _ (by simp)) rfl (by omega) (by simp; omega) ?_) | (at_builtin; fail))
          intro a6 cp6 w6 hown6 hf6 _
          have G6 := hf6 (w.alloc (.cells #[.slice (some ⟨b, o, none⟩) l.length cap] 25)) (by simp) (((HF.out.alloc _).drewN _).alloc _)
          clear hf6
          go_wp2_with fail
          go_roundg (row.length - (k + 1))
          case rel => exact ⟨k + 1, (m + 2), acc ++ [e], _, _, rfl, by omega, by go_num, rfl, HLEN.out, by omega, HD.out, hown6, G6⟩
          case measure => omega
    · have i5 : ¬ (k : Int) < (row.length : Int) := by omega
      have HR : Hid (acc = evs row) := Lib.hid (by rw [← hd, List.drop_eq_nil_of_le (by omega)]; rfl)
      clear hd
      go_wp2_with fail
      go_ret
      rw [← HR.out, HN.out]
      exact ⟨a', cp, rfl, by rw [OwnI, HN.out]; exact ownsB_mono HOWN.out (by omega), f0.trans HF.out (by simp)⟩

end Go.Proofs.YtikpcipkkhmcfaaGreat

/- Contracts of flow.Acceptance, graph.Initials, graph.Stable, graph.Acceptance. -/
namespace Go.Proofs.YtikpcipkkhmcfaaGreat
open Go.RowKit

/-! ### what a valid system is -/
theorem looseGo_row (n : Nat) : ∀ (c : Nat) (l : Lts), looseGo n c l = true → ∀ row ∈ l, row.length ≤ 262144 ∧ row.all (arcOk n) = true
  | _, [], _, row, hr => by simp at hr
  | c, x :: r, h, row, hr => by
    simp only [looseGo, Bool.and_eq_true, decide_eq_true_eq] at h
    rcases List.mem_cons.1 hr with rfl | hr
    · exact ⟨by omega, h.2.1⟩
    · exact looseGo_row n _ r h.2.2 row hr
structure VRow (n : Nat) (row : List Arc) : Prop where
  few : row.length ≤ 262144
  asc : ascB row = true
  ok : ∀ (e t : Int), (e, t) ∈ row → 0 ≤ e ∧ e ≤ 1025 ∧ 0 ≤ t ∧ t < (n : Int)
structure VLts (l : Lts) : Prop where
  pos : 1 ≤ l.length
  few : l.length ≤ 16384
  row : ∀ row ∈ l, VRow l.length row
theorem vlts_of {l : Lts} (h : validB l = true) : VLts l := by
  simp only [validB, looseB, Bool.and_eq_true, decide_eq_true_eq] at h
  obtain ⟨⟨⟨h1, h2⟩, h3⟩, h4⟩ := h
  refine ⟨h1, h2, fun row hr => ?_⟩
  obtain ⟨h5, h6⟩ := looseGo_row _ _ _ h3 row hr
  refine ⟨h5, List.all_eq_true.1 h4 row hr, fun e t he => ?_⟩
  exact arcOk_true (List.all_eq_true.1 h6 _ he)
theorem inB_row {l : Lts} {s : Int} (h : inB l.length s = true) : ∃ (n : Nat) (row : List Arc), s = (n : Int) ∧ l[n]? = some row ∧ l.getD s.toNat [] = row := by
  obtain ⟨h1, h2⟩ := (inB_iff _ _).1 h
  refine ⟨s.toNat, l[s.toNat]'(by omega), by omega, List.getElem?_eq_getElem (by omega), ?_⟩
  rw [List.getD_eq_getElem?_getD, List.getElem?_eq_getElem (by omega)]
  rfl

theorem owni_made (w : World) (xs : List Int) (hn : xs.length ≤ maxLen) : OwnI w.heap.size (w.alloc (.cells (ints xs).toArray 3)) (some ⟨w.heap.size, 0, none⟩) xs.length xs :=
  ⟨by simp [ints], .inr ⟨w.heap.size, xs.length, (ints xs).toArray, rfl, Nat.le_refl _, heap_alloc_new w _, Nat.le_refl _, hn, by simp [ints], by simp only [ints, Nat.mul_one]; exact List.take_of_length_le (by simp)⟩⟩

def accF (row : List Arc) : List Int × Bool := if anyA isTick row = true then ([1], true) else if stableR row = true then (evs row, true) else ([], false)

set_option maxRecDepth 100000 in
set_option maxHeartbeats 1000000 in
theorem facc_any (B : Nat) (a : Option Addr) (cap : Nat) (l : Lts) (s : Nat) (row : List Arc) (w : World) (h : LAt B w a cap l) (hs : l[s]? = some row) (hfew : row.length ≤ 1000000) :
    Calls Tryz.prog 91 #[.agg #[.slice a l.length cap], .int .i64 (s : Int)] w fun e w' => ∃ a' cp, e = .returned (.tuple #[.slice a' (accF row).1.length cp, .bool (accF row).2]) ∧ OwnI w.heap.size w' a' cp (accF row).1 ∧ Frm [] w w' := by
  have f0 : Frm [] w (w.alloc (.cells #[.slice a l.length cap] 25)) := (Frm.refl [] w).alloc _
  have hbox := box1 w (.slice a l.length cap) 25
  have HB := Lib.hid hbox
  have H0 := Lib.hid (h.nil f0 rfl)
  have HS := Lib.hid hs
  have htk := ticks_any B a cap l s row _ (h.nil f0 rfl) hs
  clear h hs hbox
  go_enter Tryz.func91, Tryz.ntmps91
  go_wp2_with fail
  refine htk.mono ?_
  rintro e1 w1 ⟨rfl, hf1⟩
  clear htk
  have F1 := f0.trans hf1 (by simp)
  have hb1 := (HB.out.frm hf1 (by simp)).cell (i := 0) rfl
  cases ht : anyA isTick row with
  | true =>
    have HR : Hid (accF row = ([1], true)) := Lib.hid (by rw [accF, ht]; rfl)
    clear ht
    go_wp2_with fail
    go_ret2
    rw [HR.out]
    refine ⟨some ⟨w1.heap.size, 0, none⟩, 1, rfl, ?_, F1.alloc _⟩
    exact ownsB_mono (owni_made w1 [1] (by decide)) (F1.size)
  | false =>
    have hst := fstable_any B a cap l s row w1 (H0.out.frm hf1 (by simp)) HS.out
    go_wp2_with fail
    refine hst.mono ?_
    rintro e2 w2 ⟨rfl, hf2⟩
    clear hst hb1
    have F2 := F1.trans hf2 (by simp)
    have hb2 := (HB.out.frm (hf1.trans hf2 (by simp)) (by simp)).cell (i := 0) rfl
    cases hst : stableR row with
    | false =>
      have HR : Hid (accF row = ([], false)) := Lib.hid (by rw [accF, ht, hst]; rfl)
      clear ht hst
      go_wp2_with fail
      go_ret2
      rw [HR.out]
      exact ⟨none, 0, rfl, OwnI.nil _ _, F2⟩
    | true =>
      have HR : Hid (accF row = (evs row, true)) := Lib.hid (by rw [accF, ht, hst]; rfl)
      have hfi := finitials_any B a cap l s row w2 ((H0.out.frm hf1 (by simp)).frm hf2 (by simp)) HS.out hfew
      clear ht hst
      go_wp2_with fail
      refine hfi.mono ?_
      rintro e3 w3 ⟨a3, cp3, rfl, ho3, hf3⟩
      clear hfi
      go_wp2_with fail
      go_ret2
      rw [HR.out]
      exact ⟨a3, cp3, rfl, ownsB_mono ho3 F2.size, F2.trans hf3 (by simp)⟩

def stableG (l : Lts) (s : Int) : Bool := validB l && (inB l.length s && stableR (l.getD s.toNat []))
def accG (l : Lts) (s : Int) : List Int × Bool := if validB l = true ∧ inB l.length s = true then accF (l.getD s.toNat []) else ([], false)

end Go.Proofs.YtikpcipkkhmcfaaGreat
