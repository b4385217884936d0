/- Texts A4, VC. -/
import Derived.Test.YtikpcipkkhmcfaaGreatQ03
import Derived.Shelf.Abstract
import Derived.Test.YtikpcipkkhmcfaaGreatQ02
/- Merged text: GE, GF, GG of the notes. -/
/- Contract of Ints of the reference. -/
namespace Go.Proofs.YtikpcipkkhmcfaaGreat
open Go.RowKit

set_option maxRecDepth 100000 in
theorem ints_same (B : Nat) (a b : Option Addr) (ca cb : Nat) (xs ys : List Int) (w : World) (h1 : Rd B w a xs.length ca 1 (ints xs)) (h2 : Rd B w b ys.length cb 1 (ints ys)) :
  Calls Tryz.prog 34 #[.slice a xs.length ca, .slice b ys.length cb] w fun e w' => e = .returned (.bool (decide (xs = ys))) ∧ Frm [] w w' := by
 have l1 := h1.lt
 have l2 := h2.lt
 have H1 := Lib.hid h1
 have H2 := Lib.hid h2
 clear h1 h2
 by_cases hl : xs.length = ys.length
 ·have HL := Lib.hid hl
  have e0 : ((xs.length : Int) == (ys.length : Int)) = true := by simp [hl]
  have e1 : (xs.length : Int) = (ys.length : Int) := by omega
  clear hl
  go_enter Tryz.func34, Tryz.ntmps34
  go_wp2_with fail
  go_loopg [5] xs.length (fun q i wr => ∃ (k : Nat), q = xs.length - k ∧ k ≤ xs.length ∧ i = .int .i64 k ∧ decide (xs = ys) = decide (xs.drop k = ys.drop k) ∧ Frm [] w wr)
  case atStart => exact ⟨0, rfl, Nat.zero_le _, rfl, by simp, Frm.refl _ _⟩
  case round =>
   obtain ⟨k, rfl, hk, rfl, hd, hF⟩ := hrel
   have HD := Lib.hid hd
   have HF := Lib.hid hF
   have i4 : (0 : Int) ≤ (k : Int) := by omega
   clear hd hF
   by_cases hlt : k < xs.length
   ·have i5 : (k : Int) < (xs.length : Int) := by omega
    have i6 : (k : Int) < (ys.length : Int) := by have := HL.out; omega
    obtain ⟨x, hx⟩ : ∃ x, xs[k]? = some x := ⟨_, List.getElem?_eq_getElem hlt⟩
    obtain ⟨y, hy⟩ : ∃ y, ys[k]? = some y := ⟨_, List.getElem?_eq_getElem (by have := HL.out; omega)⟩
    have hdx := drop_cons hx
    have hdy := drop_cons hy
    obtain ⟨g, o, rfl, _, c1⟩ := H1.out.at hx
    obtain ⟨g', o', rfl, _, c2⟩ := H2.out.at hy
    have d1 := HF.out.cell c1 (by simp)
    have d2 := HF.out.cell c2 (by simp)
    have HDX := Lib.hid hdx
    have HDY := Lib.hid hdy
    clear hx hy hdx hdy c1 c2
    by_cases hxy : x = y
    ·subst hxy
     go_wp2_with fail
     go_quiet (fail)
     go_wp2_with fail
     go_roundg (xs.length - (k + 1))
     case rel => exact ⟨k + 1, rfl, by omega, by go_num, by rw [HD.out, HDX.out, HDY.out]; simp, HF.out.drewN _⟩
     case measure => omega
    ·have hne : (x == y) = false := by simpa using hxy
     have HR : Hid (decide (xs = ys) = false) := Lib.hid (by rw [HD.out, HDX.out, HDY.out]; simp [hxy])
     go_wp2_with fail
     go_quiet (fail)
     go_wp2_with fail
     go_ret
     exact ⟨by rw [HR.out]; rfl, HF.out.drewN _⟩
   ·have i5 : ¬ (k : Int) < (xs.length : Int) := by omega
    have HR : Hid (decide (xs = ys) = true) := Lib.hid (by rw [HD.out, List.drop_eq_nil_of_le (by omega), List.drop_eq_nil_of_le (by have := HL.out; omega)]; simp)
    go_wp2_with fail
    go_ret
    exact ⟨by rw [HR.out]; rfl, HF.out⟩
 ·have e0 : ((xs.length : Int) == (ys.length : Int)) = false := by simp; omega
  have e1 : ¬ (xs.length : Int) = (ys.length : Int) := by omega
  have HR : Hid (decide (xs = ys) = false) := Lib.hid (by simp; rintro rfl; exact hl rfl)
  clear hl
  go_enter Tryz.func34, Tryz.ntmps34
  go_wp2_with fail
  go_ret
  exact ⟨by rw [HR.out]; rfl, Frm.refl _ _⟩

end Go.Proofs.YtikpcipkkhmcfaaGreat

/- Contracts of graph.state, flow.Stable, Has of the reference. -/
namespace Go.Proofs.YtikpcipkkhmcfaaGreat
open Go.RowKit

/-- A row of integers that the call has made (or nil). -/
abbrev OwnI (B : Nat) (w : World) (a : Option Addr) (cap : Nat) (xs : List Int) : Prop := w.ownsRow B 3 1 (.slice a xs.length cap) xs.length (ints xs)

theorem ints_len (xs : List Int) : (ints xs).length = xs.length := by simp [ints]
theorem ints_app (xs ys : List Int) : ints (xs ++ ys) = ints xs ++ ints ys := by simp [ints]
theorem ints_one (xs : List Int) : ∀ u ∈ ints xs, u.oneCell' = true := by
 intro u hu
 simp only [ints, List.mem_map] at hu
 obtain ⟨x, _, rfl⟩ := hu
 rfl
theorem OwnI.rd {B C : Nat} {w : World} {a : Option Addr} {cap : Nat} {xs : List Int} (h : OwnI B w a cap xs) (hc : w.heap.size ≤ C) : Rd C w a xs.length cap 1 (ints xs) := rd_of_owns h hc
theorem OwnI.nil (B : Nat) (w : World) : OwnI B w none 0 [] := ⟨rfl, .inl ⟨rfl, rfl⟩⟩

def inB (n : Nat) (s : Int) : Bool := decide (0 ≤ s) && decide (s < (n : Int))
theorem inB_iff (n : Nat) (s : Int) : inB n s = true ↔ 0 ≤ s ∧ s < (n : Int) := by simp [inB]
theorem inB_false (n : Nat) (s : Int) : inB n s = false ↔ s < 0 ∨ (0 ≤ s ∧ (n : Int) ≤ s) := by
 simp only [inB, Bool.and_eq_false_iff, decide_eq_false_iff_not]
 omega

theorem ret_bool {a b : Bool} (h : a = b) : Ending.returned (.bool a) = .returned (.bool b) := by rw [h]
def stableR (row : List Arc) : Bool := match row with
 | [] => true
 | a :: _ => decide (a.1 ≠ 0)

set_option maxRecDepth 100000 in
theorem fstable_any (B : Nat) (a : Option Addr) (cap : Nat) (l : Lts) (s : Nat) (row : List Arc) (w : World) (h : LAt B w a cap l) (hs : l[s]? = some row) :
  Calls Tryz.prog 114 #[.agg #[.slice a l.length cap], .int .i64 (s : Int)] w fun e w' => e = .returned (.bool (stableR row)) ∧ Frm [] w w' := by
 have f0 : Frm [] w (w.alloc (.cells #[.slice a l.length cap] 25)) := (Frm.refl [] w).alloc _
 have hl := h.lt
 have h' := h.nil f0 rfl
 have hsl : s < l.length := (List.getElem?_eq_some_iff.1 hs).1
 obtain ⟨b, o, ra, rc, rfl, hb, hc, hrr⟩ := h'.cell s row hs
 have i1 : (s : Int) < (l.length : Int) := by omega
 have i2 : (0 : Int) ≤ (s : Int) := by omega
 have hrl := hrr.lt
 cases row with
 | nil =>
  clear h h' hs hrr
  go_enter Tryz.func114, Tryz.ntmps114
  go_wp2
  go_ret
  exact ⟨rfl, f0⟩
 | cons x r =>
  obtain ⟨e, t⟩ := x
  obtain ⟨b1, o1, rfl, hb1, d1, d2⟩ := hrr.2.2.2 0 e t rfl
  have i3 : ((((e, t) :: r).length : Int) == 0) = false := by simp; omega
  have i4 : (0 : Int) < (((e, t) :: r).length : Int) := by simp only [List.length_cons]; omega
  have hn : (((e, t) :: r).length : Int) = (r.length : Int) + 1 := by simp
  rw [hn] at i3 i4 hrl
  simp only [List.length_cons] at hc
  have hst : stableR ((e, t) :: r) = decide (e ≠ 0) := rfl
  obtain ⟨n, hn2⟩ : ∃ n : Nat, r.length + 1 = n := ⟨_, rfl⟩
  have hn3 : (r.length : Int) + 1 = (n : Int) := by omega
  rw [hn2] at hc
  rw [hn3] at i3 i4 hrl
  simp only [Nat.zero_mul, Nat.add_zero] at d1 d2
  rw [hst]
  clear h h' hs hrr hn hst hn3
  by_cases he : e = 0
  ·subst he
   go_enter Tryz.func114, Tryz.ntmps114
   go_wp2
   go_ret
   exact ⟨rfl, f0⟩
  ·have he2 : (e != 0) = true := by simpa using he
   have HE : Hid (decide (e ≠ 0) = true) := Lib.hid (by simpa using he)
   clear he
   go_enter Tryz.func114, Tryz.ntmps114
   go_wp2
   go_ret
   exact ⟨by rw [HE.out]; rfl, f0⟩

def hasB (xs : List Int) (x : Int) : Bool := xs.any fun y => decide (y = x)

set_option maxRecDepth 100000 in
theorem has_any (B : Nat) (a : Option Addr) (cap : Nat) (xs : List Int) (x : Int) (w : World) (h : Rd B w a xs.length cap 1 (ints xs)) :
  Calls Tryz.prog 107 #[.slice a xs.length cap, .int .i64 x] w fun e w' => e = .returned (.bool (hasB xs x)) ∧ Frm [] w w' := by
 have l1 := h.lt
 obtain ⟨R, hR⟩ : ∃ R, hasB xs x = R := ⟨_, rfl⟩
 rw [hR]
 have H := Lib.hid h
 clear h
 go_enter Tryz.func107, Tryz.ntmps107
 go_wp2_with fail
 go_loopg [5] xs.length (fun q i wr => ∃ (k : Nat), q = xs.length - k ∧ k ≤ xs.length ∧ i = .int .i64 k ∧ hasB (xs.drop k) x = R ∧ Frm [] w wr)
 case atStart => exact ⟨0, rfl, Nat.zero_le _, rfl, hR, Frm.refl _ _⟩
 case round =>
  clear hR
  obtain ⟨k, rfl, hk, rfl, hd, hF⟩ := hrel
  have HF := Lib.hid hF
  have i4 : (0 : Int) ≤ (k : Int) := by omega
  clear hF
  by_cases hlt : k < xs.length
  ·have i5 : (k : Int) < (xs.length : Int) := by omega
   obtain ⟨y, hy⟩ : ∃ y, xs[k]? = some y := ⟨_, List.getElem?_eq_getElem hlt⟩
   rw [drop_cons hy, hasB, List.any_cons] at hd
   obtain ⟨g, o, rfl, _, c1⟩ := H.out.at hy
   have d1 := HF.out.cell c1 (by simp)
   clear c1 hy
   by_cases hxy : y = x
   ·subst hxy
    have HD : Hid (R = true) := Lib.hid (by rw [← hd]; simp)
    clear hd
    go_wp2_with fail
    go_ret
    exact ⟨by rw [HD.out]; rfl, HF.out⟩
   ·have hne : (y == x) = false := by simpa using hxy
    rw [decide_eq_false hxy, Bool.false_or] at hd
    have HD := Lib.hid hd
    clear hd hxy
    go_wp2_with fail
    go_roundg (xs.length - (k + 1))
    case rel => exact ⟨k + 1, rfl, by omega, by go_num, HD.out, HF.out⟩
    case measure => omega
  ·have i5 : ¬ (k : Int) < (xs.length : Int) := by omega
   have HR : Hid (R = false) := Lib.hid (by rw [← hd, List.drop_eq_nil_of_le (by omega)]; rfl)
   clear hd
   go_wp2_with fail
   go_ret
   exact ⟨by rw [HR.out]; rfl, HF.out⟩

end Go.Proofs.YtikpcipkkhmcfaaGreat

/- Contracts of flow.Ticks and flow.Initials. -/
namespace Go.Proofs.YtikpcipkkhmcfaaGreat
open Go.RowKit

/-! ### append to a row of integers that the call has made -/
theorem wpl_app_int {w : World} {ops : Array Oper} {rest : List Oper} {o : Oper} {a : Act} {Q : Exit → Act → World → Prop} (hgd : o.guard = none) (s x : Operand)
  (ho : o.op = .call { callee := .builtin .append, args := #[s, x], argTypes := #[22, 22] })
  (B n N : Nat) (v : Value) (xs : List Int) (hs : a.eval s = v) (hown : w.ownsRow B 3 1 v n (ints xs)) (hn : xs.length = n) (ad : Addr) (m c : Nat) (ys : List Int) (hx : a.eval x = .slice (some ad) m c) (hm : ys.length = m)
  (hnews : ∀ (j : Nat) (u : Value), (ints ys)[j]? = some u → w.cell? (ad.add j) = some u) (hN : n + m = N) (hb : N ≤ 1000000000) (hB : B ≤ w.heap.size)
  (h : ∀ a' cp w', w'.ownsRow B 3 1 (.slice a' N cp) N (ints (xs ++ ys)) → (∀ w0 : World, w0.heap.size ≤ B → Frm [] w0 w → Frm [] w0 w') → (∀ fp (w0 : World), (∀ k, v.ownBlock = some k → k ∈ fp ∨ w0.heap.size ≤ k) → Frm fp w0 w → Frm fp w0 w') → wpList Tryz.prog ops Q rest (a.put o.dst (.slice a' N cp)) w') : wpList Tryz.prog ops Q (o :: rest) a w := by
 obtain ⟨i0, hi, hz0, hz1, hz2⟩ := info_parts infoInt
 subst hm hn hN
 refine wpList_append_own w hgd s x 22 ho B 3 i0 (.int .i64 0) 1 8 Tryz.underlying22 hi hz0 hz1 hz2 rfl (by decide) v xs.length (ints xs) hs hown ad ys.length c (ints ys) hx (by simp [ints]) hnews (ints_one ys) (by unfold maxLen; omega) (by omega) hB ?_
 intro v' w' hown' hgr hnew
 rw [← ints_app] at hown'
 obtain ⟨a', cp, rfl, _⟩ := owns_shape (ownsB_mono hown' (Nat.zero_le B))
 exact h a' cp w' hown' (fun w0 h0 hF => hF.grown hgr (fun k hk => .inr (by have := (hown.lt k hk).1; omega))) (fun fp w0 hk hF => hF.grown hgr hk)

theorem cells_new_int (w : World) (x : Int) (t : TypeId) : ∀ (j : Nat) (u : Value), (ints [x])[j]? = some u → (w.alloc (.cells #[.int .i64 x] t)).cell? ((⟨w.heap.size, 0, none⟩ : Addr).add j) = some u := cells_new w [.int .i64 x] t

/-! ### ContainsFunc over a row of arcs -/
def anyA (p : Arc → Bool) (row : List Arc) : Bool := row.any p
def IdxP (b : Bool) (v : Int) : Prop := (b = true → 0 ≤ v) ∧ (b = false → v = -1)
def PredA (g : Nat) (p : Arc → Bool) : Prop := ∀ (W : World) (e t : Int), Calls Tryz.prog g #[.agg #[.int .i64 e, .int .i64 t]] W fun e' w' => e' = .returned (.bool (p (e, t))) ∧ Frm [] W w'

set_option maxRecDepth 100000 in
theorem idxArc_any (B g : Nat) (p : Arc → Bool) (eg : ∀ args w, (callFunc g args).run Tryz.prog w = .ok (.enter g args) w) (hp : PredA g p) (a : Option Addr) (cap : Nat) (row : List Arc) (w : World) (h : RowR B w a cap row) :
  Calls Tryz.prog 158 #[.slice a row.length cap, .func (.func g) #[] #[]] w fun e w' => (∃ v : Int, e = .returned (.int .i64 v) ∧ IdxP (anyA p row) v) ∧ Frm [] w w' := by
 have l1 := h.lt
 have H := Lib.hid h
 have HP := Lib.hid hp
 clear h hp
 go_enter Tryz.func158, Tryz.ntmps158
 go_wp2_with fail
 go_loopg [8] row.length (fun q i wr => ∃ (k : Nat), q = row.length - k ∧ k ≤ row.length ∧ i = .int .i64 k ∧ anyA p (row.drop k) = anyA p row ∧ Frm [] w wr)
 case atStart => exact ⟨0, rfl, Nat.zero_le _, rfl, rfl, Frm.refl _ _⟩
 case round =>
  obtain ⟨k, rfl, hk, rfl, hd, hF⟩ := hrel
  have HF := Lib.hid hF
  have i4 : (0 : Int) ≤ (k : Int) := by omega
  clear hF
  by_cases hlt : k < row.length
  ·have i5 : (k : Int) < (row.length : Int) := by omega
   obtain ⟨⟨e, t⟩, hy⟩ : ∃ y, row[k]? = some y := ⟨_, List.getElem?_eq_getElem hlt⟩
   rw [drop_cons hy, anyA, List.any_cons] at hd
   obtain ⟨g1, o1, rfl, _, c1, c2⟩ := H.out.2.2.2 k e t hy
   have d1 := HF.out.cell c1 (by simp)
   have d2 := HF.out.cell c2 (by simp)
   clear c1 c2 hy
   have hcall := fun W => HP.out W e t
   cases hpe : p (e, t) with
   | true =>
    rw [hpe] at hcall hd
    have HD : Hid (anyA p row = true) := Lib.hid (by rw [← hd]; simp)
    have HC := Lib.hid hcall
    clear hd hpe hcall
    go_wp2_with (go_at_fn g; refine (HC.out _).mono ?_; rintro e7 w7 ⟨rfl, hf7⟩)
    go_ret
    exact ⟨⟨_, rfl, by rw [HD.out]; exact ⟨(fun _ => by omega), (fun h9 => by cases h9)⟩⟩, HF.out.trans hf7 (by simp)⟩
   | false =>
    rw [hpe] at hcall hd
    rw [Bool.false_or] at hd
    change anyA p _ = _ at hd
    have HD := Lib.hid hd
    have HC := Lib.hid hcall
    clear hd hpe hcall
    go_wp2_with (go_at_fn g; refine (HC.out _).mono ?_; rintro e7 w7 ⟨rfl, hf7⟩)
    go_roundg (row.length - (k + 1))
    case rel => exact ⟨k + 1, rfl, by omega, by go_num, HD.out, HF.out.trans hf7 (by simp)⟩
    case measure => omega
  ·have i5 : ¬ (k : Int) < (row.length : Int) := by omega
   have HR : Hid (anyA p row = false) := Lib.hid (by rw [← hd, List.drop_eq_nil_of_le (by omega)]; rfl)
   clear hd
   go_wp2_with fail
   go_ret
   exact ⟨⟨-1, rfl, by rw [HR.out]; exact ⟨(fun h9 => by cases h9), fun _ => rfl⟩⟩, HF.out⟩

theorem containsArc_any (B g : Nat) (p : Arc → Bool) (eg : ∀ args w, (callFunc g args).run Tryz.prog w = .ok (.enter g args) w) (hp : PredA g p) (a : Option Addr) (cap : Nat) (row : List Arc) (w : World) (h : RowR B w a cap row) :
  Calls Tryz.prog 136 #[.slice a row.length cap, .func (.func g) #[] #[]] w fun e w' => e = .returned (.bool (anyA p row)) ∧ Frm [] w w' := by
 have hi := idxArc_any B g p eg hp a cap row w h
 have HI := Lib.hid hi
 clear hi h hp
 go_enter Tryz.func136, Tryz.ntmps136
 go_wp2_with fail
 refine HI.out.mono ?_
 rintro e1 w1 ⟨⟨v, rfl, hv⟩, hf1⟩
 obtain ⟨h1, h2⟩ := hv
 cases hr : anyA p row with
 | true =>
  have h3 := h1 hr
  have HR := Lib.hid hr
  clear h1 h2 hr HI
  go_wp2_with fail
  go_ret
  exact ⟨ret_bool (by rw [HR.out]), hf1⟩
 | false =>
  have h3 := h2 hr
  subst h3
  have HR := Lib.hid hr
  clear h1 h2 hr HI
  go_wp2_with fail
  go_ret
  exact ⟨ret_bool (by rw [HR.out]), hf1⟩

def isTick (a : Arc) : Bool := decide (a.1 = 1)
theorem tick1 : PredA 137 isTick := by
 intro W e t
 have f0 : Frm [] W (W.alloc (.cells #[.int .i64 e, .int .i64 t] 66)) := (Frm.refl [] W).alloc _
 go_enter Tryz.func137, Tryz.ntmps137
 go_wp2
 go_ret
 exact ⟨ret_bool (by simp [isTick]; by_cases h : e = 1 <;> simp [h]), f0⟩

set_option maxRecDepth 100000 in
set_option maxHeartbeats 1000000 in
theorem ticks_any (B : Nat) (a : Option Addr) (cap : Nat) (l : Lts) (s : Nat) (row : List Arc) (w : World) (h : LAt B w a cap l) (hs : l[s]? = some row) :
  Calls Tryz.prog 113 #[.agg #[.slice a l.length cap], .int .i64 (s : Int)] w fun e w' => e = .returned (.bool (anyA isTick row)) ∧ Frm [] w w' := by
 have f0 : Frm [] w (w.alloc (.cells #[.slice a l.length cap] 25)) := (Frm.refl [] w).alloc _
 have hbox := box1 w (.slice a l.length cap) 25
 have hl := h.lt
 have h' := h.nil f0 rfl
 have hsl : s < l.length := (List.getElem?_eq_some_iff.1 hs).1
 obtain ⟨b, o, ra, rc, rfl, hb, hc, hrr⟩ := h'.cell s row hs
 have i1 : (s : Int) < (l.length : Int) := by omega
 have i2 : (0 : Int) ≤ (s : Int) := by omega
 have hrl := hrr.lt
 have H := Lib.hid hrr
 have HB := Lib.hid hbox
 have HC := Lib.hid hc
 have eg : ∀ args w, (callFunc 137 args).run Tryz.prog w = .ok (.enter 137 args) w := enters_of Tryz.func137 (by kernel_rfl) rfl
 have HCon := Lib.hid (fun W hW => containsArc_any B 137 isTick eg tick1 ra rc row W hW)
 clear h h' hs hrr hbox eg
 go_enter Tryz.func113, Tryz.ntmps113
 go_wp2_with fail
 clear hc
 go_loopg [13] row.length (fun q i wr => ∃ (k : Nat), q = row.length - k ∧ k ≤ row.length ∧ i = .int .i64 k ∧ anyA isTick (row.drop k) = anyA isTick row ∧ Frm [] (w.alloc (.cells #[.slice (some ⟨b, o, none⟩) l.length cap] 25)) wr)
 case atStart => exact ⟨0, rfl, Nat.zero_le _, rfl, rfl, Frm.refl _ _⟩
 case round =>
  obtain ⟨k, rfl, hk, rfl, hd, hF⟩ := hrel
  have HF := Lib.hid hF
  have i4 : (0 : Int) ≤ (k : Int) := by omega
  have hbc := (HB.out.frm hF (by simp)).cell (i := 0) rfl
  have hcc := hF.cell HC.out (by simp)
  have n1 : w.heap.size < wr.heap.size := World.block_lt_of_cell? _ _ hbc
  have n2 : b < wr.heap.size := World.block_lt_of_cell? _ _ hcc
  clear hF
  by_cases hlt : k < row.length
  ·have i5 : (k : Int) < (row.length : Int) := by omega
   obtain ⟨⟨e, t⟩, hy⟩ : ∃ y, row[k]? = some y := ⟨_, List.getElem?_eq_getElem hlt⟩
   rw [drop_cons hy, anyA, List.any_cons] at hd
   obtain ⟨g1, o1, rfl, _, c1, c2⟩ := H.out.2.2.2 k e t hy
   have d1 := HF.out.cell c1 (by simp)
   have d2 := HF.out.cell c2 (by simp)
   clear c1 c2 hy
   by_cases he1 : e = 1
   ·subst he1
    have HD : Hid (anyA isTick row = true) := Lib.hid (by rw [← hd]; rfl)
    clear hd
    go_wp2_with fail
    go_ret
    exact ⟨by rw [HD.out]; rfl, f0.trans (HF.out.alloc _) (by simp)⟩
   ·rw [show isTick (e, t) = false from decide_eq_false he1, Bool.false_or] at hd
    change anyA isTick _ = _ at hd
    have HD := Lib.hid hd
    have he2 : (e == 1) = false := by simpa using he1
    clear hd he1
    by_cases hge : 1 ≤ e
    ·have HC2 := Lib.hid (HCon.out _ ((H.out.frm HF.out (by simp)).frm (((Frm.refl [] wr).alloc (.cells #[.int .i64 e, .int .i64 t] 66))) (by simp)))
     go_wp2_with fail
     refine HC2.out.mono ?_
     rintro e7 w7 ⟨rfl, hf7⟩
     go_wp2_with fail
     go_ret
     exact ⟨rfl, f0.trans ((HF.out.alloc _).trans hf7 (by simp)) (by simp)⟩
    ·have hge2 : e < 1 := by omega
     clear hge
     go_wp2_with fail
     go_roundg (row.length - (k + 1))
     case rel => exact ⟨k + 1, rfl, by omega, by go_num, HD.out, HF.out.alloc _⟩
     case measure => omega
  ·have i5 : ¬ (k : Int) < (row.length : Int) := by omega
   have HRR : Hid (anyA isTick row = false) := Lib.hid (by rw [← hd, List.drop_eq_nil_of_le (by omega)]; rfl)
   clear hd
   go_wp2_with fail
   go_ret
   exact ⟨by rw [HRR.out]; rfl, f0.trans HF.out (by simp)⟩

end Go.Proofs.YtikpcipkkhmcfaaGreat

/- slices.ContainsFunc of a closure that holds nothing; behavior.visible. (Cut from B4.) -/
namespace Go.Proofs.YtikpcipkkhmcfaaGreat.Beh
open Go.RowKit Go.Lib Go.Proofs.YtikpcipkkhmcfaaGreat

def PredI0 (g : Nat) (p : Int → Bool) (w0 : World) : Prop := ∀ (W : World) (x : Int), Frm [] w0 W → Calls Tryz.prog g #[.int .i64 x] W fun e' w' => e' = .returned (.bool (p x)) ∧ Frm [] W w'

set_option maxRecDepth 100000 in
theorem idxI0_any (B g : Nat) (p : Int → Bool) (eg : ∀ args w, (callFunc g args).run Tryz.prog w = .ok (.enter g args) w) (a : Option Addr) (cap : Nat) (xs : List Int) (w : World) (hp : PredI0 g p w) (h : Rd B w a xs.length cap 1 (ints xs)) :
  Calls Tryz.prog 121 #[.slice a xs.length cap, .func (.func g) #[] #[]] w fun e w' => (∃ v : Int, e = .returned (.int .i64 v) ∧ IdxP (xs.any p) v) ∧ Frm [] w w' := by
 have l1 := h.lt
 have H := Lib.hid h
 have HP := Lib.hid hp
 clear h hp
 go_enter Tryz.func121, Tryz.ntmps121
 go_wp2_with fail
 go_loopg [8] xs.length (fun q i wr => ∃ (k : Nat), q = xs.length - k ∧ k ≤ xs.length ∧ i = .int .i64 k ∧ (xs.drop k).any p = xs.any p ∧ Frm [] w wr)
 case atStart => exact ⟨0, rfl, Nat.zero_le _, rfl, rfl, Frm.refl _ _⟩
 case round =>
  obtain ⟨k, rfl, hk, rfl, hd, hF⟩ := hrel
  have HF := Lib.hid hF
  have i4 : (0 : Int) ≤ (k : Int) := by omega
  clear hF
  by_cases hlt : k < xs.length
  ·have i5 : (k : Int) < (xs.length : Int) := by omega
   obtain ⟨y, hy⟩ : ∃ y, xs[k]? = some y := ⟨_, List.getElem?_eq_getElem hlt⟩
   rw [drop_cons hy, List.any_cons] at hd
   obtain ⟨g1, o1, rfl, _, c1⟩ := H.out.at hy
   have d1 := HF.out.cell c1 (by simp)
   clear c1 hy
   have hcall := HP.out wr y HF.out
   cases hpe : p y with
   | true =>
    rw [hpe] at hcall hd
    have HD : Hid (xs.any p = true) := Lib.hid (by rw [← hd]; simp)
    have HC := Lib.hid hcall
    clear hd hpe hcall
    go_wp2_with (go_at_fn g; refine HC.out.mono ?_; rintro e7 w7 ⟨rfl, hf7⟩)
    go_ret
    exact ⟨⟨_, rfl, by rw [HD.out]; exact ⟨(fun _ => by omega), (fun h9 => by cases h9)⟩⟩, HF.out.trans hf7 (by simp)⟩
   | false =>
    rw [hpe] at hcall hd
    rw [Bool.false_or] at hd
    have HD := Lib.hid hd
    have HC := Lib.hid hcall
    clear hd hpe hcall
    go_wp2_with (go_at_fn g; refine HC.out.mono ?_; rintro e7 w7 ⟨rfl, hf7⟩)
    go_roundg (xs.length - (k + 1))
    case rel => exact ⟨k + 1, rfl, by omega, by go_num, HD.out, HF.out.trans hf7 (by simp)⟩
    case measure => omega
  ·have i5 : ¬ (k : Int) < (xs.length : Int) := by omega
   have HR : Hid (xs.any p = false) := Lib.hid (by rw [← hd, List.drop_eq_nil_of_le (by omega)]; rfl)
   clear hd
   go_wp2_with fail
   go_ret
   exact ⟨⟨-1, rfl, by rw [HR.out]; exact ⟨(fun h9 => by cases h9), fun _ => rfl⟩⟩, HF.out⟩

theorem containsI0_any (B g : Nat) (p : Int → Bool) (eg : ∀ args w, (callFunc g args).run Tryz.prog w = .ok (.enter g args) w) (a : Option Addr) (cap : Nat) (xs : List Int) (w : World) (hp : PredI0 g p w) (h : Rd B w a xs.length cap 1 (ints xs)) :
  Calls Tryz.prog 99 #[.slice a xs.length cap, .func (.func g) #[] #[]] w fun e w' => e = .returned (.bool (xs.any p)) ∧ Frm [] w w' := by
 have hi := idxI0_any B g p eg a cap xs w hp h
 have HI := Lib.hid hi
 clear hi h hp
 go_enter Tryz.func99, Tryz.ntmps99
 go_wp2_with fail
 refine HI.out.mono ?_
 rintro e1 w1 ⟨⟨v, rfl, hv⟩, hf1⟩
 obtain ⟨h1, h2⟩ := hv
 cases hr : xs.any p with
 | true =>
  have h3 := h1 hr
  have HR := Lib.hid hr
  clear h1 h2 hr HI
  go_wp2_with fail
  go_ret
  exact ⟨ret_bool (by rw [HR.out]), hf1⟩
 | false =>
  have h3 := h2 hr
  subst h3
  have HR := Lib.hid hr
  clear h1 h2 hr HI
  go_wp2_with fail
  go_ret
  exact ⟨ret_bool (by rw [HR.out]), hf1⟩
set_option maxRecDepth 100000 in
theorem vis1_any (x : Int) (w : World) : Calls Tryz.prog 100 #[.int .i64 x] w fun e w' => e = .returned (.bool (decide (x < 1) || decide (1025 < x))) ∧ Frm [] w w' := by
 rcases (show x < 1 ∨ (1 ≤ x ∧ x ≤ 1025) ∨ 1025 < x by omega) with h | ⟨h1, h2⟩ | h
 ·have hm : Hid ((decide (x < 1) || decide (1025 < x)) = true) := Lib.hid (by simp [h])
  go_enter Tryz.func100, Tryz.ntmps100
  go_wp2_with fail
  go_ret
  exact ⟨by first | rfl | (rw [hm.out]; rfl), Frm.refl _ _⟩
 ·have e1 : ¬ x < 1 := by omega
  have e2 : ¬ 1025 < x := by omega
  have hm : Hid ((decide (x < 1) || decide (1025 < x)) = false) := Lib.hid (by simp [e1, e2])
  go_enter Tryz.func100, Tryz.ntmps100
  go_wp2_with fail
  go_ret
  exact ⟨by first | rfl | (rw [hm.out]; rfl), Frm.refl _ _⟩
 ·have e1 : ¬ x < 1 := by omega
  have hm : Hid ((decide (x < 1) || decide (1025 < x)) = true) := Lib.hid (by simp [h])
  go_enter Tryz.func100, Tryz.ntmps100
  go_wp2_with fail
  go_ret
  exact ⟨by first | rfl | (rw [hm.out]; rfl), Frm.refl _ _⟩
theorem visB_not (l : List Int) : visB l = !(l.any fun x => decide (x < 1) || decide (1025 < x)) := by
 rw [Bool.eq_iff_iff, visB_iff, Bool.not_eq_true', List.any_eq_false]
 constructor
 ·intro h x hx
  have := h x hx
  simp only [Bool.or_eq_true, decide_eq_true_eq]
  omega
 ·intro h x hx
  have := h x hx
  simp only [Bool.or_eq_true, decide_eq_true_eq] at this
  omega
set_option maxRecDepth 100000 in
theorem visible_any {F : List Nat} (w : World) (v : Value) (l : List Int) (h : RowV w F v l.length 1 (ints l)) :
  Calls Tryz.prog 74 #[v] w fun e w' => e = .returned (.bool (visB l)) ∧ Frm [] w w' := by
 obtain ⟨a, c, rfl⟩ := RowV.shape h
 have hl := h.rd.lt
 have HC := Lib.hid (containsI0_any w.heap.size 100 (fun x => decide (x < 1) || decide (1025 < x)) (enters_of Tryz.func100 (by kernel_rfl) rfl) a c l w (fun W x _ => vis1_any x W) h.rd)
 have HV := Lib.hid (visB_not l)
 clear h
 obtain ⟨b, hb⟩ : ∃ b, b = l.any (fun x => decide (x < 1) || decide (1025 < x)) := ⟨_, rfl⟩
 rw [← hb] at HC HV
 clear hb
 go_enter Tryz.func74, Tryz.ntmps74
 go_wp2_with (go_at_call 99; refine HC.out.mono ?_; rintro e1 w1 ⟨rfl, hf1⟩)
 go_ret
 exact ⟨by rw [HV.out]; rfl, hf1⟩
end Go.Proofs.YtikpcipkkhmcfaaGreat.Beh
