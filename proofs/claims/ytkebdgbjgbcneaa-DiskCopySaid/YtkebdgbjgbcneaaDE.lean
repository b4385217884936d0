/- Contracts of check and change of the program's disk. -/
import Derived.Test.YtkebdgbjgbcneaaDD
import Derived.Shelf.Abstract
import Derived.Deep.DeepCutAuto
import Derived.Laws.AppendOwnNone
import Derived.Laws.CopyOwn
namespace Go.Proofs.Ytkebdgbjgbcneaa
open Go.Shelf
open Go.RowKit Go.Maps

def strs (xs : List Nm) : List Value := xs.map fun s => str s
theorem Rd.str {B : Nat} {w : World} {a : Option Addr} {cap n : Nat} {xs : List Nm} (h : Rd B w a n cap 1 (strs xs)) {i : Nat} {s : Nm} (hx : xs[i]? = some s) : ∃ b o, a = some ⟨b, o, none⟩ ∧ b < B ∧ w.cell? ⟨b, o + i, none⟩ = some (str s) :=
  h.cell i _ (by simp [strs, hx])
theorem drop_get {α : Type} {xs : List α} {k : Nat} {y : α} (h : xs[k]? = some y) : xs.drop k = y :: xs.drop (k + 1) := by
  obtain ⟨h1, h2⟩ := List.getElem?_eq_some_iff.1 h
  rw [List.drop_eq_getElem_cons h1, h2]
def bad (s : Nm) : Bool := !goodN s

set_option linter.unusedSimpArgs false in
theorem inval_any (s : Nm) (w : World) (hs : s.length ≤ maxLen) : Calls Try.prog 52 #[str s] w fun e w' => e = .returned (.bool (bad s)) ∧ w' = w := by
  have hv := valid_any s w hs
  cases hg : goodN s
  · rw [hg] at hv
    rw [show bad s = true by rw [bad, hg]; rfl]
    clear hg
    go_enter Try.func52, Try.ntmps52
    go_wp2_with fail
    refine hv.mono ?_
    rintro e1 w1 ⟨rfl, rfl⟩
    go_wp2_with fail
    go_ret
    exact ⟨rfl, rfl⟩
  · rw [hg] at hv
    rw [show bad s = false by rw [bad, hg]; rfl]
    clear hg
    go_enter Try.func52, Try.ntmps52
    go_wp2_with fail
    refine hv.mono ?_
    rintro e1 w1 ⟨rfl, rfl⟩
    go_wp2_with fail
    go_ret
    exact ⟨rfl, rfl⟩

def IdxP (b : Bool) (v : Int) : Prop := (b = true → 0 ≤ v) ∧ (b = false → v = -1)
set_option linter.unusedSimpArgs false in
set_option maxRecDepth 100000 in
theorem idxS_any (B : Nat) (a : Option Addr) (cap : Nat) (xs : List Nm) (w : World) (hx : ∀ s ∈ xs, s.length ≤ maxLen) (h : Rd B w a xs.length cap 1 (strs xs)) :
    Calls Try.prog 63 #[.slice a xs.length cap, .func (.func 52) #[] #[]] w fun e w' => (∃ v : Int, e = .returned (.int .i64 v) ∧ IdxP (xs.any bad) v) ∧ Frm [] w w' := by
  have eg : ∀ args w, (callFunc 52 args).run Try.prog w = .ok (.enter 52 args) w := enters_of Try.func52 (by kernel_rfl) rfl
  have l1 := h.lt
  have H := Lib.hid h
  have HX := Lib.hid hx
  clear h hx
  go_enter Try.func63, Try.ntmps63
  go_wp2_with fail
  go_loopg [8] xs.length (fun q i wr => ∃ (k : Nat), q = xs.length - k ∧ k ≤ xs.length ∧ i = .int .i64 k ∧ (xs.drop k).any bad = xs.any bad ∧ Frm [] w wr)
  case atStart => exact ⟨0, rfl, Nat.zero_le _, rfl, rfl, Frm.refl _ _⟩
  case round =>
    obtain ⟨k, rfl, hk, rfl, hd, hF⟩ := hrel
    have HF := Lib.hid hF
    have i4 : (0 : Int) ≤ (k : Int) := by omega
    clear hF
    by_cases hlt : k < xs.length
    · have i5 : (k : Int) < (xs.length : Int) := by omega
      obtain ⟨y, hy⟩ : ∃ y, xs[k]? = some y := ⟨_, List.getElem?_eq_getElem hlt⟩
      rw [drop_get hy, List.any_cons] at hd
      obtain ⟨g1, o1, rfl, _, c1⟩ := H.out.str hy
      have d1 := HF.out.cell c1 (by simp)
      have hcall := inval_any y wr (HX.out y (List.mem_of_getElem? hy))
      clear c1 hy
      cases hpe : bad y with
      | true =>
        rw [hpe] at hcall hd
        have HD : Hid (xs.any bad = true) := Lib.hid (by rw [← hd]; simp)
        have HC := Lib.hid hcall
        clear hd hpe hcall
        go_wp2_with (go_at_fn 52; refine HC.out.mono ?_; rintro e7 w7 ⟨rfl, rfl⟩)
        go_ret
        exact ⟨⟨_, rfl, by rw [HD.out]; exact ⟨(fun _ => by omega), (fun h9 => by cases h9)⟩⟩, HF.out⟩
      | false =>
        rw [hpe] at hcall hd
        rw [Bool.false_or] at hd
        have HD := Lib.hid hd
        have HC := Lib.hid hcall
        clear hd hpe hcall
        go_wp2_with (go_at_fn 52; refine HC.out.mono ?_; rintro e7 w7 ⟨rfl, rfl⟩)
        go_roundg (xs.length - (k + 1))
        case rel => exact ⟨k + 1, rfl, by omega, by go_num, HD.out, HF.out⟩
        case measure => omega
    · have i5 : ¬ (k : Int) < (xs.length : Int) := by omega
      have HR : Hid (xs.any bad = false) := Lib.hid (by rw [← hd, List.drop_eq_nil_of_le (by omega)]; rfl)
      clear hd
      go_wp2_with fail
      go_ret
      exact ⟨⟨-1, rfl, by rw [HR.out]; exact ⟨(fun h9 => by cases h9), fun _ => rfl⟩⟩, HF.out⟩

theorem containsS_any (B : Nat) (a : Option Addr) (cap : Nat) (xs : List Nm) (w : World) (hx : ∀ s ∈ xs, s.length ≤ maxLen) (h : Rd B w a xs.length cap 1 (strs xs)) :
    Calls Try.prog 51 #[.slice a xs.length cap, .func (.func 52) #[] #[]] w fun e w' => e = .returned (.bool (xs.any bad)) ∧ Frm [] w w' := by
  have hi := idxS_any B a cap xs w hx h
  have HI := Lib.hid hi
  clear hi h
  go_enter Try.func51, Try.ntmps51
  go_wp2_with fail
  refine HI.out.mono ?_
  rintro e1 w1 ⟨⟨v, rfl, hv⟩, hf1⟩
  obtain ⟨h1, h2⟩ := hv
  cases hr : xs.any bad with
  | true =>
    have h3 := h1 hr
    have HR := Lib.hid hr
    clear h1 h2 hr HI
    go_wp2_with fail
    go_ret
    exact ⟨by rw [HR.out]; rfl, hf1⟩
  | false =>
    have h3 := h2 hr
    subst h3
    have HR := Lib.hid hr
    clear h1 h2 hr HI
    go_wp2_with fail
    go_ret
    exact ⟨by rw [HR.out]; rfl, hf1⟩

def missC (m : DM) (s : Nm) (xs : List Nm) : Int := if m.off = true then 25 else if goodN s = false ∨ xs.any bad = true then 1 else if findD m.dir s = none then 21 else 0
set_option linter.unusedSimpArgs false in
set_option maxRecDepth 100000 in
set_option maxHeartbeats 1000000 in
theorem check_any {w : World} {d b1 B : Nat} {x2 x3 : Value} {bs : Nat → Nat} {m : DM} (h : RowAt w d 58 (hdC m (.map (some b1)) x2 x3)) (hm : MapD w b1 bs m.dir) (s : Nm) (hs : s.length ≤ maxLen) (a : Option Addr) (cap : Nat) (xs : List Nm) (hx : ∀ s ∈ xs, s.length ≤ maxLen) (hr : Rd B w a xs.length cap 1 (strs xs)) :
    Calls Try.prog 33 #[.pointer (some ⟨d, 0, none⟩), str s, .slice a xs.length cap] w fun e w' => e = .returned (.int .i64 (missC m s xs)) ∧ Frm [] w w' := by
  have c6 := h.cell (i := 6) rfl
  have hv := valid_any s w hs
  cases hoff : m.off
  · rw [hoff] at c6
    cases hg : goodN s
    · rw [hg] at hv
      have hE : missC m s xs = 1 := by simp [missC, hoff, hg]
      rw [hE]
      clear h hm hr hg hoff hE
      go_enter Try.func33, Try.ntmps33
      go_wp2_with fail
      refine hv.mono ?_
      rintro e1 w1 ⟨rfl, rfl⟩
      clear hv
      go_wp2_with fail
      go_ret
      exact ⟨rfl, Frm.refl _ _⟩
    · rw [hg] at hv
      have hco := containsS_any B a cap xs w hx hr
      cases hb : xs.any bad
      · rw [hb] at hco
        have c1 := h.cell (i := 1) rfl
        have HM := Lib.hid hm
        have H := Lib.hid h
        have HE : Hid (missC m s xs = if findD m.dir s = none then 21 else 0) := Lib.hid (by simp [missC, hoff, hg, hb])
        clear h hm hr hg hoff hb
        go_enter Try.func33, Try.ntmps33
        go_wp2_with fail
        refine hv.mono ?_
        rintro e1 w1 ⟨rfl, rfl⟩
        clear hv
        go_wp2_with fail
        refine hco.mono ?_
        rintro e2 w2 ⟨rfl, hf2⟩
        have d1 := hf2.cell c1 (by simp)
        have hlk := (HM.out.frm hf2 (by simp)).look hs
        clear c1 hco
        cases hfd : findD m.dir s with
        | none =>
          rw [hfd] at hlk
          have hlk' : (Instr.lookup 55 (.map (some b1)) (str s) false).run Try.prog w2 = .ok (.pointer none) w2 := hlk
          have HE2 : Hid (missC m s xs = 21) := Lib.hid (by rw [HE.out, if_pos hfd])
          clear hlk hfd
          go_wp2_with fail
          go_ret
          exact ⟨by rw [HE2.out]; rfl, hf2⟩
        | some i =>
          rw [hfd] at hlk
          have hlk' : (Instr.lookup 55 (.map (some b1)) (str s) false).run Try.prog w2 = .ok (.pointer (some ⟨bs i, 0, none⟩)) w2 := hlk
          have HE2 : Hid (missC m s xs = 0) := Lib.hid (by rw [HE.out, if_neg (by rw [hfd]; simp)])
          clear hlk hfd
          go_wp2_with fail
          go_ret
          exact ⟨by rw [HE2.out]; rfl, hf2⟩
      · rw [hb] at hco
        have hE : missC m s xs = 1 := by simp [missC, hoff, hb]
        rw [hE]
        clear h hm hr hg hoff hb hE
        go_enter Try.func33, Try.ntmps33
        go_wp2_with fail
        refine hv.mono ?_
        rintro e1 w1 ⟨rfl, rfl⟩
        clear hv
        go_wp2_with fail
        refine hco.mono ?_
        rintro e2 w2 ⟨rfl, hf2⟩
        go_wp2_with fail
        go_ret
        exact ⟨rfl, hf2⟩
  · rw [hoff] at c6
    have hE : missC m s xs = 25 := by simp [missC, hoff]
    rw [hE]
    clear h hm hr hoff hE hv
    go_enter Try.func33, Try.ntmps33
    go_wp2_with fail
    go_ret
    exact ⟨rfl, Frm.refl _ _⟩

end Go.Proofs.Ytkebdgbjgbcneaa
