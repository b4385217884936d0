/- Contracts of Initials, Stable, Acceptance of the reference. -/
import Derived.Test.YtknfdpkfomlckaaGJ
namespace Go.Proofs.Ytknfdpkfomlckaa
open Go.RowKit

def refEvs (row : List Arc) : List Int := row.foldl (fun acc a => addI acc a.1) []
theorem foldl_add_len (row : List Arc) : ∀ acc : List Int, (row.foldl (fun acc a => addI acc a.1) acc).length ≤ acc.length + row.length := by
  induction row with
  | nil => simp
  | cons a r ih => intro acc; simp only [List.foldl_cons, List.length_cons]; have := ih (addI acc a.1); have := addI_len acc a.1; omega
def rinitG (l : Lts) (s : Int) : List Int := if validB l = true ∧ inB l.length s = true then refEvs (l.getD s.toNat []) else []

set_option maxRecDepth 100000 in
set_option maxHeartbeats 1000000 in
theorem rinitials_any (B : Nat) (a : Option Addr) (cap : Nat) (l : Lts) (s : Int) (w : World) (h : LAt B w a cap l) :
    Calls Try.prog 54 #[.agg #[.slice a l.length cap], .int .i64 s] w fun e w' => ∃ a' cp, e = .returned (.slice a' (rinitG l s).length cp) ∧ OwnI w.heap.size w' a' cp (rinitG l s) ∧ Frm [] w w' := by
  have f0 : Frm [] w (w.alloc (.cells #[.slice a l.length cap] 25)) := (Frm.refl [] w).alloc _
  have hbox := box1 w (.slice a l.length cap) 25
  have HB := Lib.hid hbox
  have H0 := Lib.hid (h.nil f0 rfl)
  have hva := refValid_any B a cap l _ (h.nil f0 rfl)
  have hl := h.lt
  clear h hbox
  go_enter Try.func54, Try.ntmps54
  go_wp2_with fail
  refine hva.mono ?_
  rintro e1 w1 ⟨rfl, hf1⟩
  clear hva
  have F1 := f0.trans hf1 (by simp)
  have hb1 := (HB.out.frm hf1 (by simp)).cell (i := 0) rfl
  cases hv : validB l with
  | false =>
    have HR : Hid (rinitG l s = []) := Lib.hid (by rw [rinitG, hv]; rfl)
    clear hv
    go_wp2_with fail
    go_ret
    rw [HR.out]
    exact ⟨none, 0, rfl, OwnI.nil _ _, F1⟩
  | true =>
    have HV := Lib.hid hv
    clear hv
    cases hst : inB l.length s with
    | false =>
      have HR : Hid (rinitG l s = []) := Lib.hid (by rw [rinitG, hst]; simp)
      rcases (inB_false _ _).1 hst with h1 | ⟨h1, h2⟩
      all_goals
        clear hst
        go_wp2_with fail
        go_ret
        rw [HR.out]
        exact ⟨none, 0, rfl, OwnI.nil _ _, F1⟩
    | true =>
      obtain ⟨h1, h2⟩ := (inB_iff _ _).1 hst
      obtain ⟨n, row, rfl, hrow, hget⟩ := inB_row hst
      have HR : Hid (rinitG l (n : Int) = refEvs row) := Lib.hid (by rw [rinitG, hst, HV.out, if_pos ⟨rfl, rfl⟩, hget])
      have hfew : row.length ≤ 262144 := ((vlts_of HV.out).row row (List.mem_of_getElem? hrow)).few
      have H1 := Lib.hid (H0.out.frm hf1 (by simp))
      obtain ⟨b, o, ra, rc, rfl, hb, hc, hrr⟩ := H1.out.cell n row hrow
      have HC := Lib.hid hc
      have HRR := Lib.hid hrr
      have HB1 := Lib.hid hb1
      have hs1 := hf1.size
      simp only [World.alloc, Array.size_push] at hs1
      have hz0 : decide ((n : Int) < 0) = false := by simp
      have hz1 : decide (l.length ≤ n) = false := by simp; omega
      clear hst hrow hget hrr
      go_wp2_with fail
      clear hb1 hc
      go_loopg [5, 6] row.length (fun q v i wr => ∃ (k m : Nat) (acc : List Int) (a' : Option Addr) (cp : Nat), q = row.length - k ∧ k ≤ row.length ∧ i = .int .i64 k ∧ v = .slice a' m cp ∧ acc.length = m ∧ m ≤ k ∧ (acc = [] → a' = none ∧ cp = 0) ∧ (row.drop k).foldl (fun acc a => addI acc a.1) acc = refEvs row ∧ wr.ownsRow w1.heap.size 3 1 (.slice a' m cp) m (ints acc) ∧ Frm [] w1 wr)
      case atStart => exact ⟨0, 0, [], none, 0, rfl, Nat.zero_le _, rfl, rfl, rfl, Nat.le_refl _, fun _ => ⟨rfl, rfl⟩, rfl, OwnI.nil _ _, Frm.refl _ _⟩
      case round =>
        obtain ⟨k, m, acc, a', cp, rfl, hk, rfl, rfl, hm, hmk, hz, hd, hown, hF⟩ := hrel
        have HF := Lib.hid hF
        have HZ := Lib.hid hz
        have i4 : (0 : Int) ≤ (k : Int) := by omega
        have HM := Lib.hid hm
        have HOWN := Lib.hid hown
        have hb2 := hF.cell HB1.out (by simp)
        have hc2 := hF.cell HC.out (by simp)
        have hsz := hF.size
        clear hF hown hm hz
        by_cases hlt : k < row.length
        · have i5 : (k : Int) < (row.length : Int) := by omega
          obtain ⟨⟨e, t⟩, hy⟩ : ∃ y, row[k]? = some y := ⟨_, List.getElem?_eq_getElem hlt⟩
          rw [drop_cons hy, List.foldl_cons] at hd
          obtain ⟨g1, o1, rfl, _, c1, c2⟩ := HRR.out.2.2.2 k e t hy
          have d1 := HF.out.cell c1 (by simp)
          have HD := Lib.hid hd
          clear c1 c2 hy hd
          have had : Calls Try.prog 61 #[.slice a' m cp, .int .i64 e] wr fun e9 w' => ∃ a cp, e9 = .returned (.slice a (addI acc e).length cp) ∧ OwnI w1.heap.size w' a cp (addI acc e) ∧ Frm [] wr w' := by
            have := add_any w1.heap.size a' cp acc e wr hsz (by rw [OwnI, HM.out]; exact HOWN.out) HZ.out (by rw [HM.out]; omega)
            rw [HM.out] at this
            exact this
          have HADD := Lib.hid had
          clear had
          go_wp2_with fail
          refine HADD.out.mono ?_
          rintro e3 w3 ⟨a3, cp3, rfl, ho3, hf3⟩
          go_wp2_with fail
          go_roundg (row.length - (k + 1))
          case rel => exact ⟨k + 1, _, addI acc e, a3, cp3, rfl, by omega, by go_num, rfl, rfl, by have := addI_len acc e; have := HM.out; omega, fun h9 => absurd h9 (addI_ne _ _), HD.out, ho3, HF.out.trans hf3 (by simp)⟩
          case measure => omega
        · have i5 : ¬ (k : Int) < (row.length : Int) := by omega
          have HRR2 : Hid (acc = refEvs row) := Lib.hid (by rw [← hd, List.drop_eq_nil_of_le (by omega)]; rfl)
          clear hd
          go_wp2_with fail
          go_ret
          rw [HR.out, ← HRR2.out, HM.out]
          exact ⟨a', cp, rfl, by rw [OwnI, HM.out]; exact ownsB_mono HOWN.out (by omega), F1.trans HF.out (by simp)⟩

def rstableG (l : Lts) (s : Int) : Bool := validB l && (inB l.length s && !hasB (rinitG l s) 0)
def raccG (l : Lts) (s : Int) : List Int × Bool := if hasB (rinitG l s) 1 = true then ([1], true) else if rstableG l s = true then (rinitG l s, true) else ([], false)

set_option maxRecDepth 100000 in
set_option maxHeartbeats 1000000 in
theorem rstable_any (B : Nat) (a : Option Addr) (cap : Nat) (l : Lts) (s : Int) (w : World) (h : LAt B w a cap l) :
    Calls Try.prog 56 #[.agg #[.slice a l.length cap], .int .i64 s] w fun e w' => e = .returned (.bool (rstableG l s)) ∧ Frm [] w w' := by
  have f0 : Frm [] w (w.alloc (.cells #[.slice a l.length cap] 25)) := (Frm.refl [] w).alloc _
  have hbox := box1 w (.slice a l.length cap) 25
  have HB := Lib.hid hbox
  have H0 := Lib.hid (h.nil f0 rfl)
  have hva := refValid_any B a cap l _ (h.nil f0 rfl)
  have hl := h.lt
  clear h hbox
  go_enter Try.func56, Try.ntmps56
  go_wp2_with fail
  refine hva.mono ?_
  rintro e1 w1 ⟨rfl, hf1⟩
  clear hva
  have F1 := f0.trans hf1 (by simp)
  have hb1 := (HB.out.frm hf1 (by simp)).cell (i := 0) rfl
  cases hv : validB l with
  | false =>
    have HR : Hid (rstableG l s = false) := Lib.hid (by rw [rstableG, hv]; rfl)
    clear hv
    go_wp2_with fail
    go_ret
    rw [HR.out]
    exact ⟨rfl, F1⟩
  | true =>
    have HV := Lib.hid hv
    clear hv
    cases hst : inB l.length s with
    | false =>
      have HR : Hid (rstableG l s = false) := Lib.hid (by rw [rstableG, hst]; simp)
      rcases (inB_false _ _).1 hst with h1 | ⟨h1, h2⟩
      all_goals
        clear hst
        go_wp2_with fail
        go_ret
        rw [HR.out]
        first | exact ⟨rfl, F1⟩ | exact ⟨ret_bool (by simp; omega), F1⟩
    | true =>
      obtain ⟨h1, h2⟩ := (inB_iff _ _).1 hst
      have hin := rinitials_any B a cap l s w1 (H0.out.frm hf1 (by simp))
      have HI := Lib.hid hin
      have HST := Lib.hid hst
      clear hst hin
      go_wp2_with fail
      refine HI.out.mono ?_
      rintro e2 w2 ⟨a2, cp2, rfl, ho2, hf2⟩
      clear HI
      have F2 := F1.trans hf2 (by simp)
      have hh := has_any _ a2 cp2 (rinitG l s) 0 w2 (ho2.rd (Nat.le_refl _))
      have HR : Hid (rstableG l s = !hasB (rinitG l s) 0) := Lib.hid (by rw [rstableG, HST.out, HV.out]; rfl)
      clear ho2
      go_wp2_with fail
      refine hh.mono ?_
      rintro e3 w3 ⟨rfl, hf3⟩
      clear hh hb1
      go_wp2_with fail
      go_ret
      rw [HR.out]
      exact ⟨rfl, F2.trans hf3 (by simp)⟩

set_option maxRecDepth 100000 in
set_option maxHeartbeats 1000000 in
theorem racc_any (B : Nat) (a : Option Addr) (cap : Nat) (l : Lts) (s : Int) (w : World) (h : LAt B w a cap l) :
    Calls Try.prog 52 #[.agg #[.slice a l.length cap], .int .i64 s] w fun e w' => ∃ a' cp, e = .returned (.tuple #[.slice a' (raccG l s).1.length cp, .bool (raccG l s).2]) ∧ OwnI w.heap.size w' a' cp (raccG l s).1 ∧ Frm [] w w' := by
  have f0 : Frm [] w (w.alloc (.cells #[.slice a l.length cap] 25)) := (Frm.refl [] w).alloc _
  have hbox := box1 w (.slice a l.length cap) 25
  have HB := Lib.hid hbox
  have H0 := Lib.hid (h.nil f0 rfl)
  have hin := rinitials_any B a cap l s _ (h.nil f0 rfl)
  have HI := Lib.hid hin
  clear h hbox hin
  go_enter Try.func52, Try.ntmps52
  go_wp2_with fail
  refine HI.out.mono ?_
  rintro e1 w1 ⟨a1, cp1, rfl, ho1, hf1⟩
  clear HI
  have F1 := f0.trans hf1 (by simp)
  have hb1 := (HB.out.frm hf1 (by simp)).cell (i := 0) rfl
  have hh := has_any _ a1 cp1 (rinitG l s) 1 w1 (ho1.rd (Nat.le_refl _))
  have HO := Lib.hid ho1
  clear ho1
  go_wp2_with fail
  refine hh.mono ?_
  rintro e2 w2 ⟨rfl, hf2⟩
  clear hh hb1
  have F2 := F1.trans hf2 (by simp)
  have hb2 := (HB.out.frm (hf1.trans hf2 (by simp)) (by simp)).cell (i := 0) rfl
  cases ht : hasB (rinitG l s) 1 with
  | true =>
    have HR : Hid (raccG l s = ([1], true)) := Lib.hid (by rw [raccG, ht]; rfl)
    clear ht
    go_wp2_with fail
    go_ret2
    rw [HR.out]
    refine ⟨some ⟨w2.heap.size, 0, none⟩, 1, rfl, ?_, F2.alloc _⟩
    exact ownsB_mono (owni_made w2 [1] (by decide)) (F2.size)
  | false =>
    have hst := rstable_any B a cap l s w2 ((H0.out.frm hf1 (by simp)).frm hf2 (by simp))
    go_wp2_with fail
    refine hst.mono ?_
    rintro e3 w3 ⟨rfl, hf3⟩
    clear hst hb2
    have F3 := F2.trans hf3 (by simp)
    cases hst : rstableG l s with
    | false =>
      have HR : Hid (raccG l s = ([], false)) := Lib.hid (by rw [raccG, ht, hst]; rfl)
      clear ht hst
      go_wp2_with fail
      go_ret2
      rw [HR.out]
      exact ⟨none, 0, rfl, OwnI.nil _ _, F3⟩
    | true =>
      have HR : Hid (raccG l s = (rinitG l s, true)) := Lib.hid (by rw [raccG, ht, hst]; rfl)
      clear ht hst
      go_wp2_with fail
      go_ret2
      rw [HR.out]
      have ho3 := ownsB_frm HO.out (hf2.trans hf3 (by simp)) (by simp)
      exact ⟨a1, cp1, rfl, ownsB_mono ho3 (by have := f0.size; omega), F3⟩

end Go.Proofs.Ytknfdpkfomlckaa
