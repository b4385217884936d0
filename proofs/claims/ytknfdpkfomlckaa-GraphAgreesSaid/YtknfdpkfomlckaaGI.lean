/- Contracts of flow.Acceptance, graph.Initials, graph.Stable, graph.Acceptance. -/
import Derived.Test.YtknfdpkfomlckaaGH
namespace Go.Proofs.Ytknfdpkfomlckaa
open Go.RowKit

/-! ### what a valid system is -/
theorem looseGo_row (n : Nat) : ∀ (c : Nat) (l : Lts), looseGo n c l = true → ∀ row ∈ l, row.length ≤ 262144 ∧ row.all (arcOk n) = true
  | _, [], _, row, hr => by simp at hr
  | c, x :: r, h, row, hr => by
    simp only [looseGo, Bool.and_eq_true, decide_eq_true_eq] at h
    rcases List.mem_cons.1 hr with rfl | hr
    · exact ⟨by omega, h.2.1⟩
    · exact looseGo_row n _ r h.2.2 row hr
structure VRow (n : Nat) (row : List Arc) : Prop where
  few : row.length ≤ 262144
  asc : ascB row = true
  ok : ∀ (e t : Int), (e, t) ∈ row → 0 ≤ e ∧ e ≤ 1025 ∧ 0 ≤ t ∧ t < (n : Int)
structure VLts (l : Lts) : Prop where
  pos : 1 ≤ l.length
  few : l.length ≤ 16384
  row : ∀ row ∈ l, VRow l.length row
theorem vlts_of {l : Lts} (h : validB l = true) : VLts l := by
  simp only [validB, looseB, Bool.and_eq_true, decide_eq_true_eq] at h
  obtain ⟨⟨⟨h1, h2⟩, h3⟩, h4⟩ := h
  refine ⟨h1, h2, fun row hr => ?_⟩
  obtain ⟨h5, h6⟩ := looseGo_row _ _ _ h3 row hr
  refine ⟨h5, List.all_eq_true.1 h4 row hr, fun e t he => ?_⟩
  exact arcOk_true (List.all_eq_true.1 h6 _ he)
theorem inB_row {l : Lts} {s : Int} (h : inB l.length s = true) : ∃ (n : Nat) (row : List Arc), s = (n : Int) ∧ l[n]? = some row ∧ l.getD s.toNat [] = row := by
  obtain ⟨h1, h2⟩ := (inB_iff _ _).1 h
  refine ⟨s.toNat, l[s.toNat]'(by omega), by omega, List.getElem?_eq_getElem (by omega), ?_⟩
  rw [List.getD_eq_getElem?_getD, List.getElem?_eq_getElem (by omega)]
  rfl

theorem owni_made (w : World) (xs : List Int) (hn : xs.length ≤ maxLen) : OwnI w.heap.size (w.alloc (.cells (ints xs).toArray 3)) (some ⟨w.heap.size, 0, none⟩) xs.length xs :=
  ⟨by simp [ints], .inr ⟨w.heap.size, xs.length, (ints xs).toArray, rfl, Nat.le_refl _, heap_alloc_new w _, Nat.le_refl _, hn, by simp [ints], by simp only [ints, Nat.mul_one]; exact List.take_of_length_le (by simp)⟩⟩

def accF (row : List Arc) : List Int × Bool := if anyA isTick row = true then ([1], true) else if stableR row = true then (evs row, true) else ([], false)

set_option maxRecDepth 100000 in
set_option maxHeartbeats 1000000 in
theorem facc_any (B : Nat) (a : Option Addr) (cap : Nat) (l : Lts) (s : Nat) (row : List Arc) (w : World) (h : LAt B w a cap l) (hs : l[s]? = some row) (hfew : row.length ≤ 1000000) :
    Calls Try.prog 58 #[.agg #[.slice a l.length cap], .int .i64 (s : Int)] w fun e w' => ∃ a' cp, e = .returned (.tuple #[.slice a' (accF row).1.length cp, .bool (accF row).2]) ∧ OwnI w.heap.size w' a' cp (accF row).1 ∧ Frm [] w w' := by
  have f0 : Frm [] w (w.alloc (.cells #[.slice a l.length cap] 25)) := (Frm.refl [] w).alloc _
  have hbox := box1 w (.slice a l.length cap) 25
  have HB := Lib.hid hbox
  have H0 := Lib.hid (h.nil f0 rfl)
  have HS := Lib.hid hs
  have htk := ticks_any B a cap l s row _ (h.nil f0 rfl) hs
  clear h hs hbox
  go_enter Try.func58, Try.ntmps58
  go_wp2_with fail
  refine htk.mono ?_
  rintro e1 w1 ⟨rfl, hf1⟩
  clear htk
  have F1 := f0.trans hf1 (by simp)
  have hb1 := (HB.out.frm hf1 (by simp)).cell (i := 0) rfl
  cases ht : anyA isTick row with
  | true =>
    have HR : Hid (accF row = ([1], true)) := Lib.hid (by rw [accF, ht]; rfl)
    clear ht
    go_wp2_with fail
    go_ret2
    rw [HR.out]
    refine ⟨some ⟨w1.heap.size, 0, none⟩, 1, rfl, ?_, F1.alloc _⟩
    exact ownsB_mono (owni_made w1 [1] (by decide)) (F1.size)
  | false =>
    have hst := fstable_any B a cap l s row w1 (H0.out.frm hf1 (by simp)) HS.out
    go_wp2_with fail
    refine hst.mono ?_
    rintro e2 w2 ⟨rfl, hf2⟩
    clear hst hb1
    have F2 := F1.trans hf2 (by simp)
    have hb2 := (HB.out.frm (hf1.trans hf2 (by simp)) (by simp)).cell (i := 0) rfl
    cases hst : stableR row with
    | false =>
      have HR : Hid (accF row = ([], false)) := Lib.hid (by rw [accF, ht, hst]; rfl)
      clear ht hst
      go_wp2_with fail
      go_ret2
      rw [HR.out]
      exact ⟨none, 0, rfl, OwnI.nil _ _, F2⟩
    | true =>
      have HR : Hid (accF row = (evs row, true)) := Lib.hid (by rw [accF, ht, hst]; rfl)
      have hfi := finitials_any B a cap l s row w2 ((H0.out.frm hf1 (by simp)).frm hf2 (by simp)) HS.out hfew
      clear ht hst
      go_wp2_with fail
      refine hfi.mono ?_
      rintro e3 w3 ⟨a3, cp3, rfl, ho3, hf3⟩
      clear hfi
      go_wp2_with fail
      go_ret2
      rw [HR.out]
      exact ⟨a3, cp3, rfl, ownsB_mono ho3 F2.size, F2.trans hf3 (by simp)⟩

def initG (l : Lts) (s : Int) : List Int := if validB l = true ∧ inB l.length s = true then evs (l.getD s.toNat []) else []
def stableG (l : Lts) (s : Int) : Bool := validB l && (inB l.length s && stableR (l.getD s.toNat []))
def accG (l : Lts) (s : Int) : List Int × Bool := if validB l = true ∧ inB l.length s = true then accF (l.getD s.toNat []) else ([], false)

set_option maxRecDepth 100000 in
set_option maxHeartbeats 1000000 in
theorem ginitials_any (B : Nat) (a : Option Addr) (cap : Nat) (l : Lts) (s : Int) (w : World) (h : LAt B w a cap l) :
    Calls Try.prog 53 #[.agg #[.slice a l.length cap], .int .i64 s] w fun e w' => ∃ a' cp, e = .returned (.slice a' (initG l s).length cp) ∧ OwnI w.heap.size w' a' cp (initG l s) ∧ Frm [] w w' := by
  have f0 : Frm [] w (w.alloc (.cells #[.slice a l.length cap] 25)) := (Frm.refl [] w).alloc _
  have hbox := box1 w (.slice a l.length cap) 25
  have HB := Lib.hid hbox
  have H0 := Lib.hid (h.nil f0 rfl)
  have hva := valid_any B a cap l _ (h.nil f0 rfl)
  clear h hbox
  go_enter Try.func53, Try.ntmps53
  go_wp2_with fail
  refine hva.mono ?_
  rintro e1 w1 ⟨rfl, hf1⟩
  clear hva
  have F1 := f0.trans hf1 (by simp)
  have hb1 := (HB.out.frm hf1 (by simp)).cell (i := 0) rfl
  cases hv : validB l with
  | false =>
    have HR : Hid (initG l s = []) := Lib.hid (by rw [initG, hv]; rfl)
    clear hv
    go_wp2_with fail
    go_ret
    rw [HR.out]
    exact ⟨none, 0, rfl, OwnI.nil _ _, F1⟩
  | true =>
    have HV := Lib.hid hv
    have hst := state_any B a cap l s w1 (H0.out.frm hf1 (by simp))
    clear hv
    go_wp2_with fail
    refine hst.mono ?_
    rintro e2 w2 ⟨rfl, hf2⟩
    clear hst hb1
    have F2 := F1.trans hf2 (by simp)
    have hb2 := (HB.out.frm (hf1.trans hf2 (by simp)) (by simp)).cell (i := 0) rfl
    cases hst : inB l.length s with
    | false =>
      have HR : Hid (initG l s = []) := Lib.hid (by rw [initG, hst]; simp)
      clear hst
      go_wp2_with fail
      go_ret
      rw [HR.out]
      exact ⟨none, 0, rfl, OwnI.nil _ _, F2⟩
    | true =>
      obtain ⟨n, row, rfl, hrow, hget⟩ := inB_row hst
      have HR : Hid (initG l (n : Int) = evs row) := Lib.hid (by rw [initG, hst, HV.out, if_pos ⟨rfl, rfl⟩, hget])
      have hfi := finitials_any B a cap l n row w2 ((H0.out.frm hf1 (by simp)).frm hf2 (by simp)) hrow (by have := ((vlts_of HV.out).row row (List.mem_of_getElem? hrow)).few; omega)
      clear hst hrow hget
      go_wp2_with fail
      refine hfi.mono ?_
      rintro e3 w3 ⟨a3, cp3, rfl, ho3, hf3⟩
      clear hfi
      go_wp2_with fail
      go_ret
      rw [HR.out]
      exact ⟨a3, cp3, rfl, ownsB_mono ho3 F2.size, F2.trans hf3 (by simp)⟩

set_option maxRecDepth 100000 in
set_option maxHeartbeats 1000000 in
theorem gstable_any (B : Nat) (a : Option Addr) (cap : Nat) (l : Lts) (s : Int) (w : World) (h : LAt B w a cap l) :
    Calls Try.prog 55 #[.agg #[.slice a l.length cap], .int .i64 s] w fun e w' => e = .returned (.bool (stableG l s)) ∧ Frm [] w w' := by
  have f0 : Frm [] w (w.alloc (.cells #[.slice a l.length cap] 25)) := (Frm.refl [] w).alloc _
  have hbox := box1 w (.slice a l.length cap) 25
  have HB := Lib.hid hbox
  have H0 := Lib.hid (h.nil f0 rfl)
  have hva := valid_any B a cap l _ (h.nil f0 rfl)
  clear h hbox
  go_enter Try.func55, Try.ntmps55
  go_wp2_with fail
  refine hva.mono ?_
  rintro e1 w1 ⟨rfl, hf1⟩
  clear hva
  have F1 := f0.trans hf1 (by simp)
  have hb1 := (HB.out.frm hf1 (by simp)).cell (i := 0) rfl
  cases hv : validB l with
  | false =>
    have HR : Hid (stableG l s = false) := Lib.hid (by rw [stableG, hv]; rfl)
    clear hv
    go_wp2_with fail
    go_ret
    rw [HR.out]
    exact ⟨rfl, F1⟩
  | true =>
    have HV := Lib.hid hv
    have hst := state_any B a cap l s w1 (H0.out.frm hf1 (by simp))
    clear hv
    go_wp2_with fail
    refine hst.mono ?_
    rintro e2 w2 ⟨rfl, hf2⟩
    clear hst hb1
    have F2 := F1.trans hf2 (by simp)
    have hb2 := (HB.out.frm (hf1.trans hf2 (by simp)) (by simp)).cell (i := 0) rfl
    cases hst : inB l.length s with
    | false =>
      have HR : Hid (stableG l s = false) := Lib.hid (by rw [stableG, hst]; simp)
      clear hst
      go_wp2_with fail
      go_ret
      rw [HR.out]
      exact ⟨rfl, F2⟩
    | true =>
      obtain ⟨n, row, rfl, hrow, hget⟩ := inB_row hst
      have HR : Hid (stableG l (n : Int) = stableR row) := Lib.hid (by rw [stableG, hst, HV.out, hget]; rfl)
      have hfi := fstable_any B a cap l n row w2 ((H0.out.frm hf1 (by simp)).frm hf2 (by simp)) hrow
      clear hst hrow hget
      go_wp2_with fail
      refine hfi.mono ?_
      rintro e3 w3 ⟨rfl, hf3⟩
      clear hfi
      go_wp2_with fail
      go_ret
      rw [HR.out]
      exact ⟨rfl, F2.trans hf3 (by simp)⟩

set_option maxRecDepth 100000 in
set_option maxHeartbeats 1000000 in
theorem gacc_any (B : Nat) (a : Option Addr) (cap : Nat) (l : Lts) (s : Int) (w : World) (h : LAt B w a cap l) :
    Calls Try.prog 30 #[.agg #[.slice a l.length cap], .int .i64 s] w fun e w' => ∃ a' cp, e = .returned (.tuple #[.slice a' (accG l s).1.length cp, .bool (accG l s).2]) ∧ OwnI w.heap.size w' a' cp (accG l s).1 ∧ Frm [] w w' := by
  have f0 : Frm [] w (w.alloc (.cells #[.slice a l.length cap] 25)) := (Frm.refl [] w).alloc _
  have hbox := box1 w (.slice a l.length cap) 25
  have HB := Lib.hid hbox
  have H0 := Lib.hid (h.nil f0 rfl)
  have hva := valid_any B a cap l _ (h.nil f0 rfl)
  clear h hbox
  go_enter Try.func30, Try.ntmps30
  go_wp2_with fail
  refine hva.mono ?_
  rintro e1 w1 ⟨rfl, hf1⟩
  clear hva
  have F1 := f0.trans hf1 (by simp)
  have hb1 := (HB.out.frm hf1 (by simp)).cell (i := 0) rfl
  cases hv : validB l with
  | false =>
    have HR : Hid (accG l s = ([], false)) := Lib.hid (by rw [accG, hv]; rfl)
    clear hv
    go_wp2_with fail
    go_ret2
    rw [HR.out]
    exact ⟨none, 0, rfl, OwnI.nil _ _, F1⟩
  | true =>
    have HV := Lib.hid hv
    have hst := state_any B a cap l s w1 (H0.out.frm hf1 (by simp))
    clear hv
    go_wp2_with fail
    refine hst.mono ?_
    rintro e2 w2 ⟨rfl, hf2⟩
    clear hst hb1
    have F2 := F1.trans hf2 (by simp)
    have hb2 := (HB.out.frm (hf1.trans hf2 (by simp)) (by simp)).cell (i := 0) rfl
    cases hst : inB l.length s with
    | false =>
      have HR : Hid (accG l s = ([], false)) := Lib.hid (by rw [accG, hst]; simp)
      clear hst
      go_wp2_with fail
      go_ret2
      rw [HR.out]
      exact ⟨none, 0, rfl, OwnI.nil _ _, F2⟩
    | true =>
      obtain ⟨n, row, rfl, hrow, hget⟩ := inB_row hst
      have HR : Hid (accG l (n : Int) = accF row) := Lib.hid (by rw [accG, hst, HV.out, if_pos ⟨rfl, rfl⟩, hget])
      have hfi := facc_any B a cap l n row w2 ((H0.out.frm hf1 (by simp)).frm hf2 (by simp)) hrow (by have := ((vlts_of HV.out).row row (List.mem_of_getElem? hrow)).few; omega)
      clear hst hrow hget
      go_wp2_with fail
      refine hfi.mono ?_
      rintro e3 w3 ⟨a3, cp3, rfl, ho3, hf3⟩
      clear hfi
      go_wp2_with fail
      go_ret2
      rw [HR.out]
      exact ⟨a3, cp3, rfl, ownsB_mono ho3 F2.size, F2.trans hf3 (by simp)⟩

end Go.Proofs.Ytknfdpkfomlckaa
