/- Contracts of IndexFunc and ContainsFunc over rows of arcs, of Norm with its closure. (Printed by wip/tools/k7.py.) -/
import Derived.Test.YtfndgiinniibfaaK6
namespace Go.Proofs.Ytfndgiinniibfaa.Ind
open Go.Shelf
open Go.RowKit

theorem statesShape {w : World} {F : List Nat} {v : Value} {st : List (List RA)} (h : StatesAt w F v st) : ∃ a c, v = .slice a st.length c ∧ (st.length : Int) ≤ 9223372036854775807 := by
  obtain ⟨l, h1, h2, _⟩ := h
  obtain ⟨_, a, c, e, h3, h4, _⟩ := h2
  exact ⟨a, c, e, by unfold maxLen at h4; omega⟩
/-- A closure that asks something of a row of arcs. -/
def PredS (F : List Nat) (g : Nat) (p : List RA → Bool) (w0 : World) : Prop :=
  ∀ (W : World) (v : Value) (x : List RA), Frm [] w0 W → ArcsAt W F v x → Calls Try.prog g #[v] W fun e' w' => e' = .returned (.bool (p x)) ∧ Frm [] W w'
set_option maxRecDepth 100000 in
set_option maxHeartbeats 1000000 in
theorem idxS_any {F : List Nat} (g : Nat) (p : List RA → Bool) (eg : ∀ args w, (callFunc g args).run Try.prog w = .ok (.enter g args) w) (v : Value) (xs : List (List RA)) (w : World) (hp : PredS F g p w) (h : StatesAt w F v xs) :
    Calls Try.prog 43 #[v, .func (.func g) #[] #[]] w fun e w' => (∃ v : Int, e = .returned (.int .i64 v) ∧ IdxP (xs.any p) v) ∧ Frm [] w w' := by
  obtain ⟨a, cap, rfl, l1⟩ := statesShape h
  have H := Lib.hid h
  have HP := Lib.hid hp
  clear h hp
  go_enter Try.func43, Try.ntmps43
  go_wp2_with fail
  go_loopg [8] xs.length (fun q i wr => ∃ (k : Nat), q = xs.length - k ∧ k ≤ xs.length ∧ i = .int .i64 k ∧ (xs.drop k).any p = xs.any p ∧ Frm [] w wr)
  case atStart => exact ⟨0, rfl, Nat.zero_le _, rfl, rfl, Frm.refl _ _⟩
  case round =>
    obtain ⟨k, rfl, hk, rfl, hd, hF⟩ := hrel
    have HF := Lib.hid hF
    have i4 : (0 : Int) ≤ (k : Int) := by omega
    clear hF
    by_cases hlt : k < xs.length
    · have i5 : (k : Int) < (xs.length : Int) := by omega
      obtain ⟨y, hy⟩ : ∃ y, xs[k]? = some y := ⟨_, List.getElem?_eq_getElem hlt⟩
      rw [drop_cons hy, List.any_cons] at hd
      obtain ⟨b, o, c, na, n, nc, e1, _, _, _, c0, rfl, harcs⟩ := H.out.at_ hy
      cases e1
      have d0 := HF.out.cell c0 (by simp)
      have hcall := HP.out wr _ y HF.out (harcs.nil HF.out)
      clear c0 hy harcs
      cases hpe : p y with
      | true =>
        rw [hpe] at hcall hd
        have HD : Hid (xs.any p = true) := Lib.hid (by rw [← hd]; simp)
        have HC := Lib.hid hcall
        clear hd hpe hcall
        go_wp2_with (go_at_fn g; refine HC.out.mono ?_; rintro e7 w7 ⟨rfl, hf7⟩)
        go_ret
        exact ⟨⟨_, rfl, by rw [HD.out]; exact ⟨(fun _ => by omega), (fun h9 => by cases h9)⟩⟩, HF.out.trans hf7 (by simp)⟩
      | false =>
        rw [hpe] at hcall hd
        rw [Bool.false_or] at hd
        have HD := Lib.hid hd
        have HC := Lib.hid hcall
        clear hd hpe hcall
        go_wp2_with (go_at_fn g; refine HC.out.mono ?_; rintro e7 w7 ⟨rfl, hf7⟩)
        go_roundg (xs.length - (k + 1))
        case rel => exact ⟨k + 1, rfl, by omega, by go_num, HD.out, HF.out.trans hf7 (by simp)⟩
        case measure => omega
    · have i5 : ¬ (k : Int) < (xs.length : Int) := by omega
      have HR : Hid (xs.any p = false) := Lib.hid (by rw [← hd, List.drop_eq_nil_of_le (by omega)]; rfl)
      clear hd
      go_wp2_with fail
      go_ret
      exact ⟨⟨-1, rfl, by rw [HR.out]; exact ⟨(fun h9 => by cases h9), fun _ => rfl⟩⟩, HF.out⟩

theorem containsS_any {F : List Nat} (g : Nat) (p : List RA → Bool) (eg : ∀ args w, (callFunc g args).run Try.prog w = .ok (.enter g args) w) (v : Value) (xs : List (List RA)) (w : World) (hp : PredS F g p w) (h : StatesAt w F v xs) :
    Calls Try.prog 27 #[v, .func (.func g) #[] #[]] w fun e w' => e = .returned (.bool (xs.any p)) ∧ Frm [] w w' := by
  have hi := idxS_any g p eg v xs w hp h
  have HI := Lib.hid hi
  clear hi h hp
  go_enter Try.func27, Try.ntmps27
  go_wp2_with fail
  refine HI.out.mono ?_
  rintro e1 w1 ⟨⟨v, rfl, hv⟩, hf1⟩
  obtain ⟨h1, h2⟩ := hv
  cases hr : xs.any p with
  | true =>
    have h3 := h1 hr
    have HR := Lib.hid hr
    clear h1 h2 hr HI
    go_wp2_with fail
    go_ret
    exact ⟨ret_bool (by rw [HR.out]), hf1⟩
  | false =>
    have h3 := h2 hr
    subst h3
    have HR := Lib.hid hr
    clear h1 h2 hr HI
    go_wp2_with fail
    go_ret
    exact ⟨ret_bool (by rw [HR.out]), hf1⟩

theorem badState_any {F : List Nat} (w : World) (v : Value) (row : List RA) (h : ArcsAt w F v row) :
    Calls Try.prog 28 #[v] w fun e w' => e = .returned (.bool (!decide (NormP row))) ∧ Frm [] w w' := by
  have hc := normState_any w v row h
  generalize decide (NormP row) = R at *
  obtain ⟨a, c, rfl, _⟩ := h.shape
  have HC := Lib.hid hc
  clear hc h
  go_enter Try.func28, Try.ntmps28
  go_wp2_with fail
  refine HC.out.mono ?_
  rintro e1 w1 ⟨rfl, hf1⟩
  cases R
  · go_wp2_with fail
    go_ret
    exact ⟨rfl, hf1⟩
  · go_wp2_with fail
    go_ret
    exact ⟨rfl, hf1⟩
instance (m : RM) : Decidable (NormM m) := by unfold NormM; infer_instance
theorem normM_eq (m : RM) : decide (NormM m) = (validM m && !(m.states.any fun r => !decide (NormP r))) := by
  rw [Bool.eq_iff_iff, decide_eq_true_iff]
  simp [NormM]
set_option maxHeartbeats 1000000 in
theorem norm_any {F : List Nat} (w : World) (m : RM) (sv : Value) (h : StatesAt w F sv m.states) :
    Calls Try.prog 9 #[machV m sv] w fun e w' => e = .returned (.bool (decide (NormM m))) ∧ Frm [] w w' := by
  rw [normM_eq]
  have eg : ∀ args w, (callFunc 28 args).run Try.prog w = .ok (.enter 28 args) w := enters_of Try.func28 (by kernel_rfl) rfl
  have HV : Hid (∀ W, Frm [] w W → Calls Try.prog 8 #[machV m sv] W fun e w' => e = .returned (.bool (validM m)) ∧ Frm [] W w') := Lib.hid fun W hf => valid_any W m sv (h.nil hf)
  have HN : Hid (∀ W, Frm [] w W → Calls Try.prog 27 #[sv, .func (.func 28) #[] #[]] W fun e w' => e = .returned (.bool (m.states.any fun r => !decide (NormP r))) ∧ Frm [] W w') := Lib.hid fun W hf =>
    containsS_any 28 (fun r => !decide (NormP r)) eg sv m.states W (fun W2 v x _ hx => badState_any W2 v x hx) (h.nil hf)
  generalize (m.states.any fun r => !decide (NormP r)) = S at *
  generalize validM m = R at *
  obtain ⟨sa, sc, rfl, _⟩ := statesShape h
  clear h eg
  generalize m.states.length = ns at *
  unfold machV at HV ⊢
  generalize m.regs = regs at *
  generalize m.data = data at *
  generalize m.plain = plain at *
  have f0 : Frm [] w (w.alloc (.cells #[.int .i64 regs, .int .i64 data, .int .i64 plain, .slice sa ns sc] 28)) := (Frm.refl [] w).alloc _
  have hbox := RowAt.made w 28 [.int .i64 regs, .int .i64 data, .int .i64 plain, .slice sa ns sc] #[.int .i64 regs, .int .i64 data, .int .i64 plain, .slice sa ns sc] rfl
  have HB := Lib.hid hbox
  clear hbox
  go_enter Try.func9, Try.ntmps9
  go_wp2_with fail
  refine (HV.out _ f0).mono ?_
  rintro e1 w1 ⟨rfl, hf1⟩
  have d3 := (HB.out.frm hf1 (by simp)).cell (i := 3) rfl
  have F1 := f0.trans hf1 (by simp)
  cases R
  · go_wp2_with fail
    go_ret
    exact ⟨rfl, F1⟩
  · go_wp2_with fail
    refine (HN.out _ F1).mono ?_
    rintro e2 w2 ⟨rfl, hf2⟩
    cases S
    · go_wp2_with fail
      go_ret
      exact ⟨rfl, F1.trans hf2 (by simp)⟩
    · go_wp2_with fail
      go_ret
      exact ⟨rfl, F1.trans hf2 (by simp)⟩

end Go.Proofs.Ytfndgiinniibfaa.Ind
