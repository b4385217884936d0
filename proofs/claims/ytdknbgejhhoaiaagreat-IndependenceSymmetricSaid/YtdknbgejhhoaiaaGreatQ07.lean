/- Contracts of IndexFunc and ContainsFunc over arcs, of Valid with its closure. -/
import Derived.Test.YtdknbgejhhoaiaaGreatQ06
namespace Go.Proofs.YtdknbgejhhoaiaaGreat.Ind
open Go.Shelf
open Go.RowKit

theorem ArcsAt.shape {w : World} {F : List Nat} {v : Value} {row : List RA} (h : ArcsAt w F v row) : ∃ a c, v = .slice a row.length c ∧ (row.length : Int) ≤ 9223372036854775807 := by
  obtain ⟨l, h1, h2, _⟩ := h
  obtain ⟨_, a, c, e, h3, h4, _⟩ := h2
  exact ⟨a, c, e, by unfold maxLen at h4; omega⟩
theorem ArcsAt.at_ {w : World} {F : List Nat} {ad : Option Addr} {n c : Nat} {row : List RA} (h : ArcsAt w F (.slice ad n c) row) {i : Nat} {a : RA} (hr : row[i]? = some a) :
    ∃ b o na nc, ad = some ⟨b, o, none⟩ ∧ b ∉ F ∧ b < w.heap.size ∧ w.cell? ⟨b, o + i * 6, none⟩ = some (.int .i64 a.kind) ∧ w.cell? ⟨b, o + i * 6 + 1, none⟩ = some (.int .i64 a.ch) ∧ w.cell? ⟨b, o + i * 6 + 2, none⟩ = some (.int .i64 a.reg) ∧ w.cell? ⟨b, o + i * 6 + 3, none⟩ = some (.int .i64 a.frm) ∧ w.cell? ⟨b, o + i * 6 + 4, none⟩ = some (.slice na a.not.length nc) ∧ w.cell? ⟨b, o + i * 6 + 5, none⟩ = some (.int .i64 a.to) ∧ NotAt w F (.slice na a.not.length nc) a := by
  obtain ⟨l, h1, h2, h3⟩ := h
  subst h1
  rw [List.getElem?_map] at hr
  cases hl : l[i]? with
  | none => rw [hl] at hr; cases hr
  | some p =>
    rw [hl] at hr
    simp only [Option.map_some, Option.some.injEq] at hr
    subst hr
    have hn := h3 p (List.mem_of_getElem? hl)
    obtain ⟨na, nc, e⟩ := RowV.shape hn
    have hg := rowC_get hl
    obtain ⟨_, va, cc, ev, hc1, hc2, _, hcell⟩ := h2
    have c0 := hcell (i * 6 + 0) _ (hg 0 (by omega))
    obtain ⟨b, o, e0, hb, hlt, c0⟩ := c0
    cases ev
    subst e0
    have hat : ∀ j (u : Value), j < 6 → (arcC p)[j]? = some u → w.cell? ⟨b, o + i * 6 + j, none⟩ = some u := fun j u hj hu => by
      obtain ⟨b', o', e', _, _, c'⟩ := hcell (i * 6 + j) u (by rw [hg j hj]; exact hu)
      cases e'
      rw [Nat.add_assoc]
      exact c'
    refine ⟨b, o, na, nc, rfl, hb, hlt, hat 0 _ (by omega) rfl, hat 1 _ (by omega) rfl, hat 2 _ (by omega) rfl, hat 3 _ (by omega) rfl, hat 4 _ (by omega) ?_, hat 5 _ (by omega) rfl, ?_⟩
    · show some p.1 = _
      rw [e]
    · rw [← e]
      exact hn

/-- A closure with one captured value that asks something of an arc. -/
def PredA (F : List Nat) (g : Nat) (c : Value) (p : RA → Bool) (w0 : World) : Prop :=
  ∀ (W : World) (v : Value) (x : RA), Frm [] w0 W → NotAt W F v x → Calls Tryz.prog g #[arcV v x, c] W fun e' w' => e' = .returned (.bool (p x)) ∧ Frm [] W w'
set_option maxRecDepth 100000 in
set_option maxHeartbeats 1000000 in
theorem idxA_any {F : List Nat} (g : Nat) (c : Value) (p : RA → Bool) (eg : ∀ args w, (callFunc g args).run Tryz.prog w = .ok (.enter g args) w) (v : Value) (xs : List RA) (w : World) (hp : PredA F g c p w) (h : ArcsAt w F v xs) :
    Calls Tryz.prog 68 #[v, .func (.func g) #[] #[c]] w fun e w' => (∃ v : Int, e = .returned (.int .i64 v) ∧ IdxP (xs.any p) v) ∧ Frm [] w w' := by
  obtain ⟨a, cap, rfl, l1⟩ := h.shape
  have H := Lib.hid h
  have HP := Lib.hid hp
  clear h hp
  go_enter Tryz.func68, Tryz.ntmps68
  go_wp2_with fail
  go_loopg [8] xs.length (fun q i wr => ∃ (k : Nat), q = xs.length - k ∧ k ≤ xs.length ∧ i = .int .i64 k ∧ (xs.drop k).any p = xs.any p ∧ Frm [] w wr)
  case atStart => exact ⟨0, rfl, Nat.zero_le _, rfl, rfl, Frm.refl _ _⟩
  case round =>
    obtain ⟨k, rfl, hk, rfl, hd, hF⟩ := hrel
    have HF := Lib.hid hF
    have i4 : (0 : Int) ≤ (k : Int) := by omega
    clear hF
    by_cases hlt : k < xs.length
    · have i5 : (k : Int) < (xs.length : Int) := by omega
      obtain ⟨y, hy⟩ : ∃ y, xs[k]? = some y := ⟨_, List.getElem?_eq_getElem hlt⟩
      rw [drop_cons hy, List.any_cons] at hd
      obtain ⟨b, o, na, nc, rfl, _, _, c0, c1, c2, c3, c4, c5, hn⟩ := H.out.at_ hy
      have d0 := HF.out.cell c0 (by simp)
      have d1 := HF.out.cell c1 (by simp)
      have d2 := HF.out.cell c2 (by simp)
      have d3 := HF.out.cell c3 (by simp)
      have d4 := HF.out.cell c4 (by simp)
      have d5 := HF.out.cell c5 (by simp)
      have hcall := HP.out wr _ y HF.out (hn.nil HF.out)
      clear c0 c1 c2 c3 c4 c5 hy hn
      unfold arcV at hcall
      cases hpe : p y with
      | true =>
        rw [hpe] at hcall hd
        have HD : Hid (xs.any p = true) := Lib.hid (by rw [← hd]; simp)
        have HC := Lib.hid hcall
        clear hd hpe hcall
        go_wp2_with (go_at_fn g; refine HC.out.mono ?_; rintro e7 w7 ⟨rfl, hf7⟩)
        go_ret
        exact ⟨⟨_, rfl, by rw [HD.out]; exact ⟨(fun _ => by omega), (fun h9 => by cases h9)⟩⟩, HF.out.trans hf7 (by simp)⟩
      | false =>
        rw [hpe] at hcall hd
        rw [Bool.false_or] at hd
        have HD := Lib.hid hd
        have HC := Lib.hid hcall
        clear hd hpe hcall
        go_wp2_with (go_at_fn g; refine HC.out.mono ?_; rintro e7 w7 ⟨rfl, hf7⟩)
        go_roundg (xs.length - (k + 1))
        case rel => exact ⟨k + 1, rfl, by omega, by go_num, HD.out, HF.out.trans hf7 (by simp)⟩
        case measure => omega
    · have i5 : ¬ (k : Int) < (xs.length : Int) := by omega
      have HR : Hid (xs.any p = false) := Lib.hid (by rw [← hd, List.drop_eq_nil_of_le (by omega)]; rfl)
      clear hd
      go_wp2_with fail
      go_ret
      exact ⟨⟨-1, rfl, by rw [HR.out]; exact ⟨(fun h9 => by cases h9), fun _ => rfl⟩⟩, HF.out⟩

theorem containsA_any {F : List Nat} (g : Nat) (c : Value) (p : RA → Bool) (eg : ∀ args w, (callFunc g args).run Tryz.prog w = .ok (.enter g args) w) (v : Value) (xs : List RA) (w : World) (hp : PredA F g c p w) (h : ArcsAt w F v xs) :
    Calls Tryz.prog 46 #[v, .func (.func g) #[] #[c]] w fun e w' => e = .returned (.bool (xs.any p)) ∧ Frm [] w w' := by
  have hi := idxA_any g c p eg v xs w hp h
  have HI := Lib.hid hi
  clear hi h hp
  go_enter Tryz.func46, Tryz.ntmps46
  go_wp2_with fail
  refine HI.out.mono ?_
  rintro e1 w1 ⟨⟨v, rfl, hv⟩, hf1⟩
  obtain ⟨h1, h2⟩ := hv
  cases hr : xs.any p with
  | true =>
    have h3 := h1 hr
    have HR := Lib.hid hr
    clear h1 h2 hr HI
    go_wp2_with fail
    go_ret
    exact ⟨ret_bool (by rw [HR.out]), hf1⟩
  | false =>
    have h3 := h2 hr
    subst h3
    have HR := Lib.hid hr
    clear h1 h2 hr HI
    go_wp2_with fail
    go_ret
    exact ⟨ret_bool (by rw [HR.out]), hf1⟩

/-- The machine's box: what closures capture. -/
def mboxC (m : RM) (sv : Value) : List Value := [.int .i64 m.regs, .int .i64 m.data, .int .i64 m.plain, sv]
set_option maxHeartbeats 1000000 in
theorem bad_any {F : List Nat} (w : World) (x : Nat) (m : RM) (sa : Option Addr) (sc : Nat) (v : Value) (a : RA) (hx : RowAt w x 30 (mboxC m (.slice sa m.states.length sc))) (hv : NotAt w F v a) :
    Calls Tryz.prog 47 #[arcV v a, .pointer (some ⟨x, 0, none⟩)] w fun e w' => e = .returned (.bool (!arcB m a)) ∧ Frm [] w w' := by
  have c0 := hx.cell (i := 0) rfl
  have c1 := hx.cell (i := 1) rfl
  have c2 := hx.cell (i := 2) rfl
  have c3 := hx.cell (i := 3) rfl
  have hlt : x < w.heap.size := hx.lt
  have hc := fun W (hW : NotAt W F v a) => validArc_any W m sa sc v a hW
  have HC := Lib.hid hc
  have HV := Lib.hid hv
  clear hc hv hx
  generalize arcB m a = R at *
  obtain ⟨regs, data, plain, states⟩ := m
  obtain ⟨kind, ch, reg, frm, not, tgt⟩ := a
  simp only at c0 c1 c2 c3
  unfold arcV machV at HC
  unfold arcV
  go_enter Tryz.func47, Tryz.ntmps47
  go_wp2_with fail
  refine (HC.out _ (HV.out.nil ((Frm.refl [] w).alloc _))).mono ?_
  rintro e1 w1 ⟨rfl, hf1⟩
  cases R
  · go_wp2_with fail
    go_ret
    exact ⟨rfl, ((Frm.refl [] w).alloc _).trans hf1 (by simp)⟩
  · go_wp2_with fail
    go_ret
    exact ⟨rfl, ((Frm.refl [] w).alloc _).trans hf1 (by simp)⟩

def rowOk (m : RM) (r : List RA) : Bool := decide (r.length ≤ 16) && r.all (arcB m)
theorem any_not (m : RM) (r : List RA) : (r.any fun a => !arcB m a) = !(r.all (arcB m)) := by
  induction r with
  | nil => rfl
  | cons a r ih => rw [List.any_cons, List.all_cons, ih]; cases arcB m a <;> rfl
theorem validM_eq (m : RM) : validM m = (belowB m.regs 5 && belowB m.data 9 && belowB m.plain 9 && decide (1 ≤ m.states.length) && decide (m.states.length ≤ 64) && m.states.all (rowOk m)) := rfl

set_option maxRecDepth 100000 in
set_option maxHeartbeats 4000000 in
theorem valid_any {F : List Nat} (w : World) (m : RM) (sv : Value) (h : StatesAt w F sv m.states) :
    Calls Tryz.prog 20 #[machV m sv] w fun e w' => e = .returned (.bool (validM m)) ∧ Frm [] w w' := by
  obtain ⟨sa, sc, rfl⟩ : ∃ a c, sv = .slice a m.states.length c := by
    obtain ⟨l, _, h2, _⟩ := h
    exact h2.shape
  have l1 : (m.states.length : Int) ≤ 9223372036854775807 := by
    obtain ⟨l, _, h2, _⟩ := h
    exact h2.rd.lt
  rw [validM_eq]
  have eg : ∀ args w, (callFunc 47 args).run Tryz.prog w = .ok (.enter 47 args) w := enters_of Tryz.func47 (by kernel_rfl) rfl
  have HBAD : Hid (∀ (W : World) (v : Value) (r : List RA) (x : Nat), RowAt W x 30 (mboxC m (.slice sa m.states.length sc)) → ArcsAt W F v r → Calls Tryz.prog 46 #[v, .func (.func 47) #[] #[.pointer (some ⟨x, 0, none⟩)]] W fun e w' => e = .returned (.bool (!(r.all (arcB m)))) ∧ Frm [] W w') := Lib.hid (by
    intro W v r x hx hr
    have := containsA_any (F := F) 47 (.pointer (some ⟨x, 0, none⟩)) (fun a => !arcB m a) eg v r W (fun W2 u y hf hn => bad_any W2 x m sa sc u y (hx.frm hf (by simp)) hn) hr
    rw [any_not] at this
    exact this)
  have H := Lib.hid h
  have HM : Hid (RowAt (w.alloc (.cells #[.int .i64 m.regs, .int .i64 m.data, .int .i64 m.plain, .slice sa m.states.length sc] 30)) w.heap.size 30 (mboxC m (.slice sa m.states.length sc))) := Lib.hid (RowAt.made w _ _ _ rfl)
  obtain ⟨R, hR⟩ : ∃ R, m.states.all (rowOk m) = R := ⟨_, rfl⟩
  rw [hR]
  have HR := Lib.hid hR
  clear h hR eg
  have f0 : Frm [] w (w.alloc (.cells #[.int .i64 m.regs, .int .i64 m.data, .int .i64 m.plain, .slice sa m.states.length sc] 30)) := (Frm.refl [] w).alloc _
  unfold machV
  generalize hregs : m.regs = regs at *
  generalize hdata : m.data = data at *
  generalize hplain : m.plain = plain at *
  clear hregs hdata hplain
  generalize hb1 : belowB regs 5 = B1
  generalize hb2 : belowB data 9 = B2
  generalize hb3 : belowB plain 9 = B3
  have HB1 := Lib.hid hb1
  have HB2 := Lib.hid hb2
  have HB3 := Lib.hid hb3
  clear hb1 hb2 hb3
  go_enter Tryz.func20, Tryz.ntmps20
  go_wp2_with fail
  refine (below_any regs 5 _).mono ?_
  rintro e1 w1 ⟨rfl, rfl⟩
  rw [HB1.out]
  cases B1
  · go_wp2_with fail
    go_ret
    exact ⟨rfl, f0⟩
  go_wp2_with fail
  refine (below_any data 9 _).mono ?_
  rintro e2 w2 ⟨rfl, rfl⟩
  rw [HB2.out]
  cases B2
  · go_wp2_with fail
    go_ret
    exact ⟨rfl, f0⟩
  go_wp2_with fail
  refine (below_any plain 9 _).mono ?_
  rintro e3 w3 ⟨rfl, rfl⟩
  rw [HB3.out]
  cases B3
  · go_wp2_with fail
    go_ret
    exact ⟨rfl, f0⟩
  by_cases hs1 : m.states.length < 1
  · have HS : Hid (decide (1 ≤ m.states.length) = false) := Lib.hid (decide_eq_false (by omega))
    have i1 : (m.states.length : Int) < 1 := by omega
    go_wp2_with fail
    go_ret
    exact ⟨ret_bool (by rw [HS.out]; simp), f0⟩
  by_cases hs2 : 64 < m.states.length
  · have HS : Hid (decide (m.states.length ≤ 64) = false) := Lib.hid (decide_eq_false (by omega))
    have i1 : ¬ (m.states.length : Int) < 1 := by omega
    have i2 : 64 < (m.states.length : Int) := by omega
    clear hs1 hs2
    go_wp2_with fail
    go_ret
    exact ⟨ret_bool (by rw [HS.out]; simp), f0⟩
  have HS1 : Hid (decide (1 ≤ m.states.length) = true) := Lib.hid (decide_eq_true (by omega))
  have HS2 : Hid (decide (m.states.length ≤ 64) = true) := Lib.hid (decide_eq_true (by omega))
  have i1 : ¬ (m.states.length : Int) < 1 := by omega
  have i2 : ¬ 64 < (m.states.length : Int) := by omega
  clear hs1 hs2
  go_wp2_with fail
  have HF0 := Lib.hid f0
  clear f0
  generalize hW0 : w.alloc (.cells #[.int .i64 regs, .int .i64 data, .int .i64 plain, .slice sa m.states.length sc] 30) = W0 at *
  generalize hx0 : w.heap.size = x0 at *
  clear hW0 hx0
  go_loopg [36] m.states.length (fun q i wr => ∃ (k : Nat), q = m.states.length - k ∧ k ≤ m.states.length ∧ i = .int .i64 k ∧ (m.states.drop k).all (rowOk m) = R ∧ Frm [] W0 wr)
  case atStart => exact ⟨0, rfl, Nat.zero_le _, rfl, HR.out, Frm.refl _ _⟩
  case round =>
    obtain ⟨k, rfl, hk, rfl, hd, hF⟩ := hrel
    have HF := Lib.hid hF
    have i4 : (0 : Int) ≤ (k : Int) := by omega
    clear hF
    by_cases hlt : k < m.states.length
    · have i5 : (k : Int) < (m.states.length : Int) := by omega
      obtain ⟨r, hr⟩ : ∃ r, m.states[k]? = some r := ⟨_, List.getElem?_eq_getElem hlt⟩
      rw [drop_cons hr, List.all_cons] at hd
      have HW := Lib.hid (HF0.out.trans HF.out (by simp))
      obtain ⟨b, o, c, a, n, cc, e1, _, _, _, hcell, rfl, harcs⟩ := H.out.at_ hr
      cases e1
      have d1 := HW.out.cell hcell (by simp)
      have hcall := HBAD.out wr (.slice a r.length cc) r x0 (HM.out.frm HF.out (by simp)) (harcs.nil HW.out)
      clear hcell harcs hr
      by_cases h16 : r.length ≤ 16
      · have i6 : ¬ 16 < (r.length : Int) := by omega
        cases hal : r.all (arcB m) with
        | true =>
          rw [hal] at hcall
          have HD : Hid ((m.states.drop (k + 1)).all (rowOk m) = R) := Lib.hid (by rw [← hd, rowOk, hal, decide_eq_true h16]; simp)
          have HC := Lib.hid hcall
          clear hd hcall hal h16
          go_wp2_with fail
          refine HC.out.mono ?_
          rintro e7 w7 ⟨rfl, hf7⟩
          go_wp2_with fail
          go_roundg (m.states.length - (k + 1))
          case rel => exact ⟨k + 1, rfl, by omega, by go_num, HD.out, HF.out.trans hf7 (by simp)⟩
          case measure => omega
        | false =>
          rw [hal] at hcall
          have HD : Hid (R = false) := Lib.hid (by rw [← hd, rowOk, hal]; simp)
          have HC := Lib.hid hcall
          clear hd hcall hal h16
          go_wp2_with fail
          refine HC.out.mono ?_
          rintro e7 w7 ⟨rfl, hf7⟩
          go_wp2_with fail
          go_ret
          exact ⟨ret_bool (by rw [HD.out]; simp), HW.out.trans hf7 (by simp)⟩
      · have i6 : 16 < (r.length : Int) := by omega
        have HD : Hid (R = false) := Lib.hid (by rw [← hd, rowOk, decide_eq_false h16]; simp)
        clear hd hcall h16
        go_wp2_with fail
        go_ret
        exact ⟨ret_bool (by rw [HD.out]; simp), HW.out⟩
    · have i5 : ¬ (k : Int) < (m.states.length : Int) := by omega
      have HT : Hid (R = true) := Lib.hid (by rw [← hd, List.drop_eq_nil_of_le (by omega)]; rfl)
      clear hd
      go_wp2_with fail
      go_ret
      exact ⟨ret_bool (by rw [HT.out, HS1.out, HS2.out]; rfl), HF0.out.trans HF.out (by simp)⟩

end Go.Proofs.YtdknbgejhhoaiaaGreat.Ind
