/- GraphAgrees of the law answers true. -/
import Derived.Test.YtknfdpkfomlckaaAE
import Derived.Test.YtknfdpkfomlckaaGP
namespace Go.Proofs.Ytknfdpkfomlckaa
open Go.RowKit

theorem looseGo_of (n m : Nat) : ∀ (l : Lts) (c : Nat), (∀ row ∈ l, row.all (arcOk n) = true ∧ row.length ≤ m) → c + l.length * m ≤ 262144 → looseGo n c l = true
  | [], _, _, _ => rfl
  | row :: r, c, h, hc => by
    have h1 := h row (List.mem_cons_self ..)
    rw [List.length_cons, Nat.add_mul] at hc
    simp only [looseGo, Bool.and_eq_true, decide_eq_true_eq]
    exact ⟨by omega, h1.1, looseGo_of n m r _ (fun q hq => h q (List.mem_cons_of_mem _ hq)) (by omega)⟩
theorem Sys.valid {n m : Nat} {l : Lts} (h : Sys n m l) (hn : n ≤ 100) (hm : m ≤ 100) : validB l = true := by
  have hf := h.few
  have hp := h.pos
  have hrow : ∀ row ∈ l, RowOk l.length m row := fun row hr => by
    obtain ⟨i, hi⟩ := List.getElem?_of_mem hr
    exact h.row i row hi
  have hmul : l.length * m ≤ 100 * 100 := Nat.mul_le_mul (by omega) hm
  simp only [validB, looseB, Bool.and_eq_true, decide_eq_true_eq]
  exact ⟨⟨⟨hp, by omega⟩, looseGo_of _ m l 0 (fun row hr => ⟨List.all_eq_true.2 (hrow row hr).2.1, (hrow row hr).2.2⟩) (by omega)⟩, List.all_eq_true.2 (fun row hr => (hrow row hr).1)⟩

theorem div_ok (B0 : Nat) (a : Option Addr) (cap : Nat) (l : Lts) (w : World) (h : LAt B0 w a cap l) (hv : validB l = true) :
    Calls Try.prog 26 #[.agg #[.slice a l.length cap]] w fun e w' => (∃ g bs, e = .returned (.slice (some ⟨g, 0, none⟩) l.length l.length) ∧ w'.ownsRow w.heap.size 4 1 (.slice (some ⟨g, 0, none⟩) l.length l.length) l.length (bools bs) ∧ IsDiv (Esel l true) l.length bs) ∧ Frm [] w w' := by
  refine (divergent_any B0 a cap l w h).mono ?_
  rintro e w' ⟨h1, hf⟩
  rw [DivEnd, if_pos hv] at h1
  exact ⟨h1, hf⟩
theorem IsLas.cyc {E : Nat → List Nat} {n s : Nat} {p c : List Nat} (h : IsLas E n s p c) : c ≠ [] := by
  obtain ⟨d, d', k, t, x, m, _, _, _, _, _, _, _, _, _, e⟩ := h.h
  rw [e]
  simp
theorem IsLas.path {E : Nat → List Nat} {n s : Nat} {p c : List Nat} (h : IsLas E n s p c) : p ≠ [] := by
  obtain ⟨d, d', k, t, x, m, _, _, _, e, _⟩ := h.h
  rw [e]
  simp
/-- What the law asks of state k. -/
theorem agrees_at {E : Nat → List Nat} {n : Nat} {bs : List Bool} {comp : List Int} {k : Nat} {p c : List Nat} {ok : Bool} (hd : IsDiv E n bs) (hc : Tj.IsComp E n comp) (hk : k < n) (hl : LassoIs E n true (k : Int) p c ok) :
    ∃ m : Nat, bs[k]? = some ok ∧ bs[m]? = some ok ∧ comp[k]? = some (m : Int) ∧ m < n ∧ m ≤ k ∧ (ok = true → c.length ≠ 0) := by
  obtain ⟨m, h1, h2, h3, h4⟩ := hc.own k hk
  have h5 := hc.least k k hk (.refl k) (.refl k)
  have e1 : bs[k]? = some (bs[k]'(by rw [hd.len]; exact hk)) := List.getElem?_eq_getElem _
  have e2 : bs[m]? = some (bs[m]'(by rw [hd.len]; exact h2)) := List.getElem?_eq_getElem _
  have q1 := hd.iff k hk
  have q2 := hd.iff m h2
  have q3 : Div E k ↔ Div E m := ⟨fun ⟨u, hu, ho⟩ => ⟨u, h4.trans hu, ho⟩, fun ⟨u, hu, ho⟩ => ⟨u, h3.trans hu, ho⟩⟩
  have q4 : ok = true ↔ Div E k := ⟨fun h => by
    obtain ⟨_, j, hj, _, hv, _⟩ := hl.yes h
    obtain rfl : k = j := by omega
    exact hv, fun h => by
    cases ok with
    | true => rfl
    | false => exact absurd ⟨rfl, k, rfl, hk, h⟩ (hl.no rfl).2.2⟩
  refine ⟨m, ?_, ?_, ?_, h2, by omega, fun h => ?_⟩
  · rw [e1, Option.some.injEq] at q1 ⊢
    exact Bool.eq_iff_iff.2 (q1.trans q4.symm)
  · rw [e2, Option.some.injEq] at q2 ⊢
    exact Bool.eq_iff_iff.2 (q2.trans (q3.symm.trans q4.symm))
  · rw [ix_some hc.len hk, h1]
  · obtain ⟨_, j, hj, _, _, hlas⟩ := hl.yes h
    intro h0
    exact hlas.cyc (List.eq_nil_of_length_eq_zero h0)

set_option linter.unusedSimpArgs false in
set_option maxRecDepth 100000 in
set_option maxHeartbeats 4000000 in
theorem agrees_law (ta : Option Addr) (tcap : Nat) (xs : List Int) (w : World) (ht : Rd w.heap.size w ta xs.length tcap 1 (ints xs)) (hx : ∀ x ∈ xs, -9223372036854775808 ≤ x ∧ x ≤ 9223372036854775807) :
    Calls Try.prog 6 #[.slice ta xs.length tcap] w fun e w' => e = .returned (.bool true) ∧ Frm [] w w' := by
  have hnew := tape_new w.heap.size ta tcap xs w ht hx
  clear ht hx
  go_enter Try.func6, Try.ntmps6
  go_wp2_with fail
  refine hnew.mono ?_
  rintro e1 w1 ⟨rfl, hf1, hT1, hsz1⟩
  have HF1 := Lib.hid hf1
  have HT1 := Lib.hid hT1
  clear hnew hf1 hT1
  go_wp2_with fail
  refine (lts_any w.heap.size w.heap.size 0 9 w1 HT1.out (Nat.le_refl _) (by omega) (by omega) (by omega)).mono ?_
  rintro e2 w2 ⟨l, g, rfl, hg, hM, hS, -, hf2⟩
  have hva := hS.valid (by omega) (by omega)
  have hpos := hS.pos
  have hfew := hS.few
  have hsz2 := hf2.size
  have hrows : ∀ row ∈ l, row.length ≤ 140737488355328 := fun row hr => by
    obtain ⟨i, hi⟩ := List.getElem?_of_mem hr
    have := (hS.row i row hi).2.2
    omega
  have hf3 : Frm [] w2 (w2.alloc (.cells #[.slice (some ⟨g, 0, none⟩) l.length l.length] 25)) := (Frm.refl [] w2).alloc _
  have HB := Lib.hid (box1 w2 (.slice (some ⟨g, 0, none⟩) l.length l.length) 25)
  have HL := Lib.hid ((hM.lat (by omega) hrows).nil hf3 rfl)
  have HF3 := Lib.hid ((HF1.out.trans hf2 (by simp)).trans hf3 (by simp))
  have HVA := Lib.hid hva
  have hdv := div_ok w2.heap.size (some ⟨g, 0, none⟩) l.length l _ HL.out hva
  have i6 : (l.length : Int) ≤ 9 := by omega
  clear hM hS hf2 hf3 hrows hva
  go_wp2_with fail
  refine hdv.mono ?_
  rintro e4 w4 ⟨⟨gd, bs, rfl, hownd, hisd⟩, hf4⟩
  have HF4 := Lib.hid hf4
  have HOWND := Lib.hid hownd
  have HISD := Lib.hid hisd
  have hb4 := (HB.out.frm hf4 (by simp)).cell (i := 0) rfl
  have hcm := comps_ok w2.heap.size (some ⟨g, 0, none⟩) l.length l true w4 (HL.out.nil hf4 rfl) HVA.out
  clear hdv hf4 hownd hisd
  go_wp2_with fail
  refine hcm.mono ?_
  rintro e5 w5 ⟨⟨gc, comp, rfl, hownc, hisc⟩, hf5⟩
  have HF5 := Lib.hid (HF4.out.trans hf5 (by simp))
  have HOWNC := Lib.hid hownc
  have HISC := Lib.hid hisc
  have HOWND5 := Lib.hid (own_frm_out HOWND.out hf5 (by simp))
  have hb5 := (HB.out.frm HF5.out (by simp)).cell (i := 0) rfl
  have HB5 := Lib.hid (HB.out.frm HF5.out (by simp))
  have HL5 := Lib.hid (HL.out.nil HF5.out rfl)
  have hgc := (hownc.lt gc rfl).2
  have hgd := ((HOWND5.out).lt gd rfl).2
  clear hcm hf5 hownc hisc hb4
  go_wp2_with fail
  go_loopg [6] l.length (fun q i wr => ∃ (k : Nat), q = l.length - k ∧ k ≤ l.length ∧ i = .int .i64 (k : Int) ∧ Frm [] w5 wr)
  case atStart => exact ⟨0, rfl, Nat.zero_le _, rfl, Frm.refl _ _⟩
  case round =>
    obtain ⟨k, rfl, hk, rfl, hF⟩ := hrel
    have HF := Lib.hid hF
    have hbr := (HB5.out.frm hF (by simp)).cell (i := 0) rfl
    have i4 : (0 : Int) ≤ (k : Int) := by omega
    clear hF hb5
    by_cases hkl : k < l.length
    · have i5 : (k : Int) < (l.length : Int) := by omega
      have hls := lasso_any w2.heap.size (some ⟨g, 0, none⟩) l.length l (k : Int) wr (HL5.out.nil HF.out rfl)
      go_wp2_with fail
      refine hls.mono ?_
      rintro e6 w6 ⟨h6, hf6⟩
      obtain ⟨a1, c1, a2, c2, p, c, ok, rfl, -, -, hla⟩ := h6
      rw [HVA.out] at hla
      obtain ⟨m, hb1, hb2, hc1, hml, hmk, hlen⟩ := agrees_at HISD.out HISC.out hkl hla
      have HF6 := Lib.hid (HF.out.trans hf6 (by simp))
      have k1 := HF6.out.cell ((own_rowg2 HOWND5.out).cell (bools_get hb1)) (by simp)
      have k2 := HF6.out.cell ((own_rowg2 HOWND5.out).cell (bools_get hb2)) (by simp)
      have k3 := HF6.out.cell ((own_rowg2 HOWNC.out).cell (ints_get hc1)) (by simp)
      have i7 : (0 : Int) ≤ (m : Int) := by omega
      have i8 : (m : Int) < (l.length : Int) := by omega
      have i9 : ¬ (m : Int) > (k : Int) := by omega
      have i10 : ¬ (m : Int) < 0 := by omega
      clear hls hf6 hla hb1 hb2 hc1 hbr
      cases ok with
      | false =>
        go_wp2_with fail
        go_quiet (fail)
        go_wp2_with fail
        go_roundg (l.length - (k + 1))
        case rel => exact ⟨k + 1, rfl, hkl, by go_num, HF6.out.drewN nq⟩
        case measure => omega
      | true =>
        have i11 : (c.length : Int) ≠ 0 := by have := hlen rfl; omega
        have i12 : ((c.length : Int) == 0) = false := by simpa using i11
        clear hlen
        go_wp2_with fail
        go_quiet (fail)
        go_wp2_with fail
        go_roundg (l.length - (k + 1))
        case rel => exact ⟨k + 1, rfl, hkl, by go_num, HF6.out.drewN nq⟩
        case measure => omega
    · have i5 : ¬ (k : Int) < (l.length : Int) := by omega
      go_wp2_with fail
      refine (sane_any wr).mono ?_
      rintro e7 w7 ⟨rfl, hf7⟩
      have HF7 := Lib.hid (((HF3.out.trans HF5.out (by simp)).trans HF.out (by simp)).trans hf7 (by simp))
      clear hf7
      go_wp2_with fail
      go_ret
      exact ⟨rfl, HF7.out⟩

end Go.Proofs.Ytknfdpkfomlckaa
