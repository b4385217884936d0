/- IndependenceSymmetric returns true: the walk. -/
import Derived.Test.YtdknbgejhhoaiaaGreatQ42
import Derived.Test.YtdknbgejhhoaiaaGreatQ39
import Derived.Test.YtdknbgejhhoaiaaGreatQ43
import Derived.Test.YtdknbgejhhoaiaaGreatQ44
import Derived.Test.YtdknbgejhhoaiaaGreatQ45
import Derived.Deep.DeepCutAuto
namespace Go.Proofs.YtdknbgejhhoaiaaGreat.Ind
open Go.Shelf Go.RowKit Go.Lib

theorem row_made_at2 (w : World) (k : Nat) (hk : w.heap.size = k) (e : TypeId) (xs : List Value) : RowAt (w.alloc (.cells xs.toArray e)) k e xs := by
  subst hk
  exact RowAt.made w e xs xs.toArray (by simp)
set_option linter.unusedSimpArgs false in
set_option maxRecDepth 100000 in
set_option maxHeartbeats 8000000 in
theorem symmetric_walk (ta : Option Addr) (tc : Nat) (xs : List Int) (w : World) (ht : Rd w.heap.size w ta xs.length tc 1 (ints xs)) (hx : ∀ x ∈ xs, -9223372036854775808 ≤ x ∧ x ≤ 9223372036854775807) :
    Calls Tryz.prog 4 #[.slice ta xs.length tc] w fun e w' => e = .returned (.bool true) ∧ Frm [] w w' := by
  have htn := tape_new w.heap.size ta tc xs _ ht hx
  clear ht hx
  go_enter Tryz.func4, Tryz.ntmps4
  go_wp2_with fail
  refine htn.mono ?_
  rintro e1 W1 ⟨rfl, hf1, hT1, hs1⟩
  have HF1 := Lib.hid hf1
  have HT1 := Lib.hid hT1
  have HTW : Hid (w.heap.size ≤ w.heap.size ∧ w.heap.size < W1.heap.size) := Lib.hid (by omega)
  obtain ⟨tb, htb⟩ : ∃ tb, tb = w.heap.size := ⟨_, rfl⟩
  rw [← htb] at HT1 HTW ⊢
  have HTB := Lib.hid htb
  clear htn hf1 hT1 hs1 htb
  go_wp2_with fail
  refine (machine_any tb tb 0 false W1 HT1.out (Nat.le_refl _) (by omega)).mono ?_
  rintro e2 w2 ⟨m, sv, rfl, hst, hdr, hT2, hf2⟩
  obtain ⟨sa, sc, rfl, _⟩ := statesShape hst
  unfold machV
  have HST := Lib.hid hst
  have HT2 := Lib.hid hT2
  have HF2 := Lib.hid hf2
  have HSZ2 := Lib.hid hf2.size
  have HSM : Hid (Sm m) := Lib.hid ⟨hdr.regs, hdr.data, hdr.plain, hdr.few, hdr.valid⟩
  clear hst hT2 hf2 hdr
  go_upto_region 3 with fail
  obtain ⟨W3, hW3⟩ : ∃ W3, W3 = w2.alloc (.cells #[.int .i64 m.regs, .int .i64 m.data, .int .i64 m.plain, .slice sa m.states.length sc] 30) := ⟨_, rfl⟩
  have f3 : Frm [] w2 W3 := by rw [hW3]; exact (Frm.refl [] w2).alloc _
  have HM3 : Hid (RowAt W3 w2.heap.size 30 (mboxC m (.slice sa m.states.length sc))) := Lib.hid (by rw [hW3]; exact RowAt.made w2 _ _ _ rfl)
  have HST3 := Lib.hid (HST.out.nil f3)
  have HT3 := Lib.hid (HT2.out.nil f3)
  have HF3 := Lib.hid (HF2.out.trans f3 (by simp))
  have hs3 : W3.heap.size = w2.heap.size + 1 := by rw [hW3]; simp
  have HXM : Hid (tb < w2.heap.size ∧ w2.heap.size < W3.heap.size) := Lib.hid (by have := HTW.out; have := HSZ2.out; omega)
  rw [← hW3]
  generalize w2.heap.size = xm at *
  clear hW3 f3 hs3 HST HT2 HF2 HSZ2
  go_wp2_with fail
  obtain ⟨W5, hW5⟩ : ∃ W5, W5 = ((((W3.alloc (.cells #[.int .i64 0, .int .i64 2, .int .i64 1] 3)).alloc (.cells #[.int .i64 0, .int .i64 1, .int .i64 2] 3)).alloc (.cells #[.int .i64 0, .int .i64 2, .int .i64 1, .int .i64 3] 3)).alloc (.cells #[.int .i64 0, .int .i64 2, .int .i64 3, .int .i64 1] 3)).alloc (.cells #[.slice (some ⟨W3.heap.size, 0, none⟩) 3 3, .slice (some ⟨W3.heap.size + 1, 0, none⟩) 3 3, .slice (some ⟨W3.heap.size + 1 + 1, 0, none⟩) 4 4, .slice (some ⟨W3.heap.size + 1 + 1 + 1, 0, none⟩) 4 4] 22) := ⟨_, rfl⟩
  have f5 : Frm [] W3 W5 := by rw [hW5]; exact (((((Frm.refl [] W3).alloc _).alloc _).alloc _).alloc _).alloc _
  have e1 : RowAt W5 (W3.heap.size) 3 [.int .i64 0, .int .i64 2, .int .i64 1] := by rw [hW5]; exact ((((row_made_at2 W3 (W3.heap.size) (by simp) 3 [.int .i64 0, .int .i64 2, .int .i64 1]).alloc _).alloc _).alloc _).alloc _
  have e2 : RowAt W5 (W3.heap.size + 1) 3 [.int .i64 0, .int .i64 1, .int .i64 2] := by rw [hW5]; exact (((row_made_at2 (W3.alloc (.cells #[.int .i64 0, .int .i64 2, .int .i64 1] 3)) (W3.heap.size + 1) (by simp) 3 [.int .i64 0, .int .i64 1, .int .i64 2]).alloc _).alloc _).alloc _
  have e3 : RowAt W5 (W3.heap.size + 1 + 1) 3 [.int .i64 0, .int .i64 2, .int .i64 1, .int .i64 3] := by rw [hW5]; exact ((row_made_at2 ((W3.alloc (.cells #[.int .i64 0, .int .i64 2, .int .i64 1] 3)).alloc (.cells #[.int .i64 0, .int .i64 1, .int .i64 2] 3)) (W3.heap.size + 1 + 1) (by simp) 3 [.int .i64 0, .int .i64 2, .int .i64 1, .int .i64 3]).alloc _).alloc _
  have e4 : RowAt W5 (W3.heap.size + 1 + 1 + 1) 3 [.int .i64 0, .int .i64 2, .int .i64 3, .int .i64 1] := by rw [hW5]; exact (row_made_at2 (((W3.alloc (.cells #[.int .i64 0, .int .i64 2, .int .i64 1] 3)).alloc (.cells #[.int .i64 0, .int .i64 1, .int .i64 2] 3)).alloc (.cells #[.int .i64 0, .int .i64 2, .int .i64 1, .int .i64 3] 3)) (W3.heap.size + 1 + 1 + 1) (by simp) 3 [.int .i64 0, .int .i64 2, .int .i64 3, .int .i64 1]).alloc _
  have e5 : RowAt W5 (W3.heap.size + 1 + 1 + 1 + 1) 22 [.slice (some ⟨W3.heap.size, 0, none⟩) 3 3, .slice (some ⟨W3.heap.size + 1, 0, none⟩) 3 3, .slice (some ⟨W3.heap.size + 1 + 1, 0, none⟩) 4 4, .slice (some ⟨W3.heap.size + 1 + 1 + 1, 0, none⟩) 4 4] := by rw [hW5]; exact row_made_at2 ((((W3.alloc (.cells #[.int .i64 0, .int .i64 2, .int .i64 1] 3)).alloc (.cells #[.int .i64 0, .int .i64 1, .int .i64 2] 3)).alloc (.cells #[.int .i64 0, .int .i64 2, .int .i64 1, .int .i64 3] 3)).alloc (.cells #[.int .i64 0, .int .i64 2, .int .i64 3, .int .i64 1] 3)) (W3.heap.size + 1 + 1 + 1 + 1) (by simp) 22 [.slice (some ⟨W3.heap.size, 0, none⟩) 3 3, .slice (some ⟨W3.heap.size + 1, 0, none⟩) 3 3, .slice (some ⟨W3.heap.size + 1 + 1, 0, none⟩) 4 4, .slice (some ⟨W3.heap.size + 1 + 1 + 1, 0, none⟩) 4 4]
  rw [← hW5]
  have HSZ5 : Hid (W3.heap.size + 5 = W5.heap.size) := Lib.hid (by rw [hW5]; simp)
  clear hW5
  have HF5 := Lib.hid (HF3.out.trans f5 (by simp))
  refine (next_any tb tb 100 4 W5 (HT3.out.nil f5) (Nat.le_refl _) (by omega) (by omega)).mono ?_
  rintro e5 w5 ⟨⟨y, rfl, hy, -⟩, hT5, hf5⟩
  have hy0 : 0 ≤ y := by omega
  have hy1 : y < 4 := by omega
  have r1 := e1.frm hf5 (by have := HXM.out; simp; omega)
  have r2 := e2.frm hf5 (by have := HXM.out; simp; omega)
  have r3 := e3.frm hf5 (by have := HXM.out; simp; omega)
  have r4 := e4.frm hf5 (by have := HXM.out; simp; omega)
  have r5 := e5.frm hf5 (by have := HXM.out; simp; omega)
  have HF6 := Lib.hid (HF5.out.trans hf5 (fun x hx => .inl hx))
  have HST5 : Hid (StatesAt w5 [] (.slice sa m.states.length sc) m.states) := Lib.hid (((HST3.out.nil f5).step hf5 (fun x hx => .inl hx) (fun x hx => .inl hx) : StatesAt w5 [tb] _ _).step (Frm.refl [] w5) (by simp) (by simp))
  have HXM5 := Lib.hid ((HM3.out.frm f5 (by simp)).frm hf5 (by have := HXM.out; simp; omega))
  clear hy hT5 hf5 f5 e1 e2 e3 e4 e5 
  obtain ⟨yn, rfl⟩ : ∃ yn : Nat, y = yn := ⟨y.toNat, by omega⟩
  obtain ⟨qa, qc, pi, hqc, hq, hpg, hpp⟩ : ∃ (qa : Option Addr) (qc : Nat) (pi : List Int), w5.cell? ⟨W3.heap.size + 1 + 1 + 1 + 1, yn, none⟩ = some (.slice qa pi.length qc) ∧ RowV w5 [] (.slice qa pi.length qc) pi.length 1 (ints pi) ∧ PG pi pi.length ∧ PermP pi pi.length := by
    rcases (show yn = 0 ∨ yn = 1 ∨ yn = 2 ∨ yn = 3 by omega) with rfl | rfl | rfl | rfl
    · exact ⟨_, _, [0, 2, 1], r5.cell (i := 0) rfl, rowV_cells (size := 1) r1 rfl (Nat.le_refl _) (by decide) (by simp), pg_a, pp_a⟩
    · exact ⟨_, _, [0, 1, 2], r5.cell (i := 1) rfl, rowV_cells (size := 1) r2 rfl (Nat.le_refl _) (by decide) (by simp), pg_b, pp_b⟩
    · exact ⟨_, _, [0, 2, 1, 3], r5.cell (i := 2) rfl, rowV_cells (size := 1) r3 rfl (Nat.le_refl _) (by decide) (by simp), pg_c, pp_c⟩
    · exact ⟨_, _, [0, 2, 3, 1], r5.cell (i := 3) rfl, rowV_cells (size := 1) r4 rfl (Nat.le_refl _) (by decide) (by simp), pg_d, pp_d⟩
  have HQV := Lib.hid hq
  have HPG := Lib.hid hpg
  have HPP := Lib.hid hpp
  have q34 := hpg.n34
  have q1 : (pi.length : Int) ≤ 4 := by omega
  have HX5 : Hid (xm < w5.heap.size) := Lib.hid HXM5.out.lt
  clear hq hpg hpp r1 r2 r3 r4 r5 q34
  go_upto_region 4 with fail
  obtain ⟨rows, qr, hsym⟩ := sym_ok HSM.out HPG.out HPP.out
  have HS := Lib.hid hsym
  have hfew : Hid (rows.length ≤ 96 ∧ qr.length ≤ 96 ∧ (∀ row ∈ rows, row.length ≤ 140737488355328) ∧ (∀ row ∈ qr, row.length ≤ 140737488355328)) := Lib.hid ⟨by have := hsym.few; omega, by have := hsym.few; omega, fun row hr => by
    have := hsym.lok.few row (List.mem_append_left _ hr)
    omega, fun row hr => by
    have := hsym.lok.few (shR rows.length row) (List.mem_append_right _ (List.mem_map.2 ⟨row, hr, rfl⟩))
    simp only [shR, List.length_map] at this
    omega⟩
  have hci : Calls Tryz.prog 14 #[machV m (.slice sa m.states.length sc), .int .i64 (pi.length : Int)] w5 fun e w' => (∃ a c, e = .returned (.tuple #[.agg #[.slice a rows.length c], .int .i64 0]) ∧ LtsAt w' [] (.slice a rows.length c) rows) ∧ Frm [] w5 w' := (instance_any w5 m _ (pi.length : Int) HST5.out).mono fun e w' h => by
    obtain ⟨h1, h2⟩ := h
    have h34 := HPG.out.n34
    rw [if_pos ⟨HSM.out.valid, by omega, by omega⟩, Int.toNat_natCast, HS.out.inst] at h1
    obtain ⟨ov, rfl, hl⟩ := h1
    obtain ⟨a, c, rfl, _⟩ := ltsShape hl
    exact ⟨⟨a, c, rfl, hl⟩, h2⟩
  have hcp : ∀ (W : World) (a : Option Addr) (c : Nat), Frm [] w5 W → LtsAt W [] (.slice a rows.length c) rows → Calls Tryz.prog 9 #[machV m (.slice sa m.states.length sc), .int .i64 (pi.length : Int), .slice qa pi.length qc, .agg #[.slice a rows.length c]] W fun e w' => (∃ a c, e = .returned (.tuple #[.agg #[.slice a qr.length c], .int .i64 0]) ∧ LtsAt w' [] (.slice a qr.length c) qr) ∧ Frm [] W w' := fun W a c hf hl => (permute_any W m (.slice sa m.states.length sc) (.slice qa pi.length qc) pi.length pi a c rows (HST5.out.nil hf) (HQV.out.nil hf) (lts_lat hl (by have := hfew.out; omega) hfew.out.2.2.1) (by have := HPG.out.n34; omega) (by have := HPG.out.n34; omega)).mono fun e w' h => by
    obtain ⟨h1, h2⟩ := h
    rcases h1 with ⟨_, ov, rfl, hl⟩ | ⟨hno, _⟩
    · rw [← HS.out.can] at hl
      obtain ⟨a, c, rfl, _⟩ := ltsShape hl
      exact ⟨⟨a, c, rfl, hl⟩, h2⟩
    · exact absurd HS.out.perm hno
  unfold machV at hci hcp
  have HCI := Lib.hid hci
  have HCP := Lib.hid hcp
  have HCELL : Hid (∀ W, Frm [] w5 W → (W.cell? ⟨xm, 0, none⟩ = some (.int .i64 m.regs) ∧ W.cell? ⟨xm, 1, none⟩ = some (.int .i64 m.data) ∧ W.cell? ⟨xm, 2, none⟩ = some (.int .i64 m.plain) ∧ W.cell? ⟨xm, 3, none⟩ = some (.slice sa m.states.length sc)) ∧ xm < W.heap.size) := Lib.hid fun W hf => by
    have h1 := HXM5.out.frm hf (by simp)
    exact ⟨⟨h1.cell (i := 0) rfl, h1.cell (i := 1) rfl, h1.cell (i := 2) rfl, h1.cell (i := 3) rfl⟩, h1.lt⟩
  obtain ⟨⟨z0, z1, z2, z3⟩, z5⟩ := HCELL.out w5 (Frm.refl [] w5)
  clear hsym hci hcp hqc hy0 hy1
  go_wp2_with (first
    | (go_at_call 14; refine HCI.out.mono ?_; rintro e6 w6 ⟨⟨a6, c6, rfl, hl6⟩, hf6⟩; have HL6 := Lib.hid hl6; have F6 := Lib.hid hf6; obtain ⟨⟨g0, g1, g2, g3⟩, g5⟩ := HCELL.out w6 hf6; clear hl6 hf6 z0 z1 z2 z3 z5)
    | (go_at_call 9; refine (HCP.out _ a6 c6 (F6.out.alloc _) (HL6.out.nil ((Frm.refl [] w6).alloc _))).mono ?_; rintro e7 w7 ⟨⟨a7, c7, rfl, hl7⟩, hf7⟩; have HL7 := Lib.hid hl7; have F7 := Lib.hid hf7; have hb6 := (RowAt.made w6 25 [.slice a6 rows.length c6] #[.slice a6 rows.length c6] rfl).frm hf7 (by simp); have hb6c := hb6.cell (i := 0) rfl; have hb6l := hb6.lt; clear hl7 hf7)
    | fail)
  have hse := sequal_any (w7.alloc (.cells #[.slice a7 qr.length c7] 25)) (.slice a6 rows.length c6) (.slice a7 qr.length c7) rows qr ((HL6.out.nil ((Frm.refl [] w6).alloc _)).nil (F7.out.alloc _)) (HL7.out.nil ((Frm.refl [] w7).alloc _)) HS.out.v1 HS.out.v2 HS.out.lok (by have := HS.out.few; omega)
  have F8 := Lib.hid (((F6.out.alloc (.cells #[.slice a6 rows.length c6] 25)).trans F7.out (by simp)).alloc (.cells #[.slice a7 qr.length c7] 25))
  refine hse.mono ?_
  rintro e8 w8 ⟨⟨r, -, rfl⟩, hf8⟩
  rw [decide_eq_true (HS.out.same r)]
  have F9 := Lib.hid (F8.out.trans hf8 (by simp))
  clear hf8 hse
  go_wp2_with fail
  refine (sane_any _).mono ?_
  rintro e9 w9 ⟨rfl, hf9⟩
  have FF := Lib.hid (((HF1.out.trans HF6.out (fun z hz => by rw [List.mem_singleton.1 hz, HTB.out]; exact .inr (Nat.le_refl _))).trans F9.out (by simp)).trans hf9 (by simp))
  clear hf9
  go_wp2_with fail
  go_ret
  exact ⟨rfl, FF.out⟩
end Go.Proofs.YtdknbgejhhoaiaaGreat.Ind
