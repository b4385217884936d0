/- IndependencePermute returns true: the walk. -/
import Derived.Test.YtdknbgejhhoaiaaGreatQ35
import Derived.Test.YtdknbgejhhoaiaaGreatQ36
import Derived.Test.YtdknbgejhhoaiaaGreatQ37
import Derived.Test.YtdknbgejhhoaiaaGreatQ38
import Derived.Test.YtdknbgejhhoaiaaGreatQ39
import Derived.Deep.DeepCutAuto
namespace Go.Proofs.YtdknbgejhhoaiaaGreat.Ind
open Go.Shelf Go.RowKit Go.Lib

theorem LtsAt.nilL {w w' : World} {F : List Nat} {v : Value} {rows : List (List Ar)} (h : LtsAt w F v rows) (hf : Frm [] w w') : LtsAt w' F v rows := h.step hf (by simp) (fun _ hk => .inl hk)
theorem row_made_at (w : World) (k : Nat) (hk : w.heap.size = k) (e : TypeId) (xs : List Value) : RowAt (w.alloc (.cells xs.toArray e)) k e xs := by
  subst hk
  exact RowAt.made w e xs xs.toArray (by simp)
noncomputable instance (m : RM) (n : Nat) (p : List Int) (l : Lts) : Decidable (PermOk m n p l) := Classical.propDecidable _
/-- What both Permutes answer. -/
noncomputable def permRes (m : RM) (n : Nat) (p : List Int) (l : Lts) : List (List Ar) × Int := if PermOk m n p l then ((canB (l.map (permW (m.data * n).toNat n p))).out, 0) else ([], 1)
theorem PermEnd.res {w w' : World} {m : RM} {n : Nat} {p : List Int} {l : Lts} {e : Ending} (h : PermEnd w m n p l e w') : (∃ a c, e = .returned (.tuple #[.agg #[.slice a (permRes m n p l).1.length c], .int .i64 (permRes m n p l).2]) ∧ LtsAt w' [] (.slice a (permRes m n p l).1.length c) (permRes m n p l).1) ∧ Frm [] w w' := by
  obtain ⟨h1, h2⟩ := h
  refine ⟨?_, h2⟩
  rcases h1 with ⟨hok, ov, rfl, hl⟩ | ⟨hno, rfl⟩
  · have e : permRes m n p l = ((canB (l.map (permW (m.data * n).toNat n p))).out, 0) := if_pos hok
    obtain ⟨a, c, rfl, _⟩ := ltsShape hl
    rw [e]
    exact ⟨a, c, rfl, hl⟩
  · have e : permRes m n p l = ([], 1) := if_neg hno
    rw [e]
    exact ⟨none, 0, rfl, [], RowV.nil0 _ _ _, fun i r hr => by simp at hr⟩

set_option linter.unusedSimpArgs false in
set_option maxRecDepth 100000 in
set_option maxHeartbeats 8000000 in
theorem permute_walk (ta : Option Addr) (tc : Nat) (xs : List Int) (la : Option Addr) (lc : Nat) (l : Lts) (pa : Option Addr) (pc : Nat) (p : List Int) (w : World) (ht : Rd w.heap.size w ta xs.length tc 1 (ints xs)) (hx : ∀ x ∈ xs, -9223372036854775808 ≤ x ∧ x ≤ 9223372036854775807) (hl : LAt w.heap.size w la lc l) (hp : RowV w [] (.slice pa p.length pc) p.length 1 (ints p)) :
    Calls Tryz.prog 3 #[.slice ta xs.length tc, .agg #[.slice la l.length lc], .slice pa p.length pc] w fun e w' => e = .returned (.bool true) ∧ Frm [] w w' := by
  have f0 : Frm [] w (w.alloc (.cells #[.slice la l.length lc] 25)) := (Frm.refl [] w).alloc _
  have hb0 := RowAt.made w 25 [.slice la l.length lc] #[.slice la l.length lc] rfl
  have htn := tape_new w.heap.size ta tc xs _ (ht.nil f0) hx
  have HL := Lib.hid hl
  have HP := Lib.hid hp
  clear ht hx hl hp
  go_enter Tryz.func3, Tryz.ntmps3
  go_wp2_with fail
  have hs0 : (w.alloc (.cells #[.slice la l.length lc] 25)).heap.size = w.heap.size + 1 := by simp
  generalize w.alloc (.cells #[.slice la l.length lc] 25) = W0 at *
  refine htn.mono ?_
  rintro e1 W1 ⟨rfl, hf1, hT1, hs1⟩
  have HF1 := Lib.hid (f0.trans hf1 (by simp))
  have HB1 := Lib.hid (hb0.frm hf1 (by simp))
  have HT1 := Lib.hid hT1
  have HTW : Hid (w.heap.size < W0.heap.size ∧ W0.heap.size < W1.heap.size) := Lib.hid (by omega)
  generalize W0.heap.size = tb at *
  clear htn f0 hb0 hf1 hT1 hs0 hs1
  go_wp2_with fail
  refine (machine_any w.heap.size tb 0 false W1 HT1.out (Nat.le_of_lt HTW.out.1) (by omega)).mono ?_
  rintro e2 w2 ⟨m, sv, rfl, hst, -, hT2, hf2⟩
  obtain ⟨sa, sc, rfl, _⟩ := statesShape hst
  unfold machV
  have HST := Lib.hid hst
  have HT2 := Lib.hid hT2
  have HF2 := Lib.hid hf2
  have HSZ2 := Lib.hid hf2.size
  clear hst hT2 hf2
  go_wp2_with fail
  obtain ⟨W3, hW3⟩ : ∃ W3, W3 = w2.alloc (.cells #[.int .i64 m.regs, .int .i64 m.data, .int .i64 m.plain, .slice sa m.states.length sc] 30) := ⟨_, rfl⟩
  have f3 : Frm [] w2 W3 := by rw [hW3]; exact (Frm.refl [] w2).alloc _
  have HM3 : Hid (RowAt W3 w2.heap.size 30 (mboxC m (.slice sa m.states.length sc))) := Lib.hid (by rw [hW3]; exact RowAt.made w2 _ _ _ rfl)
  have HST3 := Lib.hid (HST.out.nil f3)
  have HT3 := Lib.hid (HT2.out.nil f3)
  have HF3 := Lib.hid (HF2.out.trans f3 (by simp))
  have hs3 : W3.heap.size = w2.heap.size + 1 := by rw [hW3]; simp
  have HXM : Hid (tb < w2.heap.size ∧ w2.heap.size < W3.heap.size) := Lib.hid (by have := HTW.out; have := HSZ2.out; omega)
  rw [← hW3]
  generalize w2.heap.size = xm at *
  clear hW3 f3 hs3 HST HT2 HF2 HSZ2
  go_loopg [9] 4 (fun q t9 wr => ∃ (k : Nat), q = 4 - k ∧ k ≤ 4 ∧ t9 = .int .i64 k ∧ TapeOk w.heap.size wr tb (100 + 2000 * k) ∧ Frm [tb] W3 wr)
  case atStart => exact ⟨0, rfl, Nat.zero_le _, rfl, HT3.out, Frm.refl _ _⟩
  case round =>
    obtain ⟨k, hq, hk, rfl, hT, hF⟩ := hrel
    have HQ := Lib.hid hq
    have HT := Lib.hid hT
    have HF := Lib.hid hF
    have HBT : Hid (w.heap.size ≤ tb) := Lib.hid (Nat.le_of_lt HTW.out.1)
    have i4 : (0 : Int) ≤ (k : Int) := by omega
    clear hq hT hF
    by_cases hlt : k < 4
    · have i5 : (k : Int) < 4 := by omega
      have HK := Lib.hid hlt
      clear hlt hk
      go_wp2_with fail
      refine (lts_any w.heap.size tb (100 + 2000 * k) 4 wr HT.out HBT.out (by have := HK.out; omega) (by omega) (by omega)).mono ?_
      rintro e4 w4 ⟨l1, g, rfl, hg, hmat, hsys, hT4, hf4⟩
      have hs4 := hf4.size
      have HMAT := Lib.hid hmat
      have hgt : tb < g := by have := HXM.out; have := HF.out.size; omega
      have HFEW : Hid (l1.length ≤ 140737488355328 ∧ ∀ row ∈ l1, row.length ≤ 140737488355328) := Lib.hid ⟨by have := hsys.few; omega, fun row hr => by
        obtain ⟨i, hi⟩ := List.getElem?_of_mem hr
        have := (hsys.row i row hi).2.2
        omega⟩
      have HT4 := Lib.hid hT4
      have HF4 := Lib.hid (HF.out.trans hf4 (fun x hx => .inl hx))
      have HTW4 : Hid (tb < w4.heap.size ∧ xm < w4.heap.size) := Lib.hid (by have := HXM.out; have := HF4.out.size; omega)
      clear hmat hsys hT4 hf4 hg hs4
      go_wp2_with fail
      obtain ⟨W5, hW5⟩ : ∃ W5, W5 = (((((((w4.alloc (.cells #[.slice (some ⟨g, 0, none⟩) l1.length l1.length] 25)).alloc (.cells #[.int .i64 0, .int .i64 2, .int .i64 1] 3)).alloc (.cells #[.int .i64 0, .int .i64 1, .int .i64 2] 3)).alloc (.cells #[.int .i64 1, .int .i64 0, .int .i64 2] 3)).alloc (.cells #[.int .i64 0, .int .i64 1, .int .i64 1] 3)).alloc (.cells #[.int .i64 0, .int .i64 1] 3)).alloc (.cells #[.slice (some ⟨w4.heap.size + 1, 0, none⟩) 3 3, .slice (some ⟨w4.heap.size + 1 + 1, 0, none⟩) 3 3, .slice (some ⟨w4.heap.size + 1 + 1 + 1, 0, none⟩) 3 3, .slice (some ⟨w4.heap.size + 1 + 1 + 1 + 1, 0, none⟩) 3 3, .slice (some ⟨w4.heap.size + 1 + 1 + 1 + 1 + 1, 0, none⟩) 2 2, .slice none 0 0] 22)) := ⟨_, rfl⟩
      have f5 : Frm [] w4 W5 := by rw [hW5]; exact (((((((Frm.refl [] w4).alloc _).alloc _).alloc _).alloc _).alloc _).alloc _).alloc _
      have e0 : RowAt W5 (w4.heap.size) 25 [.slice (some ⟨g, 0, none⟩) l1.length l1.length] := by rw [hW5]; exact ((((((row_made_at w4 (w4.heap.size) (by simp) 25 [.slice (some ⟨g, 0, none⟩) l1.length l1.length]).alloc _).alloc _).alloc _).alloc _).alloc _).alloc _
      have e1 : RowAt W5 (w4.heap.size + 1) 3 [.int .i64 0, .int .i64 2, .int .i64 1] := by rw [hW5]; exact (((((row_made_at (w4.alloc (.cells #[.slice (some ⟨g, 0, none⟩) l1.length l1.length] 25)) (w4.heap.size + 1) (by simp) 3 [.int .i64 0, .int .i64 2, .int .i64 1]).alloc _).alloc _).alloc _).alloc _).alloc _
      have e2 : RowAt W5 (w4.heap.size + 1 + 1) 3 [.int .i64 0, .int .i64 1, .int .i64 2] := by rw [hW5]; exact ((((row_made_at ((w4.alloc (.cells #[.slice (some ⟨g, 0, none⟩) l1.length l1.length] 25)).alloc (.cells #[.int .i64 0, .int .i64 2, .int .i64 1] 3)) (w4.heap.size + 1 + 1) (by simp) 3 [.int .i64 0, .int .i64 1, .int .i64 2]).alloc _).alloc _).alloc _).alloc _
      have e3 : RowAt W5 (w4.heap.size + 1 + 1 + 1) 3 [.int .i64 1, .int .i64 0, .int .i64 2] := by rw [hW5]; exact (((row_made_at (((w4.alloc (.cells #[.slice (some ⟨g, 0, none⟩) l1.length l1.length] 25)).alloc (.cells #[.int .i64 0, .int .i64 2, .int .i64 1] 3)).alloc (.cells #[.int .i64 0, .int .i64 1, .int .i64 2] 3)) (w4.heap.size + 1 + 1 + 1) (by simp) 3 [.int .i64 1, .int .i64 0, .int .i64 2]).alloc _).alloc _).alloc _
      have e4 : RowAt W5 (w4.heap.size + 1 + 1 + 1 + 1) 3 [.int .i64 0, .int .i64 1, .int .i64 1] := by rw [hW5]; exact ((row_made_at ((((w4.alloc (.cells #[.slice (some ⟨g, 0, none⟩) l1.length l1.length] 25)).alloc (.cells #[.int .i64 0, .int .i64 2, .int .i64 1] 3)).alloc (.cells #[.int .i64 0, .int .i64 1, .int .i64 2] 3)).alloc (.cells #[.int .i64 1, .int .i64 0, .int .i64 2] 3)) (w4.heap.size + 1 + 1 + 1 + 1) (by simp) 3 [.int .i64 0, .int .i64 1, .int .i64 1]).alloc _).alloc _
      have e5 : RowAt W5 (w4.heap.size + 1 + 1 + 1 + 1 + 1) 3 [.int .i64 0, .int .i64 1] := by rw [hW5]; exact (row_made_at (((((w4.alloc (.cells #[.slice (some ⟨g, 0, none⟩) l1.length l1.length] 25)).alloc (.cells #[.int .i64 0, .int .i64 2, .int .i64 1] 3)).alloc (.cells #[.int .i64 0, .int .i64 1, .int .i64 2] 3)).alloc (.cells #[.int .i64 1, .int .i64 0, .int .i64 2] 3)).alloc (.cells #[.int .i64 0, .int .i64 1, .int .i64 1] 3)) (w4.heap.size + 1 + 1 + 1 + 1 + 1) (by simp) 3 [.int .i64 0, .int .i64 1]).alloc _
      have e6 : RowAt W5 (w4.heap.size + 1 + 1 + 1 + 1 + 1 + 1) 22 [.slice (some ⟨w4.heap.size + 1, 0, none⟩) 3 3, .slice (some ⟨w4.heap.size + 1 + 1, 0, none⟩) 3 3, .slice (some ⟨w4.heap.size + 1 + 1 + 1, 0, none⟩) 3 3, .slice (some ⟨w4.heap.size + 1 + 1 + 1 + 1, 0, none⟩) 3 3, .slice (some ⟨w4.heap.size + 1 + 1 + 1 + 1 + 1, 0, none⟩) 2 2, .slice none 0 0] := by rw [hW5]; exact row_made_at ((((((w4.alloc (.cells #[.slice (some ⟨g, 0, none⟩) l1.length l1.length] 25)).alloc (.cells #[.int .i64 0, .int .i64 2, .int .i64 1] 3)).alloc (.cells #[.int .i64 0, .int .i64 1, .int .i64 2] 3)).alloc (.cells #[.int .i64 1, .int .i64 0, .int .i64 2] 3)).alloc (.cells #[.int .i64 0, .int .i64 1, .int .i64 1] 3)).alloc (.cells #[.int .i64 0, .int .i64 1] 3)) (w4.heap.size + 1 + 1 + 1 + 1 + 1 + 1) (by simp) 22 [.slice (some ⟨w4.heap.size + 1, 0, none⟩) 3 3, .slice (some ⟨w4.heap.size + 1 + 1, 0, none⟩) 3 3, .slice (some ⟨w4.heap.size + 1 + 1 + 1, 0, none⟩) 3 3, .slice (some ⟨w4.heap.size + 1 + 1 + 1 + 1, 0, none⟩) 3 3, .slice (some ⟨w4.heap.size + 1 + 1 + 1 + 1 + 1, 0, none⟩) 2 2, .slice none 0 0]
      rw [← hW5]
      have HSZ5 : Hid (w4.heap.size + 7 = W5.heap.size) := Lib.hid (by rw [hW5]; simp)
      clear hW5
      have HF5 := Lib.hid (HF4.out.trans f5 (by simp))
      refine (next_any w.heap.size tb (100 + 2000 * k + 1000) 6 W5 (HT4.out.nil f5) HBT.out (by have := HK.out; omega) (by omega)).mono ?_
      rintro e5 w5 ⟨⟨y, rfl, hy, -⟩, hT5, hf5⟩
      have hy0 : 0 ≤ y := by omega
      have hy1 : y < 6 := by omega
      have r0 := e0.frm hf5 (by have := HTW4.out; simp; omega)
      have r1 := e1.frm hf5 (by have := HTW4.out; simp; omega)
      have r2 := e2.frm hf5 (by have := HTW4.out; simp; omega)
      have r3 := e3.frm hf5 (by have := HTW4.out; simp; omega)
      have r4 := e4.frm hf5 (by have := HTW4.out; simp; omega)
      have r5 := e5.frm hf5 (by have := HTW4.out; simp; omega)
      have r6 := e6.frm hf5 (by have := HTW4.out; simp; omega)
      have HX5 := Lib.hid r0
      have HM5 := Lib.hid (((HMAT.out.frm f5 (by simp)).frm hf5 (fun z hz => by rw [List.mem_singleton.1 hz]; exact hgt)).lat HFEW.out.1 HFEW.out.2)
      have HT5 := Lib.hid hT5
      have HF6 := Lib.hid (HF5.out.trans hf5 (fun x hx => .inl hx))
      have hwsz : w.heap.size ≤ tb := HBT.out
      have HFW := Lib.hid ((HF1.out.trans HF3.out (fun z hz => by rw [List.mem_singleton.1 hz]; exact .inr hwsz)).trans HF6.out (fun z hz => by rw [List.mem_singleton.1 hz]; exact .inr hwsz))
      have HP5 := Lib.hid (HP.out.nil HFW.out)
      have HST5 : Hid (StatesAt w5 [] (.slice sa m.states.length sc) m.states) := Lib.hid ((HST3.out.step HF6.out (fun x hx => .inl hx) (fun x hx => .inl hx) : StatesAt w5 [tb] _ _).step (Frm.refl [] w5) (by simp) (by simp))
      have HXM5 := Lib.hid (HM3.out.frm HF6.out (by have := HXM.out; simp; omega))
      clear hy hT5 hf5 f5 e0 e1 e2 e3 e4 e5 e6 r0
      obtain ⟨yn, rfl⟩ : ∃ yn : Nat, y = yn := ⟨y.toNat, by omega⟩
      obtain ⟨qa, qc, q, hqc, hq⟩ : ∃ (qa : Option Addr) (qc : Nat) (q : List Int), w5.cell? ⟨w4.heap.size + 1 + 1 + 1 + 1 + 1 + 1, yn, none⟩ = some (.slice qa q.length qc) ∧ RowV w5 [] (.slice qa q.length qc) q.length 1 (ints q) := by
        rcases (show yn = 0 ∨ yn = 1 ∨ yn = 2 ∨ yn = 3 ∨ yn = 4 ∨ yn = 5 by omega) with rfl | rfl | rfl | rfl | rfl | rfl
        · exact ⟨_, _, [0, 2, 1], r6.cell (i := 0) rfl, rowV_cells (size := 1) r1 rfl (Nat.le_refl _) (by decide) (by simp)⟩
        · exact ⟨_, _, [0, 1, 2], r6.cell (i := 1) rfl, rowV_cells (size := 1) r2 rfl (Nat.le_refl _) (by decide) (by simp)⟩
        · exact ⟨_, _, [1, 0, 2], r6.cell (i := 2) rfl, rowV_cells (size := 1) r3 rfl (Nat.le_refl _) (by decide) (by simp)⟩
        · exact ⟨_, _, [0, 1, 1], r6.cell (i := 3) rfl, rowV_cells (size := 1) r4 rfl (Nat.le_refl _) (by decide) (by simp)⟩
        · exact ⟨_, _, [0, 1], r6.cell (i := 4) rfl, rowV_cells (size := 1) r5 rfl (Nat.le_refl _) (by decide) (by simp)⟩
        · exact ⟨none, 0, [], r6.cell (i := 5) rfl, RowV.nil0 _ _ _⟩
      have HQV := Lib.hid hq
      have hql := hq.rd.lt
      clear hq r1 r2 r3 r4 r5 r6
      go_upto_region 8 with fail
      go_cut [46] (fun s46 wx => ∃ bb : Bool, s46 = .bool bb ∧ w5 = wx)
      case first =>
        by_cases hk3 : k = 3
        · have b1 : ((k : Int) == 3) = true := by simp; omega
          go_wp2_with fail
          all_goals
            go_meet
            exact ⟨_, rfl, rfl⟩
        · have b1 : ((k : Int) == 3) = false := by simp; omega
          go_wp2_with fail
          all_goals
            go_meet
            exact ⟨_, rfl, rfl⟩
      case rest =>
      obtain ⟨bb, rfl, rfl⟩ := hcut
      go_upto_if 46 with fail
      go_cut [11] (fun s11 wx => ∃ q : List Int, RowV w5 [] s11 q.length 1 (ints q) ∧ w5 = wx)
      case first =>
        cases bb with
        | true =>
          go_wp2_with fail
          go_meet
          exact ⟨p, HP5.out, rfl⟩
        | false =>
          go_wp2_with fail
          go_meet
          exact ⟨q, HQV.out, rfl⟩
      case rest =>
        obtain ⟨q2, hq2, rfl⟩ := hcut
        obtain ⟨qa2, qc2, rfl⟩ := RowV.shape hq2
        have hca := (permute_any w5 m (.slice sa m.states.length sc) (.slice qa2 q2.length qc2) 3 q2 (some ⟨g, 0, none⟩) l1.length l1 HST5.out hq2 HM5.out (by omega) (by omega)).mono (fun _ _ h => PermEnd.res h)
        have hcb := fun W (hf : Frm [] w5 W) => (refPermute_any W m (.slice sa m.states.length sc) (.slice qa2 q2.length qc2) 3 q2 (some ⟨g, 0, none⟩) l1.length l1 (HST5.out.nil hf) (hq2.nil hf) ((HM5.out.nil hf rfl).mono hf.size) (by omega) (by omega)).mono (fun _ _ h => PermEnd.res h)
        unfold machV at hca hcb
        obtain ⟨pr, hpr⟩ : ∃ pr, pr = permRes m 3 q2 l1 := ⟨_, rfl⟩
        rw [← hpr] at hca
        simp only [← hpr] at hcb
        have HCA := Lib.hid hca
        have HCB := Lib.hid hcb
        have HCELL : Hid (∀ W, Frm [] w5 W → (W.cell? ⟨xm, 0, none⟩ = some (.int .i64 m.regs) ∧ W.cell? ⟨xm, 1, none⟩ = some (.int .i64 m.data) ∧ W.cell? ⟨xm, 2, none⟩ = some (.int .i64 m.plain) ∧ W.cell? ⟨xm, 3, none⟩ = some (.slice sa m.states.length sc)) ∧ W.cell? ⟨w4.heap.size, 0, none⟩ = some (.slice (some ⟨g, 0, none⟩) l1.length l1.length) ∧ xm < W.heap.size ∧ w4.heap.size < W.heap.size) := Lib.hid fun W hf => by
          have h1 := HXM5.out.frm hf (by simp)
          have h2 := HX5.out.frm hf (by simp)
          exact ⟨⟨h1.cell (i := 0) rfl, h1.cell (i := 1) rfl, h1.cell (i := 2) rfl, h1.cell (i := 3) rfl⟩, h2.cell (i := 0) rfl, h1.lt, h2.lt⟩
        obtain ⟨⟨z0, z1, z2, z3⟩, z4, z5, z6⟩ := HCELL.out w5 (Frm.refl [] w5)
        clear hq2 hpr hca hcb hqc hql hy0 hy1
        go_wp2_with (first
          | (go_at_call 9; refine HCA.out.mono ?_; rintro e6 w6 ⟨⟨a6, c6, rfl, hl6⟩, hf6⟩; have HL6 := Lib.hid hl6; have F6 := Lib.hid hf6; have hsz6 := hf6.size; obtain ⟨⟨g0, g1, g2, g3⟩, g4, g5, g6⟩ := HCELL.out w6 hf6; clear hl6 hf6)
          | (go_at_call 10; refine (HCB.out _ (F6.out.alloc _)).mono ?_; rintro e7 w7 ⟨⟨a7, c7, rfl, hl7⟩, hf7⟩; have HL7 := Lib.hid hl7; have F7 := Lib.hid hf7; have hb6 := (RowAt.made w6 25 [.slice a6 pr.1.length c6] #[.slice a6 pr.1.length c6] rfl).frm hf7 (by simp); have hb6c := hb6.cell (i := 0) rfl; have hb6l := hb6.lt; clear hl7 hf7)
          | fail)
        have hsm := sameLts_any (F := []) (w7.alloc (.cells #[.slice a7 pr.1.length c7] 25)) (.slice a6 pr.1.length c6) (.slice a7 pr.1.length c7) pr.1 pr.1 ((HL6.out.nilL ((Frm.refl [] w6).alloc _)).nilL (F7.out.alloc _)) (HL7.out.nilL ((Frm.refl [] w7).alloc _))
        rw [decide_eq_true rfl] at hsm
        refine hsm.mono ?_
        rintro e8 w8 ⟨rfl, hf8⟩
        have F8 := Lib.hid ((((F6.out.alloc (.cells #[.slice a6 pr.1.length c6] 25)).trans F7.out (by simp)).alloc (.cells #[.slice a7 pr.1.length c7] 25)).trans hf8 (by simp))
        clear hf8 hsm
        go_wp2_with fail
        go_roundg (4 - (k + 1))
        case rel => exact ⟨k + 1, rfl, by have := HK.out; omega, by go_num, (HT5.out.nil F8.out).mono (by omega), HF6.out.trans F8.out (by simp)⟩
        case measure => have := HQ.out; have := HK.out; omega
    · have i5 : ¬ (k : Int) < 4 := by omega
      have hwsz : w.heap.size ≤ tb := HBT.out
      have hfw : Frm [] w wr := (HF1.out.trans HF3.out (fun z hz => by rw [List.mem_singleton.1 hz]; exact .inr hwsz)).trans HF.out (fun z hz => by rw [List.mem_singleton.1 hz]; exact .inr hwsz)
      have hbw := (HB1.out.frm HF3.out (by have := HTW.out; simp; omega)).frm HF.out (by have := HTW.out; simp; omega)
      have HFW := Lib.hid hfw
      have HBW := Lib.hid hbw
      have HLW := Lib.hid (HL.out.nil hfw rfl)
      have HXMW := Lib.hid (HM3.out.frm HF.out (by have := HXM.out; simp; omega))
      have HSTW : Hid (StatesAt wr [] (.slice sa m.states.length sc) m.states) := Lib.hid ((HST3.out.step HF.out (fun x hx => .inl hx) (fun x hx => .inl hx) : StatesAt wr [tb] _ _).step (Frm.refl [] wr) (by simp) (by simp))
      have z0 := hbw.cell (i := 0) rfl
      clear hfw hbw
      go_wp2_with fail
      refine (huge_any w.heap.size la lc l wr HLW.out).mono ?_
      rintro e5 w5 ⟨⟨b, rfl, -⟩, hf5⟩
      have HF5 := Lib.hid hf5
      clear hf5
      cases b with
      | true =>
        go_wp2_with fail
        refine (sane_any _).mono ?_
        rintro e6 w6 ⟨rfl, hf6⟩
        have HF6 := Lib.hid ((HFW.out.trans HF5.out (by simp)).trans hf6 (by simp))
        clear hf6
        go_wp2_with fail
        go_ret
        exact ⟨rfl, HF6.out⟩
      | false =>
        have HCELL : Hid (∀ W, Frm [] wr W → (W.cell? ⟨xm, 0, none⟩ = some (.int .i64 m.regs) ∧ W.cell? ⟨xm, 1, none⟩ = some (.int .i64 m.data) ∧ W.cell? ⟨xm, 2, none⟩ = some (.int .i64 m.plain) ∧ W.cell? ⟨xm, 3, none⟩ = some (.slice sa m.states.length sc)) ∧ W.cell? ⟨w.heap.size, 0, none⟩ = some (.slice la l.length lc) ∧ xm < W.heap.size ∧ w.heap.size < W.heap.size) := Lib.hid fun W hf => by
          have h1 := HXMW.out.frm hf (by simp)
          have h2 := HBW.out.frm hf (by simp)
          exact ⟨⟨h1.cell (i := 0) rfl, h1.cell (i := 1) rfl, h1.cell (i := 2) rfl, h1.cell (i := 3) rfl⟩, h2.cell (i := 0) rfl, h1.lt, h2.lt⟩
        have hco := fun (W : World) (V : World) (hf : Frm [] wr W) (hV : V = W.alloc (.cells #[.int .i64 0, .int .i64 2, .int .i64 1] 3)) => (show StatesAt V [] (.slice sa m.states.length sc) m.states ∧ RowV V [] (.slice (some ⟨W.heap.size, 0, none⟩) 3 3) 3 1 (ints [0, 2, 1]) ∧ LAt V.heap.size V la lc l from by
          have h1 : Frm [] wr V := by rw [hV]; exact hf.alloc _
          refine ⟨HSTW.out.nil h1, ?_, (HLW.out.nil h1 rfl).mono (Nat.le_trans HFW.out.size h1.size)⟩
          rw [hV]
          exact rowV_cells (size := 1) (RowAt.made W 3 [.int .i64 0, .int .i64 2, .int .i64 1] #[.int .i64 0, .int .i64 2, .int .i64 1] rfl) rfl (Nat.le_refl _) (by decide) (by simp))
        obtain ⟨pr, hpr⟩ : ∃ pr, pr = permRes m 3 [0, 2, 1] l := ⟨_, rfl⟩
        have hca := fun (W : World) (hf : Frm [] wr W) => (permute_any (W.alloc (.cells #[.int .i64 0, .int .i64 2, .int .i64 1] 3)) m (.slice sa m.states.length sc) (.slice (some ⟨W.heap.size, 0, none⟩) 3 3) 3 [0, 2, 1] la lc l (hco W _ hf rfl).1 (hco W _ hf rfl).2.1 (hco W _ hf rfl).2.2 (by omega) (by omega)).mono (fun _ _ h => PermEnd.res h)
        have hcb := fun (W : World) (hf : Frm [] wr W) => (refPermute_any (W.alloc (.cells #[.int .i64 0, .int .i64 2, .int .i64 1] 3)) m (.slice sa m.states.length sc) (.slice (some ⟨W.heap.size, 0, none⟩) 3 3) 3 [0, 2, 1] la lc l (hco W _ hf rfl).1 (hco W _ hf rfl).2.1 (hco W _ hf rfl).2.2 (by omega) (by omega)).mono (fun _ _ h => PermEnd.res h)
        unfold machV at hca hcb
        simp only [← hpr] at hca hcb
        have HCA := Lib.hid hca
        have HCB := Lib.hid hcb
        obtain ⟨⟨y0, y1, y2, y3⟩, y4, y5, y6⟩ := HCELL.out w5 HF5.out
        clear hpr hca hcb hco z0
        go_wp2_with (first
          | (go_at_call 9; refine (HCA.out w5 HF5.out).mono ?_; rintro e6 w6 ⟨⟨a6, c6, rfl, hl6⟩, hf6⟩; have HL6 := Lib.hid hl6; have F6 := Lib.hid ((HF5.out.alloc _).trans hf6 (by simp)); obtain ⟨⟨g0, g1, g2, g3⟩, g4, g5, g6⟩ := HCELL.out w6 F6.out; clear hl6 hf6)
          | fail)
        have hb6 := RowAt.made w6 25 [.slice a6 pr.1.length c6] #[.slice a6 pr.1.length c6] rfl
        have hs6 : (w6.alloc (.cells #[.slice a6 pr.1.length c6] 25)).heap.size = w6.heap.size + 1 := by simp
        have HB2 := HCB.out (w6.alloc (.cells #[.slice a6 pr.1.length c6] 25)) (F6.out.alloc _)
        rw [hs6] at HB2
        refine HB2.mono ?_
        rintro e7 w7 ⟨⟨a7, c7, rfl, hl7⟩, hf7⟩
        have HL7 := Lib.hid hl7
        have F7 := Lib.hid (((Frm.refl [] (w6.alloc (.cells #[.slice a6 pr.1.length c6] 25))).alloc (.cells #[.int .i64 0, .int .i64 2, .int .i64 1] 3)).trans hf7 (by simp))
        have hb7 := hb6.frm F7.out (by simp)
        have hb7c := hb7.cell (i := 0) rfl
        have hb7l := hb7.lt
        clear hl7 hf7 hb6 hs6 HB2
        go_wp2_with fail
        have hsm := sameLts_any (F := []) (w7.alloc (.cells #[.slice a7 pr.1.length c7] 25)) (.slice a6 pr.1.length c6) (.slice a7 pr.1.length c7) pr.1 pr.1 (((HL6.out.nilL ((Frm.refl [] w6).alloc _)).nilL F7.out).nilL ((Frm.refl [] w7).alloc _)) (HL7.out.nilL ((Frm.refl [] w7).alloc _))
        rw [decide_eq_true rfl] at hsm
        refine hsm.mono ?_
        rintro e8 w8 ⟨rfl, hf8⟩
        have F8 := Lib.hid ((((F6.out.alloc (.cells #[.slice a6 pr.1.length c6] 25)).trans F7.out (by simp)).alloc (.cells #[.slice a7 pr.1.length c7] 25)).trans hf8 (by simp))
        clear hf8 hsm
        go_wp2_with fail
        refine (sane_any _).mono ?_
        rintro e9 w9 ⟨rfl, hf9⟩
        have F9 := Lib.hid ((HFW.out.trans F8.out (by simp)).trans hf9 (by simp))
        clear hf9
        go_wp2_with fail
        go_ret
        exact ⟨rfl, F9.out⟩
theorem rowV_of_rd {w : World} {a : Option Addr} {n c size : Nat} {xs : List Value} (h : Rd w.heap.size w a n c size xs) (hn : a = none → c = 0) : RowV w [] (.slice a n c) n size xs :=
  ⟨h.1, a, c, rfl, h.2, h.3, hn, fun i u hu => by
    obtain ⟨b, o, e, hb, hc⟩ := h.4 i u hu
    exact ⟨b, o, e, by simp, hb, hc⟩⟩
theorem permute_walk2 (ta : Option Addr) (tc : Nat) (xs : List Int) (la : Option Addr) (lc : Nat) (l : Lts) (pa : Option Addr) (pc : Nat) (p : List Int) (w : World) (ht : Rd w.heap.size w ta xs.length tc 1 (ints xs)) (hx : ∀ x ∈ xs, -9223372036854775808 ≤ x ∧ x ≤ 9223372036854775807) (hl : LAt w.heap.size w la lc l) (hp : Rd w.heap.size w pa p.length pc 1 (ints p)) (hn : pa = none → pc = 0) :
    Calls Tryz.prog 3 #[.slice ta xs.length tc, .agg #[.slice la l.length lc], .slice pa p.length pc] w fun e w' => e = .returned (.bool true) ∧ Frm [] w w' :=
  permute_walk ta tc xs la lc l pa pc p w ht hx hl (rowV_of_rd hp hn)
end Go.Proofs.YtdknbgejhhoaiaaGreat.Ind
