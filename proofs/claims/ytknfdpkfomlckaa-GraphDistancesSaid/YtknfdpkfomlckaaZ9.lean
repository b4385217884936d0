/- GraphExamples and GraphSteps of the law answer true. -/
import Derived.Test.YtknfdpkfomlckaaB9
import Derived.Test.YtknfdpkfomlckaaZ6
namespace Go.Proofs.Ytknfdpkfomlckaa
open Go.RowKit

theorem exv0 : Vis exL 0 = [2] := by rfl
theorem exv1 : Vis exL 1 = [] := by rfl
theorem exv2 : Vis exL 2 = [3] := by rfl
theorem exv3 : Vis exL 3 = [] := by rfl
theorem ex_acc3 : accG exL 3 = ([], true) := by decide
theorem ex_vr_min : ∀ j v, VR (Esel exL true) (Vis exL) j v → v < 4 ∧ Tj.ix [0, 0, 1, 2] v ≤ j := by
  intro j v h
  induction h with
  | start => exact ⟨by omega, by decide⟩
  | sil hv e ih =>
    rename_i k a b
    obtain ⟨h1, h2⟩ := ih
    rcases a with _ | _ | _ | _ | a
    · rw [ex0, List.mem_singleton] at e; subst e; exact ⟨by omega, by simp [Tj.ix]⟩
    · rw [ex1, List.mem_singleton] at e; subst e; exact ⟨by omega, by simp [Tj.ix]⟩
    · rw [ex2] at e; cases e
    · rw [ex3] at e; cases e
    · omega
  | vis hv e ih =>
    rename_i k a b
    obtain ⟨h1, h2⟩ := ih
    rcases a with _ | _ | _ | _ | a
    · rw [exv0, List.mem_singleton] at e; subst e; exact ⟨by omega, by simp [Tj.ix]; omega⟩
    · rw [exv1] at e; cases e
    · rw [exv2, List.mem_singleton] at e; subst e; exact ⟨by omega, by simp [Tj.ix] at h2 ⊢; omega⟩
    · rw [exv3] at e; cases e
    · omega
theorem ex_vd : IsVD (Esel exL true) (Vis exL) 4 [0, 0, 1, 2] := by
  refine ⟨rfl, fun v hv h => ?_, fun v hv h => ?_, fun v hv => ?_⟩
  · rcases v with _ | _ | _ | _ | v
    · exact absurd h (by decide)
    · exact absurd h (by decide)
    · exact absurd h (by decide)
    · exact absurd h (by decide)
    · omega
  rotate_left
  · rcases v with _ | _ | _ | _ | v
    · decide
    · decide
    · decide
    · decide
    · omega
  · have h0 : VR (Esel exL true) (Vis exL) 0 0 := .start
    have h1 : VR (Esel exL true) (Vis exL) 0 1 := .sil h0 (by rw [ex0]; simp)
    have h2 : VR (Esel exL true) (Vis exL) 1 2 := .vis h0 (by rw [exv0]; simp)
    have h3 : VR (Esel exL true) (Vis exL) 2 3 := .vis h2 (by rw [exv2]; simp)
    rcases v with _ | _ | _ | _ | v
    · exact ⟨0, rfl, h0, fun j _ => Nat.zero_le j⟩
    · exact ⟨0, rfl, h1, fun j _ => Nat.zero_le j⟩
    · exact ⟨1, rfl, h2, fun j hj => by have := (ex_vr_min j 2 hj).2; simp [Tj.ix] at this; omega⟩
    · exact ⟨2, rfl, h3, fun j hj => by have := (ex_vr_min j 3 hj).2; simp [Tj.ix] at this; omega⟩
    · omega
theorem vd_ex {B : Nat} {w' : World} {e : Ending} (h : VDEnd B exL w' e) : ∃ g, e = .returned (.slice (some ⟨g, 0, none⟩) 4 4) ∧ OwnI B w' (some ⟨g, 0, none⟩) 4 [0, 0, 1, 2] := by
  rw [VDEnd, if_pos ex_valid] at h
  obtain ⟨g, out, he, hown, hd⟩ := h
  obtain rfl := hd.unique ex_vd
  exact ⟨g, he, hown⟩

set_option linter.unusedSimpArgs false in
set_option maxRecDepth 100000 in
set_option maxHeartbeats 4000000 in
theorem examples_law (w : World) :
    Calls Try.prog 9 #[] w fun e w' => e = .returned (.bool true) ∧ Frm [] w w' := by
  go_enter Try.func9, Try.ntmps9
  go_wp2_with fail
  refine (example_any w).mono ?_
  rintro e1 w1 ⟨a, rfl, hla, hf1⟩
  have HF1 := Lib.hid hf1
  have hac : Calls Try.prog 30 #[.agg #[.slice a 4 4], .int .i64 3] w1 _ := gacc_any w1.heap.size a 4 exL 3 w1 hla
  clear hf1 hla
  go_wp2_with fail
  refine hac.mono ?_
  rintro e2 w2 ⟨a2, c2, rfl, -, hf2⟩
  rw [ex_acc3]
  have HF2 := Lib.hid (HF1.out.trans hf2 (by simp))
  clear hac hf2
  go_wp2_with fail
  refine (example_any w2).mono ?_
  rintro e3 w3 ⟨a3, rfl, hla3, hf3⟩
  have HF3 := Lib.hid (HF2.out.trans hf3 (by simp))
  have hds : Calls Try.prog 32 #[.agg #[.slice a3 4 4]] w3 _ := dist_any w3.heap.size a3 4 exL w3 hla3
  clear hf3 hla3
  go_wp2_with fail
  refine hds.mono ?_
  rintro e4 w4 ⟨h4, hf4⟩
  obtain ⟨g4, rfl, hown4⟩ := vd_ex h4
  have HF4 := Lib.hid (HF3.out.trans hf4 (by simp))
  have H4 := Lib.hid hown4
  have hf5 : Frm [] w4 (w4.alloc (.cells #[.int .i64 0, .int .i64 0, .int .i64 1, .int .i64 2] 3)) := (Frm.refl [] w4).alloc _
  have his : Calls Try.prog 15 #[.slice (some ⟨g4, 0, none⟩) 4 4, .slice (some ⟨w4.heap.size, 0, none⟩) 4 4] (w4.alloc (.cells #[.int .i64 0, .int .i64 0, .int .i64 1, .int .i64 2] 3)) _ := ints_same (w4.alloc (.cells #[.int .i64 0, .int .i64 0, .int .i64 1, .int .i64 2] 3)).heap.size (some ⟨g4, 0, none⟩) (some ⟨w4.heap.size, 0, none⟩) 4 4 [0, 0, 1, 2] [0, 0, 1, 2] _ (OwnI.rd (OwnI.frmO H4.out hf5) (Nat.le_refl _)) (rd_of_owns (owns_made_full w4 3 1 (ints [0, 0, 1, 2]) 4 rfl (by decide)) (Nat.le_refl _))
  have HIS := Lib.hid his
  have HF5 := Lib.hid hf5
  clear hds h4 hf4 hown4 his hf5
  go_wp2_with fail
  refine HIS.out.mono ?_
  rintro e6 w6 ⟨h6, hf6⟩
  have h6' : e6 = .returned (.bool true) := by simpa using h6
  subst h6'
  have HF6 := Lib.hid ((HF4.out.trans HF5.out (by simp)).trans hf6 (by simp))
  clear hf6
  go_wp2_with fail
  refine (sane_any w6).mono ?_
  rintro e7 w7 ⟨rfl, hf7⟩
  have HF7 := Lib.hid (HF6.out.trans hf7 (by simp))
  clear hf7
  go_wp2_with fail
  go_ret
  exact ⟨rfl, HF7.out⟩

theorem vd_ok (B0 : Nat) (a : Option Addr) (cap : Nat) (l : Lts) (w : World) (h : LAt B0 w a cap l) (hv : validB l = true) :
    Calls Try.prog 32 #[.agg #[.slice a l.length cap]] w fun e w' => (∃ g out, e = .returned (.slice (some ⟨g, 0, none⟩) l.length l.length) ∧ w'.ownsRow w.heap.size 3 1 (.slice (some ⟨g, 0, none⟩) l.length l.length) l.length (ints out) ∧ IsVD (Esel l true) (Vis l) l.length out) ∧ Frm [] w w' := by
  refine (dist_any B0 a cap l w h).mono ?_
  rintro e w' ⟨h1, hf⟩
  rw [VDEnd, if_pos hv] at h1
  exact ⟨h1, hf⟩
/-- What the law asks of an arc. -/
theorem step_at {l : Lts} (hv : VLts l) {out : List Int} (h : IsVD (Esel l true) (Vis l) l.length out) {s : Nat} (hs : s < l.length) (h0 : 0 ≤ Tj.ix out s) {row : List Arc} (hr : l[s]? = some row) {j m : Nat} {e : Int} (hj : row[j]? = some (e, (m : Int))) :
    0 ≤ Tj.ix out m ∧ (e = 0 → Tj.ix out m ≤ Tj.ix out s) ∧ (e ≠ 0 → Tj.ix out m ≤ Tj.ix out s + 1) := by
  obtain ⟨k, h1, h2, h3⟩ := h.ok s hs h0
  have hok := (hv.row row (List.mem_of_getElem? hr)).ok e m (List.mem_of_getElem? hj)
  have hm : m < l.length := by omega
  have key : ∀ k', VR (Esel l true) (Vis l) k' m → 0 ≤ Tj.ix out m ∧ Tj.ix out m ≤ k' := fun k' hk => by
    rcases (show Tj.ix out m < 0 ∨ 0 ≤ Tj.ix out m by omega) with h9 | h9
    · exact absurd hk ((h.neg m hm h9).2 k')
    · obtain ⟨i, e1, _, e3⟩ := h.ok m hm h9
      have := e3 k' hk
      exact ⟨h9, by omega⟩
  by_cases he : e = 0
  · subst he
    have hmem : m ∈ Esel l true s := by
      rw [esel_of hr, sel_filter (hv.row row (List.mem_of_getElem? hr)), List.mem_map]
      exact ⟨(0, (m : Int)), List.mem_filter.2 ⟨List.mem_of_getElem? hj, by simp [follows]⟩, by simp⟩
    have := key k (.sil h2 hmem)
    exact ⟨this.1, fun _ => by omega, fun h9 => absurd rfl h9⟩
  · have hmem : m ∈ Vis l s := (mem_vis hr).2 ⟨(e, (m : Int)), List.mem_of_getElem? hj, he, by simp⟩
    have := key (k + 1) (.vis h2 hmem)
    exact ⟨this.1, fun h9 => absurd h9 he, fun _ => by push_cast at this; omega⟩

set_option linter.unusedSimpArgs false in
set_option maxRecDepth 100000 in
set_option maxHeartbeats 4000000 in
theorem steps_law (ta : Option Addr) (tcap : Nat) (xs : List Int) (w : World) (ht : Rd w.heap.size w ta xs.length tcap 1 (ints xs)) (hx : ∀ x ∈ xs, -9223372036854775808 ≤ x ∧ x ≤ 9223372036854775807) :
    Calls Try.prog 11 #[.slice ta xs.length tcap] w fun e w' => e = .returned (.bool true) ∧ Frm [] w w' := by
  have hnew := tape_new w.heap.size ta tcap xs w ht hx
  clear ht hx
  go_enter Try.func11, Try.ntmps11
  go_wp2_with fail
  refine hnew.mono ?_
  rintro e1 w1 ⟨rfl, hf1, hT1, hsz1⟩
  have HF1 := Lib.hid hf1
  have HT1 := Lib.hid hT1
  clear hnew hf1 hT1
  go_wp2_with fail
  refine (chain_any w.heap.size w.heap.size 0 9 w1 HT1.out (Nat.le_refl _) (by omega) (by omega) (by omega)).mono ?_
  rintro e2 w2 ⟨l, g, rfl, hg, hM, hS, -, hf2⟩
  have hva := hS.valid (by omega) (by omega)
  have hpos := hS.pos
  have hfew := hS.few
  have hsz2 := hf2.size
  have hrows : ∀ row ∈ l, row.length ≤ 140737488355328 := fun row hr => by
    obtain ⟨i, hi⟩ := List.getElem?_of_mem hr
    have := (hS.row i row hi).2.2
    omega
  have HR4 : Hid (∀ row ∈ l, row.length ≤ 4) := Lib.hid (fun row hr => by
    obtain ⟨i, hi⟩ := List.getElem?_of_mem hr
    exact (hS.row i row hi).2.2)
  have hf3 : Frm [] w2 (w2.alloc (.cells #[.slice (some ⟨g, 0, none⟩) l.length l.length] 25)) := (Frm.refl [] w2).alloc _
  have HB := Lib.hid (box1 w2 (.slice (some ⟨g, 0, none⟩) l.length l.length) 25)
  have HL := Lib.hid ((hM.lat (by omega) hrows).nil hf3 rfl)
  have HF3 := Lib.hid ((HF1.out.trans hf2 (by simp)).trans hf3 (by simp))
  have HVA := Lib.hid hva
  have hdv := vd_ok w2.heap.size (some ⟨g, 0, none⟩) l.length l _ HL.out hva
  have i6 : (l.length : Int) ≤ 9 := by omega
  have i7 : (0 : Int) < (l.length : Int) := by omega
  clear hM hS hf2 hf3 hrows hva
  go_wp2_with fail
  refine hdv.mono ?_
  rintro e4 w4 ⟨⟨gd, out, rfl, hownd, hisd⟩, hf4⟩
  have HF4 := Lib.hid hf4
  have HOWND := Lib.hid hownd
  have HIS := Lib.hid hisd
  have HB4 := Lib.hid (HB.out.frm hf4 (by simp))
  have hb4 := HB4.out.cell (i := 0) rfl
  have HL4 := Lib.hid (HL.out.nil hf4 rfl)
  have hz0 : Tj.ix out 0 = 0 := by
    have h1 : VR (Esel l true) (Vis l) 0 0 := .start
    rcases (show Tj.ix out 0 < 0 ∨ 0 ≤ Tj.ix out 0 by omega) with h9 | h9
    · exact absurd h1 ((hisd.neg 0 (by omega) h9).2 0)
    · obtain ⟨k, e1, _, e3⟩ := hisd.ok 0 (by omega) h9
      have := e3 0 h1
      omega
  have c0 := (own_rowg2 hownd).cell (ints_get (ix_some hisd.len (show 0 < l.length by omega)))
  rw [hz0] at c0
  have hlo := hisd.len
  clear hdv hf4 hownd hisd hz0
  go_wp2_with fail
  go_loopg [5] l.length (fun q i wr => ∃ (k : Nat), q = l.length - k ∧ k ≤ l.length ∧ i = .int .i64 (k : Int) ∧ Frm [] w4 wr)
  case atStart => exact ⟨0, rfl, Nat.zero_le _, rfl, Frm.refl _ _⟩
  case round =>
    obtain ⟨k, rfl, hk, rfl, hF⟩ := hrel
    have HF := Lib.hid hF
    have hbr := (HB4.out.frm hF (by simp)).cell (i := 0) rfl
    have i4 : (0 : Int) ≤ (k : Int) := by omega
    clear hF hb4 c0
    by_cases hkl : k < l.length
    · have i5 : (k : Int) < (l.length : Int) := by omega
      obtain ⟨row, hrow⟩ : ∃ row, l[k]? = some row := ⟨_, List.getElem?_eq_getElem hkl⟩
      obtain ⟨bl, ol, ra, rc, hla, hblB, q1, hrr⟩ := HL4.out.cell k row hrow
      obtain ⟨rfl, rfl⟩ : g = bl ∧ 0 = ol := by simpa using hla
      have hr4 := HR4.out row (List.mem_of_getElem? hrow)
      have HRR := Lib.hid hrr
      rw [Nat.zero_add] at q1
      have Q1 := Lib.hid q1
      have HROW := Lib.hid hrow
      obtain ⟨x, hx⟩ : ∃ x, Tj.ix out k = x := ⟨_, rfl⟩
      have cx := (own_rowg2 HOWND.out).cell (ints_get (ix_some hlo hkl))
      rw [hx] at cx
      have CX := Lib.hid cx
      have HX := Lib.hid hx
      have hxb1 : x < (l.length : Int) := by rw [← hx]; exact HIS.out.bnd k hkl
      have hxb2 : -1 ≤ x := by
        rcases (show x < 0 ∨ 0 ≤ x by omega) with h9 | h9
        · have := (HIS.out.neg k hkl (by omega)).1
          omega
        · omega
      have hwr : IntKind.i64.wrap (x + 1) = x + 1 := IntWalk.i64_in _ (by omega)
      have i8 : (row.length : Int) ≤ 4 := by omega
      clear hla hrr q1 hrow hx cx
      go_wp2_with fail
      go_loopg [6] row.length (fun q i wr => ∃ (j : Nat), q = row.length - j ∧ j ≤ row.length ∧ i = .int .i64 (j : Int) ∧ Frm [] w4 wr)
      case atStart => exact ⟨0, rfl, Nat.zero_le _, rfl, HF.out⟩
      case round =>
        obtain ⟨j, rfl, hj, rfl, hF⟩ := hrel
        have HF7 := Lib.hid hF
        have cb7 := (HB4.out.frm hF (by simp)).cell (i := 0) rfl
        have ql := hF.cell Q1.out (by simp)
        have cx7 := hF.cell CX.out (by simp)
        have n1 := World.block_lt_of_cell? _ _ ql
        have n2 := World.block_lt_of_cell? _ _ cb7
        have n3 := World.block_lt_of_cell? _ _ cx7
        have i9 : (0 : Int) ≤ (j : Int) := by omega
        simp only at n1 n2 n3
        clear hF hbr
        by_cases hjl : j < row.length
        · have i10 : (j : Int) < (row.length : Int) := by omega
          by_cases hx0 : 0 ≤ x
          · obtain ⟨⟨e, t⟩, harc⟩ : ∃ y, row[j]? = some y := ⟨_, List.getElem?_eq_getElem hjl⟩
            have hok := ((vlts_of HVA.out).row row (List.mem_of_getElem? HROW.out)).ok e t (List.mem_of_getElem? harc)
            obtain ⟨m, rfl⟩ : ∃ m : Nat, t = (m : Int) := ⟨t.toNat, by omega⟩
            have hml : m < l.length := by omega
            obtain ⟨g3, o3, rfl, hg3, p1, p2⟩ := HRR.out.2.2.2 j e m harc
            have d1 := HF7.out.cell p1 (by simp)
            have d2 := HF7.out.cell p2 (by simp)
            have n4 := World.block_lt_of_cell? _ _ d1
            simp only at n4
            obtain ⟨y, hy⟩ : ∃ y, Tj.ix out m = y := ⟨_, rfl⟩
            have cy := HF7.out.cell ((own_rowg2 HOWND.out).cell (ints_get (ix_some hlo hml))) (by simp)
            have hst := step_at (vlts_of HVA.out) HIS.out hkl (by rw [HX.out]; exact hx0) HROW.out harc
            rw [hy] at cy hst
            rw [HX.out] at hst
            have hy0 := hst.1
            have i11 : ¬ y < 0 := by omega
            have i12 : (0 : Int) ≤ (m : Int) := by omega
            have i13 : (m : Int) < (l.length : Int) := by omega
            clear p1 p2 harc hok hy
            by_cases he0 : e = 0
            · subst he0
              have i14 : ¬ x < y := by have := hst.2.1 rfl; omega
              clear hst
              go_wp2_with fail
              go_roundg (row.length - (j + 1))
              case rel => exact ⟨j + 1, rfl, hjl, by go_num, HF7.out.alloc _⟩
              case measure => omega
            · have heb : (e == 0) = false := by simpa using he0
              have i14 : ¬ x + 1 < y := by have := hst.2.2 he0; omega
              clear hst
              go_wp2_with fail
              go_roundg (row.length - (j + 1))
              case rel => exact ⟨j + 1, rfl, hjl, by go_num, HF7.out.alloc _⟩
              case measure => omega
          · go_wp2_with fail
            go_roundg (l.length - (k + 1))
            case rel => exact ⟨k + 1, rfl, hkl, by go_num, HF7.out⟩
            case measure => omega
        · have i10 : ¬ (j : Int) < (row.length : Int) := by omega
          go_wp2_with fail
          go_roundg (l.length - (k + 1))
          case rel => exact ⟨k + 1, rfl, hkl, by go_num, HF7.out⟩
          case measure => omega
    · have i5 : ¬ (k : Int) < (l.length : Int) := by omega
      go_wp2_with fail
      refine (sane_any wr).mono ?_
      rintro e7 w7 ⟨rfl, hf7⟩
      have HF7 := Lib.hid (((HF3.out.trans HF4.out (by simp)).trans HF.out (by simp)).trans hf7 (by simp))
      clear hf7
      go_wp2_with fail
      go_ret
      exact ⟨rfl, HF7.out⟩

end Go.Proofs.Ytknfdpkfomlckaa
