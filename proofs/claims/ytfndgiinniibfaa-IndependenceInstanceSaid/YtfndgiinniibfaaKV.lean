/- Contract of the reference's values. (Printed by wip/tools/kv.py.) -/
import Derived.Test.YtfndgiinniibfaaKT
namespace Go.Proofs.Ytfndgiinniibfaa.Ind
open Go.Shelf Go.RowKit Go.Lib

/-- The values with which an arc can be taken. -/
def valsR (n : Nat) (a : RA) (rs : List Int) : List Int := if a.kind = 5 then [regR rs a.reg] else if a.kind = 7 then [regR rs a.frm] else if a.kind = 4 ∨ a.kind = 6 then valsB n a rs else [0]
def vK (a : RA) (rs : List Int) (k : Nat) : List Int := ((List.range k).map Int.ofNat).filter (freeB a rs)
theorem vK_succ (a : RA) (rs : List Int) (k : Nat) : vK a rs (k + 1) = vK a rs k ++ if freeB a rs k = true then [(k : Int)] else [] := by
  unfold vK
  rw [List.range_succ, List.map_append, List.filter_append]
  congr 1
  show List.filter _ [(k : Int)] = _
  cases h : freeB a rs k <;> simp [h]
theorem vK_len (a : RA) (rs : List Int) (k : Nat) : (vK a rs k).length ≤ k := by
  unfold vK
  exact Nat.le_trans (List.length_filter_le _ _) (by simp)
def ValsEnd (w : World) (l : List Int) (e : Ending) (w' : World) : Prop :=
  (∃ ad cp, e = .returned (.slice ad l.length cp) ∧ w'.ownsRow w.heap.size 3 1 (.slice ad l.length cp) l.length (ints l)) ∧ Frm [] w w'
/-- The two boxes of values. -/
structure VBox (w W : World) (va : Value) (a : RA) (st r0 r1 r2 r3 : Int) : Prop where
  frm : Frm [] w W
  ar : RowAt W w.heap.size 24 [.int .i64 a.kind, .int .i64 a.ch, .int .i64 a.reg, .int .i64 a.frm, va, .int .i64 a.to]
  pl : RowAt W (w.heap.size + 1) 94 [.int .i64 st, .int .i64 r0, .int .i64 r1, .int .i64 r2, .int .i64 r3]
theorem VBox.nil {w W W' : World} {va : Value} {a : RA} {st r0 r1 r2 r3 : Int} (h : VBox w W va a st r0 r1 r2 r3) (hf : Frm [] W W') : VBox w W' va a st r0 r1 r2 r3 :=
  ⟨h.frm.trans hf (by simp), h.ar.frm hf (by simp), h.pl.frm hf (by simp)⟩
theorem vbox_made (w : World) (va : Value) (a : RA) (st r0 r1 r2 r3 : Int) :
    VBox w ((w.alloc (.cells #[.int .i64 a.kind, .int .i64 a.ch, .int .i64 a.reg, .int .i64 a.frm, va, .int .i64 a.to] 24)).alloc (.cells #[.int .i64 st, .int .i64 r0, .int .i64 r1, .int .i64 r2, .int .i64 r3] 94)) va a st r0 r1 r2 r3 := by
  refine ⟨((Frm.refl [] w).alloc _).alloc _, ?_, ?_⟩
  · exact (RowAt.made w _ _ _ rfl).alloc _
  · have := RowAt.made (w.alloc (.cells #[.int .i64 a.kind, .int .i64 a.ch, .int .i64 a.reg, .int .i64 a.frm, va, .int .i64 a.to] 24)) 94 [.int .i64 st, .int .i64 r0, .int .i64 r1, .int .i64 r2, .int .i64 r3] #[.int .i64 st, .int .i64 r0, .int .i64 r1, .int .i64 r2, .int .i64 r3] rfl
    simpa using this
theorem one_int (k : Int) : ∀ u ∈ [Value.int .i64 k], u.oneCell' = true := by simp [Value.oneCell']

set_option linter.unusedSimpArgs false in
set_option maxRecDepth 100000 in
set_option maxHeartbeats 8000000 in
theorem values_46 {F : List Nat} (w : World) (n : Nat) (st r0 r1 r2 r3 : Int) (va : Value) (a : RA) (ha : NotAt w F va a) (hok : ∀ r ∈ a.not, 0 ≤ r ∧ r < 4) (hn1 : n ≤ 12) (hk : a.kind = 4 ∨ a.kind = 6) :
    Calls Try.prog 73 #[.int .i64 n, arcV va a, .agg #[.int .i64 st, .int .i64 r0, .int .i64 r1, .int .i64 r2, .int .i64 r3]] w (ValsEnd w (vK a [r0, r1, r2, r3] n)) := by
  obtain ⟨na, nc, rfl⟩ := RowV.shape ha
  have hrd := ha.rd
  have l1 := hrd.lt
  have hbx := vbox_made w (.slice na a.not.length nc) a st r0 r1 r2 r3
  have HOK := Lib.hid hok
  have HSUCC := Lib.hid (vK_succ a [r0, r1, r2, r3])
  have HLEN := Lib.hid (vK_len a [r0, r1, r2, r3])
  have i1 : (n : Int) ≤ 12 := by omega
  have HRD := Lib.hid (hrd.frm hbx.frm (by simp))
  clear ha hok hn1 hrd
  have hj5 : (a.kind == 5) = false := by rcases hk with h | h <;> rw [h] <;> rfl
  have hj7 : (a.kind == 7) = false := by rcases hk with h | h <;> rw [h] <;> rfl
  have hor : (a.kind == 4) = true ∨ ((a.kind == 4) = false ∧ (a.kind == 6) = true) := by rcases hk with h | h <;> rw [h] <;> decide
  clear hk
  have HBX := Lib.hid hbx
  clear hbx
  unfold arcV
  go_enter Try.func73, Try.ntmps73
  rcases hor with j4 | ⟨j4, j6⟩
  all_goals
    go_wp2_with fail
    generalize hW2 : World.alloc (World.alloc _ _) _ = W2 at *
    clear hW2
    go_loopg [7, 8] n (fun q t7 i wr => ∃ (k : Nat) (ad : Option Addr) (cp : Nat), q = n - k ∧ k ≤ n ∧ i = .int .i64 k ∧ t7 = .slice ad (vK a [r0, r1, r2, r3] k).length cp ∧ wr.ownsRow W2.heap.size 3 1 (.slice ad (vK a [r0, r1, r2, r3] k).length cp) (vK a [r0, r1, r2, r3] k).length (ints (vK a [r0, r1, r2, r3] k)) ∧ Frm [] W2 wr)
    case atStart => exact ⟨0, none, 0, rfl, Nat.zero_le _, rfl, rfl, ⟨rfl, .inl ⟨rfl, rfl⟩⟩, Frm.refl _ _⟩
    case round =>
      obtain ⟨k, ad, cp, hq, hkn, rfl, rfl, hown, hF⟩ := hrel
      have HQ := Lib.hid hq
      have HF := Lib.hid hF
      have HO := Lib.hid hown
      have i4 : (0 : Int) ≤ (k : Int) := by omega
      have HB := Lib.hid (HBX.out.nil hF)
      clear hF hown hq
      by_cases hlt : k < n
      · have i5 : (k : Int) < (n : Int) := by omega
        have hsuc := HSUCC.out k
        have HLK := Lib.hid (HLEN.out k)
        have a0 := HB.out.ar.cell (i := 0) rfl
        go_wp2_with fail
        clear a0
        obtain ⟨wx, hwx⟩ : ∃ x, x = wr := ⟨wr, rfl⟩
        subst hwx
        obtain ⟨kx, hkx⟩ : ∃ x, x = k := ⟨k, rfl⟩
        subst hkx
        clear i5
        have i5 : (kx : Int) < (n : Int) := by omega
        go_loopg [9, 10] a.not.length (fun q t9 t10 wi => ∃ (i : Nat), q = a.not.length - i ∧ i ≤ a.not.length ∧ t9 = .bool (!((a.not.take i).any fun r => decide (regR [r0, r1, r2, r3] r = kx))) ∧ t10 = .int .i64 i ∧ Frm [] wx wi)
        case atStart => exact ⟨0, rfl, Nat.zero_le _, by simp, rfl, Frm.refl _ _⟩
        case round =>
          obtain ⟨i, hq, hi, rfl, rfl, hF⟩ := hrel
          have HI := Lib.hid hq
          have HFI := Lib.hid hF
          have HBI := Lib.hid (HB.out.nil hF)
          have i6 : (0 : Int) ≤ (i : Int) := by omega
          have a4 := HBI.out.ar.cell (i := 4) rfl
          clear hq hF
          by_cases hli : i < a.not.length
          · have i7 : (i : Int) < (a.not.length : Int) := by omega
            obtain ⟨y, hy⟩ : ∃ y, a.not[i]? = some y := ⟨_, List.getElem?_eq_getElem hli⟩
            have hTK : (a.not.take (i + 1)).any (fun r => decide (regR [r0, r1, r2, r3] r = kx)) = ((a.not.take i).any (fun r => decide (regR [r0, r1, r2, r3] r = kx)) || decide (regR [r0, r1, r2, r3] y = kx)) := by
              rw [List.take_add_one, hy, List.any_append]; simp
            have hry := HOK.out y (List.mem_of_getElem? hy)
            have HRD2 := Lib.hid ((HRD.out.frm HF.out (by simp)).frm HFI.out (by simp))
            obtain ⟨g1, o1, rfl, _, c1⟩ := HRD2.out.at hy
            clear hy HRD2
            cases hb : (a.not.take i).any (fun r => decide (regR [r0, r1, r2, r3] r = kx)) with
            | true =>
              rw [hb, Bool.true_or] at hTK
              have HTK := Lib.hid hTK
              clear hTK hb c1 hry
              rw [Bool.not_true]
              go_wp2_with fail
              go_roundg (a.not.length - (i + 1))
              case rel => exact ⟨i + 1, rfl, by omega, by rw [HTK.out]; rfl, by go_num, HFI.out⟩
              case measure => have := HI.out; omega
            | false =>
              rw [hb, Bool.false_or] at hTK
              have HB0 := Lib.hid hb
              clear hb
              rw [Bool.not_false]
              have p1 := HBI.out.pl.cell (i := 1) rfl
              have p2 := HBI.out.pl.cell (i := 2) rfl
              have p3 := HBI.out.pl.cell (i := 3) rfl
              have p4 := HBI.out.pl.cell (i := 4) rfl
              have hr4 : y = 0 ∨ y = 1 ∨ y = 2 ∨ y = 3 := by omega
              clear hry
              rcases hr4 with rfl | rfl | rfl | rfl
              · by_cases hyk : r0 = (kx : Int)
                · have je : (r0 == (kx : Int)) = true := by simpa using hyk
                  have HTK : Hid ((a.not.take (i + 1)).any (fun r => decide (regR [r0, r1, r2, r3] r = kx)) = true) := Lib.hid (by rw [hTK]; exact decide_eq_true hyk)
                  have HJE := Lib.hid je
                  clear hTK hyk
                  go_wp2_with fail
                  go_roundg (a.not.length - (i + 1))
                  case rel => exact ⟨i + 1, rfl, by omega, by rw [HTK.out, bne, HJE.out], by go_num, HFI.out⟩
                  case measure => have := HI.out; omega
                · have je : (r0 == (kx : Int)) = false := by simpa using hyk
                  have HTK : Hid ((a.not.take (i + 1)).any (fun r => decide (regR [r0, r1, r2, r3] r = kx)) = false) := Lib.hid (by rw [hTK]; exact decide_eq_false hyk)
                  have HJE := Lib.hid je
                  clear hTK hyk
                  go_wp2_with fail
                  go_roundg (a.not.length - (i + 1))
                  case rel => exact ⟨i + 1, rfl, by omega, by rw [HTK.out, bne, HJE.out], by go_num, HFI.out⟩
                  case measure => have := HI.out; omega
              · by_cases hyk : r1 = (kx : Int)
                · have je : (r1 == (kx : Int)) = true := by simpa using hyk
                  have HTK : Hid ((a.not.take (i + 1)).any (fun r => decide (regR [r0, r1, r2, r3] r = kx)) = true) := Lib.hid (by rw [hTK]; exact decide_eq_true hyk)
                  have HJE := Lib.hid je
                  clear hTK hyk
                  go_wp2_with fail
                  go_roundg (a.not.length - (i + 1))
                  case rel => exact ⟨i + 1, rfl, by omega, by rw [HTK.out, bne, HJE.out], by go_num, HFI.out⟩
                  case measure => have := HI.out; omega
                · have je : (r1 == (kx : Int)) = false := by simpa using hyk
                  have HTK : Hid ((a.not.take (i + 1)).any (fun r => decide (regR [r0, r1, r2, r3] r = kx)) = false) := Lib.hid (by rw [hTK]; exact decide_eq_false hyk)
                  have HJE := Lib.hid je
                  clear hTK hyk
                  go_wp2_with fail
                  go_roundg (a.not.length - (i + 1))
                  case rel => exact ⟨i + 1, rfl, by omega, by rw [HTK.out, bne, HJE.out], by go_num, HFI.out⟩
                  case measure => have := HI.out; omega
              · by_cases hyk : r2 = (kx : Int)
                · have je : (r2 == (kx : Int)) = true := by simpa using hyk
                  have HTK : Hid ((a.not.take (i + 1)).any (fun r => decide (regR [r0, r1, r2, r3] r = kx)) = true) := Lib.hid (by rw [hTK]; exact decide_eq_true hyk)
                  have HJE := Lib.hid je
                  clear hTK hyk
                  go_wp2_with fail
                  go_roundg (a.not.length - (i + 1))
                  case rel => exact ⟨i + 1, rfl, by omega, by rw [HTK.out, bne, HJE.out], by go_num, HFI.out⟩
                  case measure => have := HI.out; omega
                · have je : (r2 == (kx : Int)) = false := by simpa using hyk
                  have HTK : Hid ((a.not.take (i + 1)).any (fun r => decide (regR [r0, r1, r2, r3] r = kx)) = false) := Lib.hid (by rw [hTK]; exact decide_eq_false hyk)
                  have HJE := Lib.hid je
                  clear hTK hyk
                  go_wp2_with fail
                  go_roundg (a.not.length - (i + 1))
                  case rel => exact ⟨i + 1, rfl, by omega, by rw [HTK.out, bne, HJE.out], by go_num, HFI.out⟩
                  case measure => have := HI.out; omega
              · by_cases hyk : r3 = (kx : Int)
                · have je : (r3 == (kx : Int)) = true := by simpa using hyk
                  have HTK : Hid ((a.not.take (i + 1)).any (fun r => decide (regR [r0, r1, r2, r3] r = kx)) = true) := Lib.hid (by rw [hTK]; exact decide_eq_true hyk)
                  have HJE := Lib.hid je
                  clear hTK hyk
                  go_wp2_with fail
                  go_roundg (a.not.length - (i + 1))
                  case rel => exact ⟨i + 1, rfl, by omega, by rw [HTK.out, bne, HJE.out], by go_num, HFI.out⟩
                  case measure => have := HI.out; omega
                · have je : (r3 == (kx : Int)) = false := by simpa using hyk
                  have HTK : Hid ((a.not.take (i + 1)).any (fun r => decide (regR [r0, r1, r2, r3] r = kx)) = false) := Lib.hid (by rw [hTK]; exact decide_eq_false hyk)
                  have HJE := Lib.hid je
                  clear hTK hyk
                  go_wp2_with fail
                  go_roundg (a.not.length - (i + 1))
                  case rel => exact ⟨i + 1, rfl, by omega, by rw [HTK.out, bne, HJE.out], by go_num, HFI.out⟩
                  case measure => have := HI.out; omega
          · have i7 : ¬ (i : Int) < (a.not.length : Int) := by omega
            have hil : i = a.not.length := by omega
            rw [hil, List.take_length]
            clear hil
            have hfree : freeB a [r0, r1, r2, r3] kx = !(a.not.any fun r => decide (regR [r0, r1, r2, r3] r = kx)) := rfl
            cases hany : (a.not.any fun r => decide (regR [r0, r1, r2, r3] r = kx)) with
            | true =>
              rw [hany] at hfree
              rw [hfree] at hsuc
              have HS : Hid (vK a [r0, r1, r2, r3] (kx + 1) = vK a [r0, r1, r2, r3] kx) := Lib.hid (by rw [hsuc]; simp)
              clear hsuc hfree hany
              rw [Bool.not_true]
              go_wp2_with fail
              go_roundg (n - (kx + 1))
              case rel => exact ⟨kx + 1, ad, cp, rfl, by omega, by go_num, by rw [HS.out], by rw [HS.out]; exact ownsB_frm HO.out HFI.out (by simp), HF.out.trans HFI.out (by simp)⟩
              case measure => have := HQ.out; omega
            | false =>
              rw [hany] at hfree
              rw [hfree] at hsuc
              have HS : Hid (vK a [r0, r1, r2, r3] (kx + 1) = vK a [r0, r1, r2, r3] kx ++ [(kx : Int)]) := Lib.hid (by rw [hsuc]; simp)
              have OW := Lib.hid (ownsB_frm HO.out HFI.out (by simp))
              have FW := Lib.hid (HF.out.trans HFI.out (by simp))
              clear hsuc hfree hany
              rw [Bool.not_false]
              go_wp2_with (first
                | (at_builtin; refine app_row rfl (.tmp 46) (.tmp 48) 22 3 _ 1 8 rfl Try.underlying22 infoInt rfl (by decide) (by decide) W2.heap.size (vK a [r0, r1, r2, r3] kx).length (.slice ad (vK a [r0, r1, r2, r3] kx).length cp) _ rfl (OW.out.alloc _) _ 1 [.int .i64 kx] [] rfl (rowV_cells (size := 1) (RowAt.made wr 3 [.int .i64 kx] #[.int .i64 kx] rfl) rfl (Nat.le_refl _) (by decide) (by simp)) (one_int kx) ((vK a [r0, r1, r2, r3] kx).length + 1) rfl (by have := HLK.out; omega) (by have := FW.out.size; simp; omega) ?_; intro a9 c9 w9 own9 hf9 hb9; have O9 := Lib.hid own9; have F9 := Lib.hid (frm_own (FW.out.alloc _) (OW.out.alloc _) (Nat.le_refl _) hf9); clear own9 hf9 hb9)
                | fail)
              go_roundg (n - (kx + 1))
              case rel =>
                refine ⟨kx + 1, a9, c9, rfl, by omega, by go_num, by rw [HS.out]; simp, ?_, F9.out⟩
                have := O9.out
                rw [HS.out, List.length_append]
                simpa [ints] using this
              case measure => have := HQ.out; omega
      · have i5 : ¬ (k : Int) < (n : Int) := by omega
        have hkk : k = n := by omega
        subst hkk
        have a0 := HB.out.ar.cell (i := 0) rfl
        have j45 : (a.kind != 4) = !(a.kind == 4) := rfl
        have j65 : (a.kind != 6) = !(a.kind == 6) := rfl
        go_wp2_with fail
        go_ret
        exact ⟨⟨_, _, rfl, ownsB_mono HO.out HBX.out.frm.size⟩, HBX.out.frm.trans HF.out (by simp)⟩

set_option linter.unusedSimpArgs false in
set_option maxRecDepth 100000 in
set_option maxHeartbeats 8000000 in
theorem values_57 {F : List Nat} (w : World) (n : Nat) (st r0 r1 r2 r3 : Int) (va : Value) (a : RA) (x : Int) (ha : NotAt w F va a) (hnot : a.not = []) (hn1 : n ≤ 12) (hx : (a.kind = 5 ∧ 0 ≤ a.reg ∧ a.reg < 4 ∧ x = regR [r0, r1, r2, r3] a.reg) ∨ (a.kind = 7 ∧ 0 ≤ a.frm ∧ a.frm < 4 ∧ x = regR [r0, r1, r2, r3] a.frm) ∨ (a.kind ≠ 4 ∧ a.kind ≠ 5 ∧ a.kind ≠ 6 ∧ a.kind ≠ 7 ∧ x = 0)) :
    Calls Try.prog 73 #[.int .i64 n, arcV va a, .agg #[.int .i64 st, .int .i64 r0, .int .i64 r1, .int .i64 r2, .int .i64 r3]] w (ValsEnd w [x]) := by
  obtain ⟨na, nc, rfl⟩ := RowV.shape ha
  rw [hnot]
  simp only [List.length_nil]
  have hbx := vbox_made w (.slice na 0 nc) a st r0 r1 r2 r3
  have HX := Lib.hid hx
  have i1 : (n : Int) ≤ 12 := by omega
  have HBX := Lib.hid hbx
  have j4 : (a.kind == 4) = false := by rcases hx with h | h | h <;> simp [h]
  have j6 : (a.kind == 6) = false := by rcases hx with h | h | h <;> simp [h]
  clear ha hn1 hbx hx hnot
  unfold arcV
  go_enter Try.func73, Try.ntmps73
  go_wp2_with fail
  generalize hW2 : World.alloc (World.alloc _ _) _ = W2 at *
  clear hW2
  go_loopg [8] n (fun q i wr => ∃ (k : Nat), q = n - k ∧ k ≤ n ∧ i = .int .i64 k ∧ Frm [] W2 wr)
  case atStart => exact ⟨0, rfl, Nat.zero_le _, rfl, Frm.refl _ _⟩
  case round =>
    obtain ⟨k, hq, hkn, rfl, hF⟩ := hrel
    have HQ := Lib.hid hq
    have HF := Lib.hid hF
    have i4 : (0 : Int) ≤ (k : Int) := by omega
    have HB := Lib.hid (HBX.out.nil hF)
    clear hF hq
    have a0 := HB.out.ar.cell (i := 0) rfl
    have a4 := HB.out.ar.cell (i := 4) rfl
    by_cases hlt : k < n
    · have i5 : (k : Int) < (n : Int) := by omega
      go_wp2_with fail
      refine wp_loop_rounds 1 ?_
      rw [rounds_succ]
      go_wp2_with fail
      go_roundg (n - (k + 1))
      case rel => exact ⟨k + 1, rfl, by omega, by go_num, HF.out⟩
      case measure => have := HQ.out; omega
    · have i5 : ¬ (k : Int) < (n : Int) := by omega
      have a2 := HB.out.ar.cell (i := 2) rfl
      have a3 := HB.out.ar.cell (i := 3) rfl
      have p1 := HB.out.pl.cell (i := 1) rfl
      have p2 := HB.out.pl.cell (i := 2) rfl
      have p3 := HB.out.pl.cell (i := 3) rfl
      have p4 := HB.out.pl.cell (i := 4) rfl
      have hsz := HB.out.frm.size
      rcases HX.out with ⟨hk, h0, h1, hxx⟩ | ⟨hk, h0, h1, hxx⟩ | ⟨_, hk5, _, hk7, hxx⟩
      · have j5 : (a.kind == 5) = true := by simpa using hk
        have j7 : (a.kind == 7) = false := by simp [hk]
        have hr : a.reg = 0 ∨ a.reg = 1 ∨ a.reg = 2 ∨ a.reg = 3 := by omega
        clear h0 h1 hk
        rcases hr with hr | hr | hr | hr
        all_goals
          rw [hr] at a2 hxx
          subst hxx
          clear hr
          go_wp2_with fail
          go_ret
          exact ⟨⟨_, _, rfl, owns_fullB _ _ _ 1 1 _ _ rfl rfl (by decide) hsz⟩, (HBX.out.frm.trans HF.out (by simp)).alloc _⟩
      · have j5 : (a.kind == 5) = false := by simp [hk]
        have j7 : (a.kind == 7) = true := by simpa using hk
        have hr : a.frm = 0 ∨ a.frm = 1 ∨ a.frm = 2 ∨ a.frm = 3 := by omega
        clear h0 h1 hk
        rcases hr with hr | hr | hr | hr
        all_goals
          rw [hr] at a3 hxx
          subst hxx
          clear hr
          go_wp2_with fail
          go_ret
          exact ⟨⟨_, _, rfl, owns_fullB _ _ _ 1 1 _ _ rfl rfl (by decide) hsz⟩, (HBX.out.frm.trans HF.out (by simp)).alloc _⟩
      · have j5 : (a.kind == 5) = false := by simpa using hk5
        have j7 : (a.kind == 7) = false := by simpa using hk7
        have n4 : (a.kind != 4) = true := by rw [bne, j4]; rfl
        have n6 : (a.kind != 6) = true := by rw [bne, j6]; rfl
        clear hk5 hk7
        subst hxx
        go_wp2_with fail
        go_ret
        exact ⟨⟨_, _, rfl, owns_fullB _ _ _ 1 1 _ _ rfl rfl (by decide) hsz⟩, (HBX.out.frm.trans HF.out (by simp)).alloc _⟩

theorem values_any {F : List Nat} (w : World) {m : RM} (n : Nat) (st r0 r1 r2 r3 : Int) (va : Value) (a : RA) (ha : NotAt w F va a) (hok : RaOk m a) (hn1 : n ≤ 12) :
    Calls Try.prog 73 #[.int .i64 n, arcV va a, .agg #[.int .i64 st, .int .i64 r0, .int .i64 r1, .int .i64 r2, .int .i64 r3]] w (ValsEnd w (valsR n a [r0, r1, r2, r3])) := by
  by_cases h5 : a.kind = 5
  · rw [show valsR n a [r0, r1, r2, r3] = [regR [r0, r1, r2, r3] a.reg] by rw [valsR, if_pos h5]]
    exact values_57 w n st r0 r1 r2 r3 va a _ ha (hok.not4 (by omega)) hn1 (.inl ⟨h5, hok.reg5 (by omega), hok.reg.2, rfl⟩)
  · by_cases h7 : a.kind = 7
    · rw [show valsR n a [r0, r1, r2, r3] = [regR [r0, r1, r2, r3] a.frm] by rw [valsR, if_neg h5, if_pos h7]]
      exact values_57 w n st r0 r1 r2 r3 va a _ ha (hok.not4 (by omega)) hn1 (.inr (.inl ⟨h7, hok.frm.1, hok.frm.2, rfl⟩))
    · by_cases h46 : a.kind = 4 ∨ a.kind = 6
      · rw [show valsR n a [r0, r1, r2, r3] = vK a [r0, r1, r2, r3] n by rw [valsR, if_neg h5, if_neg h7, if_pos h46]; rfl]
        exact values_46 w n st r0 r1 r2 r3 va a ha hok.not hn1 h46
      · rw [show valsR n a [r0, r1, r2, r3] = [0] by rw [valsR, if_neg h5, if_neg h7, if_neg h46]]
        exact values_57 w n st r0 r1 r2 r3 va a _ ha (hok.not4 (by omega)) hn1 (.inr (.inr ⟨by omega, h5, by omega, h7, rfl⟩))

end Go.Proofs.Ytfndgiinniibfaa.Ind
