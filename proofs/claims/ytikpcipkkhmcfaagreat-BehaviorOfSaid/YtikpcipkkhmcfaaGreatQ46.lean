/- Contract of Calm. -/
import Derived.Test.YtikpcipkkhmcfaaGreatQ04
import Derived.Test.YtikpcipkkhmcfaaGreatQ01
namespace Go.Proofs.YtikpcipkkhmcfaaGreat
open Go.RowKit

def CalmEnd (w' : World) (e : Ending) : Prop := ∃ (l : Lts) (g : Nat), e = .returned (.agg #[.slice (some ⟨g, 0, none⟩) l.length l.length]) ∧ LAt w'.heap.size w' (some ⟨g, 0, none⟩) l.length l

set_option linter.unusedSimpArgs false in
set_option maxRecDepth 100000 in
set_option maxHeartbeats 4000000 in
theorem calm_any (B tb N n : Nat) (w : World) (h : TapeOk B w tb N) (hB : B ≤ tb) (hN : N ≤ 800000) (hn : 1 ≤ n) (hn2 : n ≤ 100) :
    Calls Tryz.prog 13 #[.pointer (some ⟨tb, 0, none⟩), .int .i64 n] w fun e w' => CalmEnd w' e ∧ TapeOk B w' tb (N + 2000) ∧ Frm [tb] w w' := by
  have f0 : Frm [] w (w.alloc (.cells #[.slice none 0 0] 25)) := (Frm.refl [] w).alloc _
  have hch := chain_any B tb N n _ (h.nil f0) hB (by omega) hn hn2
  have HRES := Lib.hid (box1 w (.slice none 0 0) 25)
  have htb := h.lt
  clear h
  go_enter Tryz.func13, Tryz.ntmps13
  go_wp2_with fail
  refine hch.mono ?_
  rintro e1 w1 ⟨l0, g, rfl, hg, hM1, hS1, hT1, hf1⟩
  have hpos := hS1.pos
  have hfew := hS1.few
  have hrow1 : ∀ row ∈ l0, row.length ≤ 4 := fun row hr => by
    obtain ⟨i, hi⟩ := List.getElem?_of_mem hr
    exact (hS1.row i row hi).2.2
  have hgl := hM1.lt
  simp only [World.alloc, Array.size_push] at hg
  have g1 : tb < g := by omega
  have g2 : w.heap.size < g := by omega
  have f3 : Frm [] w1 (w1.alloc (.cells #[.slice (some ⟨g, 0, none⟩) l0.length l0.length] 25)) := (Frm.refl [] w1).alloc _
  have HBOX := Lib.hid (box1 w1 (.slice (some ⟨g, 0, none⟩) l0.length l0.length) 25)
  have HM3 := Lib.hid (hM1.frm f3 (by simp))
  have HT3 := Lib.hid (hT1.nil f3)
  have HRES3 := Lib.hid ((HRES.out.frm hf1 (by simp; omega)).frm f3 (by simp))
  have HF3 := Lib.hid (((f0.mono (fq := [tb]) (by simp)).trans hf1 (by simp)).trans f3 (by simp))
  have HROW1 := Lib.hid hrow1
  have hbox := HBOX.out.cell (i := 0) rfl
  have i1 : (l0.length : Int) ≤ 100 := by omega
  clear hch hM1 hS1 hT1 hf1 hrow1 f3 f0
  go_wp2_with fail
  go_loopg [6] l0.length (fun q s6 wr => ∃ (k : Nat) (l : Lts), q = l0.length - k ∧ k ≤ l0.length ∧ s6 = .int .i64 (k : Int) ∧ l.length = l0.length ∧ (∀ row ∈ l, row.length ≤ 4) ∧ MAt g wr l ∧ TapeOk B wr tb (N + 2000) ∧ Frm [tb, g] (w1.alloc (.cells #[.slice (some ⟨g, 0, none⟩) l0.length l0.length] 25)) wr)
  case atStart => exact ⟨0, l0, rfl, Nat.zero_le _, rfl, rfl, HROW1.out, HM3.out, HT3.out, Frm.refl _ _⟩
  case round =>
    obtain ⟨wk, hwke⟩ : ∃ x, x = wr := ⟨wr, rfl⟩
    subst hwke
    obtain ⟨k, l, rfl, hk, rfl, hll, hrows, hM, hT, hF⟩ := hrel
    have HLL := Lib.hid hll
    have HROWS := Lib.hid hrows
    have HM := Lib.hid hM
    have HT := Lib.hid hT
    have HF := Lib.hid hF
    have hbg : w1.heap.size ≠ g := by omega
    have hbt : w1.heap.size ≠ tb := by omega
    have cb := (HBOX.out.frm hF (by simp; omega)).cell (i := 0) rfl
    have ncb := World.block_lt_of_cell? _ _ cb
    have i4 : (0 : Int) ≤ (k : Int) := by omega
    have hgk := hM.lt
    simp only at ncb
    clear hll hrows hM hT hF hbox
    by_cases hkl : k < l0.length
    · have i5 : (k : Int) < (l0.length : Int) := by omega
      obtain ⟨row, hrow⟩ : ∃ row, l[k]? = some row := ⟨_, List.getElem?_eq_getElem (by have := HLL.out; omega)⟩
      obtain ⟨ra, rc, cr, hownr, hr0⟩ := HM.out.cell hrow
      have hr4 := HROWS.out row (List.mem_of_getElem? hrow)
      have HOWNR := Lib.hid hownr
      have CR := Lib.hid cr
      have CB := Lib.hid cb
      have i6 : (row.length : Int) ≤ 4 := by omega
      have hrd := rd_of_owns hownr (Nat.le_refl _)
      have HRD := Lib.hid hrd
      clear hownr hr0 hrow hrd
      go_wp2_with fail
      go_loopg [7, 8] row.length (fun q s7 s8 wr => ∃ (i : Nat) (acc : List Arc) (a7 : Option Addr) (c7 : Nat), q = row.length - i ∧ i ≤ row.length ∧ acc.length ≤ i ∧ s8 = .int .i64 (i : Int) ∧ s7 = .slice a7 acc.length c7 ∧ OwnR wk.heap.size wr (.slice a7 acc.length c7) acc ∧ (acc = [] → a7 = none ∧ c7 = 0) ∧ Frm [] wk wr)
      case atStart => exact ⟨0, [], none, 0, rfl, Nat.zero_le _, Nat.le_refl _, rfl, rfl, World.ownsRow_nil _ _ _ _, fun _ => ⟨rfl, rfl⟩, Frm.refl _ _⟩
      case round =>
        obtain ⟨i, acc, a7, c7, rfl, hi, hacc, rfl, rfl, hown, h0, hF7⟩ := hrel
        have HOWN := Lib.hid hown
        have H0 := Lib.hid h0
        have HF7 := Lib.hid hF7
        have cb7 := hF7.cell CB.out (by simp)
        have cr7 := hF7.cell CR.out (by simp)
        have n1 := World.block_lt_of_cell? _ _ cr7
        have i7 : (0 : Int) ≤ (i : Int) := by omega
        have hszr := hF7.size
        simp only at n1
        clear hown h0 hF7
        by_cases hil : i < row.length
        · have i8 : (i : Int) < (row.length : Int) := by omega
          obtain ⟨⟨e, t⟩, harc⟩ : ∃ y, row[i]? = some y := ⟨_, List.getElem?_eq_getElem hil⟩
          have hfl := flatA_get row i e t harc
          obtain ⟨b1, o1, hra, hb1, p1⟩ := HRD.out.cell _ _ hfl.1
          obtain ⟨b2, o2, hra2, _, p2⟩ := HRD.out.cell _ _ hfl.2
          rw [hra] at hra2
          obtain ⟨rfl, rfl⟩ : b1 = b2 ∧ o1 = o2 := by simpa using hra2
          subst hra
          rw [← Nat.add_assoc] at p2
          have d1 := HF7.out.cell p1 (by simp)
          have d2 := HF7.out.cell p2 (by simp)
          have n2 := World.block_lt_of_cell? _ _ d1
          simp only at n2
          clear harc hfl hra2 p1 p2
          by_cases hkeep : e ≠ 0 ∨ (k : Int) < t
          · by_cases he0 : e = 0
            · subst he0
              have hkt : (k : Int) < t := hkeep.elim (fun h => absurd rfl h) id
              go_wp2_with (first | (at_builtin; refine wpl_app_arc rfl (.tmp 52) (.tmp 61) rfl wk.heap.size acc.length (acc.length + 1) (.slice a7 acc.length c7) acc rfl (HOWN.out.alloc _) rfl ⟨wr.heap.size, 0, none⟩ 1 1 [((0 : Int), t)] rfl rfl (cells_new wr [.int .i64 0, .int .i64 t] _) rfl (by omega) (by simp; omega) ?_) | (at_builtin; fail))
              intro a9 c9 w9 hown9 hf9
              have HOWN9 := Lib.hid hown9
              have HF9 := Lib.hid (hf9 wk (Nat.le_refl _) (HF7.out.alloc _))
              clear hown9 hf9
              go_wp2_with fail
              go_roundg (row.length - (i + 1))
              case rel => exact ⟨i + 1, acc ++ [((0 : Int), t)], a9, c9, rfl, hil, by rw [List.length_append]; simp; omega, by go_num, by rw [List.length_append]; rfl, by rw [List.length_append]; exact HOWN9.out, fun h9 => by simp at h9, HF9.out⟩
              case measure => omega
            · have heb : (e == 0) = false := by simpa using he0
              go_wp2_with (first | (at_builtin; refine wpl_app_arc rfl (.tmp 52) (.tmp 61) rfl wk.heap.size acc.length (acc.length + 1) (.slice a7 acc.length c7) acc rfl (HOWN.out.alloc _) rfl ⟨wr.heap.size, 0, none⟩ 1 1 [(e, t)] rfl rfl (cells_new wr [.int .i64 e, .int .i64 t] _) rfl (by omega) (by simp; omega) ?_) | (at_builtin; fail))
              intro a9 c9 w9 hown9 hf9
              have HOWN9 := Lib.hid hown9
              have HF9 := Lib.hid (hf9 wk (Nat.le_refl _) (HF7.out.alloc _))
              clear hown9 hf9
              go_wp2_with fail
              go_roundg (row.length - (i + 1))
              case rel => exact ⟨i + 1, acc ++ [(e, t)], a9, c9, rfl, hil, by rw [List.length_append]; simp; omega, by go_num, by rw [List.length_append]; rfl, by rw [List.length_append]; exact HOWN9.out, fun h9 => by simp at h9, HF9.out⟩
              case measure => omega
          · have he0 : e = 0 := by
              rcases Int.lt_trichotomy e 0 with h9 | h9 | h9
              · exact absurd (.inl (by omega)) hkeep
              · exact h9
              · exact absurd (.inl (by omega)) hkeep
            subst he0
            have hkt : ¬ (k : Int) < t := fun h9 => hkeep (.inr h9)
            go_wp2_with fail
            go_roundg (row.length - (i + 1))
            case rel => exact ⟨i + 1, acc, a7, c7, rfl, hil, by omega, by go_num, rfl, HOWN.out, H0.out, HF7.out⟩
            case measure => omega
        · have i8 : ¬ (i : Int) < (row.length : Int) := by omega
          have hm9 := HM.out.frm HF7.out (by simp)
          have hset := hm9.set (i := k) (a := a7) (cp := c7) (row := acc) (ownsB_mono HOWN.out (by omega)) H0.out
          have HSET := Lib.hid hset
          have zg := hm9.frozen k
          obtain ⟨_, _, cg, _, _⟩ := hm9.cell (i := k) (List.getElem?_eq_getElem (by have := HLL.out; omega))
          have HF9 := Lib.hid ((HF.out.trans HF7.out (by simp)).setCell (p := ⟨g, k, none⟩) (.inl (by simp)) (.slice a7 acc.length c7))
          have HT9 := Lib.hid ((HT.out.nil HF7.out).frm ((Frm.refl [g] wr).setCell (p := ⟨g, k, none⟩) (.inl (by simp)) (.slice a7 acc.length c7)) (by simp; omega) (by simp; omega))
          have HLEN : Hid ((l.set k acc).length = l0.length) := Lib.hid (by rw [List.length_set]; exact HLL.out)
          have HRW : Hid (∀ row ∈ l.set k acc, row.length ≤ 4) := Lib.hid (fun r hr => by
            rcases List.mem_or_eq_of_mem_set hr with h9 | h9
            · exact HROWS.out r h9
            · rw [h9]; omega)
          clear hset hm9
          go_wp2_with fail
          go_roundg (l0.length - (k + 1))
          case rel => exact ⟨k + 1, l.set k acc, rfl, hkl, by go_num, HLEN.out, HRW.out, HSET.out, HT9.out, HF9.out⟩
          case measure => omega
    · have i5 : ¬ (k : Int) < (l0.length : Int) := by omega
      have hrs := HRES3.out.frm HF.out (by simp; omega)
      have hres := hrs.cell (i := 0) rfl
      have hrz := hrs.frozen 0
      go_wp2_with fail
      have hcs := World.cell?_setCell_same' wk ⟨w.heap.size, 0, none⟩ (.slice (some ⟨g, 0, none⟩) l0.length l0.length) (by rw [hres]; rfl)
      refine bodyPost_ret (v := .agg #[.slice (some ⟨g, 0, none⟩) l0.length l0.length]) (by simp [results, Tryz.results13, go_sem]; rw [hcs]; rfl) rfl ?_
      have hFw : Frm [w.heap.size] wk (wk.setCell ⟨w.heap.size, 0, none⟩ (.slice (some ⟨g, 0, none⟩) l0.length l0.length)) := (Frm.refl _ _).setCell (.inl (by simp)) _
      have hMw := HM.out.frm hFw (by simp; omega)
      have hll := HLL.out
      exact ⟨⟨l, g, by rw [hll], hMw.lat (by omega) (fun r hr => by have := HROWS.out r hr; omega)⟩, HT.out.frm hFw (by simp; omega) (by simp; omega), (HF3.out.trans HF.out (by simp; omega)).trans hFw (by simp)⟩

end Go.Proofs.YtikpcipkkhmcfaaGreat
