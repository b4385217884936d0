/- HeapLinks: the plain law on chains of links, and the walk. -/
import Derived.Test.YtlpgonnionbkfaaX1
namespace Go.Proofs.Ytlpgonnionbkfaa
open Go.RowKit

def csA (j : Nat) : List HC := (List.range j).map fun (i : Nat) => ⟨2, (i : Int), []⟩
def csB (k j : Nat) : List HC := (List.range k).map fun (i : Nat) => if i < j then ⟨3, (i : Int), [(i : Int) + 1]⟩ else ⟨2, (i : Int), []⟩

@[simp] theorem csA_len (j : Nat) : (csA j).length = j := by simp [csA]
@[simp] theorem csB_len (k j : Nat) : (csB k j).length = k := by simp [csB]
theorem csA_succ (j : Nat) : (csA j ++ [(⟨1, (j : Int), []⟩ : HC)]).set j ⟨2, (j : Int), []⟩ = csA (j + 1) := by
  have : (csA j ++ [(⟨1, (j : Int), []⟩ : HC)]).set j ⟨2, (j : Int), []⟩ = csA j ++ [⟨2, (j : Int), []⟩] := by
    rw [List.set_append_right _ _ (by simp)]
    simp
  rw [this]
  simp [csA, List.range_succ]
theorem csB_zero (k : Nat) : csB k 0 = csA k := by simp [csB, csA]
theorem csB_get (k j i : Nat) (h : i < k) : (csB k j)[i]? = some (if i < j then ⟨3, (i : Int), [(i : Int) + 1]⟩ else ⟨2, (i : Int), []⟩) := by
  simp [csB, h]
theorem csB_succ (k j : Nat) : (csB k j).set j ⟨3, (j : Int), [(j : Int) + 1]⟩ = csB k (j + 1) := by
  apply List.ext_getElem?
  intro i
  rw [List.getElem?_set]
  by_cases hik : i < k
  · rw [csB_get k j i hik, csB_get k (j + 1) i hik]
    by_cases hij : j = i
    · subst hij; simp [hik]
    · have : (i < j + 1) = (i < j) := by simp; omega
      simp [hij, this]
  · have h1 : (csB k j)[i]? = none := by simp; omega
    have h2 : (csB k (j + 1))[i]? = none := by simp; omega
    rw [h1, h2]
    split
    · simp; omega
    · rfl

theorem fol_end (k j i n : Nat) (hi : i < k) (hj : j ≤ i) : fol (csB k j) (n + 1) i = some i := by
  simp only [fol, csB_get k j i hi, if_neg (Nat.not_lt.2 hj)]
  simp

theorem fol_chain (k : Nat) : ∀ (d i n : Nat), i + d + 1 = k → d + 1 ≤ n → fol (csB k (k - 1)) n i = some (k - 1)
  | 0, i, n, hk, hn => by
    obtain ⟨m, rfl⟩ : ∃ m, n = m + 1 := ⟨n - 1, by omega⟩
    rw [fol_end k (k - 1) i m (by omega) (by omega)]
    congr 1; omega
  | d + 1, i, n, hk, hn => by
    obtain ⟨m, rfl⟩ : ∃ m, n = m + 1 := ⟨n - 1, by omega⟩
    have := fol_chain k d (i + 1) m (by omega) (by omega)
    simp only [fol, csB_get k (k - 1) i (by omega), if_pos (show i < k - 1 by omega)]
    rw [if_pos trivial, if_pos (by omega), show ((i : Int) + 1).toNat = i + 1 by omega]
    exact this

theorem fol_last (cs : List HC) (c : HC) (n : Nat) (hc : c.kind ≠ 3) : fol (cs ++ [c]) (n + 1) cs.length = some cs.length := by
  simp [fol, hc]

set_option maxRecDepth 100000 in
set_option maxHeartbeats 2000000 in
theorem links_walk (a0 : Int) (ha : 0 ≤ a0) (hb : a0 ≤ 255) (w : World) :
    Calls Try.prog 4 #[.int .u8 a0] w fun e w' => e = .returned (.bool true) ∧ Frm [] w w' := by
  obtain ⟨k, hk, hk2, hk41⟩ : ∃ k : Nat, (k : Int) = 2 + a0 % 40 ∧ 2 ≤ k ∧ k ≤ 41 := ⟨(2 + a0 % 40).toNat, by omega, by omega, by omega⟩
  have e1 : 0 ≤ a0 % 40 := by omega
  have e2 : a0 % 40 ≤ 39 := by omega
  have HK := Lib.hid hk
  clear hk
  go_enter Try.func4, Try.ntmps4
  go_wp2_with fail
  refine (hr_new 100 _ (by decide) (by decide)).mono ?_
  rintro e w1 ⟨rfl, f1, h1⟩
  go_wp2_with fail
  refine (awake_any _).mono ?_
  rintro e w2 ⟨rfl, f2⟩
  have h2 := h1.frm f2 (by simp)
  have F2 := f1.trans f2 (by simp)
  clear f1 f2 h1
  go_wp2_with fail
  rw [← HK.out]
  -- the first loop: k thunks, all entered
  go_loopg [6] k (fun g i wr => ∃ (j : Nat) (fp : List Nat), g = k - j ∧ j ≤ k ∧ i = .int .i64 j ∧ HR wr w.heap.size fp 100 (csA j) ∧ Frm [] w wr ∧ ∀ x ∈ fp, w.heap.size ≤ x)
  case atStart => exact ⟨0, _, rfl, by omega, rfl, h2, F2, by simp⟩
  case round =>
    clear h2 F2
    obtain ⟨j, fp, rfl, hj, rfl, hr, hF, hge⟩ := hrel
    have HF := Lib.hid hF
    have HG := Lib.hid hge
    clear hF hge
    by_cases hlt : j < k
    · have ha := hr_alloc hr 1 j _ [] (nil_ints _) (.inl rfl) (by simp [refersB]) (by simp; omega) (by decide)
      rw [csA_len] at ha
      clear hr
      go_wp2_with fail
      refine ha.mono ?_
      rintro e v1 ⟨rfl, fp1, h1, f1, s1⟩
      clear ha
      have g1 := ge_step HG.out HF.out.size s1
      have F1 := HF.out.all f1 HG.out rfl
      have he := hr_enter_thunk h1 j j j [] (by simp) (by have := fol_last (csA j) ⟨1, j, []⟩ j (by simp); simpa using this) (by simp)
      rw [csA_succ] at he
      clear f1 s1 h1
      have HG1 := Lib.hid g1
      have HF1 := Lib.hid F1
      clear g1 F1
      go_wp2_with fail
      refine he.mono ?_
      rintro e v2 ⟨a2, c2, rfl, _, fp2, h2, f2, s2⟩
      clear he
      have g2 := ge_step HG1.out HF1.out.size s2
      have F2 := HF1.out.all f2 HG1.out rfl
      go_wp2_with fail
      go_roundg (k - (j + 1))
      case rel => exact ⟨j + 1, fp2, rfl, by omega, by go_num, h2, F2, g2⟩
      case measure => omega
    · obtain rfl : j = k := by omega
      rw [← csB_zero] at hr
      have F0 := HF.out
      have g0 := HG.out
      clear HF HG
      go_wp2_with fail
      go_loopg [7] j (fun g i wr => ∃ (m : Nat) (fp : List Nat), g = j - m ∧ m + 1 ≤ j ∧ i = .int .i64 m ∧ HR wr w.heap.size fp 100 (csB j m) ∧ Frm [] w wr ∧ ∀ x ∈ fp, w.heap.size ≤ x)
      case atStart => exact ⟨0, fp, rfl, by omega, rfl, hr, F0, g0⟩
      case round =>
        clear hr F0 g0
        obtain ⟨m, fp, rfl, hm, rfl, hr, hF, hge⟩ := hrel
        have HF := Lib.hid hF
        have HG := Lib.hid hge
        clear hF hge
        by_cases hlt : m + 1 < j
        · have hu := hr_update_ok hr m (m + 1) (m + 1) m [] (by rw [csB_get _ _ _ (by omega), if_neg (by omega)]) (by simp; omega) (by
            rw [csB_len]; obtain ⟨q, rfl⟩ : ∃ q, j = q + 1 := ⟨j - 1, by omega⟩; exact fol_end _ _ _ _ (by omega) (by omega)) (by omega)
          rw [show (((m + 1 : Nat)) : Int) = (m : Int) + 1 from by omega, csB_succ] at hu
          clear hr
          go_wp2_with fail
          refine hu.mono ?_
          rintro e v1 ⟨rfl, fp1, h1, f1, s1⟩
          clear hu
          have g1 := ge_step HG.out HF.out.size s1
          have F1 := HF.out.all f1 HG.out rfl
          go_wp2_with fail
          go_roundg (j - (m + 1))
          case rel => exact ⟨m + 1, fp1, rfl, by omega, by go_num, h1, F1, g1⟩
          case measure => omega
        · obtain rfl : m = j - 1 := by omega
          have F0 := HF.out
          have g0 := HG.out
          clear HF HG
          go_wp2_with fail
          go_loopg [8] j (fun g i wr => ∃ (m : Nat), g = j - m ∧ m ≤ j ∧ i = .int .i64 m ∧ HR wr w.heap.size fp 100 (csB j (j - 1)) ∧ Frm [] w wr ∧ ∀ x ∈ fp, w.heap.size ≤ x)
          case atStart => exact ⟨0, rfl, by omega, rfl, hr, F0, g0⟩
          case round =>
            clear hr F0 g0
            obtain ⟨m, rfl, hm, rfl, hr, hF, hge⟩ := hrel
            have HF := Lib.hid hF
            have HG := Lib.hid hge
            clear hF hge
            by_cases hlt2 : m < j
            · have hfo : fol (csB j (j - 1)) (csB j (j - 1)).length m = some (j - 1) := by
                rw [csB_len]; exact fol_chain j (j - 1 - m) m j (by omega) (by omega)
              have hla : (csB j (j - 1))[j - 1]? = some ⟨2, ((j - 1 : Nat) : Int), []⟩ := by rw [csB_get _ _ _ (by omega), if_neg (by omega)]
              have hre := hr_read hr m (j - 1) _ (by simpa using hlt2) hfo hla (by simp)
              rw [show (((j - 1 : Nat)) : Int) = (j : Int) - 1 from by omega] at hre
              simp only [List.length_nil] at hre
              have HR0 := Lib.hid hr
              have HFO := Lib.hid hfo
              have HLA := Lib.hid hla
              clear hr hfo hla
              go_wp2_with fail
              refine hre.mono ?_
              rintro e v1 ⟨a1, c1, rfl, _, f1⟩
              clear hre
              have h1 := HR0.out.frm f1 (by simp)
              have F1 := HF.out.trans f1 (by simp)
              have fa : Frm [] v1 (v1.alloc (.cells #[.int .i64 2, .int .i64 ((j : Int) - 1), .slice a1 0 c1] 32)) := (Frm.refl _ _).alloc _
              have h1' := h1.frm fa (by simp)
              have F1' := F1.trans fa (by simp)
              have hup := hr_update_loop h1' (j - 1) m _ HLA.out (by simpa using hlt2) rfl HFO.out
              rw [show (((j - 1 : Nat)) : Int) = (j : Int) - 1 from by omega] at hup
              have HF1 := Lib.hid F1'
              have HR1 := Lib.hid h1'
              clear f1 h1 F1 fa h1' F1'
              go_wp2_with fail
              refine hup.mono ?_
              rintro e v2 ⟨rfl, rfl⟩
              clear hup
              go_wp2_with fail
              go_roundg (j - (m + 1))
              case rel => exact ⟨m + 1, rfl, by omega, by go_num, HR1.out, HF1.out, HG.out⟩
              case measure => omega
            · go_wp2_with fail
              go_ret
              exact ⟨rfl, HF.out⟩
end Go.Proofs.Ytlpgonnionbkfaa
