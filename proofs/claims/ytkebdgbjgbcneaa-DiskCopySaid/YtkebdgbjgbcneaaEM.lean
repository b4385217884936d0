/- DiskScript of the law answers true. -/
import Derived.Test.YtkebdgbjgbcneaaEL
namespace Go.Proofs.Ytkebdgbjgbcneaa
open Go.RowKit Go.Maps Go.Shelf

set_option linter.unusedSimpArgs false in
theorem rnew_any (cap : Nat) (w : World) (hc : cap ≤ 4194304) :
    Calls Try.prog 23 #[.int .i64 (cap : Int)] w fun e w' => (e = .returned (.tuple #[.pointer (some ⟨w.heap.size, 0, none⟩), .int .i64 0]) ∧ RowAt w' w.heap.size 77 (rhdC (emptyM cap) (.slice none 0 0) (.slice none 0 0) (.slice none 0 0) (.slice none 0 0))) ∧ Frm [] w w' := by
  have i1 : ¬ (cap : Int) < 0 := by omega
  have i2 : ¬ (4194304 : Int) < (cap : Int) := by omega
  clear hc
  go_enter Try.func23, Try.ntmps23
  go_wp2_with fail
  go_ret2
  exact ⟨⟨rfl, RowAt.made _ _ _ _ rfl⟩, (Frm.refl [] w).alloc _⟩
/-- Both disks have just been made. -/
theorem BoX.start {w0 w1 w2 : World} {fp S : List Nat} {d r cap : Nat} (hp : PD w1 d fp (emptyM cap)) (hfp : ∀ x ∈ fp, w0.heap.size ≤ x) (hS : ∀ s ∈ S, s < w0.heap.size) (h01 : w0.heap.size ≤ w1.heap.size) (hr : RowAt w2 r 77 (rhdC (emptyM cap) (.slice none 0 0) (.slice none 0 0) (.slice none 0 0) (.slice none 0 0))) (hf : Frm [] w1 w2) (hr1 : w1.heap.size ≤ r) (hc : cap ≤ 4194304) {wb : World} (hb : wb.heap.size ≤ w0.heap.size) : BoX wb w2 fp S d r 0 (emptyM cap) (emptyM cap) := by
  have hpl := hp.lt
  refine ⟨hp.frm hf (by simp), fun x hx => ⟨Nat.le_trans hb (hfp x hx), fun e => ?_, fun hm => ?_⟩, ⟨.slice none 0 0, .slice none 0 0, .slice none 0 0, .slice none 0 0, [], ?_⟩, ⟨by omega, fun hm => ?_⟩, DOk.empty hc, DOk.empty hc⟩
  · have := hpl x hx; omega
  · have := hfp x hx; have := hS x hm; omega
  · refine ⟨hr, rfl, RowV.nil0 _ _ _, by simp, RowV.nil0 _ _ _, RowV.nil0 _ _ _, RowV.nil0 _ _ _, List.mem_append_right _ List.mem_cons_self, fun k hk => ?_⟩
    rcases List.mem_append.1 hk with h9 | h9
    · exact Nat.lt_of_lt_of_le (hpl k h9) hf.size
    · rcases List.mem_cons.1 h9 with rfl | h9
      · exact hr.lt
      · have := hS k h9; have := hf.size; omega
  · have := hS r hm; omega
set_option linter.unusedSimpArgs false in
set_option maxRecDepth 100000 in
set_option maxHeartbeats 8000000 in
theorem script_walk (a0 : Option Addr) (cap0 : Nat) (xs0 : List Int) (s1 : Int) (w : World) (ht0 : Rd w.heap.size w a0 xs0.length cap0 1 (ints xs0)) (hx0 : ∀ x ∈ xs0, -9223372036854775808 ≤ x ∧ x ≤ 9223372036854775807) (hs1 : -9223372036854775808 ≤ s1 ∧ s1 ≤ 9223372036854775807) :
    Calls Try.prog 6 #[.slice a0 xs0.length cap0, .int .i64 s1] w fun e w' => e = .returned (.bool true) ∧ Frm [] w w' := by
  have HS1 := Lib.hid hs1
  have htn := tape_new w.heap.size a0 cap0 xs0 w ht0 hx0
  clear ht0 hx0 hs1
  go_enter Try.func6, Try.ntmps6
  go_wp2_with fail
  refine htn.mono ?_
  rintro e1 w1 ⟨rfl, hf1, hT1, hsz1⟩
  obtain ⟨tb, htb⟩ : ∃ tb, tb = w.heap.size := ⟨_, rfl⟩
  rw [← htb] at hT1 ⊢
  have HTB := Lib.hid htb
  have HT1 := Lib.hid hT1
  have HF1 := Lib.hid hf1
  have HSZ1 : Hid (w1.heap.size = tb + 1) := Lib.hid (by rw [hsz1, htb])
  clear htn hT1 hf1 hsz1 htb
  go_wp2_with fail
  have f2 : Frm [] w1 (w1.alloc (.cells #[.int .i64 0, .int .i64 7, .int .i64 30, .int .i64 1000] 3)) := (Frm.refl [] w1).alloc _
  have r2 : RowAt (w1.alloc (.cells #[.int .i64 0, .int .i64 7, .int .i64 30, .int .i64 1000] 3)) w1.heap.size 3 (ints [0, 7, 30, 1000]) := RowAt.made _ _ _ _ rfl
  have HT2 := Lib.hid (HT1.out.nil f2)
  have HF2 := Lib.hid (HF1.out.trans f2 (by simp))
  clear HT1 HF1
  generalize w1.alloc (.cells #[.int .i64 0, .int .i64 7, .int .i64 30, .int .i64 1000] 3) = w2 at *
  refine (next_any tb tb 0 4 w2 HT2.out (Nat.le_refl _) (by decide) (by decide)).mono ?_
  rintro e3 w3 ⟨⟨v, rfl, hv, -⟩, hT3, hf3⟩
  have hv4 := hv (by decide)
  obtain ⟨j, rfl⟩ : ∃ j : Nat, v = (j : Int) := ⟨v.toNat, by omega⟩
  have hj : j < 4 := by omega
  have hr3 := r2.frm hf3 (by have := HSZ1.out; simp; omega)
  obtain ⟨cap, hcap, hcc⟩ : ∃ cap : Nat, cap ≤ 1000 ∧ w3.cell? ⟨w1.heap.size, j, none⟩ = some (.int .i64 (cap : Int)) := by
    have hcs : j = 0 ∨ j = 1 ∨ j = 2 ∨ j = 3 := by omega
    rcases hcs with rfl | rfl | rfl | rfl
    · exact ⟨0, by decide, hr3.cell (i := 0) rfl⟩
    · exact ⟨7, by decide, hr3.cell (i := 1) rfl⟩
    · exact ⟨30, by decide, hr3.cell (i := 2) rfl⟩
    · exact ⟨1000, by decide, hr3.cell (i := 3) rfl⟩
  have i0 : (0 : Int) ≤ (j : Int) := by omega
  have i1 : (j : Int) < 4 := by omega
  have HT3 := Lib.hid hT3
  have HF3 : Hid (Frm [] w w3) := Lib.hid (HF2.out.trans hf3 (fun y hy => by rw [List.mem_singleton] at hy; rw [hy, HTB.out]; exact .inr (Nat.le_refl _)))
  have HCAP := Lib.hid hcap
  clear hv hv4 hj hT3 hf3 hr3 r2 f2 HT2 HF2 hcap
  go_wp2_with fail
  refine (new_any cap w3 (by have := HCAP.out; omega)).mono ?_
  rintro e4 w4 ⟨d, fp, rfl, hp4, hf4, hfp4⟩
  have HP4 := Lib.hid hp4
  have HF4 := Lib.hid hf4
  have HFP4 := Lib.hid hfp4
  clear hp4 hf4 hfp4 hcc
  go_wp2_with fail
  refine (rnew_any cap w4 (by have := HCAP.out; omega)).mono ?_
  rintro e5 w5 ⟨⟨rfl, hr5⟩, hf5⟩
  obtain ⟨r, hr⟩ : ∃ r, r = w4.heap.size := ⟨_, rfl⟩
  rw [← hr] at hr5 ⊢
  have HB5 : Hid (BoX w w5 fp [tb] d r 0 (emptyM cap) (emptyM cap)) := Lib.hid (BoX.start (w0 := w3) HP4.out HFP4.out (fun s hs => by rw [List.mem_singleton] at hs; rw [hs]; exact HT3.out.lt) HF4.out.size hr5 hf5 (by rw [hr]; exact Nat.le_refl _) (by have := HCAP.out; omega) HF3.out.size)
  have HT5 := Lib.hid ((HT3.out.nil HF4.out).nil hf5)
  have HF5 : Hid (Frm [] w w5) := Lib.hid ((HF3.out.trans HF4.out (by simp)).trans hf5 (by simp))
  clear hr5 hf5 hr HP4 HF4 HFP4 HT3 HF3
  go_wp2_with fail
  have f6 : Frm [] w5 (w5.alloc (.cells #[.pointer (some ⟨d, 0, none⟩), .pointer (some ⟨r, 0, none⟩)] 47)) := (Frm.refl [] w5).alloc _
  have r6 : RowAt (w5.alloc (.cells #[.pointer (some ⟨d, 0, none⟩), .pointer (some ⟨r, 0, none⟩)] 47)) w5.heap.size 47 [.pointer (some ⟨d, 0, none⟩), .pointer (some ⟨r, 0, none⟩)] := RowAt.made _ _ _ _ rfl
  have hb6 : BoX w (w5.alloc (.cells #[.pointer (some ⟨d, 0, none⟩), .pointer (some ⟨r, 0, none⟩)] 47)) fp [w5.heap.size, tb] d r 0 (emptyM cap) (emptyM cap) := HB5.out.more (T := [w5.heap.size]) f6 (by simp) (fun t ht => by rw [List.mem_singleton] at ht; rw [ht]; simp)
  have ht6 := HT5.out.nil f6
  have hf6 := HF5.out.trans f6 (by simp)
  have htb5 := HT5.out.lt
  generalize w5.alloc (.cells #[.pointer (some ⟨d, 0, none⟩), .pointer (some ⟨r, 0, none⟩)] 47) = w6 at *
  obtain ⟨bb, hbb⟩ : ∃ bb, bb = w5.heap.size := ⟨_, rfl⟩
  rw [← hbb] at r6 hb6 ⊢
  have hbt : bb ≠ tb := by omega
  have hbw : w.heap.size ≤ bb := by rw [hbb]; exact HF5.out.size
  have HBT := Lib.hid hbt
  have HBW := Lib.hid hbw
  have HB6 := Lib.hid hb6
  have HT6 := Lib.hid ht6
  have HF6 := Lib.hid hf6
  have HR6 := Lib.hid r6
  clear f6 r6 hb6 ht6 hf6 hbb hbt hbw htb5 HB5 HT5 HF5
  go_loopg [12] 40 (fun q s12 wr => ∃ (k : Nat) (fpk : List Nat) (m : DM), q = 40 - k ∧ k ≤ 40 ∧ s12 = .int .i64 (k : Int) ∧ BoX w wr fpk [bb, tb] d r (2 * k) m m ∧ TapeOk tb wr tb (1 + 10 * k) ∧ RowAt wr bb 47 [.pointer (some ⟨d, 0, none⟩), .pointer (some ⟨r, 0, none⟩)] ∧ Frm [] w wr)
  case atStart => exact ⟨0, fp, emptyM cap, rfl, by decide, rfl, HB6.out, HT6.out, HR6.out, HF6.out⟩
  case round =>
    obtain ⟨k, fpk, m, rfl, hk, rfl, hb, ht, hrw, hf⟩ := hrel
    have HB := Lib.hid hb
    have HT := Lib.hid ht
    have HR := Lib.hid hrw
    have HF := Lib.hid hf
    have i4 : (0 : Int) ≤ (k : Int) := by omega
    clear hb ht hrw hf
    by_cases hlt : k < 40
    · have i5 : (k : Int) < 40 := by omega
      have p0 := HR.out.cell (i := 0) rfl
      have p1 := HR.out.cell (i := 1) rfl
      go_wp2_with fail
      refine (act_any HB.out (by omega) HT.out (Nat.le_refl _) (by omega) (by simp) (by rw [HTB.out]; exact Nat.le_refl _)).mono ?_
      rintro e7 w7 ⟨rfl, fp7, m7, ham, hb7, hs7, ht7, hf7⟩
      have hnot : ∀ y ∈ tb :: r :: fpk, y ≠ bb ∧ w.heap.size ≤ y := fun y hy => by
        rcases List.mem_cons.1 hy with rfl | hy
        · exact ⟨fun e => HBT.out e.symm, by rw [HTB.out]; exact Nat.le_refl _⟩
        · rcases List.mem_cons.1 hy with rfl | hy
          · exact ⟨fun e => HB.out.rn.2 (by rw [e]; simp), HB.out.rn.1⟩
          · exact ⟨fun e => (HB.out.new y hy).2.2 (by rw [e]; simp), (HB.out.new y hy).1⟩
      have hr7 := HR.out.frm hf7 (fun hm => (hnot bb hm).1 rfl)
      have HB7 := Lib.hid (hb7.mono (N' := 2 * (k + 1)) (by omega))
      have HT7 := Lib.hid (ht7.mono (M := 1 + 10 * (k + 1)) (by omega))
      have HF7 : Hid (Frm [] w w7) := Lib.hid (HF.out.trans hf7 (fun y hy => .inr (hnot y hy).2))
      have HR7 := Lib.hid hr7
      have q0 := hr7.cell (i := 0) rfl
      have q1 := hr7.cell (i := 1) rfl
      clear ham hb7 hs7 ht7 hf7 hnot hr7 p0 p1
      go_wp2_with fail
      refine (agrees_any HB7.out).mono ?_
      rintro e8 w8 ⟨rfl, hf8⟩
      have HB8 := Lib.hid (HB7.out.nil hf8)
      have HT8 := Lib.hid (HT7.out.nil hf8)
      have HR8 := Lib.hid (HR7.out.frm hf8 (by simp))
      have HF8 := Lib.hid (HF7.out.trans hf8 (by simp))
      clear hf8 q0 q1
      go_wp2_with fail
      go_roundg (40 - (k + 1))
      case rel => exact ⟨k + 1, fp7, m7, rfl, hlt, by go_num, HB8.out, HT8.out, HR8.out, HF8.out⟩
      case measure => omega
    · have i5 : ¬ (k : Int) < 40 := by omega
      by_cases hs : 0 ≤ s1 ∧ s1 ≤ 4194304
      · obtain ⟨c, rfl⟩ : ∃ c : Nat, s1 = (c : Int) := ⟨s1.toNat, by omega⟩
        have j0 : (0 : Int) ≤ (c : Int) := by omega
        have j1 : (c : Int) ≤ 4194304 := hs.2
        have hc : c ≤ 4194304 := by omega
        clear hs
        go_wp2_with fail
        refine (new_any c wr hc).mono ?_
        rintro e7 w7 ⟨d7, fp7, rfl, -, hf7, -⟩
        go_wp2_with fail
        refine (sane_any w7).mono ?_
        rintro e8 w8 ⟨rfl, hf8⟩
        go_wp2_with fail
        go_ret
        exact ⟨rfl, (HF.out.trans hf7 (by simp)).trans hf8 (by simp)⟩
      · have hs' : s1 < 0 ∨ 4194304 < s1 := by omega
        rcases hs' with h1 | h1
        · have j0 : ¬ 0 ≤ s1 := by omega
          clear hs
          go_wp2_with fail
          refine (new_bad s1 wr (.inl h1)).mono ?_
          rintro e7 w7 ⟨rfl, rfl⟩
          go_wp2_with fail
          refine (sane_any _).mono ?_
          rintro e8 w8 ⟨rfl, hf8⟩
          go_wp2_with fail
          go_ret
          exact ⟨rfl, HF.out.trans hf8 (by simp)⟩
        · have j0 : 0 ≤ s1 := by omega
          have j1 : ¬ s1 ≤ 4194304 := by omega
          have HD : Hid ((!decide (s1 ≤ 4194304)) = true) := Lib.hid (by rw [decide_eq_false j1]; rfl)
          clear hs
          go_wp2_with fail
          refine (new_bad s1 wr (.inr h1)).mono ?_
          rintro e7 w7 ⟨rfl, rfl⟩
          go_wp2_with fail
          refine (sane_any _).mono ?_
          rintro e8 w8 ⟨rfl, hf8⟩
          go_wp2_with fail
          go_ret
          exact ⟨by first | rfl | (rw [← HD.out]; rfl), HF.out.trans hf8 (by simp)⟩

end Go.Proofs.Ytkebdgbjgbcneaa
