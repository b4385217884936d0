/- DiskCopy of the law answers true. -/
import Derived.Test.YtkebdgbjgbcneaaEU
import Derived.Test.YtkebdgbjgbcneaaEX
namespace Go.Proofs.Ytkebdgbjgbcneaa
open Go.RowKit Go.Maps Go.Shelf

set_option linter.unusedSimpArgs false in
set_option maxRecDepth 100000 in
set_option maxHeartbeats 8000000 in
theorem copy_walk (a0 : Option Addr) (cap0 : Nat) (xs0 : List Int) (w : World) (ht0 : Rd w.heap.size w a0 xs0.length cap0 1 (ints xs0)) (hx0 : ∀ x ∈ xs0, -9223372036854775808 ≤ x ∧ x ≤ 9223372036854775807) :
    Calls Try.prog 8 #[.slice a0 xs0.length cap0] w fun e w' => e = .returned (.bool true) ∧ Frm [] w w' := by
  have htn := tape_new w.heap.size a0 cap0 xs0 w ht0 hx0
  clear ht0 hx0
  go_enter Try.func8, Try.ntmps8
  go_wp2_with fail
  refine htn.mono ?_
  rintro e1 w1 ⟨rfl, hf1, hT1, hsz1⟩
  obtain ⟨tb, htb⟩ : ∃ tb, tb = w.heap.size := ⟨_, rfl⟩
  rw [← htb] at hT1 ⊢
  have HTB := Lib.hid htb
  have HT1 := Lib.hid hT1
  have HF1 := Lib.hid hf1
  clear htn hT1 hf1 hsz1 htb
  go_wp2_with fail
  refine (new_any 200 w1 (by decide)).mono ?_
  rintro e4 w4 ⟨d, fp, rfl, hp4, hf4, hfp4⟩
  have HP4 := Lib.hid hp4
  have HF4 := Lib.hid hf4
  have HFP4 := Lib.hid hfp4
  clear hp4 hf4 hfp4
  go_wp2_with fail
  refine (rnew_any 200 w4 (by decide)).mono ?_
  rintro e5 w5 ⟨⟨rfl, hr5⟩, hf5⟩
  obtain ⟨r, hr⟩ : ∃ r, r = w4.heap.size := ⟨_, rfl⟩
  rw [← hr] at hr5 ⊢
  have HB5 : Hid (BoX w w5 fp [tb] d r 0 (emptyM 200) (emptyM 200)) := Lib.hid (BoX.start (w0 := w1) HP4.out HFP4.out (fun s hs => by rw [List.mem_singleton] at hs; rw [hs]; exact HT1.out.lt) HF4.out.size hr5 hf5 (by rw [hr]; exact Nat.le_refl _) (by decide) HF1.out.size)
  have HT5 := Lib.hid ((HT1.out.nil HF4.out).nil hf5)
  have HF5 : Hid (Frm [] w w5) := Lib.hid ((HF1.out.trans HF4.out (by simp)).trans hf5 (by simp))
  clear hr5 hf5 hr HP4 HF4 HFP4 HT1 HF1
  go_wp2_with fail
  have f6 : Frm [] w5 (w5.alloc (.cells #[.pointer (some ⟨d, 0, none⟩), .pointer (some ⟨r, 0, none⟩)] 47)) := (Frm.refl [] w5).alloc _
  have r6 : RowAt (w5.alloc (.cells #[.pointer (some ⟨d, 0, none⟩), .pointer (some ⟨r, 0, none⟩)] 47)) w5.heap.size 47 [.pointer (some ⟨d, 0, none⟩), .pointer (some ⟨r, 0, none⟩)] := RowAt.made _ _ _ _ rfl
  have hb6 : BoX w (w5.alloc (.cells #[.pointer (some ⟨d, 0, none⟩), .pointer (some ⟨r, 0, none⟩)] 47)) fp [w5.heap.size, tb] d r 0 (emptyM 200) (emptyM 200) := HB5.out.more (T := [w5.heap.size]) f6 (by simp) (fun t ht => by rw [List.mem_singleton] at ht; rw [ht]; simp)
  have ht6 := HT5.out.nil f6
  have hf6 := HF5.out.trans f6 (by simp)
  have htb5 := HT5.out.lt
  generalize w5.alloc (.cells #[.pointer (some ⟨d, 0, none⟩), .pointer (some ⟨r, 0, none⟩)] 47) = w6 at *
  obtain ⟨bb, hbb⟩ : ∃ bb, bb = w5.heap.size := ⟨_, rfl⟩
  rw [← hbb] at r6 hb6 ⊢
  have hbt : bb ≠ tb := by omega
  have hbw : w.heap.size ≤ bb := by rw [hbb]; exact HF5.out.size
  have HBT := Lib.hid hbt
  have HBW := Lib.hid hbw
  have HB6 := Lib.hid hb6
  have HT6 := Lib.hid ht6
  have HF6 := Lib.hid hf6
  have HR6 := Lib.hid r6
  clear f6 r6 hb6 ht6 hf6 hbb hbt hbw htb5 HB5 HT5 HF5
  go_loopg [9] 12 (fun q s9 wr => ∃ (k : Nat) (fpk : List Nat) (m : DM), q = 12 - k ∧ k ≤ 12 ∧ s9 = .int .i64 (k : Int) ∧ BoX w wr fpk [bb, tb] d r (2 * k) m m ∧ TapeOk tb wr tb (10 * k) ∧ RowAt wr bb 47 [.pointer (some ⟨d, 0, none⟩), .pointer (some ⟨r, 0, none⟩)] ∧ Frm [] w wr)
  case atStart => exact ⟨0, fp, emptyM 200, rfl, by decide, rfl, HB6.out, HT6.out, HR6.out, HF6.out⟩
  case round =>
    obtain ⟨k, fpk, m, rfl, hk, rfl, hb, ht, hrw, hf⟩ := hrel
    have HB := Lib.hid hb
    have HT := Lib.hid ht
    have HR := Lib.hid hrw
    have HF := Lib.hid hf
    have i4 : (0 : Int) ≤ (k : Int) := by omega
    clear hb ht hrw hf
    by_cases hlt : k < 12
    · have i5 : (k : Int) < 12 := by omega
      have p0 := HR.out.cell (i := 0) rfl
      have p1 := HR.out.cell (i := 1) rfl
      go_wp2_with fail
      refine (act_any HB.out (by omega) HT.out (Nat.le_refl _) (by omega) (by simp) (by rw [HTB.out]; exact Nat.le_refl _)).mono ?_
      rintro e7 w7 ⟨rfl, fp7, m7, ham, hb7, hs7, ht7, hf7⟩
      have hnot : ∀ y ∈ tb :: r :: fpk, y ≠ bb ∧ w.heap.size ≤ y := fun y hy => by
        rcases List.mem_cons.1 hy with rfl | hy
        · exact ⟨fun e => HBT.out e.symm, by rw [HTB.out]; exact Nat.le_refl _⟩
        · rcases List.mem_cons.1 hy with rfl | hy
          · exact ⟨fun e => HB.out.rn.2 (by rw [e]; simp), HB.out.rn.1⟩
          · exact ⟨fun e => (HB.out.new y hy).2.2 (by rw [e]; simp), (HB.out.new y hy).1⟩
      have HR7 := Lib.hid (HR.out.frm hf7 (fun hm => (hnot bb hm).1 rfl))
      have HB7 := Lib.hid (hb7.mono (N' := 2 * (k + 1)) (by omega))
      have HT7 := Lib.hid (ht7.mono (M := 10 * (k + 1)) (by omega))
      have HF7 : Hid (Frm [] w w7) := Lib.hid (HF.out.trans hf7 (fun y hy => .inr (hnot y hy).2))
      clear ham hb7 hs7 ht7 hf7 hnot p0 p1
      go_wp2_with fail
      go_roundg (12 - (k + 1))
      case rel => exact ⟨k + 1, fp7, m7, rfl, hlt, by go_num, HB7.out, HT7.out, HR7.out, HF7.out⟩
      case measure => omega
    · have i5 : ¬ (k : Int) < 12 := by omega
      have hk24 : 2 * k ≤ 24 ∧ 10 * k ≤ 120 := by omega
      have HK24 := Lib.hid hk24
      clear hk24
      go_wp2_with fail
      refine (copy_any HB.out.pd HB.out.ok1 (by have := HK24.out; omega)).mono ?_
      rintro e7 w7 ⟨d2, fp2, rfl, hp7, hf7, hfp7⟩
      have HB7 := Lib.hid (HB.out.nil hf7)
      have HP7 := Lib.hid hp7
      have HF7 := Lib.hid hf7
      have HFP7 := Lib.hid hfp7
      have hB7l := hp7.lt
      clear hp7 hf7 hfp7
      go_wp2_with fail
      have hrd7 : RD w7 (fp2 ++ (fpk ++ r :: [bb, tb])) r m := by
        obtain ⟨fv, dv, sv, ov, l, h9⟩ := HB.out.rdv
        refine ⟨fv, dv, sv, ov, l, h9.step HF7.out (by simp) (by simp) (fun y hy => ?_) (List.mem_append_right _ h9.me) (fun y hy => ?_)⟩
        · rcases List.mem_append.1 hy with h8 | h8
          · exact .inr (HFP7.out y h8)
          · exact .inl h8
        · rcases List.mem_append.1 hy with h8 | h8
          · exact hB7l y h8
          · exact Nat.lt_of_lt_of_le (h9.low y h8) HF7.out.size
      refine (rcopy_any hrd7).mono ?_
      rintro e8 w8 ⟨fv, dv, sv, ov, l, rfl, hrd8, hr8, hf8⟩
      obtain ⟨r2, hr2⟩ : ∃ r2, r2 = w7.heap.size := ⟨_, rfl⟩
      rw [← hr2] at hr8 ⊢
      have HRD8 := Lib.hid hrd8
      have HR8 := Lib.hid hr8
      have HF8 := Lib.hid hf8
      have HR2 := Lib.hid hr2
      have HBL := Lib.hid hB7l
      clear hrd8 hr8 hf8 hr2 hrd7 hB7l
      go_wp2_with fail
      have f9 : Frm [] w8 (w8.alloc (.cells #[.pointer (some ⟨d2, 0, none⟩), .pointer (some ⟨r2, 0, none⟩)] 47)) := (Frm.refl [] w8).alloc _
      have r9 : RowAt (w8.alloc (.cells #[.pointer (some ⟨d2, 0, none⟩), .pointer (some ⟨r2, 0, none⟩)] 47)) w8.heap.size 47 [.pointer (some ⟨d2, 0, none⟩), .pointer (some ⟨r2, 0, none⟩)] := RowAt.made _ _ _ _ rfl
      have hs9 : (w8.alloc (.cells #[.pointer (some ⟨d2, 0, none⟩), .pointer (some ⟨r2, 0, none⟩)] 47)).heap.size = w8.heap.size + 1 := by simp
      generalize w8.alloc (.cells #[.pointer (some ⟨d2, 0, none⟩), .pointer (some ⟨r2, 0, none⟩)] 47) = w9 at *
      obtain ⟨cc, hcc⟩ : ∃ cc, cc = w8.heap.size := ⟨_, rfl⟩
      rw [← hcc] at r9 hs9 ⊢
      have hTW : Two w w9 fpk fp2 d r d2 r2 bb cc tb 24 120 m m := by
        have hk := HK24.out
        have hfr9 : Frm [] wr w9 := (HF7.out.trans HF8.out (by simp)).trans f9 (by simp)
        have hfr79 : Frm [] w7 w9 := HF8.out.trans f9 (by simp)
        have h1 := HF.out.size
        have h2 := HF7.out.size
        have h3 := HF8.out.size
        have h4 := HR2.out
        have h5 := HR8.out.lt
        have hrl := HB.out.rlt
        have hbl := HB.out.low bb (by simp)
        have htl := HB.out.low tb (by simp)
        have hfl := HB.out.flt
        have hb : BoX w w9 fpk (fp2 ++ [r2, bb, cc, tb]) d r 24 m m := (HB.out.mono (by omega)).follow hfr9 (by simp) (fun y hy => by
          rcases List.mem_append.1 hy with h9 | h9
          · exact .inr (HFP7.out y h9)
          · simp at h9
            rcases h9 with rfl | rfl | rfl | rfl
            · right; omega
            · left; simp
            · right; omega
            · left; simp) (fun y hy => by
          rcases List.mem_append.1 hy with h9 | h9
          · have := HBL.out y h9; omega
          · simp at h9
            rcases h9 with rfl | rfl | rfl | rfl <;> omega)
        have hc : BoX w w9 fp2 (fpk ++ [r, bb, cc, tb]) d2 r2 24 m m := by
          refine ⟨HP7.out.frm hfr79 (by simp), fun y hy => ⟨Nat.le_trans h1 (HFP7.out y hy), ?_, fun hm => ?_⟩, ?_, ⟨by omega, fun hm => ?_⟩, HB.out.ok1.mono (by omega), HB.out.ok2.mono (by omega)⟩
          · have := HBL.out y hy; omega
          · have h8 := HFP7.out y hy
            have h7 := HBL.out y hy
            rcases List.mem_append.1 hm with h9 | h9
            · have := hfl y h9; omega
            · simp at h9
              rcases h9 with rfl | rfl | rfl | rfl <;> omega
          · refine HRD8.out.copy (HR8.out.frm f9 (by simp)) hfr79 (fun y hy => ?_) (List.mem_append_right _ List.mem_cons_self) (fun y hy => ?_)
            · rcases List.mem_append.1 hy with h9 | h9
              · exact .inl (List.mem_append_left _ h9)
              · rcases List.mem_cons.1 h9 with rfl | h9
                · right; omega
                · rcases List.mem_append.1 h9 with h9 | h9
                  · exact .inl (List.mem_append_right _ (List.mem_append_left _ h9))
                  · simp at h9
                    rcases h9 with rfl | rfl | rfl | rfl
                    · left; simp
                    · left; simp
                    · right; omega
                    · left; simp
            · rcases List.mem_append.1 hy with h9 | h9
              · have := HBL.out y h9; omega
              · rcases List.mem_cons.1 h9 with rfl | h9
                · omega
                · rcases List.mem_append.1 h9 with h9 | h9
                  · have := hfl y h9; omega
                  · simp at h9
                    rcases h9 with rfl | rfl | rfl | rfl <;> omega
          · rcases List.mem_append.1 hm with h9 | h9
            · have := hfl r2 h9; omega
            · simp at h9
              rcases h9 with h9 | h9 | h9 | h9 <;> omega
        exact ⟨hb, hc, (HT.out.nil hfr9).mono (by omega), HR.out.frm hfr9 (by simp), r9, HF.out.trans hfr9 (by simp), ⟨by rw [HTB.out]; exact Nat.le_refl _, HBT.out, by omega⟩⟩
      have HTW := Lib.hid hTW
      clear hTW f9 r9 hs9 hcc HRD8 HR8 HF8 HR2 HBL HP7 HF7 HFP7 HB7 HB HT HR HF
      go_loopg [11] 12 (fun q s11 wr => ∃ (k : Nat) (fp1 : List Nat) (m m2 : DM), q = 12 - k ∧ k ≤ 12 ∧ s11 = .int .i64 (k : Int) ∧ Two w wr fp1 fp2 d r d2 r2 bb cc tb (24 + 2 * k) (120 + 10 * k) m m2)
      case atStart => exact ⟨0, fpk, m, m, rfl, by decide, rfl, HTW.out⟩
      case round =>
        obtain ⟨k1, fp1, m1, m2, rfl, hk1, rfl, htw⟩ := hrel
        have HT1 := Lib.hid htw
        have j4 : (0 : Int) ≤ (k1 : Int) := by omega
        clear htw
        by_cases hlt1 : k1 < 12
        · have j5 : (k1 : Int) < 12 := by omega
          have p0 := HT1.out.rowb.cell (i := 0) rfl
          have p1 := HT1.out.rowb.cell (i := 1) rfl
          go_wp2_with fail
          refine (act_any HT1.out.b (by omega) HT1.out.tape (Nat.le_refl _) (by omega) (by simp) (by rw [HTB.out]; exact Nat.le_refl _)).mono ?_
          rintro e10 w10 ⟨rfl, ha10⟩
          obtain ⟨fp1', m1', ht10⟩ := HT1.out.act ha10
          have HT10 := Lib.hid (ht10.mono (N' := 24 + 2 * (k1 + 1)) (M' := 120 + 10 * (k1 + 1)) (by omega) (by omega))
          have q0 := ht10.rowc.cell (i := 0) rfl
          have q1 := ht10.rowc.cell (i := 1) rfl
          clear ha10 ht10 p0 p1
          go_wp2_with fail
          refine (agrees_any HT10.out.c).mono ?_
          rintro e11 w11 ⟨rfl, hf11⟩
          have HT11 := Lib.hid (HT10.out.nil hf11)
          clear hf11 q0 q1
          go_wp2_with fail
          go_roundg (12 - (k1 + 1))
          case rel => exact ⟨k1 + 1, fp1', m1', m2, rfl, hlt1, by go_num, HT11.out⟩
          case measure => omega
        · have j5 : ¬ (k1 : Int) < 12 := by omega
          have HT2 := Lib.hid (HT1.out.mono (N' := 48) (M' := 240) (by omega) (by omega))
          clear HT1
          go_wp2_with fail
          go_loopg [12] 12 (fun q s12 wr => ∃ (k : Nat) (fp2' : List Nat) (m m2 : DM), q = 12 - k ∧ k ≤ 12 ∧ s12 = .int .i64 (k : Int) ∧ Two w wr fp1 fp2' d r d2 r2 bb cc tb (48 + 2 * k) (240 + 10 * k) m m2)
          case atStart => exact ⟨0, fp2, m1, m2, rfl, by decide, rfl, HT2.out⟩
          case round =>
            obtain ⟨k3, fp2', m3, m4, rfl, hk3, rfl, htw⟩ := hrel
            have HT3 := Lib.hid htw
            have l4 : (0 : Int) ≤ (k3 : Int) := by omega
            clear htw
            by_cases hlt3 : k3 < 12
            · have l5 : (k3 : Int) < 12 := by omega
              have p0 := HT3.out.rowc.cell (i := 0) rfl
              have p1 := HT3.out.rowc.cell (i := 1) rfl
              have HS3 := Lib.hid HT3.out.swap
              go_wp2_with fail
              refine (act_any HS3.out.b (by omega) HS3.out.tape (Nat.le_refl _) (by omega) (by simp) (by rw [HTB.out]; exact Nat.le_refl _)).mono ?_
              rintro e12 w12 ⟨rfl, ha12⟩
              obtain ⟨fp2x, m4', ht12⟩ := HS3.out.act ha12
              have HT12 := Lib.hid (ht12.swap.mono (N' := 48 + 2 * (k3 + 1)) (M' := 240 + 10 * (k3 + 1)) (by omega) (by omega))
              have q0 := HT12.out.rowb.cell (i := 0) rfl
              have q1 := HT12.out.rowb.cell (i := 1) rfl
              clear ha12 ht12 p0 p1 HS3
              go_wp2_with fail
              refine (agrees_any HT12.out.b).mono ?_
              rintro e13 w13 ⟨rfl, hf13⟩
              have HT13 := Lib.hid (HT12.out.nil hf13)
              have u0 := HT13.out.rowc.cell (i := 0) rfl
              have u1 := HT13.out.rowc.cell (i := 1) rfl
              clear hf13 q0 q1 HT12
              go_wp2_with fail
              refine (agrees_any HT13.out.c).mono ?_
              rintro e14 w14 ⟨rfl, hf14⟩
              have HT14 := Lib.hid (HT13.out.nil hf14)
              clear hf14 u0 u1 HT13
              go_wp2_with fail
              go_roundg (12 - (k3 + 1))
              case rel => exact ⟨k3 + 1, fp2x, m3, m4', rfl, hlt3, by go_num, HT14.out⟩
              case measure => omega
            · have l5 : ¬ (k3 : Int) < 12 := by omega
              go_wp2_with fail
              refine (sane_any _).mono ?_
              rintro e15 w15 ⟨rfl, hf15⟩
              go_wp2_with fail
              go_ret
              exact ⟨rfl, HT3.out.frm.trans hf15 (by simp)⟩

end Go.Proofs.Ytkebdgbjgbcneaa
