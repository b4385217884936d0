/- HeapCompacts of the law answers true. -/
import Derived.Test.YtlpgonnionbkfaaJ1
import Derived.Test.YtlpgonnionbkfaaJ6
namespace Go.Proofs.Ytlpgonnionbkfaa
open Go.RowKit

/-- What compaction from one root keeps, and what a second one does. -/
theorem compact_facts {cs : List HC} (h : HOk cs) {k : Nat} (hk : k < cs.length) : ∃ (C : List HC) (x : Int), compC cs [(k : Int)] = C ∧ compO cs [(k : Int)] = [x] ∧ HOk C ∧ (∀ ps, walkM C x ps = walkM cs k ps) ∧
    (natI (rset C (rts C [x]))).length = C.length ∧ C.length ≤ cs.length ∧ ∃ C2, compC C [x] = C2 ∧ compO C [x] = [x] ∧ HOk C2 ∧ C2.length = C.length := by
  have hin : inL cs (k : Int) = true := by simp only [inL, decide_eq_true_eq]; omega
  have hall : ∀ r ∈ [(k : Int)], inL cs r = true := fun r hr => by rw [List.mem_singleton] at hr; rw [hr]; exact hin
  have hkp := kept_root h [(k : Int)] (r := (k : Int)) (by simp) hin
  have e0 : compO cs [(k : Int)] = [numI cs [(k : Int)] (folI cs k)] := by simp [compO, hin]
  have hr := comp_rset h [(k : Int)]
  have ho2 := comp_out2 h [(k : Int)] hall
  have hl2 := comp_len2 h [(k : Int)] hall
  have hk2 := compC_ok (compC_ok h [(k : Int)]) (compO cs [(k : Int)])
  have hw := fun ps => walk_keep h [(k : Int)] ps k hin hkp
  have hs := compC_small h [(k : Int)]
  refine ⟨compC cs [(k : Int)], numI cs [(k : Int)] (folI cs k), rfl, e0, compC_ok h _, hw, ?_, hs, _, rfl, ?_, ?_, ?_⟩
  · rw [natI_len, ← e0, hr, List.length_range]
  · rw [← e0]; exact ho2
  · rw [← e0]; exact hk2
  · rw [← e0]; exact hl2
theorem equal_same (v u : Value) (xs : List Int) (w : World) (h : IntsAt w v xs) (g : IntsAt w u xs) :
    Calls Try.prog 16 #[v, u] w fun e w' => e = .returned (.bool true) ∧ Frm [] w w' :=
  (equal_any v u xs xs w h g).mono fun e w' ⟨he, n, hw⟩ => by
    subst hw
    refine ⟨?_, (Frm.refl [] w).drewN n⟩
    rw [he, decide_eq_true rfl]

set_option linter.unusedSimpArgs false in
set_option maxRecDepth 100000 in
set_option maxHeartbeats 4000000 in
theorem compacts_walk (a : Option Addr) (len cap : Nat) (_hlen : (len : Int) ≤ 9223372036854775807) (_hlc : (len : Int) ≤ (cap : Int)) (a2 : Option Addr) (cap2 : Nat) (ps : List Nat) (w : World) (ho : OpsAt w a len) (hp : BytesAt w a2 ps) (hlc2 : ps.length ≤ cap2) (hcm2 : cap2 ≤ maxLen) :
    Calls Try.prog 7 #[.slice a len cap, .slice a2 ps.length cap2] w fun e w' => e = .returned (.bool true) ∧ Frm [] w w' := by
  have HOPS := Lib.hid ho
  have WALK : Hid (∀ (w' : World) (hb : Nat) (fp : List Nat) (most : Int) (cs : List HC) (r : Int), HW 60 w' hb fp most cs → HOk cs → Frm [] w w' →
      Calls Try.prog 22 #[.pointer (some ⟨hb, 0, none⟩), .int .i64 r, .slice a2 ps.length cap2] w' fun e w'' => RchEnd w'.heap.size (walkM cs r (ps.take 30)) w'' e ∧ Frm [] w' w'') :=
    Lib.hid (fun w' hb fp most cs r h1 h2 h3 => walk_any h1 h2 r a2 cap2 ps (hp.frm h3) hlc2 hcm2)
  obtain ⟨pt, hpt⟩ : ∃ pt, pt = ps.take 30 := ⟨_, rfl⟩
  rw [← hpt] at WALK
  obtain ⟨m2, hm2⟩ : ∃ m, m = ps.length := ⟨_, rfl⟩
  rw [← hm2] at WALK ⊢
  have hpair := pair_ok 40 w (by decide) (by decide)
  clear ho hp hlc2 hcm2 hm2 hpt
  go_enter Try.func7, Try.ntmps7
  go_wp2_with fail
  refine hpair.mono ?_
  rintro e1 w1 ⟨hb1, hb2, rfl, fp1, fp2, hT6, hf6⟩
  have f7 : Frm [] w1 (w1.alloc (.cells #[.pointer (some ⟨hb1, 0, none⟩), .pointer (some ⟨hb2, 0, none⟩)] 46)) := (Frm.refl [] w1).alloc _
  have r7 := RowAt.made w1 46 [.pointer (some ⟨hb1, 0, none⟩), .pointer (some ⟨hb2, 0, none⟩)] #[.pointer (some ⟨hb1, 0, none⟩), .pointer (some ⟨hb2, 0, none⟩)] rfl
  have NX : Hid (w1.heap.size ∉ fp1 ++ fp2) := Lib.hid (fun hmem => by
    rcases List.mem_append.1 hmem with h9 | h9
    · have := hT6.h1.lt _ h9; omega
    · have := hT6.h2.lt _ h9; omega)
  have NA : Hid (∀ x ∈ fp1 ++ fp2, w.heap.size ≤ x) := Lib.hid (fun x hx => by
    rcases List.mem_append.1 hx with h9 | h9
    · rcases hT6.b1 x h9 with h8 | h8
      · cases h8
      · omega
    · rcases hT6.b2 x h9 with h8 | h8
      · cases h8
      · omega)
  have F7 := Lib.hid (hf6.trans f7 (by simp))
  have R7 := Lib.hid r7
  have HT7 := Lib.hid (hT6.frm f7 (by simp) (by simp))
  clear hpair hT6 hf6 f7 r7
  go_wp2_with fail
  refine (awake_any _).mono ?_
  rintro e3 w3 ⟨rfl, hf3⟩
  have r3 := R7.out.frm hf3 (by simp)
  have p0 := r3.cell (i := 0) rfl
  have F3 : Hid (Frm [] w w3) := Lib.hid (F7.out.trans hf3 (by simp))
  have HTR := Lib.hid ((HT7.out.frm hf3 (by simp) (by simp)).rebase w3.heap.size)
  have R3 := Lib.hid r3
  obtain ⟨x7, hx7⟩ : ∃ x, x = w1.heap.size := ⟨_, rfl⟩
  rw [← hx7] at p0 R3 NX ⊢
  clear hf3 F7 R7 HT7 r3 hx7
  go_wp2_with fail
  clear p0
  have HT7 : Hid (Two (fp1 ++ fp2) w3 w3 hb1 hb2 40 [] []) := Lib.hid ⟨fp1, fp2, HTR.out, Frm.refl _ _⟩
  clear HTR
  go_loopg [7] 60 (fun q s9 wr => ∃ (i : Nat) (cs : List HC), q = 60 - i ∧ i ≤ 60 ∧ s9 = .int .i64 (i : Int) ∧ Two (fp1 ++ fp2) w3 wr hb1 hb2 40 cs cs)
  case atStart => exact ⟨0, [], rfl, by omega, rfl, HT7.out⟩
  case round =>
    clear HT7
    obtain ⟨i, cs, rfl, hi, rfl, hT⟩ := hrel
    have HT := Lib.hid hT
    have hfr := hT.frame
    have hR := R3.out.frm hfr NX.out
    have hFw : Frm [] w wr := F3.out.trans hfr (fun x hx => .inr (NA.out x hx))
    have HFW := Lib.hid hFw
    have q0 := hR.cell (i := 0) rfl
    have q1 := hR.cell (i := 1) rfl
    have i4 : (0 : Int) ≤ (i : Int) := by omega
    have HR := Lib.hid hR
    have hOP := HOPS.out.frm hFw
    clear hT hfr hR hFw
    by_cases hgo : i < len ∧ i < 60
    · obtain ⟨hil, hi8⟩ := hgo
      obtain ⟨b, o, k, x, y, c, n, raw, rfl, hb, g0, g1, g2, g3, g4, g5⟩ := HOPS.out i hil
      have h0 := HFW.out.cell g0 (by simp)
      have h1 := HFW.out.cell g1 (by simp)
      have h2 := HFW.out.cell g2 (by simp)
      have h3 := HFW.out.cell g3 (by simp)
      have h4 := HFW.out.cell g4 (by simp)
      have h5 := HFW.out.cell g5 (by simp)
      have i5 : (i : Int) < (len : Int) := by omega
      have i6 : (i : Int) < 60 := by omega
      clear hOP hb
      go_wp2_with fail
      go_region_held3 (fun w' => w'.cell? ⟨x7, 0, none⟩ = some (.pointer (some ⟨hb1, 0, none⟩)) ∧ w'.cell? ⟨x7, 1, none⟩ = some (.pointer (some ⟨hb2, 0, none⟩)) ∧ w'.cell? ⟨b, o + i * 6, none⟩ = some (.int .i64 k) ∧ w'.cell? ⟨b, o + i * 6 + 1, none⟩ = some (.int .i64 x) ∧ w'.cell? ⟨b, o + i * 6 + 2, none⟩ = some (.int .i64 y) ∧ w'.cell? ⟨b, o + i * 6 + 3, none⟩ = some (.int .i64 c) ∧ w'.cell? ⟨b, o + i * 6 + 4, none⟩ = some (.int .i64 n) ∧ w'.cell? ⟨b, o + i * 6 + 5, none⟩ = some (.bool raw)) (first | exact ⟨q0, q1, h0, h1, h2, h3, h4, h5⟩ | exact ⟨v0, v1, fr6.cell g0 (by simp), fr6.cell g1 (by simp), fr6.cell g2 (by simp), fr6.cell g3 (by simp), fr6.cell g4 (by simp), fr6.cell g5 (by simp)⟩) ((go_at_call 19; refine (apply_any (HT.out.frm (by first | exact Frm.refl [] wr | exact (Frm.refl [] wr).drew | exact (Frm.refl [] wr).drewN _)) k x y c n raw).mono ?_; rintro e6 w6 ⟨rfl, cs6, hT6⟩; have fr6 : Frm [] w w6 := F3.out.trans hT6.frame (fun x hx => .inr (NA.out x hx)); have v0 := (R3.out.frm hT6.frame NX.out).cell (i := 0) rfl; have v1 := (R3.out.frm hT6.frame NX.out).cell (i := 1) rfl))
      all_goals
        have HT6 := Lib.hid hT6
        clear hT6 fr6 v0 v1 q0 q1 h0 h1 h2 h3 h4 h5
        go_wp2_with fail
        go_roundg (60 - (i + 1))
        case rel => exact ⟨i + 1, cs6, rfl, by omega, by go_num, HT6.out.frm (by first | exact Frm.refl [] w6 | exact (Frm.refl [] w6).drew | exact (Frm.refl [] w6).drewN _)⟩
        case measure => omega
    · have hcase : ((i : Int) < (len : Int) ∧ ¬ (i : Int) < 60) ∨ (¬ (i : Int) < (len : Int)) := by omega
      clear hgo hOP
      obtain ⟨fq1, fq2, hTV, hfw⟩ := HT.out
      have HTV := Lib.hid hTV
      have hfq1 : ∀ x ∈ fq1, w.heap.size ≤ x := fun x hx => by
        rcases hTV.b1 x hx with h9 | h9
        · exact NA.out x h9
        · exact Nat.le_trans F3.out.size h9
      have hfq7 : x7 ∉ fq1 := fun hx => by
        rcases hTV.b1 x7 hx with h9 | h9
        · exact NX.out h9
        · have := R3.out.lt; omega
      have HQ1 := Lib.hid hfq1
      have HQ7 := Lib.hid hfq7
      have hz := size_m hTV.h1
      have hsm := hTV.h1.small
      clear hTV hfw hfq1 hfq7
      rcases hcase with ⟨i5, i6⟩ | i5
      all_goals
        rcases Nat.eq_zero_or_pos cs.length with hn | hn
        · have hb0 : ((cs.length : Int) == 0) = true := by simp [hn]
          clear hn
          go_wp2_with fail
          refine hz.mono ?_
          rintro e5 w5 ⟨rfl, rfl⟩
          clear hz
          go_wp2_with fail
          refine (same_all HT.out).mono ?_
          rintro e6 w6 ⟨rfl, hT6⟩
          go_wp2_with fail
          go_ret
          exact ⟨rfl, F3.out.trans hT6.frame (fun x hx => .inr (NA.out x hx))⟩
        · have hb0 : ((cs.length : Int) == 0) = false := beq_eq_false_iff_ne.2 (by omega)
          obtain ⟨k, hk⟩ : ∃ k, k = cs.length - 1 := ⟨_, rfl⟩
          have hkl : k < cs.length := by omega
          have iw : IntKind.i64.wrap ((cs.length : Int) - 1) = (k : Int) := by rw [IntWalk.i64_in _ (by omega)]; omega
          have ik : (0 : Int) ≤ (k : Int) := by omega
          obtain ⟨C, x, hC, hO, hCok, hwalk, hrch, hCs, C2, hC2, hO2, hC2ok, hC2l⟩ := compact_facts HTV.out.o1 hkl
          have hz2 := hz
          have HZ := Lib.hid hz
          have hcl : C.length ≤ 65536 := by omega
          have HCL := Lib.hid hcl
          have HKL := Lib.hid hkl
          have HCC := Lib.hid hC
          have HOO := Lib.hid hO
          have HCOK := Lib.hid hCok
          have HWK := Lib.hid hwalk
          have HRC := Lib.hid hrch
          have HC2 := Lib.hid hC2
          have HO2 := Lib.hid hO2
          have HC2L := Lib.hid hC2l
          clear hn hk hkl hC hO hCok hwalk hrch hCs hC2 hO2 hC2ok hC2l hcl hz2
          go_wp2_with fail
          refine hz.mono ?_
          rintro e5 w5 ⟨rfl, rfl⟩
          clear hz
          go_wp2_with fail
          refine HZ.out.mono ?_
          rintro e5 w5 ⟨rfl, rfl⟩
          clear HZ
          go_wp2_with fail
          refine (WALK.out _ _ _ _ _ (k : Int) HTV.out.h1 HTV.out.o1 HFW.out).mono ?_
          rintro e6 w6 ⟨⟨a6, c6, rfl, hi6, hb6⟩, hf6⟩
          have hR6 := HR.out.frm hf6 (by simp)
          have q6 := hR6.cell (i := 0) rfl
          have hszr := hf6.size
          have f7 : Frm [] w6 (w6.alloc (.cells #[.int .i64 (k : Int)] 3)) := (Frm.refl [] _).alloc _
          have hin7 := ints_new w6 (k : Int) (g := w6.heap.size) rfl
          have h17 := (HTV.out.h1.frm hf6 (by simp)).frm f7 (by simp)
          have hlt := HTV.out.h1.lt
          have hcmp := compact_any h17 HTV.out.o1 (.slice (some ⟨w6.heap.size, 0, none⟩) 1 1) [(k : Int)] hin7 (fun k9 hk9 hm9 => by
            have h9 := hlt k9 hm9
            simp [Value.ownBlock] at hk9
            omega) (by simp)
          rw [HCC.out, HOO.out] at hcmp
          have HI7 := Lib.hid (hi6.frm f7 (by simp))
          have HB7 : Hid (∀ j, (Value.slice a6 (walkM cs (k : Int) pt).length c6).ownBlock = some j → j ∉ fq1) := Lib.hid (fun j hj hm => by
            have h1 := hb6 j hj
            have h2 := hlt j hm
            omega)
          have HR7 := Lib.hid (hR6.frm f7 (by simp))
          have FW7 := Lib.hid ((HFW.out.trans hf6 (by simp)).trans f7 (by simp))
          have hsz7 := f7.size
          clear hR6 hf6 hi6 hb6 f7 hin7 h17 hlt q0 q1
          go_wp2_with fail
          clear q6
          generalize w6.alloc (.cells #[.int .i64 (k : Int)] 3) = w7 at *
          refine hcmp.mono ?_
          rintro e8 w8 ⟨fp8, a8, c8, he8, hi8, hb8, h18, hf8, hs8⟩
          have he8' : e8 = .returned (.slice a8 1 c8) := he8
          have hi8' : IntsAt w8 (.slice a8 1 c8) [x] := hi8
          have hb8' : ∀ j, (Value.slice a8 1 c8).ownBlock = some j → w7.heap.size ≤ j ∧ j ∉ fp8 := hb8
          subst he8'
          obtain ⟨b4, o4, rfl, q4, hnn, hc4, hm4⟩ := hi8'.at (j := 0) rfl
          have q4' : w8.cell? ⟨b4, o4, none⟩ = some (.int .i64 x) := q4
          have hR8 := HR7.out.frm hf8 HQ7.out
          have p8 := hR8.cell (i := 0) rfl
          have FW8 := Lib.hid (FW7.out.trans hf8 (fun x hx => .inr (HQ1.out x hx)))
          have HI8 := Lib.hid (HI7.out.frm hf8 HB7.out)
          have HR8 := Lib.hid hR8
          have H18 := Lib.hid h18
          have HRR := Lib.hid hi8'
          have HBB := Lib.hid hb8'
          have HX8 : Hid (x7 ∉ fp8) := Lib.hid (fun hx => by
            rcases hs8 x7 hx with h9 | h9
            · exact HQ7.out h9
            · have := HR7.out.lt
              omega)
          have HS8 : Hid (∀ y ∈ fp8, w.heap.size ≤ y) := Lib.hid (fun y hy => by
            rcases hs8 y hy with h9 | h9
            · exact HQ1.out y h9
            · have := FW7.out.size
              omega)
          have CMP2 : Hid (∀ W, Frm [] w8 W → Calls Try.prog 23 #[.pointer (some ⟨hb1, 0, none⟩), .slice (some ⟨b4, o4, none⟩) 1 c8] W fun e w' => CmpEnd 60 W hb1 fp8 40 C2 [x] w' e) := Lib.hid (fun W hf => by
            have h := compact_any (H18.out.frm hf (by simp)) HCOK.out (.slice (some ⟨b4, o4, none⟩) 1 c8) [x] (HRR.out.frm hf (by simp)) (fun j hj => (HBB.out j hj).2) (by simp)
            rw [HC2.out, HO2.out] at h
            exact h)
          have RCH : Hid (∀ W, Frm [] w8 W → Calls Try.prog 24 #[.pointer (some ⟨hb1, 0, none⟩), .slice (some ⟨b4, o4, none⟩) 1 c8] W fun e w' => (∃ a9 c9, e = .returned (.slice a9 C.length c9)) ∧ Frm [] W w') := Lib.hid (fun W hf => by
            refine (reach_any (H18.out.frm hf (by simp)) HCOK.out (.slice (some ⟨b4, o4, none⟩) 1 c8) [x] (HRR.out.frm hf (by simp)) (by simp)).mono ?_
            rintro e w' ⟨⟨a9, c9, he, _, _⟩, hf9⟩
            rw [HRC.out] at he
            exact ⟨⟨a9, c9, he⟩, hf9⟩)
          have WK : Hid (∀ W, Frm [] w8 W → Calls Try.prog 22 #[.pointer (some ⟨hb1, 0, none⟩), .int .i64 x, .slice a2 m2 cap2] W fun e w' => RchEnd W.heap.size (walkM cs (k : Int) pt) w' e ∧ Frm [] W w') := Lib.hid (fun W hf => by
            have h := WALK.out W hb1 fp8 40 C x (H18.out.frm hf (by simp)) HCOK.out (FW8.out.trans hf (by simp))
            rw [HWK.out] at h
            exact h)
          have i14 : (C.length : Int) ≤ 65536 := by have := HCL.out; omega
          clear hcmp hi8 he8 hb8 h18 hf8 hs8 hi8' hb8' hR8 q4 hnn hc4 hm4 HR7 HI7 FW7
          go_wp2_with fail
          go_region_held3 (fun w' => w'.cell? ⟨x7, 0, none⟩ = some (.pointer (some ⟨hb1, 0, none⟩)) ∧ w'.cell? ⟨b4, o4, none⟩ = some (.int .i64 x)) (first | exact ⟨p8, q4'⟩ | exact ⟨v9, u9⟩ | exact ⟨v10, u10⟩ | exact ⟨v11, u11⟩) (first | (go_at_call 22; refine (WK.out _ (by first | exact Frm.refl [] w8 | exact (Frm.refl [] w8).drew | exact (Frm.refl [] w8).drewN _)).mono ?_; rintro e9 w9 ⟨⟨a9, c9, rfl, hi9, hb9⟩, hf9⟩; have fr9 : Frm [] w8 w9 := Frm.trans (by first | exact Frm.refl [] w8 | exact (Frm.refl [] w8).drew | exact (Frm.refl [] w8).drewN _) hf9 (by simp); have v9 := (HR8.out.frm fr9 (by simp)).cell (i := 0) rfl; have u9 := fr9.cell q4' (by simp)) | (go_at_call 16; refine (equal_same _ _ (walkM cs (k : Int) pt) _ (hi9.frm (by first | exact Frm.refl [] w9 | exact (Frm.refl [] w9).drew | exact (Frm.refl [] w9).drewN _) (by simp)) ((HI8.out.frm fr9 (by simp)).frm (by first | exact Frm.refl [] w9 | exact (Frm.refl [] w9).drew | exact (Frm.refl [] w9).drewN _) (by simp))).mono ?_; rintro e10 w10 ⟨rfl, hf10⟩; have fr10 : Frm [] w8 w10 := (fr9.trans (by first | exact Frm.refl [] w9 | exact (Frm.refl [] w9).drew | exact (Frm.refl [] w9).drewN _) (by simp)).trans hf10 (by simp); have v10 := (HR8.out.frm fr10 (by simp)).cell (i := 0) rfl; have u10 := fr10.cell q4' (by simp)) | (go_at_call 24; refine (RCH.out _ (fr10.trans (by first | exact Frm.refl [] w10 | exact (Frm.refl [] w10).drew | exact (Frm.refl [] w10).drewN _) (by simp))).mono ?_; rintro e11 w11 ⟨⟨a11, c11, rfl⟩, hf11⟩; have fr11 : Frm [] w8 w11 := (fr10.trans (by first | exact Frm.refl [] w10 | exact (Frm.refl [] w10).drew | exact (Frm.refl [] w10).drewN _) (by simp)).trans hf11 (by simp); have v11 := (HR8.out.frm fr11 (by simp)).cell (i := 0) rfl; have u11 := fr11.cell q4' (by simp)) | (go_at_call 21; refine (size_m (H18.out.frm (fr11.trans (by first | exact Frm.refl [] w11 | exact (Frm.refl [] w11).drew | exact (Frm.refl [] w11).drewN _) (by simp)) (by simp))).mono ?_; rintro e12 w12 ⟨rfl, rfl⟩))
          all_goals
            have FR : Hid (Frm [] w8 w11) := Lib.hid fr11
            clear fr9 fr10 fr11 v9 u9 v10 u10 u11 hf9 hf10 hf11 hi9 hb9 p8 q4'
            go_wp2_with fail
            refine (size_m (H18.out.frm (FR.out.trans (by first | exact Frm.refl [] w11 | exact (Frm.refl [] w11).drew | exact (Frm.refl [] w11).drewN _) (by simp)) (by simp))).mono ?_
            rintro e13 w13 ⟨rfl, rfl⟩
            go_wp2_with fail
            refine (CMP2.out _ (FR.out.trans (by first | exact Frm.refl [] w11 | exact (Frm.refl [] w11).drew | exact (Frm.refl [] w11).drewN _) (by simp))).mono ?_
            rintro e14 w14 ⟨fp14, a14, c14, he14, hi14, hb14, h114, hf14, hs14⟩
            have he14' : e14 = .returned (.slice a14 1 c14) := he14
            have hi14' : IntsAt w14 (.slice a14 1 c14) [x] := hi14
            subst he14'
            have fd : Frm [] w8 w11 := FR.out
            have z14 := (HR8.out.frm fd (by simp)).frm hf14 HX8.out
            have v14 := z14.cell (i := 0) rfl
            have heq := equal_same (.slice a14 1 c14) (.slice (some ⟨b4, o4, none⟩) 1 c8) [x] w14 hi14' ((HRR.out.frm fd (by simp)).frm hf14 (fun j hj => (HBB.out j hj).2))
            have FW14 := Lib.hid ((FW8.out.trans fd (by simp)).trans hf14 (fun y hy => .inr (HS8.out y hy)))
            have HZ14 := Lib.hid z14
            have H14 := Lib.hid h114
            clear he14 hi14 hb14 h114 hf14 hs14 hi14' fd z14 v11
            go_wp2_with fail
            refine heq.mono ?_
            rintro e15 w15 ⟨rfl, hf15⟩
            have v15 := (HZ14.out.frm hf15 (by simp)).cell (i := 0) rfl
            have hz15 := size_m (H14.out.frm hf15 (by simp))
            rw [HC2L.out] at hz15
            have FW15 := Lib.hid (FW14.out.trans hf15 (by simp))
            clear heq hf15 v14
            go_wp2_with fail
            refine hz15.mono ?_
            rintro e16 w16 ⟨rfl, rfl⟩
            go_wp2_with fail
            go_ret
            exact ⟨rfl, FW15.out⟩

end Go.Proofs.Ytlpgonnionbkfaa
