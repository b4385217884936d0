/- HeapAgrees of the law answers true. -/
import Derived.Test.YtlpgonnionbkfaaHZ
import Derived.Test.YtlpgonnionbkfaaX1
import Derived.Test.YtlpgonnionbkfaaJ5
namespace Go.Proofs.Ytlpgonnionbkfaa
open Go.RowKit

theorem Two.frame {A : List Nat} {w0 w : World} {hb1 hb2 : Nat} {most : Int} {cs1 cs2 : List HC} (h : Two A w0 w hb1 hb2 most cs1 cs2) : Frm A w0 w := by
  obtain ⟨_, _, _, h⟩ := h
  exact h
theorem TV.rebase {w : World} {A : List Nat} {B hb1 hb2 : Nat} {fp1 fp2 : List Nat} {most : Int} {cs1 cs2 : List HC} (h : TV w A B hb1 fp1 cs1 hb2 fp2 cs2 most) (B' : Nat) : TV w (fp1 ++ fp2) B' hb1 fp1 cs1 hb2 fp2 cs2 most :=
  ⟨h.h1, h.h2, h.o1, h.o2, h.ap, fun _x hx => .inl (List.mem_append_left _ hx), fun _x hx => .inl (List.mem_append_right _ hx), h.l1, h.l2, h.m⟩

set_option linter.unusedSimpArgs false in
set_option maxRecDepth 100000 in
set_option maxHeartbeats 4000000 in
theorem agrees_walk (most : Int) (a : Option Addr) (len cap : Nat) (_hlen : (len : Int) ≤ 9223372036854775807) (_hlc : (len : Int) ≤ (cap : Int)) (w : World) (ho : OpsAt w a len) :
    Calls Try.prog 6 #[.int .i64 most, .slice a len cap] w fun e w' => e = .returned (.bool true) ∧ Frm [] w w' := by
  have HOPS := Lib.hid ho
  have hpair : Calls Try.prog 17 #[.int .i64 most] w fun e w' => ∃ (p q : Option Addr), e = .returned (.tuple #[.agg #[.pointer p, .pointer q], .bool true]) ∧ Frm [] w w' ∧ (p = none → most < 1 ∨ 65536 < most) := by
    by_cases hm : 1 ≤ most ∧ most ≤ 65536
    · refine (pair_ok most w hm.1 hm.2).mono ?_
      rintro e w' ⟨hb1, hb2, rfl, hT⟩
      exact ⟨_, _, rfl, hT.frame, fun h => by cases h⟩
    · refine (pair_bad most w (by omega)).mono ?_
      rintro e w' ⟨rfl, hf⟩
      exact ⟨_, _, rfl, hf, fun _ => by omega⟩
  clear ho
  go_enter Try.func6, Try.ntmps6
  go_wp2_with fail
  refine hpair.mono ?_
  rintro e1 w1 ⟨p, q, rfl, hf1, hpn⟩
  have f2 := hf1.alloc (.cells #[.pointer p, .pointer q] 46)
  have r2 := RowAt.made w1 46 [.pointer p, .pointer q] #[.pointer p, .pointer q] rfl
  have F2 := Lib.hid f2
  have R2 := Lib.hid r2
  have HPN := Lib.hid hpn
  clear hpair hf1 hpn f2 r2
  go_wp2_with fail
  refine (awake_any _).mono ?_
  rintro e3 w3 ⟨rfl, hf3⟩
  have r3 := R2.out.frm hf3 (by simp)
  have p0 := r3.cell (i := 0) rfl
  have F3 := Lib.hid (F2.out.trans hf3 (by simp))
  obtain ⟨x5, hx5⟩ : ∃ x, x = w1.heap.size := ⟨_, rfl⟩
  rw [← hx5] at p0 ⊢
  clear hf3 F2 R2 r3 hx5
  have hcases : (p = none ∧ most < 1) ∨ (p = none ∧ 65536 < most) ∨ (∃ pp, p = some pp) := by
    cases p with
    | none =>
      rcases HPN.out rfl with h | h
      · exact .inl ⟨rfl, h⟩
      · exact .inr (.inl ⟨rfl, h⟩)
    | some pp => exact .inr (.inr ⟨pp, rfl⟩)
  clear HPN
  rcases hcases with ⟨rfl, hbad⟩ | ⟨rfl, hbad⟩ | ⟨pp, rfl⟩
  all_goals
    go_wp2_with fail
    refine (mod_any most 20 _ (by decide) (by decide)).mono ?_
    rintro e5 w5 ⟨m, rfl, hm, rfl⟩
    obtain ⟨mm, hmm⟩ : ∃ mm : Nat, mm = 1 + m := ⟨_, rfl⟩
    have iw : IntKind.i64.wrap (1 + (m : Int)) = (mm : Int) := by rw [IntWalk.i64_in _ (by omega)]; omega
    have iw2 : RowKit.wrap64 (1 + (m : Int)) = (mm : Int) := by rw [← IntWalk.i64_left]; exact iw
    have im : (m : Int) < 20 := by omega
    have HMM : Hid (1 ≤ (mm : Int) ∧ (mm : Int) ≤ 20) := Lib.hid (by omega)
    clear hm hmm
    go_wp2_with fail
    refine (pair_ok mm _ (by have := HMM.out; omega) (by have := HMM.out; omega)).mono ?_
    rintro e6 w6 ⟨hb1, hb2, rfl, fp1, fp2, hT6, hf6⟩
    have f7 : Frm [] w6 (w6.alloc (.cells #[.pointer (some ⟨hb1, 0, none⟩), .pointer (some ⟨hb2, 0, none⟩)] 46)) := (Frm.refl [] _).alloc _
    have hTr := (hT6.frm f7 (by simp) (by simp)).rebase (w6.alloc (.cells #[.pointer (some ⟨hb1, 0, none⟩), .pointer (some ⟨hb2, 0, none⟩)] 46)).heap.size
    have r7 := RowAt.made w6 46 [.pointer (some ⟨hb1, 0, none⟩), .pointer (some ⟨hb2, 0, none⟩)] #[.pointer (some ⟨hb1, 0, none⟩), .pointer (some ⟨hb2, 0, none⟩)] rfl
    have NX : Hid (w6.heap.size ∉ fp1 ++ fp2) := Lib.hid (fun hmem => by
      rcases List.mem_append.1 hmem with h9 | h9
      · have := hT6.h1.lt _ h9; omega
      · have := hT6.h2.lt _ h9; omega)
    have NA : Hid (∀ x ∈ fp1 ++ fp2, w.heap.size ≤ x) := Lib.hid (fun x hx => by
      have hs := F3.out.size
      rcases List.mem_append.1 hx with h9 | h9
      · rcases hT6.b1 x h9 with h8 | h8
        · cases h8
        · omega
      · rcases hT6.b2 x h9 with h8 | h8
        · cases h8
        · omega)
    have F7 : Hid (Frm [] w (w6.alloc (.cells #[.pointer (some ⟨hb1, 0, none⟩), .pointer (some ⟨hb2, 0, none⟩)] 46))) := Lib.hid ((F3.out.trans hf6 (by simp)).trans f7 (by simp))
    have q0 := r7.cell (i := 0) rfl
    have R7 := Lib.hid r7
    have HTR := Lib.hid hTr
    clear hT6 hf6 f7 hTr r7 iw iw2 im F3 p0
    try clear hbad
    go_wp2_with fail
    clear q0
    generalize w6.alloc (.cells #[.pointer (some ⟨hb1, 0, none⟩), .pointer (some ⟨hb2, 0, none⟩)] 46) = W7 at *
    obtain ⟨x7, hx7⟩ : ∃ x, x = w6.heap.size := ⟨_, rfl⟩
    rw [← hx7] at R7 NX ⊢
    clear hx7
    have HT7 : Hid (Two (fp1 ++ fp2) W7 W7 hb1 hb2 mm [] []) := Lib.hid ⟨fp1, fp2, HTR.out, Frm.refl _ _⟩
    clear HTR
    go_loopg [9] 80 (fun q s9 wr => ∃ (i : Nat) (cs : List HC), q = 80 - i ∧ i ≤ 80 ∧ s9 = .int .i64 (i : Int) ∧ Two (fp1 ++ fp2) W7 wr hb1 hb2 mm cs cs)
    case atStart => exact ⟨0, [], rfl, by omega, rfl, HT7.out⟩
    case round =>
      clear HT7
      obtain ⟨i, cs, rfl, hi, rfl, hT⟩ := hrel
      have HT := Lib.hid hT
      have hfr := hT.frame
      have hR := R7.out.frm hfr NX.out
      have hFw : Frm [] w wr := F7.out.trans hfr (fun x hx => .inr (NA.out x hx))
      have HFW := Lib.hid hFw
      have q0 := hR.cell (i := 0) rfl
      have q1 := hR.cell (i := 1) rfl
      have i4 : (0 : Int) ≤ (i : Int) := by omega
      have HR := Lib.hid hR
      have hOP := HOPS.out.frm hFw
      clear hT hfr hR hFw
      by_cases hil : i < len
      · by_cases hi8 : i < 80
        · obtain ⟨b, o, k, x, y, c, n, raw, rfl, hb, g0, g1, g2, g3, g4, g5⟩ := HOPS.out i hil
          have h0 := HFW.out.cell g0 (by simp)
          have h1 := HFW.out.cell g1 (by simp)
          have h2 := HFW.out.cell g2 (by simp)
          have h3 := HFW.out.cell g3 (by simp)
          have h4 := HFW.out.cell g4 (by simp)
          have h5 := HFW.out.cell g5 (by simp)
          have i5 : (i : Int) < (len : Int) := by omega
          have i6 : (i : Int) < 80 := by omega
          clear hOP hb
          go_wp2_with fail
          go_region_held3 (fun w' => w'.cell? ⟨x7, 0, none⟩ = some (.pointer (some ⟨hb1, 0, none⟩)) ∧ w'.cell? ⟨x7, 1, none⟩ = some (.pointer (some ⟨hb2, 0, none⟩)) ∧ w'.cell? ⟨b, o + i * 6, none⟩ = some (.int .i64 k) ∧ w'.cell? ⟨b, o + i * 6 + 1, none⟩ = some (.int .i64 x) ∧ w'.cell? ⟨b, o + i * 6 + 2, none⟩ = some (.int .i64 y) ∧ w'.cell? ⟨b, o + i * 6 + 3, none⟩ = some (.int .i64 c) ∧ w'.cell? ⟨b, o + i * 6 + 4, none⟩ = some (.int .i64 n) ∧ w'.cell? ⟨b, o + i * 6 + 5, none⟩ = some (.bool raw)) (first | exact ⟨q0, q1, h0, h1, h2, h3, h4, h5⟩ | exact ⟨v0, v1, fr6.cell g0 (by simp), fr6.cell g1 (by simp), fr6.cell g2 (by simp), fr6.cell g3 (by simp), fr6.cell g4 (by simp), fr6.cell g5 (by simp)⟩ | exact ⟨u0, u1, fr7.cell g0 (by simp), fr7.cell g1 (by simp), fr7.cell g2 (by simp), fr7.cell g3 (by simp), fr7.cell g4 (by simp), fr7.cell g5 (by simp)⟩) (first | (go_at_call 19; refine (apply_any (HT.out.frm (by first | exact Frm.refl [] wr | exact (Frm.refl [] wr).drew | exact (Frm.refl [] wr).drewN _)) k x y c n raw).mono ?_; rintro e6 w6 ⟨rfl, cs6, hT6⟩; have fr6 : Frm [] w w6 := F7.out.trans hT6.frame (fun x hx => .inr (NA.out x hx)); have v0 := (R7.out.frm hT6.frame NX.out).cell (i := 0) rfl; have v1 := (R7.out.frm hT6.frame NX.out).cell (i := 1) rfl) | (go_at_call 20; refine (same_all (hT6.frm (by first | exact Frm.refl [] w6 | exact (Frm.refl [] w6).drew | exact (Frm.refl [] w6).drewN _))).mono ?_; rintro e7 w7 ⟨rfl, hT7⟩; have fr7 : Frm [] w w7 := F7.out.trans hT7.frame (fun x hx => .inr (NA.out x hx)); have u0 := (R7.out.frm hT7.frame NX.out).cell (i := 0) rfl; have u1 := (R7.out.frm hT7.frame NX.out).cell (i := 1) rfl))
          all_goals
            have HT7 := Lib.hid hT7
            clear hT6 hT7 fr6 fr7 v0 v1 u0 u1 q0 q1 h0 h1 h2 h3 h4 h5
            go_wp2_with fail
            go_roundg (80 - (i + 1))
            case rel => exact ⟨i + 1, cs6, rfl, by omega, by go_num, HT7.out.frm (by first | exact Frm.refl [] w7 | exact (Frm.refl [] w7).drew | exact (Frm.refl [] w7).drewN _)⟩
            case measure => omega
        · have i6 : ¬ (i : Int) < 80 := by omega
          have i5 : (i : Int) < (len : Int) := by omega
          clear hOP
          go_wp2_with fail
          go_ret
          exact ⟨rfl, HFW.out⟩
      · have i5 : ¬ (i : Int) < (len : Int) := by omega
        clear hOP
        go_wp2_with fail
        go_ret
        exact ⟨rfl, HFW.out⟩

end Go.Proofs.Ytlpgonnionbkfaa
