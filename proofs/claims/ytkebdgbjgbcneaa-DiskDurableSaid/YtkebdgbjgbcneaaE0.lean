/- DiskReplace of the law answers true. -/
import Derived.Test.YtkebdgbjgbcneaaDZ
import Derived.Test.YtkebdgbjgbcneaaD2
namespace Go.Proofs.Ytkebdgbjgbcneaa
open Go.RowKit Go.Maps Go.Shelf

/-- Another call: it writes into blocks of S alone; blocks that are new are beside the disk. -/
theorem Own.call {w0 w w' : World} {S T : List Nat} {d N : Nat} {m : DM} {fq : List Nat} (h : Own w0 S w d N m) (hf : Frm fq w w') (hq : ∀ x ∈ fq, x ∈ S ∧ w0.heap.size ≤ x) (hT : ∀ t ∈ T, w.heap.size ≤ t ∧ t < w'.heap.size) : Own w0 (T ++ S) w' d N m := by
  obtain ⟨⟨fp, hp, hfp⟩, h1, h2, h3⟩ := h
  refine ⟨⟨fp, hp.frm hf (fun k hk hm => (hfp k hk).2 (hq k hm).1), fun x hx => ⟨(hfp x hx).1, fun hm => ?_⟩⟩, h1.trans hf (fun x hx => .inr (hq x hx).2), fun s hs => ?_, h3⟩
  · rcases List.mem_append.1 hm with h9 | h9
    · have := hp.lt x hx
      have := (hT x h9).1
      omega
    · exact (hfp x hx).2 h9
  · rcases List.mem_append.1 hs with h9 | h9
    · exact (hT s h9).2
    · exact Nat.lt_of_lt_of_le (h2 s h9) hf.size

set_option linter.unusedSimpArgs false in
set_option maxRecDepth 100000 in
set_option maxHeartbeats 8000000 in
theorem replace_walk (a0 : Option Addr) (cap0 : Nat) (xs0 : List Int) (s1 : Int) (a2 : Option Addr) (cap2 : Nat) (xs2 : List Int) (w : World) (ht0 : Rd w.heap.size w a0 xs0.length cap0 1 (ints xs0)) (hx0 : ∀ x ∈ xs0, -9223372036854775808 ≤ x ∧ x ≤ 9223372036854775807) (ht2 : Rd w.heap.size w a2 xs2.length cap2 1 (ints xs2)) (hs1 : -9223372036854775808 ≤ s1 ∧ s1 ≤ 9223372036854775807) :
    Calls Try.prog 4 #[.slice a0 xs0.length cap0, .int .i64 s1, .slice a2 xs2.length cap2] w fun e w' => e = .returned (.bool true) ∧ Frm [] w w' := by
  have hcv := fun w => Go.Lib.run_convert_bytes_const (P := Try.prog) w 27 5 #[.int .u8 110, .int .u8 101, .int .u8 119, .int .u8 32] 4 4 Try.underlying27 Try.underlying5
  have hl2 := ht2.lt
  have HT2 := Lib.hid ht2
  have HS1 := Lib.hid hs1
  have htn := tape_new w.heap.size a0 cap0 xs0 w ht0 hx0
  clear ht0 hx0 ht2 hs1
  obtain ⟨n2, hn2⟩ : ∃ n2, n2 = xs2.length := ⟨_, rfl⟩
  have HN2 := Lib.hid hn2
  rw [← hn2] at hl2 ⊢
  clear hn2
  go_enter Try.func4, Try.ntmps4
  go_wp2_with fail
  refine htn.mono ?_
  rintro e1 w1 ⟨rfl, hf1, hT1, hsz1⟩
  obtain ⟨tb, htb⟩ : ∃ tb, tb = w.heap.size := ⟨_, rfl⟩
  have HTB := Lib.hid htb
  rw [← htb] at hT1 hsz1 ⊢
  have HT1 := Lib.hid hT1
  have HF1 := Lib.hid hf1
  clear htn hT1 hf1 htb
  go_wp2_with fail
  refine (own_new (w0 := w) (S := [tb]) 1000 (by decide) (fun s hs => by rw [List.mem_singleton] at hs; omega) HF1.out).mono ?_
  rintro e2 w2 ⟨d, rfl, ho2, hk2, -⟩
  have HO2 := Lib.hid ho2
  have HTP2 : Hid (TapeOk tb w2 tb 0) := Lib.hid (HT1.out.keep (w0 := w) hk2 (by simp) (by rw [HTB.out]; exact Nat.le_refl _) HF1.out ho2.frm)
  clear ho2 hk2 HT1 HF1 hsz1
  go_wp2_with fail
  refine (data_any HTP2.out (Nat.le_refl _) (by decide)).mono ?_
  rintro e3 w3 ⟨⟨x, px, cx, rfl, hbx, hx1, hx9⟩, hT3, hf3, hs3⟩
  obtain ⟨gx, hgx⟩ : ∃ g, g = w2.heap.size := ⟨_, rfl⟩
  rw [← hgx] at hbx hs3 ⊢
  have HO3 : Hid (Own w [gx, tb] w3 d 0 (emptyM 1000)) := Lib.hid (HO2.out.call (T := [gx]) hf3 (fun y hy => by rw [List.mem_singleton] at hy; rw [hy]; exact ⟨by simp, by rw [HTB.out]; exact Nat.le_refl _⟩) (fun t ht => by rw [List.mem_singleton] at ht; omega))
  have HTP3 := Lib.hid hT3
  have HBX3 := Lib.hid hbx
  have HX := Lib.hid (And.intro hx1 hx9)
  have htx : tb ≠ gx := by have := HTP2.out.lt; omega
  have HTX := Lib.hid htx
  clear hbx hT3 hf3 hs3 hgx HO2 HTP2 hx1 hx9 htx
  go_wp2_with fail
  have fm : Frm [] w3 (w3.alloc (.cells #[.int .u8 110, .int .u8 101, .int .u8 119, .int .u8 32] 5 (4, 5))) := (Frm.refl [] w3).alloc _
  have hbn := bytes_marked w3 [110, 101, 119, 32] (by decide) (4, 5)
  have HBN : Hid (BytesV (w3.alloc (.cells #[.int .u8 110, .int .u8 101, .int .u8 119, .int .u8 32] 5 (4, 5))) (.slice (some ⟨w3.heap.size, 0, none⟩) 4 4) [110, 101, 119, 32]) := Lib.hid hbn
  have HO4 := Lib.hid (HO3.out.nil fm)
  have HTP4 := Lib.hid (HTP3.out.nil fm)
  have HBX4 := Lib.hid (HBX3.out.frm fm (by simp))
  have htw : tb ≠ w3.heap.size := by have := HTP3.out.lt; omega
  have HTW := Lib.hid htw
  clear fm hbn HO3 HTP3 HBX3 htw
  obtain ⟨gn, hgn⟩ : ∃ g, g = w3.heap.size := ⟨_, rfl⟩
  rw [← hgn] at HBN HTW ⊢
  clear hgn
  generalize w3.alloc (.cells #[.int .u8 110, .int .u8 101, .int .u8 119, .int .u8 32] 5 (4, 5)) = w4 at *
  refine (data_any HTP4.out (Nat.le_refl _) (by decide)).mono ?_
  rintro e5 w5 ⟨⟨z, pz, cz, rfl, hbz, hz1, hz9⟩, hT5, hf5, hs5⟩
  have HO5 : Hid (Own w [gx, tb] w5 d 0 (emptyM 1000)) := Lib.hid (HO4.out.call (T := []) hf5 (fun y hy => by rw [List.mem_singleton] at hy; rw [hy]; exact ⟨by simp, by rw [HTB.out]; exact Nat.le_refl _⟩) (by simp))
  have HBX5 := Lib.hid (HBX4.out.frm hf5 (fun k hk hm => by
    simp only [Value.ownBlock, Option.some.injEq] at hk
    rw [List.mem_singleton] at hm
    exact HTX.out (hm.symm.trans hk.symm)))
  have HBN5 := Lib.hid (HBN.out.frm hf5 (fun k hk hm => by
    simp only [Value.ownBlock, Option.some.injEq] at hk
    rw [List.mem_singleton] at hm
    exact HTW.out (hm.symm.trans hk.symm)))
  have HBZ := Lib.hid hbz
  have HZ := Lib.hid (And.intro hz1 hz9)
  have hbncell : Hid (∀ (i : Nat) (u : UInt8), ([110, 101, 119, 32] : List UInt8)[i]? = some u → w5.cell? ⟨gn, i, none⟩ = some (.int .u8 (u.toNat : Int))) := Lib.hid (fun i u hu => by
    rcases HBN5.out with ⟨h9, _⟩ | ⟨b9, o9, c9, e9, _, _, _, h9⟩
    · cases h9
    · simp only [Value.slice.injEq, Option.some.injEq, Addr.mk.injEq, and_true] at e9
      obtain ⟨⟨rfl, rfl⟩, _, _⟩ := e9
      have := h9 i u hu
      rwa [Nat.zero_add] at this)
  clear hbz hT5 hf5 hs5 HO4 HTP4 HBX4 HBN HBN5 hz1 hz9
  obtain ⟨ny, hny⟩ : ∃ ny, ny = 4 + z.length := ⟨_, rfl⟩
  have HNY := Lib.hid hny
  clear hny
  go_wp2_with (first | (at_builtin; refine app_grow rfl _ _ rfl gn 4 ny [110, 101, 119, 32] rfl rfl hbncell.out _ z rfl HBZ.out (by have := HZ.out; omega) HNY.out.symm (by have := HZ.out; have := HNY.out; omega) ?_; intro cy w6 hown6 hf6) | fail)
  obtain ⟨y, hy⟩ : ∃ y : List UInt8, y = [110, 101, 119, 32] ++ z := ⟨_, rfl⟩
  have hyl : y.length = ny := by rw [hy, HNY.out, List.length_append]; rfl
  rw [← hy] at hown6
  obtain ⟨gy, hgy⟩ : ∃ g, g = w5.heap.size := ⟨_, rfl⟩
  rw [← hgy] at hown6 ⊢
  have hlt6 := (hown6.lt gy rfl).2
  rw [← hyl] at hown6
  have hby6 := bytesV_of_owns hown6
  rw [hyl] at hby6
  have HBY6 := Lib.hid hby6
  have HO6 : Hid (Own w [gy, gx, tb] w6 d 0 (emptyM 1000)) := Lib.hid (HO5.out.call (T := [gy]) hf6 (by simp) (fun t ht => by rw [List.mem_singleton] at ht; omega))
  have HBX6 := Lib.hid (HBX5.out.frm hf6 (by simp))
  have HYL := Lib.hid hyl
  have HY : Hid (y.length ≤ 20) := Lib.hid (by have := HZ.out; have := HNY.out; omega)
  clear hown6 hf6 hlt6 hgy hyl hy hby6 HO5 HBX5 HBZ hbncell
  go_wp2_with fail
  -- APPEND
  refine (own_append HO6.out (by decide) (s := nB) (by decide) HBX6.out (fun k hk => by simp [Value.ownBlock] at hk; simp [hk])).mono ?_
  rintro e7 w7 ⟨he7, ho7, hk7, hs7⟩
  rw [rp_append (by have := HX.out; omega)] at he7 ho7
  have he7' : e7 = .returned (.int .i64 0) := he7
  subst he7'
  have HO7 := Lib.hid ho7
  have HBX7 := Lib.hid (HBX6.out.keep hk7 hs7 (fun k hk => by simp [Value.ownBlock] at hk; simp [hk]))
  have HBY7 := Lib.hid (HBY6.out.keep hk7 hs7 (fun k hk => by simp [Value.ownBlock] at hk; simp [hk]))
  clear ho7 hk7 hs7 he7 HO6 HBX6 HBY6
  go_wp2_with fail
  refine (own_sync HO7.out (s := nB) (by decide)).mono ?_
  rintro e8 w8 ⟨he8, ho8, hk8, hs8⟩
  simp only [rp_sync] at he8 ho8
  subst he8
  have HO8 := Lib.hid ho8
  have HBX8 := Lib.hid (HBX7.out.keep hk8 hs8 (fun k hk => by simp [Value.ownBlock] at hk; simp [hk]))
  have HBY8 := Lib.hid (HBY7.out.keep hk8 hs8 (fun k hk => by simp [Value.ownBlock] at hk; simp [hk]))
  clear ho8 hk8 hs8 HO7 HBX7 HBY7
  by_cases h100 : (100 : Int) < (n2 : Int)
  · go_wp2_with fail
    go_ret
    exact ⟨rfl, HO8.out.frm⟩
  · go_wp2_with fail
    have fr9 : Frm [] w8 (w8.alloc (.cells #[.int .i64 s1] 3)) := (Frm.refl [] w8).alloc _
    have hrd9 : Rd (w8.alloc (.cells #[.int .i64 s1] 3)).heap.size (w8.alloc (.cells #[.int .i64 s1] 3)) (some ⟨w8.heap.size, 0, none⟩) [s1].length 1 1 (ints [s1]) := ⟨rfl, Nat.le_refl _, by unfold maxLen; decide, fun i u hu => by
      cases i with
      | zero =>
        simp only [ints, List.map_cons, List.getElem?_cons_zero, Option.some.injEq] at hu
        subst hu
        exact ⟨w8.heap.size, 0, rfl, by simp, (RowAt.made w8 3 [.int .i64 s1] #[.int .i64 s1] rfl).cell (i := 0) rfl⟩
      | succ i => simp [ints] at hu⟩
    have htn9 := tape_new _ _ 1 [s1] _ hrd9 (fun q hq => by rw [List.mem_singleton] at hq; rw [hq]; exact HS1.out)
    have HO9 := Lib.hid (HO8.out.nil fr9)
    have HBX9 := Lib.hid (HBX8.out.frm fr9 (by simp))
    have HBY9 := Lib.hid (HBY8.out.frm fr9 (by simp))
    clear fr9 hrd9 HO8 HBX8 HBY8
    generalize w8.alloc (.cells #[.int .i64 s1] 3) = w9 at *
    refine htn9.mono ?_
    rintro e10 w10 ⟨rfl, hf10, hT10, hs10⟩
    have hlo := HO9.out.low
    have hw09 := HO9.out.frm.size
    have HO10 : Hid (Own w [w9.heap.size, gy, gx, tb] w10 d 1 (rp0 x 0)) := Lib.hid (HO9.out.call (T := [w9.heap.size]) hf10 (by simp) (fun t ht => by rw [List.mem_singleton] at ht; omega))
    have HBX10 := Lib.hid (HBX9.out.frm hf10 (by simp))
    have HBY10 := Lib.hid (HBY9.out.frm hf10 (by simp))
    have HT10 := Lib.hid hT10
    have hgx9 : gx < w9.heap.size := hlo gx (by simp)
    have hgy9 : gy < w9.heap.size := hlo gy (by simp)
    clear htn9 hf10 hT10 hs10 hlo HO9 HBX9 HBY9
    go_wp2_with fail
    refine (next_any w9.heap.size w9.heap.size 0 5 w10 HT10.out (Nat.le_refl _) (by decide) (by decide)).mono ?_
    rintro e11 w11 ⟨⟨v, rfl, hv, -⟩, -, hf11⟩
    have hv' := hv (by decide)
    obtain ⟨v, rfl⟩ : ∃ q : Nat, v = (q : Int) := ⟨v.toNat, by omega⟩
    have hv5 : v < 5 := by omega
    have HO11 : Hid (Own w [w9.heap.size, gy, gx, tb] w11 d 1 (rp0 x 0)) := Lib.hid (HO10.out.call (T := []) hf11 (fun q hq => by rw [List.mem_singleton] at hq; rw [hq]; exact ⟨by simp, hw09⟩) (by simp))
    have HBX11 := Lib.hid (HBX10.out.frm hf11 (fun k hk hm => by
      simp only [Value.ownBlock, Option.some.injEq] at hk
      rw [List.mem_singleton] at hm
      omega))
    have HBY11 := Lib.hid (HBY10.out.frm hf11 (fun k hk hm => by
      simp only [Value.ownBlock, Option.some.injEq] at hk
      rw [List.mem_singleton] at hm
      omega))
    have iw : IntKind.i64.wrap (1 + (v : Int)) = 1 + (v : Int) := IntWalk.i64_in _ (by omega)
    have iw2 : RowKit.wrap64 (1 + (v : Int)) = 1 + (v : Int) := by rw [← IntWalk.i64_left]; exact iw
    have hf1 : 1 + (v : Int) ≤ 9223372036854775807 := by omega
    have HFV := Lib.hid hf1
    clear hv hv' hf11 hf1 HO10 HBX10 HBY10 HT10 hgx9 hgy9 hw09
    go_wp2_with fail
    refine (own_fail HO11.out (1 + (v : Int)) HFV.out).mono ?_
    rintro e12 w12 ⟨rfl, ho12, hk12, hs12⟩
    rw [rp_fail] at ho12
    have HO12 := Lib.hid ho12
    have HBX12 := Lib.hid (HBX11.out.keep hk12 hs12 (fun k hk => by simp [Value.ownBlock] at hk; simp [hk]))
    have HBY12 := Lib.hid (HBY11.out.keep hk12 hs12 (fun k hk => by simp [Value.ownBlock] at hk; simp [hk]))
    clear ho12 hk12 hs12 HO11 HBX11 HBY11 iw iw2
    have hxl : x.length ≤ 20 := by have := HX.out; omega
    have HA2 := Lib.hid (rp_append2 (x := x) (y := y) hxl HY.out)
    clear hxl
    have hcases : v = 0 ∨ v = 1 ∨ v = 2 ∨ v = 3 ∨ v = 4 := by omega
    clear hv5
    rcases hcases with rfl | rfl | rfl | rfl | rfl
    · go_wp2_with fail
      refine (own_append HO12.out (by decide) (s := nA) (by decide) HBY12.out (fun k hk => by simp [Value.ownBlock] at hk; simp [hk])).mono ?_
      rintro e13 wc ⟨he13, ho13, hk13, hs13⟩
      rw [HA2.out] at he13 ho13
      have he13' : e13 = .returned (.int .i64 25) := he13
      subst he13'
      have HOC : Hid (Own w [w9.heap.size, gy, gx, tb] wc d 2 (rp1 x y 0 true)) := Lib.hid (ho13)
      have HBXC := Lib.hid (HBX12.out.keep hk13 hs13 (fun k hk => by simp [Value.ownBlock] at hk; simp [hk]))
      have HBYC := Lib.hid (HBY12.out.keep hk13 hs13 (fun k hk => by simp [Value.ownBlock] at hk; simp [hk]))
      clear ho13 hk13 hs13 he13 HA2 HO12 HBX12 HBY12
      go_wp2_with fail
      have HDE : Hid (readM (crashM (rp1 x y 0 true) xs2) nB = (x, 0) ∨ readM (crashM (rp1 x y 0 true) xs2) nB = (y, 0)) := Lib.hid (.inl (rp_crash1 (cutB true y) 0 0 true 3 xs2))
      have hiv : IntsV w [w9.heap.size, gy, gx, tb] wc a2 n2 cap2 xs2 := ⟨HN2.out.symm, by have := HT2.out.le; rw [← HN2.out] at this; exact this, HT2.out.max, fun i u hu => by
        obtain ⟨b, o, e, hb, hc⟩ := HT2.out.at hu
        exact ⟨b, o, e, .inr hb, HOC.out.frm.cell hc (by simp)⟩⟩
      refine (own_crash HOC.out (by decide) (keep := xs2) hiv).mono ?_
      rintro e20 w20 ⟨rfl, ho20, hk20, hs20⟩
      have HO20 := Lib.hid ho20
      have HBX20 := Lib.hid (HBXC.out.keep hk20 hs20 (fun k hk => by simp [Value.ownBlock] at hk; simp [hk]))
      have HBY20 := Lib.hid (HBYC.out.keep hk20 hs20 (fun k hk => by simp [Value.ownBlock] at hk; simp [hk]))
      clear ho20 hk20 hs20 hiv HOC HBXC HBYC
      go_wp2_with fail
      refine (own_read HO20.out (s := nB) (by decide)).mono ?_
      rintro e21 w21 ⟨hr21, hf21⟩
      have hF21 := HO20.out.frm.trans hf21 (by simp)
      have HF21 := Lib.hid hF21
      have hcx := conv_bytes (HBX20.out.frm hf21 (by simp))
      have hcy := conv_bytes (HBY20.out.frm hf21 (by simp))
      clear hF21 hf21
      rcases HDE.out with hd | hd
      · rw [hd] at hr21
        obtain ⟨a21, c21, rfl, hown21⟩ := hr21
        have hcz := conv_bytes (bytesV_of_owns hown21)
        clear hown21 hd HDE HO20 HBX20 HBY20
        go_wp2_with (first | (go_at_call 13; refine (sane_any _).mono ?_; rintro e22 w22 ⟨rfl, hf22⟩) | fail)
        go_ret
        exact ⟨rfl, HF21.out.trans hf22 (by simp)⟩
      · rw [hd] at hr21
        obtain ⟨a21, c21, rfl, hown21⟩ := hr21
        have hcz := conv_bytes (bytesV_of_owns hown21)
        clear hown21 hd HDE HO20 HBX20 HBY20
        by_cases hxy : y = x
        · subst hxy
          go_wp2_with (first | (go_at_call 13; refine (sane_any _).mono ?_; rintro e22 w22 ⟨rfl, hf22⟩) | fail)
          go_ret
          exact ⟨rfl, HF21.out.trans hf22 (by simp)⟩
        · have hne : ((⟨y.toArray⟩ : ByteArray).toList == (⟨x.toArray⟩ : ByteArray).toList) = false := by rw [toList_nm, toList_nm]; exact beq_eq_false_iff_ne.2 hxy
          go_wp2_with (first | (go_at_call 13; refine (sane_any _).mono ?_; rintro e22 w22 ⟨rfl, hf22⟩) | fail)
          all_goals
            first
              | exact absurd (by assumption) hxy
              | (go_ret
                 exact ⟨rfl, HF21.out.trans hf22 (by simp)⟩)
    · go_wp2_with fail
      refine (own_append HO12.out (by decide) (s := nA) (by decide) HBY12.out (fun k hk => by simp [Value.ownBlock] at hk; simp [hk])).mono ?_
      rintro e13 w13 ⟨he13, ho13, hk13, hs13⟩
      rw [HA2.out] at he13 ho13
      have he13' : e13 = .returned (.int .i64 0) := he13
      subst he13'
      have HO13 : Hid (Own w [w9.heap.size, gy, gx, tb] w13 d 2 (rp1 x y 1 false)) := Lib.hid (ho13)
      have HBX13 := Lib.hid (HBX12.out.keep hk13 hs13 (fun k hk => by simp [Value.ownBlock] at hk; simp [hk]))
      have HBY13 := Lib.hid (HBY12.out.keep hk13 hs13 (fun k hk => by simp [Value.ownBlock] at hk; simp [hk]))
      clear ho13 hk13 hs13 he13 HA2 HO12 HBX12 HBY12
      go_wp2_with fail
      refine (own_sync HO13.out (s := nA) (by decide)).mono ?_
      rintro e14 wc ⟨he14, ho14, hk14, hs14⟩
      rw [rp_sync2] at he14 ho14
      have he14' : e14 = .returned (.int .i64 25) := he14
      subst he14'
      have HOC : Hid (Own w [w9.heap.size, gy, gx, tb] wc d 2 { rp1 x y 0 true with files := [⟨x, x.length⟩, ⟨y, 0⟩], count := 4 }) := Lib.hid ho14
      have HBXC := Lib.hid (HBX13.out.keep hk14 hs14 (fun k hk => by simp [Value.ownBlock] at hk; simp [hk]))
      have HBYC := Lib.hid (HBY13.out.keep hk14 hs14 (fun k hk => by simp [Value.ownBlock] at hk; simp [hk]))
      clear ho14 hk14 hs14 he14 HO13 HBX13 HBY13
      go_wp2_with fail
      have HDE : Hid (readM (crashM ({ rp1 x y 0 true with files := [⟨x, x.length⟩, ⟨y, 0⟩], count := 4 }) xs2) nB = (x, 0) ∨ readM (crashM ({ rp1 x y 0 true with files := [⟨x, x.length⟩, ⟨y, 0⟩], count := 4 }) xs2) nB = (y, 0)) := Lib.hid (.inl (rp_crash1 y 0 0 true 4 xs2))
      have hiv : IntsV w [w9.heap.size, gy, gx, tb] wc a2 n2 cap2 xs2 := ⟨HN2.out.symm, by have := HT2.out.le; rw [← HN2.out] at this; exact this, HT2.out.max, fun i u hu => by
        obtain ⟨b, o, e, hb, hc⟩ := HT2.out.at hu
        exact ⟨b, o, e, .inr hb, HOC.out.frm.cell hc (by simp)⟩⟩
      refine (own_crash HOC.out (by decide) (keep := xs2) hiv).mono ?_
      rintro e20 w20 ⟨rfl, ho20, hk20, hs20⟩
      have HO20 := Lib.hid ho20
      have HBX20 := Lib.hid (HBXC.out.keep hk20 hs20 (fun k hk => by simp [Value.ownBlock] at hk; simp [hk]))
      have HBY20 := Lib.hid (HBYC.out.keep hk20 hs20 (fun k hk => by simp [Value.ownBlock] at hk; simp [hk]))
      clear ho20 hk20 hs20 hiv HOC HBXC HBYC
      go_wp2_with fail
      refine (own_read HO20.out (s := nB) (by decide)).mono ?_
      rintro e21 w21 ⟨hr21, hf21⟩
      have hF21 := HO20.out.frm.trans hf21 (by simp)
      have HF21 := Lib.hid hF21
      have hcx := conv_bytes (HBX20.out.frm hf21 (by simp))
      have hcy := conv_bytes (HBY20.out.frm hf21 (by simp))
      clear hF21 hf21
      rcases HDE.out with hd | hd
      · rw [hd] at hr21
        obtain ⟨a21, c21, rfl, hown21⟩ := hr21
        have hcz := conv_bytes (bytesV_of_owns hown21)
        clear hown21 hd HDE HO20 HBX20 HBY20
        go_wp2_with (first | (go_at_call 13; refine (sane_any _).mono ?_; rintro e22 w22 ⟨rfl, hf22⟩) | fail)
        go_ret
        exact ⟨rfl, HF21.out.trans hf22 (by simp)⟩
      · rw [hd] at hr21
        obtain ⟨a21, c21, rfl, hown21⟩ := hr21
        have hcz := conv_bytes (bytesV_of_owns hown21)
        clear hown21 hd HDE HO20 HBX20 HBY20
        by_cases hxy : y = x
        · subst hxy
          go_wp2_with (first | (go_at_call 13; refine (sane_any _).mono ?_; rintro e22 w22 ⟨rfl, hf22⟩) | fail)
          go_ret
          exact ⟨rfl, HF21.out.trans hf22 (by simp)⟩
        · have hne : ((⟨y.toArray⟩ : ByteArray).toList == (⟨x.toArray⟩ : ByteArray).toList) = false := by rw [toList_nm, toList_nm]; exact beq_eq_false_iff_ne.2 hxy
          go_wp2_with (first | (go_at_call 13; refine (sane_any _).mono ?_; rintro e22 w22 ⟨rfl, hf22⟩) | fail)
          all_goals
            first
              | exact absurd (by assumption) hxy
              | (go_ret
                 exact ⟨rfl, HF21.out.trans hf22 (by simp)⟩)
    · go_wp2_with fail
      refine (own_append HO12.out (by decide) (s := nA) (by decide) HBY12.out (fun k hk => by simp [Value.ownBlock] at hk; simp [hk])).mono ?_
      rintro e13 w13 ⟨he13, ho13, hk13, hs13⟩
      rw [HA2.out] at he13 ho13
      have he13' : e13 = .returned (.int .i64 0) := he13
      subst he13'
      have HO13 : Hid (Own w [w9.heap.size, gy, gx, tb] w13 d 2 (rp1 x y 2 false)) := Lib.hid (ho13)
      have HBX13 := Lib.hid (HBX12.out.keep hk13 hs13 (fun k hk => by simp [Value.ownBlock] at hk; simp [hk]))
      have HBY13 := Lib.hid (HBY12.out.keep hk13 hs13 (fun k hk => by simp [Value.ownBlock] at hk; simp [hk]))
      clear ho13 hk13 hs13 he13 HA2 HO12 HBX12 HBY12
      go_wp2_with fail
      refine (own_sync HO13.out (s := nA) (by decide)).mono ?_
      rintro e14 w14 ⟨he14, ho14, hk14, hs14⟩
      rw [rp_sync2] at he14 ho14
      have he14' : e14 = .returned (.int .i64 0) := he14
      subst he14'
      have HO14 : Hid (Own w [w9.heap.size, gy, gx, tb] w14 d 2 (rp2 x y 1)) := Lib.hid ho14
      have HBX14 := Lib.hid (HBX13.out.keep hk14 hs14 (fun k hk => by simp [Value.ownBlock] at hk; simp [hk]))
      have HBY14 := Lib.hid (HBY13.out.keep hk14 hs14 (fun k hk => by simp [Value.ownBlock] at hk; simp [hk]))
      clear ho14 hk14 hs14 he14 HO13 HBX13 HBY13
      go_wp2_with fail
      refine (own_rename HO14.out (by decide) (s := nA) (t := nB) (by decide) (by decide)).mono ?_
      rintro e15 wc ⟨he15, ho15, hk15, hs15⟩
      rw [rp_rename] at he15 ho15
      have he15' : e15 = .returned (.int .i64 25) := he15
      subst he15'
      have HOC : Hid (Own w [w9.heap.size, gy, gx, tb] wc d 3 { rp2 x y 0 with off := true, count := 5 }) := Lib.hid ho15
      have HBXC := Lib.hid (HBX14.out.keep hk15 hs15 (fun k hk => by simp [Value.ownBlock] at hk; simp [hk]))
      have HBYC := Lib.hid (HBY14.out.keep hk15 hs15 (fun k hk => by simp [Value.ownBlock] at hk; simp [hk]))
      clear ho15 hk15 hs15 he15 HO14 HBX14 HBY14
      go_wp2_with fail
      have HDE : Hid (readM (crashM ({ rp2 x y 0 with off := true, count := 5 }) xs2) nB = (x, 0) ∨ readM (crashM ({ rp2 x y 0 with off := true, count := 5 }) xs2) nB = (y, 0)) := Lib.hid (.inl (rp_crash2 0 true 5 xs2))
      have hiv : IntsV w [w9.heap.size, gy, gx, tb] wc a2 n2 cap2 xs2 := ⟨HN2.out.symm, by have := HT2.out.le; rw [← HN2.out] at this; exact this, HT2.out.max, fun i u hu => by
        obtain ⟨b, o, e, hb, hc⟩ := HT2.out.at hu
        exact ⟨b, o, e, .inr hb, HOC.out.frm.cell hc (by simp)⟩⟩
      refine (own_crash HOC.out (by decide) (keep := xs2) hiv).mono ?_
      rintro e20 w20 ⟨rfl, ho20, hk20, hs20⟩
      have HO20 := Lib.hid ho20
      have HBX20 := Lib.hid (HBXC.out.keep hk20 hs20 (fun k hk => by simp [Value.ownBlock] at hk; simp [hk]))
      have HBY20 := Lib.hid (HBYC.out.keep hk20 hs20 (fun k hk => by simp [Value.ownBlock] at hk; simp [hk]))
      clear ho20 hk20 hs20 hiv HOC HBXC HBYC
      go_wp2_with fail
      refine (own_read HO20.out (s := nB) (by decide)).mono ?_
      rintro e21 w21 ⟨hr21, hf21⟩
      have hF21 := HO20.out.frm.trans hf21 (by simp)
      have HF21 := Lib.hid hF21
      have hcx := conv_bytes (HBX20.out.frm hf21 (by simp))
      have hcy := conv_bytes (HBY20.out.frm hf21 (by simp))
      clear hF21 hf21
      rcases HDE.out with hd | hd
      · rw [hd] at hr21
        obtain ⟨a21, c21, rfl, hown21⟩ := hr21
        have hcz := conv_bytes (bytesV_of_owns hown21)
        clear hown21 hd HDE HO20 HBX20 HBY20
        go_wp2_with (first | (go_at_call 13; refine (sane_any _).mono ?_; rintro e22 w22 ⟨rfl, hf22⟩) | fail)
        go_ret
        exact ⟨rfl, HF21.out.trans hf22 (by simp)⟩
      · rw [hd] at hr21
        obtain ⟨a21, c21, rfl, hown21⟩ := hr21
        have hcz := conv_bytes (bytesV_of_owns hown21)
        clear hown21 hd HDE HO20 HBX20 HBY20
        by_cases hxy : y = x
        · subst hxy
          go_wp2_with (first | (go_at_call 13; refine (sane_any _).mono ?_; rintro e22 w22 ⟨rfl, hf22⟩) | fail)
          go_ret
          exact ⟨rfl, HF21.out.trans hf22 (by simp)⟩
        · have hne : ((⟨y.toArray⟩ : ByteArray).toList == (⟨x.toArray⟩ : ByteArray).toList) = false := by rw [toList_nm, toList_nm]; exact beq_eq_false_iff_ne.2 hxy
          go_wp2_with (first | (go_at_call 13; refine (sane_any _).mono ?_; rintro e22 w22 ⟨rfl, hf22⟩) | fail)
          all_goals
            first
              | exact absurd (by assumption) hxy
              | (go_ret
                 exact ⟨rfl, HF21.out.trans hf22 (by simp)⟩)
    · go_wp2_with fail
      refine (own_append HO12.out (by decide) (s := nA) (by decide) HBY12.out (fun k hk => by simp [Value.ownBlock] at hk; simp [hk])).mono ?_
      rintro e13 w13 ⟨he13, ho13, hk13, hs13⟩
      rw [HA2.out] at he13 ho13
      have he13' : e13 = .returned (.int .i64 0) := he13
      subst he13'
      have HO13 : Hid (Own w [w9.heap.size, gy, gx, tb] w13 d 2 (rp1 x y 3 false)) := Lib.hid (ho13)
      have HBX13 := Lib.hid (HBX12.out.keep hk13 hs13 (fun k hk => by simp [Value.ownBlock] at hk; simp [hk]))
      have HBY13 := Lib.hid (HBY12.out.keep hk13 hs13 (fun k hk => by simp [Value.ownBlock] at hk; simp [hk]))
      clear ho13 hk13 hs13 he13 HA2 HO12 HBX12 HBY12
      go_wp2_with fail
      refine (own_sync HO13.out (s := nA) (by decide)).mono ?_
      rintro e14 w14 ⟨he14, ho14, hk14, hs14⟩
      rw [rp_sync2] at he14 ho14
      have he14' : e14 = .returned (.int .i64 0) := he14
      subst he14'
      have HO14 : Hid (Own w [w9.heap.size, gy, gx, tb] w14 d 2 (rp2 x y 2)) := Lib.hid ho14
      have HBX14 := Lib.hid (HBX13.out.keep hk14 hs14 (fun k hk => by simp [Value.ownBlock] at hk; simp [hk]))
      have HBY14 := Lib.hid (HBY13.out.keep hk14 hs14 (fun k hk => by simp [Value.ownBlock] at hk; simp [hk]))
      clear ho14 hk14 hs14 he14 HO13 HBX13 HBY13
      go_wp2_with fail
      refine (own_rename HO14.out (by decide) (s := nA) (t := nB) (by decide) (by decide)).mono ?_
      rintro e15 w15 ⟨he15, ho15, hk15, hs15⟩
      rw [rp_rename] at he15 ho15
      have he15' : e15 = .returned (.int .i64 0) := he15
      subst he15'
      have HO15 : Hid (Own w [w9.heap.size, gy, gx, tb] w15 d 3 ⟨1000, [⟨x, x.length⟩, ⟨y, y.length⟩], [(nB, 1)], [(nA, 1), (nB, 0)], [⟨2, nA, nB, 1⟩], 1, false, 5⟩) := Lib.hid ho15
      have HBX15 := Lib.hid (HBX14.out.keep hk15 hs15 (fun k hk => by simp [Value.ownBlock] at hk; simp [hk]))
      have HBY15 := Lib.hid (HBY14.out.keep hk15 hs15 (fun k hk => by simp [Value.ownBlock] at hk; simp [hk]))
      clear ho15 hk15 hs15 he15 HO14 HBX14 HBY14
      go_wp2_with fail
      refine (own_sync HO15.out (s := nB) (by decide)).mono ?_
      rintro e16 wc ⟨he16, ho16, hk16, hs16⟩
      rw [rp_sync3] at he16 ho16
      have he16' : e16 = .returned (.int .i64 25) := he16
      subst he16'
      have HOC : Hid (Own w [w9.heap.size, gy, gx, tb] wc d 3 ⟨1000, [⟨x, x.length⟩, ⟨y, y.length⟩], [(nB, 1)], [(nA, 1), (nB, 0)], [⟨2, nA, nB, 1⟩], 0, true, 6⟩) := Lib.hid ho16
      have HBXC := Lib.hid (HBX15.out.keep hk16 hs16 (fun k hk => by simp [Value.ownBlock] at hk; simp [hk]))
      have HBYC := Lib.hid (HBY15.out.keep hk16 hs16 (fun k hk => by simp [Value.ownBlock] at hk; simp [hk]))
      clear ho16 hk16 hs16 he16 HO15 HBX15 HBY15
      go_wp2_with fail
      have HDE : Hid (readM (crashM (⟨1000, [⟨x, x.length⟩, ⟨y, y.length⟩], [(nB, 1)], [(nA, 1), (nB, 0)], [⟨2, nA, nB, 1⟩], 0, true, 6⟩) xs2) nB = (x, 0) ∨ readM (crashM (⟨1000, [⟨x, x.length⟩, ⟨y, y.length⟩], [(nB, 1)], [(nA, 1), (nB, 0)], [⟨2, nA, nB, 1⟩], 0, true, 6⟩) xs2) nB = (y, 0)) := Lib.hid (rp_crash3 0 true 6 xs2)
      have hiv : IntsV w [w9.heap.size, gy, gx, tb] wc a2 n2 cap2 xs2 := ⟨HN2.out.symm, by have := HT2.out.le; rw [← HN2.out] at this; exact this, HT2.out.max, fun i u hu => by
        obtain ⟨b, o, e, hb, hc⟩ := HT2.out.at hu
        exact ⟨b, o, e, .inr hb, HOC.out.frm.cell hc (by simp)⟩⟩
      refine (own_crash HOC.out (by decide) (keep := xs2) hiv).mono ?_
      rintro e20 w20 ⟨rfl, ho20, hk20, hs20⟩
      have HO20 := Lib.hid ho20
      have HBX20 := Lib.hid (HBXC.out.keep hk20 hs20 (fun k hk => by simp [Value.ownBlock] at hk; simp [hk]))
      have HBY20 := Lib.hid (HBYC.out.keep hk20 hs20 (fun k hk => by simp [Value.ownBlock] at hk; simp [hk]))
      clear ho20 hk20 hs20 hiv HOC HBXC HBYC
      go_wp2_with fail
      refine (own_read HO20.out (s := nB) (by decide)).mono ?_
      rintro e21 w21 ⟨hr21, hf21⟩
      have hF21 := HO20.out.frm.trans hf21 (by simp)
      have HF21 := Lib.hid hF21
      have hcx := conv_bytes (HBX20.out.frm hf21 (by simp))
      have hcy := conv_bytes (HBY20.out.frm hf21 (by simp))
      clear hF21 hf21
      rcases HDE.out with hd | hd
      · rw [hd] at hr21
        obtain ⟨a21, c21, rfl, hown21⟩ := hr21
        have hcz := conv_bytes (bytesV_of_owns hown21)
        clear hown21 hd HDE HO20 HBX20 HBY20
        go_wp2_with (first | (go_at_call 13; refine (sane_any _).mono ?_; rintro e22 w22 ⟨rfl, hf22⟩) | fail)
        go_ret
        exact ⟨rfl, HF21.out.trans hf22 (by simp)⟩
      · rw [hd] at hr21
        obtain ⟨a21, c21, rfl, hown21⟩ := hr21
        have hcz := conv_bytes (bytesV_of_owns hown21)
        clear hown21 hd HDE HO20 HBX20 HBY20
        by_cases hxy : y = x
        · subst hxy
          go_wp2_with (first | (go_at_call 13; refine (sane_any _).mono ?_; rintro e22 w22 ⟨rfl, hf22⟩) | fail)
          go_ret
          exact ⟨rfl, HF21.out.trans hf22 (by simp)⟩
        · have hne : ((⟨y.toArray⟩ : ByteArray).toList == (⟨x.toArray⟩ : ByteArray).toList) = false := by rw [toList_nm, toList_nm]; exact beq_eq_false_iff_ne.2 hxy
          go_wp2_with (first | (go_at_call 13; refine (sane_any _).mono ?_; rintro e22 w22 ⟨rfl, hf22⟩) | fail)
          all_goals
            first
              | exact absurd (by assumption) hxy
              | (go_ret
                 exact ⟨rfl, HF21.out.trans hf22 (by simp)⟩)
    · go_wp2_with fail
      refine (own_append HO12.out (by decide) (s := nA) (by decide) HBY12.out (fun k hk => by simp [Value.ownBlock] at hk; simp [hk])).mono ?_
      rintro e13 w13 ⟨he13, ho13, hk13, hs13⟩
      rw [HA2.out] at he13 ho13
      have he13' : e13 = .returned (.int .i64 0) := he13
      subst he13'
      have HO13 : Hid (Own w [w9.heap.size, gy, gx, tb] w13 d 2 (rp1 x y 4 false)) := Lib.hid (ho13)
      have HBX13 := Lib.hid (HBX12.out.keep hk13 hs13 (fun k hk => by simp [Value.ownBlock] at hk; simp [hk]))
      have HBY13 := Lib.hid (HBY12.out.keep hk13 hs13 (fun k hk => by simp [Value.ownBlock] at hk; simp [hk]))
      clear ho13 hk13 hs13 he13 HA2 HO12 HBX12 HBY12
      go_wp2_with fail
      refine (own_sync HO13.out (s := nA) (by decide)).mono ?_
      rintro e14 w14 ⟨he14, ho14, hk14, hs14⟩
      rw [rp_sync2] at he14 ho14
      have he14' : e14 = .returned (.int .i64 0) := he14
      subst he14'
      have HO14 : Hid (Own w [w9.heap.size, gy, gx, tb] w14 d 2 (rp2 x y 3)) := Lib.hid ho14
      have HBX14 := Lib.hid (HBX13.out.keep hk14 hs14 (fun k hk => by simp [Value.ownBlock] at hk; simp [hk]))
      have HBY14 := Lib.hid (HBY13.out.keep hk14 hs14 (fun k hk => by simp [Value.ownBlock] at hk; simp [hk]))
      clear ho14 hk14 hs14 he14 HO13 HBX13 HBY13
      go_wp2_with fail
      refine (own_rename HO14.out (by decide) (s := nA) (t := nB) (by decide) (by decide)).mono ?_
      rintro e15 w15 ⟨he15, ho15, hk15, hs15⟩
      rw [rp_rename] at he15 ho15
      have he15' : e15 = .returned (.int .i64 0) := he15
      subst he15'
      have HO15 : Hid (Own w [w9.heap.size, gy, gx, tb] w15 d 3 ⟨1000, [⟨x, x.length⟩, ⟨y, y.length⟩], [(nB, 1)], [(nA, 1), (nB, 0)], [⟨2, nA, nB, 1⟩], 2, false, 5⟩) := Lib.hid ho15
      have HBX15 := Lib.hid (HBX14.out.keep hk15 hs15 (fun k hk => by simp [Value.ownBlock] at hk; simp [hk]))
      have HBY15 := Lib.hid (HBY14.out.keep hk15 hs15 (fun k hk => by simp [Value.ownBlock] at hk; simp [hk]))
      clear ho15 hk15 hs15 he15 HO14 HBX14 HBY14
      go_wp2_with fail
      refine (own_sync HO15.out (s := nB) (by decide)).mono ?_
      rintro e16 wc ⟨he16, ho16, hk16, hs16⟩
      rw [rp_sync3] at he16 ho16
      have he16' : e16 = .returned (.int .i64 0) := he16
      subst he16'
      have HOC : Hid (Own w [w9.heap.size, gy, gx, tb] wc d 3 ⟨1000, [⟨x, x.length⟩, ⟨y, y.length⟩], [(nB, 1)], [(nB, 1)], [], 1, false, 6⟩) := Lib.hid ho16
      have HBXC := Lib.hid (HBX15.out.keep hk16 hs16 (fun k hk => by simp [Value.ownBlock] at hk; simp [hk]))
      have HBYC := Lib.hid (HBY15.out.keep hk16 hs16 (fun k hk => by simp [Value.ownBlock] at hk; simp [hk]))
      clear ho16 hk16 hs16 he16 HO15 HBX15 HBY15
      go_wp2_with fail
      have HDE : Hid (readM (crashM ⟨1000, [⟨x, x.length⟩, ⟨y, y.length⟩], [(nB, 1)], [(nB, 1)], [], 1, false, 6⟩ xs2) nB = (y, 0)) := Lib.hid (rp_crash4 _ _ _ _)
      have hiv : IntsV w [w9.heap.size, gy, gx, tb] wc a2 n2 cap2 xs2 := ⟨HN2.out.symm, by have := HT2.out.le; rw [← HN2.out] at this; exact this, HT2.out.max, fun i u hu => by
        obtain ⟨b, o, e, hb, hc⟩ := HT2.out.at hu
        exact ⟨b, o, e, .inr hb, HOC.out.frm.cell hc (by simp)⟩⟩
      refine (own_crash HOC.out (by decide) (keep := xs2) hiv).mono ?_
      rintro e20 w20 ⟨rfl, ho20, hk20, hs20⟩
      have HO20 := Lib.hid ho20
      have HBX20 := Lib.hid (HBXC.out.keep hk20 hs20 (fun k hk => by simp [Value.ownBlock] at hk; simp [hk]))
      have HBY20 := Lib.hid (HBYC.out.keep hk20 hs20 (fun k hk => by simp [Value.ownBlock] at hk; simp [hk]))
      clear ho20 hk20 hs20 hiv HOC HBXC HBYC
      go_wp2_with fail
      refine (own_read HO20.out (s := nB) (by decide)).mono ?_
      rintro e21 w21 ⟨hr21, hf21⟩
      have hF21 := HO20.out.frm.trans hf21 (by simp)
      have HF21 := Lib.hid hF21
      have hcx := conv_bytes (HBX20.out.frm hf21 (by simp))
      have hcy := conv_bytes (HBY20.out.frm hf21 (by simp))
      clear hF21 hf21
      have hd := HDE.out
      · rw [hd] at hr21
        obtain ⟨a21, c21, rfl, hown21⟩ := hr21
        have hcz := conv_bytes (bytesV_of_owns hown21)
        clear hown21 hd HDE HO20 HBX20 HBY20
        by_cases hxy : y = x
        · subst hxy
          go_wp2_with (first | (go_at_call 13; refine (sane_any _).mono ?_; rintro e22 w22 ⟨rfl, hf22⟩) | fail)
          go_ret
          exact ⟨rfl, HF21.out.trans hf22 (by simp)⟩
        · have hne : ((⟨y.toArray⟩ : ByteArray).toList == (⟨x.toArray⟩ : ByteArray).toList) = false := by rw [toList_nm, toList_nm]; exact beq_eq_false_iff_ne.2 hxy
          go_wp2_with (first | (go_at_call 13; refine (sane_any _).mono ?_; rintro e22 w22 ⟨rfl, hf22⟩) | fail)
          all_goals
            first
              | exact absurd (by assumption) hxy
              | (go_ret
                 exact ⟨rfl, HF21.out.trans hf22 (by simp)⟩)

end Go.Proofs.Ytkebdgbjgbcneaa
