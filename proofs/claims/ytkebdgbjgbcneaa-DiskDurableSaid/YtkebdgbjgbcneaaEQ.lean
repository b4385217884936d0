/- DiskDurable of the law answers true. -/
import Derived.Test.YtkebdgbjgbcneaaEP
import Derived.Test.YtkebdgbjgbcneaaEM
import Derived.Test.YtkebdgbjgbcneaaEO
import Derived.Test.YtkebdgbjgbcneaaE0
namespace Go.Proofs.Ytkebdgbjgbcneaa
open Go.RowKit Go.Maps Go.Shelf

theorem names7_nS : ∀ s ∈ names7, s ≠ nS := by decide
theorem Sf.act {x : List UInt8} {i N : Nat} {m : DM} (h : Sf nS x i m) (ho : DOk N m) {A : DM → DM} (hA : ActF A) : Sf nS x i (A m) := by
  rcases hA with rfl | ⟨s, hs, b, hb, rfl⟩ | ⟨s, hs, rfl⟩ | ⟨s, hs, t, ht, rfl⟩ | ⟨s, hs, rfl⟩ | ⟨v, rfl⟩ | ⟨keep, rfl⟩
  · exact h
  · exact h.append ho s b
  · exact h.sync ho s
  · exact h.rename (names7_nS s hs) (names7_nS t ht)
  · exact h.delete (names7_nS s hs)
  · exact h.fail v
  · exact h.crash keep
/-- The reference's disk has just been made beside a disk. -/
theorem BoX.start2 {wb w1 w2 : World} {fp S : List Nat} {d r cap N : Nat} {m1 : DM} (hp : PD w1 d fp m1) (hfp : ∀ x ∈ fp, wb.heap.size ≤ x ∧ x ∉ S) (hS : ∀ s ∈ S, s < w1.heap.size) (h01 : wb.heap.size ≤ w1.heap.size) (hr : RowAt w2 r 77 (rhdC (emptyM cap) (.slice none 0 0) (.slice none 0 0) (.slice none 0 0) (.slice none 0 0))) (hf : Frm [] w1 w2) (hr1 : w1.heap.size ≤ r) (hc : cap ≤ 4194304) (ho : DOk N m1) : BoX wb w2 fp S d r N m1 (emptyM cap) := by
  have hpl := hp.lt
  refine ⟨hp.frm hf (by simp), fun x hx => ⟨(hfp x hx).1, fun e => ?_, (hfp x hx).2⟩, ⟨.slice none 0 0, .slice none 0 0, .slice none 0 0, .slice none 0 0, [], ?_⟩, ⟨by omega, fun hm => ?_⟩, ho, (DOk.empty hc).mono (Nat.zero_le _)⟩
  · have := hpl x hx; omega
  · refine ⟨hr, rfl, RowV.nil0 _ _ _, by simp, RowV.nil0 _ _ _, RowV.nil0 _ _ _, RowV.nil0 _ _ _, List.mem_append_right _ List.mem_cons_self, fun k hk => ?_⟩
    rcases List.mem_append.1 hk with h9 | h9
    · exact Nat.lt_of_lt_of_le (hpl k h9) hf.size
    · rcases List.mem_cons.1 h9 with rfl | h9
      · exact hr.lt
      · have := hS k h9; have := hf.size; omega
  · have := hS r hm; omega
set_option linter.unusedSimpArgs false in
set_option maxRecDepth 100000 in
set_option maxHeartbeats 8000000 in
theorem durable_walk (a0 : Option Addr) (cap0 : Nat) (xs0 : List Int) (a2 : Option Addr) (cap2 : Nat) (xs2 : List Int) (w : World) (ht0 : Rd w.heap.size w a0 xs0.length cap0 1 (ints xs0)) (hx0 : ∀ x ∈ xs0, -9223372036854775808 ≤ x ∧ x ≤ 9223372036854775807) (ht2 : Rd w.heap.size w a2 xs2.length cap2 1 (ints xs2)) :
    Calls Try.prog 7 #[.slice a0 xs0.length cap0, .slice a2 xs2.length cap2] w fun e w' => e = .returned (.bool true) ∧ Frm [] w w' := by
  have hl2 := ht2.lt
  have HT2 := Lib.hid ht2
  have htn := tape_new w.heap.size a0 cap0 xs0 w ht0 hx0
  clear ht0 hx0 ht2
  obtain ⟨n2, hn2⟩ : ∃ n2, n2 = xs2.length := ⟨_, rfl⟩
  have HN2 := Lib.hid hn2
  rw [← hn2] at hl2 ⊢
  clear hn2
  go_enter Try.func7, Try.ntmps7
  go_wp2_with fail
  refine htn.mono ?_
  rintro e1 w1 ⟨rfl, hf1, hT1, hsz1⟩
  obtain ⟨tb, htb⟩ : ∃ tb, tb = w.heap.size := ⟨_, rfl⟩
  have HTB := Lib.hid htb
  rw [← htb] at hT1 hsz1 ⊢
  have HT1 := Lib.hid hT1
  have HF1 := Lib.hid hf1
  clear htn hT1 hf1 htb
  go_wp2_with fail
  refine (own_new (w0 := w) (S := [tb]) 1000 (by decide) (fun s hs => by rw [List.mem_singleton] at hs; omega) HF1.out).mono ?_
  rintro e2 w2 ⟨d, rfl, ho2, hk2, -⟩
  have HO2 := Lib.hid ho2
  have HTP2 : Hid (TapeOk tb w2 tb 0) := Lib.hid (HT1.out.keep (w0 := w) hk2 (by simp) (by rw [HTB.out]; exact Nat.le_refl _) HF1.out ho2.frm)
  clear ho2 hk2 HT1 HF1 hsz1
  go_wp2_with fail
  refine (data_any HTP2.out (Nat.le_refl _) (by decide)).mono ?_
  rintro e3 w3 ⟨⟨x, px, cx, rfl, hbx, hx1, hx9⟩, hT3, hf3, hs3⟩
  obtain ⟨gx, hgx⟩ : ∃ g, g = w2.heap.size := ⟨_, rfl⟩
  rw [← hgx] at hbx hs3 ⊢
  have HO3 : Hid (Own w [gx, tb] w3 d 0 (emptyM 1000)) := Lib.hid (HO2.out.call (T := [gx]) hf3 (fun y hy => by rw [List.mem_singleton] at hy; rw [hy]; exact ⟨by simp, by rw [HTB.out]; exact Nat.le_refl _⟩) (fun t ht => by rw [List.mem_singleton] at ht; omega))
  have HTP3 := Lib.hid hT3
  have HBX3 := Lib.hid hbx
  have HX := Lib.hid (And.intro hx1 hx9)
  have htx : tb ≠ gx := by have := HTP2.out.lt; omega
  have hgw : w.heap.size ≤ gx := by rw [hgx]; exact HO2.out.frm.size
  have HTX := Lib.hid htx
  have HGW := Lib.hid hgw
  clear hbx hT3 hf3 hs3 hgx HO2 HTP2 hx1 hx9 htx hgw
  go_wp2_with fail
  refine (own_append HO3.out (by decide) (s := nS) (by decide) HBX3.out (fun k hk => by simp [Value.ownBlock] at hk; simp [hk])).mono ?_
  rintro e7 w7 ⟨he7, ho7, hk7, hs7⟩
  rw [dur_append (by have := HX.out; omega)] at he7 ho7
  have he7' : e7 = .returned (.int .i64 0) := he7
  subst he7'
  have HO7 := Lib.hid ho7
  have HBX7 := Lib.hid (HBX3.out.keep hk7 hs7 (fun k hk => by simp [Value.ownBlock] at hk; simp [hk]))
  have HTP7 : Hid (TapeOk tb w7 tb 2) := Lib.hid (HTP3.out.keep (w0 := w) hk7 (by simp) (by rw [HTB.out]; exact Nat.le_refl _) HO3.out.frm ho7.frm)
  clear ho7 hk7 hs7 he7 HO3 HBX3 HTP3
  go_wp2_with fail
  refine (own_sync HO7.out (s := nS) (by decide)).mono ?_
  rintro e8 w8 ⟨he8, ho8, hk8, hs8⟩
  simp only [dur_sync] at he8 ho8
  subst he8
  have HO8 := Lib.hid ho8
  have HBX8 := Lib.hid (HBX7.out.keep hk8 hs8 (fun k hk => by simp [Value.ownBlock] at hk; simp [hk]))
  have HTP8 : Hid (TapeOk tb w8 tb 2) := Lib.hid (HTP7.out.keep (w0 := w) hk8 (by simp) (by rw [HTB.out]; exact Nat.le_refl _) HO7.out.frm ho8.frm)
  clear ho8 hk8 hs8 HO7 HBX7 HTP7
  by_cases h100 : (100 : Int) < (n2 : Int)
  · go_wp2_with fail
    go_ret
    exact ⟨rfl, HO8.out.frm⟩
  · go_wp2_with fail
    refine (rnew_any 1000 w8 (by decide)).mono ?_
    rintro e9 w9 ⟨⟨rfl, hr9⟩, hf9⟩
    obtain ⟨r, hr⟩ : ∃ r, r = w8.heap.size := ⟨_, rfl⟩
    rw [← hr] at hr9 ⊢
    obtain ⟨⟨fp, hp8, hfp8⟩, hfr8, hlow8, hok8⟩ := HO8.out
    have HB9 : Hid (BoX w w9 fp [gx, tb] d r 1 (dur0 x) (emptyM 1000)) := Lib.hid (BoX.start2 hp8 hfp8 hlow8 hfr8.size hr9 hf9 (by rw [hr]; exact Nat.le_refl _) (by decide) hok8)
    have HT9 := Lib.hid (HTP8.out.nil hf9)
    have HF9 : Hid (Frm [] w w9) := Lib.hid (hfr8.trans hf9 (by simp))
    have HBX9 := Lib.hid (HBX8.out.frm hf9 (by simp))
    clear hr9 hf9 hr hp8 hfp8 hfr8 hlow8 hok8 HO8 HBX8 HTP8
    go_wp2_with fail
    have f6 : Frm [] w9 (w9.alloc (.cells #[.pointer (some ⟨d, 0, none⟩), .pointer (some ⟨r, 0, none⟩)] 47)) := (Frm.refl [] w9).alloc _
    have r6 : RowAt (w9.alloc (.cells #[.pointer (some ⟨d, 0, none⟩), .pointer (some ⟨r, 0, none⟩)] 47)) w9.heap.size 47 [.pointer (some ⟨d, 0, none⟩), .pointer (some ⟨r, 0, none⟩)] := RowAt.made _ _ _ _ rfl
    have hb6 : BoX w (w9.alloc (.cells #[.pointer (some ⟨d, 0, none⟩), .pointer (some ⟨r, 0, none⟩)] 47)) fp [w9.heap.size, gx, tb] d r 1 (dur0 x) (emptyM 1000) := HB9.out.more (T := [w9.heap.size]) f6 (by simp) (fun t ht => by rw [List.mem_singleton] at ht; rw [ht]; simp)
    have ht6 := HT9.out.nil f6
    have hf6 := HF9.out.trans f6 (by simp)
    have hbx6 := HBX9.out.frm f6 (by simp)
    have htb5 := HT9.out.lt
    generalize w9.alloc (.cells #[.pointer (some ⟨d, 0, none⟩), .pointer (some ⟨r, 0, none⟩)] 47) = w6 at *
    obtain ⟨bb, hbb⟩ : ∃ bb, bb = w9.heap.size := ⟨_, rfl⟩
    rw [← hbb] at r6 hb6 ⊢
    have hbt : bb ≠ tb := by omega
    have HBT := Lib.hid hbt
    have HB6 := Lib.hid hb6
    have HT6 := Lib.hid ht6
    have HF6 := Lib.hid hf6
    have HR6 := Lib.hid r6
    have HBX6 := Lib.hid hbx6
    clear f6 r6 hb6 ht6 hf6 hbx6 hbb hbt htb5 HB9 HT9 HF9 HBX9
    go_loopg [12] 15 (fun q s12 wr => ∃ (k : Nat) (fpk : List Nat) (m1 m2 : DM), q = 15 - k ∧ k ≤ 15 ∧ s12 = .int .i64 (k : Int) ∧ BoX w wr fpk [bb, gx, tb] d r (1 + 2 * k) m1 m2 ∧ Sf nS x 0 m1 ∧ TapeOk tb wr tb (2 + 10 * k) ∧ RowAt wr bb 47 [.pointer (some ⟨d, 0, none⟩), .pointer (some ⟨r, 0, none⟩)] ∧ BytesV wr (.slice (some ⟨gx, px, none⟩) x.length cx) x ∧ Frm [] w wr)
    case atStart => exact ⟨0, fp, _, _, rfl, by decide, rfl, HB6.out, dur_sf x, HT6.out, HR6.out, HBX6.out, HF6.out⟩
    case round =>
      obtain ⟨k, fpk, m1, m2, rfl, hk, rfl, hb, hsf, ht, hrw, hbx, hf⟩ := hrel
      have HB := Lib.hid hb
      have HSF := Lib.hid hsf
      have HT := Lib.hid ht
      have HR := Lib.hid hrw
      have HBX := Lib.hid hbx
      have HF := Lib.hid hf
      have i4 : (0 : Int) ≤ (k : Int) := by omega
      clear hb hsf ht hrw hbx hf
      by_cases hlt : k < 15
      · have i5 : (k : Int) < 15 := by omega
        have p0 := HR.out.cell (i := 0) rfl
        have p1 := HR.out.cell (i := 1) rfl
        go_wp2_with fail
        refine (act_two HB.out (by omega) HT.out (Nat.le_refl _) (by omega) (by simp) (by rw [HTB.out]; exact Nat.le_refl _)).mono ?_
        rintro e7 w7 ⟨β, fp7, A, rfl, hA, hb7, hs7, ht7, hf7⟩
        have hnot : ∀ y ∈ tb :: r :: fpk, y ≠ bb ∧ y ≠ gx ∧ w.heap.size ≤ y := fun y hy => by
          rcases List.mem_cons.1 hy with rfl | hy
          · exact ⟨fun e => HBT.out e.symm, HTX.out, by rw [HTB.out]; exact Nat.le_refl _⟩
          · rcases List.mem_cons.1 hy with rfl | hy
            · exact ⟨fun e => HB.out.rn.2 (by rw [e]; simp), fun e => HB.out.rn.2 (by rw [e]; simp), HB.out.rn.1⟩
            · exact ⟨fun e => (HB.out.new y hy).2.2 (by rw [e]; simp), fun e => (HB.out.new y hy).2.2 (by rw [e]; simp), (HB.out.new y hy).1⟩
        have HR7 := Lib.hid (HR.out.frm hf7 (fun hm => (hnot bb hm).1 rfl))
        have HBX7 := Lib.hid (HBX.out.frm hf7 (fun g hg hm => by
          simp only [Value.ownBlock, Option.some.injEq] at hg
          exact (hnot g hm).2.1 hg.symm))
        have HB7 := Lib.hid (hb7.mono (N' := 1 + 2 * (k + 1)) (by omega))
        have HSF7 := Lib.hid (HSF.out.act HB.out.ok1 hA)
        have HT7 := Lib.hid (ht7.mono (M := 2 + 10 * (k + 1)) (by omega))
        have HF7 : Hid (Frm [] w w7) := Lib.hid (HF.out.trans hf7 (fun y hy => .inr (hnot y hy).2.2))
        clear hA hb7 hs7 ht7 hf7 hnot p0 p1
        go_wp2_with fail
        go_roundg (15 - (k + 1))
        case rel => exact ⟨k + 1, fp7, _, _, rfl, hlt, by go_num, HB7.out, HSF7.out, HT7.out, HR7.out, HBX7.out, HF7.out⟩
        case measure => omega
      · have i5 : ¬ (k : Int) < 15 := by omega
        have hkk : 1 + 2 * k ≤ 31 := by omega
        go_wp2_with fail
        refine (data_any HT.out (Nat.le_refl _) (by omega)).mono ?_
        rintro e7 w7 ⟨⟨b, pb, cb, rfl, hbb, hb1, hb9⟩, hT7, hf7, hs7⟩
        obtain ⟨gb, hgb⟩ : ∃ g, g = wr.heap.size := ⟨_, rfl⟩
        rw [← hgb] at hbb hs7 ⊢
        have hgf : gb ∉ fpk := fun hm => by have := HB.out.flt gb hm; omega
        have HB7 := Lib.hid (HB.out.step hf7 (fun y hy => by rw [List.mem_singleton] at hy; rw [hy]; simp))
        have HBX7 := Lib.hid (HBX.out.frm hf7 (fun g hg hm => by
          simp only [Value.ownBlock, Option.some.injEq] at hg
          rw [List.mem_singleton] at hm
          exact HTX.out (hm.symm.trans hg.symm)))
        have HF7 : Hid (Frm [] w w7) := Lib.hid (HF.out.trans hf7 (fun y hy => by rw [List.mem_singleton] at hy; rw [hy, HTB.out]; exact .inr (Nat.le_refl _)))
        have HBB := Lib.hid hbb
        have HGF := Lib.hid hgf
        clear hbb hb1 hb9 hT7 hf7 hs7 hgb hgf
        go_wp2_with fail
        refine (bo_append1 HB7.out (by omega) (s := nS) (by decide) HBB.out (fun g hg => by simp only [Value.ownBlock, Option.some.injEq] at hg; rw [← hg]; exact HGF.out)).mono ?_
        rintro e8 w8 ⟨rfl, fp8, hb8, hs8, hf8⟩
        have hnot : ∀ y ∈ r :: fpk, y ≠ gx ∧ w.heap.size ≤ y := fun y hy => by
          rcases List.mem_cons.1 hy with rfl | hy
          · exact ⟨fun e => HB7.out.rn.2 (by rw [e]; simp), HB7.out.rn.1⟩
          · exact ⟨fun e => (HB7.out.new y hy).2.2 (by rw [e]; simp), (HB7.out.new y hy).1⟩
        have HB8 := Lib.hid hb8
        have HSF8 := Lib.hid (HSF.out.append HB7.out.ok1 nS b)
        have HBX8 := Lib.hid (HBX7.out.frm hf8 (fun g hg hm => by
          simp only [Value.ownBlock, Option.some.injEq] at hg
          exact (hnot g hm).1 hg.symm))
        have HF8 : Hid (Frm [] w w8) := Lib.hid (HF7.out.trans hf8 (fun y hy => .inr (hnot y hy).2))
        clear hb8 hs8 hf8 hnot HBB
        go_wp2_with fail
        obtain ⟨m8, hm8⟩ : ∃ m8, m8 = (appendM m1 nS b).2 := ⟨_, rfl⟩
        rw [← hm8] at HB8 HSF8
        refine (bo_crash1 (keep := xs2) HB8.out (by omega) (by
          have h2 := HT2.out
          refine ⟨HN2.out.symm, by rw [HN2.out]; exact h2.le, h2.max, fun i y hy => ?_⟩
          obtain ⟨bk, ok, e9, hl9, hc9⟩ := h2.cell i (.int .i64 y) (by simp [ints, hy])
          refine ⟨bk, ok, e9, Nat.lt_of_lt_of_le hl9 HF8.out.size, fun hm => ?_, HF8.out.cell hc9 (by simp)⟩
          have := (HB8.out.new bk hm).1
          omega)).mono ?_
        rintro e9 w9 ⟨rfl, fp9, hb9, hs9, hf9⟩
        have hnot : ∀ y ∈ r :: fp8, y ≠ gx ∧ w.heap.size ≤ y := fun y hy => by
          rcases List.mem_cons.1 hy with rfl | hy
          · exact ⟨fun e => HB8.out.rn.2 (by rw [e]; simp), HB8.out.rn.1⟩
          · exact ⟨fun e => (HB8.out.new y hy).2.2 (by rw [e]; simp), (HB8.out.new y hy).1⟩
        have HB9 := Lib.hid hb9
        have hrd := HSF8.out.read (by decide) xs2
        have HBX9 := Lib.hid (HBX8.out.frm hf9 (fun g hg hm => by
          simp only [Value.ownBlock, Option.some.injEq] at hg
          exact (hnot g hm).1 hg.symm))
        have HF9 : Hid (Frm [] w w9) := Lib.hid (HF8.out.trans hf9 (fun y hy => .inr (hnot y hy).2))
        have hdn : (crashM m8 xs2).off = false ∧ (crashM m8 xs2).count = 0 := ⟨rfl, rfl⟩
        obtain ⟨m9, hm9⟩ : ∃ m9, m9 = crashM m8 xs2 := ⟨_, rfl⟩
        rw [← hm9] at HB9 hrd hdn
        clear hb9 hs9 hf9 hnot HB8 HSF8 HBX8 hm8 hm9
        go_wp2_with fail
        refine (bo_read1 HB9.out (s := nS) (by decide)).mono ?_
        rintro e10 w10 ⟨⟨a10, c10, rfl, hown10⟩, hf10⟩
        obtain ⟨hr0, hpre⟩ := hrd
        obtain ⟨y, hy⟩ : ∃ y, y = (readM m9 nS).1 := ⟨_, rfl⟩
        rw [hr0]
        rw [← hy] at hown10 hpre ⊢
        have hxy : x.length ≤ y.length := hpre.length_le
        have hx1 := HX.out.1
        obtain ⟨g10, cc, ee, _, hc10, hm10, _⟩ := ownsB_some hown10 (by omega)
        simp only [Value.slice.injEq] at ee
        obtain ⟨rfl, -, rfl⟩ := ee
        have hbv := (bytesV_of_owns hown10).sub (p := 0) (k := x.length) (c := c10) (by omega) (by omega) hm10
        have htk : (y.drop 0).take x.length = x := by rw [List.drop_zero]; exact (List.prefix_iff_eq_take.1 hpre).symm
        rw [htk] at hbv
        have HB10 := Lib.hid (HB9.out.nil hf10)
        have HF10 : Hid (Frm [] w w10) := Lib.hid (HF9.out.trans hf10 (by simp))
        have hbx10 := HBX9.out.frm hf10 (by simp)
        have CV1 := Lib.hid (fun (W : World) (hW : Frm [] w10 W) => conv_bytes (hbv.frm hW (by simp)))
        have CV2 := Lib.hid (fun (W : World) (hW : Frm [] w10 W) => conv_bytes (hbx10.frm hW (by simp)))
        have i10 : (x.length : Int) ≤ (c10 : Int) := by omega
        have i11 : (c10 : Int) ≤ 9223372036854775807 := by unfold maxLen at hm10; omega
        have i12 : (x.length : Int) ≤ (y.length : Int) := by omega
        obtain ⟨hd1, hd2⟩ := hdn
        have HD1 := Lib.hid hd1
        have HD2 := Lib.hid hd2
        clear hr0 hpre hy hxy hx1 hc10 hm10 hbv htk hbx10 hown10 hf10 hd1 hd2 hkk
        go_wp2_with fail
        go_region_held3 (fun w' => (convert 27 9 (.slice (some ⟨g10, 0, none⟩) x.length c10)).run Try.prog w' = .ok (str x) w' ∧ (convert 27 9 (.slice (some ⟨gx, px, none⟩) x.length cx)).run Try.prog w' = .ok (str x) w') (exact ⟨CV1.out _ (by first | exact hf12' | exact Frm.refl [] w10 | exact (Frm.refl [] w10).drew | exact (Frm.refl [] w10).drewN _), CV2.out _ (by first | exact hf12' | exact Frm.refl [] w10 | exact (Frm.refl [] w10).drew | exact (Frm.refl [] w10).drewN _)⟩) (first | (go_at_call 13; refine (sane_any _).mono ?_; rintro e12 w12 ⟨rfl, hf12⟩; have hf12' : Frm [] w10 w12 := Frm.trans (by first | exact Frm.refl [] w10 | exact (Frm.refl [] w10).drew | exact (Frm.refl [] w10).drewN _) hf12 (by simp)) | (go_at_call 26; refine (bo_writes1 (HB10.out.nil (by first | exact Frm.refl [] w10 | exact (Frm.refl [] w10).drew | exact (Frm.refl [] w10).drewN _))).mono ?_; rintro e13 w13 ⟨he13, rfl⟩; rw [HD2.out] at he13; subst he13) | (go_at_call 22; refine (bo_down1 (HB10.out.nil (by first | exact Frm.refl [] w10 | exact (Frm.refl [] w10).drew | exact (Frm.refl [] w10).drewN _))).mono ?_; rintro e11 w11 ⟨he11, rfl⟩; rw [HD1.out] at he11; subst he11))
        all_goals
          have HE := Lib.hid (HF10.out.trans hf12' (by simp))
          clear hf12 hf12'
          go_wp2_with fail
          go_ret
          exact ⟨rfl, HE.out⟩

end Go.Proofs.Ytkebdgbjgbcneaa
