/- agrees of the law: what can be seen of both disks is the same. -/
import Derived.Test.YtkebdgbjgbcneaaEK
namespace Go.Proofs.Ytkebdgbjgbcneaa
open Go.RowKit Go.Maps Go.Shelf

section
variable {w0 w w' : World} {fp S : List Nat} {d r N : Nat} {m m1 m2 : DM}
theorem bo_names1 (h : BoX w0 w fp S d r N m1 m2) : Calls Try.prog 12 #[.pointer (some ⟨d, 0, none⟩)] w fun e w' => NamesEnd w.heap.size (namesM m1) w' e ∧ Frm [] w w' := by
  obtain ⟨b1, b2, pv, bs, vs, live, hD, _⟩ := h.pd
  exact names_any hD.hd hD.m1 h.ok1.dirOk
theorem bo_names2 (h : BoX w0 w fp S d r N m1 m2) : Calls Try.prog 47 #[.pointer (some ⟨r, 0, none⟩)] w fun e w' => NamesEnd w.heap.size (namesM m2) w' e ∧ Frm [] w w' := by
  obtain ⟨fv, dv, sv, ov, l, hr⟩ := h.rdv
  exact rnames_any hr h.ok2
theorem bo_used1 (h : BoX w0 w fp S d r N m1 m2) : Calls Try.prog 30 #[.pointer (some ⟨d, 0, none⟩)] w fun e w' => e = .returned (.int .i64 (usedD m1.files m1.dir : Int)) ∧ Frm [] w w' := by
  obtain ⟨b1, b2, pv, bs, vs, live, hD, _⟩ := h.pd
  exact used_any hD.hd hD.m1 hD.files hD.live.dir h.ok1
theorem bo_used2 (h : BoX w0 w fp S d r N m1 m2) : Calls Try.prog 48 #[.pointer (some ⟨r, 0, none⟩)] w fun e w' => e = .returned (.int .i64 (usedD m2.files m2.dir : Int)) ∧ Frm [] w w' := by
  obtain ⟨fv, dv, sv, ov, l, hr⟩ := h.rdv
  exact rused_any hr h.ok2
theorem bo_writes1 (h : BoX w0 w fp S d r N m1 m2) : Calls Try.prog 26 #[.pointer (some ⟨d, 0, none⟩)] w fun e w' => e = .returned (.int .i64 m1.count) ∧ w' = w := writes_any h.pd
theorem bo_down1 (h : BoX w0 w fp S d r N m1 m2) : Calls Try.prog 22 #[.pointer (some ⟨d, 0, none⟩)] w fun e w' => e = .returned (.bool m1.off) ∧ w' = w := down_any h.pd
theorem BoX.c6 (h : BoX w0 w fp S d r N m1 m2) : w.cell? ⟨r, 6, none⟩ = some (.bool m2.off) ∧ w.cell? ⟨r, 7, none⟩ = some (.int .i64 m2.count) := by
  obtain ⟨fv, dv, sv, ov, l, hr⟩ := h.rdv
  exact ⟨hr.hd.cell (i := 6) rfl, hr.hd.cell (i := 7) rfl⟩
theorem strs_get {xs : List Nm} {i : Nat} {s : Nm} (h : xs[i]? = some s) : (strs xs)[i]? = some (str s) := by rw [strs, List.getElem?_map, h]; rfl
set_option linter.unusedSimpArgs false in
set_option maxRecDepth 100000 in
set_option maxHeartbeats 8000000 in
theorem agrees_any (h : BoX w0 w fp S d r N m m) :
    Calls Try.prog 25 #[.agg #[.pointer (some ⟨d, 0, none⟩), .pointer (some ⟨r, 0, none⟩)]] w fun e w' => e = .returned (.bool true) ∧ Frm [] w w' := by
  have f0 : Frm [] w (w.alloc (.cells #[.pointer (some ⟨d, 0, none⟩), .pointer (some ⟨r, 0, none⟩)] 47)) := (Frm.refl [] w).alloc _
  have r0 : RowAt (w.alloc (.cells #[.pointer (some ⟨d, 0, none⟩), .pointer (some ⟨r, 0, none⟩)] 47)) w.heap.size 47 [.pointer (some ⟨d, 0, none⟩), .pointer (some ⟨r, 0, none⟩)] := RowAt.made _ _ _ _ rfl
  have HA := Lib.hid (h.nil f0)
  have hgn : ∀ s ∈ namesM m, s.length ≤ maxLen := fun s hs => by
    obtain ⟨p, hp, rfl⟩ := List.mem_map.1 hs
    exact goodN_max (h.ok1.dirOk.good p hp)
  have HGN := Lib.hid hgn
  have HF0 := Lib.hid f0
  have HR0 := Lib.hid r0
  obtain ⟨nn, hnn⟩ : ∃ nn, nn = (namesM m).length := ⟨_, rfl⟩
  have hn64 : nn ≤ 64 := by rw [hnn, namesM, List.length_map]; exact h.ok1.dirOk.few
  have HNN := Lib.hid hnn
  have HN64 := Lib.hid hn64
  clear h f0 r0 hgn hnn hn64
  go_enter Try.func25, Try.ntmps25
  go_wp2_with fail
  generalize w.alloc (.cells #[.pointer (some ⟨d, 0, none⟩), .pointer (some ⟨r, 0, none⟩)] 47) = wa at *
  obtain ⟨x, hx⟩ : ∃ x, x = w.heap.size := ⟨_, rfl⟩
  rw [← hx] at HR0 ⊢
  clear hx
  have p0 := HR0.out.cell (i := 0) rfl
  have p1 := HR0.out.cell (i := 1) rfl
  go_region_held3 (fun w' => w'.cell? ⟨x, 0, none⟩ = some (.pointer (some ⟨d, 0, none⟩)) ∧ w'.cell? ⟨x, 1, none⟩ = some (.pointer (some ⟨r, 0, none⟩))) (first | exact ⟨p0, p1⟩ | exact ⟨q0, q1⟩ | exact ⟨r0, r1⟩) (first | (go_at_call 47; refine (bo_names2 (HA.out.nil hf1)).mono ?_; rintro e2 w2 ⟨⟨a2, c2, rfl, hown2⟩, hf20⟩; have hf2 : Frm [] wa w2 := hf1.trans hf20 (by simp); have r0 := hf2.cell p0 (by simp); have r1 := hf2.cell p1 (by simp)) | (go_at_call 12; refine (bo_names1 (HA.out.nil (by first | exact Frm.refl [] wa | exact (Frm.refl [] wa).drew | exact (Frm.refl [] wa).drewN _))).mono ?_; rintro e1 w1 ⟨⟨a1, c1, rfl, hown1⟩, hf10⟩; have hf1 : Frm [] wa w1 := Frm.trans (by first | exact Frm.refl [] wa | exact (Frm.refl [] wa).drew | exact (Frm.refl [] wa).drewN _) hf10 (by simp); have q0 := hf1.cell p0 (by simp); have q1 := hf1.cell p1 (by simp)))
  rw [← HNN.out] at hown1 hown2 ⊢
  have HO1 := Lib.hid (ownsB_frm hown1 hf20 (by simp))
  have HO2 := Lib.hid hown2
  have HF2 := Lib.hid hf2
  have HA2 := Lib.hid (HA.out.nil hf2)
  have HR2 := Lib.hid (HR0.out.frm hf2 (by simp))
  clear hown1 hown2 hf10 hf1 hf20 hf2 q0 q1 r0 r1 p0 p1 HA HR0
  have p0 := HR2.out.cell (i := 0) rfl
  have p1 := HR2.out.cell (i := 1) rfl
  obtain ⟨p6, p7⟩ := HA2.out.c6
  go_wp2_with fail
  go_region_held3 (fun w' => w'.cell? ⟨x, 0, none⟩ = some (.pointer (some ⟨d, 0, none⟩)) ∧ w'.cell? ⟨x, 1, none⟩ = some (.pointer (some ⟨r, 0, none⟩)) ∧ w'.cell? ⟨r, 6, none⟩ = some (.bool m.off) ∧ w'.cell? ⟨r, 7, none⟩ = some (.int .i64 m.count)) (first | exact ⟨p0, p1, p6, p7⟩ | exact ⟨q0, q1, q6, q7⟩ | exact ⟨r0, r1, r6, r7⟩) (first | (go_at_call 22; refine (bo_down1 (HA2.out.nil hf4)).mono ?_; rintro e6 w6 ⟨rfl, rfl⟩) | (go_at_call 26; refine (bo_writes1 (HA2.out.nil hf4)).mono ?_; rintro e5 w5 ⟨rfl, rfl⟩) | (go_at_call 48; refine (bo_used2 (HA2.out.nil hf3)).mono ?_; rintro e4 w4 ⟨rfl, hf40⟩; have hf4 : Frm [] w2 w4 := hf3.trans hf40 (by simp); have r0 := hf4.cell p0 (by simp); have r1 := hf4.cell p1 (by simp); have r6 := hf4.cell p6 (by simp); have r7 := hf4.cell p7 (by simp)) | (go_at_call 30; refine (bo_used1 (HA2.out.nil (by first | exact Frm.refl [] w2 | exact (Frm.refl [] w2).drew | exact (Frm.refl [] w2).drewN _))).mono ?_; rintro e3 w3 ⟨rfl, hf30⟩; have hf3 : Frm [] w2 w3 := Frm.trans (by first | exact Frm.refl [] w2 | exact (Frm.refl [] w2).drew | exact (Frm.refl [] w2).drewN _) hf30 (by simp); have q0 := hf3.cell p0 (by simp); have q1 := hf3.cell p1 (by simp); have q6 := hf3.cell p6 (by simp); have q7 := hf3.cell p7 (by simp)))
  have HF4 : Hid (Frm [] w w6) := Lib.hid ((HF0.out.trans HF2.out (by simp)).trans hf4 (by simp))
  have HA4 := Lib.hid (HA2.out.nil hf4)
  have HO14 := Lib.hid (ownsB_frm HO1.out hf4 (by simp))
  have HO24 := Lib.hid (ownsB_frm HO2.out hf4 (by simp))
  have HR4 := Lib.hid (HR2.out.frm hf4 (by simp))
  clear hf4 hf30 hf40 hf3 q0 q1 q6 q7 r0 r1 r6 r7 p0 p1 p6 p7 HA2 HO1 HO2 HR2 HF2 HF0
  have inn : (nn : Int) ≤ 9223372036854775807 := by have := HN64.out; omega
  go_wp2_with fail
  go_loopg [5, 6, 7, 8, 9] nn (fun q s5 s6 s7 s8 s9 wr => ∃ k : Nat, q = nn - k ∧ k ≤ nn ∧ s5 = .int .i64 (k : Int) ∧ Frm [] w6 wr)
  case atStart => exact ⟨0, rfl, Nat.zero_le _, rfl, Frm.refl _ _⟩
  case round =>
    obtain ⟨k, rfl, hk, rfl, hF⟩ := hrel
    have HF := Lib.hid hF
    have i4 : (0 : Int) ≤ (k : Int) := by omega
    clear hF
    by_cases hlt : k < nn
    · have i5 : (k : Int) < (nn : Int) := by omega
      obtain ⟨s, hs⟩ : ∃ s, (namesM m)[k]? = some s := ⟨_, List.getElem?_eq_getElem (by rw [← HNN.out]; exact hlt)⟩
      have HSL := Lib.hid (HGN.out s (List.mem_of_getElem? hs))
      obtain ⟨g1, cc1, ee1, _, hc1, hm1, row1⟩ := ownsB_some (ownsB_frm HO14.out HF.out (by simp)) (by omega)
      simp only [Value.slice.injEq] at ee1
      obtain ⟨rfl, -, rfl⟩ := ee1
      obtain ⟨g2, cc2, ee2, _, hc2, hm2, row2⟩ := ownsB_some (ownsB_frm HO24.out HF.out (by simp)) (by omega)
      simp only [Value.slice.injEq] at ee2
      obtain ⟨rfl, -, rfl⟩ := ee2
      have n1 := row1.cell (strs_get hs)
      have n2 := row2.cell (strs_get hs)
      have hrw := HR4.out.frm HF.out (by simp)
      have p0 := hrw.cell (i := 0) rfl
      have p1 := hrw.cell (i := 1) rfl
      have HAW := Lib.hid (HA4.out.nil HF.out)
      clear hs hc1 hm1 hc2 hm2 row1 row2 hrw
      go_wp2_with fail
      go_region_held3 (fun w' => w'.cell? ⟨x, 0, none⟩ = some (.pointer (some ⟨d, 0, none⟩)) ∧ w'.cell? ⟨g1, k, none⟩ = some (str s)) (first | exact ⟨p0, n1⟩ | exact ⟨q0, q1⟩) ((go_at_call 21; refine (bo_read1 (HAW.out.nil (by first | exact Frm.refl [] wr | exact (Frm.refl [] wr).drew | exact (Frm.refl [] wr).drewN _)) HSL.out).mono ?_; rintro e7 w7 ⟨⟨a7, c7, rfl, hown7⟩, hf70⟩; have hf7 : Frm [] wr w7 := Frm.trans (by first | exact Frm.refl [] wr | exact (Frm.refl [] wr).drew | exact (Frm.refl [] wr).drewN _) hf70 (by simp); have q0 := hf7.cell p0 (by simp); have q1 := hf7.cell n1 (by simp)))
      have r1 := hf7.cell p1 (by simp)
      have r2 := hf7.cell n2 (by simp)
      have HA7 := Lib.hid (HAW.out.nil hf7)
      have HF7 := Lib.hid (HF.out.trans hf7 (by simp))
      have HV7 := Lib.hid (bytesV_of_owns hown7)
      clear hown7 hf70 hf7 p0 p1 n2 n1 q0 HAW
      go_wp2_with fail
      go_region_held3 (fun w' => w'.cell? ⟨x, 1, none⟩ = some (.pointer (some ⟨r, 0, none⟩)) ∧ w'.cell? ⟨g2, k, none⟩ = some (str s)) (first | exact ⟨r1, r2⟩ | exact ⟨t1, t2⟩) ((go_at_call 44; refine (bo_read2 (HA7.out.nil (by first | exact Frm.refl [] w7 | exact (Frm.refl [] w7).drew | exact (Frm.refl [] w7).drewN _)) HSL.out).mono ?_; rintro e8 w8 ⟨⟨a8, c8, rfl, hown8⟩, hf80⟩; have hf8 : Frm [] w7 w8 := Frm.trans (by first | exact Frm.refl [] w7 | exact (Frm.refl [] w7).drew | exact (Frm.refl [] w7).drewN _) hf80 (by simp); have t1 := hf8.cell r1 (by simp); have t2 := hf8.cell r2 (by simp)))
      have t3 := hf8.cell q1 (by simp)
      have cv1 := fun n => conv_bytes ((HV7.out.frm hf8 (by simp)).frm ((Frm.refl [] w8).drewN n) (by simp))
      have cv2 := fun n => conv_bytes ((bytesV_of_owns hown8).frm ((Frm.refl [] w8).drewN n) (by simp))
      have HF8 := Lib.hid (HF7.out.trans hf8 (by simp))
      clear hown8 hf80 hf8 r1 r2 q1 t1 HV7 HA7
      go_wp2_with fail
      go_quiet (fail)
      clear cv1 cv2 t2 t3
      go_wp2_with fail
      go_roundg (nn - (k + 1))
      case rel => exact ⟨k + 1, rfl, hlt, by go_num, by first | exact HF8.out.drewN _ | exact HF8.out.drew | exact HF8.out⟩
      case measure => omega
    · have i5 : ¬ (k : Int) < (nn : Int) := by omega
      go_wp2_with fail
      go_ret
      exact ⟨rfl, HF4.out.trans HF.out (by simp)⟩
end

end Go.Proofs.Ytkebdgbjgbcneaa
