/- DiskExamples of the law answers true. -/
import Derived.Test.YtkebdgbjgbcneaaDS
namespace Go.Proofs.Ytkebdgbjgbcneaa
open Go.RowKit Go.Maps Go.Shelf

def xm1 : DM := (appendM (emptyM 100) [97] [120]).2
def xm2 : DM := (syncM xm1 [97]).2
def xm3 : DM := (deleteM xm2 [97]).2
def xm4 : DM := crashM xm3 []
def xc1 : DM := failM (emptyM 100) 1
def xc2 : DM := (appendM xc1 [97] [120, 121, 122, 119]).2
def xc3 : DM := crashM xc2 [1, 1]
theorem xm4_ok : readM xm4 [97] = ([120], 0) := by decide
theorem xc2_ok : (appendM xc1 [97] [120, 121, 122, 119]).1 = 25 := by decide
theorem xc2_off : xc2.off = true := by decide
theorem xc3_ok : readM xc3 [97] = ([120], 0) := by decide
theorem intsV_nil {w0 w : World} {S : List Nat} : IntsV w0 S w none 0 0 [] := ⟨rfl, Nat.le_refl _, Nat.zero_le _, fun i x hx => by simp at hx⟩

set_option linter.unusedSimpArgs false in
set_option maxRecDepth 100000 in
set_option maxHeartbeats 4000000 in
theorem examples_walk (w : World) : Calls Try.prog 5 #[] w fun e w' => e = .returned (.bool true) ∧ Frm [] w w' := by
  have hcv1 := fun w => Go.Lib.run_convert_bytes_const (P := Try.prog) w 27 5 #[.int .u8 120] 1 1 Try.underlying27 Try.underlying5
  have hcv2 := fun w => Go.Lib.run_convert_bytes_const (P := Try.prog) w 27 5 #[.int .u8 120, .int .u8 121, .int .u8 122, .int .u8 119] 4 4 Try.underlying27 Try.underlying5
  go_enter Try.func5, Try.ntmps5
  go_wp2_with fail
  refine (own_new (w0 := w) (S := []) 100 (by decide) (by simp) (Frm.refl _ _)).mono ?_
  rintro e1 w1 ⟨d, rfl, ho1, -, -⟩
  have HO1 := Lib.hid ho1
  clear ho1
  go_wp2_with fail
  refine (own_append (HO1.out.more _) (by decide) (s := [97]) (by decide) (b := [120]) (bytes_marked w1 [120] (by decide) _) (fun k hk => by simp [Value.ownBlock] at hk; simp [hk])).mono ?_
  rintro e2 w2 ⟨he2, ho2, -, -⟩
  subst he2
  have HO2 : Hid (Own w [w1.heap.size] w2 d 1 xm1) := Lib.hid ho2
  clear ho2
  go_wp2_with fail
  refine (own_sync HO2.out (s := [97]) (by decide)).mono ?_
  rintro e3 w3 ⟨he3, ho3, -, -⟩
  subst he3
  have HO3 : Hid (Own w [w1.heap.size] w3 d 1 xm2) := Lib.hid ho3
  clear ho3
  go_wp2_with fail
  refine (own_delete HO3.out (by decide) (s := [97]) (by decide)).mono ?_
  rintro e4 w4 ⟨he4, ho4, -, -⟩
  subst he4
  have HO4 : Hid (Own w [w1.heap.size] w4 d 2 xm3) := Lib.hid ho4
  clear ho4
  go_wp2_with fail
  refine (own_crash HO4.out (by decide) (keep := []) intsV_nil).mono ?_
  rintro e5 w5 ⟨rfl, ho5, -, -⟩
  have HO5 : Hid (Own w [w1.heap.size] w5 d 2 xm4) := Lib.hid ho5
  clear ho5
  go_wp2_with fail
  refine (own_read HO5.out (s := [97]) (by decide)).mono ?_
  rintro e6 w6 ⟨hr6, hf6⟩
  rw [xm4_ok] at hr6
  obtain ⟨a6, c6, rfl, hown6⟩ := hr6
  have hb6 : BytesV w6 (.slice a6 1 c6) [120] := bytesV_of_owns hown6
  have F6 := Lib.hid (HO5.out.frm.trans hf6 (by simp))
  have HB6 := Lib.hid hb6
  have HS6 : Hid (∀ s ∈ (Value.slice a6 1 c6).ownBlock.toList, s < w6.heap.size) := Lib.hid (fun s hs => (hown6.lt s (by simpa using hs)).2)
  clear hown6 hb6 hf6
  go_wp2_with fail
  refine (own_new (w0 := w) (S := (Value.slice a6 1 c6).ownBlock.toList) 100 (by decide) HS6.out F6.out).mono ?_
  rintro e7 w7 ⟨d2, rfl, ho7, hk7, hs7⟩
  have HO7 := Lib.hid ho7
  have HB7 := Lib.hid (HB6.out.keep hk7 hs7 (fun k hk => by simpa using hk))
  clear ho7 hk7 hs7
  go_wp2_with fail
  refine (own_fail HO7.out 1 (by decide)).mono ?_
  rintro e8 w8 ⟨rfl, ho8, hk8, hs8⟩
  have HO8 : Hid (Own w (Value.slice a6 1 c6).ownBlock.toList w8 d2 0 xc1) := Lib.hid ho8
  have HB8 := Lib.hid (HB7.out.keep hk8 hs8 (fun k hk => by simpa using hk))
  clear ho8 hk8 hs8
  go_wp2_with fail
  refine (own_append (HO8.out.more _) (by decide) (s := [97]) (by decide) (b := [120, 121, 122, 119]) (bytes_marked w8 [120, 121, 122, 119] (by decide) _) (fun k hk => by simp [Value.ownBlock] at hk; simp [hk])).mono ?_
  rintro e9 w9 ⟨he9, ho9, hk9, hs9⟩
  rw [xc2_ok] at he9
  subst he9
  have hal := (Frm.refl [] w8).alloc (.cells #[.int .u8 120, .int .u8 121, .int .u8 122, .int .u8 119] 5 (4, 5))
  have HO9 : Hid (Own w (Value.slice a6 1 c6).ownBlock.toList w9 d2 1 xc2) := Lib.hid (ho9.less (fun x hx => List.mem_cons_of_mem _ hx))
  have HB9 := Lib.hid ((HB8.out.frm hal (by simp)).keep (S := w8.heap.size :: (Value.slice a6 1 c6).ownBlock.toList) hk9 hs9 (fun k hk => List.mem_cons_of_mem _ (by simpa using hk)))
  clear ho9 hk9 hs9 hal
  go_wp2_with fail
  refine (own_down HO9.out).mono ?_
  rintro e10 w10 ⟨he10, rfl⟩
  rw [xc2_off] at he10
  subst he10
  go_wp2_with fail
  have hal2 := (Frm.refl [] w10).alloc (.cells #[.int .i64 1, .int .i64 1] 3)
  refine (own_crash (HO9.out.more _) (by decide) (keep := [1, 1]) (intsV_made [1, 1] (by decide))).mono ?_
  rintro e11 w11 ⟨rfl, ho11, hk11, hs11⟩
  have HO11 : Hid (Own w (Value.slice a6 1 c6).ownBlock.toList w11 d2 1 xc3) := Lib.hid (ho11.less (fun x hx => List.mem_cons_of_mem _ hx))
  have HB11 := Lib.hid ((HB9.out.frm hal2 (by simp)).keep (S := w10.heap.size :: (Value.slice a6 1 c6).ownBlock.toList) hk11 hs11 (fun k hk => List.mem_cons_of_mem _ (by simpa using hk)))
  clear ho11 hk11 hs11 hal2
  go_wp2_with fail
  refine (own_read HO11.out (s := [97]) (by decide)).mono ?_
  rintro e12 w12 ⟨hr12, hf12⟩
  rw [xc3_ok] at hr12
  obtain ⟨a12, c12, rfl, hown12⟩ := hr12
  have hcvA := conv_bytes (HB11.out.frm hf12 (by simp))
  have hcvB := conv_bytes (bytesV_of_owns hown12)
  have hcvA' : (convert 27 9 (.slice a6 1 c6)).run Try.prog w12 = .ok (.string ⟨#[120]⟩) w12 := hcvA
  have hcvB' : (convert 27 9 (.slice a12 1 c12)).run Try.prog w12 = .ok (.string ⟨#[120]⟩) w12 := hcvB
  have F12 := Lib.hid (HO11.out.frm.trans hf12 (by simp))
  clear hown12 hf12 hcvA hcvB
  go_wp2_with fail
  refine (sane_any w12).mono ?_
  rintro e13 w13 ⟨rfl, hf13⟩
  go_wp2_with fail
  go_ret
  exact ⟨rfl, F12.out.trans hf13 (by simp)⟩

end Go.Proofs.Ytkebdgbjgbcneaa
