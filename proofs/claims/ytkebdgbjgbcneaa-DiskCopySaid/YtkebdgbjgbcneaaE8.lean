/- The reference's disk: contract of done. -/
import Derived.Test.YtkebdgbjgbcneaaE7
namespace Go.Proofs.Ytkebdgbjgbcneaa
open Go.RowKit Go.Maps Go.Shelf

def ropC (o : OpM) : List Value := [.int .i64 (o.kind : Int), str o.name, str o.to, .int .i64 (o.file : Int)]
def KindOk (o : OpM) : Prop := o.kind = 1 ∨ o.kind = 2 ∨ o.kind = 3

set_option linter.unusedSimpArgs false in
set_option maxRecDepth 100000 in
set_option maxHeartbeats 1000000 in
theorem rdone_any {w : World} {F : List Nat} {v : Value} {l : Dir} (h : RowV w F v l.length 2 (dirC l)) (hl : l.length ≤ 900) (o : OpM) (ho : KindOk o) :
    Calls Try.prog 62 #[v, .agg #[.int .i64 (o.kind : Int), str o.name, str o.to, .int .i64 (o.file : Int)]] w fun e w' => DirEnd w.heap.size (doneD l o) w' e ∧ Frm [] w w' := by
  obtain ⟨kind, name, nt, file⟩ := o
  have r0 : RowAt (w.alloc (.cells #[.int .i64 (kind : Int), str name, str nt, .int .i64 (file : Int)] 92)) w.heap.size 92 [.int .i64 (kind : Int), str name, str nt, .int .i64 (file : Int)] := RowAt.made _ _ _ _ rfl
  have f0 : Frm [] w (w.alloc (.cells #[.int .i64 (kind : Int), str name, str nt, .int .i64 (file : Int)] 92)) := (Frm.refl [] w).alloc _
  have HV := Lib.hid (h.nil f0)
  have HF := Lib.hid f0
  have HR := Lib.hid r0
  have hsz : w.heap.size < (w.alloc (.cells #[.int .i64 (kind : Int), str name, str nt, .int .i64 (file : Int)] 92)).heap.size := by simp
  have HSZ := Lib.hid hsz
  clear h f0 r0 hsz
  simp only [KindOk] at ho
  rcases ho with rfl | rfl | rfl
  · show Calls _ _ #[v, .agg #[.int .i64 1, str name, str nt, .int .i64 (file : Int)]] w _
    have hc : Calls Try.prog 75 #[v, str name, .int .i64 (file : Int)] (w.alloc (.cells #[.int .i64 1, str name, str nt, .int .i64 (file : Int)] 92)) fun e w' => DirEnd w.heap.size (withD l name file) w' e ∧ Frm [] w w' := by
      refine (rwith_any HV.out (by omega) name file).mono ?_
      rintro e1 w1 ⟨⟨a1, c1, rfl, ho1⟩, hf1⟩
      exact ⟨⟨a1, c1, rfl, ownsB_mono ho1 HF.out.size⟩, HF.out.trans hf1 (by simp)⟩
    have hd : doneD l ⟨1, name, nt, file⟩ = withD l name file := rfl
    rw [hd]
    clear hd hl
    go_enter Try.func62, Try.ntmps62
    go_wp2_with fail
    refine hc.mono ?_
    rintro e1 w1 ⟨⟨a1, c1, rfl, ho1⟩, hf1⟩
    go_wp2_with fail
    go_ret
    exact ⟨⟨a1, c1, rfl, ho1⟩, hf1⟩
  · show Calls _ _ #[v, .agg #[.int .i64 2, str name, str nt, .int .i64 (file : Int)]] w _
    have hlw : (withoutD l name).length ≤ 900 := Nat.le_trans (List.length_filter_le _ _) hl
    have HLW := Lib.hid hlw
    have HL := Lib.hid hl
    have hd : doneD l ⟨2, name, nt, file⟩ = withD (withoutD l name) nt file := rfl
    rw [hd]
    clear hd hl hlw
    go_enter Try.func62, Try.ntmps62
    go_wp2_with fail
    obtain ⟨w0, hw0⟩ : ∃ w0, w0 = w.alloc (.cells #[.int .i64 2, str name, str nt, .int .i64 (file : Int)] 92) := ⟨_, rfl⟩
    obtain ⟨x, hx⟩ : ∃ x, x = w.heap.size := ⟨_, rfl⟩
    have hV : RowV (w.alloc (.cells #[.int .i64 2, str name, str nt, .int .i64 (file : Int)] 92)) F v l.length 2 (dirC l) := HV.out
    have hF : Frm [] w (w.alloc (.cells #[.int .i64 2, str name, str nt, .int .i64 (file : Int)] 92)) := HF.out
    have hR : RowAt (w.alloc (.cells #[.int .i64 2, str name, str nt, .int .i64 (file : Int)] 92)) w.heap.size 92 [.int .i64 2, str name, str nt, .int .i64 (file : Int)] := HR.out
    have hS : w.heap.size < (w.alloc (.cells #[.int .i64 2, str name, str nt, .int .i64 (file : Int)] 92)).heap.size := HSZ.out
    clear HV HF HR HSZ
    rw [← hw0] at hV hF hR hS ⊢
    rw [← hx] at hR hS ⊢
    have HX := Lib.hid hx
    have HV := Lib.hid hV
    have HF := Lib.hid hF
    have HS := Lib.hid hS
    have q1 := hR.cell (i := 1) rfl
    have q2 := hR.cell (i := 2) rfl
    have q3 := hR.cell (i := 3) rfl
    clear hw0 hx hV hF hR hS
    go_region_held3 (fun w' => w'.cell? ⟨x, 1, none⟩ = some (str name) ∧ w'.cell? ⟨x, 2, none⟩ = some (str nt) ∧ w'.cell? ⟨x, 3, none⟩ = some (.int .i64 (file : Int))) (first | exact ⟨q1, q2, q3⟩ | exact ⟨s1, s2, s3⟩ | exact ⟨p1, p2, p3⟩) (first | (go_at_call 75; (with_reducible refine (rwith_any (rowV_new (F := []) ho1 (by simp)) (by have := HLW.out; omega) nt file).mono ?_); rintro e2 w2 ⟨⟨a2, c2, rfl, ho2⟩, hf2⟩; have s1 := hf2.cell p1 (by simp); have s2 := hf2.cell p2 (by simp); have s3 := hf2.cell p3 (by simp)) | (go_at_call 76; refine (rwithout_any (HV.out.nil (by first | exact Frm.refl [] w0 | exact (Frm.refl [] w0).drew | exact (Frm.refl [] w0).drewN _)) (by have := HL.out; omega) name).mono ?_; rintro e1 w1 ⟨⟨a1, c1, rfl, ho1⟩, hf1⟩; have fr1 : Frm [] w0 w1 := Frm.trans (by first | exact Frm.refl [] w0 | exact (Frm.refl [] w0).drew | exact (Frm.refl [] w0).drewN _) hf1 (by simp); have p1 := fr1.cell q1 (by simp); have p2 := fr1.cell q2 (by simp); have p3 := fr1.cell q3 (by simp)))
    go_wp2_with fail
    go_ret
    exact ⟨⟨a2, c2, rfl, ownsB_mono ho2 (Nat.le_trans HF.out.size fr1.size)⟩, (HF.out.trans fr1 (by simp)).trans hf2 (by simp)⟩
  · show Calls _ _ #[v, .agg #[.int .i64 3, str name, str nt, .int .i64 (file : Int)]] w _
    have hc : Calls Try.prog 76 #[v, str name] (w.alloc (.cells #[.int .i64 3, str name, str nt, .int .i64 (file : Int)] 92)) fun e w' => DirEnd w.heap.size (withoutD l name) w' e ∧ Frm [] w w' := by
      refine (rwithout_any HV.out (by omega) name).mono ?_
      rintro e1 w1 ⟨⟨a1, c1, rfl, ho1⟩, hf1⟩
      exact ⟨⟨a1, c1, rfl, ownsB_mono ho1 HF.out.size⟩, HF.out.trans hf1 (by simp)⟩
    have hd : doneD l ⟨3, name, nt, file⟩ = withoutD l name := rfl
    rw [hd]
    clear hd hl
    go_enter Try.func62, Try.ntmps62
    go_wp2_with fail
    refine hc.mono ?_
    rintro e1 w1 ⟨⟨a1, c1, rfl, ho1⟩, hf1⟩
    go_wp2_with fail
    go_ret
    exact ⟨⟨a1, c1, rfl, ho1⟩, hf1⟩

end Go.Proofs.Ytkebdgbjgbcneaa
