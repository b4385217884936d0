/- Contracts of Used and check of the program's disk. -/
import Derived.Test.YtkebdgbjgbcneaaDC
namespace Go.Proofs.Ytkebdgbjgbcneaa
open Go.RowKit Go.Maps

theorem sumL_le {g : Nm × Nat → Nat} : ∀ {l : Dir} {left : Lit → Bool}, sumL g l left ≤ (l.map g).sum
  | [], _ => Nat.le_refl _
  | p :: r, left => by
    have h1 := sumL_le (g := g) (l := r) (left := left)
    unfold sumL at h1 ⊢
    rw [List.filter_cons]
    split
    · rw [List.map_cons, List.sum_cons, List.map_cons, List.sum_cons]; omega
    · rw [List.map_cons, List.sum_cons]; omega

set_option linter.unusedSimpArgs false in
set_option maxRecDepth 100000 in
set_option maxHeartbeats 1000000 in
theorem used_any {w : World} {d b1 N : Nat} {x2 x3 : Value} {bs : Nat → Nat} {vs : Nat → Value} {live : List Nat} {m : DM} (h : RowAt w d 58 (hdC m (.map (some b1)) x2 x3)) (hm : MapD w b1 bs m.dir) (hf : FilesAt w bs vs live m.files) (hl : ∀ p ∈ m.dir, p.2 ∈ live) (ho : DOk N m) :
    Calls Try.prog 30 #[.pointer (some ⟨d, 0, none⟩)] w fun e w' => e = .returned (.int .i64 (usedD m.files m.dir : Int)) ∧ Frm [] w w' := by
  have c1 := h.cell (i := 1) rfl
  have HM := Lib.hid hm
  have HF := Lib.hid hf
  have HL := Lib.hid hl
  have HA := Lib.hid ho.dirOk.asc
  have HU := Lib.hid ho.used
  obtain ⟨g, hg⟩ : ∃ g : Nm × Nat → Nat, g = fun p => (fileAt m.files p.2).data.length := ⟨_, rfl⟩
  have HG := Lib.hid hg
  have hus : usedD m.files m.dir = (m.dir.map g).sum := by rw [hg]; rfl
  rw [hus] at HU ⊢
  clear h hm hf hl ho hg hus
  go_enter Try.func30, Try.ntmps30
  go_wp2_with (first | (at_range; refine wpl_range rfl _ rfl b1 bs m.dir rfl HM.out ?_; intro w1 hr1 hf1 hs1) | fail)
  go_frame
  have HR1 := Lib.hid hr1
  have HF1 := Lib.hid hf1
  clear hr1 hf1 c1
  have hsz1 : w.heap.size < w1.heap.size := by omega
  obtain ⟨r, hr⟩ : ∃ r, r = w.heap.size := ⟨_, rfl⟩
  have HRR := Lib.hid hr
  rw [← hr] at HR1 ⊢
  clear hr hs1
  go_loopg [3] m.dir.length (fun q s3 wr => ∃ (left : Lit → Bool) (cnt : Nat), cnt = q ∧ s3 = .int .i64 ((sumL g m.dir left : Nat) : Int) ∧ Rng wr b1 r bs m.dir left cnt ∧ Frm [] w wr)
  case atStart => exact ⟨_, _, rfl, by rw [sumL_none (fun p hp => by rw [dir_has]; cases hq : findD m.dir p.1 with | some _ => rfl | none => exact absurd rfl (findD_none hq p hp))]; rfl, HR1.out, HF1.out⟩
  case round =>
    obtain ⟨left, cnt, rfl, rfl, hrg, hfr⟩ := hrel
    have HRG := Lib.hid hrg
    have HFR := Lib.hid hfr
    obtain ⟨S, hS⟩ : ∃ S, S = sumL g m.dir left := ⟨_, rfl⟩
    have hSb : S ≤ 268435456 := by rw [hS]; exact Nat.le_trans sumL_le HU.out
    have HS := Lib.hid hS
    rw [← hS]
    clear hrg hfr hS
    go_wp2_with (first | (at_next; refine wpl_next rfl _ rfl b1 r bs m.dir left cnt rfl HRG.out ?_ ?_) | fail)
    · intro hc0 hl0
      have HL0 := Lib.hid hl0
      clear hl0
      go_wp2_with fail
      go_ret
      refine ⟨?_, HFR.out⟩
      rw [← sumL_all HL0.out, ← HS.out]
      rfl
    · intro s i w2 cnt2 hmem hleft hsl hrg2 hlt hf2 hs2 hen
      have HFW : Hid (Frm [] w w2) := Lib.hid (HFR.out.trans hf2 (fun x hx => .inr (by rw [List.mem_singleton] at hx; rw [hx, HRR.out]; exact Nat.le_refl _)))
      have FA := HF.out.frm HFW.out (by simp)
      have hat := (FA.at_ i (HL.out _ hmem)).cell (i := 0) rfl
      obtain ⟨av, cv, hv, hvl⟩ := buf_shape (FA.data i (HL.out _ hmem))
      rw [hv] at hat
      have hgi : (fileAt m.files i).data.length = g (s, i) := by rw [HG.out]
      have HST := Lib.hid (sumL_step (g := g) HA.out hmem hleft)
      have hle : S + g (s, i) ≤ 268435456 := by rw [HS.out, ← HST.out]; exact Nat.le_trans sumL_le HU.out
      rw [hgi] at hat
      have iw : IntKind.i64.wrap ((S : Int) + (g (s, i) : Int)) = ((S + g (s, i) : Nat) : Int) := by rw [IntWalk.i64_in _ (by omega)]; omega
      have HRG2 := Lib.hid hrg2
      clear FA hv hvl hgi hmem hleft hsl hrg2 hf2 hs2 HRG
      go_wp2_with fail
      go_roundg cnt2
      case rel => exact ⟨_, cnt2, rfl, by rw [HST.out, ← HS.out]; first | rfl | go_num, HRG2.out, HFW.out⟩
      case measure => omega

end Go.Proofs.Ytkebdgbjgbcneaa
