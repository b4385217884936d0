/- The reference's disk: contracts of Used, Names, Fail. -/
import Derived.Test.YtkebdgbjgbcneaaE9
import Derived.Test.YtkebdgbjgbcneaaDN
namespace Go.Proofs.Ytkebdgbjgbcneaa
open Go.RowKit Go.Maps Go.Shelf

theorem fileC_len (l : List (Value × FM)) : (fileC l).length = l.length * 2 := by
  induction l with
  | nil => rfl
  | cons p r ih =>
    simp only [fileC, List.flatMap_cons, List.length_append, List.length_cons, List.length_nil] at ih ⊢
    omega
theorem fileC_get : ∀ {l : List (Value × FM)} {i : Nat} {p : Value × FM}, l[i]? = some p → (fileC l)[i * 2]? = some p.1 ∧ (fileC l)[i * 2 + 1]? = some (.int .i64 (p.2.safe : Int))
  | [], i, p, h => by simp at h
  | q :: r, 0, p, h => by
    simp only [List.getElem?_cons_zero, Option.some.injEq] at h
    subst h
    exact ⟨rfl, rfl⟩
  | q :: r, i + 1, p, h => by
    rw [List.getElem?_cons_succ] at h
    obtain ⟨h1, h2⟩ := fileC_get h
    have e1 : (i + 1) * 2 = (i * 2) + 2 := by omega
    exact ⟨by rw [e1]; exact h1, by rw [e1]; exact h2⟩
theorem used_take {fs : List FM} {l : Dir} {k : Nat} {p : Nm × Nat} (hp : l[k]? = some p) : usedD fs (l.take (k + 1)) = usedD fs (l.take k) + (fileAt fs p.2).data.length := by
  rw [usedD, usedD, List.take_add_one, hp]
  simp
theorem used_take_le {fs : List FM} (l : Dir) (k : Nat) : usedD fs (l.take k) ≤ usedD fs l := by
  have e : usedD fs (l.take k ++ l.drop k) = usedD fs (l.take k) + usedD fs (l.drop k) := by rw [usedD, usedD, usedD, List.map_append, List.sum_append]
  rw [List.take_append_drop] at e
  omega
section
variable {w : World} {F : List Nat} {d N : Nat} {m : DM} {fv dv sv ov : Value} {l : List (Value × FM)}
theorem RDv.file (h : RDv w F d m fv dv sv ov l) {i : Nat} (hi : i < m.files.length) : ∃ v, l[i]? = some (v, fileAt m.files i) := by
  have hl : l.length = m.files.length := by rw [← h.fm, List.length_map]
  obtain ⟨p, hp⟩ : ∃ p, l[i]? = some p := ⟨_, List.getElem?_eq_getElem (by omega)⟩
  have h2 : (l.map (·.2))[i]? = some p.2 := by rw [List.getElem?_map, hp]; rfl
  rw [h.fm] at h2
  have := fileAt_of h2
  exact ⟨p.1, by rw [this]; exact hp⟩
theorem RDv.flen (h : RDv w F d m fv dv sv ov l) : l.length = m.files.length := by rw [← h.fm, List.length_map]
/-- What lies at file i: its slice of bytes and its number of durable bytes. -/
theorem RDv.at_ (h : RDv w F d m fv dv sv ov l) {i : Nat} (hi : i < m.files.length) : ∃ b o c a c', fv = .slice (some ⟨b, o, none⟩) m.files.length c ∧ m.files.length ≤ c ∧ c ≤ maxLen ∧ b ∉ F ∧ w.cell? ⟨b, o + i * 2, none⟩ = some (.slice a (fileAt m.files i).data.length c') ∧ w.cell? ⟨b, o + (i * 2 + 1), none⟩ = some (.int .i64 ((fileAt m.files i).safe : Int)) ∧ RowV w F (.slice a (fileAt m.files i).data.length c') (fileAt m.files i).data.length 1 (byt (fileAt m.files i).data) := by
  obtain ⟨v, hv⟩ := h.file hi
  have hr : RowV w F v (fileAt m.files i).data.length 1 (byt (fileAt m.files i).data) := h.fd _ (List.mem_of_getElem? hv)
  have hr2 := hr
  obtain ⟨_, a, c', rfl, _⟩ := hr2
  obtain ⟨_, fa, fc, e, h2, h3, _, hcell⟩ := h.fr
  obtain ⟨g0, g1⟩ := fileC_get hv
  obtain ⟨b, o, rfl, hb, _, c0⟩ := hcell _ _ g0
  obtain ⟨b', o', e', _, _, c1⟩ := hcell _ _ g1
  cases e'
  rw [h.flen] at e h2
  exact ⟨b, o, fc, a, c', e, h2, h3, hb, c0, c1, hr⟩
set_option linter.unusedSimpArgs false in
set_option maxRecDepth 100000 in
set_option maxHeartbeats 1000000 in
theorem rused_any (h : RDv w F d m fv dv sv ov l) (ho : DOk N m) :
    Calls Try.prog 48 #[.pointer (some ⟨d, 0, none⟩)] w fun e w' => e = .returned (.int .i64 (usedD m.files m.dir : Int)) ∧ Frm [] w w' := by
  have c1 := h.hd.cell (i := 1) rfl
  have c2 := h.hd.cell (i := 2) rfl
  have HH := Lib.hid h
  have HU := Lib.hid ho.used
  have HD := Lib.hid ho.dirOk.file
  obtain ⟨_, da, dc, e, hlc, hcm, _, hcell⟩ := h.dir
  subst e
  obtain ⟨n, hn⟩ : ∃ n, n = m.dir.length := ⟨_, rfl⟩
  rw [← hn] at c2 hlc
  have i1 : (n : Int) ≤ (dc : Int) := by omega
  have i2 : (dc : Int) ≤ 9223372036854775807 := by unfold maxLen at hcm; omega
  have HC := Lib.hid hcell
  have HN := Lib.hid hn
  clear h ho hlc hcm hcell hn
  go_enter Try.func48, Try.ntmps48
  go_wp2_with fail
  go_loopg [3, 4] n (fun q s3 s4 wr => ∃ (k S : Nat), q = n - k ∧ k ≤ n ∧ s4 = .int .i64 (k : Int) ∧ s3 = .int .i64 (S : Int) ∧ S = usedD m.files (m.dir.take k) ∧ Frm [] w wr)
  case atStart => exact ⟨0, 0, rfl, Nat.zero_le _, rfl, rfl, rfl, Frm.refl _ _⟩
  case round =>
    obtain ⟨k, S, rfl, hk, rfl, rfl, hS, hF⟩ := hrel
    have HF := Lib.hid hF
    have HS := Lib.hid hS
    have i4 : (0 : Int) ≤ (k : Int) := by omega
    have c1r := hF.cell c1 (by simp)
    have c2r := hF.cell c2 (by simp)
    clear hF hS
    by_cases hlt : k < n
    · have i5 : (k : Int) < (n : Int) := by omega
      obtain ⟨p, hp⟩ : ∃ p, m.dir[k]? = some p := ⟨_, List.getElem?_eq_getElem (by rw [← HN.out]; exact hlt)⟩
      obtain ⟨_, g1⟩ := dirC_get hp
      obtain ⟨b, o, rfl, _, _, e1⟩ := HC.out _ _ g1
      have e1r := HF.out.cell e1 (by simp)
      rw [← Nat.add_assoc] at e1r
      have hpm := HD.out p (List.mem_of_getElem? hp)
      obtain ⟨fb, fo, fc, a, c', rfl, hf1, hf2, hfb, f0, f1, fr⟩ := HH.out.at_ hpm
      have f0r := HF.out.cell f0 (by simp)
      have i6 : (p.2 : Int) < (m.files.length : Int) := by omega
      have i7 : (0 : Int) ≤ (p.2 : Int) := by omega
      have i8 : (m.files.length : Int) ≤ 9223372036854775807 := by unfold maxLen at hf2; omega
      have HST := Lib.hid (used_take (fs := m.files) hp)
      have hle : S + (fileAt m.files p.2).data.length ≤ 268435456 := by rw [HS.out, ← HST.out]; exact Nat.le_trans (used_take_le _ _) HU.out
      obtain ⟨dl, hdl⟩ : ∃ dl, dl = (fileAt m.files p.2).data.length := ⟨_, rfl⟩
      rw [← hdl] at f0r hle
      have HDL := Lib.hid hdl
      have iw : IntKind.i64.wrap ((S : Int) + (dl : Int)) = ((S + dl : Nat) : Int) := by rw [IntWalk.i64_in _ (by omega)]; omega
      clear hp g1 e1 f0 f1 fr hpm hle hdl hf1 hf2 hfb c1 c2
      go_wp2_with fail
      go_quiet (fail)
      go_wp2_with fail
      go_roundg (n - (k + 1))
      case rel => exact ⟨k + 1, S + dl, rfl, hlt, by go_num, by first | rfl | go_num, by rw [HST.out, HS.out, HDL.out], by first | exact HF.out | exact HF.out.drewN _ | exact HF.out.drew⟩
      case measure => omega
    · have i5 : ¬ (k : Int) < (n : Int) := by omega
      have HR : Hid (S = usedD m.files m.dir) := Lib.hid (by rw [HS.out, List.take_of_length_le (by rw [← HN.out]; omega)])
      go_wp2_with fail
      go_ret
      exact ⟨by rw [← HR.out]; rfl, HF.out⟩
set_option linter.unusedSimpArgs false in
set_option maxRecDepth 100000 in
set_option maxHeartbeats 1000000 in
theorem rnames_any (h : RDv w F d m fv dv sv ov l) (ho : DOk N m) :
    Calls Try.prog 47 #[.pointer (some ⟨d, 0, none⟩)] w fun e w' => NamesEnd w.heap.size (namesM m) w' e ∧ Frm [] w w' := by
  have c2 := h.hd.cell (i := 2) rfl
  obtain ⟨_, da, dc, e, hlc, hcm, _, hcell⟩ := h.dir
  subst e
  have hfew := ho.dirOk.few
  obtain ⟨n, hn⟩ : ∃ n, n = m.dir.length := ⟨_, rfl⟩
  rw [← hn] at c2 hlc hfew
  have i1 : (n : Int) ≤ (dc : Int) := by omega
  have i2 : (dc : Int) ≤ 9223372036854775807 := by unfold maxLen at hcm; omega
  have HC := Lib.hid hcell
  have HN := Lib.hid hn
  have HFW := Lib.hid hfew
  clear h ho hlc hcm hcell hn hfew
  go_enter Try.func47, Try.ntmps47
  go_wp2_with fail
  go_loopg [3, 4] n (fun q s3 s4 wr => ∃ (k : Nat) (a3 : Option Addr) (c3 : Nat), q = n - k ∧ k ≤ n ∧ s4 = .int .i64 (k : Int) ∧ s3 = .slice a3 k c3 ∧ wr.ownsRow w.heap.size 9 1 (.slice a3 k c3) k (strs ((m.dir.take k).map (·.1))) ∧ Frm [] w wr)
  case atStart => exact ⟨0, none, 0, rfl, Nat.zero_le _, rfl, rfl, World.ownsRow_nil _ _ _ _, Frm.refl _ _⟩
  case round =>
    obtain ⟨k, a3, c3, rfl, hk, rfl, rfl, hown, hF⟩ := hrel
    have HF := Lib.hid hF
    have HO := Lib.hid hown
    have i4 : (0 : Int) ≤ (k : Int) := by omega
    have hszr := hF.size
    have c2r := hF.cell c2 (by simp)
    have hfw := HFW.out
    clear hF hown
    by_cases hlt : k < n
    · have i5 : (k : Int) < (n : Int) := by omega
      obtain ⟨p, hp⟩ : ∃ p, m.dir[k]? = some p := ⟨_, List.getElem?_eq_getElem (by rw [← HN.out]; exact hlt)⟩
      obtain ⟨g0, _⟩ := dirC_get hp
      obtain ⟨b, o, rfl, _, _, e0⟩ := HC.out _ _ g0
      have e0r := HF.out.cell e0 (by simp)
      have HTK : Hid ((m.dir.take (k + 1)).map (·.1) = (m.dir.take k).map (·.1) ++ [p.1]) := Lib.hid (by rw [List.take_add_one, hp]; simp)
      clear hp g0 e0 c2
      go_wp2_with (first | (at_builtin; refine app_str rfl _ _ rfl w.heap.size k (.slice a3 k c3) ((m.dir.take k).map (·.1)) rfl (HO.out.alloc _) wr.heap.size p.1 rfl ((RowAt.made wr 9 [str p.1] #[str p.1] rfl).cell (i := 0) rfl) (by omega) (by simp; omega) ?_; intro a9 c9 w9 hown9 hf9 hloc9) | fail)
      have HF9 : Hid (Frm [] w w9) := Lib.hid (frm_own (HF.out.alloc _) (HO.out.alloc _) (Nat.le_refl _) hf9)
      rw [← HTK.out] at hown9
      have HO9 := Lib.hid hown9
      clear hown9 hf9 hloc9
      go_wp2_with fail
      go_roundg (n - (k + 1))
      case rel => exact ⟨k + 1, a9, c9, rfl, hlt, by go_num, rfl, HO9.out, HF9.out⟩
      case measure => omega
    · have i5 : ¬ (k : Int) < (n : Int) := by omega
      have hkn : k = n := by omega
      have HR : Hid ((m.dir.take k).map (·.1) = namesM m) := Lib.hid (by rw [List.take_of_length_le (by rw [← HN.out]; omega)]; rfl)
      have HL : Hid (k = (namesM m).length) := Lib.hid (by rw [hkn, HN.out]; simp [namesM])
      clear hkn
      go_wp2_with fail
      go_ret
      refine ⟨⟨a3, c3, ?_, ?_⟩, HF.out⟩
      · rw [← HL.out]; rfl
      · rw [← HL.out, ← HR.out]; exact HO.out
set_option linter.unusedSimpArgs false in
theorem rfail_any (h : RDv w F d m fv dv sv ov l) (n : Int) :
    Calls Try.prog 45 #[.pointer (some ⟨d, 0, none⟩), .int .i64 n] w fun e w' => (e = .returned (.tuple #[]) ∧ RDv w' F d (failM m n) fv dv sv ov l) ∧ Frm [d] w w' := by
  have c6 := h.hd.cell (i := 6) rfl
  have z5 := h.hd.frozen 5
  have c5 := h.hd.cell (i := 5) rfl
  cases hoff : m.off
  · rw [hoff] at c6
    have hm : failM m n = { m with armed := n.toNat } := by rw [failM, if_neg (by rw [hoff]; decide)]
    rw [hm]
    have hmx : max n 0 = ((n.toNat : Nat) : Int) := by omega
    have hr := h.hd.setCell 5 (.int .i64 ((n.toNat : Nat) : Int))
    have fz : Frm [d] w (w.setCell ⟨d, 5, none⟩ (.int .i64 ((n.toNat : Nat) : Int))) := (Frm.refl [d] w).setCell (p := ⟨d, 5, none⟩) (.inl (by simp)) _
    have HE : Hid (RDv (w.setCell ⟨d, 5, none⟩ (.int .i64 ((n.toNat : Nat) : Int))) F d { m with armed := n.toNat } fv dv sv ov l) := Lib.hid (h.turn fz hr h.fm (h.fr.frm fz h.mine) (fun p hp => (h.fd p hp).frm fz h.mine) (h.dir.frm fz h.mine) (h.safe.frm fz h.mine) (h.ops.frm fz h.mine))
    have HFZ := Lib.hid fz
    have HMX := Lib.hid hmx
    clear h hoff hm hr fz hmx
    go_enter Try.func45, Try.ntmps45
    go_wp2_with fail
    rw [HMX.out]
    go_end0
    exact ⟨⟨rfl, HE.out⟩, HFZ.out⟩
  · rw [hoff] at c6
    have hm : failM m n = m := by rw [failM, if_pos hoff]
    rw [hm]
    have HE := Lib.hid h
    clear h hoff hm
    go_enter Try.func45, Try.ntmps45
    go_wp2_with fail
    go_end0
    exact ⟨⟨rfl, HE.out⟩, Frm.refl _ _⟩
set_option linter.unusedSimpArgs false in
theorem rpick_any (n c : Nat) (a : Option Addr) (keep : List Int) (h : RowV w F (.slice a n c) n 1 (ints keep)) (i : Nat) (hi : i ≤ 1000000) :
    Calls Try.prog 61 #[.slice a n c, .int .i64 (i : Int)] w fun e w' => e = .returned (.int .i64 (pickM keep i : Int)) ∧ w' = w := by
  obtain ⟨h1, a', c', e, hnc, hcm, _, hcell⟩ := h
  cases e
  rw [Nat.mul_one] at h1
  have hl : keep.length = n := by rw [← h1]; simp [ints]
  have i0 : (0 : Int) ≤ (i : Int) := by omega
  have i2 : (n : Int) ≤ 9223372036854775807 := by unfold maxLen at hcm; omega
  by_cases hlt : i < n
  · obtain ⟨x, hx⟩ : ∃ x, keep[i]? = some x := ⟨_, List.getElem?_eq_getElem (by omega)⟩
    obtain ⟨b, o, rfl, _, _, hc⟩ := hcell i (.int .i64 x) (by simp [ints, hx])
    have hp : pickM keep i = x.toNat := by rw [pickM, List.getD_eq_getElem?_getD, hx]; rfl
    have hmx : max x 0 = ((x.toNat : Nat) : Int) := by omega
    have i5 : ¬ (n : Int) ≤ (i : Int) := by omega
    have i6 : (i : Int) < (n : Int) := by omega
    rw [hp]
    have HMX := Lib.hid hmx
    clear hcell hp hmx hx hnc hcm h1 hl
    go_enter Try.func61, Try.ntmps61
    go_wp2_with fail
    go_ret
    exact ⟨by first | rfl | (rw [HMX.out]; rfl), rfl⟩
  · have i5 : (n : Int) ≤ (i : Int) := by omega
    have hp : pickM keep i = 0 := by rw [pickM, List.getD_eq_getElem?_getD, List.getElem?_eq_none (by omega)]; rfl
    rw [hp]
    clear hcell hp hnc hcm h1 hl
    go_enter Try.func61, Try.ntmps61
    go_wp2_with fail
    go_ret
    exact ⟨rfl, rfl⟩
end

end Go.Proofs.Ytkebdgbjgbcneaa
