/- The program's Copy: the closure that copies a directory. -/
import Derived.Test.YtkebdgbjgbcneaaET
import Derived.Laws.EntriesVeiled
namespace Go.Proofs.Ytkebdgbjgbcneaa
open Go.RowKit Go.Maps Go.Shelf

theorem ins_front {s : Nm} {f : Nat} : ∀ {l : Dir}, (∀ q ∈ l, bytesBefore s q.1 = true) → insD s f l = (s, f) :: l
  | [], _ => rfl
  | q :: r, h => by rw [insD, if_pos (h q List.mem_cons_self)]
theorem filter_visit {P : Nm × Nat → Bool} {s : Nm} {i : Nat} : ∀ {l : Dir}, (l.Pairwise fun p q => bytesBefore p.1 q.1 = true) → (s, i) ∈ l → P (s, i) = false → insD s i (l.filter P) = l.filter (fun p => P p || (p.1 == s))
  | [], _, h, _ => by cases h
  | p :: r, ha, hm, hP => by
    obtain ⟨h1, h2⟩ := List.pairwise_cons.1 ha
    rcases List.mem_cons.1 hm with e | hm'
    · subst e
      have hne : ∀ q ∈ r, (q.1 == s) = false := fun q hq => beq_eq_false_iff_ne.2 (fun e => by
        have := h1 q hq
        rw [e] at this
        rw [bb_irrefl] at this
        cases this)
      rw [List.filter_cons_of_neg (by simp [hP]), List.filter_cons_of_pos (by simp), ins_front (fun q hq => h1 q (List.mem_filter.1 hq).1)]
      congr 1
      exact List.filter_congr (fun q hq => by rw [hne q hq]; simp)
    · have hps := h1 _ hm'
      have hne : (p.1 == s) = false := beq_eq_false_iff_ne.2 (fun e => by
        rw [e] at hps
        rw [bb_irrefl] at hps
        cases hps)
      have ih := filter_visit h2 hm' hP
      cases hp : P p
      · rw [List.filter_cons_of_neg (by simp [hp]), List.filter_cons_of_neg (by simp [hp, hne]), ih]
      · rw [List.filter_cons_of_pos hp, List.filter_cons_of_pos (by simp [hp]), insD, if_neg (by rw [bb_asymm hps]; decide), ih]
theorem dir_visit {n : Nat} {l : Dir} (ho : DirOk n l) {left : Lit → Bool} {s : Nm} {i : Nat} (hm : (s, i) ∈ l) (hl : left (.string s) = true) : withD (l.filter fun p => !left (.string p.1)) s i = l.filter (fun p => !(left (.string p.1) && !(Lit.string p.1).sameKey (.string s))) := by
  have h1 : withoutD (l.filter fun p => !left (.string p.1)) s = l.filter fun p => !left (.string p.1) := by
    rw [withoutD]
    refine List.filter_eq_self.2 (fun p hp => ?_)
    have hp2 := (List.mem_filter.1 hp).2
    simp
    intro e
    rw [e, hl] at hp2
    cases hp2
  rw [withD, h1, filter_visit ho.asc hm (by simp [hl])]
  exact List.filter_congr (fun p _ => by rw [same_str]; cases left (.string p.1) <;> simp)
section
variable {W W' : World} {B mb : Nat} {bs bs' : Nat → Nat} {vs vs' : Nat → Value} {live done : List Nat} {fs : List FM}
/-- What the closure answers at a directory. -/
def AllEnd (W : World) (B mb : Nat) (bs : Nat → Nat) (live : List Nat) (fs : List FM) (bs' : Nat → Nat) (done : List Nat) (l : Dir) (W' : World) (e : Ending) : Prop :=
  ∃ (bs2 : Nat → Nat) (vs2 : Nat → Value) (done2 : List Nat) (b2 : Nat), e = .returned (.map (some b2)) ∧ W.heap.size ≤ b2 ∧ MapD W' b2 bs2 l ∧ (∀ p ∈ l, p.2 ∈ done2) ∧ CS W' B mb bs live fs bs2 vs2 done2 ∧ (∀ j ∈ done, j ∈ done2 ∧ bs2 j = bs' j) ∧ Frm [mb] W W'
theorem FilesAt.keepm (old : FilesAt W bs vs live fs) {kv : List (Option Nat × Option Nat)} (h : PMap W mb kv) {w' : World} (hf : Frm [mb] W w') : FilesAt w' bs vs live fs :=
  old.frm hf (fun k hk hm => by
    rw [List.mem_singleton] at hm
    subst hm
    rcases mem_fileB.1 hk with ⟨j, hj, e⟩ | ⟨j, hj, hk2⟩
    · exact h.ne_row (old.at_ j hj) e
    · exact h.ne_buf (old.data j hj) _ hk2 rfl)
theorem Rng.frm {w w' : World} {b r cnt : Nat} {bs : Nat → Nat} {l : Dir} {left : Lit → Bool} {fp : List Nat} (h : Rng w b r bs l left cnt) (hf : Frm fp w w') (hb : b ∉ fp) (hr : r ∉ fp) : Rng w' b r bs l left cnt := by
  obtain ⟨es, clock, since, seen, c0, h1, h2, h3, h4, h5, h6⟩ := h
  exact ⟨es, clock, since, seen, c0, (hf.block b (Array.getElem?_eq_some_iff.1 h1).1 hb).trans h1, h2, h3, h4, (hf.block r (Array.getElem?_eq_some_iff.1 h5).1 hr).trans h5, h6⟩
theorem Rng.ne_row {w : World} {b r cnt g e : Nat} {bs : Nat → Nat} {l : Dir} {left : Lit → Bool} {xs : List Value} (h : Rng w b r bs l left cnt) (hr : RowAt w g e xs) : g ≠ r := by
  obtain ⟨es, clock, since, seen, c0, h1, h2, h3, h4, h5, h6⟩ := h
  obtain ⟨cur, hg, _⟩ := hr
  intro e
  subst e
  rw [hg] at h5
  cases h5
theorem Rng.ne_buf {w : World} {b r cnt n : Nat} {bs : Nat → Nat} {l : Dir} {left : Lit → Bool} {v : Value} {xs : List UInt8} (h : Rng w b r bs l left cnt) (hr : BufAt w v n xs) : ∀ k, v.ownBlock = some k → k ≠ r := fun k hk e => by
  obtain ⟨es, clock, since, seen, c0, h1, h2, h3, h4, h5, h6⟩ := h
  rcases hr.2 with ⟨rfl, _⟩ | ⟨g, cap, cur, rfl, hg, _⟩
  · simp [Value.ownBlock] at hk
  · simp [Value.ownBlock] at hk
    subst hk
    subst e
    rw [hg] at h5
    cases h5
theorem CS.ne_rng {b r cnt : Nat} {bs9 : Nat → Nat} {l : Dir} {left : Lit → Bool} (h : CS W B mb bs live fs bs' vs' done) (hr : Rng W b r bs9 l left cnt) : ∀ k ∈ fileB bs' vs' done, k ≠ r := fun k hk => by
  rcases mem_fileB.1 hk with ⟨i, hi, rfl⟩ | ⟨i, hi, hk⟩
  · exact hr.ne_row (h.files.at_ i hi)
  · exact hr.ne_buf (h.files.data i hi) k hk
theorem CS.ne_map {b : Nat} {bs9 : Nat → Nat} {l : Dir} (h : CS W B mb bs live fs bs' vs' done) (hr : MapD W b bs9 l) : ∀ k ∈ fileB bs' vs' done, k ≠ b := fun k hk => by
  rcases mem_fileB.1 hk with ⟨i, hi, rfl⟩ | ⟨i, hi, hk⟩
  · exact hr.ne_row (h.files.at_ i hi)
  · obtain ⟨es, clock, h1, h2⟩ := hr
    rcases (h.files.data i hi).2 with ⟨e, _⟩ | ⟨g, cap, cur, e, hg, _⟩
    · rw [e] at hk; simp [Value.ownBlock] at hk
    · rw [e] at hk
      simp [Value.ownBlock] at hk
      subst hk
      intro e9
      subst e9
      rw [hg] at h1
      cases h1
set_option linter.unusedSimpArgs false in
set_option maxRecDepth 100000 in
set_option maxHeartbeats 4000000 in
theorem all_any (h : CS W B mb bs live fs bs' vs' done) (hB : B ≤ W.heap.size) (old : FilesAt W bs vs live fs) (hlen : ∀ i ∈ live, (fileAt fs i).data.length ≤ 1000000000) {cb ob b1 n0 : Nat} {l : Dir} (hm : MapD W b1 bs l) (hdo : DirOk n0 l) (hl : ∀ p ∈ l, p.2 ∈ live) (hc : W.cell? ⟨cb, 0, none⟩ = some (.map (some mb))) (hcb : cb ≠ mb) (hob : W.cell? ⟨ob, 0, none⟩ = some (.func (Fn.func 49) #[] #[.pointer (some ⟨cb, 0, none⟩)])) (hobm : ob ≠ mb) (hb1 : b1 ≠ mb) :
    Calls Try.prog 50 #[.map (some b1), .pointer (some ⟨ob, 0, none⟩)] W fun e W' => AllEnd W B mb bs live fs bs' done l W' e := by
  have hmm := @run_makeMap Try.prog
  have f0 : Frm [] W (W.alloc (.map #[] 0)) := (Frm.refl [] W).alloc _
  have hm0 := MapD.made W bs'
  have hob0 := f0.cell hob (by simp)
  have hc0 := f0.cell hc (by simp)
  have HM := Lib.hid (hm.frm f0 (by simp))
  have HH := Lib.hid (h.nil f0)
  have HOLD := Lib.hid (old.frm f0 (by simp))
  have HM0 := Lib.hid hm0
  have HF0 := Lib.hid f0
  have HDO := Lib.hid hdo
  have HL := Lib.hid hl
  have HLEN := Lib.hid hlen
  have HB := Lib.hid hB
  have HMB := Lib.hid h.map.lt
  have HOLDW := Lib.hid old
  have HB1 : Hid (b1 < W.heap.size) := Lib.hid hm.lt
  have HPW := Lib.hid h.map
  have HOBW : Hid (ob < W.heap.size ∧ cb < W.heap.size) := Lib.hid ⟨World.block_lt_of_cell? W _ hob, World.block_lt_of_cell? W _ hc⟩
  have HNE := Lib.hid (And.intro hcb (And.intro hobm hb1))
  clear h hB old hlen hm hdo hl hc hob f0 hm0 hcb hobm hb1
  go_enter Try.func50, Try.ntmps50
  go_wp2_with (first | (at_range; refine wpl_range rfl _ rfl b1 bs l rfl HM.out ?_; intro w1 hr1 hf1 hs1) | fail)
  go_frame
  obtain ⟨r, hr⟩ : ∃ r, r = (W.alloc (.map #[] 0)).heap.size := ⟨_, rfl⟩
  have hr2 : r = W.heap.size + 1 := by rw [hr]; simp
  rw [← hr] at hr1 hs1 ⊢
  have HR1 := Lib.hid hr1
  have HF1 : Hid (Frm [] W w1) := Lib.hid (HF0.out.trans hf1 (by simp))
  have HH1 := Lib.hid (HH.out.nil hf1)
  have HM1 := Lib.hid (HM0.out.frm hf1 (by simp))
  have HO1 := Lib.hid (HOLD.out.frm hf1 (by simp))
  have hob1 := hf1.cell hob0 (by simp)
  have hc1 := hf1.cell hc0 (by simp)
  have HRW := Lib.hid hr2
  obtain ⟨ub, hub⟩ : ∃ ub, ub = W.heap.size := ⟨_, rfl⟩
  rw [← hub] at HM1 ⊢
  have HUB := Lib.hid hub
  clear hr1 hf1 hr hr2 hub hob0 hc0 HH HM0 HOLD HF0
  go_loopg [5, 6] l.length (fun q s5 s6 wr => ∃ (left : Lit → Bool) (cnt : Nat) (bs2 : Nat → Nat) (vs2 : Nat → Value) (done2 : List Nat), cnt = q ∧ Rng wr b1 r bs l left cnt ∧ CS wr B mb bs live fs bs2 vs2 done2 ∧ (∀ j ∈ done, j ∈ done2 ∧ bs2 j = bs' j) ∧ (∀ p ∈ l, left (.string p.1) = false → p.2 ∈ done2) ∧ MapD wr ub bs2 (l.filter fun p => !left (.string p.1)) ∧ Frm [mb] W wr ∧ wr.cell? ⟨ob, 0, none⟩ = some (.func (Fn.func 49) #[] #[.pointer (some ⟨cb, 0, none⟩)]) ∧ wr.cell? ⟨cb, 0, none⟩ = some (.map (some mb)))
  case atStart =>
    refine ⟨_, _, bs', vs', done, rfl, HR1.out, HH1.out, fun j hj => ⟨hj, rfl⟩, fun p hp h9 => ?_, ?_, HF1.out.mono (by simp), hob1, hc1⟩
    · rw [dir_has] at h9
      cases hq : findD l p.1 with
      | some _ => rw [hq] at h9; cases h9
      | none => exact absurd rfl (findD_none hq p hp)
    · have e : (l.filter fun p => !(has (dirDat bs l) (.string p.1))) = [] := List.filter_eq_nil_iff.2 (fun p hp => by
        rw [dir_has]
        cases hq : findD l p.1 with
        | some _ => simp
        | none => exact absurd rfl (findD_none hq p hp))
      rw [e]
      exact HM1.out
  case round =>
    obtain ⟨left, cnt, bs2, vs2, done2, rfl, hrg, hcs, hext, hvis, hmd, hfr, hobr, hcr⟩ := hrel
    have HRG := Lib.hid hrg
    have HCS := Lib.hid hcs
    have HEXT := Lib.hid hext
    have HVIS := Lib.hid hvis
    have HMD := Lib.hid hmd
    have HFR := Lib.hid hfr
    clear hrg hcs hext hvis hmd hfr
    go_wp2_with (first | (at_next; refine wpl_next rfl _ rfl b1 r bs l left cnt rfl HRG.out ?_ ?_) | fail)
    · intro hc0 hl0
      have HL0 := Lib.hid hl0
      clear hl0
      go_wp2_with fail
      go_ret
      refine ⟨bs2, vs2, done2, ub, rfl, by rw [HUB.out]; exact Nat.le_refl _, ?_, fun p hp => HVIS.out p hp (HL0.out _), HCS.out, HEXT.out, HFR.out⟩
      have := HMD.out
      rwa [List.filter_eq_self.2 (fun p _ => by simp [HL0.out])] at this
    · intro s i w2 cnt2 hmem hleft hsl hrg2 hlt hf2 hs2 hen
      have hrW := HRW.out
      have hubW := HUB.out
      have hmbW := HMB.out
      have hobW := HOBW.out
      have hne := HNE.out
      have HCS2 := Lib.hid (HCS.out.frm hf2 (by simp; omega) (fun k hk hm => HCS.out.ne_rng HRG.out k hk (by rwa [List.mem_singleton] at hm)))
      have HMD2 := Lib.hid (HMD.out.frm hf2 (by simp; omega))
      have HFR2 : Hid (Frm [mb] W w2) := Lib.hid (HFR.out.trans hf2 (fun y hy => by rw [List.mem_singleton] at hy; right; omega))
      have ob2 := hf2.cell hobr (by simp; omega)
      have c2 := hf2.cell hcr (by simp; omega)
      have HO2 := Lib.hid (HOLDW.out.keepm HPW.out HFR2.out)
      have HRG2 := Lib.hid hrg2
      have HML := Lib.hid (And.intro hmem (And.intro hleft hsl))
      have eg : ∀ args w, (callFunc 49 args).run Try.prog w = .ok (.enter 49 args) w := enters_of Try.func49 (by kernel_rfl) rfl
      have hub2 : ub < w2.heap.size := by have := HMD2.out.lt; exact this
      clear hmem hleft hsl hrg2 hf2 hrW hubW hmbW hobW hne hobr hcr hs2
      go_wp2_with fail
      have hBw : B ≤ w2.heap.size := Nat.le_trans HB.out HFR2.out.size
      refine (of_any HCS2.out hBw HO2.out HLEN.out (HL.out _ HML.out.1) c2).mono ?_
      rintro e3 w3 ⟨bs3, vs3, done3, rfl, hi3, hcs3, hext3, hf3⟩
      have hne := HNE.out
      have hubW := HUB.out
      have hmbW := HMB.out
      have hrW := HRW.out
      have hobW := HOBW.out
      have hmd3 : MapD w3 ub bs3 (l.filter fun p => !left (.string p.1)) := by
        have h1 := HMD2.out.frm hf3 (by simp; omega)
        rw [MapD, dirDat_congr (bs := bs2) (bs' := bs3) (fun p hp => (hext3 p.2 (HVIS.out p (List.mem_filter.1 hp).1 (by have := (List.mem_filter.1 hp).2; simpa using this))).2)]
        exact h1
      have HMD3 := Lib.hid hmd3
      have HCS3 := Lib.hid hcs3
      have HI3 := Lib.hid hi3
      have HEXT3 := Lib.hid hext3
      have HFR3 : Hid (Frm [mb] W w3) := Lib.hid (HFR2.out.trans hf3 (fun y hy => .inl hy))
      have HRG3 := Lib.hid (HRG2.out.frm hf3 (by simp; omega) (by simp; omega))
      have ob3 := hf3.cell ob2 (by simp; omega)
      have c3 := hf3.cell c2 (by simp; omega)
      have HLF : Hid ((l.filter fun p => !left (.string p.1)).length < maxLen) := Lib.hid (by
        have h1 := List.length_filter_le (fun p : Nm × Nat => !left (.string p.1)) l
        have h2 := HDO.out.few
        unfold maxLen
        omega)
      clear hmd3 hcs3 hi3 hext3 hf3 ob2 c2 hne hubW hmbW hrW hobW eg hub2 hBw
      go_wp2_with (first | (at_mapUpdate; refine wpl_put rfl _ _ _ rfl ub bs3 _ rfl HMD3.out HLF.out s i rfl rfl HML.out.2.2 ?_; intro w4 hm4 hf4) | fail)
      rw [dir_visit HDO.out HML.out.1 HML.out.2.1] at hm4
      have hne := HNE.out
      have hubW := HUB.out
      have hmbW := HMB.out
      have hrW := HRW.out
      have hobW := HOBW.out
      have HM4 := Lib.hid hm4
      have HCS4 := Lib.hid (HCS3.out.frm hf4 (by simp; omega) (fun k hk hm => HCS3.out.ne_map HMD3.out k hk (by rwa [List.mem_singleton] at hm)))
      have HFR4 : Hid (Frm [mb] W w4) := Lib.hid (HFR3.out.trans hf4 (fun y hy => by rw [List.mem_singleton] at hy; right; omega))
      have hb1l := HB1.out
      have HRG4 := Lib.hid (HRG3.out.frm hf4 (by simp; omega) (by simp; omega))
      have ob4 := hf4.cell ob3 (by simp; omega)
      have c4 := hf4.cell c3 (by simp; omega)
      have HEXT4 : Hid (∀ j ∈ done, j ∈ done3 ∧ bs3 j = bs' j) := Lib.hid (fun j hj => ⟨(HEXT3.out j (HEXT.out j hj).1).1, (HEXT3.out j (HEXT.out j hj).1).2.trans (HEXT.out j hj).2⟩)
      have HVIS4 : Hid (∀ p ∈ l, (left (.string p.1) && !(Lit.string p.1).sameKey (.string s)) = false → p.2 ∈ done3) := Lib.hid (fun p hp h9 => by
        by_cases e : p.1 = s
        · have : p = (s, i) := asc_key HDO.out.asc hp HML.out.1 e
          rw [this]
          exact HI3.out
        · have h8 : (Lit.string p.1).sameKey (.string s) = false := by rw [same_str]; exact beq_eq_false_iff_ne.2 e
          rw [h8] at h9
          exact (HEXT3.out _ (HVIS.out p hp (by simpa using h9))).1)
      clear hm4 hf4 ob3 c3 hne hubW hmbW hrW hobW hb1l
      go_wp2_with fail
      go_roundg cnt2
      case rel => exact ⟨_, cnt2, bs3, vs3, done3, rfl, HRG4.out, HCS4.out, HEXT4.out, HVIS4.out, HM4.out, HFR4.out, ob4, c4⟩
      case measure => exact hlt
end

end Go.Proofs.Ytkebdgbjgbcneaa
