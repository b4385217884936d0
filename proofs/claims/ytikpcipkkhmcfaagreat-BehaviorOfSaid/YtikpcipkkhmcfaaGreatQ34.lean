/- The reference's equality of entries and of behaviors; Permits. -/
import Derived.Test.YtikpcipkkhmcfaaGreatQ20
import Derived.Test.YtikpcipkkhmcfaaGreatQ21
import Derived.Deep.DeepCutAuto
namespace Go.Proofs.YtikpcipkkhmcfaaGreat.Beh
open Go.RowKit Go.Lib Go.Proofs.YtikpcipkkhmcfaaGreat Go.Proofs.YtikpcipkkhmcfaaGreat.Ind

set_option linter.unusedSimpArgs false in
set_option maxRecDepth 100000 in
set_option maxHeartbeats 4000000 in
theorem sameEntry_any {F G : List Nat} (w : World) (p q : EV) (h1 : EntAt w F p) (h2 : EntAt w G q) :
    Calls Tryz.prog 42 #[.agg (enE p).toArray, .agg (enE q).toArray] w fun e w' => e = .returned (.bool (decide (p.2 = q.2))) ∧ Frm [] w w' := by
  obtain ⟨⟨v1, v2⟩, t, l, d⟩ := p
  obtain ⟨⟨v3, v4⟩, t', l', d'⟩ := q
  obtain ⟨ht, hl⟩ := h1
  obtain ⟨ht', hl'⟩ := h2
  simp only at ht hl ht' hl'
  obtain ⟨ta, tc, rfl⟩ := ht.shape
  obtain ⟨ta', tc', rfl⟩ := ht'.shape
  obtain ⟨la, lc, rfl⟩ := hl.shape
  obtain ⟨la', lc', rfl⟩ := hl'.shape
  have HI : Hid (∀ W, Frm [] w W → Calls Tryz.prog 34 #[.slice ta t.length tc, .slice ta' t'.length tc'] W fun e w' => e = .returned (.bool (decide (t = t'))) ∧ Frm [] W w') := Lib.hid fun W hf => Go.Proofs.YtikpcipkkhmcfaaGreat.ints_same W.heap.size ta ta' tc tc' t t' W (ht.nil hf).rd (ht'.nil hf).rd
  have HS : Hid (∀ W, Frm [] w W → Calls Tryz.prog 71 #[.slice la l.length lc, .slice la' l'.length lc'] W fun e w' => e = .returned (.bool (decide (l = l'))) ∧ Frm [] W w') := Lib.hid fun W hf => refSets_any W _ _ l l' (hl.nil hf) (hl'.nil hf)
  have HR : Hid (decide (((t, l, d) : En) = (t', l', d')) = (decide (d = d') && (decide (t = t') && decide (l = l')))) := Lib.hid (by
    rw [Bool.eq_iff_iff]
    simp only [decide_eq_true_eq, Bool.and_eq_true, Prod.mk.injEq]
    constructor
    · rintro ⟨a, b, c⟩; exact ⟨c, a, b⟩
    · rintro ⟨c, a, b⟩; exact ⟨a, b, c⟩)
  obtain ⟨bt, hbt⟩ : ∃ b, b = decide (t = t') := ⟨_, rfl⟩
  obtain ⟨bl, hbl⟩ : ∃ b, b = decide (l = l') := ⟨_, rfl⟩
  simp only [← hbt, ← hbl] at HI HS HR
  clear hbt hbl ht hl ht' hl'
  unfold enE
  simp only
  have hb1 := (RowAt.made w 69 [.slice ta t.length tc, .slice la l.length lc, .bool d] #[.slice ta t.length tc, .slice la l.length lc, .bool d] rfl).alloc (.cells #[.slice ta' t'.length tc', .slice la' l'.length lc', .bool d'] 69)
  have hb2 := row_made1 w (.cells #[.slice ta t.length tc, .slice la l.length lc, .bool d] 69) 69 [.slice ta' t'.length tc', .slice la' l'.length lc', .bool d'] #[.slice ta' t'.length tc', .slice la' l'.length lc', .bool d'] rfl
  have F0 : Frm [] w ((w.alloc (.cells #[.slice ta t.length tc, .slice la l.length lc, .bool d] 69)).alloc (.cells #[.slice ta' t'.length tc', .slice la' l'.length lc', .bool d'] 69)) := ((Frm.refl [] w).alloc _).alloc _
  have HB1 := Lib.hid hb1
  have HB2 := Lib.hid hb2
  have HF0 := Lib.hid F0
  clear hb1 hb2 F0
  go_enter Tryz.func42, Tryz.ntmps42
  go_upto_region 1 with fail
  generalize World.alloc (World.alloc _ _) _ = W at *
  have KEEP : Hid (∀ w', Frm [] W w' → w'.cell? ⟨w.heap.size, 0, none⟩ = some (.slice ta t.length tc) ∧ w'.cell? ⟨w.heap.size, 1, none⟩ = some (.slice la l.length lc) ∧ w'.cell? ⟨w.heap.size, 2, none⟩ = some (.bool d) ∧ w'.cell? ⟨w.heap.size + 1, 0, none⟩ = some (.slice ta' t'.length tc') ∧ w'.cell? ⟨w.heap.size + 1, 1, none⟩ = some (.slice la' l'.length lc') ∧ w'.cell? ⟨w.heap.size + 1, 2, none⟩ = some (.bool d')) := Lib.hid fun w' hf => by
    have a := HB1.out.frm hf (by simp)
    have b := HB2.out.frm hf (by simp)
    exact ⟨a.cell (i := 0) rfl, a.cell (i := 1) rfl, a.cell (i := 2) rfl, b.cell (i := 0) rfl, b.cell (i := 1) rfl, b.cell (i := 2) rfl⟩
  obtain ⟨c0, c1, c2, c3, c4, c5⟩ := KEEP.out W (Frm.refl [] W)
  clear HB1 HB2
  by_cases hd : d = d'
  · subst hd
    have hdd : (d == d) = true := by cases d <;> rfl
    cases bt with
    | true =>
      go_wp2_with (first
        | (go_at_call 34; refine (HI.out _ HF0.out).mono ?_; rintro e1 w1 ⟨rfl, hf1⟩; obtain ⟨d0, d1, d2, d3, d4, d5⟩ := KEEP.out w1 hf1)
        | (go_at_call 71; refine (HS.out _ (HF0.out.trans hf1 (by simp))).mono ?_; rintro e2 w2 ⟨rfl, hf2⟩)
        | fail)
      go_ret
      refine ⟨?_, (HF0.out.trans hf1 (by simp)).trans hf2 (by simp)⟩
      rw [HR.out]
      simp
      try rfl
    | false =>
      go_wp2_with (first
        | (go_at_call 34; refine (HI.out _ HF0.out).mono ?_; rintro e1 w1 ⟨rfl, hf1⟩; obtain ⟨d0, d1, d2, d3, d4, d5⟩ := KEEP.out w1 hf1)
        | (go_at_call 71; refine (HS.out _ (HF0.out.trans hf1 (by simp))).mono ?_; rintro e2 w2 ⟨rfl, hf2⟩)
        | fail)
      go_ret
      refine ⟨?_, HF0.out.trans hf1 (by simp)⟩
      rw [HR.out]
      simp
      try rfl
  · have hdd : (d == d') = false := by simpa using hd
    have HD := Lib.hid hd
    clear hd
    go_wp2_with fail
    go_ret
    refine ⟨?_, HF0.out⟩
    rw [HR.out, decide_eq_false HD.out]
    simp
    try rfl
end Go.Proofs.YtikpcipkkhmcfaaGreat.Beh
