/- The reference's disk: contracts of with and done. -/
import Derived.Test.YtkebdgbjgbcneaaE6
namespace Go.Proofs.Ytkebdgbjgbcneaa
open Go.RowKit Go.Maps Go.Shelf

theorem insD_at : ∀ (l : Dir) (s : Nm) (f i : Nat), (∀ j p, j < i → l[j]? = some p → bytesBefore p.1 s = true) → (∀ p, l[i]? = some p → bytesBefore p.1 s = false) → (∀ p ∈ l, p.1 ≠ s) → i ≤ l.length → insD s f l = l.take i ++ (s, f) :: l.drop i
  | [], s, f, i, _, _, _, hi => by
    have : i = 0 := by simpa using hi
    subst this
    rfl
  | p :: r, s, f, 0, _, h2, h3, _ => by
    have h4 := bb_total (h3 p List.mem_cons_self) (h2 p rfl)
    rw [insD, if_pos h4]
    rfl
  | p :: r, s, f, i + 1, h1, h2, h3, hi => by
    have h4 := bb_asymm (h1 0 p (Nat.succ_pos _) rfl)
    rw [insD, if_neg (by rw [h4]; decide), insD_at r s f i (fun j q hj hq => h1 (j + 1) q (by omega) hq) (fun q hq => h2 q hq) (fun q hq => h3 q (List.mem_cons_of_mem _ hq)) (by simpa using hi)]
    rfl
theorem bless_eq : ∀ (x y : List UInt8), Op.bytesLess x y = bytesBefore x y
  | [], [] => rfl
  | _ :: _, [] => rfl
  | [], _ :: _ => rfl
  | a :: x, b :: y => by rw [Op.bytesLess, bytesBefore, bless_eq x y]
/-- Parts of a row. -/
theorem RowV.init {w : World} {F : List Nat} {a : Addr} {n c size : Nat} {xs : List Value} (h : RowV w F (.slice (some a) n c) n size xs) {k : Nat} (hk : k ≤ n) : RowV w F (.slice (some a) k c) k size (xs.take (k * size)) := by
  obtain ⟨h1, a, c', e, h2, h3, h5, h4⟩ := h
  cases e
  refine ⟨?_, _, _, rfl, Nat.le_trans hk h2, h3, (fun h => by cases h), fun j u hj => ?_⟩
  · rw [List.length_take, h1]
    exact Nat.min_eq_left (Nat.mul_le_mul_right _ hk)
  · rw [List.getElem?_take] at hj
    split at hj
    · exact h4 _ _ hj
    · cases hj
theorem RowV.tail {w : World} {F : List Nat} {b n c size : Nat} {xs : List Value} (h : RowV w F (.slice (some ⟨b, 0, none⟩) n c) n size xs) (k : Nat) : RowV w F (.slice (some ⟨b, k * size, none⟩) (n - k) (c - k)) (n - k) size (xs.drop (k * size)) := by
  obtain ⟨h1, a, c', e, h2, h3, h5, h4⟩ := h
  cases e
  refine ⟨?_, _, _, rfl, Nat.sub_le_sub_right h2 _, Nat.le_trans (Nat.sub_le _ _) h3, (fun h => by cases h), fun j u hj => ?_⟩
  · rw [List.length_drop, h1, ← Nat.sub_mul]
  · rw [List.getElem?_drop] at hj
    obtain ⟨b', o, e9, hb, hl, hc⟩ := h4 _ _ hj
    cases e9
    rw [Nat.zero_add] at hc
    exact ⟨b, k * size, rfl, hb, hl, hc⟩
theorem RowV.zero (w : World) (F : List Nat) (p : Addr) (n c size : Nat) (hn : n = 0) (hc : c ≤ maxLen) : RowV w F (.slice (some p) n c) n size [] := ⟨by rw [hn, Nat.zero_mul]; rfl, some p, c, rfl, by omega, hc, (fun h => by cases h), fun i u hu => by simp at hu⟩
theorem RowV.nil0 (w : World) (F : List Nat) (size : Nat) : RowV w F (.slice none 0 0) 0 size [] := ⟨(Nat.zero_mul _).symm, none, 0, rfl, Nat.le_refl _, Nat.zero_le _, fun _ => rfl, fun i u hu => by simp at hu⟩
theorem dirC_take (l : Dir) (i : Nat) : (dirC l).take (i * 2) = dirC (l.take i) := by
  induction l generalizing i with
  | nil => simp [dirC]
  | cons p r ih =>
    cases i with
    | zero => simp [dirC]
    | succ i =>
      rw [show (i + 1) * 2 = i * 2 + 2 from by omega]
      have := ih i
      simp only [dirC, List.flatMap_cons, List.take_succ_cons] at this ⊢
      simp [this]
theorem dirC_drop (l : Dir) (i : Nat) : (dirC l).drop (i * 2) = dirC (l.drop i) := by
  induction l generalizing i with
  | nil => simp [dirC]
  | cons p r ih =>
    cases i with
    | zero => simp [dirC]
    | succ i =>
      rw [show (i + 1) * 2 = i * 2 + 2 from by omega]
      have := ih i
      simp only [dirC, List.flatMap_cons, List.drop_succ_cons] at this ⊢
      simp [this]
set_option linter.unusedSimpArgs false in
set_option maxRecDepth 100000 in
set_option maxHeartbeats 1000000 in
theorem rwith_any {w : World} {F : List Nat} {v : Value} {l : Dir} (h : RowV w F v l.length 2 (dirC l)) (hl : l.length ≤ 1000) (s : Nm) (f : Nat) :
    Calls Try.prog 75 #[v, str s, .int .i64 (f : Int)] w fun e w' => DirEnd w.heap.size (withD l s f) w' e ∧ Frm [] w w' := by
  have hwo := rwithout_any h hl s
  clear h
  go_enter Try.func75, Try.ntmps75
  go_wp2_with fail
  refine hwo.mono ?_
  rintro e1 w1 ⟨⟨a1, c1, rfl, hown1⟩, hf1⟩
  obtain ⟨l1, hl1⟩ : ∃ l1, l1 = withoutD l s := ⟨_, rfl⟩
  rw [← hl1] at hown1 ⊢
  have HN : Hid (∀ p ∈ l1, p.1 ≠ s) := Lib.hid (fun p hp => by rw [hl1] at hp; exact (mem_withoutD.1 hp).2)
  have HE : Hid (withD l s f = insD s f l1) := Lib.hid (by rw [withD, hl1])
  have hle : l1.length ≤ 1000 := by rw [hl1]; exact Nat.le_trans (List.length_filter_le _ _) hl
  have HOW := Lib.hid hown1
  have HF1 := Lib.hid hf1
  have hrv : RowV w1 [] (.slice a1 l1.length c1) l1.length 2 (dirC l1) := rowV_of_owns hown1 (by simp)
  obtain ⟨_, a, c, e9, hlc, hcm, _, hcell⟩ := hrv
  cases e9
  have i1 : (l1.length : Int) ≤ (c1 : Int) := by omega
  have i2 : (c1 : Int) ≤ 9223372036854775807 := by unfold maxLen at hcm; omega
  have HC := Lib.hid hcell
  have HCM := Lib.hid hcm
  have hszb : w.heap.size ≤ w1.heap.size := hf1.size
  clear hwo hown1 hf1 hl1 hcell hlc hcm hl
  go_wp2_with fail
  go_loopg [8] l1.length (fun q s8 wr => ∃ k : Nat, q = l1.length - k ∧ k ≤ l1.length ∧ s8 = .int .i64 (k : Int) ∧ (∀ j p, j < k → l1[j]? = some p → bytesBefore p.1 s = true) ∧ wr = w1)
  case atStart => exact ⟨0, rfl, Nat.zero_le _, rfl, fun j p hj => absurd hj (Nat.not_lt_zero _), rfl⟩
  case round =>
    obtain ⟨k, rfl, hk, rfl, hbs, rfl⟩ := hrel
    have HB := Lib.hid hbs
    have i4 : (0 : Int) ≤ (k : Int) := by omega
    clear hbs
    have hcs : (k < l1.length ∧ ∃ p, l1[k]? = some p ∧ Op.bytesLess p.1 s = true) ∨ (k < l1.length ∧ ∃ p, l1[k]? = some p ∧ Op.bytesLess p.1 s = false) ∨ ¬ k < l1.length := by
      by_cases hlt : k < l1.length
      · cases hb : Op.bytesLess (l1[k]'hlt).1 s with
        | true => exact .inl ⟨hlt, _, List.getElem?_eq_getElem hlt, hb⟩
        | false => exact .inr (.inl ⟨hlt, _, List.getElem?_eq_getElem hlt, hb⟩)
      · exact .inr (.inr hlt)
    rcases hcs with ⟨hlt, p, hp, hb⟩ | hcs
    · have i5 : (k : Int) < (l1.length : Int) := by omega
      obtain ⟨g0, g1⟩ := dirC_get hp
      obtain ⟨b, o, rfl, _, _, c0⟩ := HC.out _ _ g0
      have HB2 : Hid (∀ j p, j < k + 1 → l1[j]? = some p → bytesBefore p.1 s = true) := Lib.hid (fun j q hj hq => by
        by_cases e : j = k
        · subst e
          rw [hp] at hq
          cases hq
          rw [← bless_eq]
          exact hb
        · exact HB.out j q (by omega) hq)
      clear g0 g1 hp
      go_wp2_with fail
      go_roundg (l1.length - (k + 1))
      case rel => exact ⟨k + 1, rfl, hlt, by go_num, HB2.out, rfl⟩
      case measure => omega
    · have HI : Hid (insD s f l1 = l1.take k ++ (s, f) :: l1.drop k) := Lib.hid (insD_at l1 s f k HB.out (fun p hp => by
        rcases hcs with ⟨_, q, hq, hb⟩ | hcs
        · rw [hp] at hq
          cases hq
          rw [← bless_eq]
          exact hb
        · rw [List.getElem?_eq_none (by omega)] at hp
          cases hp) HN.out hk)
      have hz : (a1 = none ∧ c1 = 0 ∧ l1 = []) ∨ ∃ g, a1 = some ⟨g, 0, none⟩ := by
        rcases HOW.out.2 with ⟨h0, h1⟩ | ⟨g, cap, cur, h1, _⟩
        · simp only [Value.slice.injEq] at h0
          exact .inl ⟨h0.1, h0.2.2, List.eq_nil_of_length_eq_zero h0.2.1⟩
        · simp only [Value.slice.injEq] at h1
          exact .inr ⟨g, h1.1⟩
      have HO7 : Hid (wr.ownsRow wr.heap.size 96 2 (.slice none 0 0) 0 (dirC [])) := Lib.hid (World.ownsRow_nil _ _ _ _)
      have HRV : Hid (RowV wr [] (.slice a1 l1.length c1) l1.length 2 (dirC l1)) := Lib.hid (rowV_of_owns HOW.out (by simp))
      have HSZ := Lib.hid hszb
      have HZ := Lib.hid hz
      clear hz hszb
      rcases hcs with ⟨hlt, p, hp, hb⟩ | hlt
      · have i5 : (k : Int) < (l1.length : Int) := by omega
        obtain ⟨g0, g1⟩ := dirC_get hp
        obtain ⟨b, o, rfl, _, _, c0⟩ := HC.out _ _ g0
        clear g0 g1 hp
        go_upto_region 6 with fail
        obtain ⟨v7, hv⟩ : ∃ v, v = Value.slice none 0 0 := ⟨_, rfl⟩
        rw [← hv] at HO7 ⊢
        clear hv
        rcases HZ.out with ⟨h9, _⟩ | ⟨g, h9⟩
        · cases h9
        · cases h9
          go_wp2_with (first
            | (at_builtin; refine app_row rfl _ _ 74 96 _ 2 24 rfl Try.underlying74 infoN rfl (by decide) (by decide) wr.heap.size 0 v7 (dirC []) rfl HO7.out _ k (dirC (l1.take k)) [] rfl (by rw [← dirC_take]; exact HRV.out.init hk) (oneCell_dirC _) k (Nat.zero_add _) (by omega) (Nat.le_refl _) ?_; intro a9 c9 w9 hown9 hf9 hloc9)
            | (at_builtin; refine app_name rfl _ _ rfl wr.heap.size k (.slice a9 k c9) ((l1.take k)) rfl (hown9.alloc _) w9.heap.size (s, f) rfl (RowAt.made w9 96 [str s, .int .i64 (f : Int)] #[str s, .int .i64 (f : Int)] rfl) (by omega) (by simp; have := hf9.size; omega) ?_; intro a8 c8 w8 hown8 hf8 hloc8)
            | (at_builtin; refine app_row rfl _ _ 74 96 _ 2 24 rfl Try.underlying74 infoN rfl (by decide) (by decide) wr.heap.size (k + 1) (.slice a8 (k + 1) c8) (dirC ((l1.take k) ++ [(s, f)])) rfl hown8 _ (l1.length - k) (dirC (l1.drop k)) [] rfl (by rw [← dirC_drop]; exact (HRV.out.nil (frm_own ((frm_own (Frm.refl [] wr) HO7.out (Nat.le_refl _) hf9).alloc _) (hown9.alloc _) (Nat.le_refl _) hf8)).tail k) (oneCell_dirC _) (k + 1 + (l1.length - k)) rfl (by omega) (by have := hf9.size; have := hf8.size; simp at this; omega) ?_; intro a6 c6 w6 hown6 hf6 hloc6)
            | fail)
          have hF8 := (frm_own ((frm_own (Frm.refl [] wr) HO7.out (Nat.le_refl _) hf9).alloc _) (hown9.alloc _) (Nat.le_refl _) hf8)
          have hF6 := frm_own hF8 hown8 (Nat.le_refl _) hf6
          have hlen : k + 1 + (l1.length - k) = (withD l s f).length := by rw [HE.out, HI.out, List.length_append, List.length_cons, List.length_take, List.length_drop]; omega
          rw [hlen] at hown6 ⊢
          have hxs : dirC ((l1.take k) ++ [(s, f)]) ++ dirC (l1.drop k) = dirC (withD l s f) := by rw [← dirC_app, HE.out, HI.out, List.append_assoc]; rfl
          rw [hxs] at hown6
          go_ret
          exact ⟨⟨a6, c6, rfl, ownsB_mono hown6 HSZ.out⟩, HF1.out.trans hF6 (by simp)⟩
          
      · have i5 : ¬ (k : Int) < (l1.length : Int) := by omega
        go_upto_region 6 with fail
        obtain ⟨v7, hv⟩ : ∃ v, v = Value.slice none 0 0 := ⟨_, rfl⟩
        rw [← hv] at HO7 ⊢
        clear hv
        rcases HZ.out with ⟨rfl, rfl, rfl⟩ | ⟨g, rfl⟩
        · cases k with
          | succ k => simp at hk
          | zero =>
            go_wp2_with (first
              | (at_builtin; refine app_row rfl _ _ 74 96 _ 2 24 rfl Try.underlying74 infoN rfl (by decide) (by decide) wr.heap.size 0 v7 (dirC []) rfl HO7.out _ 0 (dirC ([] : Dir)) [] rfl (RowV.nil0 _ _ _) (oneCell_dirC _) 0 (Nat.zero_add _) (by omega) (Nat.le_refl _) ?_; intro a9 c9 w9 hown9 hf9 hloc9)
              | (at_builtin; refine app_name rfl _ _ rfl wr.heap.size 0 (.slice a9 0 c9) (([] : Dir)) rfl (hown9.alloc _) w9.heap.size (s, f) rfl (RowAt.made w9 96 [str s, .int .i64 (f : Int)] #[str s, .int .i64 (f : Int)] rfl) (by omega) (by simp; have := hf9.size; omega) ?_; intro a8 c8 w8 hown8 hf8 hloc8)
              | (at_builtin; refine app_row rfl _ _ 74 96 _ 2 24 rfl Try.underlying74 infoN rfl (by decide) (by decide) wr.heap.size (0 + 1) (.slice a8 (0 + 1) c8) (dirC (([] : Dir) ++ [(s, f)])) rfl hown8 _ 0 (dirC ([] : Dir)) [] rfl (RowV.nil0 _ _ _) (oneCell_dirC _) (0 + 1 + 0) rfl (by omega) (by have := hf9.size; have := hf8.size; simp at this; omega) ?_; intro a6 c6 w6 hown6 hf6 hloc6)
              | fail)
            have hF8 := (frm_own ((frm_own (Frm.refl [] wr) HO7.out (Nat.le_refl _) hf9).alloc _) (hown9.alloc _) (Nat.le_refl _) hf8)
            have hF6 := frm_own hF8 hown8 (Nat.le_refl _) hf6
            have hlen : 0 + 1 + 0 = (withD l s f).length := by rw [HE.out, HI.out]; rfl
            have hxs : dirC (([] : Dir) ++ [(s, f)]) ++ dirC ([] : Dir) = dirC (withD l s f) := by rw [← dirC_app, HE.out, HI.out]; rfl
            rw [hxs] at hown6
            go_ret
            refine ⟨⟨a6, c6, ?_, ?_⟩, HF1.out.trans hF6 (by simp)⟩
            · rw [← hlen]; rfl
            · rw [← hlen]; exact ownsB_mono hown6 HSZ.out
        · have hkl : k = l1.length := by omega
          subst hkl
          by_cases hck : c1 = l1.length
          · subst hck
            go_wp2_with (first
              | (at_builtin; refine app_row rfl _ _ 74 96 _ 2 24 rfl Try.underlying74 infoN rfl (by decide) (by decide) wr.heap.size 0 v7 (dirC []) rfl HO7.out _ l1.length (dirC l1) [] rfl HRV.out (oneCell_dirC _) l1.length (Nat.zero_add _) (by omega) (Nat.le_refl _) ?_; intro a9 c9 w9 hown9 hf9 hloc9)
              | (at_builtin; refine app_name rfl _ _ rfl wr.heap.size l1.length (.slice a9 l1.length c9) (l1) rfl (hown9.alloc _) w9.heap.size (s, f) rfl (RowAt.made w9 96 [str s, .int .i64 (f : Int)] #[str s, .int .i64 (f : Int)] rfl) (by omega) (by simp; have := hf9.size; omega) ?_; intro a8 c8 w8 hown8 hf8 hloc8)
              | (at_builtin; refine app_row rfl _ _ 74 96 _ 2 24 rfl Try.underlying74 infoN rfl (by decide) (by decide) wr.heap.size (l1.length + 1) (.slice a8 (l1.length + 1) c8) (dirC (l1 ++ [(s, f)])) rfl hown8 _ 0 (dirC ([] : Dir)) [] rfl (RowV.zero _ _ _ _ _ _ rfl (by have := HCM.out; omega)) (oneCell_dirC _) (l1.length + 1) (Nat.add_zero _) (by omega) (by have := hf9.size; have := hf8.size; simp at this; omega) ?_; intro a6 c6 w6 hown6 hf6 hloc6)
              | fail)
            have hF8 := (frm_own ((frm_own (Frm.refl [] wr) HO7.out (Nat.le_refl _) hf9).alloc _) (hown9.alloc _) (Nat.le_refl _) hf8)
            have hF6 := frm_own hF8 hown8 (Nat.le_refl _) hf6
            have hlen : l1.length + 1 = (withD l s f).length := by rw [HE.out, HI.out]; simp
            rw [hlen] at hown6 ⊢
            have hxs : dirC (l1 ++ [(s, f)]) ++ dirC ([] : Dir) = dirC (withD l s f) := by rw [← dirC_app, HE.out, HI.out, List.take_length, List.drop_length, List.append_nil]
            rw [hxs] at hown6
            go_ret
            exact ⟨⟨a6, c6, rfl, ownsB_mono hown6 HSZ.out⟩, HF1.out.trans hF6 (by simp)⟩
          · go_wp2_with (first
              | (at_builtin; refine app_row rfl _ _ 74 96 _ 2 24 rfl Try.underlying74 infoN rfl (by decide) (by decide) wr.heap.size 0 v7 (dirC []) rfl HO7.out _ l1.length (dirC l1) [] rfl HRV.out (oneCell_dirC _) l1.length (Nat.zero_add _) (by omega) (Nat.le_refl _) ?_; intro a9 c9 w9 hown9 hf9 hloc9)
              | (at_builtin; refine app_name rfl _ _ rfl wr.heap.size l1.length (.slice a9 l1.length c9) (l1) rfl (hown9.alloc _) w9.heap.size (s, f) rfl (RowAt.made w9 96 [str s, .int .i64 (f : Int)] #[str s, .int .i64 (f : Int)] rfl) (by omega) (by simp; have := hf9.size; omega) ?_; intro a8 c8 w8 hown8 hf8 hloc8)
              | (at_builtin; refine app_row rfl _ _ 74 96 _ 2 24 rfl Try.underlying74 infoN rfl (by decide) (by decide) wr.heap.size (l1.length + 1) (.slice a8 (l1.length + 1) c8) (dirC (l1 ++ [(s, f)])) rfl hown8 _ 0 (dirC ([] : Dir)) [] rfl (RowV.zero _ _ _ _ _ _ rfl (by have := HCM.out; omega)) (oneCell_dirC _) (l1.length + 1) (Nat.add_zero _) (by omega) (by have := hf9.size; have := hf8.size; simp at this; omega) ?_; intro a6 c6 w6 hown6 hf6 hloc6)
              | fail)
            have hF8 := (frm_own ((frm_own (Frm.refl [] wr) HO7.out (Nat.le_refl _) hf9).alloc _) (hown9.alloc _) (Nat.le_refl _) hf8)
            have hF6 := frm_own hF8 hown8 (Nat.le_refl _) hf6
            have hlen : l1.length + 1 = (withD l s f).length := by rw [HE.out, HI.out]; simp
            rw [hlen] at hown6 ⊢
            have hxs : dirC (l1 ++ [(s, f)]) ++ dirC ([] : Dir) = dirC (withD l s f) := by rw [← dirC_app, HE.out, HI.out, List.take_length, List.drop_length, List.append_nil]
            rw [hxs] at hown6
            go_ret
            exact ⟨⟨a6, c6, rfl, ownsB_mono hown6 HSZ.out⟩, HF1.out.trans hF6 (by simp)⟩

end Go.Proofs.Ytkebdgbjgbcneaa
