/- Texts R1, R2. -/
import Derived.Test.YtdknbgejhhoaiaaGreatQ34
import Derived.Test.YtdknbgejhhoaiaaGreatQ12
/- Contract of permutation (the Great seat). -/
namespace Go.Proofs.YtdknbgejhhoaiaaGreat.Ind
open Go.RowKit Go.Lib

theorem infoBool : (Tryz.prog.info? 4).map (fun i => (i.zero, i.size, i.bytes)) = some (some (.bool false), 1, 1) := by kernel_rfl
def bools (bs : List Bool) : List Value := bs.map Value.bool
theorem bools_get {bs : List Bool} {i : Nat} {b : Bool} (h : bs[i]? = some b) : (bools bs)[i]? = some (.bool b) := by simp [bools, h]
theorem bools_set (bs : List Bool) (i : Nat) (b : Bool) : bools (bs.set i b) = (bools bs).set i (.bool b) := by simp [bools, List.map_set]
theorem wpl_make_b (w : World) {ops : Array Oper} {rest : List Oper} {o : Oper} {a : Act} {Q : Exit → Act → World → Prop}
    (hg : o.guard = none) (l : Operand) (hop : o.op = Op.makeSlice 92 l l) (L : Int) (n : Nat) (hl : a.eval l = .int .i64 L) (hL : L = (n : Int)) (hn : n ≤ 1000000)
    (hK : ∀ w', w'.ownsRow w.heap.size 4 1 (.slice (some ⟨w.heap.size, 0, none⟩) n n) n (bools (List.replicate n false)) → Frm [] w w' → wpList Tryz.prog ops Q rest (a.put o.dst (.slice (some ⟨w.heap.size, 0, none⟩) n n)) w') :
    wpList Tryz.prog ops Q (o :: rest) a w := by
  obtain ⟨i0, hi, hz0, hz1, hz2⟩ := info_parts infoBool
  refine wpList_make_full w hg l l 92 hop w.heap.size 4 i0 (.bool false) 1 Tryz.underlying92 hi hz0 hz1 .i64 .i64 L L n hl hl hL hL (by rw [hz2]; omega) (by unfold maxLen; omega) (Nat.le_refl _) ?_
  intro w' hown hgr
  refine hK w' ?_ ((Frm.refl [] w).grown hgr (by simp))
  have hm : (madeCells (Value.bool false).cells (n * 1)).toList = bools (List.replicate n false) := by
    rw [Nat.mul_one]
    exact (toList_madeCells_one _ _).trans (by simp [bools])
  rw [hm] at hown
  exact hown

/-- The first k entries are values, and differ. -/
def PermK (p : List Int) (n k : Nat) : Prop := (∀ v ∈ p.take k, 0 ≤ v ∧ v < n) ∧ (p.take k).Nodup
def PermP (p : List Int) (n : Nat) : Prop := p.length = n ∧ p[0]? = some 0 ∧ PermK p n p.length
noncomputable instance (p : List Int) (n : Nat) : Decidable (PermP p n) := Classical.propDecidable _
def seenL (p : List Int) (n k : Nat) : List Bool := (List.range n).map fun (j : Nat) => decide ((j : Int) ∈ p.take k)
theorem seen_len (p : List Int) (n k : Nat) : (seenL p n k).length = n := by simp [seenL]
theorem seen_get {p : List Int} {n k j : Nat} (hj : j < n) : (seenL p n k)[j]? = some (decide ((j : Int) ∈ p.take k)) := by simp [seenL, hj]
theorem seen_set {p : List Int} {n k : Nat} {v : Int} (h : p[k]? = some v) (h0 : 0 ≤ v) (h1 : v < n) : (seenL p n k).set v.toNat true = seenL p n (k + 1) := by
  refine List.ext_getElem? (fun j => ?_)
  by_cases hj : j < n
  · rw [List.getElem?_set, seen_get hj, seen_get hj, take_snoc h, seen_len]
    by_cases e : v.toNat = j
    · have e2 : (j : Int) = v := by omega
      rw [if_pos e, if_pos (by omega), e2]
      simp
    · have e2 : ¬ (j : Int) = v := by omega
      rw [if_neg e]
      simp [e2]
  · rw [List.getElem?_eq_none (by rw [List.length_set, seen_len]; omega), List.getElem?_eq_none (by rw [seen_len]; omega)]
theorem perm_zero (p : List Int) (n : Nat) : PermK p n 0 := by simp [PermK]
theorem perm_next {p : List Int} {n k : Nat} {v : Int} (h : p[k]? = some v) : PermK p n (k + 1) ↔ PermK p n k ∧ 0 ≤ v ∧ v < n ∧ v ∉ p.take k := by
  unfold PermK
  rw [take_snoc h]
  constructor
  · rintro ⟨h1, h2⟩
    rw [List.nodup_append] at h2
    refine ⟨⟨fun x hx => h1 x (List.mem_append_left _ hx), h2.1⟩, (h1 v (by simp)).1, (h1 v (by simp)).2, fun hm => h2.2.2 v hm v (by simp) rfl⟩
  · rintro ⟨⟨h1, h2⟩, h3, h4, h5⟩
    refine ⟨fun x hx => ?_, ?_⟩
    · rcases List.mem_append.1 hx with hx | hx
      · exact h1 x hx
      · obtain rfl : x = v := by simpa using hx
        exact ⟨h3, h4⟩
    · rw [List.nodup_append]
      exact ⟨h2, by simp, fun a ha b hb e => by
        rw [List.mem_singleton.1 hb] at e
        exact h5 (e ▸ ha)⟩
theorem perm_down {p : List Int} {n k j : Nat} (h : PermK p n k) (hj : j ≤ k) : PermK p n j := by
  have e : p.take j = (p.take k).take j := by rw [List.take_take, Nat.min_eq_left hj]
  unfold PermK
  rw [e]
  exact ⟨fun v hv => h.1 v (List.mem_of_mem_take hv), h.2.sublist (List.take_sublist _ _)⟩
theorem permNo {p : List Int} {n k : Nat} {v : Int} (h : p[k]? = some v) (hb : ¬ (0 ≤ v ∧ v < n ∧ v ∉ p.take k)) : ¬ PermP p n := by
  rintro ⟨_, _, h3⟩
  have hk : k < p.length := (List.getElem?_eq_some_iff.1 h).1
  exact hb ((perm_next h).1 (perm_down h3 (by omega : k + 1 ≤ p.length))).2

set_option linter.unusedSimpArgs false in
set_option maxRecDepth 100000 in
set_option maxHeartbeats 4000000 in
theorem permutation_any {F : List Nat} (w : World) (pv : Value) (p : List Int) (n : Nat) (h : RowV w F pv p.length 1 (ints p)) (h1 : 1 ≤ n) (h12 : n ≤ 12) :
    Calls Tryz.prog 21 #[pv, .int .i64 n] w fun e w' => e = .returned (.bool (decide (PermP p n))) ∧ Frm [] w w' := by
  obtain ⟨a, c, rfl⟩ := RowV.shape h
  by_cases hl : p.length = n
  · subst hl
    obtain ⟨v0, hv0⟩ : ∃ v, p[0]? = some v := ⟨_, List.getElem?_eq_getElem (by omega)⟩
    obtain ⟨_, a', c', e', hc1, hc2, _, hcell⟩ := h
    cases e'
    obtain ⟨b, o, rfl, hb, hlt, hc0⟩ := hcell 0 (.int .i64 v0) (by simp [ints, hv0])
    rw [Nat.add_zero] at hc0
    have il : (1 : Int) ≤ (p.length : Int) := by omega
    by_cases hz : v0 = 0
    · subst hz
      have HC := Lib.hid hcell
      have HV0 := Lib.hid hv0
      have hlp : p.length ≤ 12 := by omega
      have hne : (((p.length : Int) == (p.length : Int))) = true := by simp
      clear hcell hv0 hc1 hc2
      go_enter Tryz.func21, Tryz.ntmps21
      go_wp2_with (first | (at_make; refine wpl_make_b _ rfl (.tmp 18) rfl _ p.length rfl rfl (by omega) ?_) | (at_make; fail))
      intro w1 own1 hf1
      go_wp2_with fail
      have hs0 : Frm [] w w ∧ w1.ownsRow w.heap.size 4 1 (.slice (some ⟨w.heap.size, 0, none⟩) p.length p.length) p.length (bools (seenL p p.length 0)) := ⟨Frm.refl _ _, by
        have e : seenL p p.length 0 = List.replicate p.length false := List.ext_getElem? (fun j => by
          by_cases hj : j < p.length
          · rw [seen_get hj, List.getElem?_replicate, if_pos hj]; simp
          · rw [List.getElem?_eq_none (by rw [seen_len]; omega), List.getElem?_eq_none (by simp; omega)])
        rw [e]; exact own1⟩
      have HF1 := Lib.hid hf1
      have HO1 := Lib.hid hs0.2
      have HNE := Lib.hid hne
      clear own1 hf1 hs0 hne
      go_loopg [7, 22] p.length (fun q _ t22 wr => ∃ (k : Nat), q = p.length - k ∧ k ≤ p.length ∧ t22 = .int .i64 k ∧ PermK p p.length k ∧ Frm [] w wr ∧ wr.ownsRow w.heap.size 4 1 (.slice (some ⟨w.heap.size, 0, none⟩) p.length p.length) p.length (bools (seenL p p.length k)))
      case atStart => exact ⟨0, rfl, Nat.zero_le _, rfl, perm_zero _ _, HF1.out, HO1.out⟩
      case round =>
        obtain ⟨k, hq, hk, rfl, hpk, hF, hown⟩ := hrel
        have HQ := Lib.hid hq
        have HPK := Lib.hid hpk
        have HF := Lib.hid hF
        have HOW := Lib.hid hown
        have i4 : (0 : Int) ≤ (k : Int) := by omega
        clear hq hpk hF hown
        by_cases hlt9 : k < p.length
        · have i5 : (k : Int) < (p.length : Int) := by omega
          obtain ⟨v, hv⟩ : ∃ v, p[k]? = some v := ⟨_, List.getElem?_eq_getElem hlt9⟩
          obtain ⟨b', o', e', hb', hl', hck⟩ := HC.out k (.int .i64 v) (by simp [ints, hv])
          obtain ⟨rfl, rfl⟩ : b = b' ∧ o = o' := by simpa using e'
          have dck := HF.out.cell hck (by simp)
          have HV := Lib.hid hv
          have hcall := fun W => below_any v p.length W
          clear hv hck e'
          by_cases hbl : 0 ≤ v ∧ v < (p.length : Int)
          · have hbb : belowB v p.length = true := by simp [belowB, hbl]
            rw [hbb] at hcall
            have HCL := Lib.hid hcall
            obtain ⟨hv1, hv2⟩ := hbl
            obtain ⟨j, rfl⟩ : ∃ j : Nat, v = (j : Int) := ⟨v.toNat, by omega⟩
            have hj : j < p.length := by omega
            obtain ⟨g9, cp9, e9, _, _, _, hrow⟩ := ownsB_some HOW.out (by omega)
            obtain ⟨rfl, rfl⟩ : w.heap.size = g9 ∧ p.length = cp9 := by simpa using e9
            have hsj := hrow.cell (i := j) (v := .bool (decide ((j : Int) ∈ p.take k))) (bools_get (seen_get hj))
            have hzj := hrow.frozen j
            have HROW := Lib.hid hrow
            clear hcall hbb e9 hrow
            go_wp2_with fail
            refine (HCL.out _).mono ?_
            rintro e2 w2 ⟨rfl, rfl⟩
            have tsj := hsj
            have FW2 := HF
            have OW2 := HOW
            clear hsj dck
            by_cases hin : (j : Int) ∈ p.take k
            · have hno : ¬ PermP p p.length := permNo HV.out (fun h9 => h9.2.2 hin)
              rw [decide_eq_true hin] at tsj
              have HNO := Lib.hid hno
              clear hin hno
              go_wp2_with fail
              go_ret
              exact ⟨by rw [decide_eq_false HNO.out]; rfl, FW2.out⟩
            · rw [decide_eq_false hin] at tsj
              have HIN := Lib.hid hin
              clear hin
              go_wp2_with fail
              go_roundg (p.length - (k + 1))
              case rel =>
                refine ⟨k + 1, rfl, by omega, by go_num, (perm_next HV.out).2 ⟨HPK.out, hv1, hv2, HIN.out⟩, FW2.out.setCell (.inr (Nat.le_refl _)) _, ?_⟩
                have h9 := ownsB_setCell OW2.out (g := w.heap.size) rfl j (.bool true)
                rw [← bools_set] at h9
                have e8 := seen_set HV.out hv1 hv2
                rw [Int.toNat_natCast] at e8
                rwa [e8] at h9
              case measure => have := HQ.out; omega
          · have hbb : belowB v p.length = false := by
              simp only [belowB, Bool.and_eq_false_iff, decide_eq_false_iff_not]
              omega
            rw [hbb] at hcall
            have HCL := Lib.hid hcall
            have hno : ¬ PermP p p.length := permNo HV.out (fun h9 => hbl ⟨h9.1, h9.2.1⟩)
            have HNO := Lib.hid hno
            clear hcall hbb hno hbl
            go_wp2_with fail
            refine (HCL.out _).mono ?_
            rintro e2 w2 ⟨rfl, rfl⟩
            go_wp2_with fail
            go_ret
            exact ⟨by rw [decide_eq_false HNO.out]; rfl, HF.out⟩
        · have i5 : ¬ (k : Int) < (p.length : Int) := by omega
          have hkl : k = p.length := by omega
          have hyes : PermP p p.length := ⟨rfl, HV0.out, by have := HPK.out; rwa [hkl] at this⟩
          have HY := Lib.hid hyes
          clear hkl hyes
          go_wp2_with fail
          go_ret
          exact ⟨by rw [decide_eq_true HY.out]; rfl, HF.out⟩
    · have hno : ¬ PermP p p.length := fun h9 => by
        have h8 := h9.2.1
        rw [hv0] at h8
        exact hz (by simpa using h8)
      rw [decide_eq_false hno]
      clear hno
      have hnz : (v0 == 0) = false := by simpa using hz
      clear hcell hv0 hc1 hc2 hz
      go_enter Tryz.func21, Tryz.ntmps21
      go_wp2_with fail
      go_ret
      exact ⟨rfl, Frm.refl _ _⟩
  · have hno : ¬ PermP p n := fun h9 => hl h9.1
    rw [decide_eq_false hno]
    have hnl : (p.length == n) = false := by simpa using hl
    have hnz : ¬ (p.length : Int) = (n : Int) := by omega
    clear hno h hl
    go_enter Tryz.func21, Tryz.ntmps21
    go_wp2_with fail
    go_ret
    exact ⟨rfl, Frm.refl _ _⟩
end Go.Proofs.YtdknbgejhhoaiaaGreat.Ind

/- Both ways to say that a row is a permutation. -/
namespace Go.Proofs.YtdknbgejhhoaiaaGreat.Ind

theorem cover : ∀ (l p : List Int), l.Nodup → (∀ x ∈ l, x ∈ p) → p.length ≤ l.length → p.Perm l
  | [], p, _, _, h => by
    have : p = [] := List.eq_nil_of_length_eq_zero (by simpa using h)
    rw [this]
  | a :: r, p, hn, hs, hl => by
    have ha : a ∈ p := hs a (by simp)
    rw [List.nodup_cons] at hn
    have h1 := List.perm_cons_erase ha
    have hlen : (p.erase a).length = p.length - 1 := List.length_erase_of_mem ha
    have h2 := cover r (p.erase a) hn.2 (fun x hx => (List.mem_erase_of_ne (fun (e : x = a) => hn.1 (by rw [← e]; exact hx))).2 (hs x (List.mem_cons_of_mem _ hx))) (by rw [hlen]; simp at hl; omega)
    exact h1.trans (h2.cons a)
def valsL (n : Nat) : List Int := (List.range n).map Int.ofNat
theorem vals_nodup (n : Nat) : (valsL n).Nodup := by
  unfold valsL
  refine List.Pairwise.map _ (fun a b h => ?_) List.nodup_range
  intro e
  exact h (Int.ofNat.inj e)
theorem mem_valsL {n : Nat} {x : Int} : x ∈ valsL n ↔ 0 ≤ x ∧ x < n := by
  unfold valsL
  rw [List.mem_map]
  constructor
  · rintro ⟨k, hk, rfl⟩
    rw [List.mem_range] at hk
    exact ⟨Int.natCast_nonneg _, by simpa using hk⟩
  · rintro ⟨h0, h1⟩
    exact ⟨x.toNat, by rw [List.mem_range]; omega, by simp; omega⟩
theorem vals_length (n : Nat) : (valsL n).length = n := by simp [valsL]
/-- The program asks whether the entries are values and differ, the reference whether every value occurs. -/
theorem perm_iff {p : List Int} {n : Nat} (hl : p.length = n) : PermK p n p.length ↔ ∀ v : Nat, v < n → (v : Int) ∈ p := by
  unfold PermK
  rw [List.take_length]
  constructor
  · rintro ⟨h1, h2⟩ v hv
    have := cover p (valsL n) h2 (fun x hx => mem_valsL.2 (h1 x hx)) (by rw [vals_length, hl]; exact Nat.le_refl _)
    exact this.mem_iff.1 (mem_valsL.2 ⟨by omega, by omega⟩)
  · intro h
    have hp := cover (valsL n) p (vals_nodup n) (fun x hx => by
      obtain ⟨h0, h1⟩ := mem_valsL.1 hx
      have := h x.toNat (by omega)
      rwa [Int.toNat_of_nonneg h0] at this) (by rw [vals_length, hl]; exact Nat.le_refl _)
    exact ⟨fun v hv => mem_valsL.1 (hp.mem_iff.1 hv), hp.nodup_iff.2 (vals_nodup n)⟩
theorem permP_iff {p : List Int} {n : Nat} : PermP p n ↔ p.length = n ∧ p[0]? = some 0 ∧ ∀ v : Nat, v < n → (v : Int) ∈ p := by
  unfold PermP
  constructor
  · rintro ⟨h1, h2, h3⟩
    exact ⟨h1, h2, (perm_iff h1).1 h3⟩
  · rintro ⟨h1, h2, h3⟩
    exact ⟨h1, h2, (perm_iff h1).2 h3⟩
end Go.Proofs.YtdknbgejhhoaiaaGreat.Ind
