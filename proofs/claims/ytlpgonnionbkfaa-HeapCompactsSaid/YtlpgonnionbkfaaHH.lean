/- The operations of both heaps, each by the model. -/
import Derived.Test.YtlpgonnionbkfaaHF
import Derived.Test.YtlpgonnionbkfaaHG
namespace Go.Proofs.Ytlpgonnionbkfaa
open Go.RowKit

/-- A heap at block hb, by the blocks that it takes. -/
def HW (th : TypeId) (w : World) (hb : Nat) (fp : List Nat) (most : Int) (cs : List HC) : Prop := ∃ cv vs, HeapRep w hb th cv vs most cs ∧ fpOf hb cv vs = fp
def HWStep (th : TypeId) (w w' : World) (hb : Nat) (fp : List Nat) (most : Int) (cs' : List HC) : Prop := ∃ fp', HW th w' hb fp' most cs' ∧ Frm fp w w' ∧ ∀ x ∈ fp', x ∈ fp ∨ w.heap.size ≤ x
theorem HW.frm {th : TypeId} {w w' : World} {hb : Nat} {fp fq : List Nat} {most : Int} {cs : List HC} (h : HW th w hb fp most cs) (hf : Frm fq w w') (hn : ∀ k ∈ fp, k ∉ fq) : HW th w' hb fp most cs := by
  obtain ⟨cv, vs, h, rfl⟩ := h
  exact ⟨cv, vs, h.frm hf hn, rfl⟩
theorem HW.lt {th : TypeId} {w : World} {hb : Nat} {fp : List Nat} {most : Int} {cs : List HC} (h : HW th w hb fp most cs) : ∀ k ∈ fp, k < w.heap.size := by
  obtain ⟨cv, vs, h, rfl⟩ := h
  exact h.lt
theorem HW.small {th : TypeId} {w : World} {hb : Nat} {fp : List Nat} {most : Int} {cs : List HC} (h : HW th w hb fp most cs) : cs.length ≤ 65536 := by
  obtain ⟨cv, vs, h, rfl⟩ := h
  exact h.small
theorem HW.hb_mem {th : TypeId} {w : World} {hb : Nat} {fp : List Nat} {most : Int} {cs : List HC} (h : HW th w hb fp most cs) : hb ∈ fp := by
  obtain ⟨cv, vs, h, rfl⟩ := h
  simp [fpOf]
theorem HW.step {th : TypeId} {w w' : World} {hb : Nat} {cv : Value} {vs : List Value} {most : Int} {cs : List HC} (h : HeapRep w hb th cv vs most cs) (hf : Frm [] w w') : HWStep th w w' hb (fpOf hb cv vs) most cs :=
  ⟨_, ⟨_, _, h.frm hf (by simp), rfl⟩, hf.mono (by simp), fun x hx => .inl hx⟩

section
variable {w : World} {hb : Nat} {fp : List Nat} {most : Int} {cs : List HC}

/-! The program. -/
theorem alloc_m (h : HW 60 w hb fp most cs) (k n : Int) (v : Value) (xs : List Int) (hv : IntsAt w v xs) (hm : (cs.length : Int) ≤ most) (hmm : most ≤ 65536) :
    Calls Try.prog 10 #[.pointer (some ⟨hb, 0, none⟩), .agg #[.int .i64 k, .int .i64 n, v]] w fun e w' =>
      e = .returned (.tuple #[.int .i64 (allocM most cs ⟨k, n, xs⟩).1, .int .i64 (allocM most cs ⟨k, n, xs⟩).2.1]) ∧ HWStep 60 w w' hb fp most (allocM most cs ⟨k, n, xs⟩).2.2 := by
  obtain ⟨cv, vs, h, rfl⟩ := h
  by_cases hk : goodK k = true
  · by_cases hx : refersB (cs.length + 1) xs = true
    · by_cases hl : (cs.length : Int) = most
      · rw [allocM, if_pos ⟨hk, hx⟩, if_pos hl]
        refine (alloc_full h k n v xs hv (goodK_yes hk) hx hl).mono ?_
        rintro e w' ⟨rfl, h1⟩
        exact ⟨rfl, HW.step h h1⟩
      · rw [allocM, if_pos ⟨hk, hx⟩, if_neg hl]
        have hok : Calls Try.prog 10 #[.pointer (some ⟨hb, 0, none⟩), .agg #[.int .i64 k, .int .i64 n, v]] w fun e w' => e = .returned (.tuple #[.int .i64 cs.length, .int .i64 0]) ∧
            ∃ cv' v', HeapRep w' hb 60 cv' (vs ++ [v']) most (cs ++ [⟨k, n, xs⟩]) ∧ Frm (fpOf hb cv vs) w w' ∧ (∀ x ∈ fpOf hb cv' (vs ++ [v']), x ∈ fpOf hb cv vs ∨ w.heap.size ≤ x) := by
          rcases goodK_yes hk with rfl | ⟨h8, h9⟩
          · exact alloc_thunk h n v xs hv hx (by omega) hmm
          · exact alloc_data h k n h8 h9 v xs hv hx (by omega) hmm
        refine hok.mono ?_
        rintro e w' ⟨rfl, cv', v', h1, h2, h3⟩
        exact ⟨rfl, _, ⟨_, _, h1, rfl⟩, h2, h3⟩
    · rw [allocM, if_neg (fun h9 => hx h9.2)]
      have hx' : refersB (cs.length + 1) xs = false := by simpa using hx
      refine (alloc_refs h k n v xs hv (goodK_yes hk) hx').mono ?_
      rintro e w' ⟨rfl, h1⟩
      exact ⟨rfl, HW.step h h1⟩
  · rw [allocM, if_neg (fun h9 => hk h9.1)]
    have hk' : ¬ (k = 1 ∨ (4 ≤ k ∧ k ≤ 19)) := by simpa [goodK] using hk
    refine (alloc_kind k n v (by omega) (by omega)).mono ?_
    rintro e w' ⟨rfl, h1⟩
    exact ⟨rfl, HW.step h h1⟩

theorem read_m (h : HW 60 w hb fp most cs) (ho : HOk cs) (r : Int) :
    Calls Try.prog 13 #[.pointer (some ⟨hb, 0, none⟩), .int .i64 r] w fun e w' => ∃ a cap, e = .returned (.tuple #[.agg #[.int .i64 (readM cs r).1.kind, .int .i64 (readM cs r).1.num, .slice a (readM cs r).1.refs.length cap], .int .i64 (readM cs r).2.1, .int .i64 (readM cs r).2.2]) ∧
      IntsAt w' (.slice a (readM cs r).1.refs.length cap) (readM cs r).1.refs ∧ (∀ k, (Value.slice a (readM cs r).1.refs.length cap).ownBlock = some k → w.heap.size ≤ k) ∧ Frm [] w w' := by
  obtain ⟨cv, vs, h, rfl⟩ := h
  cases hr : inL cs r with
  | true =>
    obtain ⟨k, rfl, hk⟩ := inL_nat hr
    rw [readM, if_pos hr, Int.toNat_natCast]
    have hc := cellAt_get (ho.tgt_lt hk)
    refine (read_yes h k (tgt cs k) _ hk (ho.tgt hk) hc (by have := ho.two _ (List.mem_of_getElem? hc); omega)).mono ?_
    rintro e w' ⟨a, cap, rfl, h1, h2⟩
    exact ⟨a, cap, rfl, ints_of_owns h1, fun k hk => (h1.lt k hk).1, h2⟩
  | false =>
    rw [readM, if_neg (by simp [hr])]
    refine (read_no h r (inL_no hr)).mono ?_
    rintro e w' ⟨rfl, h1⟩
    exact ⟨none, 0, rfl, .inl ⟨rfl, rfl⟩, fun k hk => (by simp [Value.ownBlock] at hk), h1⟩

theorem enter_m (h : HW 60 w hb fp most cs) (ho : HOk cs) (r : Int) :
    Calls Try.prog 11 #[.pointer (some ⟨hb, 0, none⟩), .int .i64 r] w fun e w' => ∃ a cap, e = .returned (.tuple #[.agg #[.int .i64 (enterM cs r).1.kind, .int .i64 (enterM cs r).1.num, .slice a (enterM cs r).1.refs.length cap], .int .i64 (enterM cs r).2.1]) ∧
      IntsAt w' (.slice a (enterM cs r).1.refs.length cap) (enterM cs r).1.refs ∧ (∀ k, (Value.slice a (enterM cs r).1.refs.length cap).ownBlock = some k → k ∈ fp ∨ w.heap.size ≤ k) ∧ HWStep 60 w w' hb fp most (enterM cs r).2.2 := by
  obtain ⟨cv, vs, h, rfl⟩ := h
  cases hr : inL cs r with
  | true =>
    obtain ⟨k, rfl, hk⟩ := inL_nat hr
    have hc := cellAt_get (ho.tgt_lt hk)
    have ht := ho.tgt hk
    have htwo := ho.two _ (List.mem_of_getElem? hc)
    rw [enterM, if_pos hr, Int.toNat_natCast]
    dsimp only
    obtain ⟨c, hcc⟩ : ∃ c, cellAt cs (tgt cs k) = c := ⟨_, rfl⟩
    rw [hcc] at hc htwo ⊢
    by_cases hk1 : c.kind = 1
    · rw [if_pos hk1]
      obtain ⟨kd, nm, rf⟩ := c
      simp only at hk1 htwo
      subst hk1
      refine (enter_thunk h k (tgt cs k) nm rf hk ht hc).mono ?_
      rintro e w' ⟨a, cap, rfl, hvt, h1, h2, h3⟩
      refine ⟨a, cap, rfl, ints_of_owns h1, fun j hj => .inl ?_, _, ⟨_, _, h2, rfl⟩, h3, fun x hx => ?_⟩
      · simp only [fpOf, List.mem_cons, List.mem_append]
        exact .inr (.inr (mem_blocksOf.2 ⟨tgt cs k, _, hvt, hj⟩))
      · rcases fpOf_set_sub hx with h9 | h9
        · exact .inl h9
        · simp [Value.ownBlock] at h9
    · rw [if_neg hk1]
      refine (enter_other h k (tgt cs k) c hk ht hc hk1).mono ?_
      rintro e w' ⟨rfl, h1⟩
      exact ⟨none, 0, rfl, .inl ⟨rfl, rfl⟩, fun k hk => (by simp [Value.ownBlock] at hk), HW.step h h1⟩
  | false =>
    rw [enterM, if_neg (by simp [hr])]
    refine (enter_no h r (inL_no hr)).mono ?_
    rintro e w' ⟨rfl, h1⟩
    exact ⟨none, 0, rfl, .inl ⟨rfl, rfl⟩, fun k hk => (by simp [Value.ownBlock] at hk), HW.step h h1⟩

theorem update_m (h : HW 60 w hb fp most cs) (ho : HOk cs) (r to : Int) :
    Calls Try.prog 12 #[.pointer (some ⟨hb, 0, none⟩), .int .i64 r, .int .i64 to] w fun e w' => e = .returned (.int .i64 (updateM cs r to).1) ∧ HWStep 60 w w' hb fp most (updateM cs r to).2 := by
  obtain ⟨cv, vs, h, rfl⟩ := h
  cases hr : inL cs r with
  | true =>
    obtain ⟨k, rfl, hk⟩ := inL_nat hr
    cases hto : inL cs to with
    | true =>
      obtain ⟨u, rfl, hu⟩ := inL_nat hto
      rw [updateM, if_pos ⟨hr, hto⟩, Int.toNat_natCast, Int.toNat_natCast]
      have hc := cellAt_get hk
      obtain ⟨c, hcc⟩ : ∃ c, cellAt cs k = c := ⟨_, rfl⟩
      rw [hcc] at hc ⊢
      by_cases hk2 : c.kind = 2
      · rw [if_pos hk2]
        have ht := ho.tgt hu
        by_cases hlp : tgt cs u = k
        · rw [if_pos hlp]
          rw [hlp] at ht
          refine (update_loop h k u c hc hu hk2 ht).mono ?_
          rintro e w' ⟨rfl, rfl⟩
          exact ⟨rfl, HW.step h (Frm.refl _ _)⟩
        · rw [if_neg hlp]
          obtain ⟨kd, nm, rf⟩ := c
          simp only at hk2
          subst hk2
          refine (update_ok h k u (tgt cs u) nm rf hc hu ht hlp).mono ?_
          rintro e w' ⟨rfl, h1, h2⟩
          refine ⟨rfl, _, ⟨_, _, h1, rfl⟩, h2, fun x hx => ?_⟩
          rcases fpOf_set_sub hx with h9 | h9
          · exact .inl h9
          · simp [Value.ownBlock] at h9
            exact .inr (by omega)
      · rw [if_neg hk2]
        refine (update_state h k u c hc hu hk2).mono ?_
        rintro e w' ⟨rfl, rfl⟩
        exact ⟨rfl, HW.step h (Frm.refl _ _)⟩
    | false =>
      rw [updateM, if_neg (by simp [hto])]
      refine (update_no2 h k to hk (inL_no hto)).mono ?_
      rintro e w' ⟨rfl, rfl⟩
      exact ⟨rfl, HW.step h (Frm.refl _ _)⟩
  | false =>
    rw [updateM, if_neg (by simp [hr])]
    refine (update_no h r to (inL_no hr)).mono ?_
    rintro e w' ⟨rfl, rfl⟩
    exact ⟨rfl, HW.step h (Frm.refl _ _)⟩

theorem restore_m (h : HW 60 w hb fp most cs) (r : Int) (k n : Int) (v : Value) (xs : List Int) (hv : IntsAt w v xs) :
    Calls Try.prog 36 #[.pointer (some ⟨hb, 0, none⟩), .int .i64 r, .agg #[.int .i64 k, .int .i64 n, v]] w fun e w' => e = .returned (.int .i64 (restoreM cs r ⟨k, n, xs⟩).1) ∧ HWStep 60 w w' hb fp most (restoreM cs r ⟨k, n, xs⟩).2 := by
  obtain ⟨cv, vs, h, rfl⟩ := h
  cases hr : inL cs r with
  | true =>
    obtain ⟨i, rfl, hi⟩ := inL_nat hr
    rw [restoreM, if_pos hr, Int.toNat_natCast]
    have hc := cellAt_get hi
    obtain ⟨c, hcc⟩ : ∃ c, cellAt cs i = c := ⟨_, rfl⟩
    rw [hcc] at hc ⊢
    obtain ⟨kd, nm, rf⟩ := c
    by_cases hk2 : kd = 2
    · subst hk2
      rw [if_pos rfl]
      by_cases hk : k = 1
      · subst hk
        by_cases hx : refersB cs.length xs = true
        · rw [if_pos ⟨rfl, hx⟩]
          refine (restore_ok h i nm rf hc n v xs hv hx).mono ?_
          rintro e w' ⟨rfl, v', h1, h2, h3⟩
          exact ⟨rfl, _, ⟨_, _, h1, rfl⟩, h2, h3⟩
        · rw [if_neg (fun h9 => hx h9.2)]
          refine (restore_refs h i nm rf hc n v xs hv (by simpa using hx)).mono ?_
          rintro e w' ⟨rfl, h1⟩
          exact ⟨rfl, HW.step h h1⟩
      · rw [if_neg (fun h9 => hk h9.1)]
        refine (restore_kind h i nm rf hc k n hk v xs hv).mono ?_
        rintro e w' ⟨rfl, h1⟩
        exact ⟨rfl, HW.step h h1⟩
    · rw [if_neg hk2]
      refine (restore_state h i kd nm rf hc hk2 k n v xs hv).mono ?_
      rintro e w' ⟨rfl, h1⟩
      exact ⟨rfl, HW.step h h1⟩
  | false =>
    rw [restoreM, if_neg (by simp [hr])]
    refine (restore_no h r (inL_no hr) k n v).mono ?_
    rintro e w' ⟨rfl, h1⟩
    exact ⟨rfl, HW.step h h1⟩

theorem size_m (h : HW 60 w hb fp most cs) :
    Calls Try.prog 21 #[.pointer (some ⟨hb, 0, none⟩)] w fun e w' => e = .returned (.int .i64 cs.length) ∧ w = w' := by
  obtain ⟨cv, vs, h, rfl⟩ := h
  exact size_any h

/-! The reference. -/
theorem ralloc_m (h : HW 76 w hb fp most cs) (k n : Int) (v : Value) (xs : List Int) (hv : IntsAt w v xs) (hm : (cs.length : Int) ≤ most) (hmm : most ≤ 65536) :
    Calls Try.prog 32 #[.pointer (some ⟨hb, 0, none⟩), .agg #[.int .i64 k, .int .i64 n, v]] w fun e w' =>
      e = .returned (.tuple #[.int .i64 (allocM most cs ⟨k, n, xs⟩).1, .int .i64 (allocM most cs ⟨k, n, xs⟩).2.1]) ∧ HWStep 76 w w' hb fp most (allocM most cs ⟨k, n, xs⟩).2.2 := by
  obtain ⟨cv, vs, h, rfl⟩ := h
  by_cases hk : goodK k = true
  · by_cases hx : refersB (cs.length + 1) xs = true
    · by_cases hl : (cs.length : Int) = most
      · rw [allocM, if_pos ⟨hk, hx⟩, if_pos hl]
        have hful : Calls Try.prog 32 #[.pointer (some ⟨hb, 0, none⟩), .agg #[.int .i64 k, .int .i64 n, v]] w fun e w' => e = .returned (.tuple #[.int .i64 0, .int .i64 10]) ∧ Frm [] w w' := by
          rcases goodK_yes hk with rfl | ⟨h8, h9⟩
          · exact ralloc_full1 h n v xs hv hx hl
          · exact ralloc_fullD h k h8 h9 n v xs hv hx hl
        refine hful.mono ?_
        rintro e w' ⟨rfl, h1⟩
        exact ⟨rfl, HW.step h h1⟩
      · rw [allocM, if_pos ⟨hk, hx⟩, if_neg hl]
        have hok : Calls Try.prog 32 #[.pointer (some ⟨hb, 0, none⟩), .agg #[.int .i64 k, .int .i64 n, v]] w fun e w' => e = .returned (.tuple #[.int .i64 cs.length, .int .i64 0]) ∧
            ∃ cv' v', HeapRep w' hb 76 cv' (vs ++ [v']) most (cs ++ [⟨k, n, xs⟩]) ∧ Frm (fpOf hb cv vs) w w' ∧ (∀ x ∈ fpOf hb cv' (vs ++ [v']), x ∈ fpOf hb cv vs ∨ w.heap.size ≤ x) := by
          rcases goodK_yes hk with rfl | ⟨h8, h9⟩
          · exact ralloc_ok1 h n v xs hv hx (by omega) hmm
          · exact ralloc_okD h k h8 h9 n v xs hv hx (by omega) hmm
        refine hok.mono ?_
        rintro e w' ⟨rfl, cv', v', h1, h2, h3⟩
        exact ⟨rfl, _, ⟨_, _, h1, rfl⟩, h2, h3⟩
    · rw [allocM, if_neg (fun h9 => hx h9.2)]
      have hx' : refersB (cs.length + 1) xs = false := by simpa using hx
      have hful : Calls Try.prog 32 #[.pointer (some ⟨hb, 0, none⟩), .agg #[.int .i64 k, .int .i64 n, v]] w fun e w' => e = .returned (.tuple #[.int .i64 0, .int .i64 1]) ∧ Frm [] w w' := by
        rcases goodK_yes hk with rfl | ⟨h8, h9⟩
        · exact ralloc_refs1 h n v xs hv hx'
        · exact ralloc_refsD h k h8 h9 n v xs hv hx'
      refine hful.mono ?_
      rintro e w' ⟨rfl, h1⟩
      exact ⟨rfl, HW.step h h1⟩
  · rw [allocM, if_neg (fun h9 => hk h9.1)]
    have hk' : ¬ (k = 1 ∨ (4 ≤ k ∧ k ≤ 19)) := by simpa [goodK] using hk
    refine (ralloc_kind k n v (by omega) (by omega)).mono ?_
    rintro e w' ⟨rfl, h1⟩
    exact ⟨rfl, HW.step h h1⟩

theorem rread_m (h : HW 76 w hb fp most cs) (ho : HOk cs) (r : Int) :
    Calls Try.prog 40 #[.pointer (some ⟨hb, 0, none⟩), .int .i64 r] w fun e w' => ∃ a cap, e = .returned (.tuple #[.agg #[.int .i64 (readM cs r).1.kind, .int .i64 (readM cs r).1.num, .slice a (readM cs r).1.refs.length cap], .int .i64 (readM cs r).2.1, .int .i64 (readM cs r).2.2]) ∧
      IntsAt w' (.slice a (readM cs r).1.refs.length cap) (readM cs r).1.refs ∧ (∀ k, (Value.slice a (readM cs r).1.refs.length cap).ownBlock = some k → w.heap.size ≤ k) ∧ Frm [] w w' := by
  obtain ⟨cv, vs, h, rfl⟩ := h
  cases hr : inL cs r with
  | true =>
    obtain ⟨k, rfl, hk⟩ := inL_nat hr
    rw [readM, if_pos hr, Int.toNat_natCast]
    have hc := cellAt_get (ho.tgt_lt hk)
    refine (rread_yes h k (tgt cs k) _ hk (ho.tgt hk) hc (by have := ho.two _ (List.mem_of_getElem? hc); omega)).mono ?_
    rintro e w' ⟨a, cap, rfl, h1, h2⟩
    exact ⟨a, cap, rfl, ints_of_owns h1, fun k hk => (h1.lt k hk).1, h2⟩
  | false =>
    rw [readM, if_neg (by simp [hr])]
    refine (rread_no h r (inL_no hr)).mono ?_
    rintro e w' ⟨rfl, h1⟩
    exact ⟨none, 0, rfl, .inl ⟨rfl, rfl⟩, fun k hk => (by simp [Value.ownBlock] at hk), h1⟩

theorem renter_m (h : HW 76 w hb fp most cs) (ho : HOk cs) (r : Int) :
    Calls Try.prog 33 #[.pointer (some ⟨hb, 0, none⟩), .int .i64 r] w fun e w' => ∃ a cap, e = .returned (.tuple #[.agg #[.int .i64 (enterM cs r).1.kind, .int .i64 (enterM cs r).1.num, .slice a (enterM cs r).1.refs.length cap], .int .i64 (enterM cs r).2.1]) ∧
      IntsAt w' (.slice a (enterM cs r).1.refs.length cap) (enterM cs r).1.refs ∧ (∀ k, (Value.slice a (enterM cs r).1.refs.length cap).ownBlock = some k → k ∈ fp ∨ w.heap.size ≤ k) ∧ HWStep 76 w w' hb fp most (enterM cs r).2.2 := by
  obtain ⟨cv, vs, h, rfl⟩ := h
  cases hr : inL cs r with
  | true =>
    obtain ⟨k, rfl, hk⟩ := inL_nat hr
    have hc := cellAt_get (ho.tgt_lt hk)
    have ht := ho.tgt hk
    have htwo := ho.two _ (List.mem_of_getElem? hc)
    rw [enterM, if_pos hr, Int.toNat_natCast]
    dsimp only
    obtain ⟨c, hcc⟩ : ∃ c, cellAt cs (tgt cs k) = c := ⟨_, rfl⟩
    rw [hcc] at hc htwo ⊢
    by_cases hk1 : c.kind = 1
    · rw [if_pos hk1]
      obtain ⟨kd, nm, rf⟩ := c
      simp only at hk1 htwo
      subst hk1
      refine (renter_thunk h k (tgt cs k) nm rf hk ht hc (by omega)).mono ?_
      rintro e w' ⟨a, cap, rfl, h1, h2, h3, h4⟩
      refine ⟨a, cap, rfl, ints_of_owns h1, fun j hj => .inr (h4 j hj), _, ⟨_, _, h2, rfl⟩, h3, fun x hx => ?_⟩
      rcases fpOf_set_sub hx with h9 | h9
      · exact .inl h9
      · simp [Value.ownBlock] at h9
    · rw [if_neg hk1]
      refine (renter_other h k (tgt cs k) c hk ht hc hk1 (by omega)).mono ?_
      rintro e w' ⟨rfl, h1⟩
      exact ⟨none, 0, rfl, .inl ⟨rfl, rfl⟩, fun k hk => (by simp [Value.ownBlock] at hk), HW.step h h1⟩
  | false =>
    rw [enterM, if_neg (by simp [hr])]
    refine (renter_no h r (inL_no hr)).mono ?_
    rintro e w' ⟨rfl, h1⟩
    exact ⟨none, 0, rfl, .inl ⟨rfl, rfl⟩, fun k hk => (by simp [Value.ownBlock] at hk), HW.step h h1⟩

theorem rupdate_m (h : HW 76 w hb fp most cs) (ho : HOk cs) (r to : Int) :
    Calls Try.prog 35 #[.pointer (some ⟨hb, 0, none⟩), .int .i64 r, .int .i64 to] w fun e w' => e = .returned (.int .i64 (updateM cs r to).1) ∧ HWStep 76 w w' hb fp most (updateM cs r to).2 := by
  obtain ⟨cv, vs, h, rfl⟩ := h
  cases hr : inL cs r with
  | true =>
    obtain ⟨k, rfl, hk⟩ := inL_nat hr
    cases hto : inL cs to with
    | true =>
      obtain ⟨u, rfl, hu⟩ := inL_nat hto
      rw [updateM, if_pos ⟨hr, hto⟩, Int.toNat_natCast, Int.toNat_natCast]
      have hc := cellAt_get hk
      obtain ⟨c, hcc⟩ : ∃ c, cellAt cs k = c := ⟨_, rfl⟩
      rw [hcc] at hc ⊢
      by_cases hk2 : c.kind = 2
      · rw [if_pos hk2]
        have ht := ho.tgt hu
        by_cases hlp : tgt cs u = k
        · rw [if_pos hlp]
          rw [hlp] at ht
          refine (rupdate_loop h k u c hc hu hk2 ht).mono ?_
          rintro e w' ⟨rfl, rfl⟩
          exact ⟨rfl, HW.step h (Frm.refl _ _)⟩
        · rw [if_neg hlp]
          obtain ⟨kd, nm, rf⟩ := c
          simp only at hk2
          subst hk2
          refine (rupdate_ok h k u (tgt cs u) nm rf hc hu ht hlp).mono ?_
          rintro e w' ⟨rfl, h1, h2⟩
          refine ⟨rfl, _, ⟨_, _, h1, rfl⟩, h2, fun x hx => ?_⟩
          rcases fpOf_set_sub hx with h9 | h9
          · exact .inl h9
          · simp [Value.ownBlock] at h9
            exact .inr (by omega)
      · rw [if_neg hk2]
        refine (rupdate_state h k u c hc hu hk2).mono ?_
        rintro e w' ⟨rfl, rfl⟩
        exact ⟨rfl, HW.step h (Frm.refl _ _)⟩
    | false =>
      rw [updateM, if_neg (by simp [hto])]
      refine (rupdate_no2 h k to hk (inL_no hto)).mono ?_
      rintro e w' ⟨rfl, rfl⟩
      exact ⟨rfl, HW.step h (Frm.refl _ _)⟩
  | false =>
    rw [updateM, if_neg (by simp [hr])]
    refine (rupdate_no h r to (inL_no hr)).mono ?_
    rintro e w' ⟨rfl, rfl⟩
    exact ⟨rfl, HW.step h (Frm.refl _ _)⟩

theorem rrestore_m (h : HW 76 w hb fp most cs) (r : Int) (k n : Int) (v : Value) (xs : List Int) (hv : IntsAt w v xs) :
    Calls Try.prog 37 #[.pointer (some ⟨hb, 0, none⟩), .int .i64 r, .agg #[.int .i64 k, .int .i64 n, v]] w fun e w' => e = .returned (.int .i64 (restoreM cs r ⟨k, n, xs⟩).1) ∧ HWStep 76 w w' hb fp most (restoreM cs r ⟨k, n, xs⟩).2 := by
  obtain ⟨cv, vs, h, rfl⟩ := h
  cases hr : inL cs r with
  | true =>
    obtain ⟨i, rfl, hi⟩ := inL_nat hr
    rw [restoreM, if_pos hr, Int.toNat_natCast]
    have hc := cellAt_get hi
    obtain ⟨c, hcc⟩ : ∃ c, cellAt cs i = c := ⟨_, rfl⟩
    rw [hcc] at hc ⊢
    obtain ⟨kd, nm, rf⟩ := c
    by_cases hk2 : kd = 2
    · subst hk2
      rw [if_pos rfl]
      by_cases hk : k = 1
      · subst hk
        by_cases hx : refersB cs.length xs = true
        · rw [if_pos ⟨rfl, hx⟩]
          refine (rrestore_ok h i nm rf hc n v xs hv hx).mono ?_
          rintro e w' ⟨rfl, v', h1, h2, h3⟩
          exact ⟨rfl, _, ⟨_, _, h1, rfl⟩, h2, h3⟩
        · rw [if_neg (fun h9 => hx h9.2)]
          refine (rrestore_refs h i nm rf hc n v xs hv (by simpa using hx)).mono ?_
          rintro e w' ⟨rfl, h1⟩
          exact ⟨rfl, HW.step h h1⟩
      · rw [if_neg (fun h9 => hk h9.1)]
        refine (rrestore_kind h i nm rf hc k n hk v xs hv).mono ?_
        rintro e w' ⟨rfl, h1⟩
        exact ⟨rfl, HW.step h h1⟩
    · rw [if_neg hk2]
      refine (rrestore_state h i kd nm rf hc hk2 k n v xs hv).mono ?_
      rintro e w' ⟨rfl, h1⟩
      exact ⟨rfl, HW.step h h1⟩
  | false =>
    rw [restoreM, if_neg (by simp [hr])]
    refine (rrestore_no h r (inL_no hr) k n v).mono ?_
    rintro e w' ⟨rfl, h1⟩
    exact ⟨rfl, HW.step h h1⟩

theorem rsize_m (h : HW 76 w hb fp most cs) :
    Calls Try.prog 31 #[.pointer (some ⟨hb, 0, none⟩)] w fun e w' => e = .returned (.int .i64 cs.length) ∧ w = w' := by
  obtain ⟨cv, vs, h, rfl⟩ := h
  exact rsize_any h

end
end Go.Proofs.Ytlpgonnionbkfaa
