/- Contracts of valid, write, perform and Used of the program's disk. -/
import Derived.Test.YtkebdgbjgbcneaaDB
namespace Go.Proofs.Ytkebdgbjgbcneaa
open Go.RowKit Go.Maps

theorem len_nm (s : Nm) : (⟨s.toArray⟩ : ByteArray).size = s.length := rfl
theorem toList_nm (s : Nm) : (⟨s.toArray⟩ : ByteArray).toList = s := by rw [ByteArray.toList_eq]
def hdC (m : DM) (x1 x2 x3 : Value) : List Value := [.int .i64 (m.cap : Int), x1, x2, x3, .int .i64 m.count, .int .i64 (m.armed : Int), .bool m.off]

set_option linter.unusedSimpArgs false in
theorem valid_any (s : Nm) (w : World) (hs : s.length ≤ maxLen) : Calls Try.prog 29 #[str s] w fun e w' => e = .returned (.bool (goodN s)) ∧ w' = w := by
  have hsz : (⟨s.toArray⟩ : ByteArray).size = s.length := rfl
  have h1 : (s.length : Int) ≤ 9223372036854775807 := by unfold maxLen at hs; omega
  by_cases a : 1 ≤ s.length
  · have h2 : (1 : Int) ≤ (s.length : Int) := by omega
    by_cases b : s.length ≤ 32
    · have h3 : (s.length : Int) ≤ 32 := by omega
      have hg : goodN s = true := by simp [goodN]; omega
      rw [hg]
      clear a b hg hs
      go_enter Try.func29, Try.ntmps29
      go_wp2_with fail
      go_ret
      exact ⟨rfl, rfl⟩
    · have h3 : ¬ (s.length : Int) ≤ 32 := by omega
      have hg : goodN s = false := by simp [goodN]; omega
      rw [hg]
      clear a b hg hs
      go_enter Try.func29, Try.ntmps29
      go_wp2_with fail
      go_ret
      exact ⟨rfl, rfl⟩
  · have h2 : ¬ (1 : Int) ≤ (s.length : Int) := by omega
    have hg : goodN s = false := by simp [goodN]; omega
    rw [hg]
    clear a hg hs
    go_enter Try.func29, Try.ntmps29
    go_wp2_with fail
    go_ret
    exact ⟨rfl, rfl⟩

set_option linter.unusedSimpArgs false in
theorem write_any {w : World} {d : Nat} {x1 x2 x3 : Value} {m : DM} (h : RowAt w d 58 (hdC m x1 x2 x3)) (ha : (m.armed : Int) ≤ 9223372036854775807) :
    Calls Try.prog 31 #[.pointer (some ⟨d, 0, none⟩)] w fun e w' => e = .returned (.bool (!(writeM m).off)) ∧ RowAt w' d 58 (hdC (writeM m) x1 x2 x3) ∧ Frm [d] w w' := by
  have c4 := h.cell (i := 4) rfl
  have c5 := h.cell (i := 5) rfl
  have c6 := h.cell (i := 6) rfl
  have z4 := h.frozen 4
  have z5 := h.frozen 5
  have z6 := h.frozen 6
  have hc := h.setCell 4 (.int .i64 (wrap64 (m.count + 1)))
  by_cases h0 : 0 < m.armed
  · have i1 : (0 : Int) < (m.armed : Int) := by omega
    obtain ⟨k, hk⟩ : ∃ k, m.armed = k + 1 := ⟨m.armed - 1, by omega⟩
    have iw : IntKind.i64.wrap ((m.armed : Int) - 1) = (k : Int) := by rw [IntWalk.i64_in _ (by omega)]; omega
    have i2 : (0 : Int) ≤ (k : Int) := by omega
    have hw : writeM m = { m with count := wrap64 (m.count + 1), armed := k, off := decide (k = 0) } := by
      rw [writeM, if_pos h0, hk]; rfl
    rw [hw]
    have HC := Lib.hid hc
    have HK := Lib.hid hk
    rcases Nat.eq_zero_or_pos k with hz | hz
    · have hb : ((k : Int) == 0) = true := by simp [hz]
      have hd : decide (k = 0) = true := by simp [hz]
      have HD := Lib.hid hd
      clear h h0 hk hc hw hd hz
      go_enter Try.func31, Try.ntmps31
      go_wp2_with fail
      go_ret
      have H5 := HC.out.setCell 5 (.int .i64 (k : Int))
      have H6 := H5.setCell 6 (.bool true)
      refine ⟨by rw [HD.out]; rfl, by rw [HD.out]; exact H6, ?_⟩
      exact (((Frm.refl [d] w).setCell (p := ⟨d, 4, none⟩) (.inl (by simp)) _).setCell (p := ⟨d, 5, none⟩) (.inl (by simp)) _).setCell (p := ⟨d, 6, none⟩) (.inl (by simp)) _
    · have hb : ((k : Int) == 0) = false := beq_eq_false_iff_ne.2 (by omega)
      have hd : decide (k = 0) = false := by simp; omega
      have HD := Lib.hid hd
      clear h h0 hk hc hw hd hz
      go_enter Try.func31, Try.ntmps31
      go_wp2_with fail
      go_ret
      have H5 := HC.out.setCell 5 (.int .i64 (k : Int))
      have H6 := H5.setCell 6 (.bool false)
      refine ⟨by rw [HD.out]; rfl, by rw [HD.out]; exact H6, ?_⟩
      exact (((Frm.refl [d] w).setCell (p := ⟨d, 4, none⟩) (.inl (by simp)) _).setCell (p := ⟨d, 5, none⟩) (.inl (by simp)) _).setCell (p := ⟨d, 6, none⟩) (.inl (by simp)) _
  · have hz : m.armed = 0 := by omega
    have i1 : ¬ (0 : Int) < (m.armed : Int) := by omega
    have hw : writeM m = { m with count := wrap64 (m.count + 1) } := by rw [writeM, if_neg h0]
    rw [hw]
    have HC := Lib.hid hc
    clear h h0 hz hc hw
    go_enter Try.func31, Try.ntmps31
    go_wp2_with fail
    go_ret
    exact ⟨rfl, HC.out, (Frm.refl [d] w).setCell (p := ⟨d, 4, none⟩) (.inl (by simp)) _⟩

theorem OpOk.name {n : Nat} {o : OpM} (h : OpOk n o) : goodN o.name = true := by
  rcases h with ⟨_, h, _⟩ | ⟨_, h, _⟩ | ⟨_, h⟩ <;> exact h
theorem goodN_len {s : Nm} (h : goodN s = true) : 1 ≤ s.length ∧ s.length ≤ 32 := by simpa [goodN] using h
theorem goodN_max {s : Nm} (h : goodN s = true) : s.length ≤ maxLen := by have := goodN_len h; unfold maxLen; omega
theorem goodN_ne {s : Nm} (h : goodN s = true) : s ≠ [] := fun e => by subst e; have := goodN_len h; simp at this

set_option linter.unusedSimpArgs false in
set_option maxHeartbeats 1000000 in
theorem perform_any {w : World} {b n : Nat} {bs : Nat → Nat} {l : Dir} (h : MapD w b bs l) (o : OpM) (ho : OpOk n o) (hl : l.length ≤ 1000) :
    Calls Try.prog 37 #[.agg (opC bs o).toArray, .map (some b)] w fun e w' => e = .returned (.tuple #[]) ∧ MapD w' b bs (doneD l o) ∧ Frm [b] w w' := by
  have hlt := h.lt
  have hlm : l.length < maxLen := by unfold maxLen; omega
  have HL := Lib.hid hlm
  clear hlm
  rcases ho with ⟨hk, h1, h2⟩ | ⟨hk, h1, h2, h3⟩ | ⟨hk, h1⟩
  · have he : opC bs o = [str [], str o.name, .pointer (some ⟨bs o.file, 0, none⟩)] := by rw [opC, if_pos hk]
    have hd : doneD l o = withD l o.name o.file := by rw [doneD, if_pos hk]
    rw [he, hd]
    have f0 : Frm [] w (w.alloc (.cells #[str [], str o.name, .pointer (some ⟨bs o.file, 0, none⟩)] 65)) := (Frm.refl [] w).alloc _
    have H0 := Lib.hid (h.frm f0 (by simp))
    have HN := Lib.hid (goodN_max h1)
    have e0 : (ByteArray.mk #[]).toList = [] := toList_nm []
    clear h he hd h1 h2 hk
    go_enter Try.func37, Try.ntmps37
    go_wp2_with (first | (at_mapUpdate; refine wpl_put rfl _ _ _ rfl b bs l rfl H0.out HL.out o.name o.file rfl rfl HN.out ?_; intro w2 hm2 hf2) | fail)
    go_wp2_with fail
    go_end0
    exact ⟨rfl, hm2, (f0.mono (by simp)).trans hf2 (fun x hx => .inl hx)⟩
  · have he : opC bs o = [str o.name, str o.to, .pointer (some ⟨bs o.file, 0, none⟩)] := by rw [opC, if_neg (by omega), if_pos hk]
    have hd : doneD l o = withD (withoutD l o.name) o.to o.file := by rw [doneD, if_neg (by omega), if_pos hk]
    rw [he, hd]
    have f0 : Frm [] w (w.alloc (.cells #[str o.name, str o.to, .pointer (some ⟨bs o.file, 0, none⟩)] 65)) := (Frm.refl [] w).alloc _
    have r0 := RowAt.made w 65 [str o.name, str o.to, .pointer (some ⟨bs o.file, 0, none⟩)] #[str o.name, str o.to, .pointer (some ⟨bs o.file, 0, none⟩)] rfl
    have R0 := Lib.hid r0
    have H0 := Lib.hid (h.frm f0 (by simp))
    have HN := Lib.hid (goodN_max h1)
    have HT := Lib.hid (goodN_max h2)
    have HLL : Hid ((withoutD l o.name).length < maxLen) := Lib.hid (Nat.lt_of_le_of_lt (List.length_filter_le _ _) HL.out)
    have e0 : (ByteArray.mk #[]).toList = [] := toList_nm []
    have e1 : (ByteArray.mk o.name.toArray).toList = o.name := toList_nm _
    have e2 : (o.name == []) = false := beq_eq_false_iff_ne.2 (goodN_ne h1)
    have hlb : w.heap.size ≠ b := by omega
    clear h he hd h1 h2 h3 hk r0
    go_enter Try.func37, Try.ntmps37
    go_wp2_with (first | (at_delete; refine wpl_del rfl _ _ rfl b bs l rfl H0.out o.name rfl HN.out ?_; intro w2 hm2 hf2; have r2 := R0.out.frm hf2 (by simpa using hlb); have p0 := r2.cell (i := 0) rfl; have p1 := r2.cell (i := 1) rfl; have p2 := r2.cell (i := 2) rfl; have z0 := r2.frozen 0) | (at_mapUpdate; refine wpl_put rfl _ _ _ rfl b bs (withoutD l o.name) rfl hm2 HLL.out o.to o.file rfl rfl HT.out ?_; intro w3 hm3 hf3) | fail)
    go_wp2_with fail
    go_end0
    exact ⟨rfl, hm3, ((f0.mono (by simp)).trans hf2 (fun x hx => .inl hx)).trans hf3 (fun x hx => .inl hx)⟩
  · have he : opC bs o = [str [], str o.name, .pointer none] := by rw [opC, if_neg (by omega), if_neg (by omega)]
    have hd : doneD l o = withoutD l o.name := by rw [doneD, if_neg (by omega), if_neg (by omega)]
    rw [he, hd]
    have f0 : Frm [] w (w.alloc (.cells #[str [], str o.name, .pointer none] 65)) := (Frm.refl [] w).alloc _
    have H0 := Lib.hid (h.frm f0 (by simp))
    have HN := Lib.hid (goodN_max h1)
    have e0 : (ByteArray.mk #[]).toList = [] := toList_nm []
    clear h he hd h1 hk
    go_enter Try.func37, Try.ntmps37
    go_wp2_with (first | (at_delete; refine wpl_del rfl _ _ rfl b bs l rfl H0.out o.name rfl HN.out ?_; intro w2 hm2 hf2) | fail)
    go_wp2_with fail
    go_end0
    exact ⟨rfl, hm2, (f0.mono (by simp)).trans hf2 (fun x hx => .inl hx)⟩

end Go.Proofs.Ytkebdgbjgbcneaa
