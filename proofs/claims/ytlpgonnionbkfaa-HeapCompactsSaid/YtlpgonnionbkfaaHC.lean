/- Contracts of the reference's heap: own, Read; appends of integers. -/
import Derived.Test.YtlpgonnionbkfaaHB
import Derived.Maps.AppendAt
import Derived.Laws.AppendOwnNone
import Derived.WalkSpells
namespace Go.Proofs.Ytlpgonnionbkfaa
open Go.RowKit

/-- append(s, u...) at []int, u any row of integers, nil or not. -/
theorem app_ints {w : World} {ops : Array Oper} {rest : List Oper} {o : Oper} {a : Act} {Q : Exit → Act → World → Prop} (hgd : o.guard = none) (s x : Operand)
    (ho : o.op = .call { callee := .builtin .append, args := #[s, x], argTypes := #[30, 30] })
    (B n N : Nat) (v : Value) (xs : List Int) (hs : a.eval s = v) (hown : w.ownsRow B 3 1 v n (ints xs)) (u : Value) (ys : List Int) (hx : a.eval x = u) (hy : IntsAt w u ys) (hN : n + ys.length = N) (hb : N ≤ 1000000000) (hB : B ≤ w.heap.size)
    (h : ∀ a' cp w', w'.ownsRow B 3 1 (.slice a' N cp) N (ints (xs ++ ys)) → Frm v.ownBlock.toList w w' → (∀ k, (Value.slice a' N cp).ownBlock = some k → v.ownBlock = some k ∨ k = w.heap.size) → wpList Try.prog ops Q rest (a.put o.dst (.slice a' N cp)) w') : wpList Try.prog ops Q (o :: rest) a w := by
  obtain ⟨i0, hi, hz0, hz1, hz2⟩ := info_parts Try.infoI
  rcases hy with ⟨rfl, rfl⟩ | ⟨b, off, cap, rfl, h1, h2, h3, h4⟩
  · rw [List.length_nil, Nat.add_zero] at hN
    subst hN
    obtain ⟨a', cp, rfl, _⟩ := owns_shape (owns_base hown)
    refine wpList_append_own_none hgd s x 30 ho B 3 i0 1 Try.underlying30 hi _ n (ints xs) hs hown hx ?_
    exact h a' cp w (by rw [List.append_nil]; exact hown) (Frm.refl _ _) (fun k hk => .inl hk)
  · refine Go.wpList_append_own_at w hgd s x 30 ho B 3 i0 (.int .i64 0) 1 8 Try.underlying30 hi hz0 hz1 hz2 rfl (by decide) v n (ints xs) hs hown ⟨b, off, none⟩ ys.length cap (ints ys) hx (by simp [ints]) (fun j y hj => ?_) (fun y hy => ?_) (by unfold maxLen; omega) (by omega) hB ?_
    · simp only [ints, List.getElem?_map, Option.map_eq_some_iff] at hj
      obtain ⟨z, hz, rfl⟩ := hj
      rw [Addr.add_lit]
      exact h4 j z hz
    · simp only [ints, List.mem_map] at hy
      obtain ⟨z, _, rfl⟩ := hy
      rfl
    · intro v' w' hown' hgr _ hloc
      subst hN
      obtain ⟨a', cp, rfl, _⟩ := owns_shape (owns_base hown')
      refine h a' cp w' (by rw [ints, List.map_append]; exact hown') ((Frm.refl _ _).grown hgr (fun k hk => .inl (by simp [hk]))) (fun k hk => ?_)
      rcases hloc with h9 | h9
      · exact .inl (by rw [← h9]; exact hk)
      · rw [h9] at hk
        exact .inr (by simpa using hk.symm)

/-- own of the reference. -/
theorem own_any (k n : Int) (v : Value) (xs : List Int) (w : World) (h : IntsAt w v xs) (hl : xs.length ≤ 1000000) :
    Calls Try.prog 47 #[.agg #[.int .i64 k, .int .i64 n, v]] w fun e w' => ∃ a cap, e = .returned (.agg #[.int .i64 k, .int .i64 n, .slice a xs.length cap]) ∧
      w'.ownsRow w.heap.size 3 1 (.slice a xs.length cap) xs.length (ints xs) ∧ Frm [] w w' := by
  obtain ⟨a, cap, rfl, hlen⟩ := h.shape
  have f0 : Frm [] w ((w.alloc (.cells #[.int .i64 k, .int .i64 n, .slice a xs.length cap] 32)).alloc (.cells #[.int .i64 0, .int .i64 0, .slice none 0 0] 32)) := ((Frm.refl [] w).alloc _).alloc _
  have h' := h.frm f0 (by simp)
  have r0 := (RowAt.made w 32 [.int .i64 k, .int .i64 n, .slice a xs.length cap] #[.int .i64 k, .int .i64 n, .slice a xs.length cap] rfl).alloc (.cells #[.int .i64 0, .int .i64 0, .slice none 0 0] 32)
  have r1 := RowAt.made (w.alloc (.cells #[.int .i64 k, .int .i64 n, .slice a xs.length cap] 32)) 32 [.int .i64 0, .int .i64 0, .slice none 0 0] #[.int .i64 0, .int .i64 0, .slice none 0 0] rfl
  rw [show (w.alloc (.cells #[.int .i64 k, .int .i64 n, .slice a xs.length cap] 32)).heap.size = w.heap.size + 1 from by simp] at r1
  have HH := Lib.hid h'
  clear h h'
  go_enter Try.func47, Try.ntmps47
  go_wp2_with (at_builtin; refine app_ints rfl _ _ rfl (w.heap.size + 2) 0 xs.length (.slice none 0 0) [] rfl (World.ownsRow_nil _ _ _ _) (.slice a xs.length cap) xs rfl HH.out (by omega) (by omega) (by simp) ?_)
  intro a' cp w1 hown hf hloc
  have hf1 : Frm [] _ w1 := hf
  have s0 := r0.frm hf1 (by simp)
  have s1 := r1.frm hf1 (by simp)
  have c0 := s0.cell (i := 0) rfl
  have c1 := s0.cell (i := 1) rfl
  have c2 := s0.cell (i := 2) rfl
  have d0 := s1.cell (i := 0) rfl
  have d1 := s1.cell (i := 1) rfl
  have d2 := s1.cell (i := 2) rfl
  have z0 := s0.frozen 2
  have y0 := s1.frozen 0
  have y1 := s1.frozen 1
  have y2 := s1.frozen 2
  have HF := Lib.hid (f0.trans hf1 (by simp))
  have HO := Lib.hid hown
  clear hf hf1 hloc f0 hown r0 r1 s0 s1
  go_wp2
  refine bodyPost_ret (v := .agg #[.int .i64 k, .int .i64 n, .slice a' xs.length cp]) (by simp [results, Try.results47, go_sem, d0, d1, d2]) rfl ⟨a', cp, rfl, ?_, ?_⟩
  · exact ownsB_mono (ownsB_other (ownsB_other (ownsB_other (ownsB_other HO.out (by simp) _) (by simp) _) (by simp) _) (by simp) _) (by simp)
  · exact ((((HF.out.setCell (.inr (by simp)) _).setCell (.inr (by simp)) _).setCell (.inr (by simp)) _).setCell (.inr (by simp)) _)

section
variable {w : World} {hb : Nat} {cv : Value} {vs : List Value} {most : Int} {cs : List HC}

theorem rread_no (h : HeapRep w hb 76 cv vs most cs) (r : Int) (hr : r < 0 ∨ (cs.length : Int) ≤ r) :
    Calls Try.prog 40 #[.pointer (some ⟨hb, 0, none⟩), .int .i64 r] w fun e w' => e = .returned (.tuple #[.agg zcell, .int .i64 0, .int .i64 21]) ∧ Frm [] w w' := by
  have f0 : Frm [] w (w.alloc (.cells zcell 32)) := (Frm.refl _ _).alloc _
  have h' := h.frm f0 (by simp)
  go_enter Try.func40, Try.ntmps40
  go_wp2_with fail
  refine (there_no h' r hr).mono ?_
  rintro e w1 ⟨rfl, rfl⟩
  go_wp2
  refine bodyPost_ret (v := .tuple #[.agg zcell, .int .i64 0, .int .i64 21]) (by simp [results, Try.results40, go_sem]) rfl ⟨rfl, f0⟩

set_option maxHeartbeats 400000 in
theorem rread_yes (h : HeapRep w hb 76 cv vs most cs) (r t : Nat) (c : HC) (hr : r < cs.length) (hf : fol cs cs.length r = some t) (hc : cs[t]? = some c) (hlc : c.refs.length ≤ 4096) :
    Calls Try.prog 40 #[.pointer (some ⟨hb, 0, none⟩), .int .i64 r] w fun e w' => ∃ a cap, e = .returned (.tuple #[.agg #[.int .i64 c.kind, .int .i64 c.num, .slice a c.refs.length cap], .int .i64 t, .int .i64 0]) ∧
      w'.ownsRow w.heap.size 3 1 (.slice a c.refs.length cap) c.refs.length (ints c.refs) ∧ Frm [] w w' := by
  have f0 : Frm [] w (w.alloc (.cells zcell 32)) := (Frm.refl _ _).alloc _
  have h' := h.frm f0 (by simp)
  have r1 := RowAt.made w 32 [.int .i64 0, .int .i64 0, .slice none 0 0] zcell rfl
  have ht := (fol_lt hf).1
  obtain ⟨cb, cap, rfl, hc1, hc2, hcs⟩ := h'.shape (by omega)
  have h1 := h'.hd.cell (i := 1) rfl
  have hsm := h.small
  obtain ⟨v, hv, c0, c1, c2, _, _, _, hrf⟩ := hcs t c hc
  have hi := ints_of_owns (xs := c.refs) (v := v) hrf
  obtain ⟨a0, cap0, rfl, _⟩ := owns_shape hrf
  clear hcs hc hv
  go_enter Try.func40, Try.ntmps40
  go_wp2_with fail
  refine (there_yes h' r hr).mono ?_
  rintro e w1 ⟨rfl, rfl⟩
  go_wp2_with fail
  refine (find_any h' _ r t hf).mono ?_
  rintro e w1 ⟨rfl, rfl⟩
  go_wp2_with fail
  refine (own_any _ _ _ _ _ hi (by omega)).mono ?_
  rintro e w1 ⟨a, cp, rfl, hown, hf1⟩
  have s1 := r1.frm hf1 (by simp)
  have d0 := s1.cell (i := 0) rfl
  have d1 := s1.cell (i := 1) rfl
  have d2 := s1.cell (i := 2) rfl
  have y0 := s1.frozen 0
  have y1 := s1.frozen 1
  have y2 := s1.frozen 2
  have f2 := f0.trans hf1 (by simp)
  clear h h' f0 hi hf
  go_wp2
  refine bodyPost_ret (v := .tuple #[.agg #[.int .i64 c.kind, .int .i64 c.num, .slice a c.refs.length cp], .int .i64 t, .int .i64 0]) (by simp [results, Try.results40, go_sem, d0, d1, d2]) rfl ⟨a, cp, rfl, ?_, ?_⟩
  · exact ownsB_mono (ownsB_other (ownsB_other (ownsB_other hown (by simp) _) (by simp) _) (by simp) _) (by simp)
  · exact ((f2.setCell (.inr (by simp)) _).setCell (.inr (by simp)) _).setCell (.inr (by simp)) _

end
end Go.Proofs.Ytlpgonnionbkfaa
