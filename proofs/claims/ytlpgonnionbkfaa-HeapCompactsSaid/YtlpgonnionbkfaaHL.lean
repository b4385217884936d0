/- A queue of integers: a row that is read from its head and grows at its end. -/
import Derived.Test.YtlpgonnionbkfaaHK
namespace Go.Proofs.Ytlpgonnionbkfaa
open Go.RowKit

def QAt (w : World) (B : Nat) (v : Value) (xs : List Int) : Prop :=
  (v = .slice none 0 0 ∧ xs = []) ∨ ∃ g off cap cur, v = .slice (some ⟨g, off, none⟩) xs.length cap ∧ B ≤ g ∧ w.heap[g]? = some (.cells cur 3 (0, 0)) ∧ xs.length ≤ cap ∧ cap ≤ maxLen ∧ off + cap ≤ cur.size ∧ (cur.toList.drop off).take xs.length = ints xs
theorem QAt.nil (w : World) (B : Nat) : QAt w B (.slice none 0 0) [] := .inl ⟨rfl, rfl⟩
theorem QAt.of_owns {w : World} {B n : Nat} {v : Value} {xs : List Int} (h : w.ownsRow B 3 1 v n (ints xs)) : QAt w B v xs := by
  have hl : xs.length = n := by have := h.1; rw [ints_len] at this; omega
  rcases h.2 with ⟨h0, h1⟩ | ⟨g, cap, cur, h0, hb, hg, h1, h2, h3, h4⟩
  · exact .inl ⟨h0, List.eq_nil_of_length_eq_zero (by omega)⟩
  · exact .inr ⟨g, 0, cap, cur, by rw [hl]; exact h0, hb, hg, by omega, h2, by omega, by rw [List.drop_zero, hl]; simpa using h4⟩
theorem QAt.lt {w : World} {B : Nat} {v : Value} {xs : List Int} (h : QAt w B v xs) : ∀ k, v.ownBlock = some k → B ≤ k ∧ k < w.heap.size := by
  rcases h with ⟨rfl, _⟩ | ⟨g, off, cap, cur, rfl, hb, hg, _⟩
  · intro k hk; simp [Value.ownBlock] at hk
  · intro k hk
    simp [Value.ownBlock] at hk
    subst hk
    exact ⟨hb, (Array.getElem?_eq_some_iff.1 hg).1⟩
theorem QAt.frm {w w' : World} {B : Nat} {v : Value} {xs : List Int} {fp : List Nat} (h : QAt w B v xs) (hf : Frm fp w w') (hn : ∀ k, v.ownBlock = some k → k ∉ fp) : QAt w' B v xs := by
  rcases h with h | ⟨g, off, cap, cur, rfl, hb, hg, rest⟩
  · exact .inl h
  · exact .inr ⟨g, off, cap, cur, rfl, hb, by rw [hf.block g (Array.getElem?_eq_some_iff.1 hg).1 (hn g rfl)]; exact hg, rest⟩
theorem QAt.alloc {w : World} {B : Nat} {v : Value} {xs : List Int} (h : QAt w B v xs) (o : Obj) : QAt (w.alloc o) B v xs := h.frm ((Frm.refl [] w).alloc o) (by simp)
theorem QAt.get {w : World} {B g off n cap : Nat} {xs : List Int} (h : QAt w B (.slice (some ⟨g, off, none⟩) n cap) xs) {i : Nat} {x : Int} (hx : xs[i]? = some x) : w.cell? ⟨g, off + i, none⟩ = some (.int .i64 x) := by
  rcases h with ⟨h, _⟩ | ⟨g', off', cap', cur, h0, hb, hg, h1, h2, h3, h4⟩
  · cases h
  · simp only [Value.slice.injEq, Option.some.injEq, Addr.mk.injEq, and_true] at h0
    obtain ⟨⟨rfl, rfl⟩, _, rfl⟩ := h0
    have hi := (List.getElem?_eq_some_iff.1 hx).1
    have h5 := ints_get hx
    rw [← h4, List.getElem?_take, if_pos hi, List.getElem?_drop] at h5
    simp only [World.cell?, hg]
    simpa using h5
theorem QAt.shape {w : World} {B : Nat} {v : Value} {xs : List Int} (h : QAt w B v xs) (hp : 0 < xs.length) : ∃ g off cap, v = .slice (some ⟨g, off, none⟩) xs.length cap ∧ xs.length ≤ cap ∧ cap ≤ maxLen := by
  rcases h with ⟨_, rfl⟩ | ⟨g, off, cap, cur, h0, hb, hg, h1, h2, _⟩
  · simp at hp
  · exact ⟨g, off, cap, h0, h1, h2⟩
theorem QAt.tail {w : World} {B g off n cap : Nat} {x : Int} {r : List Int} (h : QAt w B (.slice (some ⟨g, off, none⟩) n cap) (x :: r)) : QAt w B (.slice (some ⟨g, off + 1, none⟩) r.length (cap - 1)) r := by
  rcases h with ⟨h, _⟩ | ⟨g', off', cap', cur, h0, hb, hg, h1, h2, h3, h4⟩
  · cases h
  · simp only [Value.slice.injEq, Option.some.injEq, Addr.mk.injEq, and_true] at h0
    obtain ⟨⟨rfl, rfl⟩, _, rfl⟩ := h0
    simp only [List.length_cons] at h1
    refine .inr ⟨g, off + 1, cap - 1, cur, rfl, hb, hg, by omega, by omega, by omega, ?_⟩
    have h5 := congrArg (List.drop 1) h4
    rw [List.length_cons, List.drop_take, List.drop_drop] at h5
    have h6 : List.drop 1 (ints (x :: r)) = ints r := rfl
    rw [h6] at h5
    simpa using h5
theorem QAt.tail0 {w : World} {B g off n cap : Nat} {x : Int} {r : List Int} (h : QAt w B (.slice (some ⟨g, off, none⟩) n cap) (x :: r)) (h1 : cap = 1) : QAt w B (.slice (some ⟨g, off, none⟩) r.length 0) r := by
  rcases h with ⟨h, _⟩ | ⟨g', off', cap', cur, h0, hb, hg, h2, h3, h4, h5⟩
  · cases h
  · simp only [Value.slice.injEq, Option.some.injEq, Addr.mk.injEq, and_true] at h0
    obtain ⟨⟨rfl, rfl⟩, _, rfl⟩ := h0
    simp only [List.length_cons] at h2
    obtain rfl : r = [] := List.eq_nil_of_length_eq_zero (by omega)
    exact .inr ⟨g, off, 0, cur, rfl, hb, hg, Nat.le_refl _, Nat.zero_le _, by omega, by simp [ints]⟩

section
variable {P : Program} (w : World)
theorem run_append_room_off (t ty e : TypeId) (i : TypeInfo) (ht : P.underlying t = some (.slice e)) (hi : P.info? e = some i)
    (g off sLen sCap : Nat) (cur : Array Value) (hg : w.heap[g]? = some (.cells cur e (0, 0)))
    (a : Addr) (m c : Nat) (news : List Value) (hl : news.length = m * i.size) (hnews : ∀ j u, news[j]? = some u → w.cell? (a.add j) = some u) (h1 : ∀ u ∈ news, u.oneCell' = true)
    (hroom : sLen + m ≤ sCap) (hfit : off + sLen * i.size + news.length ≤ cur.size) :
    (Builtin.append_ #[t, t] ty #[.slice (some ⟨g, off, none⟩) sLen sCap, .slice (some a) m c]).run P w =
      .ok (.slice (some ⟨g, off, none⟩) (sLen + m) sCap) (w.setRow g (cur.toList.take (off + sLen * i.size) ++ news ++ cur.toList.drop (off + sLen * i.size + news.length)).toArray) := by
  have hf := run_firstCells_some (P := P) w i.size m a m c news hl hnews
  have hst := run_storeCells_at P g (off + sLen * i.size) e news 0 cur w hg (by simpa using hfit) h1
  simp only [Nat.add_zero] at hst
  simp [Builtin.append_, run_underlying ht, sizeOf, typeInfo, hi, Builtin.lenOf, hroom, hf, Addr.add_lit, hst]
end

/-- append of one integer to a queue. -/
theorem app_q {w : World} {ops : Array Oper} {rest : List Oper} {o : Oper} {a : Act} {Q : Exit → Act → World → Prop} (hgd : o.guard = none) (s x : Operand)
    (ho : o.op = .call { callee := .builtin .append, args := #[s, x], argTypes := #[30, 30] })
    (B N : Nat) (v : Value) (xs : List Int) (hs : a.eval s = v) (hq : QAt w B v xs) (ad : Addr) (c : Nat) (y : Int) (hx : a.eval x = .slice (some ad) 1 c) (hy : w.cell? (ad.add 0) = some (.int .i64 y)) (hN : xs.length + 1 = N) (hb : N ≤ 1000000000) (hB : B ≤ w.heap.size)
    (h : ∀ a' cp w', QAt w' B (.slice a' N cp) (xs ++ [y]) → Frm v.ownBlock.toList w w' → (∀ k, (Value.slice a' N cp).ownBlock = some k → v.ownBlock = some k ∨ k = w.heap.size) → wpList Try.prog ops Q rest (a.put o.dst (.slice a' N cp)) w') : wpList Try.prog ops Q (o :: rest) a w := by
  obtain ⟨i0, hi, hz0, hz1, hz2⟩ := info_parts Try.infoI
  have hnews : ∀ j u, [Value.int .i64 y][j]? = some u → w.cell? (ad.add j) = some u := fun j u hj => by
    cases j with
    | zero => simp at hj; rw [← hj]; exact hy
    | succ j => simp at hj
  have hone : ∀ u ∈ [Value.int .i64 y], u.oneCell' = true := fun u hu => by rw [List.mem_singleton] at hu; rw [hu]; rfl
  subst hN
  rcases hq with ⟨rfl, rfl⟩ | ⟨g, off, cap, cur, rfl, hbg, hg, h1, h2, h3, h4⟩
  · refine Go.wpList_append_own_at w hgd s x 30 ho B 3 i0 (.int .i64 0) 1 8 Try.underlying30 hi hz0 hz1 hz2 rfl (by decide) (.slice none 0 0) 0 [] hs (World.ownsRow_nil _ _ _ _) ad 1 c [.int .i64 y] hx rfl hnews hone (by unfold maxLen; omega) (by omega) hB ?_
    intro v' w' hown' hgr _ hloc
    obtain ⟨a', cp, rfl, _⟩ := owns_shape (owns_base hown')
    refine h a' cp w' (QAt.of_owns (xs := [y]) hown') ((Frm.refl _ _).grown hgr (fun k hk => .inl (by simp [hk]))) (fun k hk => ?_)
    rcases hloc with h9 | h9
    · exact .inl (by rw [← h9]; exact hk)
    · refine .inr ?_
      have h8 : (Value.slice a' (0 + 1) cp).ownBlock = some k := hk
      rw [h9] at h8
      simpa using h8.symm
  · refine wpList_plain hgd fun K hK => ?_
    by_cases hroom : xs.length + 1 ≤ cap
    · have hr := run_append_room_off (P := Try.prog) w 30 o.type 3 i0 Try.underlying30 hi g off xs.length cap cur hg ad 1 c [.int .i64 y] (by rw [hz1]; rfl) hnews hone hroom (by rw [hz1, Nat.mul_one, List.length_singleton]; omega)
      unfold Oper.wp execOp
      simp only [ho, resolve, invoke, builtin, Sem.run_bind, Sem.run_pure, Result.andThen_ok, List.map_toArray, List.map_cons, List.map_nil, hs, hx, hr]
      refine hK _ _ (h _ _ _ (.inr ⟨g, off, cap, _, by rw [List.length_append]; rfl, hbg, setRow_heap w g cur _ 3 _ hg, by rw [List.length_append]; exact hroom, h2, ?_, ?_⟩) ?_ (fun k hk => .inl hk))
      · rw [hz1]
        simp only [List.size_toArray, List.length_append, List.length_take, List.length_drop, Array.length_toList, List.length_singleton]
        omega
      · rw [hz1, Nat.mul_one]
        have e1 : (cur.toList.take (off + xs.length)).drop off = ints xs := by rw [List.drop_take, show off + xs.length - off = xs.length by omega, h4]
        have e2 : (cur.toList.take (off + xs.length)).length = off + xs.length := by
          have h9 : cur.toList.length = cur.size := Array.length_toList
          rw [List.length_take]; omega
        rw [List.append_assoc, List.drop_append_of_le_length (by rw [e2]; omega), e1, List.length_append, List.length_singleton]
        rw [show ints (xs ++ [y]) = ints xs ++ [.int .i64 y] by rw [ints, ints, List.map_append]; rfl]
        rw [List.take_append, ints_len, List.take_of_length_le (by rw [ints_len]; omega), show xs.length + 1 - xs.length = 1 by omega]
        rfl
      · exact ⟨rfl, rfl, rfl, by simp [World.setRow], fun k hk hn => setRow_other w g k _ (fun e => hn (by subst e; simp [Value.ownBlock]))⟩
    · have holds : ∀ j u, (ints xs)[j]? = some u → w.cell? ((⟨g, off, none⟩ : Addr).add j) = some u := fun j u hj => by
        simp only [ints, List.getElem?_map, Option.map_eq_some_iff] at hj
        obtain ⟨z, hz, rfl⟩ := hj
        rw [Addr.add_lit]
        exact QAt.get (B := B) (n := xs.length) (cap := cap) (.inr ⟨g, off, cap, cur, rfl, hbg, hg, h1, h2, h3, h4⟩) hz
      have hr := run_append_grow (P := Try.prog) w 30 o.type 3 i0 (.int .i64 0) Try.underlying30 hi hz0 ⟨g, off, none⟩ xs.length cap (ints xs) (by rw [hz1, ints_len, Nat.mul_one]) holds ad 1 c [.int .i64 y] (by rw [hz1]; rfl) hnews (by omega) (by omega) (growslice_fits (by omega) (by rw [hz2]; omega))
      unfold Oper.wp execOp
      simp only [ho, resolve, invoke, builtin, Sem.run_bind, Sem.run_pure, Result.andThen_ok, List.map_toArray, List.map_cons, List.map_nil, hs, hx, hr]
      have hge := grownCap_ge w (xs.length + 1) cap 3
      have hcm : grownCap w (xs.length + 1) cap 3 ≤ maxLen := grownCap_le_maxLen w (xs.length + 1) cap 3 (by unfold maxLen; omega)
      refine hK _ _ (h _ _ _ (QAt.of_owns (n := xs.length + 1) ⟨by rw [ints_len, List.length_append]; simp, .inr ⟨w.heap.size, _, _, rfl, hB, heap_alloc_new w.drew _, hge, hcm, ?_, ?_⟩⟩) ?_ (fun k hk => .inr (by simpa [Value.ownBlock] using hk.symm)))
      · simp only [Array.size_append, List.size_toArray, size_zeroCells, ints_len, List.length_singleton]
        simp [Value.cells]
        omega
      · simp only [Array.toList_append, List.append_assoc]
        rw [← List.append_assoc]
        have e3 : ints (xs ++ [y]) = ints xs ++ [.int .i64 y] := by rw [ints, ints, List.map_append]; rfl
        rw [e3]
        have e4 : (xs.length + 1) * 1 = (ints xs ++ [Value.int .i64 y]).length := by rw [List.length_append, ints_len]; simp
        rw [e4]
        exact List.take_left
      · exact ⟨rfl, rfl, rfl, by simp, fun k hk _ => heap_alloc_old w.drew _ hk⟩

end Go.Proofs.Ytlpgonnionbkfaa
