/- Rows of integers that the call makes: a row of them, each in a block of its own. -/
import Derived.Test.YtknfdpkfomlckaaY2
import Derived.Test.YtknfdpkfomlckaaV4
namespace Go.Proofs.Ytknfdpkfomlckaa
open Go.RowKit

theorem infoInts : (Try.prog.info? 22).map (fun i => (i.zero, i.size, i.bytes)) = some (some (.slice none 0 0), 1, 24) := by kernel_rfl

/-- n rows of integers at block g, each in a block of its own (or nil). -/
structure Bef (B n : Nat) (w : World) (g : Nat) (P : List (List Int)) (xs : List Value) : Prop where
  out : w.ownsRow B 22 1 (.slice (some ⟨g, 0, none⟩) n n) n xs
  len : P.length = n
  row : ∀ (i : Nat) (p : List Int), P[i]? = some p → ∃ a cp, xs[i]? = some (.slice a p.length cp) ∧ w.ownsRow B 3 1 (.slice a p.length cp) p.length (ints p)
  sep : ∀ (i : Nat) (u : Value), xs[i]? = some u → u.ownBlock ≠ some g
  dis : ∀ (i j : Nat) (u v : Value), xs[i]? = some u → xs[j]? = some v → ∀ k, u.ownBlock = some k → v.ownBlock = some k → i = j

theorem Bef.frm {B n : Nat} {fp : List Nat} {w w' : World} {g : Nat} {P : List (List Int)} {xs : List Value} (h : Bef B n w g P xs) (hf : Frm fp w w') (hn : ∀ q ∈ fp, q < B) : Bef B n w' g P xs :=
  ⟨ownsB_frm h.out hf (fun k hk hm => by have := (h.out.lt k hk).1; have := hn k hm; omega), h.len, fun i p hi => by
    obtain ⟨a, cp, h1, h2⟩ := h.row i p hi
    exact ⟨a, cp, h1, ownsB_frm h2 hf (fun k hk hm => by have := (h2.lt k hk).1; have := hn k hm; omega)⟩, h.sep, h.dis⟩
theorem Bef.nil {B n : Nat} {w w' : World} {g : Nat} {P : List (List Int)} {xs : List Value} (h : Bef B n w g P xs) (hf : Frm [] w w') : Bef B n w' g P xs := h.frm hf (by simp)

theorem wpl_make_is (w : World) {ops : Array Oper} {rest : List Oper} {o : Oper} {a : Act} {Q : Exit → Act → World → Prop}
    (hg : o.guard = none) (l : Operand) (hop : o.op = Op.makeSlice 65 l l) (L : Int) (n : Nat) (hl : a.eval l = .int .i64 L) (hL : L = (n : Int)) (hn : n ≤ 1000000)
    (hK : ∀ w', Bef w.heap.size n w' w.heap.size (List.replicate n []) (List.replicate n (.slice none 0 0)) → Frm [] w w' → wpList Try.prog ops Q rest (a.put o.dst (.slice (some ⟨w.heap.size, 0, none⟩) n n)) w') :
    wpList Try.prog ops Q (o :: rest) a w := by
  obtain ⟨i0, hi, hz0, hz1, hz2⟩ := info_parts infoInts
  refine wpList_make_full w hg l l 65 hop w.heap.size 22 i0 (.slice none 0 0) 1 Try.underlying65 hi hz0 hz1 .i64 .i64 L L n hl hl hL hL (by rw [hz2]; omega) (by unfold maxLen; omega) (Nat.le_refl _) ?_
  intro w' hown hgr
  have hm : (madeCells (Value.slice none 0 0).cells (n * 1)).toList = List.replicate n (Value.slice none 0 0) := by
    rw [Nat.mul_one]
    exact toList_madeCells_one _ _
  rw [hm] at hown
  refine hK w' ⟨hown, by simp, fun i p hp => ?_, fun i u hu => ?_, fun i j u v hu _ k hk => ?_⟩ ((Frm.refl [] w).grown hgr (by simp))
  · rw [List.getElem?_replicate] at hp
    split at hp
    · cases hp
      exact ⟨none, 0, by rw [List.getElem?_replicate, if_pos (by assumption)]; rfl, ⟨rfl, .inl ⟨rfl, rfl⟩⟩⟩
    · cases hp
  · rw [List.getElem?_replicate] at hu
    split at hu
    · cases hu; simp [Value.ownBlock]
    · cases hu
  · rw [List.getElem?_replicate] at hu
    split at hu
    · cases hu; simp [Value.ownBlock] at hk
    · cases hu

/-- append of one integer to a row (nil or not), as a step of a drawn region. -/
theorem step_app_i {w : World} {ops : Array Oper} {o : Oper} {a : Act} {K : Act → World → Prop} {Q : Exit → Act → World → Prop} {E : Prop} (hgd : o.guard = none) (s x : Operand)
    (ho : o.op = .call { callee := .builtin .append, args := #[s, x], argTypes := #[22, 22] })
    (B n : Nat) (v : Value) (xs : List Int) (hs : a.eval s = v) (hown : w.ownsRow B 3 1 v n (ints xs)) (ad : Addr) (c : Nat) (y : Int) (hx : a.eval x = .slice (some ad) 1 c)
    (hnews : w.cell? (ad.add 0) = some (.int .i64 y)) (hb : n + 1 ≤ 10000000000) (hB : B ≤ w.heap.size) (H : Nat) (hH : w.heap.size = H)
    (h : ∀ g cp w', w'.ownsRow B 3 1 (.slice (some ⟨g, 0, none⟩) (n + 1) cp) (n + 1) (ints (xs ++ [y])) → Frm v.ownBlock.toList w w' → (v.ownBlock = some g ∨ g = H) → K (a.put o.dst (.slice (some ⟨g, 0, none⟩) (n + 1) cp)) w') :
    if Region.wanted o (yielded ops a.tmps) = true then Oper.wp Try.prog o a w K Q else E := by
  obtain ⟨i0, hi, hz0, hz1, hz2⟩ := info_parts infoInt
  refine step_append_lies w hgd s x 22 ho B 3 i0 (.int .i64 0) 1 8 Try.underlying22 hi hz0 hz1 hz2 rfl (by decide) v n (ints xs) hs hown ad 1 c [.int .i64 y] hx rfl ?_ ?_ (by decide) (by unfold maxLen; omega) (by omega) hB H hH ?_
  · intro j u hj
    cases j with
    | zero => simp at hj; rw [← hj]; exact hnews
    | succ j => simp at hj
  · intro u hu
    rw [List.mem_singleton] at hu
    rw [hu]; rfl
  · intro g cp w' hown' hgr h4 _
    refine h g cp w' ?_ ((Frm.refl _ _).grown hgr (fun k hk => .inl (by simp [hk]))) h4
    rw [ints_app]
    exact hown'

/-- A row is put anew. -/
theorem Bef.put {B n : Nat} {w w' : World} {g : Nat} {P : List (List Int)} {xs : List Value} {s : Nat} {p p' : List Int} {a : Option Addr} {cp g9 cp9 m : Nat} (h : Bef B n w g P xs) (hp : P[s]? = some p) (hx : xs[s]? = some (.slice a p.length cp))
    (hm : p'.length = m) (hown : w'.ownsRow B 3 1 (.slice (some ⟨g9, 0, none⟩) m cp9) m (ints p')) (hf : Frm (Value.slice a p.length cp).ownBlock.toList w w') (hg : (Value.slice a p.length cp).ownBlock = some g9 ∨ w.heap.size ≤ g9) :
    Bef B n (w'.setCell ⟨g, s, none⟩ (.slice (some ⟨g9, 0, none⟩) m cp9)) g (P.set s p') (xs.set s (.slice (some ⟨g9, 0, none⟩) m cp9)) := by
  subst hm
  have hsl : s < P.length := (List.getElem?_eq_some_iff.1 hp).1
  have hgw : g < w.heap.size := (h.out.lt g rfl).2
  have hxl : xs.length = P.length := by have := h.out.1; have := h.len; omega
  have hne : ∀ k, (Value.slice a p.length cp).ownBlock = some k → k ≠ g := fun k hk e => h.sep s _ hx (by rw [hk, e])
  have hold : ∀ (i : Nat) (u : Value), xs[i]? = some u → ∀ q, u.ownBlock = some q → q < w.heap.size := fun i u hu q hq => by
    have hi : i < xs.length := (List.getElem?_eq_some_iff.1 hu).1
    obtain ⟨r, hr⟩ : ∃ r, P[i]? = some r := ⟨_, List.getElem?_eq_getElem (by omega)⟩
    obtain ⟨ra, rc, h1, h2⟩ := h.row i r hr
    rw [hu] at h1
    cases h1
    exact (h2.lt q hq).2
  have hneg : g ≠ g9 := by
    rcases hg with hg | hg
    · exact fun e => hne g9 hg e.symm
    · omega
  have hget : ∀ (i : Nat) (u : Value), (xs.set s (Value.slice (some ⟨g9, 0, none⟩) p'.length cp9))[i]? = some u → (i ≠ s ∧ xs[i]? = some u) ∨ (i = s ∧ u = .slice (some ⟨g9, 0, none⟩) p'.length cp9) := fun i u hu => by
    rw [List.getElem?_set] at hu
    split at hu
    · rename_i h1
      subst h1
      split at hu
      · cases hu; exact .inr ⟨rfl, rfl⟩
      · cases hu
    · rename_i h1
      exact .inl ⟨fun e => h1 e.symm, hu⟩
  refine ⟨?_, by rw [List.length_set]; exact h.len, fun i r hr => ?_, fun i u hu => ?_, fun i j u v hu hv q hq hq' => ?_⟩
  · exact ownsB_setCell (own_frm_out h.out hf (fun hm => by
      simp only [Option.mem_toList] at hm
      exact hne g hm rfl)) rfl s _
  · rw [List.getElem?_set] at hr
    split at hr
    · rename_i h1
      subst h1
      first | cases hr | (rw [if_pos hsl] at hr; cases hr)
      exact ⟨some ⟨g9, 0, none⟩, cp9, by rw [List.getElem?_set_self (by omega)], own_set hown hneg⟩
    · rename_i h1
      obtain ⟨ra, rc2, h2, h3⟩ := h.row i r hr
      refine ⟨ra, rc2, by rw [List.getElem?_set_ne h1]; exact h2, ?_⟩
      refine own_setv (ownsB_frm h3 hf (fun k hk hm => ?_)) (fun k hk e => h.sep i _ h2 (by rw [hk, e]))
      simp only [Option.mem_toList] at hm
      exact h1 ((h.dis i s _ _ h2 hx k hk hm).symm)
  · rcases hget i u hu with ⟨h1, h2⟩ | ⟨h1, rfl⟩
    · exact h.sep i u h2
    · simp only [Value.ownBlock, ne_eq, Option.some.injEq]
      exact fun e => hneg e.symm
  · rcases hget i u hu with ⟨h1, h2⟩ | ⟨h1, rfl⟩
    · rcases hget j v hv with ⟨h3, h4⟩ | ⟨h3, rfl⟩
      · exact h.dis i j u v h2 h4 q hq hq'
      · simp only [Value.ownBlock, Option.some.injEq] at hq'
        subst hq'
        rcases hg with hg | hg
        · exact h.dis i j u _ h2 (by rw [h3]; exact hx) _ hq hg
        · have := hold i u h2 _ hq
          omega
    · simp only [Value.ownBlock, Option.some.injEq] at hq
      subst hq
      rcases hget j v hv with ⟨h3, h4⟩ | ⟨h3, rfl⟩
      · rcases hg with hg | hg
        · exact h.dis i j _ v (by rw [h1]; exact hx) h4 _ hg hq'
        · have := hold j v h4 _ hq'
          omega
      · omega

end Go.Proofs.Ytknfdpkfomlckaa
