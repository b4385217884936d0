/- append(s, y...), for rows as large as memory. (After RW.) -/
import Derived.Test.YtikpcipkkhmcfaaGreatQ01
import Derived.Test.YtikpcipkkhmcfaaGreatQ06
namespace Go.Proofs.YtikpcipkkhmcfaaGreat
open Go.RowKit

/-- append(s, y...): s is a row of the call's own, y a row that is read. -/
theorem app_rowB {w : World} {ops : Array Oper} {rest : List Oper} {o : Oper} {a : Act} {Q : Exit → Act → World → Prop} (hgd : o.guard = none) (s x : Operand) (t e : TypeId) (z : Value) (size bytes : Nat)
  (ho : o.op = .call { callee := .builtin .append, args := #[s, x], argTypes := #[t, t] }) (ht : Tryz.prog.underlying t = some (.slice e))
  (hinfo : (Tryz.prog.info? e).map (fun i => (i.zero, i.size, i.bytes)) = some (some z, size, bytes)) (hzs : z.cells.size = size) (hsz : 0 < size)
  (B n : Nat) (v : Value) (xs : List Value) (hs : a.eval s = v) (hown : w.ownsRow B e size v n xs) (u : Value) (m : Nat) (ys : List Value) (F : List Nat) (hx : a.eval x = u) (hy : RowV w F u m size ys) (h1 : ∀ u ∈ ys, u.oneCell' = true)
  (N : Nat) (hN : n + m = N) (hb : N * bytes ≤ 140737488355328) (hm9 : N ≤ 140737488355328) (hB : B ≤ w.heap.size)
  (h : ∀ a' cp w', w'.ownsRow B e size (.slice a' N cp) N (xs ++ ys) → Frm v.ownBlock.toList w w' → (∀ k, (Value.slice a' N cp).ownBlock = some k → v.ownBlock = some k ∨ k = w.heap.size) → wpList Tryz.prog ops Q rest (a.put o.dst (.slice a' N cp)) w') : wpList Tryz.prog ops Q (o :: rest) a w := by
 obtain ⟨i0, hi, hz0, hz1, hz2⟩ := info_parts hinfo
 obtain ⟨hl, ad, c, rfl, hmc, hcm, hnil, hcell⟩ := hy
 subst hN
 cases ad with
 | none =>
  have h0 := hnil rfl
  subst h0
  have hm : m = 0 := by omega
  subst hm
  have hys : ys = [] := List.eq_nil_of_length_eq_zero (by rw [hl, Nat.zero_mul])
  subst hys
  obtain ⟨a', cp, rfl, _⟩ := owns_shape (ownsB_mono hown (Nat.zero_le _))
  refine wpList_append_own_none hgd s x t ho B e i0 size ht hi _ n xs hs hown hx ?_
  exact h a' cp w (by rw [List.append_nil]; exact hown) (Frm.refl _ _) (fun k hk => .inl hk)
 | some p =>
  refine Go.wpList_append_own_at w hgd s x t ho B e i0 z size bytes ht hi hz0 hz1 hz2 hzs hsz v n xs hs hown p m c ys hx hl (fun j u hj => ?_) h1 (by unfold maxLen; omega) hb hB ?_
  ·obtain ⟨b, o', e9, _, _, hc⟩ := hcell j u hj
   cases e9
   rw [Addr.add_lit]
   exact hc
  ·intro v' w' hown' hgr _ hloc
   obtain ⟨a', cp, rfl, _⟩ := owns_shape (ownsB_mono hown' (Nat.zero_le _))
   refine h a' cp w' hown' ((Frm.refl _ _).grown hgr (fun k hk => .inl (by simp [hk]))) (fun k hk => ?_)
   rcases hloc with h9 | h9
   ·exact .inl (by rw [← h9]; exact hk)
   ·rw [h9] at hk
    exact .inr (by simpa using hk.symm)
theorem Sep.back {w0 w1 w : World} {cs : List Chunk} (h : Sep w1 w cs) (hf : Frm [] w0 w1) : Sep w0 w cs :=
 ⟨hf.trans h.frm (by simp), fun c hc => ⟨(h.all c hc).1, fun k hk => Nat.le_trans hf.size ((h.all c hc).2 k hk)⟩, h.apart⟩
theorem ownsB_raise {w : World} {B : Nat} {e : TypeId} {size : Nat} {v : Value} {n : Nat} {xs : List Value} (h : w.ownsRow 0 e size v n xs) (hb : ∀ k, v.ownBlock = some k → B ≤ k) : w.ownsRow B e size v n xs := by
 refine ⟨h.1, ?_⟩
 rcases h.2 with h2 | ⟨g, cp, cur, rfl, _, hg, h3⟩
 ·exact .inl h2
 ·exact .inr ⟨g, cp, cur, rfl, hb g rfl, hg, h3⟩
theorem Sep.box {w0 w : World} {cs : List Chunk} (h : Sep w0 w cs) (b : Nat) (hb : w.heap.size = b) (e : TypeId) (xs : List Value) (A : Array Value) (hA : A.toList.take xs.length = xs) : Sep w0 (w.alloc (.cells A e)) (boxC b e xs :: cs) := by
 subst hb
 exact h.add _ ((Frm.refl [] w).alloc _) (RowAt.made w e xs A hA) (by simp [boxC])
theorem owns_cells (w : World) (e : TypeId) (size n : Nat) (xs : List Value) (hl : xs.length = n * size) (hm : n ≤ maxLen) : (w.alloc (.cells xs.toArray e)).ownsRow w.heap.size e size (.slice (some ⟨w.heap.size, 0, none⟩) n n) n xs :=
 ⟨hl, .inr ⟨w.heap.size, n, xs.toArray, rfl, Nat.le_refl _, heap_alloc_new w _, Nat.le_refl _, hm, by rw [List.size_toArray, hl], by rw [← hl]; exact List.take_length⟩⟩
end Go.Proofs.YtikpcipkkhmcfaaGreat
