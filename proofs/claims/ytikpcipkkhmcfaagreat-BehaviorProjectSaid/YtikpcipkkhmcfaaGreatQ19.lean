/- Merged text: Y3, Y4 of the notes. -/
import Derived.Test.YtikpcipkkhmcfaaGreatQ00
import Derived.Test.YtikpcipkkhmcfaaGreatQ15
import Derived.Test.YtikpcipkkhmcfaaGreatQ14
/- Rows of integers that the call makes: a row of them, each in a block of its own. -/
namespace Go.Proofs.YtikpcipkkhmcfaaGreat
open Go.RowKit

theorem infoInts : (Tryz.prog.info? 22).map (fun i => (i.zero, i.size, i.bytes)) = some (some (.slice none 0 0), 1, 24) := by kernel_rfl

/-- n rows of integers at block g, each in a block of its own (or nil). -/
structure Bef (B n : Nat) (w : World) (g : Nat) (P : List (List Int)) (xs : List Value) : Prop where
 out : w.ownsRow B 22 1 (.slice (some ⟨g, 0, none⟩) n n) n xs
 len : P.length = n
 row : ∀ (i : Nat) (p : List Int), P[i]? = some p → ∃ a cp, xs[i]? = some (.slice a p.length cp) ∧ w.ownsRow B 3 1 (.slice a p.length cp) p.length (ints p)
 sep : ∀ (i : Nat) (u : Value), xs[i]? = some u → u.ownBlock ≠ some g
 dis : ∀ (i j : Nat) (u v : Value), xs[i]? = some u → xs[j]? = some v → ∀ k, u.ownBlock = some k → v.ownBlock = some k → i = j

theorem Bef.frm {B n : Nat} {fp : List Nat} {w w' : World} {g : Nat} {P : List (List Int)} {xs : List Value} (h : Bef B n w g P xs) (hf : Frm fp w w') (hn : ∀ q ∈ fp, q < B) : Bef B n w' g P xs :=
 ⟨ownsB_frm h.out hf (fun k hk hm => by have := (h.out.lt k hk).1; have := hn k hm; omega), h.len, fun i p hi => by
  obtain ⟨a, cp, h1, h2⟩ := h.row i p hi
  exact ⟨a, cp, h1, ownsB_frm h2 hf (fun k hk hm => by have := (h2.lt k hk).1; have := hn k hm; omega)⟩, h.sep, h.dis⟩
theorem Bef.nil {B n : Nat} {w w' : World} {g : Nat} {P : List (List Int)} {xs : List Value} (h : Bef B n w g P xs) (hf : Frm [] w w') : Bef B n w' g P xs := h.frm hf (by simp)

theorem wpl_make_is (w : World) {ops : Array Oper} {rest : List Oper} {o : Oper} {a : Act} {Q : Exit → Act → World → Prop}
  (hg : o.guard = none) (l : Operand) (hop : o.op = Op.makeSlice 67 l l) (L : Int) (n : Nat) (hl : a.eval l = .int .i64 L) (hL : L = (n : Int)) (hn : n ≤ 1000000)
  (hK : ∀ w', Bef w.heap.size n w' w.heap.size (List.replicate n []) (List.replicate n (.slice none 0 0)) → Frm [] w w' → wpList Tryz.prog ops Q rest (a.put o.dst (.slice (some ⟨w.heap.size, 0, none⟩) n n)) w') :
  wpList Tryz.prog ops Q (o :: rest) a w := by
 obtain ⟨i0, hi, hz0, hz1, hz2⟩ := info_parts infoInts
 refine wpList_make_full w hg l l 67 hop w.heap.size 22 i0 (.slice none 0 0) 1 Tryz.underlying67 hi hz0 hz1 .i64 .i64 L L n hl hl hL hL (by rw [hz2]; omega) (by unfold maxLen; omega) (Nat.le_refl _) ?_
 intro w' hown hgr
 have hm : (madeCells (Value.slice none 0 0).cells (n * 1)).toList = List.replicate n (Value.slice none 0 0) := by
  rw [Nat.mul_one]
  exact toList_madeCells_one _ _
 rw [hm] at hown
 refine hK w' ⟨hown, by simp, fun i p hp => ?_, fun i u hu => ?_, fun i j u v hu _ k hk => ?_⟩ ((Frm.refl [] w).grown hgr (by simp))
 ·rw [List.getElem?_replicate] at hp
  split at hp
  ·cases hp
   exact ⟨none, 0, by rw [List.getElem?_replicate, if_pos (by assumption)]; rfl, ⟨rfl, .inl ⟨rfl, rfl⟩⟩⟩
  ·cases hp
 ·rw [List.getElem?_replicate] at hu
  split at hu
  ·cases hu; simp [Value.ownBlock]
  ·cases hu
 ·rw [List.getElem?_replicate] at hu
  split at hu
  ·cases hu; simp [Value.ownBlock] at hk
  ·cases hu

/-- append of one integer to a row (nil or not), as a step of a drawn region. -/
theorem step_app_i {w : World} {ops : Array Oper} {o : Oper} {a : Act} {K : Act → World → Prop} {Q : Exit → Act → World → Prop} {E : Prop} (hgd : o.guard = none) (s x : Operand)
  (ho : o.op = .call { callee := .builtin .append, args := #[s, x], argTypes := #[22, 22] })
  (B n : Nat) (v : Value) (xs : List Int) (hs : a.eval s = v) (hown : w.ownsRow B 3 1 v n (ints xs)) (ad : Addr) (c : Nat) (y : Int) (hx : a.eval x = .slice (some ad) 1 c)
  (hnews : w.cell? (ad.add 0) = some (.int .i64 y)) (hb : n + 1 ≤ 10000000000) (hB : B ≤ w.heap.size) (H : Nat) (hH : w.heap.size = H)
  (h : ∀ g cp w', w'.ownsRow B 3 1 (.slice (some ⟨g, 0, none⟩) (n + 1) cp) (n + 1) (ints (xs ++ [y])) → Frm v.ownBlock.toList w w' → (v.ownBlock = some g ∨ g = H) → K (a.put o.dst (.slice (some ⟨g, 0, none⟩) (n + 1) cp)) w') :
  if Region.wanted o (yielded ops a.tmps) = true then Oper.wp Tryz.prog o a w K Q else E := by
 obtain ⟨i0, hi, hz0, hz1, hz2⟩ := info_parts infoInt
 refine step_append_lies w hgd s x 22 ho B 3 i0 (.int .i64 0) 1 8 Tryz.underlying22 hi hz0 hz1 hz2 rfl (by decide) v n (ints xs) hs hown ad 1 c [.int .i64 y] hx rfl ?_ ?_ (by decide) (by unfold maxLen; omega) (by omega) hB H hH ?_
 ·intro j u hj
  cases j with
  | zero => simp at hj; rw [← hj]; exact hnews
  | succ j => simp at hj
 ·intro u hu
  rw [List.mem_singleton] at hu
  rw [hu]; rfl
 ·intro g cp w' hown' hgr h4 _
  refine h g cp w' ?_ ((Frm.refl _ _).grown hgr (fun k hk => .inl (by simp [hk]))) h4
  rw [ints_app]
  exact hown'

/-- A row is put anew. -/
theorem Bef.put {B n : Nat} {w w' : World} {g : Nat} {P : List (List Int)} {xs : List Value} {s : Nat} {p p' : List Int} {a : Option Addr} {cp g9 cp9 m : Nat} (h : Bef B n w g P xs) (hp : P[s]? = some p) (hx : xs[s]? = some (.slice a p.length cp))
  (hm : p'.length = m) (hown : w'.ownsRow B 3 1 (.slice (some ⟨g9, 0, none⟩) m cp9) m (ints p')) (hf : Frm (Value.slice a p.length cp).ownBlock.toList w w') (hg : (Value.slice a p.length cp).ownBlock = some g9 ∨ w.heap.size ≤ g9) :
  Bef B n (w'.setCell ⟨g, s, none⟩ (.slice (some ⟨g9, 0, none⟩) m cp9)) g (P.set s p') (xs.set s (.slice (some ⟨g9, 0, none⟩) m cp9)) := by
 subst hm
 have hsl : s < P.length := (List.getElem?_eq_some_iff.1 hp).1
 have hgw : g < w.heap.size := (h.out.lt g rfl).2
 have hxl : xs.length = P.length := by have := h.out.1; have := h.len; omega
 have hne : ∀ k, (Value.slice a p.length cp).ownBlock = some k → k ≠ g := fun k hk e => h.sep s _ hx (by rw [hk, e])
 have hold : ∀ (i : Nat) (u : Value), xs[i]? = some u → ∀ q, u.ownBlock = some q → q < w.heap.size := fun i u hu q hq => by
  have hi : i < xs.length := (List.getElem?_eq_some_iff.1 hu).1
  obtain ⟨r, hr⟩ : ∃ r, P[i]? = some r := ⟨_, List.getElem?_eq_getElem (by omega)⟩
  obtain ⟨ra, rc, h1, h2⟩ := h.row i r hr
  rw [hu] at h1
  cases h1
  exact (h2.lt q hq).2
 have hneg : g ≠ g9 := by
  rcases hg with hg | hg
  ·exact fun e => hne g9 hg e.symm
  ·omega
 have hget : ∀ (i : Nat) (u : Value), (xs.set s (Value.slice (some ⟨g9, 0, none⟩) p'.length cp9))[i]? = some u → (i ≠ s ∧ xs[i]? = some u) ∨ (i = s ∧ u = .slice (some ⟨g9, 0, none⟩) p'.length cp9) := fun i u hu => by
  rw [List.getElem?_set] at hu
  split at hu
  ·rename_i h1
   subst h1
   split at hu
   ·cases hu; exact .inr ⟨rfl, rfl⟩
   ·cases hu
  ·rename_i h1
   exact .inl ⟨fun e => h1 e.symm, hu⟩
 refine ⟨?_, by rw [List.length_set]; exact h.len, fun i r hr => ?_, fun i u hu => ?_, fun i j u v hu hv q hq hq' => ?_⟩
 ·exact ownsB_setCellG (own_frm_out h.out hf (fun hm => by
   simp only [Option.mem_toList] at hm
   exact hne g hm rfl)) rfl s _
 ·rw [List.getElem?_set] at hr
  split at hr
  ·rename_i h1
   subst h1
   first | cases hr | (rw [if_pos hsl] at hr; cases hr)
   exact ⟨some ⟨g9, 0, none⟩, cp9, by rw [List.getElem?_set_self (by omega)], own_set hown hneg⟩
  ·rename_i h1
   obtain ⟨ra, rc2, h2, h3⟩ := h.row i r hr
   refine ⟨ra, rc2, by rw [List.getElem?_set_ne h1]; exact h2, ?_⟩
   refine own_setv (ownsB_frm h3 hf (fun k hk hm => ?_)) (fun k hk e => h.sep i _ h2 (by rw [hk, e]))
   simp only [Option.mem_toList] at hm
   exact h1 ((h.dis i s _ _ h2 hx k hk hm).symm)
 ·rcases hget i u hu with ⟨h1, h2⟩ | ⟨h1, rfl⟩
  ·exact h.sep i u h2
  ·simp only [Value.ownBlock, ne_eq, Option.some.injEq]
   exact fun e => hneg e.symm
 ·rcases hget i u hu with ⟨h1, h2⟩ | ⟨h1, rfl⟩
  ·rcases hget j v hv with ⟨h3, h4⟩ | ⟨h3, rfl⟩
   ·exact h.dis i j u v h2 h4 q hq hq'
   ·simp only [Value.ownBlock, Option.some.injEq] at hq'
    subst hq'
    rcases hg with hg | hg
    ·exact h.dis i j u _ h2 (by rw [h3]; exact hx) _ hq hg
    ·have := hold i u h2 _ hq
     omega
  ·simp only [Value.ownBlock, Option.some.injEq] at hq
   subst hq
   rcases hget j v hv with ⟨h3, h4⟩ | ⟨h3, rfl⟩
   ·rcases hg with hg | hg
    ·exact h.dis i j _ v (by rw [h1]; exact hx) h4 _ hg hq'
    ·have := hold j v h4 _ hq'
     omega
   ·omega

end Go.Proofs.YtikpcipkkhmcfaaGreat

/- Contract of graph.distances. -/
namespace Go.Proofs.YtikpcipkkhmcfaaGreat
open Go.RowKit

def addP (P : List (List Nat)) (t s : Nat) : List (List Nat) := P.set t (P.getD t [] ++ [s])
def addAll (P : List (List Nat)) (s : Nat) (ts : List Nat) : List (List Nat) := ts.foldl (fun P t => addP P t s) P
def predK (E : Nat → List Nat) (n k : Nat) : List (List Nat) := (List.range k).foldl (fun P s => addAll P s (E s)) (List.replicate n [])
theorem predK_succ (E : Nat → List Nat) (n k : Nat) : predK E n (k + 1) = addAll (predK E n k) k (E k) := by
 simp [predK, List.range_succ]
theorem addAll_snoc (P : List (List Nat)) (s : Nat) (ts : List Nat) (t : Nat) : addAll P s (ts ++ [t]) = addP (addAll P s ts) t s := by simp [addAll]
theorem addP_len (P : List (List Nat)) (t s : Nat) : (addP P t s).length = P.length := by simp [addP]
theorem addAll_len (P : List (List Nat)) (s : Nat) (ts : List Nat) : (addAll P s ts).length = P.length := by
 induction ts generalizing P with
 | nil => rfl
 | cons a r ih => simp only [addAll, List.foldl_cons] at ih ⊢; rw [ih, addP_len]
theorem predK_len (E : Nat → List Nat) (n k : Nat) : (predK E n k).length = n := by
 induction k with
 | zero => simp [predK]
 | succ k ih => rw [predK_succ, addAll_len, ih]
theorem mem_addP {P : List (List Nat)} {t s v x : Nat} (ht : t < P.length) : x ∈ (addP P t s).getD v [] ↔ x ∈ P.getD v [] ∨ (v = t ∧ x = s) := by
 unfold addP
 rw [List.getD_eq_getElem?_getD, List.getElem?_set]
 split
 ·rename_i h
  subst h
  simp [ht]
 ·rename_i h
  have : ¬ v = t := fun e => h e.symm
  simp [this]
theorem mem_addAll {n : Nat} {s v x : Nat} : ∀ (ts : List Nat) (P : List (List Nat)), P.length = n → (∀ t ∈ ts, t < n) → (x ∈ (addAll P s ts).getD v [] ↔ x ∈ P.getD v [] ∨ (v ∈ ts ∧ x = s))
 | [], P, _, _ => by simp [addAll]
 | t :: r, P, hl, ht => by
  have h1 := mem_addAll (s := s) (v := v) (x := x) r (addP P t s) (by rw [addP_len, hl]) (fun t' h' => ht t' (List.mem_cons_of_mem _ h'))
  have h2 : addAll P s (t :: r) = addAll (addP P t s) s r := rfl
  rw [h2, h1, mem_addP (by rw [hl]; exact ht t (List.mem_cons_self ..)), List.mem_cons]
  constructor
  ·rintro ((h | ⟨h, h'⟩) | ⟨h, h'⟩)
   ·exact .inl h
   ·exact .inr ⟨.inl h, h'⟩
   ·exact .inr ⟨.inr h, h'⟩
  ·rintro (h | ⟨h | h, h'⟩)
   ·exact .inl (.inl h)
   ·exact .inl (.inr ⟨h, h'⟩)
   ·exact .inr ⟨h, h'⟩
theorem mem_predK {E : Nat → List Nat} {n v x : Nat} (hE : ∀ a b, a < n → b ∈ E a → b < n) : ∀ k, k ≤ n → (x ∈ (predK E n k).getD v [] ↔ x < k ∧ v ∈ E x)
 | 0, _ => by
  have : (predK E n 0).getD v [] = [] := by
   simp only [predK, List.range_zero, List.foldl_nil, List.getD_eq_getElem?_getD, List.getElem?_replicate]
   split <;> rfl
  rw [this]
  simp
 | k + 1, hk => by
  rw [predK_succ, mem_addAll _ _ (predK_len E n k) (fun t ht => hE k t (by omega) ht), mem_predK hE k (by omega)]
  constructor
  ·rintro (⟨h, h'⟩ | ⟨h, rfl⟩)
   ·exact ⟨by omega, h'⟩
   ·exact ⟨by omega, h⟩
  ·rintro ⟨h, h'⟩
   rcases Nat.lt_or_ge x k with h1 | h1
   ·exact .inl ⟨h1, h'⟩
   ·have : x = k := by omega
    subst this
    exact .inr ⟨h', rfl⟩
theorem addP_get_len {P : List (List Nat)} {t s v : Nat} : ((addP P t s).getD v []).length ≤ (P.getD v []).length + 1 := by
 unfold addP
 rw [List.getD_eq_getElem?_getD, List.getElem?_set]
 split
 ·rename_i h
  subst h
  split
  ·simp
  ·simp
 ·rw [← List.getD_eq_getElem?_getD]; omega
theorem addAll_get_len {s v : Nat} : ∀ (ts : List Nat) (P : List (List Nat)), ((addAll P s ts).getD v []).length ≤ (P.getD v []).length + ts.length
 | [], P => by simp [addAll]
 | t :: r, P => by
  have h1 := addAll_get_len (s := s) (v := v) r (addP P t s)
  have h2 := addP_get_len (P := P) (t := t) (s := s) (v := v)
  have h3 : addAll P s (t :: r) = addAll (addP P t s) s r := rfl
  rw [h3, List.length_cons]
  omega
theorem predK_get_len {E : Nat → List Nat} {n v M : Nat} (hM : ∀ s, s < n → (E s).length ≤ M) : ∀ k, k ≤ n → ((predK E n k).getD v []).length ≤ k * M
 | 0, _ => by
  have : (predK E n 0).getD v [] = [] := by
   simp only [predK, List.range_zero, List.foldl_nil, List.getD_eq_getElem?_getD, List.getElem?_replicate]
   split <;> rfl
  rw [this]
  simp
 | k + 1, hk => by
  rw [predK_succ]
  have h1 := addAll_get_len (s := k) (v := v) (E k) (predK E n k)
  have h2 := predK_get_len (v := v) hM k (by omega)
  have h3 := hM k (by omega)
  rw [Nat.succ_mul]
  omega
theorem esel_few {l : Lts} (hv : VLts l) (silent : Bool) : ∀ s, s < l.length → (Esel l silent s).length ≤ 262144 := by
 intro s hs
 obtain ⟨row, hrow⟩ : ∃ row, l[s]? = some row := ⟨_, List.getElem?_eq_getElem hs⟩
 rw [esel_len hrow]
 exact Nat.le_trans (sel_len row silent) (hv.row row (List.mem_of_getElem? hrow)).few
theorem RowR.frmw {B : Nat} {fp : List Nat} {w w' : World} {a : Option Addr} {cap : Nat} {row : List Arc} (h : RowR B w a cap row) (hf : Frm fp w w') (hn : ∀ k ∈ fp, B ≤ k) : RowR B w' a cap row := RowR.frm h hf hn
def natIs (P : List (List Nat)) : List (List Int) := P.map natI
theorem natIs_get {P : List (List Nat)} {i : Nat} (hi : i < P.length) : (natIs P)[i]? = some (natI (P.getD i [])) := by
 simp [natIs, List.getD_eq_getElem?_getD, hi]
theorem natIs_add {P : List (List Nat)} {t s : Nat} : natIs (addP P t s) = (natIs P).set t (natI (P.getD t []) ++ [(s : Int)]) := by
 simp [natIs, addP, List.map_set, natI]

def goalOut (goals : List Bool) (n k : Nat) : List Int := (List.range n).map fun i => if i < k ∧ goals[i]? = some true then 0 else -1
def goalQ (goals : List Bool) (k : Nat) : List Nat := (List.range k).filter fun i => decide (goals[i]? = some true)
theorem goalOut_zero (goals : List Bool) (n : Nat) : goalOut goals n 0 = List.replicate n (-1) := by
 refine List.ext_getElem? (fun i => ?_)
 by_cases hi : i < n
 ·simp [goalOut, hi]
 ·rw [List.getElem?_eq_none (by simp [goalOut]; omega), List.getElem?_eq_none (by simp; omega)]
theorem goalOut_get (goals : List Bool) (n k i : Nat) (hi : i < n) : (goalOut goals n k)[i]? = some (if i < k ∧ goals[i]? = some true then 0 else -1) := by simp [goalOut, hi]
theorem goalOut_yes {goals : List Bool} {n k : Nat} (hg : goals[k]? = some true) : (goalOut goals n k).set k 0 = goalOut goals n (k + 1) := by
 refine List.ext_getElem? (fun i => ?_)
 by_cases hi : i < n
 ·rw [List.getElem?_set, goalOut_get _ _ _ _ hi, goalOut_get _ _ _ _ hi]
  by_cases h1 : k = i
  ·subst h1
   simp [hg, goalOut, hi]
  ·rw [if_neg h1]
   have : (i < k ∧ goals[i]? = some true) ↔ (i < k + 1 ∧ goals[i]? = some true) := ⟨fun h => ⟨by omega, h.2⟩, fun h => ⟨by omega, h.2⟩⟩
   simp only [this]
 ·rw [List.getElem?_eq_none (by simp [goalOut]; omega), List.getElem?_eq_none (by simp [goalOut]; omega)]
theorem goalOut_no {goals : List Bool} {n k : Nat} (hg : goals[k]? ≠ some true) : goalOut goals n k = goalOut goals n (k + 1) := by
 refine List.ext_getElem? (fun i => ?_)
 by_cases hi : i < n
 ·rw [goalOut_get _ _ _ _ hi, goalOut_get _ _ _ _ hi]
  have : (i < k ∧ goals[i]? = some true) ↔ (i < k + 1 ∧ goals[i]? = some true) := ⟨fun h => ⟨by omega, h.2⟩, fun h => ⟨by
   rcases Nat.lt_or_ge i k with h1 | h1
   ·exact h1
   ·have : i = k := by omega
    subst this
    exact absurd h.2 hg, h.2⟩⟩
  simp only [this]
 ·rw [List.getElem?_eq_none (by simp [goalOut]; omega), List.getElem?_eq_none (by simp [goalOut]; omega)]
theorem goalQ_yes {goals : List Bool} {k : Nat} (hg : goals[k]? = some true) : goalQ goals (k + 1) = goalQ goals k ++ [k] := by
 simp [goalQ, List.range_succ, hg]
theorem goalQ_no {goals : List Bool} {k : Nat} (hg : goals[k]? ≠ some true) : goalQ goals (k + 1) = goalQ goals k := by
 simp [goalQ, List.range_succ, hg]
theorem goalQ_len (goals : List Bool) (k : Nat) : (goalQ goals k).length ≤ k := by
 have := List.length_filter_le (fun i => decide (goals[i]? = some true)) (List.range k)
 simpa [goalQ] using this
/-- The row of distances and the queue. -/
def QRel (B n go : Nat) (w2 : World) (out : List Int) (qs : List Nat) (p : Value) (wr : World) : Prop :=
 ∃ qa qc, p = .slice qa qs.length qc ∧ wr.ownsRow w2.heap.size 3 1 (.slice qa qs.length qc) qs.length (ints (natI qs)) ∧ wr.ownsRow B 3 1 (.slice (some ⟨go, 0, none⟩) n n) n (ints out) ∧ Frm [go] w2 wr

theorem goalOut_ix (goals : List Bool) (n k v : Nat) (hv : v < n) : Tj.ix (goalOut goals n k) v = if v < k ∧ goals[v]? = some true then 0 else -1 := Tj.ix_get (goalOut_get goals n k v hv)
theorem mem_goalQ (goals : List Bool) (k v : Nat) : v ∈ goalQ goals k ↔ v < k ∧ goals[v]? = some true := by simp [goalQ]
theorem bfs_start {E : Nat → List Nat} {n : Nat} {goals : List Bool} (hE : ∀ a b, a < n → b ∈ E a → b < n) (hg : goals.length = n) : Bfs E (fun v => (predK E n n).getD v []) n (fun v => goals[v]? = some true) (goalOut goals n n) (goalQ goals n) 0 0 := by
 have hz : ∀ v ∈ goalQ goals n, Tj.ix (goalOut goals n n) v = 0 := fun v hv => by
  have h1 := (mem_goalQ goals n v).1 hv
  rw [goalOut_ix _ _ _ _ h1.1, if_pos h1]
 refine ⟨by simp [goalOut], fun s v hv => ?_, fun v => ?_, fun v hv hn => ?_, ?_, fun c hc u hu => ?_, fun k c hk => by omega, fun _ _ k s hk => by omega, fun v hv => ?_, fun g hg2 => ?_, ?_, fun k v hk => ?_⟩
 ·exact mem_predK hE n (Nat.le_refl _)
 ·rw [mem_goalQ]
  constructor
  ·intro h1
   refine ⟨h1.1, ?_⟩
   rw [goalOut_ix _ _ _ _ h1.1, if_pos h1]
   exact Int.le_refl _
  ·rintro ⟨h1, h2⟩
   rw [goalOut_ix _ _ _ _ h1] at h2
   split at h2
   ·assumption
   ·omega
 ·rw [goalOut_ix _ _ _ _ hv] at hn ⊢
  split at hn
  ·omega
  ·rename_i h1
   rw [if_neg h1]
 ·exact List.Pairwise.imp_of_mem (fun {a b} ha hb _ => by rw [hz a ha, hz b hb]; exact Int.le_refl _) (show (goalQ goals n).Pairwise (fun _ _ => True) from List.pairwise_of_forall (fun _ _ => trivial))
 ·rw [hz u hu, hz c (List.mem_of_getElem? hc)]
  decide
 ·have h1 := (mem_goalQ goals n v).1 hv
  exact ⟨0, v, hz v hv, h1.2, .refl v⟩
 ·have h1 : g < n := by rw [← hg]; exact (List.getElem?_eq_some_iff.1 hg2).1
  exact ⟨h1, hz g ((mem_goalQ goals n g).2 ⟨h1, hg2⟩)⟩
 ·exact List.Nodup.sublist List.filter_sublist List.nodup_range
 ·rw [hz v (List.mem_of_getElem? hk)]
  omega
theorem bfs_len {E P : Nat → List Nat} {n : Nat} {goal : Nat → Prop} {out : List Int} {q : List Nat} {i j : Nat} (h : Bfs E P n goal out q i j) : q.length ≤ n := by
 have := h.nd.length_le_of_subset (l₂ := List.range n) (fun v hv => List.mem_range.2 ((h.mem v).1 hv).1)
 simpa using this

def DistEnd (B : Nat) (E : Nat → List Nat) (n : Nat) (goals : List Bool) (w' : World) (e : Ending) : Prop := ∃ g out, e = .returned (.slice (some ⟨g, 0, none⟩) n n) ∧ w'.ownsRow B 3 1 (.slice (some ⟨g, 0, none⟩) n n) n (ints out) ∧ IsDist E n (fun v => goals[v]? = some true) out
/-- What the first loops keep. -/
def BefRel (B n : Nat) (g : Nat) (P : List (List Nat)) (wb : World) (wr : World) : Prop := (∃ xs, Bef B n wr g (natIs P) xs) ∧ Frm [] wb wr

set_option linter.unusedSimpArgs false in
set_option maxRecDepth 100000 in
set_option maxHeartbeats 4000000 in
theorem distances_any (B : Nat) (a : Option Addr) (cap : Nat) (l : Lts) (hv : VLts l) (ga : Option Addr) (gc : Nat) (goals : List Bool) (w : World) (h0 : LAt B w a cap l) (hg0 : Rd B w ga l.length gc 1 (bools goals)) (hBw : B ≤ w.heap.size) :
  Calls Tryz.prog 87 #[.agg #[.slice a l.length cap], .slice ga l.length gc] w fun e w' => DistEnd w.heap.size (Esel l true) l.length goals w' e ∧ Frm [] w w' := by
 have f0 : Frm [] w (w.alloc (.cells #[.slice a l.length cap] 25)) := (Frm.refl [] w).alloc _
 have hbox := box1 w (.slice a l.length cap) 25
 have HB := Lib.hid hbox
 have H0 := Lib.hid (h0.nil f0 rfl)
 have HG := Lib.hid (hg0.frm f0 (by simp))
 have HV := Lib.hid hv
 have hlt := h0.lt
 have hglt := hg0.lt
 have hfew := hv.few
 have i2 : (l.length : Int) ≤ 16384 := by omega
 clear h0 hg0 hv hbox
 go_enter Tryz.func87, Tryz.ntmps87
 go_wp2_with (first | (at_make; refine wpl_make_is _ rfl (.tmp 18) rfl _ l.length rfl rfl (by omega) ?_) | (at_make; fail))
 intro w1 hbef1 hf1
 have hr0 : BefRel (w.heap.size + 1) l.length (w.heap.size + 1) (predK (Esel l true) l.length 0) (w.alloc (.cells #[.slice a l.length cap] 25)) w1 := ⟨⟨_, by
  have h9 : natIs (predK (Esel l true) l.length 0) = List.replicate l.length [] := by simp [natIs, predK, natI]
  rw [h9]
  first | exact hbef1 | simpa using hbef1⟩, hf1⟩
 have HR0 := Lib.hid hr0
 have hbr1 := (HB.out.frm hf1 (by simp)).cell (i := 0) rfl
 clear hbef1 hr0 hf1
 go_wp2_with fail
 go_loopg [23] l.length (fun q i wr => ∃ (k : Nat), q = l.length - k ∧ k ≤ l.length ∧ i = .int .i64 (k : Int) ∧ BefRel (w.heap.size + 1) l.length (w.heap.size + 1) (predK (Esel l true) l.length k) (w.alloc (.cells #[.slice a l.length cap] 25)) wr)
 case atStart => exact ⟨0, rfl, Nat.zero_le _, rfl, HR0.out⟩
 case round =>
  obtain ⟨k, rfl, hk, rfl, hrelb⟩ := hrel
  have HREL := Lib.hid hrelb
  have HFB := Lib.hid hrelb.2
  have i4 : (0 : Int) ≤ (k : Int) := by omega
  clear hrelb hbr1
  by_cases hlt2 : k < l.length
  ·have i5 : (k : Int) < (l.length : Int) := by omega
   obtain ⟨row, hrow⟩ : ∃ row, l[k]? = some row := ⟨_, List.getElem?_eq_getElem hlt2⟩
   have hbr := HFB.out.cell ((HB.out).cell (i := 0) rfl) (by simp)
   have harc := arcs_any B a cap l k row true wr (H0.out.frm HFB.out (by simp)) hrow
   have hfewr := (HV.out.row row (List.mem_of_getElem? hrow)).few
   have hlen := sel_len row true
   obtain ⟨sr, hsr⟩ : ∃ sr, sel row true = sr := ⟨_, rfl⟩
   have HSEL := Lib.hid hsr
   have HROW := Lib.hid hrow
   rw [hsr] at harc hlen
   have HARC := Lib.hid harc
   have i6 : (sr.length : Int) ≤ 262144 := by omega
   clear harc hsr hrow
   go_wp2_with fail
   refine HARC.out.mono ?_
   rintro e3 w3 ⟨⟨ra, rc, rfl, hrr⟩, hf3⟩
   have HRR := Lib.hid hrr
   have hrel3 : BefRel (w.heap.size + 1) l.length (w.heap.size + 1) (addAll (predK (Esel l true) l.length k) k ((Esel l true k).take 0)) (w.alloc (.cells #[.slice a l.length cap] 25)) w3 := by
    obtain ⟨⟨xs, h8⟩, h9⟩ := HREL.out
    exact ⟨⟨xs, h8.nil hf3⟩, h9.trans hf3 (by simp)⟩
   have HREL3 := Lib.hid hrel3
   clear hrr hf3 hbr hrel3
   go_wp2_with fail
   go_loopg [30] sr.length (fun q i wr => ∃ (j : Nat), q = sr.length - j ∧ j ≤ sr.length ∧ i = .int .i64 (j : Int) ∧ BefRel (w.heap.size + 1) l.length (w.heap.size + 1) (addAll (predK (Esel l true) l.length k) k ((Esel l true k).take j)) (w.alloc (.cells #[.slice a l.length cap] 25)) wr ∧ Frm [] w wr ∧ RowR B wr ra rc sr)
   case atStart => exact ⟨0, rfl, Nat.zero_le _, rfl, HREL3.out, f0.trans HREL3.out.2 (by simp), HRR.out⟩
   case round =>
    obtain ⟨j, rfl, hj, rfl, hrel4, hF4, hrr4⟩ := hrel
    have HREL4 := Lib.hid hrel4
    have HF4 := Lib.hid hF4
    have HRR4 := Lib.hid hrr4
    have i8 : (0 : Int) ≤ (j : Int) := by omega
    have hszr := hrel4.2.size
    simp only [World.alloc, Array.size_push] at hszr
    clear hrel4 hF4 hrr4
    by_cases hjl : j < sr.length
    ·have i9 : (j : Int) < (sr.length : Int) := by omega
     obtain ⟨⟨e, t⟩, harc⟩ : ∃ y, sr[j]? = some y := ⟨_, List.getElem?_eq_getElem hjl⟩
     obtain ⟨m, rfl, hmn⟩ := sel_ok HV.out HROW.out (by rw [HSEL.out]; exact harc)
     have hEm : (Esel l true k)[j]? = some m := by
      have := esel_get HROW.out (silent := true) (j := j) (by rw [HSEL.out]; exact harc)
      simpa [Esel] using this
     obtain ⟨b1, o1, rfl, hb1, d1, d2⟩ := HRR4.out.2.2.2 j e m harc
     have n2 := World.block_lt_of_cell? _ _ d1
     simp only at n2
     have i10 : (m : Int) < (l.length : Int) := by omega
     have i11 : (0 : Int) ≤ (m : Int) := by omega
     have htk : (Esel l true k).take (j + 1) = (Esel l true k).take j ++ [m] := by
      rw [List.take_add_one, hEm]; rfl
     have HTK := Lib.hid htk
     clear harc hEm htk
     obtain ⟨⟨xs, hbef⟩, hfr⟩ := HREL4.out
     have hPl : (addAll (predK (Esel l true) l.length k) k ((Esel l true k).take j)).length = l.length := by rw [addAll_len, predK_len]
     have hpl : ((addAll (predK (Esel l true) l.length k) k ((Esel l true k).take j)).getD m []).length ≤ 9000000000 := by
      have h1 := addAll_get_len (s := k) (v := m) ((Esel l true k).take j) (predK (Esel l true) l.length k)
      have h2 := predK_get_len (v := m) (esel_few HV.out true) k (by omega)
      have h3 : k * 262144 ≤ 16384 * 262144 := Nat.mul_le_mul_right _ (by omega)
      have h4 := List.length_take_le' j (Esel l true k)
      have h5 := esel_few HV.out true k hlt2
      omega
     have hget := natIs_get (P := addAll (predK (Esel l true) l.length k) k ((Esel l true k).take j)) (i := m) (by omega)
     obtain ⟨a', cp', hx, hownp⟩ := hbef.row m _ hget
     have hadd := natIs_add (P := addAll (predK (Esel l true) l.length k) k ((Esel l true k).take j)) (t := m) (s := k)
     obtain ⟨PP, hPP⟩ : ∃ PP, addAll (predK (Esel l true) l.length k) k ((Esel l true k).take j) = PP := ⟨_, rfl⟩
     rw [hPP] at hbef hPl hpl hget hx hownp hadd
     obtain ⟨p, hp⟩ : ∃ p, natI (PP.getD m []) = p := ⟨_, rfl⟩
     have hpl2 : p.length ≤ 9000000000 := by rw [← hp, natI_len]; exact hpl
     rw [hp] at hget hx hownp hadd
     have cm := (own_rowg2 hbef.out).cell hx
     have zm := (own_rowg2 hbef.out).frozen m
     have hgl := (hbef.out.lt (w.heap.size + 1) rfl).2
     have hA : Frm [] wr (wr.alloc (.cells #[.int .i64 e, .int .i64 (m : Int)] 66)) := (Frm.refl _ _).alloc _
     have c1 : (wr.alloc (.cells #[.int .i64 e, .int .i64 (m : Int)] 66)).cell? ⟨wr.heap.size, 1, none⟩ = some (.int .i64 (m : Int)) := (RowAt.made wr 66 [.int .i64 e, .int .i64 (m : Int)] #[.int .i64 e, .int .i64 (m : Int)] rfl).cell (i := 1) rfl
     have HA := Lib.hid hA
     have C1 := Lib.hid c1
     have CM := Lib.hid (hA.cell cm (by simp))
     have ZM := Lib.hid (hA.frz cm zm (by simp))
     have HBEF := Lib.hid hbef
     have HOWNP := Lib.hid hownp
     have HADD := Lib.hid hadd
     have HGET := Lib.hid hget
     have HXX := Lib.hid hx
     have HPP := Lib.hid hPP
     clear hbef hPl hpl hget hx hownp hadd hPP hp cm zm hA c1 hfr
     go_wp2_with fail
     refine' wp_region_last (L := 12) _ (fun w' => w'.cell? ⟨wr.heap.size, 1, none⟩ = some (.int .i64 (m : Int)) ∧ w'.cell? ⟨w.heap.size + 1, m, none⟩ = some (.slice a' p.length cp')) (by kernel_rfl) rfl rfl rfl rfl ?he (by kernel_rfl) (by kernel_rfl) ?hS ?h
     case he =>
      simp only [nopOf, List.getElem_toArray, List.getElem_cons_succ, List.getElem_cons_zero, List.setIfInBounds_toArray, List.set_cons_succ, List.set_cons_zero]
      rfl
     case hS => exact ⟨C1.out, CM.out⟩
     intro hHeld
     refine qtk 0 (v := ?_) rfl (by kernel_rfl) (fun _ _ _ h => h) (by rfl) (by assumption) ?_ ?_
     rotate_left
     ·(intro w9 hS9; (try dsimp only at hS9); go_split_ands; go_simp; try with_reducible rfl)
     try simp only [Act.put, qgA, qgS, qg0, qsA, qs0, qsS]
     refine qtk 1 (v := ?_) rfl (by kernel_rfl) (fun _ _ _ h => h) (by rfl) (by assumption) ?_ ?_
     rotate_left
     ·(intro w9 hS9; (try dsimp only at hS9); go_split_ands; go_simp; try with_reducible rfl)
     try simp only [Act.put, qgA, qgS, qg0, qsA, qs0, qsS]
     refine qtk 2 (v := ?_) rfl (by kernel_rfl) (fun _ _ _ h => h) (by rfl) (by assumption) ?_ ?_
     rotate_left
     ·(intro w9 hS9; (try dsimp only at hS9); go_split_ands; go_simp; try with_reducible rfl)
     try simp only [Act.put, qgA, qgS, qg0, qsA, qs0, qsS]
     refine qtk 3 (v := ?_) rfl (by kernel_rfl) (fun _ _ _ h => h) (by rfl) (by assumption) ?_ ?_
     rotate_left
     ·(intro w9 hS9; (try dsimp only at hS9); go_split_ands; go_simp; try with_reducible rfl)
     try simp only [Act.put, qgA, qgS, qg0, qsA, qs0, qsS]
     refine qtk 4 (v := ?_) rfl (by kernel_rfl) (fun _ _ _ h => h) (by rfl) (by assumption) ?_ ?_
     rotate_left
     ·(intro w9 hS9; (try dsimp only at hS9); go_split_ands; go_simp; try with_reducible rfl)
     try simp only [Act.put, qgA, qgS, qg0, qsA, qs0, qsS]
     refine qtk 5 (v := ?_) rfl (by kernel_rfl) (fun _ _ _ h => h) (by rfl) (by assumption) ?_ ?_
     rotate_left
     ·(intro w9 hS9; (try dsimp only at hS9); go_split_ands; go_simp; try with_reducible rfl)
     try simp only [Act.put, qgA, qgS, qg0, qsA, qs0, qsS]
     refine qtk 6 (v := ?_) rfl (by kernel_rfl) (fun _ _ _ h => h) (by rfl) (by assumption) ?_ ?_
     rotate_left
     ·(intro w9 hS9; (try dsimp only at hS9); go_split_ands; go_simp; try with_reducible rfl)
     try simp only [Act.put, qgA, qgS, qg0, qsA, qs0, qsS]
     refine qtk 7 (v := ?_) rfl (by kernel_rfl) (fun _ _ _ h => h) (by rfl) (by assumption) ?_ ?_
     rotate_left
     ·(intro w9 hS9; (try dsimp only at hS9); go_split_ands; go_simp; try with_reducible rfl)
     try simp only [Act.put, qgA, qgS, qg0, qsA, qs0, qsS]
     refine qtk 8 (v := ?_) rfl (by kernel_rfl) (fun _ _ _ h => h) (by rfl) (by assumption) ?_ ?_
     rotate_left
     ·(intro w9 hS9; (try dsimp only at hS9); go_split_ands; go_simp; try with_reducible rfl)
     try simp only [Act.put, qgA, qgS, qg0, qsA, qs0, qsS]
     refine wpAnyH_ready (rs := [9]) (by kernel_rfl) (by simp) ?_
     refine AllReadyH.cons rfl (fun K hK => ?_) AllReadyH.nil
     go_simp
     have q9 : Frm [] (wr.alloc (.cells #[.int .i64 e, .int .i64 (m : Int)] 66)) ((wr.alloc (.cells #[.int .i64 e, .int .i64 (m : Int)] 66)).alloc (.cells #[.int .i64 (k : Int)] 3)).drew := ((Frm.refl _ _).alloc _).drew
     have Q9 := Lib.hid q9
     have QW := Lib.hid (HA.out.trans q9 (by simp))
     clear q9
     refine hK.out _ _ ?_ (fun hHeld => ?_)
     ·exact ⟨Q9.out.cell C1.out (by simp), Q9.out.cell CM.out (by simp)⟩
     clear hK K
     try simp only [Act.put, qgA, qgS, qg0, qsA, qs0, qsS]
     refine wpAnyH_ready (rs := [10]) (by kernel_rfl) (by simp) ?_
     refine AllReadyH.cons rfl (fun K hK => ?_) AllReadyH.nil
     refine step_app_i rfl (.tmp 41) (.tmp 43) rfl (w.heap.size + 1) p.length (.slice a' p.length cp') p rfl (ownsB_frm HOWNP.out QW.out (by simp)) ⟨wr.heap.size + 1, 0, none⟩ 1 (k : Int) rfl (cells_new_at (wr.alloc (.cells #[.int .i64 e, .int .i64 (m : Int)] 66)) (k : Int) 3 (wr.heap.size + 1) (by simp) 0 _ rfl) (by omega) (by simp; omega) (wr.heap.size + 1 + 1) (by simp) ?_
     intro g10 cp10 w10 hown10 hf10 hg10
     have hnb : ∀ q ∈ (Value.slice a' p.length cp').ownBlock.toList, w.heap.size + 1 ≤ q ∧ q < wr.heap.size ∧ q ≠ w.heap.size + 1 := by
      intro q hq
      simp only [Option.mem_toList] at hq
      have h1 := HOWNP.out.lt q hq
      exact ⟨h1.1, h1.2, fun e9 => HBEF.out.sep m _ HXX.out (by rw [hq, e9])⟩
     have q10 : Frm (Value.slice a' p.length cp').ownBlock.toList wr w10 := (QW.out.mono (fq := (Value.slice a' p.length cp').ownBlock.toList) (by simp)).trans hf10 (fun x hx9 => .inl hx9)
     have HNB := Lib.hid hnb
     have Q10 := Lib.hid q10
     have C10 := Lib.hid (q10.cell (p := ⟨w.heap.size + 1, m, none⟩) ((own_rowg2 HBEF.out.out).cell HXX.out) (fun hm9 => (hnb _ hm9).2.2 rfl))
     have Z10 := Lib.hid (q10.frz (p := ⟨w.heap.size + 1, m, none⟩) ((own_rowg2 HBEF.out.out).cell HXX.out) ((own_rowg2 HBEF.out.out).frozen m) (fun hm9 => (hnb _ hm9).2.2 rfl))
     have hf10' : Frm (Value.slice a' p.length cp').ownBlock.toList (wr.alloc (.cells #[.int .i64 e, .int .i64 (m : Int)] 66)) w10 := (Q9.out.mono (fq := (Value.slice a' p.length cp').ownBlock.toList) (by simp)).trans hf10 (fun x hx9 => .inl hx9)
     have C110 := Lib.hid (hf10'.cell C1.out (fun hm9 => by have := (hnb _ hm9).2.1; simp at this))
     have hput := HBEF.out.put (w' := w10) (p' := p ++ [(k : Int)]) (m := p.length + 1) (g9 := g10) (cp9 := cp10) HGET.out HXX.out (by simp) hown10 q10 (by rcases hg10 with h9 | h9; exact .inl h9; exact .inr (by omega))
     have HPUT := Lib.hid hput
     have HRR10 := Lib.hid (RowR.frmw HRR4.out q10 (fun q hq9 => by have := (hnb q hq9).1; omega))
     clear hnb q10 hf10 hf10' hput hown10
     refine hK.out _ _ ?_ (fun hHeld => ?_)
     ·exact ⟨C110.out, C10.out⟩
     clear hK K
     try simp only [Act.put, qgA, qgS, qg0, qsA, qs0, qsS]
     refine qtk 11 (v := ?_) rfl (by kernel_rfl) (fun _ _ _ h => h) (by rfl) (by assumption) ?_ ?_
     rotate_left
     ·(intro w9 hS9; (try dsimp only at hS9); go_split_ands; go_simp; try with_reducible rfl)
     try simp only [Act.put, qgA, qgS, qg0, qsA, qs0, qsS]
     refine qtk 12 (v := ?_) rfl (by kernel_rfl) (fun _ _ _ h => h) (by rfl) (by assumption) ?_ ?_
     rotate_left
     ·(intro w9 hS9; (try dsimp only at hS9); go_split_ands; go_simp; try with_reducible rfl)
     try simp only [Act.put, qgA, qgS, qg0, qsA, qs0, qsS]
     refine wpAnyH_done (by kernel_rfl) ?_ _
     refine Qt.last rfl rfl ?_
     simp only [List.getElem_toArray, List.getElem_cons_succ, List.getElem_cons_zero]
     have z10 := Z10.out
     have c10 := C10.out
     go_simp
     go_wp2_with fail
     go_roundg (sr.length - (j + 1))
     case rel =>
      have hF9 : Frm [] (w.alloc (.cells #[.slice a l.length cap] 25)) (w10.setCell ⟨w.heap.size + 1, m, none⟩ (.slice (some ⟨g10, 0, none⟩) (p.length + 1) cp10)) := (HREL4.out.2.trans Q10.out (fun q hq => .inr (by have := (HNB.out q hq).1; simpa using this))).setCell (p := ⟨w.heap.size + 1, m, none⟩) (.inr (by simp)) _
      refine ⟨j + 1, rfl, hjl, by go_num, ⟨⟨xs.set m (.slice (some ⟨g10, 0, none⟩) (p.length + 1) cp10), ?_⟩, hF9⟩, f0.trans hF9 (by simp), HRR10.out.frmw ((Frm.refl [w.heap.size + 1] _).setCell (p := ⟨w.heap.size + 1, m, none⟩) (.inl (by simp)) _) (by simp; omega)⟩
      rw [HTK.out, addAll_snoc, HPP.out, HADD.out]
      exact HPUT.out
     case measure => omega
    ·have hjn : j = sr.length := by omega
     subst hjn
     have i9 : ¬ (sr.length : Int) < (sr.length : Int) := by omega
     have hlenE : (Esel l true k).length = sr.length := by rw [esel_len HROW.out, HSEL.out]
     have hrel5 := HREL4.out
     rw [List.take_of_length_le (by omega), ← predK_succ] at hrel5
     have HREL5 := Lib.hid hrel5
     clear hrel5 hlenE
     go_wp2_with fail
     go_roundg (l.length - (k + 1))
     case rel => exact ⟨k + 1, rfl, by omega, by go_num, HREL5.out⟩
     case measure => omega
  ·have hkl : k = l.length := by omega
   subst hkl
   have i5 : ¬ (l.length : Int) < (l.length : Int) := by omega
   have hbr := HFB.out.cell ((HB.out).cell (i := 0) rfl) (by simp)
   have hszr := HFB.out.size
   simp only [World.alloc, Array.size_push] at hszr
   have hminus : (wr.alloc (.cells #[.int .i64 (-1)] 3)).cell? ⟨wr.heap.size, 0, none⟩ = some (.int .i64 (-1)) := (RowAt.made wr 3 [.int .i64 (-1)] #[.int .i64 (-1)] rfl).cell (i := 0) rfl
   have n1 : w.heap.size < wr.heap.size := by omega
   have hpos := HV.out.pos
   have hrep := repeat_any wr.heap.size 0 1 l.length (-1) _ hminus (by omega) (by omega)
   have HREP := Lib.hid hrep
   clear hminus hrep
   go_wp2_with fail
   refine HREP.out.mono ?_
   rintro e2 w2 ⟨go, rfl, hro2, hf2⟩
   have hf2w : Frm [] wr w2 := ((Frm.refl [] wr).alloc (.cells #[.int .i64 (-1)] 3)).trans hf2 (by simp)
   have HRO2 := Lib.hid hro2
   have HF2W := Lib.hid hf2w
   have hgoB : wr.heap.size < go := by
    have := (hro2.lt go rfl).1
    simp at this
    omega
   have hbn : (w2.heap.size : Nat) = w2.heap.size := rfl
   have hgl2 := (hro2.lt go rfl).2
   have hgoals : goals.length = l.length := by have := HG.out.len; simp [bools] at this; omega
   have hq0 : QRel (w.heap.size + 1) l.length go w2 (goalOut goals l.length 0) (goalQ goals 0) (.slice none 0 0) w2 := ⟨none, 0, rfl, ⟨rfl, .inl ⟨rfl, rfl⟩⟩, by rw [goalOut_zero]; exact ownsB_mono hro2 (by simp; omega), Frm.refl _ _⟩
   have HQ0 := Lib.hid hq0
   have HGL := Lib.hid hgoals
   clear hro2 hf2 hf2w HREP hq0 hgoals hbn
   go_wp2_with fail
   go_loopg [10, 55] l.length (fun q p i wr => ∃ (k : Nat), q = l.length - k ∧ k ≤ l.length ∧ i = .int .i64 (k : Int) ∧ QRel (w.heap.size + 1) l.length go w2 (goalOut goals l.length k) (goalQ goals k) p wr)
   case atStart => exact ⟨0, rfl, Nat.zero_le _, rfl, HQ0.out⟩
   case round =>
    obtain ⟨k, rfl, hk, rfl, hq⟩ := hrel
    obtain ⟨qa, qc, rfl, hown, hrow, hF⟩ := hq
    have HOWN := Lib.hid hown
    have HROW := Lib.hid hrow
    have HF := Lib.hid hF
    have hFb := ((HFB.out.trans HF2W.out (by simp)).mono (fq := [go]) (by simp)).trans hF (by simp)
    have HFBQ := Lib.hid hFb
    have i4 : (0 : Int) ≤ (k : Int) := by omega
    have hsz3 := hF.size
    have hsz4 := hFb.size
    simp only [World.alloc, Array.size_push] at hsz4
    have hql := goalQ_len goals k
    clear hown hrow hF hFb
    by_cases hlt3 : k < l.length
    ·have i5 : (k : Int) < (l.length : Int) := by omega
     obtain ⟨b, hb⟩ : ∃ b, goals[k]? = some b := ⟨_, List.getElem?_eq_getElem (by rw [HGL.out]; exact hlt3)⟩
     obtain ⟨gb, go2, rfl, hgb, cg0⟩ := HG.out.cell k _ (bools_get hb)
     have cg := HFBQ.out.cell cg0 (by simp; omega)
     have HBB := Lib.hid hb
     clear hb cg0
     cases b with
     | true =>
      have hog := goalOut_get goals l.length k k hlt3
      have cr := (own_rowg2 HROW.out).cell (ints_get hog)
      have zr := (own_rowg2 HROW.out).frozen k
      have hrow5 := ownsB_setCellG HROW.out rfl k (.int .i64 0)
      rw [← ints_set, goalOut_yes HBB.out] at hrow5
      have hown5 := own_setv (p := go) (i := k) (u := .int .i64 0) HOWN.out (fun q hq e9 => by have := (HOWN.out.lt q hq).1; omega)
      have HROW5 := Lib.hid hrow5
      have HOWN5 := Lib.hid hown5
      have HF5 := Lib.hid (HF.out.setCell (p := ⟨go, k, none⟩) (.inl (by simp)) (.int .i64 0))
      clear hrow5 hown5 hog
      go_wp2_with (first | (at_builtin; refine wpl_app_at rfl (.tmp 64) (.tmp 66) 22 3 (.int .i64 0) 1 8 Tryz.underlying22 infoInt rfl (by decide) rfl w2.heap.size (goalQ goals k).length ((goalQ goals k).length + 1) (.slice qa (goalQ goals k).length qc) (ints (natI (goalQ goals k))) rfl (HOWN5.out.alloc _) ⟨wr.heap.size, 0, none⟩ 1 [.int .i64 (k : Int)] rfl rfl (cells_new_at _ (k : Int) _ _ (by simp [World.setCell])) (by simp [Value.oneCell']) rfl (by omega) (by omega) (by simp; omega) ?_) | (at_builtin; fail))
      intro g11 cp11 w11 hown11 hf11 hg11
      have hb11 : ∀ q ∈ (Value.slice qa (goalQ goals k).length qc).ownBlock.toList, w2.heap.size ≤ q := fun q hq => (HOWN.out.lt q (by simpa using hq)).1
      have hf11' := (HF5.out.alloc (.cells #[.int .i64 (k : Int)] 3)).trans hf11 (fun q hq => .inr (hb11 q hq))
      have hrow11 := own_frm_out (HROW5.out.alloc (.cells #[.int .i64 (k : Int)] 3)) hf11 (fun hm9 => by have := hb11 _ hm9; omega)
      have hq11 : QRel (w.heap.size + 1) l.length go w2 (goalOut goals l.length (k + 1)) (goalQ goals (k + 1)) (.slice (some ⟨g11, 0, none⟩) ((goalQ goals k).length + 1) cp11) w11 := by
       have e9 : (goalQ goals (k + 1)).length = (goalQ goals k).length + 1 := by rw [goalQ_yes HBB.out]; simp
       refine ⟨some ⟨g11, 0, none⟩, cp11, by rw [e9], ?_, hrow11, hf11'⟩
       rw [e9, goalQ_yes HBB.out, natI, List.map_append, ints_app]
       exact hown11
      have HQ11 := Lib.hid hq11
      clear hb11 hf11' hrow11 hq11 hown11 hf11
      go_wp2_with fail
      go_roundg (l.length - (k + 1))
      case rel => exact ⟨k + 1, rfl, by omega, by go_num, HQ11.out⟩
      case measure => omega
     | false =>
      have hne : goals[k]? ≠ some true := by rw [HBB.out]; simp
      have hqn : QRel (w.heap.size + 1) l.length go w2 (goalOut goals l.length (k + 1)) (goalQ goals (k + 1)) (.slice qa (goalQ goals k).length qc) wr := by
       rw [← goalOut_no hne, goalQ_no hne]
       exact ⟨qa, qc, rfl, HOWN.out, HROW.out, HF.out⟩
      have HQN := Lib.hid hqn
      clear hne hqn
      go_wp2_with fail
      go_roundg (l.length - (k + 1))
      case rel => exact ⟨k + 1, rfl, by omega, by go_num, HQN.out⟩
      case measure => omega
    ·have hkl : k = l.length := by omega
     subst hkl
     have i5 : ¬ (l.length : Int) < (l.length : Int) := by omega
     have hbf := bfs_start (E := Esel l true) (n := l.length) (goals := goals) (esel_edge HV.out true) HGL.out
     have HBF := Lib.hid hbf
     have HQS : Hid (QRel (w.heap.size + 1) l.length go w2 (goalOut goals l.length l.length) (goalQ goals l.length) (.slice qa (goalQ goals l.length).length qc) wr) := Lib.hid ⟨qa, qc, rfl, HOWN.out, HROW.out, HF.out⟩
     have HREL2 := HREL
     clear hbf
     go_wp2_with fail
     go_loopg [10, 13] l.length (fun g p i wr => ∃ (k : Nat) (out : List Int) (qs : List Nat), g = l.length - k ∧ k ≤ qs.length ∧ i = .int .i64 (k : Int) ∧ Bfs (Esel l true) (fun v => (predK (Esel l true) l.length l.length).getD v []) l.length (fun v => goals[v]? = some true) out qs k 0 ∧ QRel (w.heap.size + 1) l.length go w2 out qs p wr)
     case atStart => exact ⟨0, _, _, rfl, Nat.zero_le _, rfl, HBF.out, HQS.out⟩
     case round =>
      obtain ⟨k, out, qs, rfl, hk2, rfl, hbf, hq⟩ := hrel
      obtain ⟨qa, qc, rfl, hown, hrow, hF⟩ := hq
      have hqn := bfs_len hbf
      have HOWN := Lib.hid hown
      have HROW := Lib.hid hrow
      have HF := Lib.hid hF
      have HBF2 := Lib.hid hbf
      have hsz5 := hF.size
      have i4 : (0 : Int) ≤ (k : Int) := by omega
      have i7 : (qs.length : Int) ≤ 16384 := by omega
      clear hown hrow hF
      by_cases hkq : k < qs.length
      ·have i5 : (k : Int) < (qs.length : Int) := by omega
       obtain ⟨c, hc⟩ : ∃ c, qs[k]? = some c := ⟨_, List.getElem?_eq_getElem hkq⟩
       have hcm := (hbf.mem c).1 (List.mem_of_getElem? hc)
       have HCM := Lib.hid hcm
       have HC := Lib.hid hc
       obtain ⟨⟨xs, hbef⟩, hfrb⟩ := HREL2.out
       have hget := natIs_get (P := predK (Esel l true) l.length l.length) (i := c) (by rw [predK_len]; exact hcm.1)
       obtain ⟨a', cp', hx, hownp⟩ := hbef.row c _ hget
       obtain ⟨pc, hpc⟩ : ∃ pc, (predK (Esel l true) l.length l.length).getD c [] = pc := ⟨_, rfl⟩
       have hpl : pc.length ≤ 9000000000 := by
        have h2 := predK_get_len (v := c) (esel_few HV.out true) l.length (Nat.le_refl _)
        have h3 : l.length * 262144 ≤ 16384 * 262144 := Nat.mul_le_mul_right _ (by omega)
        rw [hpc] at h2
        omega
       rw [hpc] at hx hownp
       rw [natI_len] at hx hownp
       have hbl : ∀ q, (Value.slice a' pc.length cp').ownBlock = some q → q ≠ go := fun q hq => by
        have := (hownp.lt q hq).2
        omega
       have cb := HF.out.cell (HF2W.out.cell ((own_rowg2 hbef.out).cell hx) (by simp)) (by simp; omega)
       have hownp2 := ownsB_frm (ownsB_frm hownp HF2W.out (by simp)) HF.out (fun q hq hm => hbl q hq (by simpa using hm))
       have hrdp := rd_of_owns hownp2 (Nat.le_refl _)
       obtain ⟨gq, hqa⟩ : ∃ gq : Nat, qa = some ⟨gq, 0, none⟩ := by
        obtain ⟨gq, cq, hs1, _⟩ := owns_some (ownsB_mono HOWN.out (Nat.zero_le _)) (show 0 < qs.length by omega)
        exact ⟨gq, by simp only [Value.slice.injEq] at hs1; exact hs1.1⟩
       subst hqa
       have cq := (own_rowg2 HOWN.out).cell (ints_get (natI_get hc))
       have i8 : (c : Int) < (l.length : Int) := by omega
       have i9 : (0 : Int) ≤ (c : Int) := by omega
       have i10 : (pc.length : Int) ≤ 9000000000 := by omega
       have HOWNP := Lib.hid hownp2
       have HRDP := Lib.hid hrdp
       have HPC := Lib.hid hpc
       have HBL := Lib.hid hbl
       have HCQ := Lib.hid cq
       have hszw2 : ∀ q, (Value.slice a' pc.length cp').ownBlock = some q → q < w2.heap.size := fun q hq => by
        have := (hownp.lt q hq).2
        have := HF2W.out.size
        omega
       have HSZ := Lib.hid hszw2
       clear hbef hfrb hget hx hownp hownp2 hrdp hpc hbl hbf hszw2 hcm hc
       go_wp2_with fail
       clear cb cq
       go_loopg [10, 83] pc.length (fun g p i wr => ∃ (j : Nat) (out : List Int) (qs : List Nat), g = pc.length - j ∧ j ≤ pc.length ∧ i = .int .i64 (j : Int) ∧ k < qs.length ∧ qs[k]? = some c ∧ Bfs (Esel l true) (fun v => (predK (Esel l true) l.length l.length).getD v []) l.length (fun v => goals[v]? = some true) out qs k j ∧ QRel (w.heap.size + 1) l.length go w2 out qs p wr ∧ wr.ownsRow (w.heap.size + 1) 3 1 (.slice a' pc.length cp') pc.length (ints (natI pc)))
       case atStart => exact ⟨0, out, qs, rfl, Nat.zero_le _, rfl, hkq, HC.out, HBF2.out, ⟨some ⟨gq, 0, none⟩, qc, rfl, HOWN.out, HROW.out, HF.out⟩, HOWNP.out⟩
       case round =>
        obtain ⟨j, out, qs, rfl, hj, rfl, hkq2, hc2, hbf, hq, hownp⟩ := hrel
        obtain ⟨qa, qc, rfl, hown, hrow, hF⟩ := hq
        have HOWN := Lib.hid hown
        have HROW := Lib.hid hrow
        have HF := Lib.hid hF
        have HBF2 := Lib.hid hbf
        have HP := Lib.hid hownp
        have HC2 := Lib.hid hc2
        have hqn := bfs_len hbf
        have hsz6 := hF.size
        have hszw := (((HFB.out.trans HF2W.out (by simp)).mono (fq := [go]) (by simp)).trans hF (by simp)).size
        simp only [World.alloc, Array.size_push] at hszw
        have i11 : (0 : Int) ≤ (j : Int) := by omega
        have i12 : (qs.length : Int) ≤ 16384 := by omega
        have i13 : (k : Int) < (qs.length : Int) := by omega
        clear hown hrow hF hownp hc2
        by_cases hjl : j < pc.length
        ·have i14 : (j : Int) < (pc.length : Int) := by omega
         obtain ⟨s, hs⟩ : ∃ s, pc[j]? = some s := ⟨_, List.getElem?_eq_getElem hjl⟩
         have hsP : ((fun v => (predK (Esel l true) l.length l.length).getD v []) c)[j]? = some s := by show ((predK (Esel l true) l.length l.length).getD c [])[j]? = some s; rw [HPC.out]; exact hs
         have hcn := ((hbf.mem c).1 (List.mem_of_getElem? HC2.out)).1
         have hsn : s < l.length := ((hbf.pred s c hcn).1 (List.mem_of_getElem? hsP)).1
         obtain ⟨bp, op, hbp, _, cs⟩ := (rd_of_owns HP.out (Nat.le_refl _)).at (natI_get hs)
         subst hbp
         have hxs := ix_some hbf.len hsn
         obtain ⟨xs', hxs'⟩ : ∃ x, Tj.ix out s = x := ⟨_, rfl⟩
         rw [hxs'] at hxs
         have co := (own_rowg2 HROW.out).cell (ints_get hxs)
         have zo := (own_rowg2 HROW.out).frozen s
         have i15 : (0 : Int) ≤ (s : Int) := by omega
         have i16 : (s : Int) < (l.length : Int) := by omega
         by_cases hneg : xs' < 0
         ·obtain ⟨xc, hxc⟩ : ∃ x, Tj.ix out c = x := ⟨_, rfl⟩
          have hxcs := ix_some hbf.len hcn
          rw [hxc] at hxcs
          have cc := (own_rowg2 HROW.out).cell (ints_get hxcs)
          have hc0 := ((hbf.mem c).1 (List.mem_of_getElem? HC2.out)).2
          have hcb := hbf.bnd k c HC2.out
          rw [hxc] at hc0 hcb
          have i17 : xc ≤ 16384 := by omega
          have hadd := hbf.add HC2.out hsP (by rw [hxs']; exact hneg)
          rw [hxc] at hadd
          have HADD := Lib.hid hadd
          obtain ⟨gq2, hqa2⟩ : ∃ gq : Nat, qa = some ⟨gq, 0, none⟩ := by
           obtain ⟨gq, cq, hs1, _⟩ := owns_some (ownsB_mono HOWN.out (Nat.zero_le _)) (show 0 < qs.length by omega)
           exact ⟨gq, by simp only [Value.slice.injEq] at hs1; exact hs1.1⟩
          subst hqa2
          have cq2 := (own_rowg2 HOWN.out).cell (ints_get (natI_get HC2.out))
          have hrow5 := ownsB_setCellG HROW.out rfl s (.int .i64 (xc + 1))
          rw [← ints_set] at hrow5
          have hown5 := own_setv (p := go) (i := s) (u := .int .i64 (xc + 1)) HOWN.out (fun q hq e9 => by have := (HOWN.out.lt q hq).1; omega)
          have hp5 := own_setv (p := go) (i := s) (u := .int .i64 (xc + 1)) HP.out (fun q hq => HBL.out q hq)
          have HROW5 := Lib.hid hrow5
          have HOWN5 := Lib.hid hown5
          have HP5 := Lib.hid hp5
          have HF5 := Lib.hid (HF.out.setCell (p := ⟨go, s, none⟩) (.inl (by simp)) (.int .i64 (xc + 1)))
          clear hrow5 hown5 hp5 hadd hxs hxs' hxc hxcs hsP hs hbf
          go_wp2_with (first | (at_builtin; refine wpl_app_at rfl (.tmp 103) (.tmp 105) 22 3 (.int .i64 0) 1 8 Tryz.underlying22 infoInt rfl (by decide) rfl w2.heap.size qs.length (qs.length + 1) (.slice (some ⟨gq2, 0, none⟩) qs.length qc) (ints (natI qs)) rfl (HOWN5.out.alloc _) ⟨wr.heap.size, 0, none⟩ 1 [.int .i64 (s : Int)] rfl rfl (cells_new_at _ (s : Int) _ _ (by simp [World.setCell])) (by simp [Value.oneCell']) rfl (by omega) (by omega) (by simp; omega) ?_) | (at_builtin; fail))
          intro g11 cp11 w11 hown11 hf11 hg11
          have hb11 : ∀ q ∈ (Value.slice (some ⟨gq2, 0, none⟩) qs.length qc).ownBlock.toList, w2.heap.size ≤ q := fun q hq => (HOWN.out.lt q (by simpa using hq)).1
          have hf11' := (HF5.out.alloc (.cells #[.int .i64 (s : Int)] 3)).trans hf11 (fun q hq => .inr (hb11 q hq))
          have hrow11 := own_frm_out (HROW5.out.alloc (.cells #[.int .i64 (s : Int)] 3)) hf11 (fun hm9 => by have := hb11 _ hm9; omega)
          have hp11 := ownsB_frm (HP5.out.alloc (.cells #[.int .i64 (s : Int)] 3)) hf11 (fun q hq hm => by have := hb11 q hm; have := HSZ.out q hq; omega)
          have hq11 : QRel (w.heap.size + 1) l.length go w2 (out.set s (xc + 1)) (qs ++ [s]) (.slice (some ⟨g11, 0, none⟩) (qs.length + 1) cp11) w11 := by
           have e9 : (qs ++ [s]).length = qs.length + 1 := by simp
           refine ⟨some ⟨g11, 0, none⟩, cp11, by rw [e9], ?_, hrow11, hf11'⟩
           rw [e9, natI, List.map_append, ints_app]
           exact hown11
          have HQ11 := Lib.hid hq11
          have HP11 := Lib.hid hp11
          clear hb11 hf11' hrow11 hq11 hown11 hf11 hp11
          go_wp2_with fail
          go_roundg (pc.length - (j + 1))
          case rel => exact ⟨j + 1, out.set s (xc + 1), qs ++ [s], rfl, hjl, by go_num, by simp; omega, by rw [List.getElem?_append_left hkq2]; exact HC2.out, HADD.out, HQ11.out, HP11.out⟩
          case measure => omega
         ·have hge : 0 ≤ xs' := by omega
          have hsk := hbf.skip HC2.out hsP (by rw [hxs']; exact hge)
          have HSK := Lib.hid hsk
          have HQR : Hid (QRel (w.heap.size + 1) l.length go w2 out qs (.slice qa qs.length qc) wr) := Lib.hid ⟨qa, qc, rfl, HOWN.out, HROW.out, HF.out⟩
          clear hsk hxs hxs' hsP hs hbf hneg
          go_wp2_with fail
          go_roundg (pc.length - (j + 1))
          case rel => exact ⟨j + 1, out, qs, rfl, hjl, by go_num, hkq2, HC2.out, HSK.out, HQR.out, HP.out⟩
          case measure => omega
        ·have hjn : j = pc.length := by omega
         have hnext := hbf.next HC2.out (by show ((predK (Esel l true) l.length l.length).getD c []).length ≤ j; rw [HPC.out]; omega)
         have HNX := Lib.hid hnext
         have i14 : ¬ (j : Int) < (pc.length : Int) := by omega
         have HQR : Hid (QRel (w.heap.size + 1) l.length go w2 out qs (.slice qa qs.length qc) wr) := Lib.hid ⟨qa, qc, rfl, HOWN.out, HROW.out, HF.out⟩
         clear hnext hjn hbf
         go_wp2_with fail
         go_roundg (l.length - (k + 1))
         case rel => exact ⟨k + 1, out, qs, rfl, hkq2, by go_num, HNX.out, HQR.out⟩
         case measure => omega
      ·have hkl : k = qs.length := by omega
       have hdist := hbf.finish (show qs.length ≤ k by omega) (esel_edge HV.out true)
       have HD := Lib.hid hdist
       have i5 : ¬ (k : Int) < (qs.length : Int) := by omega
       have hfin : Frm [] w wr := by
        have h1 := ((f0.trans HFB.out (by simp)).trans HF2W.out (by simp)).mono (fq := [go]) (by simp)
        have h2 := h1.trans HF.out (by simp)
        have h3 : w.heap.size ≤ go := by have := HFB.out.size; simp at this; omega
        exact ⟨h2.os, h2.tape, h2.output, h2.size, fun q hq _ => h2.block q hq (by simp; omega)⟩
       have HFIN := Lib.hid hfin
       clear hdist hkl hbf hfin
       go_wp2_with fail
       go_ret
       exact ⟨⟨go, out, rfl, ownsB_mono HROW.out (by omega), HD.out⟩, HFIN.out⟩

end Go.Proofs.YtikpcipkkhmcfaaGreat
