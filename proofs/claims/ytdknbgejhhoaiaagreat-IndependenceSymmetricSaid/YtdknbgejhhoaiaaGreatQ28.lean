/- Merged text: M3, M5, M7 of the notes. -/
import Derived.Test.YtdknbgejhhoaiaaGreatQ26
import Derived.Test.YtdknbgejhhoaiaaGreatQ27
import Derived.Test.YtdknbgejhhoaiaaGreatQ14
import Derived.Test.YtdknbgejhhoaiaaGreatQ03
import Derived.StillTail
/- A machine under way in the call's own memory. -/
/- A drawn region that ends in one store: the store is struck off (copy of EW). -/


/- A region that draws its order and ends in a store that all others go before: the store is taken behind the region. Plain, no program. -/
namespace Go.Proofs.YtdknbgejhhoaiaaGreat
open Go

end Go.Proofs.YtdknbgejhhoaiaaGreat
namespace Go.Proofs.YtdknbgejhhoaiaaGreat.Ind
open Go.Shelf Go.RowKit Go.Lib

def nilV : Value := .slice none 0 0
def mZero : Array Value := #[.int .i64 0, .int .i64 0, .int .i64 0, .slice none 0 0]
/-- Between two rows. -/
structure MO (B tb N : Nat) (w wi : World) (r n b g : Nat) (done : List (Value × List RA)) (rest : Nat) : Prop where
  bx : Bx B tb N w wi 30 g [.int .i64 r, .int .i64 2, .int .i64 1, .slice (some ⟨b, 0, none⟩) n n]
  res : RowAt wi w.heap.size 30 mZero.toList
  o1 : w.heap.size < b
  o2 : b < g
  nle : n ≤ 3
  len : done.length + rest = n
  row : RowAt wi b 49 (done.map (·.1) ++ List.replicate rest nilV)
  dn : ∀ p ∈ done, ArcsAt wi [tb, w.heap.size, b] p.1 p.2
/-- Inside a row. -/
structure MS (B tb N : Nat) (w wi : World) (r n b g : Nat) (done : List (Value × List RA)) (v : Value) (l : List (Value × RA)) (rest : Nat) : Prop where
  bx : Bx B tb N w wi 30 g [.int .i64 r, .int .i64 2, .int .i64 1, .slice (some ⟨b, 0, none⟩) n n]
  res : RowAt wi w.heap.size 30 mZero.toList
  o1 : w.heap.size < b
  o2 : b < g
  nle : n ≤ 3
  len : done.length + rest + 1 = n
  row : RowAt wi b 49 (done.map (·.1) ++ v :: List.replicate rest nilV)
  dn : ∀ p ∈ done, ArcsAt wi (tb :: w.heap.size :: b :: v.ownBlock.toList) p.1 p.2
  own : wi.ownsRow (g + 1) 47 6 v l.length (rowC l)
  nots : ∀ p ∈ l, NotAt wi (tb :: w.heap.size :: b :: v.ownBlock.toList) p.1 p.2
section
variable {B tb N M r n b g rest : Nat} {w wi w' : World} {done : List (Value × List RA)} {v : Value} {l : List (Value × RA)}
theorem MO.next (h : MO B tb N w wi r n b g done rest) (ht : TapeOk B w' tb M) (hf : Frm [tb] wi w') : MO B tb M w w' r n b g done rest :=
  have h1 := h.bx.lt
  ⟨h.bx.step ht hf, h.res.frm hf (by simp; omega), h.o1, h.o2, h.nle, h.len, h.row.frm hf (by have := h.o1; simp; omega), fun p hp => (h.dn p hp).step hf (by simp) (fun k hk => .inl hk)⟩
theorem MO.nil (h : MO B tb N w wi r n b g done rest) (hf : Frm [] wi w') : MO B tb N w w' r n b g done rest :=
  ⟨h.bx.nil hf, h.res.frm hf (by simp), h.o1, h.o2, h.nle, h.len, h.row.frm hf (by simp), fun p hp => (h.dn p hp).nil hf⟩
theorem MS.next (h : MS B tb N w wi r n b g done v l rest) (ht : TapeOk B w' tb M) (hf : Frm [tb] wi w') : MS B tb M w w' r n b g done v l rest :=
  have h1 := h.bx.lt
  have h2 := h.o1
  have h3 := h.o2
  ⟨h.bx.step ht hf, h.res.frm hf (by simp; omega), h.o1, h.o2, h.nle, h.len, h.row.frm hf (by have := h.o1; simp; omega), fun p hp => (h.dn p hp).step hf (by simp) (fun k hk => .inl hk), ownsB_frm h.own hf (fun k hk => by have := (h.own.lt k hk).1; simp; omega), fun p hp => RowV.step (h.nots p hp) hf (by simp) (fun k hk => .inl hk)⟩
theorem MS.nil (h : MS B tb N w wi r n b g done v l rest) (hf : Frm [] wi w') : MS B tb N w w' r n b g done v l rest :=
  ⟨h.bx.nil hf, h.res.frm hf (by simp), h.o1, h.o2, h.nle, h.len, h.row.frm hf (by simp), fun p hp => (h.dn p hp).nil hf, ownsB_frm h.own hf (by simp), fun p hp => RowV.nil (h.nots p hp) hf⟩
theorem MO.open_ (h : MO B tb N w wi r n b g done (rest + 1)) : MS B tb N w wi r n b g done nilV [] rest :=
  ⟨h.bx, h.res, h.o1, h.o2, h.nle, by have := h.len; omega, h.row, h.dn, ⟨rfl, .inl ⟨rfl, rfl⟩⟩, by simp⟩
theorem MS.close (h : MS B tb N w wi r n b g done v l rest) : MO B tb N w wi r n b g (done ++ [(v, l.map (·.2))]) rest := by
  have h1 := h.bx.lt
  have h2 := h.o1
  have h3 := h.o2
  refine ⟨h.bx, h.res, h.o1, h.o2, h.nle, by have := h.len; simp; omega, by simpa using h.row, fun p hp => ?_⟩
  rcases List.mem_append.1 hp with hp | hp
  · exact (h.dn p hp).step (Frm.refl [] wi) (by simp) (fun k hk => .inl (by simp at hk ⊢; omega))
  · obtain rfl : p = (v, l.map (·.2)) := by simpa using hp
    refine ⟨l, rfl, ?_, fun q hq => RowV.less (h.nots q hq) (fun k hk => by simp at hk ⊢; omega)⟩
    have := rowV_of_owns (F := [tb, w.heap.size, b]) h.own (fun k hk e => by have := (h.own.lt k e).1; simp at hk; omega)
    simpa using this
/-- The machine's rows as they stand. -/
theorem MO.states (h : MO B tb N w wi r n b g done rest) : StatesAt wi [tb, w.heap.size] (.slice (some ⟨b, 0, none⟩) n n) (done.map (·.2) ++ List.replicate rest []) := by
  have h1 := h.bx.lt
  have h2 := h.o1
  have hn : n ≤ maxLen := Nat.le_trans h.nle (by decide)
  refine ⟨done ++ List.replicate rest (nilV, []), by simp, ⟨by simp, _, _, ?_, ?_, hn, (fun h => by cases h), fun i u hu => ⟨b, 0, rfl, by simp; omega, h.row.lt, ?_⟩⟩, fun p hp => ?_⟩
  · have := h.len; simp; omega
  · have := h.len; simp; omega
  · rw [Nat.zero_add]
    exact h.row.cell (by simpa using hu)
  · rcases List.mem_append.1 hp with hp | hp
    · exact (h.dn p hp).step (Frm.refl [] wi) (by simp) (fun k hk => .inl (by simp at hk ⊢; omega))
    · obtain rfl := List.eq_of_mem_replicate hp
      exact ⟨[], rfl, RowV.nil0 _ _ _, by simp⟩
theorem frz_frm {fp : List Nat} {B e size m : Nat} {xs : List Value} (h : wi.ownsRow B e size v m xs) (hf : Frm fp wi w') (hfp : ∀ k ∈ fp, k < B) : w'.ownsRow B e size v m xs := ownsB_frm h hf (fun k hk hm => by have := (h.lt k hk).1; have := hfp k hm; omega)
theorem arcC_app (l : List (Value × RA)) (p : Value × RA) : rowC (l ++ [p]) = rowC l ++ arcC p := by simp [rowC]
/-- One arc more, and its row's slice put anew. -/
theorem MS.app (h : MS B tb N w wi r n b g done v l rest) {wj w7 : World} {p : Value × RA} {v' : Value} (hj : Frm [] wi wj) (own7 : w7.ownsRow (g + 1) 47 6 v' (l.length + 1) (rowC l ++ arcC p)) (hf : Frm v.ownBlock.toList wj w7)
    (hloc : ∀ k, v'.ownBlock = some k → v.ownBlock = some k ∨ k = wj.heap.size) (hn : NotAt wi (tb :: w.heap.size :: b :: v.ownBlock.toList) p.1 p.2) : MS B tb N w (w7.setCell ⟨b, done.length, none⟩ v') r n b g done v' (l ++ [p]) rest := by
  have h1 := h.bx.lt
  have h2 := h.o1
  have h3 := h.o2
  have h4 := h.bx.le
  have hob : ∀ k ∈ v.ownBlock.toList, g < k := fun k hk => by have := (h.own.lt k (Option.mem_toList.1 hk)).1; omega
  have hr7 : RowAt w7 b 49 (done.map (·.1) ++ v :: List.replicate rest nilV) := (h.row.frm hj (by simp)).frm hf (fun hm => by have := hob _ hm; omega)
  have hF1 : Frm v.ownBlock.toList wi w7 := (hj.mono (by simp)).trans hf (fun x hx => .inl hx)
  have hF : Frm (b :: v.ownBlock.toList) wi (w7.setCell ⟨b, done.length, none⟩ v') := (hF1.mono (fun x hx => List.mem_cons_of_mem _ hx)).setCell (.inl (by simp)) _
  have hin : ∀ k ∈ b :: v.ownBlock.toList, k ∈ tb :: w.heap.size :: b :: v.ownBlock.toList ∨ wi.heap.size ≤ k := fun k hk => .inl (List.mem_cons_of_mem _ (List.mem_cons_of_mem _ hk))
  have hin2 : ∀ k ∈ tb :: w.heap.size :: b :: v'.ownBlock.toList, k ∈ tb :: w.heap.size :: b :: v.ownBlock.toList ∨ wi.heap.size ≤ k := fun k hk => by
    simp only [List.mem_cons] at hk
    rcases hk with rfl | rfl | rfl | hk
    · simp
    · simp
    · simp
    · rcases hloc k (Option.mem_toList.1 hk) with h9 | h9
      · exact .inl (by simp [h9])
      · exact .inr (by rw [h9]; exact hj.size)
  have hb' : ∀ k ∈ b :: v.ownBlock.toList, w.heap.size < k := fun k hk => by
    rcases List.mem_cons.1 hk with rfl | hk
    · exact h2
    · have := hob k hk; omega
  refine ⟨⟨h.bx.row.frm hF (fun hm => by rcases List.mem_cons.1 hm with h9 | h9; omega; have := hob _ h9; omega), h.bx.frm.trans hF (fun x hx => .inr (Nat.le_of_lt (hb' x hx))), h.bx.tape.frm hF (fun k hk => by have := hb' k hk; omega) (fun hm => by have := hb' _ hm; omega), h.bx.le, h.bx.lt, h.bx.fresh⟩,
    h.res.frm hF (fun hm => by have := hb' _ hm; omega), h.o1, h.o2, h.nle, h.len, ?_, fun q hq => (h.dn q hq).step hF hin hin2, ?_, fun q hq => ?_⟩
  · have := hr7.setCell done.length v'
    rw [List.set_append_right _ _ (by simp)] at this
    simpa using this
  · rw [arcC_app, List.length_append]
    exact ownsB_other own7 (by show b < g + 1; omega) v'
  · rcases List.mem_append.1 hq with hq | hq
    · exact RowV.step (h.nots q hq) hF hin hin2
    · obtain rfl : q = p := by simpa using hq
      exact RowV.step hn hF hin hin2
/-- The last arc taken back. -/
theorem MS.pop {a : Option Addr} {c : Nat} {p : Value × RA} (h : MS B tb N w wi r n b g done (.slice a (l.length + 1) c) (l ++ [p]) rest) : MS B tb N w (wi.setCell ⟨b, done.length, none⟩ (.slice a l.length c)) r n b g done (.slice a l.length c) l rest := by
  have h1 := h.bx.lt
  have h2 := h.o1
  have h3 := h.o2
  have h4 := h.bx.le
  have hF : Frm [b] wi (wi.setCell ⟨b, done.length, none⟩ (.slice a l.length c)) := (Frm.refl _ wi).setCell (.inl (by simp)) _
  have hown := h.own
  obtain ⟨g9, cp, e9, hB9, hcap, hmax, hrow⟩ := ownsB_some hown (by simp)
  obtain ⟨rfl, rfl⟩ : a = some ⟨g9, 0, none⟩ ∧ c = cp := by simpa using e9
  have hin : ∀ k ∈ [b], k ∈ tb :: w.heap.size :: b :: (Value.slice (some ⟨g9, 0, none⟩) (l.length + 1) c).ownBlock.toList ∨ wi.heap.size ≤ k := fun k hk => .inl (by simp at hk; simp [hk])
  refine ⟨⟨h.bx.row.frm hF (by simp; omega), h.bx.frm.trans hF (fun x hx => .inr (by simp at hx; omega)), h.bx.tape.frm hF (by simp; omega) (by simp; omega), h.bx.le, h.bx.lt, h.bx.fresh⟩,
    h.res.frm hF (by simp; omega), h.o1, h.o2, h.nle, h.len, ?_, fun q hq => (h.dn q hq).step hF hin (fun k hk => .inl hk), ?_, fun q hq => RowV.step (h.nots q (List.mem_append_left _ hq)) hF hin (fun k hk => .inl hk)⟩
  · have := h.row.setCell done.length (.slice (some ⟨g9, 0, none⟩) l.length c)
    rw [List.set_append_right _ _ (by simp)] at this
    simpa using this
  · refine ownsB_other (p := ⟨b, done.length, none⟩) ?_ (by show b < g + 1; omega) _
    refine ⟨by rw [rowC_len], ?_⟩
    rcases hown.2 with ⟨h0, _⟩ | ⟨g', cap', cur, h0, hb, hg, e1, e2, e3, e4⟩
    · cases h0
    · obtain ⟨rfl, rfl⟩ : g9 = g' ∧ c = cap' := by simpa using h0
      refine .inr ⟨g9, c, cur, rfl, hb, hg, by simp at hcap; omega, e2, e3, ?_⟩
      have := congrArg (List.take (l.length * 6)) e4
      rw [List.take_take, arcC_app, List.take_left' (rowC_len l)] at this
      rw [← this]
      congr 1
      simp
end
/-- append(s, y...) as one step of a region that draws; it says where the new row lies. -/
theorem step_app_rowL {w : World} {ops : Array Oper} {o : Oper} {a : Act} {K : Act → World → Prop} {Q : Exit → Act → World → Prop} {E : Prop} (hgd : o.guard = none) (s x : Operand) (t e : TypeId) (z : Value) (size bytes : Nat)
    (ho : o.op = .call { callee := .builtin .append, args := #[s, x], argTypes := #[t, t] }) (ht : Tryz.prog.underlying t = some (.slice e))
    (hinfo : (Tryz.prog.info? e).map (fun i => (i.zero, i.size, i.bytes)) = some (some z, size, bytes)) (hzs : z.cells.size = size) (hsz : 0 < size) (hby : bytes ≤ 1000)
    (B n : Nat) (v : Value) (xs : List Value) (hs : a.eval s = v) (hown : w.ownsRow B e size v n xs) (u : Value) (m : Nat) (ys : List Value) (F : List Nat) (hx : a.eval x = u) (hy : RowV w F u m size ys) (h1 : ∀ u ∈ ys, u.oneCell' = true)
    (N : Nat) (hN : n + m = N) (hb : N ≤ 100000000) (hB : B ≤ w.heap.size)
    (h : ∀ a' cp w', w'.ownsRow B e size (.slice a' N cp) N (xs ++ ys) → Frm v.ownBlock.toList w w' → (∀ k, (Value.slice a' N cp).ownBlock = some k → v.ownBlock = some k ∨ k = w.heap.size) → K (a.put o.dst (.slice a' N cp)) w') :
    if Region.wanted o (yielded ops a.tmps) = true then Oper.wp Tryz.prog o a w K Q else E := by
  have hw : Region.wanted o (yielded ops a.tmps) = true := by simp [Region.wanted, hgd]
  rw [if_pos hw]
  obtain ⟨i0, hi, hz0, hz1, hz2⟩ := info_parts hinfo
  obtain ⟨hl, ad, c, rfl, hmc, hcm, hnil, hcell⟩ := hy
  subst hN
  cases ad with
  | none =>
    have h0 := hnil rfl
    subst h0
    have hm : m = 0 := by omega
    subst hm
    have hys : ys = [] := List.eq_nil_of_length_eq_zero (by rw [hl, Nat.zero_mul])
    subst hys
    obtain ⟨a', cp, rfl, _⟩ := owns_shape (ownsB_mono hown (Nat.zero_le _))
    have hrun := run_append_owned_none (P := Tryz.prog) (w := w) B t o.type e i0 size ht hi _ n xs hown
    unfold Oper.wp
    simp [execOp, ho, resolve, invoke, builtin, hs, hx, hrun, Result.andThen]
    exact h a' cp w (by rw [List.append_nil]; exact hown) (Frm.refl _ _) (fun k hk => .inl hk)
  | some p =>
    obtain ⟨v', w', hr, hown', hgr, _, hloc⟩ := run_append_own_at (P := Tryz.prog) w B t o.type e i0 z size bytes ht hi hz0 hz1 hz2 hzs hsz v n xs hown p m c ys hl (fun j u hj => by
      obtain ⟨b, o', e9, _, _, hc⟩ := hcell j u hj
      cases e9
      rw [Addr.add_lit]
      exact hc) h1 (by unfold maxLen; omega) (by calc (n + m) * bytes ≤ 100000000 * 1000 := Nat.mul_le_mul hb hby
      _ ≤ _ := by decide) hB
    unfold Oper.wp execOp
    simp only [ho, resolve, invoke, builtin, Sem.run_bind, Sem.run_pure, Result.andThen_ok, List.map_toArray, List.map_cons, List.map_nil, hs, hx, hr]
    obtain ⟨a', cp, rfl, _⟩ := owns_shape (ownsB_mono hown' (Nat.zero_le _))
    refine h a' cp w' hown' ((Frm.refl _ _).grown hgr (fun k hk => .inl (by simp [hk]))) (fun k hk => ?_)
    rcases hloc with h9 | h9
    · exact .inl (by rw [← h9]; exact hk)
    · rw [h9] at hk
      exact .inr (by simpa using hk.symm)

theorem infoAr2 : (Tryz.prog.info? 49).map (fun i => (i.zero, i.size, i.bytes)) = some (some (.slice none 0 0), 1, 24) := by kernel_rfl
theorem infoArc : (Tryz.prog.info? 47).map (fun i => (i.zero, i.size, i.bytes)) = some (some (.agg #[.int .i64 0, .int .i64 0, .int .i64 0, .int .i64 0, .slice none 0 0, .int .i64 0]), 6, 64) := by kernel_rfl
theorem wpl_make_rows (w : World) {ops : Array Oper} {rest : List Oper} {o : Oper} {a : Act} {Q : Exit → Act → World → Prop}
    (hg : o.guard = none) (l : Operand) (hop : o.op = Op.makeSlice 28 l l) (L : Int) (n : Nat) (hl : a.eval l = .int .i64 L) (hL : L = (n : Int)) (hn : n ≤ 1000000)
    (hK : ∀ w', w'.ownsRow w.heap.size 49 1 (.slice (some ⟨w.heap.size, 0, none⟩) n n) n (List.replicate n nilV) → Frm [] w w' → wpList Tryz.prog ops Q rest (a.put o.dst (.slice (some ⟨w.heap.size, 0, none⟩) n n)) w') :
    wpList Tryz.prog ops Q (o :: rest) a w := by
  obtain ⟨i0, hi, hz0, hz1, hz2⟩ := info_parts infoAr2
  refine wpList_make_full w hg l l 28 hop w.heap.size 49 i0 (.slice none 0 0) 1 Tryz.underlying28 hi hz0 hz1 .i64 .i64 L L n hl hl hL hL (by rw [hz2]; omega) (by unfold maxLen; omega) (Nat.le_refl _) ?_
  intro w' hown hgr
  have hm : (madeCells (Value.slice none 0 0).cells (n * 1)).toList = List.replicate n nilV := by
    rw [Nat.mul_one]
    exact toList_madeCells_one _ _
  rw [hm] at hown
  exact hK w' hown ((Frm.refl [] w).grown hgr (by simp))
def arcOk (r n : Nat) (a : RA) : Prop := ∀ st : List (List RA), st.length = n → arcB ⟨r, 2, 1, st⟩ a = true
def rowsM (done : List (Value × List RA)) (row : List RA) (rest : Nat) : List (List RA) := done.map (·.2) ++ row :: List.replicate rest []
theorem MS.states {B tb N r n b g rest : Nat} {w wi : World} {done : List (Value × List RA)} {v : Value} {l : List (Value × RA)} (h : MS B tb N w wi r n b g done v l rest) : StatesAt wi [tb, w.heap.size] (.slice (some ⟨b, 0, none⟩) n n) (rowsM done (l.map (·.2)) rest) := by
  have := h.close.states
  simpa [rowsM] using this
theorem rowsM_open (done : List (Value × List RA)) (rest : Nat) : rowsM done [] rest = done.map (·.2) ++ List.replicate (rest + 1) [] := rfl
theorem rowsM_close (done : List (Value × List RA)) (v : Value) (row : List RA) (rest : Nat) : (done ++ [(v, row)]).map (·.2) ++ List.replicate rest [] = rowsM done row rest := by simp [rowsM]
theorem valid_mk {r n : Nat} {st : List (List RA)} (hr : r ≤ 2) (h1 : 1 ≤ n) (h3 : n ≤ 3) (hl : st.length = n) (h : ∀ row ∈ st, row.length ≤ 3 ∧ ∀ a ∈ row, arcOk r n a) : validM ⟨r, 2, 1, st⟩ = true := by
  have hall : st.all (fun r' => decide (r'.length ≤ 16) && r'.all (arcB ⟨r, 2, 1, st⟩)) = true := by
    rw [List.all_eq_true]
    intro row hrow
    obtain ⟨e1, e2⟩ := h row hrow
    rw [Bool.and_eq_true, decide_eq_true_eq, List.all_eq_true]
    exact ⟨by omega, fun a ha => e2 a ha st hl⟩
  simp only [validM, hall, belowB, hl, Bool.and_true, Bool.and_eq_true, decide_eq_true_eq]
  omega
theorem norm_start {r n : Nat} (hr : r ≤ 2) (h1 : 1 ≤ n) (h3 : n ≤ 3) : NormM ⟨r, 2, 1, List.replicate n []⟩ := by
  refine ⟨valid_mk hr h1 h3 (by simp) (fun row hrow => ?_), fun row hrow => ?_⟩
  · rw [List.eq_of_mem_replicate hrow]; simp
  · rw [List.eq_of_mem_replicate hrow]; simp [NormP]
/-- What machine answers. -/
structure DrawnM (norm : Bool) (m : RM) : Prop where
  regs : 0 ≤ m.regs ∧ m.regs ≤ 2
  data : m.data = 2
  plain : m.plain = 1
  few : 1 ≤ m.states.length ∧ m.states.length ≤ 3
  valid : validM m = true
  normal : norm = true → NormM m
  full : norm = false → ∀ row ∈ m.states, row ≠ []
  short : ∀ row ∈ m.states, row.length ≤ 3
def MachEnd (B tb N : Nat) (w : World) (norm : Bool) (e : Ending) (w' : World) : Prop :=
  ∃ m sv, e = .returned (machV m sv) ∧ StatesAt w' [tb] sv m.states ∧ DrawnM norm m ∧ TapeOk B w' tb (N + 100) ∧ Frm [tb] w w'
end Go.Proofs.YtdknbgejhhoaiaaGreat.Ind

/- A machine with one row put anew: what lies in memory while change makes it. -/
namespace Go.Proofs.YtdknbgejhhoaiaaGreat.Ind
open Go.Shelf Go.RowKit Go.Lib

/-- The copy of a machine: its box q, its row of rows at block g. -/
structure CS (F : List Nat) (B tb N : Nat) (w wi : World) (m : RM) (n q g c : Nat) (vs : List (Value × List RA)) : Prop where
  bx : Bx B tb N w wi 30 q [.int .i64 m.regs, .int .i64 m.data, .int .i64 m.plain, .slice (some ⟨g, 0, none⟩) n c]
  res : RowAt wi (w.heap.size + 1) 30 mZero.toList
  inp : wi.cell? ⟨w.heap.size, 0, none⟩ = some (.int .i64 m.regs)
  o1 : w.heap.size + 1 < q
  o2 : q < g
  nle : n ≤ 3
  len : vs.length = n
  cap : n ≤ c
  max : c ≤ maxLen
  row : RowAt wi g 49 (vs.map (·.1))
  tbF : tb ∈ F
  low : ∀ k ∈ F, k < w.heap.size
  rows : ∀ p ∈ vs, ∀ F' : List Nat, (∀ k ∈ F', k ∈ F ∨ w.heap.size ≤ k) → ArcsAt wi F' p.1 p.2
/-- A row of arcs that the call owns, in a block behind g. -/
structure RS (G : List Nat) (g : Nat) (wi : World) (v : Value) (l : List (Value × RA)) : Prop where
  own : wi.ownsRow (g + 1) 47 6 v l.length (rowC l)
  nots : ∀ p ∈ l, NotAt wi (G ++ v.ownBlock.toList) p.1 p.2
theorem rowC_set {l : List (Value × RA)} {i : Nat} (hi : i < l.length) (p : Value × RA) : (((((((rowC l).set (i * 6) (.int .i64 p.2.kind)).set (i * 6 + 1) (.int .i64 p.2.ch)).set (i * 6 + 2) (.int .i64 p.2.reg)).set (i * 6 + 3) (.int .i64 p.2.frm)).set (i * 6 + 4) p.1).set (i * 6 + 5) (.int .i64 p.2.to)) = rowC (l.set i p) := by
  apply List.ext_getElem?
  intro j
  by_cases hj : j < l.length * 6
  · obtain ⟨q, r, hr, rfl⟩ : ∃ q r, r < 6 ∧ j = q * 6 + r := ⟨j / 6, j % 6, Nat.mod_lt _ (by decide), by omega⟩
    have hq : q < l.length := by omega
    have hlen := rowC_len l
    obtain ⟨x, hx⟩ : ∃ x, l[q]? = some x := ⟨_, List.getElem?_eq_getElem hq⟩
    have e1 := rowC_get hx r hr
    by_cases hqi : q = i
    · subst hqi
      have e2 := rowC_get (l := l.set q p) (i := q) (p := p) (by rw [List.getElem?_set_self hi]) r hr
      rw [e2]
      have hr' : r = 0 ∨ r = 1 ∨ r = 2 ∨ r = 3 ∨ r = 4 ∨ r = 5 := by omega
      rcases hr' with rfl | rfl | rfl | rfl | rfl | rfl <;> simp [List.getElem?_set, arcC, hlen] <;> omega
    · have e2 := rowC_get (l := l.set i p) (i := q) (p := x) (by rw [List.getElem?_set_ne (fun h => hqi h.symm)]; exact hx) r hr
      rw [e2, ← e1]
      have n0 : ¬ i * 6 = q * 6 + r := by omega
      have n1 : ¬ i * 6 + 1 = q * 6 + r := by omega
      have n2 : ¬ i * 6 + 2 = q * 6 + r := by omega
      have n3 : ¬ i * 6 + 3 = q * 6 + r := by omega
      have n4 : ¬ i * 6 + 4 = q * 6 + r := by omega
      have n5 : ¬ i * 6 + 5 = q * 6 + r := by omega
      simp [n0, n1, n2, n3, n4, n5]
  · have h1 : (rowC (l.set i p))[j]? = none := List.getElem?_eq_none (by rw [rowC_len, List.length_set]; omega)
    rw [h1]
    exact List.getElem?_eq_none (by simp [rowC_len]; omega)
section
variable {F G : List Nat} {B tb N M n q g c : Nat} {w wi w' : World} {m : RM} {vs : List (Value × List RA)} {v : Value} {l : List (Value × RA)} {fp : List Nat}
/-- Blocks behind g and the tape turn. -/
theorem CS.step (h : CS F B tb N w wi m n q g c vs) (ht : TapeOk B w' tb M) (hf : Frm fp wi w') (hfp : ∀ k ∈ fp, k = tb ∨ g < k) : CS F B tb M w w' m n q g c vs := by
  have h1 := h.bx.lt
  have h2 := h.o1
  have h3 := h.o2
  have hne : ∀ x, w.heap.size ≤ x → x ≤ g → x ∉ fp := fun x e1 e2 hm => by
    rcases hfp x hm with rfl | h9 <;> omega
  refine ⟨⟨h.bx.row.frm hf (hne q (by omega) (by omega)), h.bx.frm.trans hf (fun x hx => ?_), ht, h.bx.le, h.bx.lt, h.bx.fresh⟩, h.res.frm hf (hne _ (by omega) (by omega)), hf.cell h.inp (hne w.heap.size (Nat.le_refl _) (by omega)), h.o1, h.o2, h.nle, h.len, h.cap, h.max, h.row.frm hf (hne _ (by omega) (Nat.le_refl _)), h.tbF, h.low, fun p hp F' hF => ?_⟩
  · rcases hfp x hx with rfl | h9
    · exact .inl (by simp)
    · exact .inr (by omega)
  · exact (h.rows p hp (fp ++ F') (fun k hk => by
      rcases List.mem_append.1 hk with hk | hk
      · rcases hfp k hk with rfl | h9
        · exact .inl h.tbF
        · exact .inr (by omega)
      · exact hF k hk)).step hf (fun k hk => .inl (List.mem_append_left _ hk)) (fun k hk => .inl (List.mem_append_right _ hk))
theorem CS.nil (h : CS F B tb N w wi m n q g c vs) (hf : Frm [] wi w') : CS F B tb N w w' m n q g c vs := h.step (h.bx.tape.nil hf) hf (by simp)
theorem CS.next (h : CS F B tb N w wi m n q g c vs) (ht : TapeOk B w' tb M) (hf : Frm [tb] wi w') : CS F B tb M w w' m n q g c vs := h.step ht hf (by simp)
/-- A row behind g turns. -/
theorem CS.turn (h : CS F B tb N w wi m n q g c vs) (hf : Frm fp wi w') (hfp : ∀ k ∈ fp, g < k) : CS F B tb N w w' m n q g c vs := by
  have h1 := h.bx.lt
  have h2 := h.o1
  have h3 := h.o2
  have h4 := h.bx.le
  exact h.step (h.bx.tape.frm hf (fun k hk => by have := hfp k hk; omega) (fun hm => by have := hfp _ hm; omega)) hf (fun k hk => .inr (hfp k hk))
theorem RS.step (h : RS G g wi v l) (hf : Frm fp wi w') (hfp : ∀ k ∈ fp, k ∈ G ++ v.ownBlock.toList ∨ wi.heap.size ≤ k) (hno : ∀ k ∈ fp, v.ownBlock ≠ some k) : RS G g w' v l :=
  ⟨ownsB_frm h.own hf (fun k hk hm => hno k hm hk), fun p hp => RowV.step (h.nots p hp) hf hfp (fun _ hk => .inl hk)⟩
theorem RS.nil (h : RS G g wi v l) (hf : Frm [] wi w') : RS G g w' v l := h.step hf (by simp) (by simp)
theorem RS.next (h : RS G g wi v l) (hf : Frm [tb] wi w') (hG : tb ∈ G) (ht : tb ≤ g) : RS G g w' v l := h.step hf (fun k hk => .inl (by simp at hk; rw [hk]; exact List.mem_append_left _ hG)) (fun k hk e => by have := (h.own.lt k e).1; simp at hk; omega)
/-- One arc more. -/
theorem RS.app (h : RS G g wi v l) {wj w7 : World} {p : Value × RA} {v' : Value} (hj : Frm [] wi wj) (own7 : w7.ownsRow (g + 1) 47 6 v' (l.length + 1) (rowC l ++ arcC p)) (hf : Frm v.ownBlock.toList wj w7)
    (hloc : ∀ k, v'.ownBlock = some k → v.ownBlock = some k ∨ k = wj.heap.size) (hn : NotAt wi (G ++ v.ownBlock.toList) p.1 p.2) : RS G g w7 v' (l ++ [p]) := by
  have hF : Frm v.ownBlock.toList wi w7 := (hj.mono (by simp)).trans hf (fun x hx => .inl hx)
  have hin : ∀ k ∈ v.ownBlock.toList, k ∈ G ++ v.ownBlock.toList ∨ wi.heap.size ≤ k := fun k hk => .inl (List.mem_append_right _ hk)
  have hin2 : ∀ k ∈ G ++ v'.ownBlock.toList, k ∈ G ++ v.ownBlock.toList ∨ wi.heap.size ≤ k := fun k hk => by
    rcases List.mem_append.1 hk with hk | hk
    · exact .inl (List.mem_append_left _ hk)
    · rcases hloc k (Option.mem_toList.1 hk) with h9 | h9
      · exact .inl (List.mem_append_right _ (by simp [h9]))
      · exact .inr (by rw [h9]; exact hj.size)
  refine ⟨by rw [arcC_app, List.length_append]; exact own7, fun x hx => ?_⟩
  rcases List.mem_append.1 hx with hx | hx
  · exact RowV.step (h.nots x hx) hF hin hin2
  · obtain rfl : x = p := by simpa using hx
    exact RowV.step hn hF hin hin2
def setW (wi : World) (g9 i : Nat) (p : Value × RA) : World := (((((wi.setCell ⟨g9, i * 6, none⟩ (.int .i64 p.2.kind)).setCell ⟨g9, i * 6 + 1, none⟩ (.int .i64 p.2.ch)).setCell ⟨g9, i * 6 + 2, none⟩ (.int .i64 p.2.reg)).setCell ⟨g9, i * 6 + 3, none⟩ (.int .i64 p.2.frm)).setCell ⟨g9, i * 6 + 4, none⟩ p.1).setCell ⟨g9, i * 6 + 5, none⟩ (.int .i64 p.2.to)
theorem setW_frm (wi : World) (g9 i : Nat) (p : Value × RA) : Frm [g9] wi (setW wi g9 i p) := ((((((Frm.refl _ wi).setCell (.inl (by simp)) _).setCell (.inl (by simp)) _).setCell (.inl (by simp)) _).setCell (.inl (by simp)) _).setCell (.inl (by simp)) _).setCell (.inl (by simp)) _
/-- An arc put in place of another. -/
theorem RS.set (h : RS G g wi v l) {g9 i : Nat} (hg : v.ownBlock = some g9) (hi : i < l.length) {p : Value × RA} (hn : NotAt wi (G ++ v.ownBlock.toList) p.1 p.2) : RS G g (setW wi g9 i p) v (l.set i p) := by
  have hF := setW_frm wi g9 i p
  have hin : ∀ k ∈ [g9], k ∈ G ++ v.ownBlock.toList ∨ wi.heap.size ≤ k := fun k hk => .inl (by simp at hk; simp [hk, hg])
  refine ⟨?_, fun x hx => ?_⟩
  · rw [List.length_set, ← rowC_set hi p]
    exact ownsB_setCell (ownsB_setCell (ownsB_setCell (ownsB_setCell (ownsB_setCell (ownsB_setCell h.own hg _ _) hg _ _) hg _ _) hg _ _) hg _ _) hg _ _
  · rcases List.mem_or_eq_of_mem_set hx with hx | rfl
    · exact RowV.step (h.nots x hx) hF hin (fun _ hk => .inl hk)
    · exact RowV.step hn hF hin (fun _ hk => .inl hk)
/-- What change makes of a machine. -/
structure ChangedM (m m' : RM) : Prop where
  regs : m'.regs = m.regs
  data : m'.data = m.data
  plain : m'.plain = m.plain
  len : m'.states.length = m.states.length
  valid : validM m = true → validM m' = true
  short : ∀ row ∈ m'.states, row.length ≤ 4
def ChgEnd (F : List Nat) (B tb N : Nat) (w : World) (m : RM) (e : Ending) (w' : World) : Prop :=
  ∃ (m' : RM) (g c : Nat) (vs : List (Value × List RA)), e = .returned (machV m' (.slice (some ⟨g, 0, none⟩) m'.states.length c)) ∧ vs.map (·.2) = m'.states ∧ RowAt w' g 49 (vs.map (·.1)) ∧ m'.states.length ≤ c ∧ c ≤ maxLen ∧ w.heap.size ≤ g ∧ (∀ p ∈ vs, ArcsAt w' (g :: F) p.1 p.2) ∧ ChangedM m m' ∧ TapeOk B w' tb (N + 20) ∧ Frm [tb] w w'
def Chunk (m : RM) (vs : List (Value × List RA)) (s : Nat) (l : List (Value × RA)) : RM := { m with states := (vs.map (·.2)).set s (l.map (·.2)) }
/-- The row is put in its place; the machine goes into the result's cell. -/
theorem CS.fin {s : Nat} (h : CS F B tb M w wi m n q g c vs) (hr : RS ((w.heap.size + 1) :: q :: g :: F) g wi v l) (hM : M ≤ N + 20) (hn : m.states.length = n) (hch : ChangedM m (Chunk m vs s l)) (w9 : World) (hF : Frm [w.heap.size + 1] (wi.setCell ⟨g, s, none⟩ v) w9) :
    ChgEnd F B tb N w m (.returned (machV (Chunk m vs s l) (.slice (some ⟨g, 0, none⟩) n c))) w9 := by
  have h1 := h.bx.lt
  have h2 := h.o1
  have h3 := h.o2
  have h4 := h.bx.le
  have hlen : (Chunk m vs s l).states.length = n := by rw [hch.len, hn]
  have f1 : Frm [g] wi (wi.setCell ⟨g, s, none⟩ v) := (Frm.refl _ wi).setCell (.inl (by simp)) _
  have f2 : Frm [g, w.heap.size + 1] wi w9 := (f1.mono (by simp)).trans (hF.mono (fq := [g, w.heap.size + 1]) (by simp)) (fun x hx => .inl hx)
  have hrow9 : RowAt w9 g 49 ((vs.map (·.1)).set s v) := (h.row.setCell s v).frm hF (by simp; omega)
  refine ⟨Chunk m vs s l, g, c, vs.set s (v, l.map (·.2)), by rw [hlen], by simp [Chunk, List.map_set], by simpa [List.map_set] using hrow9, by rw [hlen]; exact h.cap, h.max, by omega, fun p hp => ?_, hch, (h.bx.tape.frm f2 (by simp; omega) (by simp; omega)).mono hM, h.bx.frm.trans f2 (fun x hx => .inr (by simp at hx; omega))⟩
  rcases List.mem_or_eq_of_mem_set hp with hp | rfl
  · exact (h.rows p hp (g :: (w.heap.size + 1) :: F) (fun k hk => by
      simp only [List.mem_cons] at hk
      rcases hk with rfl | rfl | hk
      · exact .inr (by omega)
      · exact .inr (by omega)
      · exact .inl hk)).step f2 (fun k hk => .inl (by simp at hk; rcases hk with rfl | rfl <;> simp)) (fun k hk => .inl (by simp at hk; rcases hk with rfl | hk; simp; simp [hk]))
  · have hown := frz_frm (w' := w9) hr.own f2 (by simp; omega)
    refine ⟨l, rfl, ?_, fun x hx => RowV.step (hr.nots x hx) f2 (fun k hk => .inl (by simp at hk; rcases hk with rfl | rfl <;> simp)) (fun k hk => .inl (by simp at hk; rcases hk with rfl | hk; simp; simp [hk]))⟩
    have := rowV_of_owns (F := g :: F) hown (fun k hk e => by
      have h9 := (hown.lt k e).1
      rcases List.mem_cons.1 hk with rfl | hk
      · omega
      · have := h.low k hk; omega)
    simpa using this
theorem ChgEnd.states {e : Ending} (h : ChgEnd F B tb N w m e w') (hlow : ∀ k ∈ F, k < w.heap.size) : ∃ m' sv, e = .returned (machV m' sv) ∧ StatesAt w' F sv m'.states ∧ ChangedM m m' ∧ TapeOk B w' tb (N + 20) ∧ Frm [tb] w w' := by
  obtain ⟨m', g, c, vs, rfl, h1, h2, h3, h4, h5, h6, h7, h8, h9⟩ := h
  have hl : vs.length = m'.states.length := by rw [← h1, List.length_map]
  exact ⟨m', _, rfl, ⟨vs, h1, rowV_cells (size := 1) h2 (by rw [List.length_map, hl, Nat.mul_one]) h3 h4 (fun hm => by have := hlow g hm; omega), fun p hp => (h6 p hp).step (Frm.refl [] w') (by simp) (fun k hk => .inl (List.mem_cons_of_mem _ hk))⟩, h7, h8, h9⟩
end
end Go.Proofs.YtdknbgejhhoaiaaGreat.Ind

/- What lies in memory while spoil breaks a machine. -/
namespace Go.Proofs.YtdknbgejhhoaiaaGreat.Ind
open Go.Shelf Go.RowKit Go.Lib

/-- The changed machine in its box q, its rows at block g. -/
structure SP (B tb N : Nat) (w wi : World) (m : RM) (q g c : Nat) (vs : List (Value × List RA)) : Prop where
  bx : Bx B tb N w wi 30 q (mboxC m (.slice (some ⟨g, 0, none⟩) m.states.length c))
  res : RowAt wi (w.heap.size + 1) 30 mZero.toList
  o1 : w.heap.size + 1 < g
  o2 : g < q
  vl : vs.map (·.2) = m.states
  cap : m.states.length ≤ c
  max : c ≤ maxLen
  row : RowAt wi g 49 (vs.map (·.1))
  rows : ∀ p ∈ vs, ArcsAt wi [q, g, tb, w.heap.size + 1] p.1 p.2
/-- The broken machine, before it goes into the result's cell. -/
structure FN (B tb M : Nat) (w w5 : World) (q : Nat) (m : RM) (sv : Value) : Prop where
  bx : Bx B tb M w w5 30 q (mboxC m sv)
  res : RowAt w5 (w.heap.size + 1) 30 mZero.toList
  lt : w.heap.size + 1 < q
  st : StatesAt w5 [tb, w.heap.size + 1] sv m.states
def SpEnd (B tb N : Nat) (w : World) (e : Ending) (w' : World) : Prop :=
  ∃ m sv, e = .returned (machV m sv) ∧ StatesAt w' [tb] sv m.states ∧ TapeOk B w' tb (N + 40) ∧ Frm [tb] w w'
section
variable {B tb N M q g c : Nat} {w wi w' : World} {m : RM} {vs : List (Value × List RA)}
theorem SP.next (h : SP B tb N w wi m q g c vs) (ht : TapeOk B w' tb M) (hf : Frm [tb] wi w') : SP B tb M w w' m q g c vs :=
  have h1 := h.bx.lt
  have h2 := h.o1
  have h3 := h.o2
  ⟨h.bx.step ht hf, h.res.frm hf (by simp; omega), h.o1, h.o2, h.vl, h.cap, h.max, h.row.frm hf (by simp; omega), fun p hp => (h.rows p hp).step hf (by simp) (fun k hk => .inl hk)⟩
theorem SP.nil (h : SP B tb N w wi m q g c vs) (hf : Frm [] wi w') : SP B tb N w w' m q g c vs := h.next (h.bx.tape.nil hf) (hf.mono (by simp))
theorem SP.states (h : SP B tb N w wi m q g c vs) : StatesAt wi [q, tb, w.heap.size + 1] (.slice (some ⟨g, 0, none⟩) m.states.length c) m.states := by
  have h1 := h.bx.lt
  have h2 := h.o1
  have h3 := h.o2
  have hl : vs.length = m.states.length := by rw [← h.vl, List.length_map]
  exact ⟨vs, h.vl, rowV_cells (size := 1) h.row (by rw [List.length_map, hl, Nat.mul_one]) h.cap h.max (by simp; omega), fun p hp => (h.rows p hp).step (Frm.refl [] wi) (by simp) (fun k hk => .inl (by simp at hk ⊢; omega))⟩
/-- A field of the box is put. -/
theorem SP.field (h : SP B tb N w wi m q g c vs) (i : Nat) (u : Value) (m2 : RM) (sv : Value) (he : (mboxC m (.slice (some ⟨g, 0, none⟩) m.states.length c)).set i u = mboxC m2 sv) (hs : StatesAt (wi.setCell ⟨q, i, none⟩ u) [tb, w.heap.size + 1] sv m2.states) :
    FN B tb N w (wi.setCell ⟨q, i, none⟩ u) q m2 sv :=
  have h1 := h.bx.lt
  have h2 := h.o1
  have h3 := h.o2
  ⟨by have := h.bx.set i u; rw [he] at this; exact this, h.res.other u (by simp; omega), by omega, hs⟩
theorem SP.kept (h : SP B tb N w wi m q g c vs) (i : Nat) (u : Value) : StatesAt (wi.setCell ⟨q, i, none⟩ u) [tb, w.heap.size + 1] (.slice (some ⟨g, 0, none⟩) m.states.length c) m.states :=
  h.states.step (fp := [q]) ((Frm.refl _ wi).setCell (.inl (by simp)) _) (fun k hk => .inl (by simp at hk; simp [hk])) (fun k hk => .inl (by simp at hk ⊢; omega))
/-- A row is put anew, one arc longer. -/
theorem SP.put {s e : Nat} {v : Value} {l0 : List (Value × RA)} {p : Value × RA} {w8 : World} (h : SP B tb N w wi m q g c vs) (hf : Frm [] wi w8) (own : w8.ownsRow e 47 6 v (l0.length + 1) (rowC l0 ++ arcC p)) (he : q < e)
    (hl0 : ∀ x ∈ l0, NotAt wi [q, g, tb, w.heap.size + 1] x.1 x.2) (hn : NotAt w8 [g, tb, w.heap.size + 1] p.1 p.2) : FN B tb N w (w8.setCell ⟨g, s, none⟩ v) q { m with states := m.states.set s ((l0 ++ [p]).map (·.2)) } (.slice (some ⟨g, 0, none⟩) m.states.length c) := by
  have h1 := h.bx.lt
  have h2 := h.o1
  have h3 := h.o2
  have h4 := h.bx.le
  have hl : vs.length = m.states.length := by rw [← h.vl, List.length_map]
  have f1 : Frm [g] w8 (w8.setCell ⟨g, s, none⟩ v) := (Frm.refl _ w8).setCell (.inl (by simp)) _
  have f2 : Frm [g] wi (w8.setCell ⟨g, s, none⟩ v) := (hf.mono (by simp)).trans f1 (fun x hx => .inl hx)
  have hrow : RowAt (w8.setCell ⟨g, s, none⟩ v) g 49 ((vs.map (·.1)).set s v) := (h.row.frm hf (by simp)).setCell s v
  refine ⟨⟨h.bx.row.frm f2 (by simp; omega), h.bx.frm.trans f2 (fun x hx => .inr (by simp at hx; omega)), h.bx.tape.frm f2 (by simp; omega) (by simp; omega), h.bx.le, h.bx.lt, h.bx.fresh⟩, h.res.frm f2 (by simp; omega), by omega, ?_⟩
  refine ⟨vs.set s (v, (l0 ++ [p]).map (·.2)), by simp only [List.map_set, h.vl], ⟨by simp [hl], _, _, by simp, by simp; exact h.cap, h.max, (fun h => by cases h), fun i u hu => ⟨g, 0, rfl, by simp; omega, hrow.lt, ?_⟩⟩, fun x hx => ?_⟩
  · rw [Nat.zero_add]
    exact hrow.cell (by simpa [List.map_set] using hu)
  · rcases List.mem_or_eq_of_mem_set hx with hx | rfl
    · exact (h.rows x hx).step f2 (fun k hk => .inl (by simp at hk; simp [hk])) (fun k hk => .inl (by simp at hk ⊢; omega))
    · have own2 : (w8.setCell ⟨g, s, none⟩ v).ownsRow e 47 6 v (l0.length + 1) (rowC l0 ++ arcC p) := ownsB_other own (p := ⟨g, s, none⟩) (by show g < e; omega) v
      refine ⟨l0 ++ [p], rfl, ?_, fun y hy => ?_⟩
      · have := rowV_of_owns (F := [tb, w.heap.size + 1]) own2 (fun k hk e' => by have := (own2.lt k e').1; simp at hk; omega)
        rw [arcC_app]
        simpa using this
      · rcases List.mem_append.1 hy with hy | hy
        · exact RowV.step (hl0 y hy) f2 (fun k hk => .inl (by simp at hk; simp [hk])) (fun k hk => .inl (by simp at hk ⊢; omega))
        · obtain rfl : y = p := by simpa using hy
          exact RowV.step hn f1 (fun k hk => .inl (by simp at hk; simp [hk])) (fun k hk => .inl (by simp at hk ⊢; omega))
theorem FN.fin {sv : Value} {w5 w9 : World} (h : FN B tb M w w5 q m sv) (hM : M ≤ N + 40) (hF : Frm [w.heap.size + 1] w5 w9) : SpEnd B tb N w (.returned (machV m sv)) w9 := by
  have h1 := h.bx.lt
  have h2 := h.lt
  have h4 := h.bx.le
  exact ⟨m, sv, rfl, h.st.step hF (fun k hk => .inl (by simp at hk; simp [hk])) (fun k hk => .inl (by simp at hk; simp [hk])), (h.bx.tape.frm hF (by simp; omega) (by simp; omega)).mono hM, h.bx.frm.trans hF (fun x hx => .inr (by simp at hx; omega))⟩
end
end Go.Proofs.YtdknbgejhhoaiaaGreat.Ind
