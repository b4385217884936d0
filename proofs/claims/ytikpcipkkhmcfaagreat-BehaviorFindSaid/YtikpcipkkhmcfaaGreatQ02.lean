/- Texts RW, I0, I1, I2, I4, U0, V0, V1. -/
import Derived.Test.YtikpcipkkhmcfaaGreatQ01
import Derived.Maps.AppendAt
import Derived.Laws.AppendOwnNone
/- Rows that are only read, rows of the call's own, appends: general, of no program's part. (Cut from the disk's E2, E5, E7, E9, EA, EE.) -/
namespace Go.Proofs.YtikpcipkkhmcfaaGreat
open Go.RowKit

/-- A row of n elements of 'size' cells that is only read; its block is none of F. -/
def RowV (w : World) (F : List Nat) (v : Value) (n size : Nat) (xs : List Value) : Prop :=
  xs.length = n * size ∧ ∃ a c, v = .slice a n c ∧ n ≤ c ∧ c ≤ maxLen ∧ (a = none → c = 0) ∧ ∀ (i : Nat) (u : Value), xs[i]? = some u → ∃ b o, a = some ⟨b, o, none⟩ ∧ b ∉ F ∧ b < w.heap.size ∧ w.cell? ⟨b, o + i, none⟩ = some u
theorem RowV.step {w w' : World} {F F' : List Nat} {v : Value} {n size : Nat} {xs : List Value} {fp : List Nat} (h : RowV w F v n size xs) (hf : Frm fp w w') (hn : ∀ k ∈ fp, k ∈ F ∨ w.heap.size ≤ k) (hF : ∀ k ∈ F', k ∈ F ∨ w.heap.size ≤ k) : RowV w' F' v n size xs := by
  obtain ⟨h1, a, c, e, h2, h3, h5, h4⟩ := h
  refine ⟨h1, a, c, e, h2, h3, h5, fun i u hu => ?_⟩
  obtain ⟨b, o, e2, hb, hl, hc⟩ := h4 i u hu
  refine ⟨b, o, e2, fun hm => ?_, Nat.lt_of_lt_of_le hl hf.size, hf.cell hc (fun hm => ?_)⟩
  · rcases hF b hm with h9 | h9
    · exact hb h9
    · omega
  · rcases hn _ hm with h9 | h9
    · exact hb h9
    · simp at h9; omega
theorem RowV.frm {w w' : World} {F : List Nat} {v : Value} {n size : Nat} {xs : List Value} {fp : List Nat} (h : RowV w F v n size xs) (hf : Frm fp w w') (hn : ∀ k ∈ fp, k ∈ F ∨ w.heap.size ≤ k) : RowV w' F v n size xs := h.step hf hn (fun _ hk => .inl hk)
theorem RowV.nil {w w' : World} {F : List Nat} {v : Value} {n size : Nat} {xs : List Value} (h : RowV w F v n size xs) (hf : Frm [] w w') : RowV w' F v n size xs := h.frm hf (by simp)
theorem RowV.less {w : World} {F F' : List Nat} {v : Value} {n size : Nat} {xs : List Value} (h : RowV w F v n size xs) (hF : ∀ k ∈ F', k ∈ F) : RowV w F' v n size xs := h.step (Frm.refl [] w) (by simp) (fun k hk => .inl (hF k hk))
/-- A row that has just been made is a row to be read. -/
theorem rowV_of_owns {w : World} {B e n size : Nat} {v : Value} {xs : List Value} {F : List Nat} (h : w.ownsRow B e size v n xs) (hF : ∀ k ∈ F, v.ownBlock ≠ some k) : RowV w F v n size xs := by
  refine ⟨h.1, ?_⟩
  rcases h.2 with ⟨rfl, rfl⟩ | ⟨g, cap, cur, rfl, _, hg, h1, h2, h3, h4⟩
  · refine ⟨none, 0, rfl, Nat.le_refl _, Nat.zero_le _, fun _ => rfl, fun i u hu => ?_⟩
    have hx : xs = [] := List.eq_nil_of_length_eq_zero (by have := h.1; simpa using this)
    rw [hx] at hu
    simp at hu
  · refine ⟨some ⟨g, 0, none⟩, cap, rfl, h1, h2, (fun h => by cases h), fun i u hu => ⟨g, 0, rfl, fun hm => hF g hm rfl, (Array.getElem?_eq_some_iff.1 hg).1, ?_⟩⟩
    rw [Nat.zero_add]
    exact RowAt.cell (xs := xs) (e := e) ⟨cur, hg, by rw [h.1]; exact h4⟩ hu
theorem frm_own {w w1 w2 : World} {B e n size : Nat} {v : Value} {xs : List Value} (h : Frm [] w w1) (ho : w1.ownsRow B e size v n xs) (hB : w.heap.size ≤ B) (hf : Frm v.ownBlock.toList w1 w2) : Frm [] w w2 :=
  h.trans hf (fun x hx => .inr (Nat.le_trans hB (ho.lt x (by simpa using hx)).1))
/-- append(s, y...): s is a row of the call's own, y a row that is read. -/
theorem app_row {w : World} {ops : Array Oper} {rest : List Oper} {o : Oper} {a : Act} {Q : Exit → Act → World → Prop} (hgd : o.guard = none) (s x : Operand) (t e : TypeId) (z : Value) (size bytes : Nat)
    (ho : o.op = .call { callee := .builtin .append, args := #[s, x], argTypes := #[t, t] }) (ht : Tryz.prog.underlying t = some (.slice e))
    (hinfo : (Tryz.prog.info? e).map (fun i => (i.zero, i.size, i.bytes)) = some (some z, size, bytes)) (hzs : z.cells.size = size) (hsz : 0 < size) (hby : bytes ≤ 1000)
    (B n : Nat) (v : Value) (xs : List Value) (hs : a.eval s = v) (hown : w.ownsRow B e size v n xs) (u : Value) (m : Nat) (ys : List Value) (F : List Nat) (hx : a.eval x = u) (hy : RowV w F u m size ys) (h1 : ∀ u ∈ ys, u.oneCell' = true)
    (N : Nat) (hN : n + m = N) (hb : N ≤ 100000000) (hB : B ≤ w.heap.size)
    (h : ∀ a' cp w', w'.ownsRow B e size (.slice a' N cp) N (xs ++ ys) → Frm v.ownBlock.toList w w' → (∀ k, (Value.slice a' N cp).ownBlock = some k → v.ownBlock = some k ∨ k = w.heap.size) → wpList Tryz.prog ops Q rest (a.put o.dst (.slice a' N cp)) w') : wpList Tryz.prog ops Q (o :: rest) a w := by
  obtain ⟨i0, hi, hz0, hz1, hz2⟩ := info_parts hinfo
  obtain ⟨hl, ad, c, rfl, hmc, hcm, hnil, hcell⟩ := hy
  subst hN
  cases ad with
  | none =>
    have h0 := hnil rfl
    subst h0
    have hm : m = 0 := by omega
    subst hm
    have hys : ys = [] := List.eq_nil_of_length_eq_zero (by rw [hl, Nat.zero_mul])
    subst hys
    obtain ⟨a', cp, rfl, _⟩ := owns_shape (ownsB_mono hown (Nat.zero_le _))
    refine wpList_append_own_none hgd s x t ho B e i0 size ht hi _ n xs hs hown hx ?_
    exact h a' cp w (by rw [List.append_nil]; exact hown) (Frm.refl _ _) (fun k hk => .inl hk)
  | some p =>
    refine Go.wpList_append_own_at w hgd s x t ho B e i0 z size bytes ht hi hz0 hz1 hz2 hzs hsz v n xs hs hown p m c ys hx hl (fun j u hj => ?_) h1 (by unfold maxLen; omega) (by calc (n + m) * bytes ≤ 100000000 * 1000 := Nat.mul_le_mul hb hby
      _ ≤ _ := by decide) hB ?_
    · obtain ⟨b, o', e9, _, _, hc⟩ := hcell j u hj
      cases e9
      rw [Addr.add_lit]
      exact hc
    · intro v' w' hown' hgr _ hloc
      obtain ⟨a', cp, rfl, _⟩ := owns_shape (ownsB_mono hown' (Nat.zero_le _))
      refine h a' cp w' hown' ((Frm.refl _ _).grown hgr (fun k hk => .inl (by simp [hk]))) (fun k hk => ?_)
      rcases hloc with h9 | h9
      · exact .inl (by rw [← h9]; exact hk)
      · rw [h9] at hk
        exact .inr (by simpa using hk.symm)

/-- Parts of a row. -/
theorem RowV.init {w : World} {F : List Nat} {a : Addr} {n c size : Nat} {xs : List Value} (h : RowV w F (.slice (some a) n c) n size xs) {k : Nat} (hk : k ≤ n) : RowV w F (.slice (some a) k c) k size (xs.take (k * size)) := by
  obtain ⟨h1, a, c', e, h2, h3, h5, h4⟩ := h
  cases e
  refine ⟨?_, _, _, rfl, Nat.le_trans hk h2, h3, (fun h => by cases h), fun j u hj => ?_⟩
  · rw [List.length_take, h1]
    exact Nat.min_eq_left (Nat.mul_le_mul_right _ hk)
  · rw [List.getElem?_take] at hj
    split at hj
    · exact h4 _ _ hj
    · cases hj
theorem RowV.tail {w : World} {F : List Nat} {b n c size : Nat} {xs : List Value} (h : RowV w F (.slice (some ⟨b, 0, none⟩) n c) n size xs) (k : Nat) : RowV w F (.slice (some ⟨b, k * size, none⟩) (n - k) (c - k)) (n - k) size (xs.drop (k * size)) := by
  obtain ⟨h1, a, c', e, h2, h3, h5, h4⟩ := h
  cases e
  refine ⟨?_, _, _, rfl, Nat.sub_le_sub_right h2 _, Nat.le_trans (Nat.sub_le _ _) h3, (fun h => by cases h), fun j u hj => ?_⟩
  · rw [List.length_drop, h1, ← Nat.sub_mul]
  · rw [List.getElem?_drop] at hj
    obtain ⟨b', o, e9, hb, hl, hc⟩ := h4 _ _ hj
    cases e9
    rw [Nat.zero_add] at hc
    exact ⟨b, k * size, rfl, hb, hl, hc⟩
theorem RowV.zero (w : World) (F : List Nat) (p : Addr) (n c size : Nat) (hn : n = 0) (hc : c ≤ maxLen) : RowV w F (.slice (some p) n c) n size [] := ⟨by rw [hn, Nat.zero_mul]; rfl, some p, c, rfl, by omega, hc, (fun h => by cases h), fun i u hu => by simp at hu⟩
theorem RowV.nil0 (w : World) (F : List Nat) (size : Nat) : RowV w F (.slice none 0 0) 0 size [] := ⟨(Nat.zero_mul _).symm, none, 0, rfl, Nat.le_refl _, Nat.zero_le _, fun _ => rfl, fun i u hu => by simp at hu⟩
theorem owns_made0 (w : World) (e : TypeId) (size : Nat) : (w.alloc (.cells #[] e)).ownsRow w.heap.size e size (.slice (some ⟨w.heap.size, 0, none⟩) 0 0) 0 [] :=
  ⟨(Nat.zero_mul _).symm, .inr ⟨w.heap.size, 0, #[], rfl, Nat.le_refl _, heap_alloc_new w _, Nat.le_refl _, Nat.zero_le _, (Nat.zero_mul _).symm, by simp⟩⟩
theorem row_made1 (w : World) (o : Obj) (e : TypeId) (xs : List Value) (A : Array Value) (hA : A.toList.take xs.length = xs) : RowAt ((w.alloc o).alloc (.cells A e)) (w.heap.size + 1) e xs := by
  have h := RowAt.made (w.alloc o) e xs A hA
  have hs : (w.alloc o).heap.size = w.heap.size + 1 := by simp
  rwa [hs] at h
theorem rowV_cells {w : World} {F : List Nat} {x : Nat} {e : TypeId} {n size c : Nat} {xs : List Value} (h : RowAt w x e xs) (hl : xs.length = n * size) (hc : n ≤ c) (hm : c ≤ maxLen) (hx : x ∉ F) : RowV w F (.slice (some ⟨x, 0, none⟩) n c) n size xs :=
  ⟨hl, _, _, rfl, hc, hm, (fun h => by cases h), fun i u hu => ⟨x, 0, rfl, hx, h.lt, by rw [Nat.zero_add]; exact h.cell hu⟩⟩
theorem ownsB_setCell {w : World} {B e size : Nat} {v : Value} {n : Nat} {xs : List Value} {g : Nat} (h : w.ownsRow B e size v n xs) (hg : v.ownBlock = some g) (i : Nat) (u : Value) :
    (w.setCell ⟨g, i, none⟩ u).ownsRow B e size v n (xs.set i u) := by
  refine ⟨by rw [List.length_set]; exact h.1, ?_⟩
  rcases h.2 with ⟨rfl, _⟩ | ⟨g', cap, cur, rfl, h0, hgg, h1, h2, h3, h4⟩
  · simp [Value.ownBlock] at hg
  · simp [Value.ownBlock] at hg
    subst hg
    refine .inr ⟨g', cap, cur.setIfInBounds i u, rfl, h0, by simp [World.setCell, Array.getElem?_modify, hgg], h1, h2, by simpa using h3, ?_⟩
    rw [Array.toList_setIfInBounds, List.take_set, h4]
theorem ownsB_some {w : World} {B e size : Nat} {v : Value} {n : Nat} {xs : List Value} (h : w.ownsRow B e size v n xs) (hn : 0 < n) : ∃ g cap, v = .slice (some ⟨g, 0, none⟩) n cap ∧ B ≤ g ∧ n ≤ cap ∧ cap ≤ maxLen ∧ RowAt w g e xs := by
  rcases h.2 with ⟨_, h0⟩ | ⟨g, cap, cur, rfl, h0, hgg, h1, h2, h3, h4⟩
  · omega
  · exact ⟨g, cap, rfl, h0, h1, h2, cur, hgg, by rw [h.1]; exact h4⟩
theorem RowV.shape {w : World} {F : List Nat} {v : Value} {n size : Nat} {xs : List Value} (h : RowV w F v n size xs) : ∃ a c, v = .slice a n c := by
  obtain ⟨_, a, c, e, _⟩ := h
  exact ⟨a, c, e⟩
theorem drop_get {α : Type} {xs : List α} {k : Nat} {y : α} (h : xs[k]? = some y) : xs.drop k = y :: xs.drop (k + 1) := by
  obtain ⟨h1, h2⟩ := List.getElem?_eq_some_iff.1 h
  rw [List.drop_eq_getElem_cons h1, h2]
theorem RowV.rd {w : World} {F : List Nat} {a : Option Addr} {n c size : Nat} {xs : List Value} (h : RowV w F (.slice a n c) n size xs) : Rd w.heap.size w a n c size xs := by
  obtain ⟨h1, a', c', e, h2, h3, _, h4⟩ := h
  cases e
  exact ⟨h1, h2, h3, fun i u hu => by
    obtain ⟨b, o, e, _, hl, hc⟩ := h4 i u hu
    exact ⟨b, o, e, hl, hc⟩⟩
theorem Rd.nil {B : Nat} {w w' : World} {a : Option Addr} {n cap size : Nat} {xs : List Value} (h : Rd B w a n cap size xs) (hf : Frm [] w w') : Rd B w' a n cap size xs := h.frm hf (by simp)

end Go.Proofs.YtikpcipkkhmcfaaGreat

/- Register machines: the plain model, how they lie in memory. -/
namespace Go.Proofs.YtikpcipkkhmcfaaGreat.Ind
open Go.RowKit

/-- An arc: kind, channel, register, source, the registers that must differ, target. -/
structure RA where
  kind : Int
  ch : Int
  reg : Int
  frm : Int
  not : List Int
  to : Int
structure RM where
  regs : Int
  data : Int
  plain : Int
  states : List (List RA)
def belowB (n limit : Int) : Bool := decide (0 ≤ n) && decide (n < limit)
def ascB : List Int → Bool
  | a :: b :: r => decide (a < b) && ascB (b :: r)
  | _ => true
def notB (regs : Int) (l : List Int) : Bool := l.all (fun r => belowB r regs) && ascB l
def restB (a : RA) (ch reg frm : Bool) : Bool := (ch || a.ch == 0) && (reg || a.reg == 0) && (frm || a.frm == 0)
/-- An arc is valid. -/
def arcB (m : RM) (a : RA) : Bool :=
  belowB a.to m.states.length &&
  (if a.kind = 1 ∨ a.kind = 2 then restB a false false false && a.not.isEmpty
  else if a.kind = 3 then belowB a.ch m.plain && restB a true false false && a.not.isEmpty
  else if a.kind = 4 then belowB a.ch m.data && (a.reg == -1 || belowB a.reg m.regs) && notB m.regs a.not && restB a true true false
  else if a.kind = 5 then belowB a.ch m.data && belowB a.reg m.regs && restB a true true false && a.not.isEmpty
  else if a.kind = 6 then belowB a.reg m.regs && restB a false true false && a.not.isEmpty
  else if a.kind = 7 then belowB a.reg m.regs && belowB a.frm m.regs && restB a false true true && a.not.isEmpty
  else false)
def validM (m : RM) : Bool := belowB m.regs 5 && belowB m.data 9 && belowB m.plain 9 && decide (1 ≤ m.states.length) && decide (m.states.length ≤ 64) && m.states.all fun r => decide (r.length ≤ 16) && r.all (arcB m)

def arcC (p : Value × RA) : List Value := [.int .i64 p.2.kind, .int .i64 p.2.ch, .int .i64 p.2.reg, .int .i64 p.2.frm, p.1, .int .i64 p.2.to]
def rowC (l : List (Value × RA)) : List Value := l.flatMap arcC
/-- A row of arcs that is only read. -/
def ArcsAt (w : World) (F : List Nat) (v : Value) (row : List RA) : Prop :=
  ∃ l : List (Value × RA), l.map (·.2) = row ∧ RowV w F v row.length 6 (rowC l) ∧ ∀ p ∈ l, RowV w F p.1 p.2.not.length 1 (ints p.2.not)
/-- The rows of all states. -/
def StatesAt (w : World) (F : List Nat) (v : Value) (st : List (List RA)) : Prop :=
  ∃ l : List (Value × List RA), l.map (·.2) = st ∧ RowV w F v st.length 1 (l.map (·.1)) ∧ ∀ p ∈ l, ArcsAt w F p.1 p.2
section
variable {w w' : World} {F F' fp : List Nat} {v : Value} {row : List RA} {st : List (List RA)}
theorem ArcsAt.step (h : ArcsAt w F v row) (hf : Frm fp w w') (hn : ∀ k ∈ fp, k ∈ F ∨ w.heap.size ≤ k) (hF : ∀ k ∈ F', k ∈ F ∨ w.heap.size ≤ k) : ArcsAt w' F' v row := by
  obtain ⟨l, h1, h2, h3⟩ := h
  exact ⟨l, h1, h2.step hf hn hF, fun p hp => (h3 p hp).step hf hn hF⟩
theorem ArcsAt.nil (h : ArcsAt w F v row) (hf : Frm [] w w') : ArcsAt w' F v row := h.step hf (by simp) (fun _ hk => .inl hk)
theorem StatesAt.step (h : StatesAt w F v st) (hf : Frm fp w w') (hn : ∀ k ∈ fp, k ∈ F ∨ w.heap.size ≤ k) (hF : ∀ k ∈ F', k ∈ F ∨ w.heap.size ≤ k) : StatesAt w' F' v st := by
  obtain ⟨l, h1, h2, h3⟩ := h
  exact ⟨l, h1, h2.step hf hn hF, fun p hp => (h3 p hp).step hf hn hF⟩
theorem StatesAt.nil (h : StatesAt w F v st) (hf : Frm [] w w') : StatesAt w' F v st := h.step hf (by simp) (fun _ hk => .inl hk)
/-- Row i of the states. -/
theorem StatesAt.at_ (h : StatesAt w F v st) {i : Nat} {r : List RA} (hr : st[i]? = some r) : ∃ b o c a n cc, v = .slice (some ⟨b, o, none⟩) st.length c ∧ st.length ≤ c ∧ c ≤ maxLen ∧ b ∉ F ∧ w.cell? ⟨b, o + i, none⟩ = some (.slice a n cc) ∧ n = r.length ∧ ArcsAt w F (.slice a n cc) r := by
  obtain ⟨l, h1, h2, h3⟩ := h
  have hr2 : (l.map (·.2))[i]? = some r := by rw [h1]; exact hr
  rw [List.getElem?_map] at hr2
  cases hl : l[i]? with
  | none => rw [hl] at hr2; cases hr2
  | some p =>
    rw [hl] at hr2
    simp only [Option.map_some, Option.some.injEq] at hr2
    subst hr2
    have ha := h3 p (List.mem_of_getElem? hl)
    obtain ⟨l2, e2, ⟨_, a, cc, e3, _⟩, _⟩ := ha
    obtain ⟨_, va, c, ev, hc1, hc2, _, hcell⟩ := h2
    obtain ⟨b, o, rfl, hb, _, hc⟩ := hcell i p.1 (by rw [List.getElem?_map, hl]; rfl)
    rw [e3] at hc
    have ha := h3 p (List.mem_of_getElem? hl)
    rw [e3] at ha
    exact ⟨b, o, c, a, _, cc, ev, hc1, hc2, hb, hc, rfl, ha⟩
end

end Go.Proofs.YtikpcipkkhmcfaaGreat.Ind

/- Plain: what is asked of the list of registers, said in two ways; arcs that may stand side by side. No program. -/
namespace Go.Proofs.YtikpcipkkhmcfaaGreat.Ind
open Go.RowKit

theorem ascB_cons {a : Int} : ∀ {l : List Int}, ascB (a :: l) = true → ∀ x ∈ l, a < x
  | [], _, x, hx => by cases hx
  | b :: r, h, x, hx => by
    rw [ascB, Bool.and_eq_true, decide_eq_true_eq] at h
    rcases List.mem_cons.1 hx with rfl | hx
    · exact h.1
    · have := ascB_cons h.2 x hx
      omega
theorem ascB_tail {a : Int} {l : List Int} (h : ascB (a :: l) = true) : ascB l = true := by
  cases l with
  | nil => rfl
  | cons b r => rw [ascB, Bool.and_eq_true] at h; exact h.2
end Go.Proofs.YtikpcipkkhmcfaaGreat.Ind

/- Plain: machines in norm, as the program and as the reference ask it. No program. -/
namespace Go.Proofs.YtikpcipkkhmcfaaGreat.Ind
open Go.RowKit

/-- Two arcs may stand side by side. -/
def PairP (a b : RA) : Prop := ¬(a.kind = b.kind ∧ a.ch = b.ch) ∧ (a.kind = 4 → b.kind = 5 → a.ch = b.ch → b.reg ∈ a.not) ∧ (a.kind = 5 → b.kind = 4 → a.ch = b.ch → a.reg ∈ b.not)
theorem PairP.symm {a b : RA} (h : PairP a b) : PairP b a :=
  ⟨fun ⟨h1, h2⟩ => h.1 ⟨h1.symm, h2.symm⟩, fun h1 h2 h3 => h.2.2 h2 h1 h3.symm, fun h1 h2 h3 => h.2.1 h2 h1 h3.symm⟩
end Go.Proofs.YtikpcipkkhmcfaaGreat.Ind

/- Plain: strictly ascending lists under a total order: insertion, striking of doubles, uniqueness. No program. -/
namespace Go.Proofs.YtikpcipkkhmcfaaGreat.Ind
open Go.RowKit

structure STO {α : Type} (lt : α → α → Bool) : Prop where
  irr : ∀ a, lt a a = false
  trans : ∀ a b c, lt a b = true → lt b c = true → lt a c = true
  tri : ∀ a b, lt a b = false → lt b a = false → a = b
def Asc {α : Type} (lt : α → α → Bool) (l : List α) : Prop := l.Pairwise fun a b => lt a b = true
section
variable {α : Type} {lt : α → α → Bool}
theorem asc_uniq (O : STO lt) : ∀ {l l' : List α}, Asc lt l → Asc lt l' → (∀ x, x ∈ l ↔ x ∈ l') → l = l'
  | [], [], _, _, _ => rfl
  | [], b :: s, _, _, h => by have := (h b).2 List.mem_cons_self; cases this
  | a :: r, [], _, _, h => by have := (h a).1 List.mem_cons_self; cases this
  | a :: r, b :: s, h1, h2, h => by
    unfold Asc at h1 h2
    rw [List.pairwise_cons] at h1 h2
    have hab : a = b := by
      rcases List.mem_cons.1 ((h a).1 List.mem_cons_self) with e | ha
      · exact e
      · rcases List.mem_cons.1 ((h b).2 List.mem_cons_self) with e | hb
        · exact e.symm
        · have e1 := h1.1 b hb
          have e2 := h2.1 a ha
          have := O.trans _ _ _ e1 e2
          rw [O.irr] at this
          cases this
    subst hab
    congr 1
    refine asc_uniq O h1.2 h2.2 (fun x => ?_)
    constructor
    · intro hx
      rcases List.mem_cons.1 ((h x).1 (List.mem_cons_of_mem _ hx)) with e | hx2
      · subst e; have := h1.1 x hx; rw [O.irr] at this; cases this
      · exact hx2
    · intro hx
      rcases List.mem_cons.1 ((h x).2 (List.mem_cons_of_mem _ hx)) with e | hx2
      · subst e; have := h2.1 x hx; rw [O.irr] at this; cases this
      · exact hx2
variable [DecidableEq α]
def insG (lt : α → α → Bool) : List α → α → List α
  | [], x => [x]
  | a :: r, x => if lt a x = true then a :: insG lt r x else if a = x then a :: r else x :: a :: r
theorem mem_insG {l : List α} {x y : α} : y ∈ insG lt l x ↔ y = x ∨ y ∈ l := by
  induction l with
  | nil => simp [insG]
  | cons a r ih =>
    rw [insG]
    split
    · rw [List.mem_cons, ih, List.mem_cons]
      constructor
      · rintro (h | h | h)
        · exact .inr (.inl h)
        · exact .inl h
        · exact .inr (.inr h)
      · rintro (h | h | h)
        · exact .inr (.inl h)
        · exact .inl h
        · exact .inr (.inr h)
    · split
      · rename_i h
        subst h
        simp
      · simp
theorem asc_insG (O : STO lt) {l : List α} {x : α} (h : Asc lt l) : Asc lt (insG lt l x) := by
  unfold Asc at *
  induction l with
  | nil => simp [insG]
  | cons a r ih =>
    rw [List.pairwise_cons] at h
    rw [insG]
    split
    · rename_i ha
      rw [List.pairwise_cons]
      refine ⟨fun y hy => ?_, ih h.2⟩
      rcases mem_insG.1 hy with rfl | hy
      · exact ha
      · exact h.1 y hy
    · rename_i ha
      split
      · rw [List.pairwise_cons]; exact h
      · rename_i hn
        have hxa : lt x a = true := by
          cases hx : lt x a with
          | true => rfl
          | false => exact absurd (O.tri a x (by simpa using ha) hx) hn
        rw [List.pairwise_cons, List.pairwise_cons]
        refine ⟨fun y hy => ?_, h⟩
        rcases List.mem_cons.1 hy with rfl | hy
        · exact hxa
        · exact O.trans _ _ _ hxa (h.1 y hy)
/-- All inserted. -/
def setG (lt : α → α → Bool) (l : List α) : List α := l.foldl (insG lt) []
theorem setG_snoc (l : List α) (x : α) : setG lt (l ++ [x]) = insG lt (setG lt l) x := by simp [setG]
theorem setG_gen (O : STO lt) : ∀ (l acc : List α), Asc lt acc → Asc lt (l.foldl (insG lt) acc) ∧ ∀ y, y ∈ l.foldl (insG lt) acc ↔ y ∈ acc ∨ y ∈ l
  | [], acc, h => ⟨h, by simp⟩
  | x :: r, acc, h => by
    obtain ⟨h1, h2⟩ := setG_gen O r (insG lt acc x) (asc_insG O h)
    refine ⟨h1, fun y => ?_⟩
    rw [List.foldl_cons, h2, mem_insG, List.mem_cons]
    constructor
    · rintro ((h | h) | h)
      · exact .inr (.inl h)
      · exact .inl h
      · exact .inr (.inr h)
    · rintro (h | h | h)
      · exact .inl (.inr h)
      · exact .inl (.inl h)
      · exact .inr h
theorem setG_asc (O : STO lt) (l : List α) : Asc lt (setG lt l) := (setG_gen O l [] List.Pairwise.nil).1
theorem mem_setG (O : STO lt) {l : List α} {y : α} : y ∈ setG lt l ↔ y ∈ l := by
  rw [setG, (setG_gen O l [] List.Pairwise.nil).2]; simp
omit [DecidableEq α] in
theorem asc_nodup (O : STO lt) {l : List α} (h : Asc lt l) : l.Nodup :=
  h.imp fun {a b} hab e => by subst e; rw [O.irr] at hab; cases hab
/-- Doubles that stand side by side are struck. -/
def compG : List α → List α
  | a :: b :: r => if a = b then compG (b :: r) else a :: compG (b :: r)
  | l => l
theorem mem_compG : ∀ {l : List α} {y : α}, y ∈ compG l ↔ y ∈ l
  | [], y => by simp [compG]
  | [a], y => by simp [compG]
  | a :: b :: r, y => by
    rw [compG]
    split
    · rename_i h
      subst h
      rw [mem_compG]
      simp
    · rw [List.mem_cons, mem_compG, List.mem_cons (b := a)]
theorem asc_compG (O : STO lt) : ∀ {l : List α}, l.Pairwise (fun a b => lt b a = false) → Asc lt (compG l)
  | [], _ => List.Pairwise.nil
  | [a], _ => by simp [compG, Asc]
  | a :: b :: r, h => by
    rw [List.pairwise_cons] at h
    have ih := asc_compG O h.2
    rw [compG]
    split
    · exact ih
    · rename_i hn
      unfold Asc at *
      rw [List.pairwise_cons]
      refine ⟨fun y hy => ?_, ih⟩
      have hab : lt a b = true := by
        cases hx : lt a b with
        | true => rfl
        | false => exact absurd (O.tri a b hx (h.1 b List.mem_cons_self)) hn
      rcases List.mem_cons.1 (mem_compG.1 hy) with rfl | hy
      · exact hab
      · have hby := (List.pairwise_cons.1 h.2).1 y hy
        cases hx : lt b y with
        | true => exact O.trans _ _ _ hab hx
        | false => rw [← O.tri b y hx hby]; exact hab
end

/-- Lists of numbers in the order of books. -/
def ltL : List Int → List Int → Bool
  | [], [] => false
  | [], _ :: _ => true
  | _ :: _, [] => false
  | a :: r, b :: s => decide (a < b) || (decide (a = b) && ltL r s)
theorem sto_int : STO (fun a b : Int => decide (a < b)) := ⟨by simp, by simp; omega, by simp; omega⟩
theorem sto_list : STO ltL := by
  refine ⟨fun a => ?_, fun a => ?_, fun a => ?_⟩
  · induction a with
    | nil => rfl
    | cons x r ih => simp [ltL, ih]
  · induction a with
    | nil => intro b c h1 h2; cases b <;> cases c <;> simp [ltL] at *
    | cons x r ih =>
      intro b c h1 h2
      cases b with
      | nil => simp [ltL] at h1
      | cons y s =>
        cases c with
        | nil => simp [ltL] at h2
        | cons z t =>
          simp only [ltL, Bool.or_eq_true, decide_eq_true_eq, Bool.and_eq_true] at *
          rcases h1 with h1 | ⟨h1, h3⟩
          · rcases h2 with h2 | ⟨h2, h4⟩
            · left; omega
            · left; omega
          · rcases h2 with h2 | ⟨h2, h4⟩
            · left; omega
            · right; exact ⟨by omega, ih s t h3 h4⟩
  · induction a with
    | nil => intro b h1 h2; cases b <;> simp [ltL] at *
    | cons x r ih =>
      intro b h1 h2
      cases b with
      | nil => simp [ltL] at h2
      | cons y s =>
        simp only [ltL, Bool.or_eq_false_iff, decide_eq_false_iff_not, Bool.and_eq_false_iff] at h1 h2
        have hxy : x = y := by omega
        subst hxy
        rw [ih s (by rcases h1.2 with h | h; exact absurd rfl h; exact h) (by rcases h2.2 with h | h; exact absurd rfl h; exact h)]
/-- First by a number, then by the rest. -/
def ltN {β : Type} (lt : β → β → Bool) (a b : Int × β) : Bool := decide (a.1 < b.1) || (decide (a.1 = b.1) && lt a.2 b.2)
theorem sto_pair {β : Type} {lt : β → β → Bool} (O : STO lt) : STO (ltN lt) := by
  refine ⟨fun a => by simp [ltN, O.irr], fun a b c h1 h2 => ?_, fun a b h1 h2 => ?_⟩
  · simp only [ltN, Bool.or_eq_true, decide_eq_true_eq, Bool.and_eq_true] at *
    rcases h1 with h1 | ⟨h1, h3⟩
    · rcases h2 with h2 | ⟨h2, h4⟩
      · left; omega
      · left; omega
    · rcases h2 with h2 | ⟨h2, h4⟩
      · left; omega
      · right; exact ⟨by omega, O.trans _ _ _ h3 h4⟩
  · simp only [ltN, Bool.or_eq_false_iff, decide_eq_false_iff_not, Bool.and_eq_false_iff] at h1 h2
    have hxy : a.1 = b.1 := by omega
    refine Prod.ext hxy (O.tri _ _ ?_ ?_)
    · rcases h1.2 with h | h
      · exact absurd hxy h
      · exact h
    · rcases h2.2 with h | h
      · exact absurd hxy.symm h
      · exact h
/-- A state of an instance; an arc of an instance. -/
abbrev Pl := Int × List Int
abbrev Mv := Int × Pl
abbrev Ar := Int × Int
def ltP : Pl → Pl → Bool := ltN ltL
def ltM : Mv → Mv → Bool := ltN ltP
def ltAr : Ar → Ar → Bool := ltN fun a b : Int => decide (a < b)
theorem sto_P : STO ltP := sto_pair sto_list
theorem sto_M : STO ltM := sto_pair sto_P
end Go.Proofs.YtikpcipkkhmcfaaGreat.Ind

/- Plain: the minimal ones of a list of sets, as the program and as the reference find them. No program. -/
namespace Go.Proofs.YtikpcipkkhmcfaaGreat.Beh
open Go.Proofs.YtikpcipkkhmcfaaGreat.Ind

/-- Every element of a is one of b. -/
def subI (a b : List Int) : Bool := a.all fun x => decide (x ∈ b)
theorem subI_iff {a b : List Int} : subI a b = true ↔ ∀ x ∈ a, x ∈ b := by simp [subI]
theorem asc_of_ascB : ∀ {l : List Int}, Ind.ascB l = true → l.Pairwise (· < ·)
  | [], _ => List.Pairwise.nil
  | _ :: _, h => List.Pairwise.cons (Ind.ascB_cons h) (asc_of_ascB (Ind.ascB_tail h))
theorem nodup_of_ascB {l : List Int} (h : Ind.ascB l = true) : l.Nodup := (asc_of_ascB h).imp (fun h e => by omega)
theorem asc_eq {a b : List Int} (ha : Ind.ascB a = true) (hb : Ind.ascB b = true) (h : ∀ x, x ∈ a ↔ x ∈ b) : a = b :=
  asc_uniq sto_int ((asc_of_ascB ha).imp (fun h => by simpa using h)) ((asc_of_ascB hb).imp (fun h => by simpa using h)) h
theorem len_le_of_sub {a b : List Int} (ha : a.Nodup) (h : ∀ x ∈ a, x ∈ b) : a.length ≤ b.length := ha.length_le_of_subset h
theorem eq_of_sub_len {a b : List Int} (ha : Ind.ascB a = true) (hb : Ind.ascB b = true) (h : ∀ x ∈ a, x ∈ b) (hl : b.length ≤ a.length) : a = b := by
  refine asc_eq ha hb (fun x => ⟨h x, fun hx => ?_⟩)
  by_cases hm : x ∈ a
  · exact hm
  · have h1 : (x :: a).Nodup := List.nodup_cons.2 ⟨hm, nodup_of_ascB ha⟩
    have h2 : (x :: a).length ≤ b.length := len_le_of_sub h1 (fun y hy => by
      rcases List.mem_cons.1 hy with rfl | hy
      · exact hx
      · exact h y hy)
    simp at h2
    omega
/-- The minimal ones of the sets. -/
def minS (l : List (List Int)) : List (List Int) := (setG ltL l).filter fun x => !((setG ltL l).any fun y => decide (y ≠ x) && subI y x)
theorem mem_minS {l : List (List Int)} {x : List Int} : x ∈ minS l ↔ x ∈ l ∧ ∀ y ∈ l, y ≠ x → subI y x = false := by
  simp only [minS, List.mem_filter, mem_setG sto_list, Bool.not_eq_true', List.any_eq_false, Bool.and_eq_true, decide_eq_true_eq, not_and, Bool.not_eq_true]
theorem asc_minS (l : List (List Int)) : Asc ltL (minS l) := (setG_asc sto_list l).filter _
theorem minS_congr {l l' : List (List Int)} (h : ∀ x, x ∈ l ↔ x ∈ l') : minS l = minS l' :=
  asc_uniq sto_list (asc_minS l) (asc_minS l') (fun x => by simp only [mem_minS, h])
/-- As the reference finds them: no shorter one is a subset. -/
def refMin (l : List (List Int)) : List (List Int) := setG ltL (l.filter fun x => !(l.any fun y => decide (y.length < x.length) && subI y x))
theorem refMin_eq {l : List (List Int)} (h : ∀ x ∈ l, Ind.ascB x = true) : refMin l = minS l := by
  refine asc_uniq sto_list (setG_asc sto_list _) (asc_minS l) (fun x => ?_)
  rw [mem_minS, refMin, mem_setG sto_list, List.mem_filter]
  simp only [Bool.not_eq_true', List.any_eq_false, Bool.and_eq_true, decide_eq_true_eq, not_and, Bool.not_eq_true]
  constructor
  · rintro ⟨hx, h1⟩
    refine ⟨hx, fun y hy hne => ?_⟩
    cases hs : subI y x with
    | false => rfl
    | true =>
      by_cases hl : y.length < x.length
      · have := h1 y hy hl
        rw [hs] at this
        exact this
      · exact absurd (eq_of_sub_len (h y hy) (h x hx) (subI_iff.1 hs) (by omega)) hne
  · rintro ⟨hx, h1⟩
    exact ⟨hx, fun y hy hl => h1 y hy (fun e => by rw [e] at hl; omega)⟩
/-- What both answer: nothing where a list is no set. -/
def minL (l : List (List Int)) : List (List Int) := if l.all Ind.ascB = true then minS l else []
end Go.Proofs.YtikpcipkkhmcfaaGreat.Beh

/- Plain: the entries of all traces up to a length, level by level. No program in sight. -/
namespace Go.Proofs.YtikpcipkkhmcfaaGreat.Beh

/-- A trace, its acceptances, whether it diverges. -/
abbrev En := List Int × List (List Int) × Bool
/-- Entries, each with the set of its states. -/
abbrev St := List (List Nat × En)
/-- What is asked of a system: the events of a set, the set behind an event, the entry of a trace and its set. -/
structure Wk where
  ev : List Nat → List Int
  aft : List Nat → Int → List Nat
  ent : List Int → List Nat → En
  tr : ∀ t s, (ent t s).1 = t
def newE (k : Wk) (set : List Nat) (t : List Int) (e : Int) : List Nat × En := (k.aft set e, k.ent (t ++ [e]) (k.aft set e))
def addL (k : Wk) (set : List Nat) (t : List Int) : List Int → St → Option St
  | [], st => some st
  | e :: r, st => if st.length = 16384 then none else addL k set t r (st ++ [newE k set t e])
def ofGo (k : Wk) (n : Nat) : Nat → Nat → St → Option St
  | 0, _, st => some st
  | f + 1, i, st => match st[i]? with
    | none => some st
    | some p => if p.2.1.length = n then ofGo k n f (i + 1) st else
      match addL k p.1 p.2.1 (k.ev p.1) st with
      | none => none
      | some st' => ofGo k n f (i + 1) st'
def ofB (k : Wk) (n : Nat) (s0 : List Nat) : Option St := ofGo k n 16385 0 [(s0, k.ent [] s0)]
/-- Lengths ascend; none is more than one above the one at i. -/
structure Lv (n i : Nat) (st : St) : Prop where
  up : ∀ (a b : Nat) (p q : List Nat × En), a ≤ b → st[a]? = some p → st[b]? = some q → p.2.1.length ≤ q.2.1.length
  le : ∀ p ∈ st, p.2.1.length ≤ n
  top : ∀ p, st[i]? = some p → ∀ q ∈ st, q.2.1.length ≤ p.2.1.length + 1
theorem lv_start (k : Wk) (n : Nat) (s0 : List Nat) : Lv n 0 [(s0, k.ent [] s0)] := by
  have h : ∀ p ∈ [(s0, k.ent [] s0)], p.2.1.length = 0 := fun p hp => by
    rw [List.mem_singleton.1 hp]
    simp [k.tr]
  refine ⟨fun a b p q _ ha hb => ?_, fun p hp => ?_, fun p _ q hq => ?_⟩
  · rw [h p (List.mem_of_getElem? ha)]; omega
  · rw [h p hp]; omega
  · rw [h q hq]; omega
theorem Lv.next {n i : Nat} {st : St} (h : Lv n i st) : Lv n (i + 1) st := by
  refine ⟨h.up, h.le, fun p hp q hq => ?_⟩
  obtain ⟨p0, hp0⟩ : ∃ p0, st[i]? = some p0 := ⟨_, List.getElem?_eq_getElem (by have := (List.getElem?_eq_some_iff.1 hp).1; omega)⟩
  have h1 := h.top p0 hp0 q hq
  have h2 := h.up i (i + 1) p0 p (by omega) hp0 hp
  omega
theorem Lv.snoc {k : Wk} {n i : Nat} {st : St} {p : List Nat × En} {set : List Nat} {e : Int} (h : Lv n i st) (hp : st[i]? = some p) (hn : p.2.1.length ≠ n) : Lv n i (st ++ [newE k set p.2.1 e]) := by
  have hi := (List.getElem?_eq_some_iff.1 hp).1
  have hl : (newE k set p.2.1 e).2.1.length = p.2.1.length + 1 := by simp [newE, k.tr]
  have hle := h.le p (List.mem_of_getElem? hp)
  refine ⟨fun a b x y hab hx hy => ?_, fun x hx => ?_, fun x hx y hy => ?_⟩
  · rw [List.getElem?_append] at hx hy
    split at hx <;> split at hy
    · exact h.up a b x y hab hx hy
    · have : y = newE k set p.2.1 e := by
        have := List.mem_of_getElem? hy
        exact List.mem_singleton.1 this
      rw [this, hl]
      exact h.top p hp x (List.mem_of_getElem? hx)
    · omega
    · rw [List.mem_singleton.1 (List.mem_of_getElem? hx), List.mem_singleton.1 (List.mem_of_getElem? hy)]
      exact Nat.le_refl _
  · rcases List.mem_append.1 hx with hx | hx
    · exact h.le x hx
    · rw [List.mem_singleton.1 hx, hl]; omega
  · rw [List.getElem?_append_left hi, hp] at hx
    cases hx
    rcases List.mem_append.1 hy with hy | hy
    · exact h.top p hp y hy
    · rw [List.mem_singleton.1 hy, hl]; omega
theorem addL_cons {k : Wk} {set : List Nat} {t : List Int} {e : Int} {r : List Int} {st : St} (h : st.length ≠ 16384) : addL k set t (e :: r) st = addL k set t r (st ++ [newE k set t e]) := by rw [addL, if_neg h]
theorem addL_full {k : Wk} {set : List Nat} {t : List Int} {e : Int} {r : List Int} {st : St} (h : st.length = 16384) : addL k set t (e :: r) st = none := by rw [addL, if_pos h]
theorem addL_lv {k : Wk} {n i : Nat} {p : List Nat × En} {set : List Nat} (hn : p.2.1.length ≠ n) : ∀ (l : List Int) (st st' : St), Lv n i st → st[i]? = some p → st.length ≤ 16384 → addL k set p.2.1 l st = some st' → Lv n i st' ∧ st'[i]? = some p ∧ st'.length ≤ 16384
  | [], st, st', h, hp, hs, he => by
    simp only [addL, Option.some.injEq] at he
    subst he
    exact ⟨h, hp, hs⟩
  | e :: r, st, st', h, hp, hs, he => by
    by_cases hf : st.length = 16384
    · rw [addL_full hf] at he; cases he
    · rw [addL_cons hf] at he
      exact addL_lv hn r _ st' (h.snoc hp hn) (by rw [List.getElem?_append_left (List.getElem?_eq_some_iff.1 hp).1]; exact hp) (by simp; omega) he
/-- From the first trace of full length on nothing is added. -/
theorem of_done {k : Wk} {n : Nat} : ∀ (f i : Nat) (st : St), (∀ j p, i ≤ j → st[j]? = some p → p.2.1.length = n) → ofGo k n f i st = some st
  | 0, _, _, _ => rfl
  | f + 1, i, st, h => by
    rw [ofGo]
    cases hp : st[i]? with
    | none => rfl
    | some p =>
      simp only
      rw [if_pos (h i p (Nat.le_refl _) hp)]
      exact of_done f (i + 1) st (fun j q hj hq => h j q (by omega) hq)
theorem Lv.stop {k : Wk} {n i f : Nat} {st : St} {p : List Nat × En} (h : Lv n i st) (hp : st[i]? = some p) (hn : p.2.1.length = n) : ofGo k n f i st = some st := by
  refine of_done f i st (fun j q hj hq => ?_)
  have h1 := h.up i j p q hj hp hq
  have h2 := h.le q (List.mem_of_getElem? hq)
  omega
theorem of_end {k : Wk} {n i f : Nat} {st : St} (h : st.length ≤ i) : ofGo k n f i st = some st := by
  cases f with
  | zero => rfl
  | succ f => rw [ofGo, List.getElem?_eq_none h]
theorem of_same {k : Wk} {n i f : Nat} {st : St} {p : List Nat × En} (hp : st[i]? = some p) (hn : p.2.1.length = n) : ofGo k n (f + 1) i st = ofGo k n f (i + 1) st := by
  rw [ofGo, hp]
  simp only
  rw [if_pos hn]
theorem of_step {k : Wk} {n i f : Nat} {st : St} {p : List Nat × En} (hp : st[i]? = some p) (hn : p.2.1.length ≠ n) : ofGo k n (f + 1) i st = (addL k p.1 p.2.1 (k.ev p.1) st).bind (ofGo k n f (i + 1)) := by
  rw [ofGo, hp]
  simp only
  rw [if_neg hn]
  cases addL k p.1 p.2.1 (k.ev p.1) st <;> rfl
end Go.Proofs.YtikpcipkkhmcfaaGreat.Beh

/- Plain: what a behavior is. No program in sight. -/
namespace Go.Proofs.YtikpcipkkhmcfaaGreat.Beh
open Go.Proofs.YtikpcipkkhmcfaaGreat.Ind

/-- The order of traces: by length, then as in books. -/
def ltT (a b : List Int) : Bool := ltN ltL ((a.length : Int), a) ((b.length : Int), b)
theorem sto_T : STO ltT := by
  have O := sto_pair sto_list
  refine ⟨fun a => O.irr _, fun a b c h1 h2 => O.trans _ _ _ h1 h2, fun a b h1 h2 => ?_⟩
  exact congrArg (·.2) (O.tri _ _ h1 h2)
theorem ltL_snoc : ∀ {a b : List Int} (x y : Int), a.length = b.length → ltL a b = true → ltL (a ++ [x]) (b ++ [y]) = true
  | [], [], _, _, _, h => by simp [ltL] at h
  | [], _ :: _, _, _, hl, _ => by simp at hl
  | _ :: _, [], _, _, hl, _ => by simp at hl
  | p :: a, q :: b, x, y, hl, h => by
    simp only [ltL, Bool.or_eq_true, decide_eq_true_eq, Bool.and_eq_true, List.cons_append] at h ⊢
    rcases h with h | ⟨h1, h2⟩
    · exact .inl h
    · exact .inr ⟨h1, ltL_snoc x y (by simpa using hl) h2⟩
theorem ltL_snoc2 (a : List Int) {x y : Int} (h : x < y) : ltL (a ++ [x]) (a ++ [y]) = true := by
  induction a with
  | nil => simp [ltL, h]
  | cons p a ih => simp [ltL, ih]
theorem ltT_snoc {a b : List Int} (x y : Int) (h : ltT a b = true) : ltT (a ++ [x]) (b ++ [y]) = true := by
  simp only [ltT, ltN, Bool.or_eq_true, decide_eq_true_eq, Bool.and_eq_true, List.length_append, List.length_singleton] at h ⊢
  rcases h with h | ⟨h1, h2⟩
  · exact .inl (by omega)
  · exact .inr ⟨by omega, ltL_snoc x y (by omega) h2⟩
theorem ltT_snoc2 (a : List Int) {x y : Int} (h : x < y) : ltT (a ++ [x]) (a ++ [y]) = true := by
  simp only [ltT, ltN, Bool.or_eq_true, decide_eq_true_eq, Bool.and_eq_true, List.length_append, List.length_singleton]
  exact .inr ⟨trivial, ltL_snoc2 a h⟩
/-- Events that can be seen. -/
def visB (l : List Int) : Bool := l.all fun e => decide (1 ≤ e) && decide (e ≤ 1025)
theorem visB_iff {l : List Int} : visB l = true ↔ ∀ e ∈ l, 1 ≤ e ∧ e ≤ 1025 := by simp [visB, List.all_eq_true]
/-- Sets of which none lies in another, ascending. -/
structure Anti (l : List (List Int)) : Prop where
  rise : ∀ x ∈ l, Ind.ascB x = true
  asc : Asc ltL l
  none : ∀ x ∈ l, ∀ y ∈ l, y ≠ x → subI y x = false
theorem anti_minS {l : List (List Int)} (h : ∀ x ∈ l, Ind.ascB x = true) : Anti (minS l) :=
  ⟨fun x hx => h x (mem_minS.1 hx).1, asc_minS l, fun _ hx y hy hne => (mem_minS.1 hx).2 y (mem_minS.1 hy).1 hne⟩
theorem anti_minL (l : List (List Int)) : Anti (minL l) := by
  unfold minL
  split
  · rename_i h
    exact anti_minS (fun x hx => List.all_eq_true.1 h x hx)
  · exact ⟨by simp, List.Pairwise.nil, by simp⟩
theorem mem_minL {l : List (List Int)} {x : List Int} (h : x ∈ minL l) : x ∈ l := by
  unfold minL at h
  split at h
  · exact (mem_minS.1 h).1
  · cases h
structure EntOk (x : En) : Prop where
  short : x.1.length ≤ 24
  vis : visB x.1 = true
  acc : ∀ a ∈ x.2.1, visB a = true
  anti : Anti x.2.1
/-- A behavior. -/
structure VB (b : List En) : Prop where
  head : ∃ p, b[0]? = some p ∧ p.1 = []
  ent : ∀ x ∈ b, EntOk x
  asc : ∀ i x y, b[i]? = some x → b[i + 1]? = some y → ltT x.1 y.1 = true
  pre : ∀ x ∈ b, x.1 ≠ [] → ∃ y ∈ b, y.1 = x.1.dropLast
theorem VB.lt {b : List En} (h : VB b) : ∀ {i j : Nat} {x y : En}, i < j → b[i]? = some x → b[j]? = some y → ltT x.1 y.1 = true := by
  intro i j x y hij hi hj
  induction j generalizing y with
  | zero => omega
  | succ j ih =>
    obtain ⟨z, hz⟩ : ∃ z, b[j]? = some z := ⟨_, List.getElem?_eq_getElem (by have := (List.getElem?_eq_some_iff.1 hj).1; omega)⟩
    have h1 := h.asc j z y hz hj
    by_cases hj2 : i = j
    · subst hj2
      rw [hi] at hz
      cases hz
      exact h1
    · exact sto_T.trans _ _ _ (ih (by omega) hz) h1
theorem VB.uniq {b : List En} (h : VB b) {i j : Nat} {x y : En} (hi : b[i]? = some x) (hj : b[j]? = some y) (e : x.1 = y.1) : i = j := by
  rcases Nat.lt_trichotomy i j with h1 | h1 | h1
  · have := h.lt h1 hi hj
    rw [e, sto_T.irr] at this
    cases this
  · exact h1
  · have := h.lt h1 hj hi
    rw [e, sto_T.irr] at this
    cases this
/-- The first entry with the trace. -/
def findE (b : List En) (t : List Int) : Option En := b.find? fun x => decide (x.1 = t)
theorem VB.find {b : List En} (h : VB b) {i : Nat} {x : En} (hi : b[i]? = some x) : findE b x.1 = some x := by
  unfold findE
  rw [List.find?_eq_some_iff_getElem]
  obtain ⟨hl, e⟩ := List.getElem?_eq_some_iff.1 hi
  refine ⟨by simp, i, hl, e, fun j hj => ?_⟩
  simp only [Bool.not_eq_true', decide_eq_false_iff_not]
  intro e2
  have := h.uniq (List.getElem?_eq_getElem (Nat.lt_trans hj hl)) hi e2
  omega
end Go.Proofs.YtikpcipkkhmcfaaGreat.Beh
