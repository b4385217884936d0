/- Texts A3, GC. -/
import Derived.Test.YtikpcipkkhmcfaaGreatQ01
import Derived.Laws.AppendOwnNone
import Derived.StillTail
import Derived.Handy
/- Merged text: GA, GB, GS of the notes. -/
/- Contract of Insert of the reference at nil; both together. -/
namespace Go.Proofs.YtikpcipkkhmcfaaGreat
open Go.RowKit

/-- append of nil to a row that the call has made; the walk stands still behind it. -/
theorem wpl_app_nil {w : World} {ops : Array Oper} {rest : List Oper} {o : Oper} {a : Act} {Q : Exit → Act → World → Prop} (hgd : o.guard = none) (s x : Operand)
    (ho : o.op = .call { callee := .builtin .append, args := #[s, x], argTypes := #[63, 63] })
    (B n : Nat) (v : Value) (row : List Arc) (hs : a.eval s = v) (hown : OwnR B w v row) (hn : row.length = n) (hx : a.eval x = .slice none 0 0)
    (h : ∀ a' cp w', OwnR B w' (.slice a' n cp) row → (∀ w0 : World, w0.heap.size ≤ B → Frm [] w0 w → Frm [] w0 w') → wpList Tryz.prog ops Q rest (a.put o.dst (.slice a' n cp)) w') : wpList Tryz.prog ops Q (o :: rest) a w := by
  obtain ⟨i0, hi, hz0, hz1, hz2⟩ := info_parts infoArc
  subst hn
  obtain ⟨a', cp, rfl, _⟩ := owns_shape (ownsB_mono hown (Nat.zero_le B))
  exact wpList_append_own_none hgd s x 63 ho B 66 i0 2 Tryz.underlying63 hi _ row.length (flatA row) hs hown hx (h a' cp w hown (fun _ _ hF => hF))

theorem own_empty2 (w : World) (B k : Nat) (hk : w.heap.size = k) (hB : B ≤ k) : OwnR B (w.alloc (.cells #[] 66)) (.slice (some ⟨k, 0, none⟩) 0 0) [] := by
  subst hk
  exact own_empty w B hB

set_option maxRecDepth 100000 in
set_option maxHeartbeats 2000000 in
theorem insert_nil (B : Nat) (x y : Int) (w : World) (hB0 : B ≤ w.heap.size) :
    Calls Tryz.prog 36 #[.slice none 0 0, .agg #[.int .i64 x, .int .i64 y]] w fun e w' => ∃ a cp, e = .returned (.slice a 1 cp) ∧ OwnR B w' (.slice a 1 cp) [(x, y)] ∧ Frm [] w w' := by
  obtain ⟨i0, hi, hz0, hz1, hz2⟩ := info_parts infoArc
  have f0 : Frm [] w (w.alloc (.cells #[.int .i64 x, .int .i64 y] 66)) := (Frm.refl [] w).alloc _
  have hbox := RowAt.made w 66 [.int .i64 x, .int .i64 y] #[.int .i64 x, .int .i64 y] rfl
  have HBOX := Lib.hid hbox
  clear hbox
  have hsz0 : (w.alloc (.cells #[.int .i64 x, .int .i64 y] 66)).heap.size = w.heap.size + 1 := by simp
  have hsz : (w.alloc (.cells #[.int .i64 x, .int .i64 y] 66)).heap.size ≤ w.heap.size + 1 := by simp
  go_enter Tryz.func36, Tryz.ntmps36
  go_wp2_with fail
  refine wp_loop_rounds 1 ?_
  rw [rounds_succ]
  go_wp2_with fail
  go_quiet (fail)
  go_wp2_with fail
  go_quiet (fail)
  go_wp2_with (first | (at_builtin; refine wpl_app_nil rfl (.tmp 34) (.tmp 37) rfl (w.heap.size + 1) 0 _ [] rfl (own_empty2 _ _ (w.heap.size + 1) (by exact hsz0) (Nat.le_refl _)) rfl rfl ?_) | (at_builtin; fail))
  intro a6 cp6 w6 hown6 hf6
  have G6 := hf6 (w.alloc (.cells #[.int .i64 x, .int .i64 y] 66)) hsz (((Frm.refl [] _).drewN _).alloc _)
  have F6 := f0.trans G6 (by simp)
  have p0 := (HBOX.out.frm G6 (by simp)).cell (i := 0) rfl
  have p1 := (HBOX.out.frm G6 (by simp)).cell (i := 1) rfl
  clear hf6
  go_wp2_with (first | (at_builtin; refine wpl_app_arc rfl (.tmp 39) (.tmp 41) rfl (w.heap.size + 1) 0 1 (.slice a6 0 cp6) [] rfl (hown6.alloc _) rfl ⟨w6.heap.size, 0, none⟩ 1 1 [(x, y)] rfl rfl (cells_new w6 [.int .i64 x, .int .i64 y] _) rfl (by omega) (by have := G6.size; simp at this ⊢; omega) ?_) | (at_builtin; fail))
  intro a7 cp7 w7 hown7 hf7
  have G7 := hf7 (w.alloc (.cells #[.int .i64 x, .int .i64 y] 66)) hsz (G6.alloc _)
  have F7 := f0.trans G7 (by simp)
  clear hf7 p0 p1 hown6
  go_wp2_with (first | (at_builtin; refine wpl_app_nil rfl (.tmp 43) (.tmp 46) rfl (w.heap.size + 1) 1 (.slice a7 1 cp7) [(x, y)] rfl hown7 rfl rfl ?_) | (at_builtin; fail))
  intro a8 cp8 w8 hown8 hf8
  have F8 := f0.trans (hf8 (w.alloc (.cells #[.int .i64 x, .int .i64 y] 66)) hsz G7) (by simp)
  clear hf8 hown7
  go_wp2_with fail
  go_ret
  exact ⟨a8, cp8, rfl, ownsB_mono hown8 (by omega), F8⟩

/-- Insert: any row that the call has made. -/
theorem insert_any (B : Nat) (a : Option Addr) (cap : Nat) (row : List Arc) (x y : Int) (w : World) (hB0 : B ≤ w.heap.size) (h : OwnR B w (.slice a row.length cap) row) (hz : row = [] → a = none ∧ cap = 0) (hl : row.length ≤ 1000000) :
    Calls Tryz.prog 36 #[.slice a row.length cap, .agg #[.int .i64 x, .int .i64 y]] w fun e w' => ∃ a cp, e = .returned (.slice a (insA row (x, y)).length cp) ∧ OwnR B w' (.slice a (insA row (x, y)).length cp) (insA row (x, y)) ∧ Frm [] w w' := by
  by_cases h0 : row = []
  · obtain ⟨rfl, rfl⟩ := hz h0
    subst h0
    exact insert_nil B x y w hB0
  · have hpos : 0 < row.length := List.length_pos_iff.2 h0
    obtain ⟨ad, cp, hs⟩ : ∃ g cp, (Value.slice a row.length cap) = .slice (some (⟨g, 0, none⟩ : Addr)) row.length cp := by
      rcases h.2 with h1 | ⟨g, cp, cur, h1, _⟩
      · have := h1.1
        simp at this
        omega
      · exact ⟨g, cp, h1⟩
    simp only [Value.slice.injEq, true_and] at hs
    obtain ⟨rfl, _⟩ := hs
    exact insert_some B ad cap row x y w hB0 h hl hpos

theorem insA_ne (row : List Arc) (x : Arc) : insA row x ≠ [] := by
  unfold insA
  split
  · rintro rfl
    simp [insAt] at *
  · simp

end Go.Proofs.YtikpcipkkhmcfaaGreat

/- A system that the call has made: its outer row at block g, its rows behind it. Laws of Insert. -/
namespace Go.Proofs.YtikpcipkkhmcfaaGreat
open Go.RowKit

/-! ### Insert keeps rows valid -/
theorem insA_cons (a : Arc) (r : List Arc) (x : Arc) : insA (a :: r) x = if ltA a x then a :: insA r x else if a = x then a :: r else x :: a :: r := by
  unfold insA insAt
  cases h : ltA a x with
  | true =>
    simp only [List.takeWhile_cons, h, if_true, List.length_cons, List.getElem?_cons_succ, List.take_succ_cons, List.drop_succ_cons, List.cons_append]
    split <;> rfl
  | false => simp [h]
theorem insA_nil (x : Arc) : insA [] x = [x] := by simp [insA, insAt]
theorem ltA_tri {a x : Arc} (h : ltA a x = false) (hn : a ≠ x) : ltA x a = true := by
  obtain ⟨e, t⟩ := a
  obtain ⟨f, u⟩ := x
  simp only [ltA, Bool.or_eq_false_iff, decide_eq_false_iff_not, Bool.and_eq_false_iff, Bool.or_eq_true, decide_eq_true_eq, Bool.and_eq_true] at h ⊢
  have : ¬ (e = f ∧ t = u) := fun h2 => hn (by rw [h2.1, h2.2])
  omega
theorem ascB_cons (a : Arc) (s : List Arc) : ascB (a :: s) = true ↔ ascB s = true ∧ ∀ b, s.head? = some b → ltA a b = true := by
  cases s with
  | nil => simp [ascB]
  | cons b r => simp [ascB, and_comm]
theorem insA_head (r : List Arc) (x b : Arc) (h : (insA r x).head? = some b) : b = x ∨ r.head? = some b := by
  cases r with
  | nil => rw [insA_nil] at h; simp at h; exact .inl h.symm
  | cons a s =>
    rw [insA_cons] at h
    split at h
    · simp at h; exact .inr (by simp [h])
    · split at h
      · simp at h; exact .inr (by simp [h])
      · simp at h; exact .inl h.symm
theorem ascB_insA {r : List Arc} (h : ascB r = true) (x : Arc) : ascB (insA r x) = true := by
  induction r with
  | nil => rw [insA_nil]; rfl
  | cons a s ih =>
    rw [insA_cons]
    have hc := (ascB_cons a s).1 h
    split
    · rename_i hlt
      refine (ascB_cons _ _).2 ⟨ih hc.1, fun b hb => ?_⟩
      rcases insA_head _ _ _ hb with rfl | hb
      · exact hlt
      · exact hc.2 b hb
    · split
      · exact h
      · rename_i hlt hne
        exact (ascB_cons _ _).2 ⟨h, fun b hb => by simp at hb; subst hb; exact ltA_tri (by simpa using hlt) hne⟩
theorem mem_insA {r : List Arc} {x y : Arc} (h : y ∈ insA r x) : y = x ∨ y ∈ r := by
  induction r with
  | nil => rw [insA_nil] at h; simp at h; exact .inl h
  | cons a s ih =>
    rw [insA_cons] at h
    split at h
    · rcases List.mem_cons.1 h with rfl | h
      · exact .inr (by simp)
      · rcases ih h with h | h
        · exact .inl h
        · exact .inr (by simp [h])
    · split at h
      · exact .inr h
      · rcases List.mem_cons.1 h with rfl | h
        · exact .inl rfl
        · exact .inr h

/-- A row of a valid system of n states, with at most m arcs. -/
def RowOk (n m : Nat) (row : List Arc) : Prop := ascB row = true ∧ (∀ a ∈ row, arcOk n a = true) ∧ row.length ≤ m
theorem RowOk.nil (n m : Nat) : RowOk n m [] := ⟨rfl, by simp, Nat.zero_le _⟩
theorem RowOk.ins {n m : Nat} {row : List Arc} (h : RowOk n m row) {x : Arc} (hx : arcOk n x = true) : RowOk n (m + 1) (insA row x) :=
  ⟨ascB_insA h.1 x, fun a ha => (mem_insA ha).elim (fun e => e ▸ hx) (h.2.1 a), by have := insA_len row x; have := h.2.2; omega⟩
theorem RowOk.mono {n m k : Nat} {row : List Arc} (h : RowOk n m row) (hk : m ≤ k) : RowOk n k row := ⟨h.1, h.2.1, Nat.le_trans h.2.2 hk⟩
theorem arcOk_of {n : Nat} {e t : Int} (h1 : 0 ≤ e) (h2 : e ≤ 1025) (h3 : 0 ≤ t) (h4 : t < (n : Int)) : arcOk n (e, t) = true := by
  simp only [arcOk, Bool.not_eq_true', Bool.or_eq_false_iff, decide_eq_false_iff_not]
  omega

/-! ### A system that the call has made -/
def MAt (g : Nat) (w : World) (l : Lts) : Prop := ∃ xs : List Value, RowAt w g 63 xs ∧ xs.length = l.length ∧
  ∀ (i : Nat) (row : List Arc), l[i]? = some row → ∃ (a : Option Addr) (cp : Nat), xs[i]? = some (Value.slice a row.length cp) ∧ OwnR (g + 1) w (.slice a row.length cp) row ∧ (row = [] → a = none ∧ cp = 0)

theorem MAt.lt {g : Nat} {w : World} {l : Lts} (h : MAt g w l) : g < w.heap.size := by
  obtain ⟨xs, h1, _⟩ := h
  exact h1.lt
theorem own_lt {B : Nat} {w : World} {v : Value} {row : List Arc} (h : OwnR B w v row) {k : Nat} (hk : v.ownBlock = some k) : B ≤ k := (h.lt k hk).1
theorem MAt.frm {g : Nat} {fp : List Nat} {w w' : World} {l : Lts} (h : MAt g w l) (hf : Frm fp w w') (hn : ∀ k ∈ fp, k < g) : MAt g w' l := by
  obtain ⟨xs, h1, h2, h3⟩ := h
  refine ⟨xs, h1.frm hf (fun hm => by have := hn _ hm; omega), h2, fun i row hi => ?_⟩
  obtain ⟨a, cp, h4, h5, h6⟩ := h3 i row hi
  exact ⟨a, cp, h4, ownsB_frm h5 hf (fun k hk hm => by have := hn _ hm; have := own_lt h5 hk; omega), h6⟩
theorem MAt.cell {g : Nat} {w : World} {l : Lts} (h : MAt g w l) {i : Nat} {row : List Arc} (hi : l[i]? = some row) : ∃ a cp, w.cell? ⟨g, i, none⟩ = some (.slice a row.length cp) ∧ OwnR (g + 1) w (.slice a row.length cp) row ∧ (row = [] → a = none ∧ cp = 0) := by
  obtain ⟨xs, h1, h2, h3⟩ := h
  obtain ⟨a, cp, h4, h5, h6⟩ := h3 i row hi
  exact ⟨a, cp, h1.cell h4, h5, h6⟩
theorem MAt.frozen {g : Nat} {w : World} {l : Lts} (h : MAt g w l) (i : Nat) : w.frozen? ⟨g, i, none⟩ = false := by
  obtain ⟨xs, h1, _⟩ := h
  exact h1.frozen i
theorem MAt.set {g : Nat} {w : World} {l : Lts} (h : MAt g w l) {i : Nat} {a : Option Addr} {cp : Nat} {row : List Arc} (ho : OwnR (g + 1) w (.slice a row.length cp) row) (h0 : row = [] → a = none ∧ cp = 0) : MAt g (w.setCell ⟨g, i, none⟩ (.slice a row.length cp)) (l.set i row) := by
  obtain ⟨xs, h1, h2, h3⟩ := h
  refine ⟨xs.set i (.slice a row.length cp), h1.setCell i _, by simp [h2], fun j r hj => ?_⟩
  rw [List.getElem?_set] at hj
  split at hj
  · rename_i hij
    subst hij
    split at hj
    · rename_i hl
      cases hj
      exact ⟨a, cp, by rw [List.getElem?_set_self (by omega)], ownsB_other ho (by simp) _, h0⟩
    · cases hj
  · rename_i hij
    obtain ⟨a2, cp2, h4, h5, h6⟩ := h3 j r hj
    exact ⟨a2, cp2, by rw [List.getElem?_set_ne hij]; exact h4, ownsB_other h5 (by simp) _, h6⟩
theorem MAt.lat {g : Nat} {w : World} {l : Lts} (h : MAt g w l) (hl : l.length ≤ 140737488355328) (hr : ∀ row ∈ l, row.length ≤ 140737488355328) : LAt w.heap.size w (some ⟨g, 0, none⟩) l.length l := by
  refine ⟨Nat.le_refl _, by unfold maxLen; omega, hl, fun i row hi => ?_⟩
  obtain ⟨a, cp, h1, h2, _⟩ := h.cell hi
  exact ⟨g, 0, a, cp, rfl, h.lt, by rw [Nat.zero_add]; exact h1, rowR_of_own (ownsB_mono h2 (Nat.zero_le _)) (Nat.le_refl _) (hr row (List.mem_of_getElem? hi))⟩
theorem MAt.made (w : World) (n : Nat) : MAt w.heap.size (w.alloc (.cells (List.replicate n (Value.slice none 0 0)).toArray 63)) (List.replicate n []) := by
  refine ⟨List.replicate n (.slice none 0 0), RowAt.made _ _ _ _ (by simp), by simp, fun i row hi => ?_⟩
  rw [List.getElem?_replicate] at hi
  split at hi
  · cases hi
    exact ⟨none, 0, by rw [List.getElem?_replicate, if_pos (by assumption)]; rfl, ⟨rfl, .inl ⟨rfl, rfl⟩⟩, fun _ => ⟨rfl, rfl⟩⟩
  · cases hi

theorem infoRow : (Tryz.prog.info? 63).map (fun i => (i.zero, i.size, i.bytes)) = some (some (.slice none 0 0), 1, 24) := by kernel_rfl

/-- What LTS and Chain give: a valid system. -/
structure Sys (n m : Nat) (l : Lts) : Prop where
  pos : 1 ≤ l.length
  few : l.length ≤ n
  row : ∀ (i : Nat) (row : List Arc), l[i]? = some row → RowOk l.length m row

end Go.Proofs.YtikpcipkkhmcfaaGreat

/- A region that draws its order and ends in a store that all others go before: the store is taken behind the region. Plain, no program. -/
namespace Go.Proofs.YtikpcipkkhmcfaaGreat
open Go

/-- The operation, doing nothing. -/
def nopOf (o : Oper) : Oper := { o with op := .move (.const (.bool false)) }

def Qt (P : Program) (ops : Array Oper) (L : Nat) (Q : Exit → Act → World → Prop) : Exit → Act → World → Prop
  | .normal, a, w => wpOp P ops Q L (fun a w => Q .normal a w) a w
  | .ret, a, w => Q .ret a w
  | .panic c, a, w => Q (.panic c) a w
  | .exit i, a, w => Q (.exit i) a w
  | .goto l, a, w => Q (.goto l) a w
  | .outgrown, a, w => Q .outgrown a w

/-- Each operation waits for earlier ones only. -/
def backB (ops : Array Oper) : Bool := (List.range ops.size).all fun j => ((ops[j]?).map (·.after.all fun e => decide (e.on < j))).getD true
theorem backB_spec {ops : Array Oper} (h : backB ops = true) {j : Nat} {o : Oper} (hj : ops[j]? = some o) : ∀ e ∈ o.after, e.on < j := by
  intro e he
  have hlt : j < ops.size := (Array.getElem?_eq_some_iff.1 hj).1
  have := List.all_eq_true.1 h j (List.mem_range.2 hlt)
  rw [hj] at this
  simp only [Option.map_some, Option.getD_some] at this
  simpa using Array.all_eq_true'.1 this e he

theorem getD_tf {listed : Array Bool} {i : Nat} (hi : i < listed.size) (h : listed.getD i true = true) : listed.getD i false = true := by
  simp [hi] at h ⊢; exact h

theorem ready_nil_all {md : Region.Mode} {ops : Array Oper} {listed : Array Bool} (hb : backB ops = true) (hz : listed.size = ops.size) (hr : Region.ready md ops listed = []) : ∀ j, j < ops.size → listed.getD j true = true := by
  intro j
  induction j using Nat.strongRecOn with
  | _ j ih =>
    intro hj
    cases hl : listed.getD j true with
    | true => rfl
    | false =>
      have : j ∈ Region.ready md ops listed := mem_ready.2 ⟨hl, ops[j], Array.getElem?_eq_getElem hj, fun e he _ => by
        have hlt := backB_spec hb (Array.getElem?_eq_getElem hj) e he
        exact getD_tf (by omega) (ih e.on hlt (by omega))⟩
      rw [hr] at this
      cases this

theorem ready_same {md : Region.Mode} {ops ops' : Array Oper} (hz : ops'.size = ops.size) (h : ∀ j : Nat, (ops'[j]?).map Oper.after = (ops[j]?).map Oper.after) (listed : Array Bool) : Region.ready md ops' listed = Region.ready md ops listed := by
  unfold Region.ready
  rw [hz]
  congr 1
  funext j
  have hj := h j
  cases h1 : ops'[j]? <;> cases h2 : ops[j]? <;> simp [h1, h2] at hj ⊢
  rw [hj]

theorem swap_last {P : Program} {md : Region.Mode} {ops ops' : Array Oper} {L : Nat} {oL : Oper} {Q : Exit → Act → World → Prop}
    (hlast : ops.size = L + 1) (hL : ops[L]? = some oL) (hd : oL.dst = none) (hg : oL.guard = none) (he : ops' = ops.setIfInBounds L (nopOf oL)) (hb : backB ops = true) (hs : Region.sinkB md ops L = true) :
    ∀ (fuel : Nat) (listed : Array Bool) (a : Act) (w : World), HeadInv md ops L listed → wpAny P md ops' (Qt P ops L Q) fuel listed a w → wpAny P md ops Q fuel listed a w := by
  have hz : ops'.size = ops.size := by rw [he]; simp
  have hne : ∀ j, j ≠ L → ops'[j]? = ops[j]? := fun j hj => by rw [he, Array.getElem?_setIfInBounds_ne (Ne.symm hj)]
  have hL' : ops'[L]? = some (nopOf oL) := by rw [he, Array.getElem?_setIfInBounds_self_of_lt (by omega)]
  have hrd : ∀ listed, Region.ready md ops' listed = Region.ready md ops listed := ready_same hz (fun j => by
    by_cases hj : j = L
    · subst hj; rw [hL', hL]; rfl
    · rw [hne j hj])
  have hy : ∀ tmps, yielded ops' tmps = yielded ops tmps := by
    intro tmps
    funext j
    unfold yielded
    by_cases hj : j = L
    · subst hj; rw [hL', hL]; simp [nopOf]
    · rw [hne j hj]
  have hc : Region.chainB md ops L = true := by
    unfold Region.chainB
    refine List.all_eq_true.2 fun t ht => ?_
    have := List.mem_range.1 ht
    simp only [Bool.or_eq_true, decide_eq_true_eq]
    left; omega
  intro fuel
  induction fuel with
  | zero =>
    intro listed a w inv h
    have h1 := h.1
    rw [hrd] at h1
    have h2 := ready_nil_all hb inv.size h1 L (by omega)
    rw [inv.tail L (Nat.le_refl _) (by omega)] at h2
    cases h2
  | succ fuel ih =>
    intro listed a w inv h
    refine ⟨fun h1 => ?_, fun i hi => ?_⟩
    · have h2 := ready_nil_all hb inv.size h1 L (by omega)
      rw [inv.tail L (Nat.le_refl _) (by omega)] at h2
      cases h2
    · have hi' := hi
      rw [← hrd] at hi'
      have H := h.2 i hi'
      by_cases hiL : i = L
      · subst hiL
        have hall : ∀ j, j < i → listed.getD j true = true := fun j hj => by
          cases hl : listed.getD j true with
          | true => rfl
          | false => exact absurd hi (tail_waits hs hc (by omega) inv _ j rfl hj hl i (Nat.le_refl _))
        have hr0 : Region.ready md ops (listed.setIfInBounds i true) = [] := by
          refine List.eq_nil_iff_forall_not_mem.2 fun j hj => ?_
          obtain ⟨hjl, o, hjo, _⟩ := mem_ready.1 hj
          have hjs : j < ops.size := (Array.getElem?_eq_some_iff.1 hjo).1
          by_cases hji : j = i
          · subst hji
            simp [inv.size, hlast] at hjl
          · rw [getD_set_ne true (Ne.symm hji), hall j (by omega)] at hjl
            cases hjl
        have H2 : wpAny P md ops' (Qt P ops i Q) fuel (listed.setIfInBounds i true) a w := by
          unfold wpOp at H
          rw [hL'] at H
          have hw : Region.wanted (nopOf oL) (yielded ops' a.tmps) = true := by simp [Region.wanted, nopOf, hg]
          simp only [hw, if_true] at H
          rcases H with H | ⟨⟨H, _⟩, _⟩
          · simpa [Oper.wp, Oper.upon, execOp, nopOf, Sem.run, Act.put, hd] using H
          · exact absurd (show noRoomEvent ∈ (#[] : Array Event) from H) (by simp)
        have H3 : wpOp P ops Q i (fun a w => Q .normal a w) a w := by
          cases fuel with
          | zero => exact H2.2
          | succ f => exact H2.1 (by rw [hrd]; exact hr0)
        refine wpOp_mono (fun a' w' h' => ?_) H3
        cases fuel with
        | zero => exact ⟨hr0, h'⟩
        | succ f => exact ⟨fun _ => h', fun j hj => by rw [hr0] at hj; cases hj⟩
      · have H2 : wpOp P ops Q i (wpAny P md ops' (Qt P ops L Q) fuel (listed.setIfInBounds i true)) a w := by
          unfold wpOp at H ⊢
          rw [hne i hiL, hy] at H
          exact H
        have hin : i < L := by
          obtain ⟨_, o, hio, _⟩ := mem_ready.1 hi
          have : i < ops.size := (Array.getElem?_eq_some_iff.1 hio).1
          omega
        exact wpOp_mono (fun a' w' h' => ih _ a' w' (inv.set hi hin) h') H2

theorem Qt.last {P : Program} {ops : Array Oper} {L : Nat} {o : Oper} {Q : Exit → Act → World → Prop} {a : Act} {w : World} (hL : ops[L]? = some o) (hg : o.guard = none) (h : o.wp P a w (fun a w => Q .normal a w) Q) : Qt P ops L Q .normal a w := by
  show wpOp P ops Q L (fun a w => Q .normal a w) a w
  unfold wpOp
  rw [hL]
  have hw : Region.wanted o (yielded ops a.tmps) = true := by simp [Region.wanted, hg]
  simp only [hw, if_true]
  exact Or.inl h

/-- The beginning: the walk goes over the region with the last store struck; the store comes behind it ('Qt'). -/
theorem wp_region_last {P : Program} {id : Nat} {ops : Array Oper} (ops' : Array Oper) {L : Nat} {oL : Oper} {Q : Exit → Act → World → Prop} {a : Act} {w : World} (S : World → Prop) (hm : P.follows .mixedOrders = true)
    (hlast : ops.size = L + 1) (hL : ops[L]? = some oL) (hd : oL.dst = none) (hg : oL.guard = none) (he : ops' = ops.setIfInBounds L (nopOf oL)) (hb : backB ops = true) (hs : Region.sinkB .any ops L = true)
    (hS : S w.drew) (h : S w.drew → wpAnyH P .any ops' (Qt P ops L Q) S ops'.size (Array.replicate ops'.size false) a w.drew) : (Code.region id ops true).wp P Q a w := by
  refine wp_region_any hm ?_
  have h1 := wpAny_of_held _ _ _ _ (h hS)
  rw [show ops'.size = ops.size by rw [he]; simp] at h1
  exact swap_last hlast hL hd hg he hb hs _ _ _ _ ⟨by simp, fun j oj _ hl => (by rw [getD_replicate_false] at hl; cases hl), fun t _ ht => getD_in (by simpa using ht) (getD_replicate_false _ _)⟩ h1

end Go.Proofs.YtikpcipkkhmcfaaGreat

/- Contract of the generator LTS. -/
namespace Go.Proofs.YtikpcipkkhmcfaaGreat
open Go.RowKit

theorem mat_of_owns {w : World} {g n B : Nat} (h : w.ownsRow B 63 1 (.slice (some ⟨g, 0, none⟩) n n) n (madeCells (Value.slice none 0 0).cells (n * 1)).toList) : MAt g w (List.replicate n []) := by
  have hm : (madeCells (Value.slice none 0 0).cells (n * 1)).toList = List.replicate n (Value.slice none 0 0) := by
    rw [Nat.mul_one]
    exact toList_madeCells_one _ _
  rw [hm] at h
  rcases h.2 with ⟨h0, _⟩ | ⟨g', cp', cur, h0, hb, hg, h1, h2, h3, h4⟩
  · cases h0
  · obtain ⟨rfl, rfl⟩ : g = g' ∧ n = cp' := by simpa using h0
    refine ⟨List.replicate n (.slice none 0 0), ⟨cur, hg, by simpa using h4⟩, by simp, fun i row hi => ?_⟩
    rw [List.getElem?_replicate] at hi
    split at hi
    · cases hi
      exact ⟨none, 0, by rw [List.getElem?_replicate, if_pos (by assumption)]; rfl, ⟨rfl, .inl ⟨rfl, rfl⟩⟩, fun _ => ⟨rfl, rfl⟩⟩
    · cases hi

theorem wpl_make_rows (w : World) {ops : Array Oper} {rest : List Oper} {o : Oper} {a : Act} {Q : Exit → Act → World → Prop}
    (hg : o.guard = none) (l : Operand) (hop : o.op = Op.makeSlice 23 l l) (L : Int) (n : Nat) (hl : a.eval l = .int .i64 L) (hL : L = (n : Int)) (hn : n ≤ 100000)
    (hK : ∀ w', MAt w.heap.size w' (List.replicate n []) → Frm [] w w' → wpList Tryz.prog ops Q rest (a.put o.dst (.slice (some ⟨w.heap.size, 0, none⟩) n n)) w') :
    wpList Tryz.prog ops Q (o :: rest) a w := by
  obtain ⟨i0, hi, hz0, hz1, hz2⟩ := info_parts infoRow
  refine wpList_make_full w hg l l 23 hop 0 63 i0 (.slice none 0 0) 1 Tryz.underlying23 hi hz0 hz1 .i64 .i64 L L n hl hl hL hL (by rw [hz2]; omega) (by unfold maxLen; omega) (Nat.zero_le _) ?_
  intro w' hown hgr
  exact hK w' (mat_of_owns hown) ((Frm.refl [] w).grown hgr (by simp))

set_option linter.unusedSimpArgs false in
set_option maxRecDepth 100000 in
set_option maxHeartbeats 2000000 in
theorem lts_any (B tb N n : Nat) (w : World) (h : TapeOk B w tb N) (hB : B ≤ tb) (hN : N ≤ 1000000) (hn : 1 ≤ n) (hn2 : n ≤ 100) :
    Calls Tryz.prog 35 #[.pointer (some ⟨tb, 0, none⟩), .int .i64 n] w fun e w' => ∃ (l : Lts) (g : Nat), e = .returned (.agg #[.slice (some ⟨g, 0, none⟩) l.length l.length]) ∧ w.heap.size ≤ g ∧ MAt g w' l ∧ Sys n 3 l ∧ TapeOk B w' tb (N + 1000) ∧ Frm [tb] w w' := by
  have f0 : Frm [] w (w.alloc (.cells #[.slice none 0 0] 25)) := (Frm.refl [] w).alloc _
  have hnext := next_any B tb N n _ (h.nil f0) hB (by omega) (by omega)
  have HNX := Lib.hid hnext
  have hres : (w.alloc (.cells #[.slice none 0 0] 25)).cell? ⟨w.heap.size, 0, none⟩ = some (.slice none 0 0) := (RowAt.made w _ [.slice none 0 0] #[.slice none 0 0] rfl).cell (i := 0) rfl
  have HRES := Lib.hid hres
  have hrz : (w.alloc (.cells #[.slice none 0 0] 25)).frozen? ⟨w.heap.size, 0, none⟩ = false := (RowAt.made w 25 [.slice none 0 0] #[.slice none 0 0] rfl).frozen 0
  have HRZ := Lib.hid hrz
  have htb := h.lt
  clear hnext hres hrz
  go_enter Tryz.func35, Tryz.ntmps35
  go_wp2_with fail
  refine HNX.out.mono ?_
  rintro e1 w1 ⟨⟨v, rfl, hv, -⟩, hT1, hf1⟩
  have hv1 := hv (by omega)
  obtain ⟨m, rfl⟩ : ∃ m : Nat, v = (m : Int) := ⟨v.toNat, by omega⟩
  have hm : m + 1 ≤ n := by omega
  clear hv hv1 HNX
  have i1 : (m : Int) ≤ 100 := by omega
  have i2 : (0 : Int) ≤ (m : Int) := by omega
  go_wp2_with (first | (at_make; refine wpl_make_rows _ rfl (.tmp 11) rfl _ (m + 1) rfl (by omega) (by omega) ?_) | (at_make; fail))
  intro w2 hM2 hf2
  go_wp2_with fail
  have hg1 := hf2.size
  have hg0 := hf1.size
  have hg2 := hM2.lt
  simp only [World.alloc, Array.size_push] at hg0
  have g1 : tb < w1.heap.size := by omega
  have f3 : Frm [] w2 (w2.alloc (.cells #[.slice (some ⟨w1.heap.size, 0, none⟩) (m + 1) (m + 1)] 25)) := (Frm.refl [] w2).alloc _
  have hbox : (w2.alloc (.cells #[.slice (some ⟨w1.heap.size, 0, none⟩) (m + 1) (m + 1)] 25)).cell? ⟨w2.heap.size, 0, none⟩ = some (.slice (some ⟨w1.heap.size, 0, none⟩) (m + 1) (m + 1)) := (RowAt.made w2 _ [.slice (some ⟨w1.heap.size, 0, none⟩) (m + 1) (m + 1)] #[.slice (some ⟨w1.heap.size, 0, none⟩) (m + 1) (m + 1)] rfl).cell (i := 0) rfl
  have HBOX := Lib.hid hbox
  have hM3 := hM2.frm f3 (by simp)
  have hT3 := (hT1.nil hf2).nil f3
  have hF3 : Frm [tb] w (w2.alloc (.cells #[.slice (some ⟨w1.heap.size, 0, none⟩) (m + 1) (m + 1)] 25)) := (((f0.mono (by simp)).trans hf1 (by simp)).trans hf2 (by simp)).trans f3 (by simp)
  have HF3 := Lib.hid hF3
  have HM3 := Lib.hid hM3
  have HT3 := Lib.hid hT3
  clear hbox hM3 hT3 hF3 hM2 hT1 f3 f0
  have HF1 := Lib.hid hf1
  have HF2 := Lib.hid hf2
  clear hf1 hf2
  go_loopg [6] (m + 1) (fun q i wr => ∃ (k M : Nat) (l : Lts), q = m + 1 - k ∧ k ≤ m + 1 ∧ i = .int .i64 k ∧ l.length = m + 1 ∧ (∀ (j : Nat) (row : List Arc), l[j]? = some row → RowOk (m + 1) 3 row ∧ (k ≤ j → row = [])) ∧ MAt w1.heap.size wr l ∧ TapeOk B wr tb M ∧ M ≤ N + 1 + 7 * k ∧ Frm [tb, w1.heap.size] (w2.alloc (.cells #[.slice (some ⟨w1.heap.size, 0, none⟩) (m + 1) (m + 1)] 25)) wr)
  case atStart =>
    refine ⟨0, N + 1, List.replicate (m + 1) [], rfl, Nat.zero_le _, rfl, by simp, fun j row hj => ?_, HM3.out, HT3.out, by omega, Frm.refl _ _⟩
    rw [List.getElem?_replicate] at hj
    split at hj
    · cases hj
      exact ⟨RowOk.nil _ _, fun _ => rfl⟩
    · cases hj
  case round =>
    obtain ⟨k, M, l, rfl, hk, rfl, hl, hrow, hM, hT, hMb, hF⟩ := hrel
    have hb := hF.cell HBOX.out (by simp; omega)
    have i3 : (k : Int) ≤ 101 := by omega
    have i4 : (0 : Int) ≤ (k : Int) := by omega
    have HROW := Lib.hid hrow
    have HM := Lib.hid hM
    have HT := Lib.hid hT
    have HF := Lib.hid hF
    have HL := Lib.hid hl
    clear hrow hM hT hF hl
    by_cases hlt : k < m + 1
    · have i5 : (k : Int) < (m : Int) + 1 := by omega
      go_wp2_with fail
      refine (next_any B tb M 4 _ HT.out hB (by omega) (by omega)).mono ?_
      rintro e4 w4 ⟨⟨v, rfl, hv, -⟩, hT4, hf4⟩
      have hv1 := hv (by omega)
      obtain ⟨r, rfl⟩ : ∃ r : Nat, v = (r : Int) := ⟨v.toNat, by omega⟩
      have hr : r ≤ 3 := by omega
      clear hv hv1
      have HT4 := Lib.hid hT4
      have HF4 := Lib.hid (HF.out.trans hf4 (by simp))
      have HM4 := Lib.hid (HM.out.frm hf4 (by simp; omega))
      clear hT4 hf4
      go_wp2_with fail
      go_loopg [7] r (fun q i wr => ∃ (r' M' : Nat) (l' : Lts), r' = q ∧ r' ≤ 3 ∧ i = .int .i64 r' ∧ l'.length = m + 1 ∧ (∀ (j : Nat) (row : List Arc), l'[j]? = some row → (j ≠ k → RowOk (m + 1) 3 row) ∧ (j = k → RowOk (m + 1) (3 - r') row) ∧ (k < j → row = [])) ∧ MAt w1.heap.size wr l' ∧ TapeOk B wr tb M' ∧ M' + 2 * r' ≤ N + 1 + 7 * k + 7 ∧ Frm [tb, w1.heap.size] (w2.alloc (.cells #[.slice (some ⟨w1.heap.size, 0, none⟩) (m + 1) (m + 1)] 25)) wr)
      case atStart =>
        refine ⟨r, M + 1, l, rfl, hr, rfl, HL.out, fun j row hj => ⟨fun _ => (HROW.out j row hj).1, fun hjk => ?_, fun hkj => (HROW.out j row hj).2 (by omega)⟩, HM4.out, HT4.out, by omega, HF4.out⟩
        rw [(HROW.out j row hj).2 (by omega)]
        exact RowOk.nil _ _
      case round =>
        obtain ⟨r', M', l', rfl, hr', rfl, hl', hrow', hM', hT', hMb', hF'⟩ := hrel
        have hb' := hF'.cell HBOX.out (by simp; omega)
        have HROW' := Lib.hid hrow'
        have HM' := Lib.hid hM'
        have HT' := Lib.hid hT'
        have HF' := Lib.hid hF'
        have HL' := Lib.hid hl'
        have i6 : (r' : Int) ≤ 3 := by omega
        clear hrow' hM' hT' hF' hl'
        by_cases hz : r' = 0
        · subst hz
          go_wp2_with fail
          go_roundg (m + 1 - (k + 1))
          case rel =>
            refine ⟨k + 1, M', l', rfl, by omega, by go_num, HL'.out, fun j row hj => ⟨?_, fun hkj => (HROW'.out j row hj).2.2 (by omega)⟩, HM'.out, HT'.out, by omega, HF'.out⟩
            by_cases hjk : j = k
            · exact (HROW'.out j row hj).2.1 hjk
            · exact (HROW'.out j row hj).1 hjk
          case measure => omega
        · have i7 : (0 : Int) < (r' : Int) := by omega
          have i5' : (k : Int) < (m : Int) + 1 := i5
          obtain ⟨row, hrk⟩ : ∃ row, l'[k]? = some row := ⟨_, List.getElem?_eq_getElem (by rw [HL'.out]; exact hlt)⟩
          obtain ⟨a, cp, hc, hown, h0⟩ := HM'.out.cell hrk
          have hfz := HM'.out.frozen k
          have hrok := (HROW'.out k row hrk).2.1 rfl
          have HC := Lib.hid hc
          have HB' := Lib.hid hb'
          have HOWN := Lib.hid hown
          have HFZ := Lib.hid hfz
          have H0 := Lib.hid h0
          have HROK := Lib.hid hrok
          have HRK := Lib.hid hrk
          have HTD := Lib.hid (HT'.out.nil ((Frm.refl [] wr).drew))
          have hrl : row.length ≤ 3 := by have := hrok.2.2; omega
          have hlb : w2.heap.size < wr.heap.size := World.block_lt_of_cell? _ _ hb'
          clear hc hb' hown hfz h0 hrok hrk
          go_wp2_with fail
          refine' wp_region_last _ (fun w' => w'.cell? ⟨w2.heap.size, 0, none⟩ = some (.slice (some ⟨w1.heap.size, 0, none⟩) (m + 1) (m + 1)) ∧ w'.cell? ⟨w1.heap.size, k, none⟩ = some (.slice a row.length cp)) (by kernel_rfl) rfl rfl rfl rfl ?he (by kernel_rfl) (by kernel_rfl) ?hS ?h
          case he =>
            simp only [nopOf, List.setIfInBounds_toArray, List.set_cons_succ, List.set_cons_zero]
            rfl
          case hS => exact ⟨HB'.out, HC.out⟩
          intro hHeld
          refine wpAnyH_take (i := 0) (v := ?_) rfl (by kernel_rfl) (by kernel_rfl) (by kernel_rfl) (fun _ _ _ h => h) (Or.inl ⟨by rfl, ?_⟩) (by assumption) ?_
          rotate_left
          · intro w9 hS9
            try dsimp only at hS9
            go_split_ands
            go_simp
            try with_reducible rfl
          try simp only [Act.put, List.setIfInBounds_toArray, List.set_cons_zero, List.set_cons_succ]
          refine wpAnyH_take (i := 1) (v := ?_) rfl (by kernel_rfl) (by kernel_rfl) (by kernel_rfl) (fun _ _ _ h => h) (Or.inl ⟨by rfl, ?_⟩) (by assumption) ?_
          rotate_left
          · intro w9 hS9
            try dsimp only at hS9
            go_split_ands
            go_simp
            try with_reducible rfl
          try simp only [Act.put, List.setIfInBounds_toArray, List.set_cons_zero, List.set_cons_succ]
          refine wpAnyH_take (i := 2) (v := ?_) rfl (by kernel_rfl) (by kernel_rfl) (by kernel_rfl) (fun _ _ _ h => h) (Or.inl ⟨by rfl, ?_⟩) (by assumption) ?_
          rotate_left
          · intro w9 hS9
            try dsimp only at hS9
            go_split_ands
            go_simp
            try with_reducible rfl
          try simp only [Act.put, List.setIfInBounds_toArray, List.set_cons_zero, List.set_cons_succ]
          refine wpAnyH_take (i := 3) (v := ?_) rfl (by kernel_rfl) (by kernel_rfl) (by kernel_rfl) (fun _ _ _ h => h) (Or.inl ⟨by rfl, ?_⟩) (by assumption) ?_
          rotate_left
          · intro w9 hS9
            try dsimp only at hS9
            go_split_ands
            go_simp
            try with_reducible rfl
          try simp only [Act.put, List.setIfInBounds_toArray, List.set_cons_zero, List.set_cons_succ]
          refine wpAnyH_take (i := 4) (v := ?_) rfl (by kernel_rfl) (by kernel_rfl) (by kernel_rfl) (fun _ _ _ h => h) (Or.inl ⟨by rfl, ?_⟩) (by assumption) ?_
          rotate_left
          · intro w9 hS9
            try dsimp only at hS9
            go_split_ands
            go_simp
            try with_reducible rfl
          try simp only [Act.put, List.setIfInBounds_toArray, List.set_cons_zero, List.set_cons_succ]
          refine wpAnyH_take (i := 5) (v := ?_) rfl (by kernel_rfl) (by kernel_rfl) (by kernel_rfl) (fun _ _ _ h => h) (Or.inl ⟨by rfl, ?_⟩) (by assumption) ?_
          rotate_left
          · intro w9 hS9
            try dsimp only at hS9
            go_split_ands
            go_simp
            try with_reducible rfl
          try simp only [Act.put, List.setIfInBounds_toArray, List.set_cons_zero, List.set_cons_succ]
          refine wpAnyH_take (i := 6) (v := ?_) rfl (by kernel_rfl) (by kernel_rfl) (by kernel_rfl) (fun _ _ _ h => h) (Or.inl ⟨by rfl, ?_⟩) (by assumption) ?_
          rotate_left
          · intro w9 hS9
            try dsimp only at hS9
            go_split_ands
            go_simp
            try with_reducible rfl
          try simp only [Act.put, List.setIfInBounds_toArray, List.set_cons_zero, List.set_cons_succ]
          refine wpAnyH_take (i := 7) (v := ?_) rfl (by kernel_rfl) (by kernel_rfl) (by kernel_rfl) (fun _ _ _ h => h) (Or.inl ⟨by rfl, ?_⟩) (by assumption) ?_
          rotate_left
          · intro w9 hS9
            try dsimp only at hS9
            go_split_ands
            go_simp
            try with_reducible rfl
          try simp only [Act.put, List.setIfInBounds_toArray, List.set_cons_zero, List.set_cons_succ]
          refine wpAnyH_take (i := 8) (v := ?_) rfl (by kernel_rfl) (by kernel_rfl) (by kernel_rfl) (fun _ _ _ h => h) (Or.inl ⟨by rfl, ?_⟩) (by assumption) ?_
          rotate_left
          · intro w9 hS9
            try dsimp only at hS9
            go_split_ands
            go_simp
            try with_reducible rfl
          try simp only [Act.put, List.setIfInBounds_toArray, List.set_cons_zero, List.set_cons_succ]
          refine wpAnyH_take (i := 10) (v := ?_) rfl (by kernel_rfl) (by kernel_rfl) (by kernel_rfl) (fun _ _ _ h => h) (Or.inl ⟨by rfl, ?_⟩) (by assumption) ?_
          rotate_left
          · intro w9 hS9
            try dsimp only at hS9
            go_split_ands
            go_simp
            try with_reducible rfl
          try simp only [Act.put, List.setIfInBounds_toArray, List.set_cons_zero, List.set_cons_succ]
          refine wpAnyH_take (i := 11) (v := ?_) rfl (by kernel_rfl) (by kernel_rfl) (by kernel_rfl) (fun _ _ _ h => h) (Or.inl ⟨by rfl, ?_⟩) (by assumption) ?_
          rotate_left
          · intro w9 hS9
            try dsimp only at hS9
            go_split_ands
            go_simp
            try with_reducible rfl
          try simp only [Act.put, List.setIfInBounds_toArray, List.set_cons_zero, List.set_cons_succ]
          refine wpAnyH_take (i := 12) (v := ?_) rfl (by kernel_rfl) (by kernel_rfl) (by kernel_rfl) (fun _ _ _ h => h) (Or.inl ⟨by rfl, ?_⟩) (by assumption) ?_
          rotate_left
          · intro w9 hS9
            try dsimp only at hS9
            go_split_ands
            go_simp
            try with_reducible rfl
          try simp only [Act.put, List.setIfInBounds_toArray, List.set_cons_zero, List.set_cons_succ]
          refine wpAnyH_take (i := 13) (v := ?_) rfl (by kernel_rfl) (by kernel_rfl) (by kernel_rfl) (fun _ _ _ h => h) (Or.inl ⟨by rfl, ?_⟩) (by assumption) ?_
          rotate_left
          · intro w9 hS9
            try dsimp only at hS9
            go_split_ands
            go_simp
            try with_reducible rfl
          try simp only [Act.put, List.setIfInBounds_toArray, List.set_cons_zero, List.set_cons_succ]
          refine wpAnyH_ready (rs := [9]) (by kernel_rfl) (by simp) ?_
          refine AllReadyH.cons rfl (fun K hK => ?_) AllReadyH.nil
          go_simp
          go_at_call 37; refine (event_any B tb M' _ HTD.out hB (by omega)).mono ?_; rintro e5 w5 ⟨⟨v5, rfl, hv5a, hv5b⟩, hT5, hf50⟩; have hf5 := ((Frm.refl [tb] wr).drew).trans hf50 (by simp)
          refine hK.out _ _ ?_ (fun hHeld => ?_)
          · exact ⟨hf5.cell HB'.out (by simp; omega), hf5.cell HC.out (by simp; omega)⟩
          clear hK K
          try simp only [Act.put, List.setIfInBounds_toArray, List.set_cons_zero, List.set_cons_succ]
          refine wpAnyH_ready (rs := [14]) (by kernel_rfl) (by simp) ?_
          refine AllReadyH.cons rfl (fun K hK => ?_) AllReadyH.nil
          go_simp
          go_at_call 12; refine (next_any B tb (M' + 1) ((m : Int) + 1) _ hT5 hB (by omega) (by omega)).mono ?_; rintro e6 w6 ⟨⟨v6, rfl, hv6, -⟩, hT6, hf6⟩; have hf56 := hf5.trans hf6 (by simp)
          refine hK.out _ _ ?_ (fun hHeld => ?_)
          · exact ⟨hf56.cell HB'.out (by simp; omega), hf56.cell HC.out (by simp; omega)⟩
          clear hK K
          try simp only [Act.put, List.setIfInBounds_toArray, List.set_cons_zero, List.set_cons_succ]
          refine wpAnyH_take (i := 15) (v := ?_) rfl (by kernel_rfl) (by kernel_rfl) (by kernel_rfl) (fun _ _ _ h => h) (Or.inl ⟨by rfl, ?_⟩) (by assumption) ?_
          rotate_left
          · intro w9 hS9
            try dsimp only at hS9
            go_split_ands
            go_simp
            try with_reducible rfl
          try simp only [Act.put, List.setIfInBounds_toArray, List.set_cons_zero, List.set_cons_succ]
          refine wpAnyH_ready (rs := [16]) (by kernel_rfl) (by simp) ?_
          refine AllReadyH.cons rfl (fun K hK => ?_) AllReadyH.nil
          go_simp
          go_at_call 36; refine (insert_any (w1.heap.size + 1) a cp row v5 v6 _ (by have := hf56.size; have := HM'.out.lt; simp at *; omega) (ownsB_frm HOWN.out hf56 (by intro k9 hk9; have := own_lt HOWN.out hk9; simp; omega)) H0.out (by omega)).mono ?_; rintro e7 w7 ⟨a7, cp7, rfl, hown7, hf7⟩; have hf57 := hf56.trans hf7 (by simp)
          refine hK.out _ _ ?_ (fun hHeld => ?_)
          · exact ⟨hf57.cell HB'.out (by simp; omega), hf57.cell HC.out (by simp; omega)⟩
          clear hK K
          try simp only [Act.put, List.setIfInBounds_toArray, List.set_cons_zero, List.set_cons_succ]
          refine wpAnyH_take (i := 17) (v := ?_) rfl (by kernel_rfl) (by kernel_rfl) (by kernel_rfl) (fun _ _ _ h => h) (Or.inl ⟨by rfl, ?_⟩) (by assumption) ?_
          rotate_left
          · intro w9 hS9
            try dsimp only at hS9
            go_split_ands
            go_simp
            try with_reducible rfl
          try simp only [Act.put, List.setIfInBounds_toArray, List.set_cons_zero, List.set_cons_succ]
          refine wpAnyH_take (i := 18) (v := ?_) rfl (by kernel_rfl) (by kernel_rfl) (by kernel_rfl) (fun _ _ _ h => h) (Or.inl ⟨by rfl, ?_⟩) (by assumption) ?_
          rotate_left
          · intro w9 hS9
            try dsimp only at hS9
            go_split_ands
            go_simp
            try with_reducible rfl
          try simp only [Act.put, List.setIfInBounds_toArray, List.set_cons_zero, List.set_cons_succ]
          refine wpAnyH_done (by kernel_rfl) ?_ _
          have c7 := hf57.cell HC.out (by simp; omega)
          have z7 := hf57.frz HC.out HFZ.out (by simp; omega)
          have hv6' := hv6 (by omega)
          refine Qt.last rfl rfl ?_
          simp only [List.getElem_toArray, List.getElem_cons_succ, List.getElem_cons_zero]
          go_simp
          go_wp2_with fail
          go_roundg (r' - 1)
          case rel =>
              refine ⟨r' - 1, M' + 2, l'.set k (insA row (v5, v6)), rfl, by omega, by go_num, by rw [List.length_set]; exact HL'.out, fun j rw9 hj => ?_, (HM'.out.frm hf57 (by simp; omega)).set hown7 (fun h9 => absurd h9 (insA_ne _ _)), (hT6.nil hf7).frm (fp := [w1.heap.size]) ((Frm.refl _ _).setCell (.inl (by simp)) _) (by simp; omega) (by simp; omega), by omega, ((HF'.out.trans hf57 (by simp)).setCell (.inl (by simp)) _)⟩
              rw [List.getElem?_set] at hj
              split at hj
              · rename_i hkj
                subst hkj
                split at hj
                · cases hj
                  refine ⟨fun h9 => absurd rfl h9, fun _ => ?_, fun h9 => by omega⟩
                  exact (HROK.out.ins (arcOk_of hv5a hv5b hv6'.1 (by have := hv6'.2; omega))).mono (by omega)
                · cases hj
              · rename_i hkj
                exact ⟨(HROW'.out j rw9 hj).1, fun h9 => absurd h9.symm hkj, (HROW'.out j rw9 hj).2.2⟩
          case measure => omega
    · have i5 : ¬ (k : Int) < (m : Int) + 1 := by omega
      have hres : wr.cell? ⟨w.heap.size, 0, none⟩ = some (.slice none 0 0) := HF.out.cell (((Frm.refl [] w2).alloc _).cell (HF2.out.cell (HF1.out.cell HRES.out (by simp; omega)) (by simp)) (by simp)) (by simp; omega)
      have hrz : wr.frozen? ⟨w.heap.size, 0, none⟩ = false := HF.out.frz (((Frm.refl [] w2).alloc _).cell (HF2.out.cell (HF1.out.cell HRES.out (by simp; omega)) (by simp)) (by simp)) (((Frm.refl [] w2).alloc _).frz (HF2.out.cell (HF1.out.cell HRES.out (by simp; omega)) (by simp)) (HF2.out.frz (HF1.out.cell HRES.out (by simp; omega)) (HF1.out.frz HRES.out HRZ.out (by simp; omega)) (by simp)) (by simp)) (by simp; omega)
      go_wp2_with fail
      have hlk : l.length = k := by rw [HL.out]; omega
      have hcs := World.cell?_setCell_same' wr ⟨w.heap.size, 0, none⟩ (.slice (some ⟨w1.heap.size, 0, none⟩) (m + 1) (m + 1)) (by rw [hres]; rfl)
      refine bodyPost_ret (v := .agg #[.slice (some ⟨w1.heap.size, 0, none⟩) (m + 1) (m + 1)]) (by simp [results, Tryz.results35, go_sem]; rw [hcs]; rfl) rfl ?_
      have hrw : (.agg #[.slice (some ⟨w1.heap.size, 0, none⟩) (m + 1) (m + 1)] : Value) = .agg #[.slice (some ⟨w1.heap.size, 0, none⟩) l.length l.length] := by rw [HL.out]
      have hFw : Frm [w.heap.size] wr (wr.setCell ⟨w.heap.size, 0, none⟩ (.slice (some ⟨w1.heap.size, 0, none⟩) (m + 1) (m + 1))) := (Frm.refl _ _).setCell (.inl (by simp)) _
      refine ⟨l, w1.heap.size, by rw [← hrw], by omega, HM.out.frm hFw (by simp; omega), ⟨by omega, by omega, fun j rw9 hj => by rw [HL.out]; exact (HROW.out j rw9 hj).1⟩, (HT.out.frm hFw (by simp; omega) (by simp; omega)).mono (by omega), (HF3.out.trans HF.out (by simp; omega)).trans hFw (by simp)⟩

end Go.Proofs.YtikpcipkkhmcfaaGreat
